/- What the law of the header draws: plain facts, Mod, rows of bytes. Conditions: sizes. -/
import Derived.Test.YtodaabofpkafjaaGreatJHdrY
import Derived.Test.YtodaabofpkafjaaGreatJPutF
import Derived.ArgAppend
import Derived.Test.YtodaabofpkafjaaGreatJCrcW
namespace Go.Proofs.YtodaabofpkafjaaGreat
open Go.RowKit
set_option linter.unusedVariables false
set_option linter.unusedSimpArgs false

theorem beB_in : ∀ (k v : Nat), ∀ x ∈ beB k v, 0 ≤ x ∧ x ≤ 255
  | 0, v, x, h => by cases h
  | k + 1, v, x, h => by
    rcases List.mem_cons.1 h with rfl | h
    · omega
    · exact beB_in k v x h
theorem headTo_in (es : List Ev) : ∀ k, ∀ x ∈ headTo es k, 0 ≤ x ∧ x ≤ 255
  | 0, x, h => by
    simp only [headTo, List.mem_append] at h
    rcases h with ((h | h) | h) | h
    · simp at h; omega
    · exact beB_in _ _ x h
    · exact beB_in _ _ x h
    · exact beB_in _ _ x h
  | k + 1, x, h => by
    simp only [headTo, List.mem_append] at h
    rcases h with (h | h) | h
    · exact headTo_in es k x h
    · exact beB_in _ _ x h
    · exact beB_in _ _ x h
theorem encX_ge (es : List Ev) : 124 ≤ (encX es).length := by
  unfold encX
  rw [List.length_append, List.length_append, headTo_len, beB_len]
  omega
theorem encX_le {es : List Ev} (hs : ∀ e ∈ es, EvE e) (hl : es.length ≤ 40) : (encX es).length ≤ 8900124 := by
  unfold encX
  have := bodyTo_len hs hl (k := 12) (by decide)
  rw [List.length_append, List.length_append, headTo_len, beB_len]
  omega
theorem encX_in (es : List Ev) : InH (encX es) := by
  intro x hx
  unfold encX at hx
  rw [List.take_append_of_le_length (by rw [List.length_append, headTo_len, beB_len]; omega)] at hx
  have h := List.mem_of_mem_take hx
  rw [List.mem_append] at h
  rcases h with h | h
  · exact headTo_in es 12 x h
  · exact beB_in _ _ x h
theorem InH.of {bs : List Int} (h : ∀ x ∈ bs, 0 ≤ x ∧ x ≤ 255) : InH bs := fun x hx => h x (List.mem_of_mem_take hx)
theorem InH.take {bs : List Int} (h : InH bs) (k : Nat) : InH (bs.take k) := fun x hx => by
  rw [List.take_take, Nat.min_comm, ← List.take_take] at hx
  exact h x (List.mem_of_mem_take hx)
theorem InH.set_ {bs : List Int} (h : InH bs) (i : Nat) {v : Int} (hv : 0 ≤ v ∧ v ≤ 255) : InH (bs.set i v) := fun x hx => by
  rw [List.take_set] at hx
  rcases List.mem_or_eq_of_mem_set hx with h1 | h1
  · exact h x h1
  · rw [h1]; exact hv
theorem InH.snoc {bs : List Int} (h : InH bs) (hl : 124 ≤ bs.length) (v : Int) : InH (bs ++ [v]) := fun x hx => by
  rw [List.take_append_of_le_length hl] at hx
  exact h x hx
theorem own_setH {w : World} {base e g n c j : Nat} {xs : List Value} {u : Value} (h : w.ownsRow base e 1 (.slice (some ⟨g, 0, none⟩) n c) n xs) (hj : j < n) : (w.setCell ⟨g, j, none⟩ u).ownsRow base e 1 (.slice (some ⟨g, 0, none⟩) n c) n (xs.set j u) := by
  obtain ⟨hl, h2⟩ := h
  refine ⟨by simpa using hl, ?_⟩
  rcases h2 with ⟨h3, _⟩ | ⟨g', cap, cur, h3, h4, h5, h6, h7, h8, h9⟩
  · cases h3
  · injection h3 with e1 e2 e3
    injection e1 with e1
    injection e1 with e1
    subst e1 e3
    refine .inr ⟨g, c, cur.setIfInBounds j u, rfl, h4, ?_, h6, h7, by simpa using h8, ?_⟩
    · simp [World.setCell, Array.getElem?_modify, h5]
    · rw [Array.toList_setIfInBounds, List.take_set, h9]
theorem own_cellsH {w : World} {base e g n c j : Nat} {xs : List Value} (h : w.ownsRow base e 1 (.slice (some ⟨g, 0, none⟩) n c) n xs) (hj : j < n) : w.cell? ⟨g, j, none⟩ = xs[j]? ∧ w.frozen? ⟨g, j, none⟩ = false := by
  obtain ⟨hl, h2⟩ := h
  rcases h2 with ⟨h3, _⟩ | ⟨g', cap, cur, h3, h4, h5, h6, h7, h8, h9⟩
  · cases h3
  · injection h3 with e1 e2 e3
    injection e1 with e1
    injection e1 with e1
    subst e1 e3
    have hB : Blk w g e cur := h5
    refine ⟨?_, hB.frozen j⟩
    rw [hB.cell j, ← h9, List.getElem?_take_of_lt (by omega), Array.getElem?_toList]
theorem xor_in (a b : Int) : 0 ≤ bits .xor .u8 a b ∧ bits .xor .u8 a b ≤ 255 := by
  show 0 ≤ IntKind.u8.wrap ((BitVec.ofInt 8 a ^^^ BitVec.ofInt 8 b).toNat : Int) ∧ IntKind.u8.wrap ((BitVec.ofInt 8 a ^^^ BitVec.ofInt 8 b).toNat : Int) ≤ 255
  rw [IntKind.wrap_u8]; omega
theorem rd_cells {S : Nat → Prop} {w : World} {b off : Nat} {xs : List Value} (h : Rd S w (some ⟨b, off, none⟩) xs) : ∀ j u, xs[j]? = some u → w.cell? ((⟨b, off, none⟩ : Addr).add j) = some u := by
  intro j u hu
  have hlen : 0 < xs.length := by
    rcases Nat.eq_zero_or_pos xs.length with h0 | h0
    · rw [List.eq_nil_of_length_eq_zero h0] at hu; simp at hu
    · exact h0
  obtain ⟨b', off', e, _, _, hc⟩ := h hlen
  injection e with e
  injection e with e1 e2
  subst e1 e2
  have hadd : (⟨b, off, none⟩ : Addr).add j = ⟨b, off + j, none⟩ := by unfold Addr.add; split <;> simp_all
  rw [hadd]; exact hc j u hu
/-- append of one element onto a slice without room: a new row -/
theorem wpList_appendG {P : Program} {ops : Array Oper} {rest : List Oper} {o : Oper} {a : Act} {w : World} {Q : Exit → Act → World → Prop} (hgd : o.guard = none) (s x : Operand) (t : TypeId)
    (ho : o.op = .call { callee := .builtin .append, args := #[s, x], argTypes := #[t, t] })
    {e : TypeId} {z : Value} {size bytes : Nat} (ht : P.underlying t = some (.slice e)) (hi : (P.info? e).map (fun i => (i.zero, i.size, i.bytes)) = some (some z, size, bytes)) (hzs : z.cells.size = size) (hsz : 0 < size)
    {b : Addr} {n : Nat} {olds : List Value} (hs : a.eval s = .slice (some b) n n) (hlo : olds.length = n * size) (holds : ∀ j u, olds[j]? = some u → w.cell? (b.add j) = some u)
    {a2 : Addr} {m c : Nat} {news : List Value} (hx : a.eval x = .slice (some a2) m c) (hl : news.length = m * size) (hnews : ∀ j u, news[j]? = some u → w.cell? (a2.add j) = some u)
    (hb : bytes ≤ 1000) (hm : 0 < m) (hn : n + m ≤ 10000000)
    (h : ∀ v' w', w'.ownsRow w.heap.size e size v' (n + m) (olds ++ news) → w.grownBy w' none → wpList P ops Q rest (a.put o.dst v') w') : wpList P ops Q (o :: rest) a w :=
  wpList_plain hgd fun K hK => by
    obtain ⟨i0, hi0, hz0, hz1, hz2⟩ := info_parts hi
    obtain ⟨v', w', hrun, h2, h3⟩ := run_append_arg_grows (P := P) w t o.type e i0 z size bytes ht hi0 hz0 hz1 hz2 hzs hsz b n n olds hlo holds a2 m c news hl hnews (by omega) (by unfold maxLen; omega) (by
      have : (n + m) * bytes ≤ 10000000 * 1000 := Nat.mul_le_mul hn hb
      omega)
    unfold Oper.wp execOp
    simp only [ho, resolve, invoke, builtin, Sem.run_bind, Sem.run_pure, Result.andThen_ok, List.map_toArray, List.map_cons, List.map_nil, hs, hx, hrun]
    exact hK _ _ (h v' w' h2 h3)
/-- the number of Mod -/
def modV (x : Int) (n : Nat) : Nat := ((x.tmod (n : Int) + (n : Int)).tmod (n : Int)).toNat
theorem modV_lt (x : Int) {n : Nat} (h0 : 0 < n) : modV x n < n := by
  unfold modV
  have b := Int.tmod_lt_of_pos (x.tmod (n : Int) + (n : Int)) (show (0 : Int) < n by omega)
  omega
set_option maxHeartbeats 1000000 in
theorem mod_is (x : Int) (n : Nat) (w : World) (h0 : 0 < n) (hn : n ≤ 10000000) :
    Calls Tryz.prog 14 #[.int .i64 x, .int .i64 n] w (SameW (.int .i64 (modV x n : Nat)) w) := by
  obtain ⟨t, ht⟩ : ∃ t, x.tmod (n : Int) = t := ⟨_, rfl⟩
  have h1 : -(n : Int) < t ∧ t < n := by
    rw [← ht]
    have a := Int.lt_tmod_of_pos x (show (0 : Int) < n by omega)
    have b := Int.tmod_lt_of_pos x (show (0 : Int) < n by omega)
    omega
  obtain ⟨m, hm0⟩ : ∃ m, m = modV x n := ⟨_, rfl⟩
  have hm : (t + (n : Int)).tmod (n : Int) = (m : Int) := by
    rw [hm0]; unfold modV; rw [ht]
    have := Int.tmod_nonneg (n : Int) (show 0 ≤ t + (n : Int) by omega)
    omega
  have hmn : m < n := by
    have b := Int.tmod_lt_of_pos (t + (n : Int)) (show (0 : Int) < n by omega)
    rw [hm] at b; omega
  obtain ⟨h2, h3⟩ := h1
  have htw : wrap64 t = t := IntWalk.wrap64_in _ (by omega)
  have htw2 : IntKind.i64.wrap t = t := IntWalk.i64_in _ (by omega)
  have hmw : wrap64 (m : Int) = (m : Int) := IntWalk.wrap64_in _ (by omega)
  have hmw2 : IntKind.i64.wrap (m : Int) = (m : Int) := IntWalk.i64_in _ (by omega)
  have hs : wrap64 (t + (n : Int)) = t + (n : Int) := IntWalk.wrap64_in _ (by omega)
  have d1 : decide ((n : Int) < 1) = false := decide_eq_false (by omega)
  have hn0 : ((n : Int) == 0) = false := by rw [beq_eq_false_iff_ne]; omega
  have hn1 : ¬ (n : Int) = 0 := by omega
  have hn2 : ¬ n = 0 := by omega
  have HM := Lib.hid hm0
  clear hm0
  go_enter Tryz.func14, Tryz.ntmps14
  go_wp2_with fail
  go_ret
  exact ⟨by rw [← HM.out]; rfl, rfl⟩
/-- a row of bytes as the law's list holds it -/
def BRH (W : World) (v : Value) : Prop := ∃ A bs c, v = .slice A (List.length bs) c ∧ Rd (fun _ => True) W A (bs.map (.int .u8)) ∧ bs.length ≤ c ∧ c ≤ 9223372036854775807 ∧ bs.length ≤ 9000000 ∧ InH bs
theorem BRH.gr {W W' : World} {v : Value} (h : BRH W v) (hg : W.grownBy W' none) : BRH W' v := by
  obtain ⟨A, bs, c, h1, h2, h3⟩ := h
  exact ⟨A, bs, c, h1, h2.grown hg (by simp), h3⟩
end Go.Proofs.YtodaabofpkafjaaGreat

namespace Go.Proofs.YtodaabofpkafjaaGreat
open Go.RowKit
set_option linter.unusedVariables false
set_option linter.unusedSimpArgs false


set_option maxHeartbeats 1000000 in
theorem samebytes_any {S S' : Nat → Prop} (A B : Option Addr) (a b : List Int) (c d : Nat) (w : World) (ha : Rd S w A (a.map (.int .u8))) (hb : Rd S' w B (b.map (.int .u8))) (hl : a.length ≤ 10000000) (hl2 : b.length ≤ 10000000) (v : Bool) (hv : v = true ↔ a = b) :
    Calls Tryz.prog 23 #[.slice A a.length c, .slice B b.length d] w (Quiet (.bool v) w) := by
  have HA := Lib.hid ha
  have HB := Lib.hid hb
  have HV := Lib.hid hv
  clear ha hb hv
  by_cases hlen : a.length = b.length
  · have t1 : ((a.length : Int) != (b.length : Int)) = false := by simp [hlen]
    have HLEN := Lib.hid hlen
    have hle1 : a.length ≤ b.length := by omega
    have hle2 : b.length ≤ a.length := by omega
    clear hlen
    go_enter Tryz.func23, Tryz.ntmps23
    go_wp2
    go_loopw [5] (fun i wr => ∃ k : Nat, k ≤ a.length ∧ i = .int .i64 k ∧ (∀ i, i < k → a[i]? = b[i]?) ∧ ∃ q, wr = w.drewN q) (fun i _ => a.length - (intOf i).toNat)
    case atStart => exact ⟨0, Nat.zero_le _, rfl, fun i hi => absurd hi (by omega), 0, rfl⟩
    case round =>
      obtain ⟨k, hk, rfl, hall, q, rfl⟩ := hrel
      have AL := Lib.hid hall
      clear hall
      by_cases hlt : k < a.length
      · obtain ⟨b1, o1, x, rfl, hc1, hx⟩ := HA.out.i_at hlt
        obtain ⟨b2, o2, y, rfl, hc2, hy⟩ := HB.out.i_at (k := k) (by omega)
        have i1 : (k : Int) < (a.length : Int) := by omega
        have i2 : (k : Int) < (b.length : Int) := by omega
        by_cases hxy : x = y
        · have t2 : (x != y) = false := by simp [hxy]
          have HXY := Lib.hid hxy
          clear hxy
          go_wp2
          go_quiet (fail)
          go_wp2
          go_roundw
          case rel =>
            refine ⟨k + 1, by omega, by go_num, fun i hi => ?_, _, rfl⟩
            rcases Nat.lt_or_ge i k with h | h
            · exact AL.out i h
            · obtain rfl : i = k := by omega
              rw [hx.out, hy.out, HXY.out]
          case measure => simp [intOf]; omega
        · have t2 : (x != y) = true := by simp [hxy]
          have hne : v = false := by
            cases hv : v with
            | false => rfl
            | true =>
              have := HV.out.1 hv
              rw [this] at hx
              rw [hx.out] at hy
              have := hy.out
              injection this with this
              exact absurd this hxy
          have HNE := Lib.hid hne
          clear hxy hne
          go_wp2
          go_quiet (fail)
          go_wp2
          go_ret
          exact ⟨by rw [HNE.out]; rfl, _, World.drewN_drewN _ _ _⟩
      · have hv1 : v = true := HV.out.2 (take_eq_all HLEN.out (fun i hi => AL.out i (by omega)))
        have HV1 := Lib.hid hv1
        clear hv1
        go_wp2
        go_ret
        exact ⟨by rw [HV1.out]; rfl, _, rfl⟩
  · have t1 : ((a.length : Int) != (b.length : Int)) = true := by simp; omega
    have hne : v = false := by
      cases hv : v with
      | false => rfl
      | true => exact absurd (congrArg List.length (HV.out.1 hv)) hlen
    have HNE := Lib.hid hne
    clear hlen hne
    go_enter Tryz.func23, Tryz.ntmps23
    go_wp2
    go_ret
    exact ⟨by rw [HNE.out]; rfl, 0, rfl⟩
end Go.Proofs.YtodaabofpkafjaaGreat

namespace Go.Proofs.YtodaabofpkafjaaGreat
open Go.RowKit
set_option linter.unusedVariables false
set_option linter.unusedSimpArgs false


set_option maxHeartbeats 1000000 in
theorem sameints_any {S S' : Nat → Prop} (A B : Option Addr) (a b : List Int) (c d : Nat) (w : World) (ha : Rd S w A (a.map (.int .i64))) (hb : Rd S' w B (b.map (.int .i64))) (hl : a.length ≤ 10000000) (hl2 : b.length ≤ 10000000) (v : Bool) (hv : v = true ↔ a = b) :
    Calls Tryz.prog 20 #[.slice A a.length c, .slice B b.length d] w (Quiet (.bool v) w) := by
  have HA := Lib.hid ha
  have HB := Lib.hid hb
  have HV := Lib.hid hv
  clear ha hb hv
  by_cases hlen : a.length = b.length
  · have t1 : ((a.length : Int) != (b.length : Int)) = false := by simp [hlen]
    have HLEN := Lib.hid hlen
    have hle1 : a.length ≤ b.length := by omega
    have hle2 : b.length ≤ a.length := by omega
    clear hlen
    go_enter Tryz.func20, Tryz.ntmps20
    go_wp2
    go_loopw [5] (fun i wr => ∃ k : Nat, k ≤ a.length ∧ i = .int .i64 k ∧ (∀ i, i < k → a[i]? = b[i]?) ∧ ∃ q, wr = w.drewN q) (fun i _ => a.length - (intOf i).toNat)
    case atStart => exact ⟨0, Nat.zero_le _, rfl, fun i hi => absurd hi (by omega), 0, rfl⟩
    case round =>
      obtain ⟨k, hk, rfl, hall, q, rfl⟩ := hrel
      have AL := Lib.hid hall
      clear hall
      by_cases hlt : k < a.length
      · obtain ⟨b1, o1, x, rfl, hc1, hx⟩ := HA.out.i_at hlt
        obtain ⟨b2, o2, y, rfl, hc2, hy⟩ := HB.out.i_at (k := k) (by omega)
        have i1 : (k : Int) < (a.length : Int) := by omega
        have i2 : (k : Int) < (b.length : Int) := by omega
        by_cases hxy : x = y
        · have t2 : (x != y) = false := by simp [hxy]
          have HXY := Lib.hid hxy
          clear hxy
          go_wp2
          go_quiet (fail)
          go_wp2
          go_roundw
          case rel =>
            refine ⟨k + 1, by omega, by go_num, fun i hi => ?_, _, rfl⟩
            rcases Nat.lt_or_ge i k with h | h
            · exact AL.out i h
            · obtain rfl : i = k := by omega
              rw [hx.out, hy.out, HXY.out]
          case measure => simp [intOf]; omega
        · have t2 : (x != y) = true := by simp [hxy]
          have hne : v = false := by
            cases hv : v with
            | false => rfl
            | true =>
              have := HV.out.1 hv
              rw [this] at hx
              rw [hx.out] at hy
              have := hy.out
              injection this with this
              exact absurd this hxy
          have HNE := Lib.hid hne
          clear hxy hne
          go_wp2
          go_quiet (fail)
          go_wp2
          go_ret
          exact ⟨by rw [HNE.out]; rfl, _, World.drewN_drewN _ _ _⟩
      · have hv1 : v = true := HV.out.2 (take_eq_all HLEN.out (fun i hi => AL.out i (by omega)))
        have HV1 := Lib.hid hv1
        clear hv1
        go_wp2
        go_ret
        exact ⟨by rw [HV1.out]; rfl, _, rfl⟩
  · have t1 : ((a.length : Int) != (b.length : Int)) = true := by simp; omega
    have hne : v = false := by
      cases hv : v with
      | false => rfl
      | true => exact absurd (congrArg List.length (HV.out.1 hv)) hlen
    have HNE := Lib.hid hne
    clear hlen hne
    go_enter Tryz.func20, Tryz.ntmps20
    go_wp2
    go_ret
    exact ⟨by rw [HNE.out]; rfl, 0, rfl⟩
end Go.Proofs.YtodaabofpkafjaaGreat
