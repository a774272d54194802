/- What the law of the header draws: plain facts, Mod, rows of bytes. Conditions: sizes. -/
import Derived.Test.YtpaiideboodaeaaGreatDoorJHdrQ
import Derived.Test.YtpaiideboodaeaaGreatDoorJEnc27
import Derived.ArgAppend
import Derived.Test.YtpaiideboodaeaaGreatDoorJFilB
import Derived.Test.YtpaiideboodaeaaGreatDoorJIdxP
import Derived.Test.YtpaiideboodaeaaGreatDoorJEncO
namespace Go.Proofs.YtpaiideboodaeaaGreatDoor
open Go.RowKit
set_option linter.unusedVariables false
set_option linter.unusedSimpArgs false

theorem beB_in : ∀ (k v : Nat), ∀ x ∈ beB k v, 0 ≤ x ∧ x ≤ 255
  | 0, v, x, h => by cases h
  | k + 1, v, x, h => by
    rcases List.mem_cons.1 h with rfl | h
    · omega
    · exact beB_in k v x h
theorem headTo_in (es : List Ev) : ∀ k, ∀ x ∈ headTo es k, 0 ≤ x ∧ x ≤ 255
  | 0, x, h => by
    simp only [headTo, List.mem_append] at h
    rcases h with ((h | h) | h) | h
    · simp at h; omega
    · exact beB_in _ _ x h
    · exact beB_in _ _ x h
    · exact beB_in _ _ x h
  | k + 1, x, h => by
    simp only [headTo, List.mem_append] at h
    rcases h with (h | h) | h
    · exact headTo_in es k x h
    · exact beB_in _ _ x h
    · exact beB_in _ _ x h
theorem encX_ge (es : List Ev) : 124 ≤ (encX es).length := by
  unfold encX
  rw [List.length_append, List.length_append, headTo_len, beB_len]
  omega
theorem encX_le {es : List Ev} (hs : ∀ e ∈ es, EvE e) (hl : es.length ≤ 40) : (encX es).length ≤ 8900124 := by
  unfold encX
  have := bodyTo_len hs hl (k := 12) (by decide)
  rw [List.length_append, List.length_append, headTo_len, beB_len]
  omega
theorem encX_in (es : List Ev) : InH (encX es) := by
  intro x hx
  unfold encX at hx
  rw [List.take_append_of_le_length (by rw [List.length_append, headTo_len, beB_len]; omega)] at hx
  have h := List.mem_of_mem_take hx
  rw [List.mem_append] at h
  rcases h with h | h
  · exact headTo_in es 12 x h
  · exact beB_in _ _ x h
theorem InH.of {bs : List Int} (h : ∀ x ∈ bs, 0 ≤ x ∧ x ≤ 255) : InH bs := fun x hx => h x (List.mem_of_mem_take hx)
theorem InH.take {bs : List Int} (h : InH bs) (k : Nat) : InH (bs.take k) := fun x hx => by
  rw [List.take_take, Nat.min_comm, ← List.take_take] at hx
  exact h x (List.mem_of_mem_take hx)
theorem InH.set_ {bs : List Int} (h : InH bs) (i : Nat) {v : Int} (hv : 0 ≤ v ∧ v ≤ 255) : InH (bs.set i v) := fun x hx => by
  rw [List.take_set] at hx
  rcases List.mem_or_eq_of_mem_set hx with h1 | h1
  · exact h x h1
  · rw [h1]; exact hv
theorem InH.snoc {bs : List Int} (h : InH bs) (hl : 124 ≤ bs.length) (v : Int) : InH (bs ++ [v]) := fun x hx => by
  rw [List.take_append_of_le_length hl] at hx
  exact h x hx
theorem own_setH {w : World} {base e g n c j : Nat} {xs : List Value} {u : Value} (h : w.ownsRow base e 1 (.slice (some ⟨g, 0, none⟩) n c) n xs) (hj : j < n) : (w.setCell ⟨g, j, none⟩ u).ownsRow base e 1 (.slice (some ⟨g, 0, none⟩) n c) n (xs.set j u) := by
  obtain ⟨hl, h2⟩ := h
  refine ⟨by simpa using hl, ?_⟩
  rcases h2 with ⟨h3, _⟩ | ⟨g', cap, cur, h3, h4, h5, h6, h7, h8, h9⟩
  · cases h3
  · injection h3 with e1 e2 e3
    injection e1 with e1
    injection e1 with e1
    subst e1 e3
    refine .inr ⟨g, c, cur.setIfInBounds j u, rfl, h4, ?_, h6, h7, by simpa using h8, ?_⟩
    · simp [World.setCell, Array.getElem?_modify, h5]
    · rw [Array.toList_setIfInBounds, List.take_set, h9]
theorem own_cellsH {w : World} {base e g n c j : Nat} {xs : List Value} (h : w.ownsRow base e 1 (.slice (some ⟨g, 0, none⟩) n c) n xs) (hj : j < n) : w.cell? ⟨g, j, none⟩ = xs[j]? ∧ w.frozen? ⟨g, j, none⟩ = false := by
  obtain ⟨hl, h2⟩ := h
  rcases h2 with ⟨h3, _⟩ | ⟨g', cap, cur, h3, h4, h5, h6, h7, h8, h9⟩
  · cases h3
  · injection h3 with e1 e2 e3
    injection e1 with e1
    injection e1 with e1
    subst e1 e3
    have hB : Blk w g e cur := h5
    refine ⟨?_, hB.frozen j⟩
    rw [hB.cell j, ← h9, List.getElem?_take_of_lt (by omega), Array.getElem?_toList]
theorem xor_in (a b : Int) : 0 ≤ bits .xor .u8 a b ∧ bits .xor .u8 a b ≤ 255 := by
  show 0 ≤ IntKind.u8.wrap ((BitVec.ofInt 8 a ^^^ BitVec.ofInt 8 b).toNat : Int) ∧ IntKind.u8.wrap ((BitVec.ofInt 8 a ^^^ BitVec.ofInt 8 b).toNat : Int) ≤ 255
  rw [IntKind.wrap_u8]; omega
theorem rd_cells {S : Nat → Prop} {w : World} {b off : Nat} {xs : List Value} (h : Rd S w (some ⟨b, off, none⟩) xs) : ∀ j u, xs[j]? = some u → w.cell? ((⟨b, off, none⟩ : Addr).add j) = some u := by
  intro j u hu
  have hlen : 0 < xs.length := by
    rcases Nat.eq_zero_or_pos xs.length with h0 | h0
    · rw [List.eq_nil_of_length_eq_zero h0] at hu; simp at hu
    · exact h0
  obtain ⟨b', off', e, _, _, hc⟩ := h hlen
  injection e with e
  injection e with e1 e2
  subst e1 e2
  have hadd : (⟨b, off, none⟩ : Addr).add j = ⟨b, off + j, none⟩ := by unfold Addr.add; split <;> simp_all
  rw [hadd]; exact hc j u hu
/-- append of one element onto a slice without room: a new row -/
theorem wpList_appendG {P : Program} {ops : Array Oper} {rest : List Oper} {o : Oper} {a : Act} {w : World} {Q : Exit → Act → World → Prop} (hgd : o.guard = none) (s x : Operand) (t : TypeId)
    (ho : o.op = .call { callee := .builtin .append, args := #[s, x], argTypes := #[t, t] })
    {e : TypeId} {z : Value} {size bytes : Nat} (ht : P.underlying t = some (.slice e)) (hi : (P.info? e).map (fun i => (i.zero, i.size, i.bytes)) = some (some z, size, bytes)) (hzs : z.cells.size = size) (hsz : 0 < size)
    {b : Addr} {n : Nat} {olds : List Value} (hs : a.eval s = .slice (some b) n n) (hlo : olds.length = n * size) (holds : ∀ j u, olds[j]? = some u → w.cell? (b.add j) = some u)
    {a2 : Addr} {m c : Nat} {news : List Value} (hx : a.eval x = .slice (some a2) m c) (hl : news.length = m * size) (hnews : ∀ j u, news[j]? = some u → w.cell? (a2.add j) = some u)
    (hb : bytes ≤ 1000) (hm : 0 < m) (hn : n + m ≤ 10000000)
    (h : ∀ v' w', w'.ownsRow w.heap.size e size v' (n + m) (olds ++ news) → w.grownBy w' none → wpList P ops Q rest (a.put o.dst v') w') : wpList P ops Q (o :: rest) a w :=
  wpList_plain hgd fun K hK => by
    obtain ⟨i0, hi0, hz0, hz1, hz2⟩ := info_parts hi
    obtain ⟨v', w', hrun, h2, h3⟩ := run_append_arg_grows (P := P) w t o.type e i0 z size bytes ht hi0 hz0 hz1 hz2 hzs hsz b n n olds hlo holds a2 m c news hl hnews (by omega) (by unfold maxLen; omega) (by
      have : (n + m) * bytes ≤ 10000000 * 1000 := Nat.mul_le_mul hn hb
      omega)
    unfold Oper.wp execOp
    simp only [ho, resolve, invoke, builtin, Sem.run_bind, Sem.run_pure, Result.andThen_ok, List.map_toArray, List.map_cons, List.map_nil, hs, hx, hrun]
    exact hK _ _ (h v' w' h2 h3)
/-- the number of Mod -/
def modV (x : Int) (n : Nat) : Nat := ((x.tmod (n : Int) + (n : Int)).tmod (n : Int)).toNat
theorem modV_lt (x : Int) {n : Nat} (h0 : 0 < n) : modV x n < n := by
  unfold modV
  have b := Int.tmod_lt_of_pos (x.tmod (n : Int) + (n : Int)) (show (0 : Int) < n by omega)
  omega
set_option maxHeartbeats 1000000 in
theorem mod_is (x : Int) (n : Nat) (w : World) (h0 : 0 < n) (hn : n ≤ 10000000) :
    Calls Tryz.prog 14 #[.int .i64 x, .int .i64 n] w (SameW (.int .i64 (modV x n : Nat)) w) := by
  obtain ⟨t, ht⟩ : ∃ t, x.tmod (n : Int) = t := ⟨_, rfl⟩
  have h1 : -(n : Int) < t ∧ t < n := by
    rw [← ht]
    have a := Int.lt_tmod_of_pos x (show (0 : Int) < n by omega)
    have b := Int.tmod_lt_of_pos x (show (0 : Int) < n by omega)
    omega
  obtain ⟨m, hm0⟩ : ∃ m, m = modV x n := ⟨_, rfl⟩
  have hm : (t + (n : Int)).tmod (n : Int) = (m : Int) := by
    rw [hm0]; unfold modV; rw [ht]
    have := Int.tmod_nonneg (n : Int) (show 0 ≤ t + (n : Int) by omega)
    omega
  have hmn : m < n := by
    have b := Int.tmod_lt_of_pos (t + (n : Int)) (show (0 : Int) < n by omega)
    rw [hm] at b; omega
  obtain ⟨h2, h3⟩ := h1
  have htw : wrap64 t = t := IntWalk.wrap64_in _ (by omega)
  have htw2 : IntKind.i64.wrap t = t := IntWalk.i64_in _ (by omega)
  have hmw : wrap64 (m : Int) = (m : Int) := IntWalk.wrap64_in _ (by omega)
  have hmw2 : IntKind.i64.wrap (m : Int) = (m : Int) := IntWalk.i64_in _ (by omega)
  have hs : wrap64 (t + (n : Int)) = t + (n : Int) := IntWalk.wrap64_in _ (by omega)
  have d1 : decide ((n : Int) < 1) = false := decide_eq_false (by omega)
  have hn0 : ((n : Int) == 0) = false := by rw [beq_eq_false_iff_ne]; omega
  have hn1 : ¬ (n : Int) = 0 := by omega
  have hn2 : ¬ n = 0 := by omega
  have HM := Lib.hid hm0
  clear hm0
  go_enter Tryz.func14, Tryz.ntmps14
  go_wp2_with fail
  go_ret
  exact ⟨by rw [← HM.out]; rfl, rfl⟩
/-- a row of bytes as the law's list holds it -/
def BRH (W : World) (v : Value) : Prop := ∃ A bs c, v = .slice A (List.length bs) c ∧ Rd (fun _ => True) W A (bs.map (.int .u8)) ∧ bs.length ≤ c ∧ c ≤ 9223372036854775807 ∧ bs.length ≤ 9000000 ∧ InH bs
theorem BRH.gr {W W' : World} {v : Value} (h : BRH W v) (hg : W.grownBy W' none) : BRH W' v := by
  obtain ⟨A, bs, c, h1, h2, h3⟩ := h
  exact ⟨A, bs, c, h1, h2.grown hg (by simp), h3⟩
end Go.Proofs.YtpaiideboodaeaaGreatDoor

namespace Go.Proofs.YtpaiideboodaeaaGreatDoor
open Go.RowKit
set_option linter.unusedVariables false
set_option linter.unusedSimpArgs false

theorem fil_size {m n : Nat} (hn : n ≤ 1024) (hl : m = 3 + 8 * n) : ((m : Int) != wrap64 (3 + wrap64 (8 * bits BinOp.or IntKind.i64 ((n : Int) / 256 * 256) ((n : Int) % 256)))) = false := by
  have ho : n / 256 * 256 ||| n % 256 = n := by
    have h := Nat.shiftLeft_add_eq_or_of_lt (i := 8) (show n % 256 < 2 ^ 8 by omega) (n / 256)
    rw [Nat.shiftLeft_eq, show (2 : Nat) ^ 8 = 256 from rfl] at h
    omega
  have e1 : bits BinOp.or IntKind.i64 ((n : Int) / 256 * 256) ((n : Int) % 256) = (n : Int) := by
    have h := or_i64 (n / 256 * 256) (n % 256) (by omega) (by omega)
    rw [ho] at h
    exact h
  rw [e1]
  have e2 : wrap64 (8 * (n : Int)) = 8 * (n : Int) := by unfold wrap64; omega
  have e3 : wrap64 (3 + 8 * (n : Int)) = 3 + 8 * (n : Int) := by unfold wrap64; omega
  rw [e2, e3]
  simp
  omega
def FDecP (w : World) (n : Nat) (e : Ending) (w' : World) : Prop := ∃ B c', e = .returned (.tuple #[.agg #[.int .i64 3, .slice B n c'], .int .i64 0]) ∧ w.grownBy w' none
set_option maxHeartbeats 8000000 in
set_option maxRecDepth 100000 in
theorem fdecode_any {S : Nat → Prop} (A : Option Addr) (bs : List Int) (n c : Nat) (w : World) (hr : Rd S w A (bs.map (.int .u8))) (hn : 1 ≤ n) (hn2 : n ≤ 1024) (hl : bs.length = 3 + 8 * n) (h0 : bs[0]? = some 3) (h1 : bs[1]? = some ((n / 256 : Nat) : Int)) (h2 : bs[2]? = some ((n % 256 : Nat) : Int)) :
    Calls Tryz.prog 11 #[.slice A bs.length c] w (FDecP w n) := by
  obtain ⟨b, o, rfl, hS, hlt, hc⟩ := hr (by rw [List.length_map]; omega)
  have c0 := hc 0 (.int .u8 3) (by rw [List.getElem?_map, h0]; rfl)
  have c1 := hc 1 (.int .u8 ((n / 256 : Nat) : Int)) (by rw [List.getElem?_map, h1]; rfl)
  have c2 := hc 2 (.int .u8 ((n % 256 : Nat) : Int)) (by rw [List.getElem?_map, h2]; rfl)
  have HR := Lib.hid (hr.mono (S' := (· < w.heap.size)) (fun b _ h => h))
  have HL := Lib.hid hl
  simp only [Nat.add_zero] at c0
  clear hr hc h0 h1 h2 hl
  go_enter Tryz.func11, Tryz.ntmps11
  have i1 : decide ((bs.length : Int) < 3) = false := by have := HL.out; simp; omega
  have i2 : (1 : Int) < (bs.length : Int) := by have := HL.out; omega
  have i3 : (2 : Int) < (bs.length : Int) := by have := HL.out; omega
  have i4 : (0 : Int) < (bs.length : Int) := by have := HL.out; omega
  go_wp2_with fail
  have i5 := fil_size hn2 HL.out
  go_quiet (fail)
  clear i5
  go_wp2_with fail
  obtain ⟨W3, hW3⟩ : ∃ W, W = (((w.alloc (.cells #[.int .i64 0, .slice none 0 0] 36)).drewN nq).alloc (.cells #[.int .i64 3, .slice none 0 0] 36)) := ⟨_, rfl⟩
  have hb1 : Blk W3 w.heap.size 36 #[.int .i64 0, .slice none 0 0] := by rw [hW3]; exact ((Blk.new w _ _).drewN nq).alloc _
  have hb2 : Blk W3 (w.heap.size + 1) 36 #[.int .i64 3, .slice none 0 0] := by
    rw [hW3]
    have h := Blk.new ((w.alloc (.cells #[.int .i64 0, .slice none 0 0] 36)).drewN nq) 36 #[.int .i64 3, .slice none 0 0]
    rwa [show ((w.alloc (.cells #[.int .i64 0, .slice none 0 0] 36)).drewN nq).heap.size = w.heap.size + 1 from by simp] at h
  have hg : w.grownBy W3 none := by rw [hW3]; exact only_alloc (only_drewN (only_alloc (only_refl _ _) _) nq) _
  have hz : w.heap.size + 2 ≤ W3.heap.size := by rw [hW3]; simp
  obtain ⟨B1, hB1⟩ : ∃ x, x = w.heap.size := ⟨_, rfl⟩
  obtain ⟨B2, hB2⟩ : ∃ x, x = w.heap.size + 1 := ⟨_, rfl⟩
  rw [← hB1] at hb1
  rw [← hB2] at hb2
  have P1 := Lib.hid hb1
  have P2 := Lib.hid hb2
  have G3 := Lib.hid hg
  rw [← hW3, ← hB2, ← hB1]
  clear hW3 hb1 hb2 hg c0 c1 c2 i1 i2 i3 i4
  have HB1 := Lib.hid hB1
  have HB2 := Lib.hid hB2
  clear hB1 hB2
  have hlt2 := hlt
  go_loopw [5] (fun vi wr => ∃ k : Nat, k ≤ n ∧ vi = .int .i64 ((3 + 8 * k : Nat) : Int) ∧ ∃ v xs, Blk wr B1 36 #[.int .i64 0, .slice none 0 0] ∧ Blk wr B2 36 #[.int .i64 3, v] ∧ wr.ownsRow (w.heap.size + 2) 69 1 v k xs ∧ w.grownBy wr none) (fun vi _ => bs.length - (intOf vi).toNat)
  case atStart => exact ⟨0, Nat.zero_le _, rfl, .slice none 0 0, [], P1.out, P2.out, World.ownsRow_nil _ _ _ _, G3.out⟩
  case round =>
    clear P1 P2 G3
    obtain ⟨k, hk, rfl, v, xs, hp1, hp2, ho, hg⟩ := hrel
    have P1 := Lib.hid hp1
    have P2 := Lib.hid hp2
    have O := Lib.hid ho
    have G := Lib.hid hg
    have hzr := hp2.lt
    have hzz : w.heap.size + 2 ≤ wr.heap.size := by have := HB2.out; omega
    obtain ⟨q, hq⟩ : ∃ q, q = 3 + 8 * k := ⟨_, rfl⟩
    have HQ := Lib.hid hq
    rw [← hq]
    have RR := Lib.hid (HR.out.grown hg (by simp))
    obtain ⟨Av, cv, hv, hcv, hmv, -, -⟩ := Rd.of_own ho (by decide)
    subst hv
    have d0 := hp2.cell 0
    have d1 := hp2.cell 1
    have f1 := hp2.frozen 1
    simp at d0 d1
    clear hq hp1 hp2 ho hg
    have hqb : q ≤ 9000 := by have := HQ.out; omega
    by_cases hkn : k < n
    · have i1 : (q : Int) < (bs.length : Int) := by have := HQ.out; have := HL.out; omega
      go_wp2_with fail
      obtain ⟨wo, rfl⟩ : ∃ x, x = wr := ⟨_, rfl⟩
      go_loopw [6, 7] (fun vv vk wr => ∃ m : Nat, m ≤ 8 ∧ vk = .int .i64 ((m : Int) - 1) ∧ (∃ x : Int, vv = .int .u64 x) ∧ wr = wo) (fun _ vk _ => (intOf vk + 1).toNat)
      case atStart => exact ⟨8, by omega, rfl, ⟨0, rfl⟩, rfl⟩
      case round =>
        obtain ⟨m, hm, rfl, ⟨x, rfl⟩, rfl⟩ := hrel
        by_cases hc : 1 ≤ m
        · obtain ⟨j, rfl⟩ : ∃ j, m = j + 1 := ⟨m - 1, by omega⟩
          have hjj : (((j + 1 : Nat) : Int) - 1) = (j : Int) := by omega
          rw [hjj]
          obtain ⟨y, hy⟩ : ∃ y, bs[q + j]? = some y := ⟨_, List.getElem?_eq_getElem (by have := HQ.out; have := HL.out; omega)⟩
          obtain ⟨b', o', e', -, -, hcc⟩ := RR.out (by rw [List.length_map]; have := HL.out; omega)
          injection e' with e'
          injection e' with e1 e2
          subst e1 e2
          have hcy := hcc (q + j) (.int .u8 y) (by rw [List.getElem?_map, hy]; rfl)
          have j1 : (0 : Int) ≤ (j : Int) := by omega
          have j2 : (q : Int) + (j : Int) < (bs.length : Int) := by have := HQ.out; have := HL.out; omega
          have j3 : (0 : Int) ≤ (q : Int) + (j : Int) := by omega
          have j4 : ((q : Int) + (j : Int)).toNat = q + j := by omega
          clear hjj hy hcc
          go_wp2_with fail
          go_roundw
          case rel => exact ⟨j, by omega, rfl, ⟨_, rfl⟩, trivial⟩
          case measure => simp [intOf] <;> omega
        · have hm0 : m = 0 := by omega
          subst hm0
          have HO := Lib.hid (fun (v9 : Value) (w9 : World) (hg9 : wr.grownBy w9 (Value.slice Av k cv).ownBlock) (ho9 : w9.ownsRow (w.heap.size + 2) 69 1 v9 (k + 1) (xs ++ [Value.int .u64 x])) => (show ∃ v xs, Blk (w9.setCell ⟨B2, 1, none⟩ v9) B1 36 #[.int .i64 0, .slice none 0 0] ∧ Blk (w9.setCell ⟨B2, 1, none⟩ v9) B2 36 #[.int .i64 3, v] ∧ (w9.setCell ⟨B2, 1, none⟩ v9).ownsRow (w.heap.size + 2) 69 1 v (k + 1) xs ∧ w.grownBy (w9.setCell ⟨B2, 1, none⟩ v9) none from by
            have hB1 := HB1.out
            have hB2 := HB2.out
            have hset := only_setB w9 (p := ⟨B2, 1, none⟩) v9
            have h1 : Blk w9 B1 36 #[.int .i64 0, .slice none 0 0] := P1.out.grown hg9 (fun e => by have := (World.ownsRow.lt O.out _ e.symm).1; omega)
            have h2 : Blk w9 B2 36 #[.int .i64 3, .slice Av k cv] := P2.out.grown hg9 (fun e => by have := (World.ownsRow.lt O.out _ e.symm).1; omega)
            refine ⟨v9, _, h1.grown hset (by simp; omega), by simpa using h2.set_ 1 v9, own_only ho9 hset (by simp; omega), only_fresh (only_own G.out hg9 O.out (by omega)) hset (by simp; omega)⟩))
          have HFR := Lib.hid (fun (w9 : World) (hg9 : wr.grownBy w9 (Value.slice Av k cv).ownBlock) => (show w9.cell? ⟨B2, 1, none⟩ = some (.slice Av k cv) ∧ w9.frozen? ⟨B2, 1, none⟩ = false from by
            have h2 : Blk w9 B2 36 #[.int .i64 3, .slice Av k cv] := P2.out.grown hg9 (fun e => by have := (World.ownsRow.lt O.out _ e.symm).1; have := HB2.out; omega)
            exact ⟨by simpa using h2.cell 1, h2.frozen 1⟩))
          go_wp2_with (at_builtin; go_must (refine wpList_append1 rfl _ _ 34 rfl (w.heap.size + 2) Tryz.underlying34 u64Info rfl (by decide) (v := .slice Av k cv) (by rfl) (w0 := wr) (cs := #[.int .u64 x]) O.out (by rfl) rfl (by simp [Value.oneCell']) (by decide) (by omega) (by omega) ?_); intro v7 w7 hown7 hg7 hob7; obtain ⟨e0, e1⟩ := HFR.out w7 hg7; obtain ⟨A7, c7, hv7, -, -, -, -⟩ := Rd.of_own hown7 (by decide); subst hv7; have H9 := Lib.hid (HO.out _ w7 hg7 hown7); clear hown7 hg7 hob7)
          go_roundw
          case rel => exact ⟨k + 1, by omega, congrArg (Value.int .i64) (by have := HQ.out; omega), H9.out⟩
          case measure => simp [intOf]; have := HQ.out; have := HL.out; omega
    · have hkE : k = n := by omega
      have i1 : ¬ (q : Int) < (bs.length : Int) := by have := HQ.out; have := HL.out; omega
      have hne : B1 ≠ B2 := by have := HB1.out; have := HB2.out; omega
      have hB1lt : B1 < wr.heap.size := by have := HB1.out; omega
      have KF := Lib.hid (fcheck_any Av n cv hn hn2 wr)
      rw [hkE] at d1
      rw [hkE] at P2 O
      clear hkE hkn
      go_wp2_with fail
      refine KF.out.mono ?_
      rintro e w4 ⟨rfl, hg4⟩
      have q2 := P2.out.grown hg4 (by simp)
      have q1 := P1.out.grown hg4 (by simp)
      have e0 := q2.cell 0
      have e1 := q2.cell 1
      have r0 := q1.cell 0; have r1 := q1.cell 1
      have z0 := q1.frozen 0; have z1 := q1.frozen 1
      simp at e0 e1 r0 r1
      have G4 := Lib.hid (only_trans G.out hg4)
      have Q1 := Lib.hid q1
      have hz4 := hg4.size
      clear d0 d1 f1 q2 hg4 KF
      go_wp2_with fail
      obtain ⟨W9, hW9⟩ : ∃ W9, W9 = (w4.setCell ⟨B1, 0, none⟩ (.int .i64 3)).setCell ⟨B1, 1, none⟩ (.slice Av n cv) := ⟨_, rfl⟩
      have hb9 : Blk W9 B1 36 #[.int .i64 3, .slice Av n cv] := by rw [hW9]; simpa using (q1.set_ 0 (.int .i64 3)).set_ 1 (.slice Av n cv)
      have hg9 : w.grownBy W9 none := by
        rw [hW9]
        exact only_setNew (only_setNew G4.out (p := ⟨B1, 0, none⟩) (by rw [HB1.out]; exact Nat.le_refl _) _) (p := ⟨B1, 1, none⟩) (by rw [HB1.out]; exact Nat.le_refl _) _
      rw [← hW9]
      clear hW9 e0 e1 r0 r1 z0 z1
      have s0 := hb9.cell 0
      have s1 := hb9.cell 1
      simp only [List.size_toArray, List.length_cons, List.length_nil, Nat.zero_add, Nat.reduceAdd, Nat.reduceLT, getElem?_pos, List.getElem_toArray, List.getElem_cons_zero, List.getElem_cons_succ] at s0 s1
      exact bodyPost_ret (v := .tuple #[.agg #[.int .i64 3, .slice Av n cv], .int .i64 0]) (by simp [results, Tryz.results11, go_sem, s0, s1]) rfl ⟨Av, cv, rfl, hg9⟩
end Go.Proofs.YtpaiideboodaeaaGreatDoor

namespace Go.Proofs.YtpaiideboodaeaaGreatDoor
open Go.RowKit
set_option linter.unusedVariables false
set_option linter.unusedSimpArgs false

theorem filX_at (es : List Ev) : (filX es).length = 3 + 8 * sizeF (termsX es).length ∧ (filX es)[0]? = some 3 ∧ (filX es)[1]? = some ((sizeF (termsX es).length / 256 : Nat) : Int) ∧ (filX es)[2]? = some ((sizeF (termsX es).length % 256 : Nat) : Int) := by
  have h := (sizeF_in (termsX es).length).2
  refine ⟨?_, ?_, ?_, ?_⟩
  · unfold filX; rw [encF_len, bitsN_len]
  · unfold filX encF; rfl
  · unfold filX encF
    rw [show sizeF (termsX es).length / 256 % 256 = sizeF (termsX es).length / 256 from by omega]
    rfl
  · unfold filX encF; rfl
set_option maxHeartbeats 8000000 in
set_option maxRecDepth 100000 in
theorem law_fsize (A0 : Option Addr) (l0 : List Int) (d0 : Nat) (w : World) (hK : Kinds w) (h : Rd (fun _ => True) w A0 (l0.map (.int .u8))) (hc : l0.length ≤ d0) (hcm : d0 ≤ maxLen) (hx : ∀ x ∈ l0, 0 ≤ x ∧ x ≤ 255) :
    Calls Tryz.prog 4 #[.slice A0 l0.length d0] w (BoolExt true w) := by
  have KD := Lib.hid (fun (w' : World) (hg : w.grownBy w' none) => draw27_any A0 l0 d0 w' (h.grown hg (by simp)) hc hcm hx)
  have HK := Lib.hid hK
  clear h hc hcm hx hK
  go_enter Tryz.func4, Tryz.ntmps4
  go_wp2_with (go_at_call 6; refine (awake27_any _).mono ?_; rintro e w1 ⟨rfl, hg1⟩)
  refine (KD.out w1 hg1).mono ?_
  rintro e w2 ⟨A3, c3, es, B, dB, g, l, k0, rfl, hel, hec, hcm3, hev, hsr, hgood, hwd, hdm, hown, hob, hcd, hgw, hg2⟩
  have hle := encZ_le hgood (by omega)
  have hS : ∀ e ∈ es, EvS e := fun e he => (hgood e he).s
  have G2 := Lib.hid (only_trans hg1 hg2)
  have KE := pencode27_any A3 es c3 w2 hev (by omega) hgood hsr (HK.out.grown G2.out (by simp))
  have HIN := Lib.hid (encX_in es)
  obtain ⟨hse, hsy⟩ := secY_enc hgood (by omega) (k := 12) (by decide) (by decide)
  have hsx : secX es 12 = filX es := rfl
  rw [hsx] at hsy
  have HEV := Lib.hid hev
  have HL : Hid (∀ k, ((es.take k).flatMap termsE).length ≤ 7400) := Lib.hid (fun k => by
    have h1 := flat_le termsE 185 (es.take k) (fun e he => termsE_len (hS e (List.mem_of_mem_take he)))
    rw [List.length_take] at h1
    have h2 : min k es.length * 185 ≤ 40 * 185 := Nat.mul_le_mul (by omega) (Nat.le_refl _)
    omega)
  have HTL : Hid (∀ e ∈ es, (termsE e).length ≤ 185) := Lib.hid (fun e he => termsE_len (hS e he))
  have KT : Hid (∀ (e : Ev) (w' : World), e ∈ es → w2.grownBy w' none → Calls Tryz.prog 12 #[.agg e.cells.toArray] w' (NewS w' (termsE e))) := Lib.hid (fun e w' he hg => terms_new e w' ((hev.2 e he).grown hg (by simp)) (hS e he))
  have HSN : Hid (∀ (k : Nat) (y : Ev), es[k]? = some y → (es.take (k + 1)).flatMap termsE = (es.take k).flatMap termsE ++ termsE y) := Lib.hid (fun k y hy => flat_snoc termsE hy)
  have HDD : Hid (termsX es = dist (es.flatMap termsE)) := Lib.hid rfl
  obtain ⟨f0, f1, f2, f3⟩ := filX_at es
  obtain ⟨hn1, hn2⟩ := sizeF_in (termsX es).length
  obtain ⟨ds, hds⟩ : ∃ d, d = termsX es := ⟨_, rfl⟩
  obtain ⟨n, hn⟩ : ∃ n, n = sizeF ds.length := ⟨_, rfl⟩
  rw [← hds] at HDD hn1 hn2 f0 f2 f3
  rw [← hn] at hn1 hn2 f0 f2 f3
  have HNS := Lib.hid hn
  obtain ⟨ws, hws⟩ : ∃ x, x = encX es := ⟨_, rfl⟩
  obtain ⟨fs, hfs⟩ : ∃ x, x = filX es := ⟨_, rfl⟩
  rw [← hws] at hle hown KE hse hsy HIN ⊢
  rw [← hfs] at hsy f0 f1 f2 f3
  have KE1 := Lib.hid KE
  have HSE := Lib.hid hse
  have HSY := Lib.hid hsy
  have HF0 := Lib.hid f0
  have HF1 := Lib.hid f1
  have HF2 := Lib.hid f2
  have HF3 := Lib.hid f3
  clear KE hws hfs hev hsr hgood hwd hdm hown hob hcd hgw hg2 hg1 KD hse hsy f0 f1 f2 f3 hn hds hS hsx
  go_wp2_with fail
  refine KE1.out.mono ?_
  rintro e w3 ⟨v3, rfl, hB3, hg3⟩
  obtain ⟨A5, c5, e5, hc5, hm5, hr5⟩ := hB3.rd
  subst e5
  have G3 := Lib.hid (only_trans G2.out hg3)
  have G23 := Lib.hid hg3
  have KS := Lib.hid (ssection_any A5 ws c5 12 w3 hr5 HIN.out (by omega) hc5 (by unfold maxLen at hm5; omega))
  clear hB3 hg3 hr5 KE1
  go_wp2_with fail
  refine KS.out.mono ?_
  rintro e w4 ⟨A6, c6, rfl, hr6, hg4⟩
  have hse := HSE.out
  have hsy := HSY.out
  rw [show ((12 : Nat) : Int) = 12 from rfl] at hse hsy
  rw [hse, hsy]
  rw [hsy] at hr6
  have G4 := Lib.hid (only_trans G3.out hg4)
  have G24 := Lib.hid (only_trans G23.out hg4)
  have KF := Lib.hid (fdecode_any A6 fs n c6 w4 hr6 hn1 hn2 HF0.out HF1.out HF2.out HF3.out)
  clear hr6 hg4 KS hse hsy
  go_wp2_with fail
  refine KF.out.mono ?_
  rintro e w5 ⟨BF, cF, rfl, hg5⟩
  have G5 := Lib.hid (only_trans G4.out hg5)
  have G25 := Lib.hid (only_trans G24.out hg5)
  clear hg5 KF
  obtain ⟨bx, hbx⟩ : ∃ b, b = w5.heap.size := ⟨_, rfl⟩
  obtain ⟨W6, hW6⟩ : ∃ W, W = w5.alloc (.cells #[.int .i64 3, .slice BF n cF] 36) := ⟨_, rfl⟩
  have hb6 : Blk W6 bx 36 #[.int .i64 3, .slice BF n cF] := by rw [hW6, hbx]; exact Blk.new _ _ _
  have hg6 : w5.grownBy W6 none := by rw [hW6]; exact only_alloc (only_refl _ _) _
  have P6 := Lib.hid hb6
  have G6 := Lib.hid (only_trans G5.out hg6)
  have G26 := Lib.hid (only_trans G25.out hg6)
  go_upto_region 7 with fail
  rw [← hW6, ← hbx]
  clear hW6 hbx hb6 hg6
  go_wp2_with fail
  go_loopw [12, 13] (fun v vi wr => ∃ (k : Nat) (ts : List ByteArray), vi = .int .i64 k ∧ k ≤ es.length ∧ Hid ((es.take k).flatMap termsE = ts) ∧ wr.ownsRow W6.heap.size 9 1 v ts.length (ts.map .string) ∧ W6.grownBy wr none) (fun _ vi _ => es.length - (intOf vi).toNat)
  case atStart => exact ⟨0, [], rfl, Nat.zero_le _, Lib.hid rfl, World.ownsRow_nil _ _ _ _, only_refl _ _⟩
  case round =>
    obtain ⟨k, ts, rfl, hk, HK, hO, hG⟩ := hrel
    have OO := Lib.hid hO
    have G := Lib.hid hG
    have GW := Lib.hid (only_trans G26.out hG)
    have hbase : W6.heap.size ≤ wr.heap.size := hG.size
    have hwl : ts.length ≤ 7400 := by rw [← HK.out]; exact HL.out k
    obtain ⟨vO, hvOd⟩ : ∃ v, v = u12 := ⟨_, rfl⟩
    rw [← hvOd] at OO ⊢
    clear hO hG hvOd
    by_cases hlt : k < es.length
    · obtain ⟨y, hy⟩ : ∃ y, es[k]? = some y := ⟨_, List.getElem?_eq_getElem hlt⟩
      obtain ⟨kb, ko, eE, hkw, z0, z1, z2, z3, z4, z5, z6, z7, z8, z9⟩ := ev_in (HEV.out.1.grown GW.out (by simp)) hy
      subst eE
      have K1 := Lib.hid (KT.out y wr (List.mem_of_getElem? hy) GW.out)
      have hycl : y.cells.toArray = #[.int .i64 y.host, .int .i64 y.file, .int .i64 y.beg, .int .i64 y.fin, .slice y.la y.lines.length y.lc, .int .i64 y.time, .int .i64 y.weight, .string y.trace, .string y.stream, .slice y.fa y.fields.length y.fc] := rfl
      rw [hycl] at K1
      have HS1 := Lib.hid (HSN.out k y hy)
      have hyl : (termsE y).length ≤ 185 := HTL.out y (List.mem_of_getElem? hy)
      have i1 : (k : Int) < (es.length : Int) := by omega
      clear hy hycl
      go_wp2_with fail
      refine K1.out.mono ?_
      rintro e w3 ⟨AW, cW, rfl, h1, h2, h3, hg3⟩
      have G3 := Lib.hid (only_trans G.out hg3)
      have O3 := Lib.hid (own_ext OO.out hg3)
      have R3 := Lib.hid h3
      have hb3 : W6.heap.size ≤ w3.heap.size := G3.out.size
      clear h1 h2 h3 hg3 z0 z1 z2 z3 z4 z5 z6 z7 z8 z9
      go_wp2_with (at_builtin; go_must (refine wpList_appendN rfl _ _ 39 rfl W6.heap.size Tryz.underlying39 strInfo rfl (by decide) (v := vO) (by rfl) O3.out AW (termsE y).length cW (by rfl) R3.out (by simp) str_onesG (by decide) (by omega) (by omega) ?_); intro v5 w5 hown5 hg5 hob5)
      have O5 : Hid (w5.ownsRow W6.heap.size 9 1 v5 (ts ++ termsE y).length ((ts ++ termsE y).map .string)) := Lib.hid (by rw [List.length_append, List.map_append]; exact hown5)
      have G5 : Hid (W6.grownBy w5 none) := Lib.hid (only_own G3.out hg5 O3.out (Nat.le_refl _))
      clear hown5 hg5 hob5
      go_wp2_with fail
      go_roundw
      case rel => exact ⟨k + 1, ts ++ termsE y, by go_num, by omega, Lib.hid (by rw [HS1.out, HK.out]), O5.out, G5.out⟩
      case measure => simp [intOf]; omega
    · have i1 : ¬ (k : Int) < (es.length : Int) := by omega
      obtain ⟨AO, cO, hv, h1, h2, -, h3⟩ := Rd.of_own OO.out (by decide)
      have HE : Hid (ds = dist ts) := Lib.hid (by have h := HK.out; rw [List.take_of_length_le (by omega)] at h; rw [HDD.out, h])
      have hdl := dist_len' ts
      have KD := Lib.hid (dist_new AO ts cO wr h3 (by omega) h1 h2)
      rw [← HE.out] at KD hdl
      rw [hv]
      clear hv h1 h2 h3 OO
      go_wp2_with fail
      refine KD.out.mono ?_
      rintro e w7 ⟨AD, cD, rfl, d1, d2, d3, hg7⟩
      have G7 := Lib.hid (only_trans G.out hg7)
      have p7 := P6.out.grown G7.out (by simp)
      have q0 := p7.cell 0
      have q1 := p7.cell 1
      simp at q0 q1
      have HF : Hid (w.grownBy w7 none) := Lib.hid (only_trans G6.out G7.out)
      clear d1 d2 d3 hg7 KD p7
      have HB : Hid (((n : Int) == (min (10 * max 1 (ds.length : Int)) 65536 + 63) / 64) = true) := Lib.hid (by
        rw [HNS.out, beq_iff_eq]
        unfold sizeF
        omega)
      go_wp2_with fail
      rw [HB.out]
      go_ret
      exact ⟨rfl, HF.out⟩
end Go.Proofs.YtpaiideboodaeaaGreatDoor
