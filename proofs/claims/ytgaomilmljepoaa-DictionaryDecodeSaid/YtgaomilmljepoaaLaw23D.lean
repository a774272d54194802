/- law23: DictionaryDecode: the walk of the law itself (printed by mkdlaw.py). For every input. -/
import Derived.Test.YtgaomilmljepoaaLaw23V
import Derived.Test.YtgaomilmljepoaaDRef
import Derived.ArgAppend
import Derived.Deep.DeepMust
namespace Go.Proofs.Ytgaomilmljepoaa
open Go.RowKit
set_option linter.unusedVariables false
set_option linter.unusedSimpArgs false

def U8s (xs : List Int) : Prop := ∀ x ∈ xs, 0 ≤ x ∧ x ≤ 255
theorem U8s.app {a b : List Int} (ha : U8s a) (hb : U8s b) : U8s (a ++ b) := fun x hx => by
  rcases List.mem_append.1 hx with h | h
  · exact ha x h
  · exact hb x h
theorem Rd.tr {S : Nat → Prop} {w : World} {A : Option Addr} {xs : List Value} (h : Rd S w A xs) : Rd (fun _ => True) w A xs := h.mono (fun _ _ _ => trivial)
theorem Blk.rd {w : World} {g : Nat} {t : TypeId} {cs : Array Value} (h : Blk w g t cs) : Rd (· = g) w (some ⟨g, 0, none⟩) cs.toList := fun _ =>
  ⟨g, 0, rfl, rfl, h.lt, fun j u hu => by rw [Nat.zero_add, h.cell j]; simpa using hu⟩
theorem only_setNew {a w : World} {row : Option Nat} (h : a.grownBy w row) {p : Addr} (hp : a.heap.size ≤ p.block) (u : Value) : a.grownBy (w.setCell p u) row := only_setNew' h hp u
theorem own_set {w : World} {base e g n c j : Nat} {xs : List Value} {u : Value} (h : w.ownsRow base e 1 (.slice (some ⟨g, 0, none⟩) n c) n xs) (hj : j < n) : (w.setCell ⟨g, j, none⟩ u).ownsRow base e 1 (.slice (some ⟨g, 0, none⟩) n c) n (xs.set j u) := by
  obtain ⟨hl, h2⟩ := h
  refine ⟨by simpa using hl, ?_⟩
  rcases h2 with ⟨h3, _⟩ | ⟨g', cap, cur, h3, h4, h5, h6, h7, h8, h9⟩
  · cases h3
  · injection h3 with e1 e2 e3
    injection e1 with e1
    injection e1 with e1
    subst e1 e3
    refine .inr ⟨g, c, cur.setIfInBounds j u, rfl, h4, ?_, h6, h7, by simpa using h8, ?_⟩
    · simp [World.setCell, Array.getElem?_modify, h5]
    · rw [Array.toList_setIfInBounds, List.take_set, h9]
theorem own_cells {w : World} {base e g n c j : Nat} {xs : List Value} (h : w.ownsRow base e 1 (.slice (some ⟨g, 0, none⟩) n c) n xs) (hj : j < n) : w.cell? ⟨g, j, none⟩ = xs[j]? ∧ w.frozen? ⟨g, j, none⟩ = false := by
  obtain ⟨hl, h2⟩ := h
  rcases h2 with ⟨h3, _⟩ | ⟨g', cap, cur, h3, h4, h5, h6, h7, h8, h9⟩
  · cases h3
  · injection h3 with e1 e2 e3
    injection e1 with e1
    injection e1 with e1
    subst e1 e3
    have hB : Blk w g e cur := h5
    refine ⟨?_, hB.frozen j⟩
    rw [hB.cell j, ← h9, List.getElem?_take_of_lt (by omega), Array.getElem?_toList]
def ModPost (n : Nat) (w : World) (e : Ending) (w' : World) : Prop := ∃ m : Nat, m < n ∧ e = .returned (.int .i64 m) ∧ ∃ q, w' = w.drewN q
set_option maxHeartbeats 1000000 in
theorem mod_any (x : Int) (n : Nat) (w : World) (h0 : 0 < n) (hn : n ≤ 2000000) :
    Calls Try.prog 27 #[.int .i64 x, .int .i64 n] w (ModPost n w) := by
  obtain ⟨t, ht⟩ : ∃ t, x.tmod (n : Int) = t := ⟨_, rfl⟩
  have h1 : -(n : Int) < t ∧ t < n := by
    rw [← ht]
    have a := Int.lt_tmod_of_pos x (show (0 : Int) < n by omega)
    have b := Int.tmod_lt_of_pos x (show (0 : Int) < n by omega)
    omega
  obtain ⟨m, hm⟩ : ∃ m : Nat, (t + (n : Int)).tmod (n : Int) = (m : Int) := by
    refine ⟨((t + (n : Int)).tmod (n : Int)).toNat, ?_⟩
    have := Int.tmod_nonneg (n : Int) (show 0 ≤ t + (n : Int) by omega)
    omega
  have hmn : m < n := by
    have b := Int.tmod_lt_of_pos (t + (n : Int)) (show (0 : Int) < n by omega)
    rw [hm] at b; omega
  obtain ⟨h2, h3⟩ := h1
  have htw : wrap64 t = t := IntWalk.wrap64_in _ (by omega)
  have htw2 : IntKind.i64.wrap t = t := IntWalk.i64_in _ (by omega)
  have hmw : wrap64 (m : Int) = (m : Int) := IntWalk.wrap64_in _ (by omega)
  have hmw2 : IntKind.i64.wrap (m : Int) = (m : Int) := IntWalk.i64_in _ (by omega)
  have hs : wrap64 (t + (n : Int)) = t + (n : Int) := IntWalk.wrap64_in _ (by omega)
  have d1 : decide ((n : Int) < 1) = false := decide_eq_false (by omega)
  have hn0 : ((n : Int) == 0) = false := by rw [beq_eq_false_iff_ne]; omega
  have hn1 : ¬ (n : Int) = 0 := by omega
  have hn2 : ¬ n = 0 := by omega
  have HM := Lib.hid hmn
  go_enter Try.func27, Try.ntmps27
  go_wp2_with fail
  go_ret
  exact ⟨m, HM.out, rfl, 0, rfl⟩
theorem xor_in (a b : Int) : 0 ≤ bits .xor .u8 a b ∧ bits .xor .u8 a b ≤ 255 := by
  show 0 ≤ IntKind.u8.wrap ((BitVec.ofInt 8 a ^^^ BitVec.ofInt 8 b).toNat : Int) ∧ IntKind.u8.wrap ((BitVec.ofInt 8 a ^^^ BitVec.ofInt 8 b).toNat : Int) ≤ 255
  rw [IntKind.wrap_u8]; omega
/-- append of one element onto a slice without room: a new row -/
theorem wpList_appendG {P : Program} {ops : Array Oper} {rest : List Oper} {o : Oper} {a : Act} {w : World} {Q : Exit → Act → World → Prop} (hgd : o.guard = none) (s x : Operand) (t : TypeId)
    (ho : o.op = .call { callee := .builtin .append, args := #[s, x], argTypes := #[t, t] })
    {e : TypeId} {z : Value} {size bytes : Nat} (ht : P.underlying t = some (.slice e)) (hi : (P.info? e).map (fun i => (i.zero, i.size, i.bytes)) = some (some z, size, bytes)) (hzs : z.cells.size = size) (hsz : 0 < size)
    {b : Addr} {n : Nat} {olds : List Value} (hs : a.eval s = .slice (some b) n n) (hlo : olds.length = n * size) (holds : ∀ j u, olds[j]? = some u → w.cell? (b.add j) = some u)
    {a2 : Addr} {m c : Nat} {news : List Value} (hx : a.eval x = .slice (some a2) m c) (hl : news.length = m * size) (hnews : ∀ j u, news[j]? = some u → w.cell? (a2.add j) = some u)
    (hb : bytes ≤ 1000) (hm : 0 < m) (hn : n + m ≤ 10000000)
    (h : ∀ v' w', w'.ownsRow w.heap.size e size v' (n + m) (olds ++ news) → w.grownBy w' none → wpList P ops Q rest (a.put o.dst v') w') : wpList P ops Q (o :: rest) a w :=
  wpList_plain hgd fun K hK => by
    obtain ⟨i0, hi0, hz0, hz1, hz2⟩ := info_parts hi
    obtain ⟨v', w', hrun, h2, h3⟩ := run_append_arg_grows (P := P) w t o.type e i0 z size bytes ht hi0 hz0 hz1 hz2 hzs hsz b n n olds hlo holds a2 m c news hl hnews (by omega) (by unfold maxLen; omega) (by
      have : (n + m) * bytes ≤ 10000000 * 1000 := Nat.mul_le_mul hn hb
      omega)
    unfold Oper.wp execOp
    simp only [ho, resolve, invoke, builtin, Sem.run_bind, Sem.run_pure, Result.andThen_ok, List.map_toArray, List.map_cons, List.map_nil, hs, hx, hrun]
    exact hK _ _ (h v' w' h2 h3)
theorem rd_cells {S : Nat → Prop} {w : World} {b off : Nat} {xs : List Value} (h : Rd S w (some ⟨b, off, none⟩) xs) : ∀ j u, xs[j]? = some u → w.cell? ((⟨b, off, none⟩ : Addr).add j) = some u := by
  intro j u hu
  have hlen : 0 < xs.length := by
    rcases Nat.eq_zero_or_pos xs.length with h0 | h0
    · rw [List.eq_nil_of_length_eq_zero h0] at hu; simp at hu
    · exact h0
  obtain ⟨b', off', e, _, _, hc⟩ := h hlen
  injection e with e
  injection e with e1 e2
  subst e1 e2
  have hadd : (⟨b, off, none⟩ : Addr).add j = ⟨b, off + j, none⟩ := by unfold Addr.add; split <;> simp_all
  rw [hadd]; exact hc j u hu
/-- a row of bytes as the law's list holds it -/
def BR (W : World) (v : Value) : Prop := ∃ A bs c, v = .slice A (List.length bs) c ∧ Rd (fun _ => True) W A (bs.map (.int .u8)) ∧ bs.length ≤ c ∧ c ≤ maxLen ∧ bs.length ≤ 2000 ∧ U8s bs
theorem BR.gr {W W' : World} {v : Value} (h : BR W v) (hg : W.grownBy W' none) : BR W' v := by
  obtain ⟨A, bs, c, h1, h2, h3⟩ := h
  exact ⟨A, bs, c, h1, h2.grown hg (by simp), h3⟩
theorem BR.own {W : World} {base : Nat} {v : Value} {bs : List Int} (h : Byts base W v bs) (hl : bs.length ≤ 2000) (hu : U8s bs) : BR W v := by
  obtain ⟨A, c, rfl, h1, h2, h3⟩ := h.rd
  exact ⟨A, bs, c, rfl, h3.tr, h1, h2, hl, hu⟩


set_option maxHeartbeats 4000000 in
set_option maxRecDepth 100000 in
theorem law_decode (A B : Option Addr) (bs l : List Int) (c d : Nat) (at_ by_ : Int) (w : World) (hb : Rd (fun _ => True) w A (bs.map (.int .u8))) (hbx : ∀ x ∈ bs, 0 ≤ x ∧ x ≤ 255) (hcv : c ≤ maxLen) (hvc : bs.length ≤ c)
    (h : Rd (fun _ => True) w B (l.map (.int .u8))) (hc : l.length ≤ d) (hcm : d ≤ maxLen) (hx : ∀ x ∈ l, 0 ≤ x ∧ x ≤ 255) (hy : 0 ≤ by_ ∧ by_ ≤ 255) :
    Calls Try.prog 6 #[.slice A bs.length c, .slice B l.length d, .int .i64 at_, .int .u8 by_] w (RetExt (.bool true) w) := by
  have HX := Lib.hid hx
  have HV := Lib.hid hb
  have HL := Lib.hid h
  have HBX := Lib.hid hbx
  have HCV := Lib.hid hcv
  clear hx hb h hbx
  unfold maxLen at hcv
  by_cases hbig : 600 < bs.length
  · go_enter Try.func6, Try.ntmps6
    go_wp2_with (go_at_call 10; refine (awake_any _).mono ?_; rintro e w1 ⟨rfl, hg1⟩)
    go_ret
    exact ⟨by simp, hg1⟩
  · have hdb : decide ((600 : Int) < (bs.length : Int)) = false := by simp; omega
    go_enter Try.func6, Try.ntmps6
    go_wp2_with (go_at_call 10; refine (awake_any _).mono ?_; rintro e w1 ⟨rfl, hg1⟩)
    refine (new_any B l d 100 _ (HL.out.grown hg1 (by simp)) hc hcm (by omega) HX.out).mono ?_
    rintro e w2 ⟨rfl, h2, hg2, hlt2⟩
    have G2 : Hid (w.grownBy w2 none) := only_trans hg1 hg2
    have hs2 := G2.out.size
    have hs1 := hg1.size
    generalize w1.heap.size = g at *
    clear HL HX hg1 hg2
    go_wp2_with fail
    refine (draw_any g _ _ _ h2).mono ?_
    rintro e w4 ⟨A4, c4, ds, k4, rfl, hc4, hm4, hs4, hl4, hz4, hr4, h4, hg4⟩
    have G4 : Hid (w.grownBy w4 none) := only_fresh G2.out hg4 (by omega)
    have CX := Lib.hid (draw_chk hs4 hl4 hz4)
    have LX := Lib.hid hz4
    have R4 := Lib.hid hr4
    clear h2 h4 hg4 hr4 G2 hs4 hz4
    go_wp2_with fail
    refine (rencode_any A4 ds c4 _ R4.out (by omega)).mono ?_
    rintro e w6 ⟨v6, rfl, hB6, hg6⟩
    rw [CX.out]
    rw [encR_ok CX.out] at hB6
    obtain ⟨A6, c6x, rfl, hc6x, hm6x, hr6⟩ := hB6.rd
    have hle := enc_len14 LX.out (by omega) ds.length
    have hln : (encB ds).length ≤ 803 := by unfold encB; omega
    have hpos : 0 < (encB ds).length := by
      have e := enc_sfx ds ds.length (Nat.le_refl _)
      rw [Nat.sub_self, encTo] at e
      rw [← e, List.length_append]
      have : 0 < (vint ds.length).length := by unfold vint; split <;> simp
      omega
    have HU6x : Hid (U8s (encB ds)) := enc_u8 _ _
    generalize encB ds = ws at *
    obtain ⟨b6x, off6x, rfl, -, hb6x, -⟩ := hr6 (by simpa using hpos)
    have R6x := Lib.hid hr6.tr
    have G6x : Hid (w.grownBy w6 none) := only_trans G4.out hg6
    clear hr6 hg6 hB6 R4 G4 hle CX LX
    go_wp2_with (at_builtin; refine wpList_appendN rfl _ _ 22 rfl w6.heap.size Try.underlying22 byteInfo rfl (by decide) (v := .slice none 0 0) (by rfl) (World.ownsRow_nil _ _ _ _) (some ⟨b6x, off6x, none⟩) ws.length c6x (by rfl) R6x.out (by simp) (by simp [Value.oneCell']) (by decide) (by omega) (Nat.le_refl _) ?_; intro v5 w5 hv5 hg5 hob5; obtain ⟨go, co, rfl, hgo, -⟩ := hv5.form (by omega); simp only [Nat.zero_add] at *)
    have hg5' : w6.grownBy w5 none := hg5
    have hown5 : w5.ownsRow w6.heap.size 5 1 (.slice (some ⟨go, 0, none⟩) ws.length co) ws.length (ws.map (.int .u8)) := by simpa using hv5
    clear hv5 hg5 hob5
    obtain ⟨A5, c5, e5, hnc, hcm5, -, -⟩ := Rd.of_own hown5 (by decide)
    injection e5 with e51 e52 e53
    rw [← e53] at hnc hcm5
    clear e51 e52 e53
    have O5 := Lib.hid hown5
    have G5 := Lib.hid hg5'
    clear hown5 hg5'
    refine (mod_any at_ ws.length _ hpos (by omega)).mono ?_
    rintro e w5b ⟨j, hj, rfl, n5, rfl⟩
    have hcj : (w5.drewN n5).cell? ⟨go, j, none⟩ = some (.int .u8 (ws.getD j 0)) := by
      have := (own_cells (own_drewN O5.out n5) hj).1
      rw [this]; simp [hj]
    have hfj := (own_cells (own_drewN O5.out n5) hj).2
    obtain ⟨xj, hxj⟩ : ∃ xj, ws.getD j 0 = xj := ⟨_, rfl⟩
    rw [hxj] at hcj
    have hji : (j : Int) < (ws.length : Int) := by omega
    clear hxj
    obtain ⟨W6, hW6⟩ : ∃ W6, W6 = (w5.drewN n5).setCell ⟨go, j, none⟩ (.int .u8 (bits .xor .u8 xj by_)) := ⟨_, rfl⟩
    have HW6 := Lib.hid hW6
    have O6 : Hid (W6.ownsRow w6.heap.size 5 1 (.slice (some ⟨go, 0, none⟩) ws.length co) (ws.set j (bits .xor .u8 xj by_)).length ((ws.set j (bits .xor .u8 xj by_)).map (.int .u8))) := by
      show World.ownsRow _ _ _ _ _ _ _
      rw [hW6, List.length_set, List.map_set]
      exact own_set (own_drewN O5.out n5) hj
    have G6 : Hid (w6.grownBy W6 none) := hW6 ▸ only_setNew (only_drewN G5.out n5) hgo _
    have HU6 : Hid (U8s (ws.set j (bits .xor .u8 xj by_))) := fun x hx => by
      rcases List.mem_or_eq_of_mem_set hx with h1 | h1
      · exact HU6x.out x h1
      · rw [h1]; exact xor_in _ _
    have BR1 : Hid (BR W6 (.slice (some ⟨go, 0, none⟩) ws.length co)) := BR.own O6.out (by simp; omega) HU6.out
    have RN : Hid (∀ j u, ([Value.int .u8 0] : List Value)[j]? = some u → (W6.alloc (Obj.cells #[.int .u8 0] 5)).cell? ((⟨w5.heap.size, 0, none⟩ : Addr).add j) = some u) := by
      have e6 : W6.heap.size = w5.heap.size := by rw [hW6]; simp [World.setCell]
      rw [← e6]
      exact rd_cells (Blk.new W6 5 #[.int .u8 0]).rd
    clear hW6 O5 G5 O6 HU6
    have R6 := Lib.hid (R6x.out.grown G6.out (by simp))
    have hb6 := G6.out.size
    go_wp2_with (at_builtin; rw [← HW6.out]; go_must (refine wpList_appendG rfl _ _ 22 rfl Try.underlying22 byteInfo rfl (by decide) (b := ⟨b6x, off6x, none⟩) (n := ws.length) (olds := ws.map (.int .u8)) (by rfl) (by simp) (rd_cells (R6.out.grown (World.grownBy_alloc _ _ none) (by simp))) (a2 := ⟨w5.heap.size, 0, none⟩) (m := 1) (c := 1) (news := [.int .u8 0]) (by rfl) rfl RN.out (by decide) (by decide) (by omega) ?_); intro v7 w7 hv7 hg7; obtain ⟨g7, c7, rfl, hgg7, -⟩ := hv7.form (by omega))
    have G7 : Hid (w6.grownBy w7 none) := only_trans (only_alloc G6.out _) hg7
    have B7 : Hid (BR w7 (.slice (some ⟨g7, 0, none⟩) (ws.length + 1) c7)) := BR.own (bs := ws ++ [0]) (by show World.ownsRow _ _ _ _ _ _ _; simpa using hv7) (by simp; omega) (U8s.app HU6x.out (fun x hx => by simp at hx; omega))
    have BR17 : Hid (BR w7 (.slice (some ⟨go, 0, none⟩) ws.length co)) := (BR1.out.gr (World.grownBy_alloc _ _ none)).gr hg7
    clear hv7 hg7 R6 BR1 G6 HW6 hcj hfj
    go_wp2_with fail
    refine (mod_any at_ ws.length _ hpos (by omega)).mono ?_
    rintro e w8 ⟨k4, hk4, rfl, n8, rfl⟩
    have hk4i : (k4 : Int) ≤ (c6x : Int) := by omega
    go_wp2_with fail
    obtain ⟨W, hW⟩ : ∃ W, W = (w7.drewN n8).alloc (Obj.cells #[Value.slice A bs.length c, .slice (some ⟨go, 0, none⟩) ws.length co, .slice (some ⟨g7, 0, none⟩) (ws.length + 1) c7, .slice (some ⟨b6x, off6x, none⟩) k4 c6x] 22) := ⟨_, rfl⟩
    rw [← hW]
    have GW : Hid (w7.grownBy W none) := hW ▸ only_alloc (only_drewN (only_refl _ _) _) _
    have HB : Hid (Blk W w7.heap.size 22 #[Value.slice A bs.length c, .slice (some ⟨go, 0, none⟩) ws.length co, .slice (some ⟨g7, 0, none⟩) (ws.length + 1) c7, .slice (some ⟨b6x, off6x, none⟩) k4 c6x]) := hW ▸ Blk.new (w7.drewN n8) _ _
    have HG : Hid (w.grownBy W none) := only_trans (only_trans G6x.out G7.out) GW.out
    have L0 : Hid (BR W (.slice A bs.length c)) := ⟨A, bs, c, rfl, HV.out.grown HG.out (by simp), hvc, HCV.out, by omega, HBX.out⟩
    have L1 : Hid (BR W (.slice (some ⟨go, 0, none⟩) ws.length co)) := BR17.out.gr GW.out
    have L2 : Hid (BR W (.slice (some ⟨g7, 0, none⟩) (ws.length + 1) c7)) := B7.out.gr GW.out
    have L3 : Hid (BR W (.slice (some ⟨b6x, off6x, none⟩) k4 c6x)) := by
      refine ⟨some ⟨b6x, off6x, none⟩, ws.take k4, c6x, by rw [List.length_take]; congr 1; omega, ?_, by rw [List.length_take]; omega, hm6x, by rw [List.length_take]; omega, fun x hx => HU6x.out x (List.mem_of_mem_take hx)⟩
      have := ((R6x.out.grown G7.out (by simp)).grown GW.out (by simp)).take k4
      rw [← List.map_take] at this; exact this
    clear hW GW G7 B7 BR17 R6x HV
    generalize w7.heap.size = lb at *

    go_loopw [13] (fun i wr => ∃ k : Nat, k ≤ 4 ∧ i = .int .i64 k ∧ W.grownBy wr none) (fun i _ => 4 - (intOf i).toNat)
    case atStart => exact ⟨0, by omega, rfl, only_refl _ _⟩
    case round =>
      obtain ⟨k, hk, rfl, hgr⟩ := hrel
      have GR := Lib.hid hgr
      by_cases hk4' : k < 4
      · obtain ⟨AU, zs, cu, hu, hru, hzc, hcum, hzl, hzu⟩ : ∃ AU zs cu, (#[Value.slice A bs.length c, .slice (some ⟨go, 0, none⟩) ws.length co, .slice (some ⟨g7, 0, none⟩) (ws.length + 1) c7, .slice (some ⟨b6x, off6x, none⟩) k4 c6x] : Array Value)[k]? = some (.slice AU (List.length zs) cu) ∧ Rd (fun _ => True) W AU (zs.map (.int .u8)) ∧ zs.length ≤ cu ∧ cu ≤ maxLen ∧ zs.length ≤ 2000 ∧ U8s zs := by
          have key : ∀ v, BR W v → ∃ AU zs cu, some v = some (.slice AU (List.length zs) cu) ∧ Rd (fun _ => True) W AU (zs.map (.int .u8)) ∧ zs.length ≤ cu ∧ cu ≤ maxLen ∧ zs.length ≤ 2000 ∧ U8s zs := fun v ⟨AU, zs, cu, h1, h2⟩ => ⟨AU, zs, cu, by rw [h1], h2⟩
          rcases k with _ | _ | _ | _ | k
          · exact key _ L0.out
          · exact key _ L1.out
          · exact key _ L2.out
          · exact key _ L3.out
          · omega
        have HZU := Lib.hid hzu
        have HCM := Lib.hid hcum
        have HRK := Lib.hid hru
        have HBK : Hid (∀ W', W.grownBy W' none → W'.cell? ⟨lb, k, none⟩ = some (.slice AU zs.length cu)) := fun W' hW' => ((HB.out.grown hW' (by simp)).cell k).trans hu
        have hcu := HBK.out _ hgr
        clear hu hru hzu hgr hcum
        go_wp2_with fail
        refine (decode_any AU zs cu _ (HRK.out.grown GR.out (by simp)) hzl hzc HCM.out HZU.out).mono ?_
        rintro e w3a ⟨Aa, ca, da, ea, rfl, ha1, ha2, har, hal, hacase, hga⟩
        have Ga : Hid (W.grownBy w3a none) := only_trans GR.out hga
        have hcua := HBK.out _ Ga.out
        have RA := Lib.hid har
        have HCA := Lib.hid hacase
        clear hga har hacase hcu
        go_wp2_with fail
        refine (rdecode_any AU zs cu _ (HRK.out.grown Ga.out (by simp)) hzl hzc HCM.out HZU.out).mono ?_
        rintro e w3b ⟨Ab, cb, db, eb, rfl, hb1', hb2', hbr, hbl, hbcase, hgb⟩
        have Gb : Hid (W.grownBy w3b none) := only_trans Ga.out hgb
        have hcub := HBK.out _ Gb.out
        have RAb := Lib.hid (RA.out.grown hgb (by simp))
        have RBb := Lib.hid hbr
        obtain ⟨rfl, rfl⟩ : ea = eb ∧ da = db := by
          rcases HCA.out with ⟨p1, p2⟩ | ⟨p1, p2, p3⟩ <;> rcases hbcase with ⟨q1, q2⟩ | ⟨q1, q2, q3⟩
          · exact ⟨by omega, enc_inj p2.1 q2.1 (p2.2.trans q2.2.symm)⟩
          · exact absurd p2 (q3 _)
          · exact absurd q2 (p3 _)
          · exact ⟨by omega, by rw [p2, q2]⟩
        clear hgb hbr hbcase hcua RA HCA
        go_wp2_with fail
        refine (same_any Aa Ab da da ca cb _ RAb.out RBb.out (by omega) (by omega) true (by simp)).mono ?_
        rintro e w7a ⟨rfl, n7, rfl⟩
        go_wp2_with fail
        go_roundw
        case rel => exact ⟨k + 1, by omega, by go_num, only_drewN Gb.out _⟩
        case measure => simp [intOf]; omega
      · obtain rfl : k = 4 := by omega
        clear hgr
        go_wp2_with fail
        go_ret
        exact ⟨rfl, only_trans HG.out GR.out⟩
end Go.Proofs.Ytgaomilmljepoaa
