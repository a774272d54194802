/- law42: awake, and AccountMergeIsAssociative: the walk of the law itself. For every input. -/
import Derived.Test.YtiogpomgpknjlaaTalM
import Derived.Test.YtiogpomgpknjlaaTalC
import Derived.Test.YtiogpomgpknjlaaSum
import Derived.Test.YtiogpomgpknjlaaTalS
namespace Go.Proofs.Ytiogpomgpknjlaa
open Go.RowKit
set_option linter.unusedVariables false
set_option linter.unusedSimpArgs false

def TrueExt (w : World) (e : Ending) (w' : World) : Prop := e = .returned (.bool true) ∧ w.grownBy w' none
theorem Rd.tru {S : Nat → Prop} {w : World} {A : Option Addr} {xs : List Value} (h : Rd S w A xs) : Rd (fun _ => True) w A xs := h.mono (fun _ _ _ => trivial)
theorem Blk.rdl {w : World} {g : Nat} {t : TypeId} {cs : Array Value} (h : Blk w g t cs) : Rd (fun _ => True) w (some ⟨g, 0, none⟩) cs.toList := fun _ =>
  ⟨g, 0, rfl, trivial, h.lt, fun j u hu => by rw [Nat.zero_add, h.cell j]; simpa using hu⟩
def t12 : Tal := ⟨1, ⟨#[]⟩, 2⟩
def t13 : Tal := ⟨1, ⟨#[120]⟩, 3⟩
set_option maxHeartbeats 1000000 in
set_option maxRecDepth 100000 in
theorem awake_any (w : World) : Calls Try.prog 7 #[] w (TrueExt w) := by
  have hR : Rd (fun _ => True) (w.alloc (.cells ([t12, t13].flatMap Tal.cells).toArray 62)) (some ⟨w.heap.size, 0, none⟩) ([t12, t13].flatMap Tal.cells) := by
    have := (Blk.new w 62 ([t12, t13].flatMap Tal.cells).toArray).rdl
    simpa using this
  have HC : Hid (Calls Try.prog 13 #[.slice (some ⟨w.heap.size, 0, none⟩) 2 2, .int .i64 1] (w.alloc (.cells ([t12, t13].flatMap Tal.cells).toArray 62)) (SumPost (w.alloc (.cells ([t12, t13].flatMap Tal.cells).toArray 62)) (sumT 1 [t12, t13]))) :=
    sum_any (some ⟨w.heap.size, 0, none⟩) [t12, t13] 2 1 _ hR (by simp) (by intro t ht; simp at ht; rcases ht with rfl | rfl <;> simp [t12, t13])
  clear hR
  go_enter Try.func7, Try.ntmps7
  go_wp2_with fail
  refine HC.out.mono ?_
  rintro e w2 ⟨rfl, hg2⟩
  have hrow : sumT 1 [t12, t13] = 5 := by decide
  rw [hrow]
  have G2 : Hid (w.grownBy w2 none) := only_trans (only_alloc (only_refl _ _) _) hg2
  clear hg2 HC hrow
  go_wp2_with fail
  go_ret
  exact ⟨rfl, G2.out⟩
set_option maxHeartbeats 4000000 in
set_option maxRecDepth 100000 in
theorem law_assoc (A : Option Addr) (l : List Int) (d : Nat) (w : World) (h : Rd (fun _ => True) w A (l.map (.int .u8))) (hc : l.length ≤ d) (hcm : d ≤ maxLen) (hx : ∀ x ∈ l, 0 ≤ x ∧ x ≤ 255) :
    Calls Try.prog 3 #[.slice A l.length d] w (TrueExt w) := by
  have HX := Lib.hid hx
  have HL := Lib.hid h
  clear hx h
  go_enter Try.func3, Try.ntmps3
  go_wp2_with (go_at_call 7; refine (awake_any _).mono ?_; rintro e w1 ⟨rfl, hg1⟩)
  refine (new_any A l d 100 _ (HL.out.grown hg1 (by simp)) hc hcm (by omega) HX.out).mono ?_
  rintro e w2 ⟨rfl, h2, hg2, hlt2⟩
  have G2 : Hid (w.grownBy w2 none) := only_trans hg1 hg2
  have hs2 := G2.out.size
  have hs1 := hg1.size
  generalize w1.heap.size = g at *
  clear HL HX hg1 hg2
  go_wp2_with fail
  refine (tallies_some g _ _ _ h2).mono ?_
  rintro e w3 ⟨A3, c3, x, k3, rfl, hc3, hm3, hl3, hs3, hi3, hr3, h3, hg3⟩
  have G3 : Hid (w.grownBy w3 none) := only_fresh G2.out hg3 (by omega)
  have X3 := Lib.hid hr3
  have SX := Lib.hid hs3
  have IX := Lib.hid hi3
  have hz3 := hg3.size
  clear h2 hg3 hr3 G2 hs3 hi3
  go_wp2_with fail
  refine (tallies_some g _ _ _ h3).mono ?_
  rintro e w4 ⟨A4, c4, y, k4, rfl, hc4, hm4, hl4, hs4, hi4, hr4, h4, hg4⟩
  have G4 : Hid (w.grownBy w4 none) := only_fresh G3.out hg4 (by omega)
  have X4 := Lib.hid (X3.out.grown hg4 (fun b hb => by intro e; injection e; omega))
  have Y4 := Lib.hid hr4
  have SY := Lib.hid hs4
  have IY := Lib.hid hi4
  have hz4 := hg4.size
  clear h3 hg4 hr4 G3 hs4 hi4 X3
  go_wp2_with fail
  refine (tallies_some g _ _ _ h4).mono ?_
  rintro e w5 ⟨A5, c5, z, k5, rfl, hc5, hm5, hl5, hs5, hi5, hr5, h5, hg5⟩
  have G5 : Hid (w.grownBy w5 none) := only_fresh G4.out hg5 (by omega)
  have X5 := Lib.hid (X4.out.grown hg5 (fun b hb => by intro e; injection e; omega))
  have Y5 := Lib.hid (Y4.out.grown hg5 (fun b hb => by intro e; injection e; omega))
  have Z5 := Lib.hid hr5
  have SZ := Lib.hid hs5
  have IZ := Lib.hid hi5
  clear h4 h5 hg5 hr5 G4 hs5 hi5 X4 Y4 hz3 hz4 hs1 hs2
  have up : ∀ {n : Int} {ts : List Tal}, n ≤ 1000000 → TIn n ts → TIn 1000000 ts := fun hn h t ht => by have := h t ht; omega
  go_wp2_with fail
  refine (merge_any A3 A4 x y c3 c4 _ X5.out.tru Y5.out.tru (by omega) (by omega) hc3 hm3 hc4 hm4 (up (by omega) IX.out) (up (by omega) IY.out)).mono ?_
  rintro e w6 ⟨A6, c6, rfl, hc6, hm6, hr6, hg6⟩
  have G6 : Hid (w.grownBy w6 none) := only_trans G5.out hg6
  have X6 := Lib.hid (X5.out.grown hg6 (by simp))
  have Y6 := Lib.hid (Y5.out.grown hg6 (by simp))
  have Z6 := Lib.hid (Z5.out.grown hg6 (by simp))
  have IXY := Lib.hid (mrg_in IX.out IY.out (by omega) (by omega))
  have LXY := mrg_len x y
  have R6 := Lib.hid hr6
  clear hg6 hr6 G5 X5 Y5 Z5
  go_wp2_with fail
  refine (merge_any A6 A5 (mrg x y) z c6 c5 _ R6.out.tru Z6.out.tru (by omega) (by omega) hc6 hm6 hc5 hm5 (up (by omega) IXY.out) (up (by omega) IZ.out)).mono ?_
  rintro e w7 ⟨A7, c7, rfl, hc7, hm7, hr7, hg7⟩
  have G7 : Hid (w.grownBy w7 none) := only_trans G6.out hg7
  have X7 := Lib.hid (X6.out.grown hg7 (by simp))
  have Y7 := Lib.hid (Y6.out.grown hg7 (by simp))
  have Z7 := Lib.hid (Z6.out.grown hg7 (by simp))
  have R7 := Lib.hid hr7
  clear hg7 hr7 G6 X6 Y6 Z6 R6
  go_wp2_with fail
  refine (merge_any A4 A5 y z c4 c5 _ Y7.out.tru Z7.out.tru (by omega) (by omega) hc4 hm4 hc5 hm5 (up (by omega) IY.out) (up (by omega) IZ.out)).mono ?_
  rintro e w8 ⟨A8, c8, rfl, hc8, hm8, hr8, hg8⟩
  have G8 : Hid (w.grownBy w8 none) := only_trans G7.out hg8
  have X8 := Lib.hid (X7.out.grown hg8 (by simp))
  have R8 := Lib.hid hr8
  have Q8 := Lib.hid (R7.out.grown hg8 (by simp))
  have IYZ := Lib.hid (mrg_in IY.out IZ.out (by omega) (by omega))
  have LYZ := mrg_len y z
  clear hg8 hr8 G7 X7 Y7 Z7 R7
  go_wp2_with fail
  refine (merge_any A3 A8 x (mrg y z) c3 c8 _ X8.out.tru R8.out.tru (by omega) (by omega) hc3 hm3 hc8 hm8 (up (by omega) IX.out) (up (by omega) IYZ.out)).mono ?_
  rintro e w9 ⟨A9, c9, rfl, hc9, hm9, hr9, hg9⟩
  have G9 : Hid (w.grownBy w9 none) := only_trans G8.out hg9
  have X9 := Lib.hid (X8.out.grown hg9 (by simp))
  have R9 := Lib.hid hr9
  have Q9 := Lib.hid (Q8.out.grown hg9 (by simp))
  have LXYZ := mrg_len (mrg x y) z
  have HE : Hid (mrg (mrg x y) z = mrg x (mrg y z)) := Lib.hid (mrg_assoc SX.out SY.out SZ.out)
  clear hg9 hr9 G8 X8 R8 Q8
  go_wp2_with fail
  refine (sametal_any A7 A9 _ _ c7 c9 _ Q9.out R9.out (by omega) HE.out).mono ?_
  rintro e w10 ⟨rfl, n10, rfl⟩
  go_wp2_with fail
  refine (merge_any (S := fun _ => True) A3 none x [] c3 0 _ ((X9.out.drewN n10).mono (fun _ _ _ => trivial)) Rd.nil (by omega) (by simp) hc3 hm3 (by simp) (Nat.zero_le _) (up (by omega) IX.out) (fun t ht => by simp at ht)).mono ?_
  rintro e w11 ⟨A11, c11, rfl, hc11, hm11, hr11, hg11⟩
  have G11 : Hid (w.grownBy w11 none) := only_trans (only_drewN G9.out n10) hg11
  have X11 := Lib.hid ((X9.out.drewN n10).grown hg11 (by simp))
  have R11 := Lib.hid hr11
  have LX := mrg_len x []
  have HN : Hid (mrg x [] = x) := Lib.hid (mrg_nil x)
  clear hg11 hr11 G9 X9 R9 Q9
  simp only [List.length_nil] at LX
  go_wp2_with fail
  refine (sametal_any A11 A3 _ _ c11 c3 _ R11.out X11.out (by omega) HN.out).mono ?_
  rintro e w12 ⟨rfl, n12, rfl⟩
  go_wp2_with fail
  go_ret
  exact ⟨rfl, only_drewN G11.out _⟩
end Go.Proofs.Ytiogpomgpknjlaa
