/- group.kinds, known, at. Condition: sizes. -/
import Derived.Test.YtfkgcighooijhaaGreatDoorJGrpC
import Derived.Test.YtfkgcighooijhaaGreatDoorJGen
namespace Go.Proofs.YtfkgcighooijhaaGreatDoor
open Go.RowKit
set_option linter.unusedVariables false
set_option linter.unusedSimpArgs false

set_option maxHeartbeats 2000000 in
theorem known_any (a : AggD) (w : World) (h : 0 ≤ a.kind ∧ a.kind ≤ 4) : Calls Tryz.prog 49 #[.agg a.cells.toArray] w (fun e w' => e = .returned (.bool true) ∧ w.grownBy w' none) := by
  obtain ⟨k, f⟩ := a
  obtain ⟨h0, h1⟩ := h
  simp only at h0 h1
  show Calls _ _ #[.agg #[.int .i64 k, .string f]] w _
  have i0 : k ≥ 0 := h0
  go_enter Tryz.func49, Tryz.ntmps49
  go_wp2_with fail
  go_ret
  exact ⟨rfl, only_alloc (only_refl _ _) _⟩
/-- the closures of the kinds -/
def fnC (f : FuncId) (b : Nat) : Value := .func (.func f) #[] #[.pointer (some ⟨b, 0, none⟩)]
def fn0 (f : FuncId) : Value := .func (.func f) #[] #[]
/-- a function lies in a block of its own -/
def FnAt (w : World) (b : Nat) (g : FuncId) : Prop := w.cell? ⟨b, 0, none⟩ = some (.func (.func g) #[] #[]) ∧ b < w.heap.size
def KindsP (w : World) (e : Ending) (w' : World) : Prop :=
  ∃ b0 b1 b2 b3 b4 b5 b6 : Nat, e = .returned (.agg #[fn0 67, fnC 88 b0, fnC 89 b1, fnC 88 b2, fnC 89 b3, fnC 88 b4, fnC 89 b5, fnC 88 b6, fn0 73, fn0 74]) ∧
    FnAt w' b0 69 ∧ FnAt w' b1 66 ∧ FnAt w' b2 69 ∧ FnAt w' b3 65 ∧ FnAt w' b4 71 ∧ FnAt w' b5 65 ∧ FnAt w' b6 72 ∧ w.grownBy w' none
theorem chosen_new (g : FuncId) (w : World) : Calls Tryz.prog 68 #[fn0 g] w (fun e w' => e = .returned (fnC 88 w.heap.size) ∧ w' = w.alloc (.cells #[fn0 g] 117)) := by
  unfold fn0 fnC
  go_enter Tryz.func68, Tryz.ntmps68
  go_wp2_with fail
  go_ret
  exact ⟨rfl, rfl⟩
theorem numbered_new (g : FuncId) (w : World) : Calls Tryz.prog 70 #[fn0 g] w (fun e w' => e = .returned (fnC 89 w.heap.size) ∧ w' = w.alloc (.cells #[fn0 g] 115)) := by
  unfold fn0 fnC
  go_enter Tryz.func70, Tryz.ntmps70
  go_wp2_with fail
  go_ret
  exact ⟨rfl, rfl⟩
theorem FnAt.grown {w w' : World} {b : Nat} {g : FuncId} (h : FnAt w b g) (hg : w.grownBy w' none) : FnAt w' b g :=
  ⟨(World.cell?_of_block (a := ⟨b, 0, none⟩) (hg.block b h.2 (by simp))).trans h.1, Nat.lt_of_lt_of_le h.2 hg.size⟩
theorem FnAt.far {w w' : World} {b r : Nat} {g : FuncId} (h : FnAt w b g) (hg : w.grownBy w' (some r)) (hb : b ≠ r) : FnAt w' b g :=
  ⟨(World.cell?_of_block (a := ⟨b, 0, none⟩) (hg.block b h.2 (by simpa using hb))).trans h.1, Nat.lt_of_lt_of_le h.2 hg.size⟩
theorem chosen_new2 (g : FuncId) (w : World) : Calls Tryz.prog 68 #[fn0 g] w (fun e w' => ∃ b, e = .returned (fnC 88 b) ∧ FnAt w' b g ∧ w.grownBy w' none ∧ w.heap.size ≤ b) :=
  (chosen_new g w).mono fun e w' h => ⟨w.heap.size, h.1, by rw [h.2]; exact ⟨(Blk.new w _ _).cell 0, by simp⟩, by rw [h.2]; exact only_alloc (only_refl _ _) _, Nat.le_refl _⟩
theorem numbered_new2 (g : FuncId) (w : World) : Calls Tryz.prog 70 #[fn0 g] w (fun e w' => ∃ b, e = .returned (fnC 89 b) ∧ FnAt w' b g ∧ w.grownBy w' none ∧ w.heap.size ≤ b) :=
  (numbered_new g w).mono fun e w' h => ⟨w.heap.size, h.1, by rw [h.2]; exact ⟨(Blk.new w _ _).cell 0, by simp⟩, by rw [h.2]; exact only_alloc (only_refl _ _) _, Nat.le_refl _⟩
set_option maxHeartbeats 4000000 in
set_option maxRecDepth 100000 in
theorem kinds_any (w : World) : Calls Tryz.prog 50 #[] w (KindsP w) := by
  have HC := Lib.hid chosen_new2
  have HN := Lib.hid numbered_new2
  simp only [fn0, fnC] at HC HN
  go_enter Tryz.func50, Tryz.ntmps50
  go_wp2_with fail
  refine (HC.out _ _).mono ?_
  rintro e w1 ⟨b0, rfl, hf, hg, hb0⟩
  simp at hb0
  have hz1 : w.heap.size < w1.heap.size := by have := hg.size; simp at this; omega
  have F0 := Lib.hid hf
  have G1 : Hid (w.grownBy w1 none) := Lib.hid (only_trans (only_alloc (only_refl _ _) _) hg)
  have B1 : Hid (Blk w1 w.heap.size 97 #[.nilFunc, .nilFunc, .nilFunc, .nilFunc, .nilFunc, .nilFunc, .nilFunc, .nilFunc, .nilFunc, .nilFunc]) := Lib.hid ((Blk.new w _ _).grown hg (by simp))
  clear hf hg
  go_wp2_with fail
  refine (HN.out _ _).mono ?_
  rintro e w2 ⟨b1, rfl, hf, hg, hb1⟩
  have hz2 : w.heap.size < w2.heap.size := by have := hg.size; omega
  have F1 := Lib.hid hf
  have G2 : Hid (w.grownBy w2 none) := Lib.hid (only_trans (G1.out) hg)
  have B2 := Lib.hid (B1.out.grown hg (by simp))
  replace F0 := Lib.hid (F0.out.grown hg)
  clear hf hg
  clear G1 B1
  go_wp2_with fail
  refine (HC.out _ _).mono ?_
  rintro e w3 ⟨b2, rfl, hf, hg, hb2⟩
  have hz3 : w.heap.size < w3.heap.size := by have := hg.size; omega
  have F2 := Lib.hid hf
  have G3 : Hid (w.grownBy w3 none) := Lib.hid (only_trans (G2.out) hg)
  have B3 := Lib.hid (B2.out.grown hg (by simp))
  replace F0 := Lib.hid (F0.out.grown hg)
  replace F1 := Lib.hid (F1.out.grown hg)
  clear hf hg
  clear G2 B2
  go_wp2_with fail
  refine (HN.out _ _).mono ?_
  rintro e w4 ⟨b3, rfl, hf, hg, hb3⟩
  have hz4 : w.heap.size < w4.heap.size := by have := hg.size; omega
  have F3 := Lib.hid hf
  have G4 : Hid (w.grownBy w4 none) := Lib.hid (only_trans (G3.out) hg)
  have B4 := Lib.hid (B3.out.grown hg (by simp))
  replace F0 := Lib.hid (F0.out.grown hg)
  replace F1 := Lib.hid (F1.out.grown hg)
  replace F2 := Lib.hid (F2.out.grown hg)
  clear hf hg
  clear G3 B3
  go_wp2_with fail
  refine (HC.out _ _).mono ?_
  rintro e w5 ⟨b4, rfl, hf, hg, hb4⟩
  have hz5 : w.heap.size < w5.heap.size := by have := hg.size; omega
  have F4 := Lib.hid hf
  have G5 : Hid (w.grownBy w5 none) := Lib.hid (only_trans (G4.out) hg)
  have B5 := Lib.hid (B4.out.grown hg (by simp))
  replace F0 := Lib.hid (F0.out.grown hg)
  replace F1 := Lib.hid (F1.out.grown hg)
  replace F2 := Lib.hid (F2.out.grown hg)
  replace F3 := Lib.hid (F3.out.grown hg)
  clear hf hg
  clear G4 B4
  go_wp2_with fail
  refine (HN.out _ _).mono ?_
  rintro e w6 ⟨b5, rfl, hf, hg, hb5⟩
  have hz6 : w.heap.size < w6.heap.size := by have := hg.size; omega
  have F5 := Lib.hid hf
  have G6 : Hid (w.grownBy w6 none) := Lib.hid (only_trans (G5.out) hg)
  have B6 := Lib.hid (B5.out.grown hg (by simp))
  replace F0 := Lib.hid (F0.out.grown hg)
  replace F1 := Lib.hid (F1.out.grown hg)
  replace F2 := Lib.hid (F2.out.grown hg)
  replace F3 := Lib.hid (F3.out.grown hg)
  replace F4 := Lib.hid (F4.out.grown hg)
  clear hf hg
  clear G5 B5
  go_wp2_with fail
  refine (HC.out _ _).mono ?_
  rintro e w7 ⟨b6, rfl, hf, hg, hb6⟩
  have hz7 : w.heap.size < w7.heap.size := by have := hg.size; omega
  have F6 := Lib.hid hf
  have G7 : Hid (w.grownBy w7 none) := Lib.hid (only_trans (G6.out) hg)
  have B7 := Lib.hid (B6.out.grown hg (by simp))
  replace F0 := Lib.hid (F0.out.grown hg)
  replace F1 := Lib.hid (F1.out.grown hg)
  replace F2 := Lib.hid (F2.out.grown hg)
  replace F3 := Lib.hid (F3.out.grown hg)
  replace F4 := Lib.hid (F4.out.grown hg)
  replace F5 := Lib.hid (F5.out.grown hg)
  clear hf hg
  clear G6 B6
  have hB := B7.out
  have c0 := hB.cell 0; have c1 := hB.cell 1; have c2 := hB.cell 2; have c3 := hB.cell 3; have c4 := hB.cell 4; have c5 := hB.cell 5; have c6 := hB.cell 6; have c7 := hB.cell 7; have c8 := hB.cell 8; have c9 := hB.cell 9
  have f0 := hB.frozen 0; have f1 := hB.frozen 1; have f2 := hB.frozen 2; have f3 := hB.frozen 3; have f4 := hB.frozen 4; have f5 := hB.frozen 5; have f6 := hB.frozen 6; have f7 := hB.frozen 7; have f8 := hB.frozen 8; have f9 := hB.frozen 9
  simp at c0 c1 c2 c3 c4 c5 c6 c7 c8 c9
  clear hB HC HN
  have SF := fun (w : World) (a : Addr) (fn : Fn) (fs lb : Array Value) (m : Mode) => run_store Tryz.prog w a (.func fn fs lb) m rfl
  go_wp2_with fail
  have hB9 : Blk ((((((((((w7.setCell ⟨w.heap.size, 0, none⟩ (.func (.func 67) #[] #[])).setCell ⟨w.heap.size, 1, none⟩ (.func (.func 88) #[] #[.pointer (some ⟨b0, 0, none⟩)])).setCell ⟨w.heap.size, 2, none⟩ (.func (.func 89) #[] #[.pointer (some ⟨b1, 0, none⟩)])).setCell ⟨w.heap.size, 3, none⟩ (.func (.func 88) #[] #[.pointer (some ⟨b2, 0, none⟩)])).setCell ⟨w.heap.size, 4, none⟩ (.func (.func 89) #[] #[.pointer (some ⟨b3, 0, none⟩)])).setCell ⟨w.heap.size, 5, none⟩ (.func (.func 88) #[] #[.pointer (some ⟨b4, 0, none⟩)])).setCell ⟨w.heap.size, 6, none⟩ (.func (.func 89) #[] #[.pointer (some ⟨b5, 0, none⟩)])).setCell ⟨w.heap.size, 7, none⟩ (.func (.func 88) #[] #[.pointer (some ⟨b6, 0, none⟩)])).setCell ⟨w.heap.size, 8, none⟩ (.func (.func 73) #[] #[])).setCell ⟨w.heap.size, 9, none⟩ (.func (.func 74) #[] #[])) w.heap.size 97 #[.func (.func 67) #[] #[], .func (.func 88) #[] #[.pointer (some ⟨b0, 0, none⟩)], .func (.func 89) #[] #[.pointer (some ⟨b1, 0, none⟩)], .func (.func 88) #[] #[.pointer (some ⟨b2, 0, none⟩)], .func (.func 89) #[] #[.pointer (some ⟨b3, 0, none⟩)], .func (.func 88) #[] #[.pointer (some ⟨b4, 0, none⟩)], .func (.func 89) #[] #[.pointer (some ⟨b5, 0, none⟩)], .func (.func 88) #[] #[.pointer (some ⟨b6, 0, none⟩)], .func (.func 73) #[] #[], .func (.func 74) #[] #[]] := by simpa using ((((((((((B7.out.set_ 0 (.func (.func 67) #[] #[])).set_ 1 (.func (.func 88) #[] #[.pointer (some ⟨b0, 0, none⟩)])).set_ 2 (.func (.func 89) #[] #[.pointer (some ⟨b1, 0, none⟩)])).set_ 3 (.func (.func 88) #[] #[.pointer (some ⟨b2, 0, none⟩)])).set_ 4 (.func (.func 89) #[] #[.pointer (some ⟨b3, 0, none⟩)])).set_ 5 (.func (.func 88) #[] #[.pointer (some ⟨b4, 0, none⟩)])).set_ 6 (.func (.func 89) #[] #[.pointer (some ⟨b5, 0, none⟩)])).set_ 7 (.func (.func 88) #[] #[.pointer (some ⟨b6, 0, none⟩)])).set_ 8 (.func (.func 73) #[] #[])).set_ 9 (.func (.func 74) #[] #[]))
  have hG9 : w7.grownBy ((((((((((w7.setCell ⟨w.heap.size, 0, none⟩ (.func (.func 67) #[] #[])).setCell ⟨w.heap.size, 1, none⟩ (.func (.func 88) #[] #[.pointer (some ⟨b0, 0, none⟩)])).setCell ⟨w.heap.size, 2, none⟩ (.func (.func 89) #[] #[.pointer (some ⟨b1, 0, none⟩)])).setCell ⟨w.heap.size, 3, none⟩ (.func (.func 88) #[] #[.pointer (some ⟨b2, 0, none⟩)])).setCell ⟨w.heap.size, 4, none⟩ (.func (.func 89) #[] #[.pointer (some ⟨b3, 0, none⟩)])).setCell ⟨w.heap.size, 5, none⟩ (.func (.func 88) #[] #[.pointer (some ⟨b4, 0, none⟩)])).setCell ⟨w.heap.size, 6, none⟩ (.func (.func 89) #[] #[.pointer (some ⟨b5, 0, none⟩)])).setCell ⟨w.heap.size, 7, none⟩ (.func (.func 88) #[] #[.pointer (some ⟨b6, 0, none⟩)])).setCell ⟨w.heap.size, 8, none⟩ (.func (.func 73) #[] #[])).setCell ⟨w.heap.size, 9, none⟩ (.func (.func 74) #[] #[])) (some w.heap.size) := (only_setCell (only_setCell (only_setCell (only_setCell (only_setCell (only_setCell (only_setCell (only_setCell (only_setCell (only_setCell (only_refl w7 (some w.heap.size)) (p := ⟨w.heap.size, 0, none⟩) (.inl rfl) (.func (.func 67) #[] #[])) (p := ⟨w.heap.size, 1, none⟩) (.inl rfl) (.func (.func 88) #[] #[.pointer (some ⟨b0, 0, none⟩)])) (p := ⟨w.heap.size, 2, none⟩) (.inl rfl) (.func (.func 89) #[] #[.pointer (some ⟨b1, 0, none⟩)])) (p := ⟨w.heap.size, 3, none⟩) (.inl rfl) (.func (.func 88) #[] #[.pointer (some ⟨b2, 0, none⟩)])) (p := ⟨w.heap.size, 4, none⟩) (.inl rfl) (.func (.func 89) #[] #[.pointer (some ⟨b3, 0, none⟩)])) (p := ⟨w.heap.size, 5, none⟩) (.inl rfl) (.func (.func 88) #[] #[.pointer (some ⟨b4, 0, none⟩)])) (p := ⟨w.heap.size, 6, none⟩) (.inl rfl) (.func (.func 89) #[] #[.pointer (some ⟨b5, 0, none⟩)])) (p := ⟨w.heap.size, 7, none⟩) (.inl rfl) (.func (.func 88) #[] #[.pointer (some ⟨b6, 0, none⟩)])) (p := ⟨w.heap.size, 8, none⟩) (.inl rfl) (.func (.func 73) #[] #[])) (p := ⟨w.heap.size, 9, none⟩) (.inl rfl) (.func (.func 74) #[] #[]))
  have hN9 : w.grownBy ((((((((((w7.setCell ⟨w.heap.size, 0, none⟩ (.func (.func 67) #[] #[])).setCell ⟨w.heap.size, 1, none⟩ (.func (.func 88) #[] #[.pointer (some ⟨b0, 0, none⟩)])).setCell ⟨w.heap.size, 2, none⟩ (.func (.func 89) #[] #[.pointer (some ⟨b1, 0, none⟩)])).setCell ⟨w.heap.size, 3, none⟩ (.func (.func 88) #[] #[.pointer (some ⟨b2, 0, none⟩)])).setCell ⟨w.heap.size, 4, none⟩ (.func (.func 89) #[] #[.pointer (some ⟨b3, 0, none⟩)])).setCell ⟨w.heap.size, 5, none⟩ (.func (.func 88) #[] #[.pointer (some ⟨b4, 0, none⟩)])).setCell ⟨w.heap.size, 6, none⟩ (.func (.func 89) #[] #[.pointer (some ⟨b5, 0, none⟩)])).setCell ⟨w.heap.size, 7, none⟩ (.func (.func 88) #[] #[.pointer (some ⟨b6, 0, none⟩)])).setCell ⟨w.heap.size, 8, none⟩ (.func (.func 73) #[] #[])).setCell ⟨w.heap.size, 9, none⟩ (.func (.func 74) #[] #[])) none := (only_setN (only_setN (only_setN (only_setN (only_setN (only_setN (only_setN (only_setN (only_setN (only_setN G7.out (p := ⟨w.heap.size, 0, none⟩) (Nat.le_refl _) (.func (.func 67) #[] #[])) (p := ⟨w.heap.size, 1, none⟩) (Nat.le_refl _) (.func (.func 88) #[] #[.pointer (some ⟨b0, 0, none⟩)])) (p := ⟨w.heap.size, 2, none⟩) (Nat.le_refl _) (.func (.func 89) #[] #[.pointer (some ⟨b1, 0, none⟩)])) (p := ⟨w.heap.size, 3, none⟩) (Nat.le_refl _) (.func (.func 88) #[] #[.pointer (some ⟨b2, 0, none⟩)])) (p := ⟨w.heap.size, 4, none⟩) (Nat.le_refl _) (.func (.func 89) #[] #[.pointer (some ⟨b3, 0, none⟩)])) (p := ⟨w.heap.size, 5, none⟩) (Nat.le_refl _) (.func (.func 88) #[] #[.pointer (some ⟨b4, 0, none⟩)])) (p := ⟨w.heap.size, 6, none⟩) (Nat.le_refl _) (.func (.func 89) #[] #[.pointer (some ⟨b5, 0, none⟩)])) (p := ⟨w.heap.size, 7, none⟩) (Nat.le_refl _) (.func (.func 88) #[] #[.pointer (some ⟨b6, 0, none⟩)])) (p := ⟨w.heap.size, 8, none⟩) (Nat.le_refl _) (.func (.func 73) #[] #[])) (p := ⟨w.heap.size, 9, none⟩) (Nat.le_refl _) (.func (.func 74) #[] #[]))
  have q0 := hB9.cell 0; have q1 := hB9.cell 1; have q2 := hB9.cell 2; have q3 := hB9.cell 3; have q4 := hB9.cell 4; have q5 := hB9.cell 5; have q6 := hB9.cell 6; have q7 := hB9.cell 7; have q8 := hB9.cell 8; have q9 := hB9.cell 9
  simp at q0 q1 q2 q3 q4 q5 q6 q7 q8 q9
  exact bodyPost_ret (v := .agg #[.func (.func 67) #[] #[], .func (.func 88) #[] #[.pointer (some ⟨b0, 0, none⟩)], .func (.func 89) #[] #[.pointer (some ⟨b1, 0, none⟩)], .func (.func 88) #[] #[.pointer (some ⟨b2, 0, none⟩)], .func (.func 89) #[] #[.pointer (some ⟨b3, 0, none⟩)], .func (.func 88) #[] #[.pointer (some ⟨b4, 0, none⟩)], .func (.func 89) #[] #[.pointer (some ⟨b5, 0, none⟩)], .func (.func 88) #[] #[.pointer (some ⟨b6, 0, none⟩)], .func (.func 73) #[] #[], .func (.func 74) #[] #[]]) (by simp [results, Tryz.results50, go_sem, q0, q1, q2, q3, q4, q5, q6, q7, q8, q9]) rfl ⟨b0, b1, b2, b3, b4, b5, b6, rfl, F0.out.far hG9 (by omega), F1.out.far hG9 (by omega), F2.out.far hG9 (by omega), F3.out.far hG9 (by omega), F4.out.far hG9 (by omega), F5.out.far hG9 (by omega), F6.out.far hG9 (by omega), hN9⟩
end Go.Proofs.YtfkgcighooijhaaGreatDoor
