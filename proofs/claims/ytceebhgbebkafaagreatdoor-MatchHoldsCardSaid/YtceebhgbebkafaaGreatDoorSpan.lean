/- The methods of a range of times (match.span). No condition. -/
import Derived.Test.YtceebhgbebkafaaGreatDoorTimesP
import Derived.Test.YtceebhgbebkafaaGreatDoorDraw
import Derived.Deep.DeepCutAuto
namespace Go.Proofs.YtceebhgbebkafaaGreatDoor
open Go.RowKit
set_option linter.unusedVariables false
set_option linter.unusedSimpArgs false

def spanV (p : Int × Int) : Value := .agg #[.int .i64 p.1, .int .i64 p.2]
def SpanP (w : World) (p : Int × Int) (e : Ending) (w' : World) : Prop := e = .returned (spanV p) ∧ w.grownBy w' none
set_option maxHeartbeats 1000000 in
theorem empty_any (a : Int × Int) (w : World) : Calls Tryz.prog 51 #[spanV a] w (fun e w' => e = .returned (.bool (decide (a.2 < a.1))) ∧ w.grownBy w' none) := by
  obtain ⟨a1, a2⟩ := a
  show Calls _ _ #[.agg #[.int .i64 a1, .int .i64 a2]] w _
  go_enter Tryz.func51, Tryz.ntmps51
  go_wp2
  go_ret
  exact ⟨rfl, only_alloc (only_refl _ _) _⟩
set_option maxHeartbeats 1000000 in
theorem meet_any (a b : Int × Int) (w : World) : Calls Tryz.prog 81 #[spanV a, spanV b] w (SpanP w (pMeet a b)) := by
  obtain ⟨a1, a2⟩ := a
  obtain ⟨b1, b2⟩ := b
  show Calls _ _ #[.agg #[.int .i64 a1, .int .i64 a2], .agg #[.int .i64 b1, .int .i64 b2]] w _
  go_enter Tryz.func81, Tryz.ntmps81
  go_wp2
  all_goals
    refine bodyPost_ret (v := spanV (pMeet (a1, a2) (b1, b2))) (by simp [results, Tryz.results81, go_sem, spanV, pMeet]; try omega) rfl ⟨rfl, only_alloc (only_alloc (only_alloc (only_refl _ _) _) _) _⟩
theorem three_new {w w1 : World} {c0 c1 c2 : Array Value} {t : Nat} (hg : (((w.alloc (.cells c0 t)).alloc (.cells c1 t)).alloc (.cells c2 t)).grownBy w1 none) : Blk w1 w.heap.size t c0 ∧ Blk w1 (w.heap.size + 1) t c1 ∧ Blk w1 (w.heap.size + 1 + 1) t c2 ∧ w.grownBy w1 none :=
  ⟨(((Blk.new w t c0).alloc _).alloc _).grown hg (by simp), (by simpa using ((Blk.new (w.alloc (.cells c0 t)) t c1).alloc (.cells c2 t)).grown hg (by simp)), (by simpa using (Blk.new ((w.alloc (.cells c0 t)).alloc (.cells c1 t)) t c2).grown hg (by simp)), only_trans (only_alloc (only_alloc (only_alloc (only_refl _ _) _) _) _) hg⟩
theorem set2_end {w w1 : World} {b t : Nat} {c : Array Value} (h : Blk w1 b t c) (hc : c.size = 2) (hg : w.grownBy w1 none) (hb : w.heap.size ≤ b) (x y : Value) :
    ((w1.setCell ⟨b, 0, none⟩ x).setCell ⟨b, 1, none⟩ y).cell? ⟨b, 0, none⟩ = some x ∧ ((w1.setCell ⟨b, 0, none⟩ x).setCell ⟨b, 1, none⟩ y).cell? ⟨b, 1, none⟩ = some y ∧ w.grownBy ((w1.setCell ⟨b, 0, none⟩ x).setCell ⟨b, 1, none⟩ y) none := by
  obtain ⟨l⟩ := c
  match l, hc with
  | [u, v], _ =>
    have h2 := (h.set_ 0 x).set_ 1 y
    refine ⟨(h2.cell 0).trans rfl, (h2.cell 1).trans rfl, ?_⟩
    have h0 : w1.grownBy w1 (some b) := only_refl _ _
    exact only_fresh hg (only_setCell (only_setCell h0 (p := ⟨b, 0, none⟩) (.inl rfl) x) (p := ⟨b, 1, none⟩) (.inl rfl) y) hb
set_option maxHeartbeats 1000000 in
theorem join_any (a b : Int × Int) (w : World) : Calls Tryz.prog 82 #[spanV a, spanV b] w (SpanP w (pJoin a b)) := by
  obtain ⟨a1, a2⟩ := a
  obtain ⟨b1, b2⟩ := b
  show Calls _ _ #[.agg #[.int .i64 a1, .int .i64 a2], .agg #[.int .i64 b1, .int .i64 b2]] w _
  have he := empty_any (a1, a2)
  have he' := empty_any (b1, b2)
  by_cases h1 : a2 < a1
  · have hd1 : decide (a2 < a1) = true := by simp [h1]
    have hv : pJoin (a1, a2) (b1, b2) = (b1, b2) := by simp [pJoin, h1]
    simp only [hd1] at he
    rw [hv]
    clear h1 hd1 hv he'
    go_enter Tryz.func82, Tryz.ntmps82
    go_wp2_with fail
    refine (he _).mono ?_
    rintro e w1 ⟨rfl, hg1⟩
    obtain ⟨B0, B1, B2, G1⟩ := three_new hg1
    have k0 := B0.cell 0; have k1 := B0.cell 1; have m0 := B1.cell 0; have m1 := B1.cell 1; have n0 := B2.cell 0; have n1 := B2.cell 1; have f0 := B2.frozen 0; have f1 := B2.frozen 1
    simp at k0 k1 m0 m1 n0 n1
    clear hg1 he
    go_wp2_with fail
    obtain ⟨q0, q1, q2⟩ := set2_end B2 rfl G1 (by omega) (.int .i64 b1) (.int .i64 b2)
    refine bodyPost_ret (v := spanV (b1, b2)) (by simp [results, Tryz.results82, go_sem, spanV, q0, q1]; try omega) rfl ⟨rfl, q2⟩
  have hd1 : decide (a2 < a1) = false := by simp [h1]
  by_cases h2 : b2 < b1
  · have hd2 : decide (b2 < b1) = true := by simp [h2]
    have hv : pJoin (a1, a2) (b1, b2) = (a1, a2) := by simp [pJoin, h1, h2]
    simp only [hd1] at he
    simp only [hd2] at he'
    rw [hv]
    clear h1 h2 hd1 hd2 hv
    go_enter Tryz.func82, Tryz.ntmps82
    go_wp2_with fail
    refine (he _).mono ?_
    rintro e w1 ⟨rfl, hg1⟩
    obtain ⟨B0, B1, B2, G1⟩ := three_new hg1
    have k0 := B0.cell 0; have k1 := B0.cell 1; have m0 := B1.cell 0; have m1 := B1.cell 1; have n0 := B2.cell 0; have n1 := B2.cell 1; have f0 := B2.frozen 0; have f1 := B2.frozen 1
    simp at k0 k1 m0 m1 n0 n1
    clear hg1 he
    go_wp2_with fail
    refine (he' _).mono ?_
    rintro e w2 ⟨rfl, hg2⟩
    have B0' := B0.grown hg2 (by simp); have B1' := B1.grown hg2 (by simp); have B2' := B2.grown hg2 (by simp); have G2 := only_trans G1 hg2
    have k0 := B0'.cell 0; have k1 := B0'.cell 1; have m0 := B1'.cell 0; have m1 := B1'.cell 1; have n0 := B2'.cell 0; have n1 := B2'.cell 1; have f0 := B2'.frozen 0; have f1 := B2'.frozen 1
    simp at k0 k1 m0 m1 n0 n1
    clear hg2 he'
    go_wp2_with fail
    obtain ⟨q0, q1, q2⟩ := set2_end B2' rfl G2 (by omega) (.int .i64 a1) (.int .i64 a2)
    refine bodyPost_ret (v := spanV (a1, a2)) (by simp [results, Tryz.results82, go_sem, spanV, q0, q1]; try omega) rfl ⟨rfl, q2⟩
  · have hd2 : decide (b2 < b1) = false := by simp [h2]
    have hv : pJoin (a1, a2) (b1, b2) = (min a1 b1, max a2 b2) := by simp [pJoin, h1, h2]
    simp only [hd1] at he
    simp only [hd2] at he'
    rw [hv]
    clear h1 h2 hd1 hd2 hv
    go_enter Tryz.func82, Tryz.ntmps82
    go_wp2_with fail
    refine (he _).mono ?_
    rintro e w1 ⟨rfl, hg1⟩
    obtain ⟨B0, B1, B2, G1⟩ := three_new hg1
    have k0 := B0.cell 0; have k1 := B0.cell 1; have m0 := B1.cell 0; have m1 := B1.cell 1; have n0 := B2.cell 0; have n1 := B2.cell 1; have f0 := B2.frozen 0; have f1 := B2.frozen 1
    simp at k0 k1 m0 m1 n0 n1
    clear hg1 he
    go_wp2_with fail
    refine (he' _).mono ?_
    rintro e w2 ⟨rfl, hg2⟩
    have B0' := B0.grown hg2 (by simp); have B1' := B1.grown hg2 (by simp); have B2' := B2.grown hg2 (by simp); have G2 := only_trans G1 hg2
    have k0 := B0'.cell 0; have k1 := B0'.cell 1; have m0 := B1'.cell 0; have m1 := B1'.cell 1; have n0 := B2'.cell 0; have n1 := B2'.cell 1; have f0 := B2'.frozen 0; have f1 := B2'.frozen 1
    simp at k0 k1 m0 m1 n0 n1
    clear hg2 he'
    go_wp2_with fail
    all_goals
      first
      | (have e1 : min a1 b1 = a1 := by omega
         have e2 : max a2 b2 = a2 := by omega
         obtain ⟨q0, q1, q2⟩ := set2_end B2' rfl G2 (by omega) (.int .i64 a1) (.int .i64 a2)
         rw [e1, e2]
         exact bodyPost_ret (v := spanV (a1, a2)) (by simp [results, Tryz.results82, go_sem, spanV, q0, q1]) rfl ⟨rfl, q2⟩)
      | (have e1 : min a1 b1 = a1 := by omega
         have e2 : max a2 b2 = b2 := by omega
         obtain ⟨q0, q1, q2⟩ := set2_end B2' rfl G2 (by omega) (.int .i64 a1) (.int .i64 b2)
         rw [e1, e2]
         exact bodyPost_ret (v := spanV (a1, b2)) (by simp [results, Tryz.results82, go_sem, spanV, q0, q1]) rfl ⟨rfl, q2⟩)
      | (have e1 : min a1 b1 = b1 := by omega
         have e2 : max a2 b2 = a2 := by omega
         obtain ⟨q0, q1, q2⟩ := set2_end B2' rfl G2 (by omega) (.int .i64 b1) (.int .i64 a2)
         rw [e1, e2]
         exact bodyPost_ret (v := spanV (b1, a2)) (by simp [results, Tryz.results82, go_sem, spanV, q0, q1]) rfl ⟨rfl, q2⟩)
      | (have e1 : min a1 b1 = b1 := by omega
         have e2 : max a2 b2 = b2 := by omega
         obtain ⟨q0, q1, q2⟩ := set2_end B2' rfl G2 (by omega) (.int .i64 b1) (.int .i64 b2)
         rw [e1, e2]
         exact bodyPost_ret (v := spanV (b1, b2)) (by simp [results, Tryz.results82, go_sem, spanV, q0, q1]) rfl ⟨rfl, q2⟩)
end Go.Proofs.YtceebhgbebkafaaGreatDoor
