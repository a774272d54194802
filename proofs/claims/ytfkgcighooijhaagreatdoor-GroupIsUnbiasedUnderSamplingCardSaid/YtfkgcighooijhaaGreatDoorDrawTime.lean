/- The draw of a time. No condition. -/
import Derived.Test.YtfkgcighooijhaaGreatDoorDraw
namespace Go.Proofs.YtfkgcighooijhaaGreatDoor
open Go.RowKit
set_option linter.unusedVariables false
set_option linter.unusedSimpArgs false

set_option maxHeartbeats 800000 in
theorem time_some (g : Nat) (l : List Int) (k : Nat) (w : World) (h : CodesAt w g l k) :
    Calls Tryz.prog 40 #[.pointer (some ⟨g, 0, none⟩)] w (DrawnPost w g l (fun v => 0 ≤ v ∧ v ≤ 253402300799999)) := by
  go_enter Tryz.func40, Tryz.ntmps40
  go_wp2_with fail
  refine (next_some g l k 4 _ h (by omega) (by omega)).mono ?_
  rintro e w1 ⟨v, k1, rfl, hv, h1, hg1⟩
  by_cases h0 : v = 0
  · have hb : (v == 0) = true := by simp [h0]
    clear h0
    go_wp2_with fail
    refine (next_some g l k1 40 _ h1 (by omega) (by omega)).mono ?_
    rintro e w2 ⟨v2, k2, rfl, hv2, h2, hg2⟩
    go_wp2
    go_ret
    exact ⟨_, k2, rfl, by simp; omega, h2, only_trans hg1 hg2⟩
  · have hb : (v == 0) = false := by simp [h0]
    by_cases h1' : v = 1
    · have hb : (v == 1) = true := by simp [h1']
      clear h0 h1'
      go_wp2_with fail
      refine (next_some g l k1 3 _ h1 (by omega) (by omega)).mono ?_
      rintro e w2 ⟨v2, k2, rfl, hv2, h2, hg2⟩
      go_wp2
      go_ret
      exact ⟨_, k2, rfl, by simp; omega, h2, only_trans hg1 hg2⟩
    · have hb : (v == 1) = false := by simp [h1']
      clear h0 h1'
      go_wp2_with fail
      refine (next_some g l k1 60 _ h1 (by omega) (by omega)).mono ?_
      rintro e w2 ⟨v2, k2, rfl, hv2, h2, hg2⟩
      go_wp2
      go_ret
      exact ⟨_, k2, rfl, by simp; omega, h2, only_trans hg1 hg2⟩
end Go.Proofs.YtfkgcighooijhaaGreatDoor
