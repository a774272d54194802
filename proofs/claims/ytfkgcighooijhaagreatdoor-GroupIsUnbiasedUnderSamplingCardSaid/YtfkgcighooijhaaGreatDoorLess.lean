/- Less of events, both texts; Insert. No condition. -/
import Derived.Test.YtfkgcighooijhaaGreatDoorEv
import Derived.Deep.RegionLaw
namespace Go.Proofs.YtfkgcighooijhaaGreatDoor
open Go.RowKit
set_option linter.unusedVariables false
set_option linter.unusedSimpArgs false

def Ev.less (a b : Ev) : Bool :=
  if a.time ≠ b.time then decide (a.time < b.time) else if a.host ≠ b.host then decide (a.host < b.host) else if a.file ≠ b.file then decide (a.file < b.file) else decide (a.beg < b.beg)
def BoolExt (b : Bool) (w : World) (e : Ending) (w' : World) : Prop := e = .returned (.bool b) ∧ w.grownBy w' none

set_option maxHeartbeats 1000000 in
theorem rless_any (a b : Ev) (w : World) : Calls Tryz.prog 64 #[.agg a.cells.toArray, .agg b.cells.toArray] w (BoolExt (a.less b) w) := by
  have hE : w.grownBy ((w.alloc (.cells a.cells.toArray 35)).alloc (.cells b.cells.toArray 35)) none := only_alloc (only_alloc (only_refl _ _) _) _
  have HE := Lib.hid hE
  clear hE
  simp only [Ev.cells] at HE ⊢
  by_cases h1 : a.time = b.time
  · have b1 : (a.time != b.time) = false := by simp [h1]
    by_cases h2 : a.host = b.host
    · have b2 : (a.host != b.host) = false := by simp [h2]
      by_cases h3 : a.file = b.file
      · have b3 : (a.file != b.file) = false := by simp [h3]
        have hl : a.less b = decide (a.beg < b.beg) := by simp [Ev.less, h1, h2, h3]
        rw [hl]
        clear h1 h2 h3 hl
        go_enter Tryz.func64, Tryz.ntmps64
        go_wp2
        go_ret
        exact ⟨rfl, HE.out⟩
      · have b3 : (a.file != b.file) = true := by simp [h3]
        have hl : a.less b = decide (a.file < b.file) := by simp [Ev.less, h1, h2, h3]
        rw [hl]
        clear h1 h2 h3 hl
        go_enter Tryz.func64, Tryz.ntmps64
        go_wp2
        go_ret
        exact ⟨rfl, HE.out⟩
    · have b2 : (a.host != b.host) = true := by simp [h2]
      have hl : a.less b = decide (a.host < b.host) := by simp [Ev.less, h1, h2]
      rw [hl]
      clear h1 h2 hl
      go_enter Tryz.func64, Tryz.ntmps64
      go_wp2
      go_ret
      exact ⟨rfl, HE.out⟩
  · have b1 : (a.time != b.time) = true := by simp [h1]
    have hl : a.less b = decide (a.time < b.time) := by simp [Ev.less, h1]
    rw [hl]
    clear h1 hl
    go_enter Tryz.func64, Tryz.ntmps64
    go_wp2
    go_ret
    exact ⟨rfl, HE.out⟩
end Go.Proofs.YtfkgcighooijhaaGreatDoor
