/- The table of kinds out of the laid variable. No condition. -/
import Derived.Test.YtfbkkbbpgipipaaGreatDoorRows
import Derived.ProofKit
import Derived.LaidMore
import Derived.LaidLaws
import Derived.Handed
import Derived.Stop.Joined
import Derived.Test.YtfbkkbbpgipipaaGreatDoorJGenC
import Derived.HandedShaped
import Derived.Shelf.Vars
import Derived.Lib.LaidTab
namespace Go.Proofs.YtfbkkbbpgipipaaGreatDoor
open Go Go.ChangeShapes Go.WideShapes Go.ChangeAt Go.RowKit

def kindT : List Int := (List.range 256).map fun c => if 48 ≤ c ∧ c ≤ 57 then 1 else if (65 ≤ c ∧ c ≤ 90) ∨ (97 ≤ c ∧ c ≤ 122) then 2 else if c = 32 ∨ c = 9 then 4 else 0
theorem tabK : (Rows.laid_logtide_ascii_kinds : DataW Unit) = Lib.tabData .u8 kindT := by kernel_rfl
theorem kinds_of {W : World} {rest : List (String × DataW Unit)} (h : laidMet Tryz.prog (("logtide/ascii.kinds", Rows.laid_logtide_ascii_kinds) :: rest) W) : Lib.TabIs Tryz.prog W "logtide/ascii.kinds" .u8 kindT := by
  obtain ⟨ps, ⟨g0, t0, cs0, f0, p0, q0, hg0, ht0, hv0, hd0, _⟩, _⟩ := h
  obtain rfl := Option.some.inj ((show Tryz.prog.globalNamed "logtide/ascii.kinds" = some 0 by kernel_rfl).symm.trans hg0)
  obtain rfl := Option.some.inj ((show (Tryz.prog.globals[0]?).map (·.type) = some 111 by kernel_rfl).symm.trans ht0)
  rw [tabK] at hd0
  have hc := Lib.cells_of_tab Tryz.underlying111 Tryz.underlying5 (by kernel_rfl) (by kernel_rfl) hd0
  unfold Lib.TabIs
  rw [hv0, ← hc]
theorem kinds_met {W : World} {rest : List (String × DataW Unit)} (h : laidMet Tryz.prog (("logtide/ascii.kinds", Rows.laid_logtide_ascii_kinds) :: rest) W) : Kinds W := by
  have hT := kinds_of h
  have hl : kindT.length = 256 := by kernel_rfl
  have hg : Tryz.prog.globalNamed "logtide/ascii.kinds" = some 0 := by kernel_rfl
  have hk : ∀ c : Nat, 97 ≤ c → c ≤ 122 → W.cell? ⟨0, c, none⟩ = some (.int .u8 2) := fun c h1 h2 => by
    have h3 := hT.cell hg c (by rw [hl]; omega)
    have h4 : kindT.getD c 0 = 2 := by
      unfold kindT
      rw [List.getD_eq_getElem?_getD, List.getElem?_map, List.getElem?_range (by omega)]
      simp
      omega
    rw [h4] at h3
    exact h3
  exact ⟨World.block_lt_of_cell? W _ (hk 97 (by omega) (by omega)), hk⟩
end Go.Proofs.YtfbkkbbpgipipaaGreatDoor
