/- The table of powers of ten, out of what the row lists. No condition. -/
import Derived.Test.YtfkgcighooijhaaGreatDoorRows
import Derived.ProofKit
import Derived.LaidMore
import Derived.LaidLaws
import Derived.Handed
import Derived.Stop.Joined
import Derived.Test.YtfkgcighooijhaaGreatDoorSpec
import Derived.Shelf.Vars
import Derived.Lib.LaidTab
namespace Go.Proofs.YtfkgcighooijhaaGreatDoor
open Go Go.ChangeShapes Go.WideShapes Go.ChangeAt Go.RowKit

theorem tabP : (Rows.laid_internal_strconv_uint64pow10 : DataW Unit) = Lib.tabData .u64 Lib.pow10Tab := rfl
theorem pow10_of {W : World} {n1 n2 : String} {d1 d2 : DataW Unit} {rest : List (String × DataW Unit)} (h : laidMet Tryz.prog ((n1, d1) :: (n2, d2) :: ("internal/strconv.uint64pow10", Rows.laid_internal_strconv_uint64pow10) :: rest) W) : Pow10 W := by
  obtain ⟨ps, ⟨g0, t0, cs0, f0, p0, q0, hg0, ht0, hv0, hd0, ⟨g1, t1, cs1, f1, p1, q1, hg1, ht1, hv1, hd1, ⟨g2, t2, cs2, f2, p2, q2, hg2, ht2, hv2, hd2, _⟩, _⟩, _⟩, _⟩ := h
  obtain rfl := Option.some.inj ((show Tryz.prog.globalNamed "internal/strconv.uint64pow10" = some 0 by kernel_rfl).symm.trans hg2)
  obtain rfl := Option.some.inj ((show (Tryz.prog.globals[0]?).map (·.type) = some 159 by kernel_rfl).symm.trans ht2)
  rw [tabP] at hd2
  have hc := Lib.cells_of_tab Tryz.underlying159 Tryz.underlying134 (by kernel_rfl) (by kernel_rfl) hd2
  unfold Pow10 Lib.TabIs
  rw [hv2, ← hc]
end Go.Proofs.YtfkgcighooijhaaGreatDoor
