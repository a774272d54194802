/-
  DERIVED. GIVEN WITH THE SEED: THE PROGRAM's TIES (one call each: nine closed facts by the kernel) AND EACH ROW's TIE, after the 31st guide's Derived/Test/Toyas{Tie, Card}.lean. No idea stands in it: it is a product of the set-up. Laid BY PROGRAM, IN A SANDBOX (cutbox-door.mjs). By AI agents, Wed Nov 11 2026. No macro, syntax, notation, axiom, sorry.
-/
import Derived.Test.YtpaiideboodaeaaGreatDoorRows
import Derived.LaidByTextLater
import Derived.SevenTiedAt
import Derived.LaidSub
import Derived.LaidOnce
namespace Go.Proofs.YtpaiideboodaeaaGreatDoor
open Go
set_option maxRecDepth 100000
theorem seatTie1 : Tryz.prog.laidByTextLater [("logtide/ascii.kinds", Rows.laid_logtide_ascii_kinds)] [.called] true :=
  Program.laidByTextLater_by_one 1061 8 257 (by kernel_rfl) (by kernel_rfl) (by kernel_rfl) (by kernel_rfl) (by kernel_rfl) (by kernel_rfl) (fun _ _ => by kernel_rfl)
theorem noOwnUnsafe : Tryz.pinned.checked.prog.headLifts.contains "ownunsafe" = false := by kernel_rfl
theorem tie : Tryz.prog.laidByTextLater [("logtide/ascii.kinds", Rows.laid_logtide_ascii_kinds)] [.called] true :=
  Program.laidByTextLater.sub seatTie1 ["logtide/ascii.kinds"] (by kernel_rfl) (by kernel_rfl)
theorem segmentEncode_row_tie : Rows.segmentEncodeRow.laidByTextAt .later Tryz.pinned [.called] true :=
  OpenClaim.laidByTextAt_later rfl rfl tie noOwnUnsafe
theorem segmentFilterSize_row_tie : Rows.segmentFilterSizeRow.laidByTextAt .later Tryz.pinned [.called] true :=
  OpenClaim.laidByTextAt_later rfl rfl tie noOwnUnsafe
theorem segmentFindsDamage_row_tie : Rows.segmentFindsDamageRow.laidByTextAt .later Tryz.pinned [.called] true :=
  OpenClaim.laidByTextAt_later rfl rfl tie noOwnUnsafe
theorem segmentEncodeUpto_row_tie : Rows.segmentEncodeUptoRow.laidByTextAt .later Tryz.pinned [.called] true :=
  OpenClaim.laidByTextAt_later rfl rfl tie noOwnUnsafe
theorem segmentFilterSizeUpto_row_tie : Rows.segmentFilterSizeUptoRow.laidByTextAt .later Tryz.pinned [.called] true :=
  OpenClaim.laidByTextAt_later rfl rfl tie noOwnUnsafe
theorem segmentFindsDamageUpto_row_tie : Rows.segmentFindsDamageUptoRow.laidByTextAt .later Tryz.pinned [.called] true :=
  OpenClaim.laidByTextAt_later rfl rfl tie noOwnUnsafe
end Go.Proofs.YtpaiideboodaeaaGreatDoor
