/-
  DERIVED. GIVEN WITH THE SEED: THE CARDS: each row of YtpaiideboodaeaaGreatDoorRows.lean that lists a variable, with what it lists TIED to the program's text (the seventh form; the later family's looks); each row that meets fmt, with fmt's text TOLD by the authors' own Lean function (tested against real Go, not proved from fmt's source: count such statements apart). THE CARD IS WHAT COUNTS. Prove the row's statement (the work); the ties are given (YtpaiideboodaeaaGreatDoorTie.lean); close each card by the builder's one call (the guide's Derived/Test/ToyasCard.lean, 'card_holds'). Laid BY PROGRAM, IN A SANDBOX (cutbox-door.mjs). By AI agents, Wed Nov 11 2026. No macro, syntax, notation, axiom, sorry.
-/
import Derived.Test.YtpaiideboodaeaaGreatDoorRows
import GoSem.ClaimSeven
namespace Go.Proofs.YtpaiideboodaeaaGreatDoor
namespace Rows

/-- THE TIED CARD OF 'logtidelaw27.SegmentEncode'. -/
def segmentEncodeCard : Claim7 := { stood := { row := segmentEncodeRow, standIns := [], harness := (true, "e0869dbe2d9904b9b46e34d247b66930b5032c011dd6a2b0c66ee803b4ce1ef1"), looks := false }, kinds := [], alts := [], laidByText := true, laidKinds := [.called], laidTests := true, laidLooks := .later }
def SegmentEncodeCardSaid : Prop := Claim7.holds Tryz.pinned (.plain (OpenSpec.ofChange segmentEncodeSpec)) segmentEncodeCard

/-- THE TIED CARD OF 'logtidelaw27.SegmentFilterSize'. -/
def segmentFilterSizeCard : Claim7 := { stood := { row := segmentFilterSizeRow, standIns := [], harness := (true, "e0869dbe2d9904b9b46e34d247b66930b5032c011dd6a2b0c66ee803b4ce1ef1"), looks := false }, kinds := [], alts := [], laidByText := true, laidKinds := [.called], laidTests := true, laidLooks := .later }
def SegmentFilterSizeCardSaid : Prop := Claim7.holds Tryz.pinned (.plain (OpenSpec.ofChange segmentFilterSizeSpec)) segmentFilterSizeCard

/-- THE TIED CARD OF 'logtidelaw27.SegmentFindsDamage'. -/
def segmentFindsDamageCard : Claim7 := { stood := { row := segmentFindsDamageRow, standIns := [], harness := (true, "e0869dbe2d9904b9b46e34d247b66930b5032c011dd6a2b0c66ee803b4ce1ef1"), looks := false }, kinds := [], alts := [], laidByText := true, laidKinds := [.called], laidTests := true, laidLooks := .later }
def SegmentFindsDamageCardSaid : Prop := Claim7.holds Tryz.pinned (.plain (OpenSpec.ofChange segmentFindsDamageSpec)) segmentFindsDamageCard

/-- THE SECOND FORM's CARD OF 'logtidelaw27.SegmentEncode'. -/
def segmentEncodeUptoCard : Claim7 := { stood := { row := segmentEncodeUptoRow, standIns := [], harness := (true, "e0869dbe2d9904b9b46e34d247b66930b5032c011dd6a2b0c66ee803b4ce1ef1"), looks := false }, kinds := [], alts := [], laidByText := true, laidKinds := [.called], laidTests := true, laidLooks := .later }
def SegmentEncodeUptoCardSaid : Prop := Claim7.holds Tryz.pinned (.plain (OpenSpec.upto segmentEncodeSpec)) segmentEncodeUptoCard

/-- THE SECOND FORM's CARD OF 'logtidelaw27.SegmentFilterSize'. -/
def segmentFilterSizeUptoCard : Claim7 := { stood := { row := segmentFilterSizeUptoRow, standIns := [], harness := (true, "e0869dbe2d9904b9b46e34d247b66930b5032c011dd6a2b0c66ee803b4ce1ef1"), looks := false }, kinds := [], alts := [], laidByText := true, laidKinds := [.called], laidTests := true, laidLooks := .later }
def SegmentFilterSizeUptoCardSaid : Prop := Claim7.holds Tryz.pinned (.plain (OpenSpec.upto segmentFilterSizeSpec)) segmentFilterSizeUptoCard

/-- THE SECOND FORM's CARD OF 'logtidelaw27.SegmentFindsDamage'. -/
def segmentFindsDamageUptoCard : Claim7 := { stood := { row := segmentFindsDamageUptoRow, standIns := [], harness := (true, "e0869dbe2d9904b9b46e34d247b66930b5032c011dd6a2b0c66ee803b4ce1ef1"), looks := false }, kinds := [], alts := [], laidByText := true, laidKinds := [.called], laidTests := true, laidLooks := .later }
def SegmentFindsDamageUptoCardSaid : Prop := Claim7.holds Tryz.pinned (.plain (OpenSpec.upto segmentFindsDamageSpec)) segmentFindsDamageUptoCard
end Rows
end Go.Proofs.YtpaiideboodaeaaGreatDoor
