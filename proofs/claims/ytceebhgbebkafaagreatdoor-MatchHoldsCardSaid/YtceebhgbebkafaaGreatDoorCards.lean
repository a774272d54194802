/-
  DERIVED. GIVEN WITH THE SEED: THE CARDS: each row of YtceebhgbebkafaaGreatDoorRows.lean that lists a variable, with what it lists TIED to the program's text (the seventh form; the later family's looks); each row that meets fmt, with fmt's text TOLD by the authors' own Lean function (tested against real Go, not proved from fmt's source: count such statements apart). THE CARD IS WHAT COUNTS. Prove the row's statement (the work); the ties are given (YtceebhgbebkafaaGreatDoorTie.lean); close each card by the builder's one call (the guide's Derived/Test/ToyasCard.lean, 'card_holds'). Laid BY PROGRAM, IN A SANDBOX (cutbox-door.mjs). By AI agents, Wed Nov 11 2026. No macro, syntax, notation, axiom, sorry.
-/
import Derived.Test.YtceebhgbebkafaaGreatDoorRows
import GoSem.ClaimSeven
namespace Go.Proofs.YtceebhgbebkafaaGreatDoor
namespace Rows

/-- THE TIED CARD OF 'logtidelaw36.MatchHolds'. -/
def matchHoldsCard : Claim7 := { stood := { row := matchHoldsRow, standIns := [], harness := (true, "2891e309f3e61be6d69031b838d4430ea344cc57b0699202c04c1044dd3ea3f2"), looks := false }, kinds := [], alts := [], laidByText := true, laidKinds := [.data, .data, .data], laidTests := true, laidLooks := .later }
def MatchHoldsCardSaid : Prop := Claim7.holds Tryz.pinned (.plain (OpenSpec.ofChange matchHoldsSpec)) matchHoldsCard

/-- THE TIED CARD OF 'logtidelaw36.MatchIsBoolean'. -/
def matchIsBooleanCard : Claim7 := { stood := { row := matchIsBooleanRow, standIns := [], harness := (true, "2891e309f3e61be6d69031b838d4430ea344cc57b0699202c04c1044dd3ea3f2"), looks := false }, kinds := [], alts := [], laidByText := true, laidKinds := [.data, .data, .data], laidTests := true, laidLooks := .later }
def MatchIsBooleanCardSaid : Prop := Claim7.holds Tryz.pinned (.plain (OpenSpec.ofChange matchIsBooleanSpec)) matchIsBooleanCard

/-- THE TIED CARD OF 'logtidelaw36.MatchPossibleIsMonotone'. -/
def matchPossibleIsMonotoneCard : Claim7 := { stood := { row := matchPossibleIsMonotoneRow, standIns := [], harness := (true, "2891e309f3e61be6d69031b838d4430ea344cc57b0699202c04c1044dd3ea3f2"), looks := false }, kinds := [], alts := [], laidByText := true, laidKinds := [.data, .data, .data], laidTests := true, laidLooks := .later }
def MatchPossibleIsMonotoneCardSaid : Prop := Claim7.holds Tryz.pinned (.plain (OpenSpec.ofChange matchPossibleIsMonotoneSpec)) matchPossibleIsMonotoneCard

/-- THE TIED CARD OF 'logtidelaw36.MatchTimes'. -/
def matchTimesCard : Claim7 := { stood := { row := matchTimesRow, standIns := [], harness := (true, "2891e309f3e61be6d69031b838d4430ea344cc57b0699202c04c1044dd3ea3f2"), looks := false }, kinds := [], alts := [], laidByText := true, laidKinds := [.data, .data, .data, .data], laidTests := true, laidLooks := .later }
def MatchTimesCardSaid : Prop := Claim7.holds Tryz.pinned (.plain (OpenSpec.ofChange matchTimesSpec)) matchTimesCard

/-- THE TIED CARD OF 'logtidelaw36.MatchRequired'. -/
def matchRequiredCard : Claim7 := { stood := { row := matchRequiredRow, standIns := [], harness := (true, "2891e309f3e61be6d69031b838d4430ea344cc57b0699202c04c1044dd3ea3f2"), looks := false }, kinds := [], alts := [], laidByText := true, laidKinds := [.data, .data, .data], laidTests := true, laidLooks := .later }
def MatchRequiredCardSaid : Prop := Claim7.holds Tryz.pinned (.plain (OpenSpec.ofChange matchRequiredSpec)) matchRequiredCard

/-- THE TIED CARD OF 'logtidelaw36.MatchBoundsAreSafe'. -/
def matchBoundsAreSafeCard : Claim7 := { stood := { row := matchBoundsAreSafeRow, standIns := [], harness := (true, "2891e309f3e61be6d69031b838d4430ea344cc57b0699202c04c1044dd3ea3f2"), looks := false }, kinds := [], alts := [], laidByText := true, laidKinds := [.data, .data, .data, .data], laidTests := true, laidLooks := .later }
def MatchBoundsAreSafeCardSaid : Prop := Claim7.holds Tryz.pinned (.plain (OpenSpec.ofChange matchBoundsAreSafeSpec)) matchBoundsAreSafeCard

/-- THE SECOND FORM's CARD OF 'logtidelaw36.MatchHolds'. -/
def matchHoldsUptoCard : Claim7 := { stood := { row := matchHoldsUptoRow, standIns := [], harness := (true, "2891e309f3e61be6d69031b838d4430ea344cc57b0699202c04c1044dd3ea3f2"), looks := false }, kinds := [], alts := [], laidByText := true, laidKinds := [.data, .data, .data], laidTests := true, laidLooks := .later }
def MatchHoldsUptoCardSaid : Prop := Claim7.holds Tryz.pinned (.plain (OpenSpec.upto matchHoldsSpec)) matchHoldsUptoCard

/-- THE SECOND FORM's CARD OF 'logtidelaw36.MatchIsBoolean'. -/
def matchIsBooleanUptoCard : Claim7 := { stood := { row := matchIsBooleanUptoRow, standIns := [], harness := (true, "2891e309f3e61be6d69031b838d4430ea344cc57b0699202c04c1044dd3ea3f2"), looks := false }, kinds := [], alts := [], laidByText := true, laidKinds := [.data, .data, .data], laidTests := true, laidLooks := .later }
def MatchIsBooleanUptoCardSaid : Prop := Claim7.holds Tryz.pinned (.plain (OpenSpec.upto matchIsBooleanSpec)) matchIsBooleanUptoCard

/-- THE SECOND FORM's CARD OF 'logtidelaw36.MatchPossibleIsMonotone'. -/
def matchPossibleIsMonotoneUptoCard : Claim7 := { stood := { row := matchPossibleIsMonotoneUptoRow, standIns := [], harness := (true, "2891e309f3e61be6d69031b838d4430ea344cc57b0699202c04c1044dd3ea3f2"), looks := false }, kinds := [], alts := [], laidByText := true, laidKinds := [.data, .data, .data], laidTests := true, laidLooks := .later }
def MatchPossibleIsMonotoneUptoCardSaid : Prop := Claim7.holds Tryz.pinned (.plain (OpenSpec.upto matchPossibleIsMonotoneSpec)) matchPossibleIsMonotoneUptoCard

/-- THE SECOND FORM's CARD OF 'logtidelaw36.MatchTimes'. -/
def matchTimesUptoCard : Claim7 := { stood := { row := matchTimesUptoRow, standIns := [], harness := (true, "2891e309f3e61be6d69031b838d4430ea344cc57b0699202c04c1044dd3ea3f2"), looks := false }, kinds := [], alts := [], laidByText := true, laidKinds := [.data, .data, .data, .data], laidTests := true, laidLooks := .later }
def MatchTimesUptoCardSaid : Prop := Claim7.holds Tryz.pinned (.plain (OpenSpec.upto matchTimesSpec)) matchTimesUptoCard

/-- THE SECOND FORM's CARD OF 'logtidelaw36.MatchRequired'. -/
def matchRequiredUptoCard : Claim7 := { stood := { row := matchRequiredUptoRow, standIns := [], harness := (true, "2891e309f3e61be6d69031b838d4430ea344cc57b0699202c04c1044dd3ea3f2"), looks := false }, kinds := [], alts := [], laidByText := true, laidKinds := [.data, .data, .data], laidTests := true, laidLooks := .later }
def MatchRequiredUptoCardSaid : Prop := Claim7.holds Tryz.pinned (.plain (OpenSpec.upto matchRequiredSpec)) matchRequiredUptoCard

/-- THE SECOND FORM's CARD OF 'logtidelaw36.MatchBoundsAreSafe'. -/
def matchBoundsAreSafeUptoCard : Claim7 := { stood := { row := matchBoundsAreSafeUptoRow, standIns := [], harness := (true, "2891e309f3e61be6d69031b838d4430ea344cc57b0699202c04c1044dd3ea3f2"), looks := false }, kinds := [], alts := [], laidByText := true, laidKinds := [.data, .data, .data, .data], laidTests := true, laidLooks := .later }
def MatchBoundsAreSafeUptoCardSaid : Prop := Claim7.holds Tryz.pinned (.plain (OpenSpec.upto matchBoundsAreSafeSpec)) matchBoundsAreSafeUptoCard
end Rows
end Go.Proofs.YtceebhgbebkafaaGreatDoor
