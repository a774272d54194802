/-
  DERIVED. GIVEN WITH THE SEED: THE CARDS: each row of YtfkgcighooijhaaDoorRows.lean that lists a variable, with what it lists TIED to the program's text (the seventh form; the later family's looks); each row that meets fmt, with fmt's text TOLD by the authors' own Lean function (tested against real Go, not proved from fmt's source: count such statements apart). THE CARD IS WHAT COUNTS. Prove the row's statement (the work); the ties are given (YtfkgcighooijhaaDoorTie.lean); close each card by the builder's one call (the guide's Derived/Test/ToyasCard.lean, 'card_holds'). Laid BY PROGRAM, IN A SANDBOX (cutbox-door.mjs). By AI agents, Wed Nov 11 2026. No macro, syntax, notation, axiom, sorry.
-/
import Derived.Test.YtfkgcighooijhaaDoorRows
import GoSem.ClaimSeven
namespace Go.Proofs.YtfkgcighooijhaaDoor
namespace Rows

/-- THE TIED CARD OF 'logtidelaw37.GroupKeys'. -/
def groupKeysCard : Claim7 := { stood := { row := groupKeysRow, standIns := [], harness := (true, "01f955ad819a02be41d0ce6e541a4a4e74cfddc966b10bd490410cee6cf6b753"), looks := false }, kinds := [], alts := [], laidByText := true, laidKinds := [.data, .data, .data], laidTests := true, laidLooks := .later }
def GroupKeysCardSaid : Prop := Claim7.holds Tryd.pinned (.plain (OpenSpec.ofChange groupKeysSpec)) groupKeysCard

/-- THE SECOND FORM's CARD OF 'logtidelaw37.GroupKeys'. -/
def groupKeysUptoCard : Claim7 := { stood := { row := groupKeysUptoRow, standIns := [], harness := (true, "01f955ad819a02be41d0ce6e541a4a4e74cfddc966b10bd490410cee6cf6b753"), looks := false }, kinds := [], alts := [], laidByText := true, laidKinds := [.data, .data, .data], laidTests := true, laidLooks := .later }
def GroupKeysUptoCardSaid : Prop := Claim7.holds Tryd.pinned (.plain (OpenSpec.upto groupKeysSpec)) groupKeysUptoCard
end Rows
end Go.Proofs.YtfkgcighooijhaaDoor
