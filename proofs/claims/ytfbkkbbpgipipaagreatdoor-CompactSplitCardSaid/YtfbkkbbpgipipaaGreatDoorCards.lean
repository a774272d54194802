/-
  DERIVED. GIVEN WITH THE SEED: THE CARDS: each row of YtfbkkbbpgipipaaGreatDoorRows.lean that lists a variable, with what it lists TIED to the program's text (the seventh form; the later family's looks); each row that meets fmt, with fmt's text TOLD by the authors' own Lean function (tested against real Go, not proved from fmt's source: count such statements apart). THE CARD IS WHAT COUNTS. Prove the row's statement (the work); the ties are given (YtfbkkbbpgipipaaGreatDoorTie.lean); close each card by the builder's one call (the guide's Derived/Test/ToyasCard.lean, 'card_holds'). Laid BY PROGRAM, IN A SANDBOX (cutbox-door.mjs). By AI agents, Wed Nov 11 2026. No macro, syntax, notation, axiom, sorry.
-/
import Derived.Test.YtfbkkbbpgipipaaGreatDoorRows
import GoSem.ClaimSeven
namespace Go.Proofs.YtfbkkbbpgipipaaGreatDoor
namespace Rows

/-- THE TIED CARD OF 'logtidelaw31.CompactSplit'. -/
def compactSplitCard : Claim7 := { stood := { row := compactSplitRow, standIns := [], harness := (true, "79a855737f3500280763622a26fb7524436833690cb33f81051d14d2dc273cb2"), looks := false }, kinds := [], alts := [], laidByText := true, laidKinds := [.called], laidTests := true, laidLooks := .later }
def CompactSplitCardSaid : Prop := Claim7.holds Tryz.pinned (.plain (OpenSpec.ofChange compactSplitSpec)) compactSplitCard

/-- THE SECOND FORM's CARD OF 'logtidelaw31.CompactSplit'. -/
def compactSplitUptoCard : Claim7 := { stood := { row := compactSplitUptoRow, standIns := [], harness := (true, "79a855737f3500280763622a26fb7524436833690cb33f81051d14d2dc273cb2"), looks := false }, kinds := [], alts := [], laidByText := true, laidKinds := [.called], laidTests := true, laidLooks := .later }
def CompactSplitUptoCardSaid : Prop := Claim7.holds Tryz.pinned (.plain (OpenSpec.upto compactSplitSpec)) compactSplitUptoCard
end Rows
end Go.Proofs.YtfbkkbbpgipipaaGreatDoor
