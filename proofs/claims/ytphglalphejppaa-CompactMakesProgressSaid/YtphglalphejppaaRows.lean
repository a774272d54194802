/-
  No cell of these rows narrows 'for every input' (looked for: loops, veiled, ifaces, maps, wideKeys, modest, calm, conditions, laid).
  DERIVED. THE GIVEN ROWS OF THIS SEAT. 6 by the template 'for every input the law returns true; each argument reads behind the call as it read before'; 0 by the template 'total and deterministic' (their statements: YtphglalphejppaaTotals.lean).
  GIVEN WITH THE SEED: the statements are not yours to turn. If you find one false, say at which input.
  Laid BY PROGRAM, IN A SANDBOX (cutbox-rows.mjs): the forced cells as the released guide's own fill.sh prints them over the translation c49d788b7fb8ee97… (all of the seat's roots in one cut). By AI agents, Wed Nov 11 2026. No macro, syntax, notation, axiom, sorry.
-/
import Derived.Test.YtphglalphejppaaChecked
import GoSem.Claim
import GoSem.ClaimJoined
import GoSem.ClaimMapViews
import Derived.JoinedTies
import Derived.KernelRfl
namespace Go.Proofs.Ytphglalphejppaa
/- THE CELL 'sum', in the pinned program and in every row, IS THE sha256 OF THE DUMP (.gsa) THAT YtphglalphejppaaProg.lean LOADS. Nothing in Lean hashes anything: it is a label: what it is worth is what the hold of that sum in a sandbox is worth. -/
noncomputable def Try.pinned : Pinned := { name := "ytphglalphejppaa", sum := "c49d788b7fb8ee97340f90e9fcddb1dc181b0b5b769961eeadb58a7d39ac05b6", checked := Try.checked }
namespace Rows
def none {H : Type} : Left H := { results := [], args := [] }

/-- 'logtidelaw31.CompactInfo': WHATEVER THE INPUT: true; the input reads as it did. -/
def compactInfoSpec : ChangeSpec := { name := "compactInfo", fn := fun _ => fun
  | [d1, d2, d3, d4] => { results := [.lit (.bool true)], args := [d1, d2, d3, d4] }
  | _ => none }
def compactInfoRow : OpenClaim := { program := "ytphglalphejppaa", sum := "c49d788b7fb8ee97340f90e9fcddb1dc181b0b5b769961eeadb58a7d39ac05b6", func := "logtide/logtidelaw31.CompactInfo", spec := "compactInfo", plainKeys := false, apart := false }
def CompactInfoSaid : Prop := compactInfoRow.holds Try.pinned (OpenSpec.ofChange compactInfoSpec)

/-- ITS FALSE NEIGHBOUR: 'it returns false'. Refute it at one input. -/
def compactInfoWrong : ChangeSpec := { name := "compactInfo", fn := fun _ => fun
  | [d1, d2, d3, d4] => { results := [.lit (.bool false)], args := [d1, d2, d3, d4] }
  | _ => none }
def CompactInfoWrongFalsely : Prop := compactInfoRow.holds Try.pinned (OpenSpec.ofChange compactInfoWrong)

/-- 'logtidelaw31.CompactMerge': WHATEVER THE INPUT: true; the input reads as it did. -/
def compactMergeSpec : ChangeSpec := { name := "compactMerge", fn := fun _ => fun
  | [d] => { results := [.lit (.bool true)], args := [d] }
  | _ => none }
def compactMergeRow : OpenClaim := { program := "ytphglalphejppaa", sum := "c49d788b7fb8ee97340f90e9fcddb1dc181b0b5b769961eeadb58a7d39ac05b6", func := "logtide/logtidelaw31.CompactMerge", spec := "compactMerge", unfollowed := true, recurses := true, plainKeys := false, apart := false }
def CompactMergeSaid : Prop := compactMergeRow.holds Try.pinned (OpenSpec.ofChange compactMergeSpec)

/-- ITS FALSE NEIGHBOUR: 'it returns false'. Refute it at one input. -/
def compactMergeWrong : ChangeSpec := { name := "compactMerge", fn := fun _ => fun
  | [d] => { results := [.lit (.bool false)], args := [d] }
  | _ => none }
def CompactMergeWrongFalsely : Prop := compactMergeRow.holds Try.pinned (OpenSpec.ofChange compactMergeWrong)

/-- 'logtidelaw31.CompactMergeKeepsAllEvents': WHATEVER THE INPUT: true; the input reads as it did. -/
def compactMergeKeepsAllEventsSpec : ChangeSpec := { name := "compactMergeKeepsAllEvents", fn := fun _ => fun
  | [d] => { results := [.lit (.bool true)], args := [d] }
  | _ => none }
def compactMergeKeepsAllEventsRow : OpenClaim := { program := "ytphglalphejppaa", sum := "c49d788b7fb8ee97340f90e9fcddb1dc181b0b5b769961eeadb58a7d39ac05b6", func := "logtide/logtidelaw31.CompactMergeKeepsAllEvents", spec := "compactMergeKeepsAllEvents", unfollowed := true, recurses := true, plainKeys := false, apart := false }
def CompactMergeKeepsAllEventsSaid : Prop := compactMergeKeepsAllEventsRow.holds Try.pinned (OpenSpec.ofChange compactMergeKeepsAllEventsSpec)

/-- ITS FALSE NEIGHBOUR: 'it returns false'. Refute it at one input. -/
def compactMergeKeepsAllEventsWrong : ChangeSpec := { name := "compactMergeKeepsAllEvents", fn := fun _ => fun
  | [d] => { results := [.lit (.bool false)], args := [d] }
  | _ => none }
def CompactMergeKeepsAllEventsWrongFalsely : Prop := compactMergeKeepsAllEventsRow.holds Try.pinned (OpenSpec.ofChange compactMergeKeepsAllEventsWrong)

/-- 'logtidelaw31.CompactOrdersEvents': WHATEVER THE INPUT: true; the input reads as it did. -/
def compactOrdersEventsSpec : ChangeSpec := { name := "compactOrdersEvents", fn := fun _ => fun
  | [d] => { results := [.lit (.bool true)], args := [d] }
  | _ => none }
def compactOrdersEventsRow : OpenClaim := { program := "ytphglalphejppaa", sum := "c49d788b7fb8ee97340f90e9fcddb1dc181b0b5b769961eeadb58a7d39ac05b6", func := "logtide/logtidelaw31.CompactOrdersEvents", spec := "compactOrdersEvents", unfollowed := true, recurses := true, plainKeys := false, apart := false }
def CompactOrdersEventsSaid : Prop := compactOrdersEventsRow.holds Try.pinned (OpenSpec.ofChange compactOrdersEventsSpec)

/-- ITS FALSE NEIGHBOUR: 'it returns false'. Refute it at one input. -/
def compactOrdersEventsWrong : ChangeSpec := { name := "compactOrdersEvents", fn := fun _ => fun
  | [d] => { results := [.lit (.bool false)], args := [d] }
  | _ => none }
def CompactOrdersEventsWrongFalsely : Prop := compactOrdersEventsRow.holds Try.pinned (OpenSpec.ofChange compactOrdersEventsWrong)

/-- 'logtidelaw31.CompactChoose': WHATEVER THE INPUT: true; the input reads as it did. -/
def compactChooseSpec : ChangeSpec := { name := "compactChoose", fn := fun _ => fun
  | [d1, d2] => { results := [.lit (.bool true)], args := [d1, d2] }
  | _ => none }
def compactChooseRow : OpenClaim := { program := "ytphglalphejppaa", sum := "c49d788b7fb8ee97340f90e9fcddb1dc181b0b5b769961eeadb58a7d39ac05b6", func := "logtide/logtidelaw31.CompactChoose", spec := "compactChoose", unfollowed := true, recurses := true, plainKeys := false, apart := false }
def CompactChooseSaid : Prop := compactChooseRow.holds Try.pinned (OpenSpec.ofChange compactChooseSpec)

/-- ITS FALSE NEIGHBOUR: 'it returns false'. Refute it at one input. -/
def compactChooseWrong : ChangeSpec := { name := "compactChoose", fn := fun _ => fun
  | [d1, d2] => { results := [.lit (.bool false)], args := [d1, d2] }
  | _ => none }
def CompactChooseWrongFalsely : Prop := compactChooseRow.holds Try.pinned (OpenSpec.ofChange compactChooseWrong)

/-- 'logtidelaw31.CompactMakesProgress': WHATEVER THE INPUT: true; the input reads as it did. -/
def compactMakesProgressSpec : ChangeSpec := { name := "compactMakesProgress", fn := fun _ => fun
  | [d] => { results := [.lit (.bool true)], args := [d] }
  | _ => none }
def compactMakesProgressRow : OpenClaim := { program := "ytphglalphejppaa", sum := "c49d788b7fb8ee97340f90e9fcddb1dc181b0b5b769961eeadb58a7d39ac05b6", func := "logtide/logtidelaw31.CompactMakesProgress", spec := "compactMakesProgress", unfollowed := true, recurses := true, plainKeys := false, apart := false }
def CompactMakesProgressSaid : Prop := compactMakesProgressRow.holds Try.pinned (OpenSpec.ofChange compactMakesProgressSpec)

/-- ITS FALSE NEIGHBOUR: 'it returns false'. Refute it at one input. -/
def compactMakesProgressWrong : ChangeSpec := { name := "compactMakesProgress", fn := fun _ => fun
  | [d] => { results := [.lit (.bool false)], args := [d] }
  | _ => none }
def CompactMakesProgressWrongFalsely : Prop := compactMakesProgressRow.holds Try.pinned (OpenSpec.ofChange compactMakesProgressWrong)

/- THE SECOND FORM. 'bulk': how many values and letters a reading holds, each counted each time it is reached (what is shared counts as often as it is met; a slice's spare places count too). A statement '..UptoSaid' is the law's where the arguments, and the package variables that the reading takes, are together of bulk at most 1048576: NARROWER than '..Said'. Prove '..Said' where nothing that the law and all that it calls make is longer than what came in: it says more and counts as full. Else prove '..UptoSaid'. A law counts once. -/
mutual
def uptoBulk {H : Type} : DataW H → Nat
  | .lit (.string bytes) => bytes.length + 1
  | .lit _ => 1
  | .nil => 1
  | .ptr d => uptoBulk d + 1
  | .slice elems spare => uptoBulkAll elems + uptoBulkAll spare + 1
  | .agg parts => uptoBulkAll parts + 1
  | .iface _ d => uptoBulk d + 1
  | .map entries => uptoBulkEntries entries + 1
  | .held _ => 1
def uptoBulkAll {H : Type} : List (DataW H) → Nat
  | [] => 0
  | d :: r => uptoBulk d + uptoBulkAll r
def uptoBulkEntries {H : Type} : List (Lit × DataW H) → Nat
  | [] => 0
  | x :: r => uptoBulkEntry x + uptoBulkEntries r
def uptoBulkEntry {H : Type} : Lit × DataW H → Nat
  | (.string bytes, d) => bytes.length + uptoBulk d + 1
  | (_, d) => uptoBulk d + 1
 end
def uptoSmall : (H : Type) → List (DataW H) → Bool := fun _ ds => decide (uptoBulkAll ds ≤ 1048576)
def OpenSpec.upto (s : _root_.Go.ChangeSpec) : _root_.Go.OpenSpec := { _root_.Go.OpenSpec.ofChange s with cond := some uptoSmall }

/-- 'logtidelaw31.CompactInfo', WHERE WHAT IT READS IS OF BULK AT MOST 1048576: true; the input reads as it did. -/
def compactInfoUptoRow : OpenClaim := { program := "ytphglalphejppaa", sum := "c49d788b7fb8ee97340f90e9fcddb1dc181b0b5b769961eeadb58a7d39ac05b6", func := "logtide/logtidelaw31.CompactInfo", spec := "compactInfo", plainKeys := false, apart := false, narrowed := true }
def CompactInfoUptoSaid : Prop := compactInfoUptoRow.holds Try.pinned (OpenSpec.upto compactInfoSpec)

/-- 'logtidelaw31.CompactMerge', WHERE WHAT IT READS IS OF BULK AT MOST 1048576: true; the input reads as it did. -/
def compactMergeUptoRow : OpenClaim := { program := "ytphglalphejppaa", sum := "c49d788b7fb8ee97340f90e9fcddb1dc181b0b5b769961eeadb58a7d39ac05b6", func := "logtide/logtidelaw31.CompactMerge", spec := "compactMerge", unfollowed := true, recurses := true, plainKeys := false, apart := false, narrowed := true }
def CompactMergeUptoSaid : Prop := compactMergeUptoRow.holds Try.pinned (OpenSpec.upto compactMergeSpec)

/-- 'logtidelaw31.CompactMergeKeepsAllEvents', WHERE WHAT IT READS IS OF BULK AT MOST 1048576: true; the input reads as it did. -/
def compactMergeKeepsAllEventsUptoRow : OpenClaim := { program := "ytphglalphejppaa", sum := "c49d788b7fb8ee97340f90e9fcddb1dc181b0b5b769961eeadb58a7d39ac05b6", func := "logtide/logtidelaw31.CompactMergeKeepsAllEvents", spec := "compactMergeKeepsAllEvents", unfollowed := true, recurses := true, plainKeys := false, apart := false, narrowed := true }
def CompactMergeKeepsAllEventsUptoSaid : Prop := compactMergeKeepsAllEventsUptoRow.holds Try.pinned (OpenSpec.upto compactMergeKeepsAllEventsSpec)

/-- 'logtidelaw31.CompactOrdersEvents', WHERE WHAT IT READS IS OF BULK AT MOST 1048576: true; the input reads as it did. -/
def compactOrdersEventsUptoRow : OpenClaim := { program := "ytphglalphejppaa", sum := "c49d788b7fb8ee97340f90e9fcddb1dc181b0b5b769961eeadb58a7d39ac05b6", func := "logtide/logtidelaw31.CompactOrdersEvents", spec := "compactOrdersEvents", unfollowed := true, recurses := true, plainKeys := false, apart := false, narrowed := true }
def CompactOrdersEventsUptoSaid : Prop := compactOrdersEventsUptoRow.holds Try.pinned (OpenSpec.upto compactOrdersEventsSpec)

/-- 'logtidelaw31.CompactChoose', WHERE WHAT IT READS IS OF BULK AT MOST 1048576: true; the input reads as it did. -/
def compactChooseUptoRow : OpenClaim := { program := "ytphglalphejppaa", sum := "c49d788b7fb8ee97340f90e9fcddb1dc181b0b5b769961eeadb58a7d39ac05b6", func := "logtide/logtidelaw31.CompactChoose", spec := "compactChoose", unfollowed := true, recurses := true, plainKeys := false, apart := false, narrowed := true }
def CompactChooseUptoSaid : Prop := compactChooseUptoRow.holds Try.pinned (OpenSpec.upto compactChooseSpec)

/-- 'logtidelaw31.CompactMakesProgress', WHERE WHAT IT READS IS OF BULK AT MOST 1048576: true; the input reads as it did. -/
def compactMakesProgressUptoRow : OpenClaim := { program := "ytphglalphejppaa", sum := "c49d788b7fb8ee97340f90e9fcddb1dc181b0b5b769961eeadb58a7d39ac05b6", func := "logtide/logtidelaw31.CompactMakesProgress", spec := "compactMakesProgress", unfollowed := true, recurses := true, plainKeys := false, apart := false, narrowed := true }
def CompactMakesProgressUptoSaid : Prop := compactMakesProgressUptoRow.holds Try.pinned (OpenSpec.upto compactMakesProgressSpec)

end Rows
end Go.Proofs.Ytphglalphejppaa
