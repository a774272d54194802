/-
  No cell of these rows narrows 'for every input' (looked for: loops, veiled, ifaces, maps, wideKeys, modest, calm, conditions, laid).
  DERIVED. THE GIVEN ROWS OF THIS SEAT. 3 by the template 'for every input the law returns true; each argument reads behind the call as it read before'; 0 by the template 'total and deterministic' (their statements: YtganfhmjklcchaaGreatTotals.lean).
  GIVEN WITH THE SEED: the statements are not yours to turn. If you find one false, say at which input.
  Laid BY PROGRAM, IN A SANDBOX (cutbox-rows.mjs): the forced cells as the released guide's own fill.sh prints them over the translation 13d231d884e4d3fa… (all of the seat's roots in one cut). By AI agents, Wed Nov 11 2026. No macro, syntax, notation, axiom, sorry.
-/
import Derived.Test.YtganfhmjklcchaaGreatChecked
import GoSem.Claim
import GoSem.ClaimJoined
import GoSem.ClaimMapViews
import Derived.JoinedTies
import Derived.KernelRfl
namespace Go.Proofs.YtganfhmjklcchaaGreat
/- THE CELL 'sum', in the pinned program and in every row, IS THE sha256 OF THE DUMP (.gsa) THAT YtganfhmjklcchaaGreatProg.lean LOADS. Nothing in Lean hashes anything: it is a label: what it is worth is what the hold of that sum in a sandbox is worth. -/
noncomputable def Tryz.pinned : Pinned := { name := "ytganfhmjklcchaagreat", sum := "13d231d884e4d3fa484bf5b0b2a9392306293a46b85578c24ec31b6072949aca", checked := Tryz.checked }
namespace Rows
def none {H : Type} : Left H := { results := [], args := [] }

/-- 'logtidelaw33.TiersCleanLoad': WHATEVER THE INPUT: true; the input reads as it did. -/
def tiersCleanLoadSpec : ChangeSpec := { name := "tiersCleanLoad", fn := fun _ => fun
  | [d1, d2] => { results := [.lit (.bool true)], args := [d1, d2] }
  | _ => none }
def tiersCleanLoadRow : OpenClaim := { program := "ytganfhmjklcchaagreat", sum := "13d231d884e4d3fa484bf5b0b2a9392306293a46b85578c24ec31b6072949aca", func := "logtide/logtidelaw33.TiersCleanLoad", spec := "tiersCleanLoad", unfollowed := true, recurses := true, apart := false }
def TiersCleanLoadSaid : Prop := tiersCleanLoadRow.holds Tryz.pinned (OpenSpec.ofChange tiersCleanLoadSpec)

/-- ITS FALSE NEIGHBOUR: 'it returns false'. Refute it at one input. -/
def tiersCleanLoadWrong : ChangeSpec := { name := "tiersCleanLoad", fn := fun _ => fun
  | [d1, d2] => { results := [.lit (.bool false)], args := [d1, d2] }
  | _ => none }
def TiersCleanLoadWrongFalsely : Prop := tiersCleanLoadRow.holds Tryz.pinned (OpenSpec.ofChange tiersCleanLoadWrong)

/-- 'logtidelaw33.TiersCopySwitch': WHATEVER THE INPUT: true; the input reads as it did. -/
def tiersCopySwitchSpec : ChangeSpec := { name := "tiersCopySwitch", fn := fun _ => fun
  | [d1, d2, d3] => { results := [.lit (.bool true)], args := [d1, d2, d3] }
  | _ => none }
def tiersCopySwitchRow : OpenClaim := { program := "ytganfhmjklcchaagreat", sum := "13d231d884e4d3fa484bf5b0b2a9392306293a46b85578c24ec31b6072949aca", func := "logtide/logtidelaw33.TiersCopySwitch", spec := "tiersCopySwitch", inPlace := ["slices.overlaps[logtide/api.Blob]"], unfollowed := true, recurses := true, apart := false }
def TiersCopySwitchSaid : Prop := tiersCopySwitchRow.holds Tryz.pinned (OpenSpec.ofChange tiersCopySwitchSpec)

/-- ITS FALSE NEIGHBOUR: 'it returns false'. Refute it at one input. -/
def tiersCopySwitchWrong : ChangeSpec := { name := "tiersCopySwitch", fn := fun _ => fun
  | [d1, d2, d3] => { results := [.lit (.bool false)], args := [d1, d2, d3] }
  | _ => none }
def TiersCopySwitchWrongFalsely : Prop := tiersCopySwitchRow.holds Tryz.pinned (OpenSpec.ofChange tiersCopySwitchWrong)

/-- 'logtidelaw33.TiersMovesLoseNothing': WHATEVER THE INPUT: true; the input reads as it did. -/
def tiersMovesLoseNothingSpec : ChangeSpec := { name := "tiersMovesLoseNothing", fn := fun _ => fun
  | [d] => { results := [.lit (.bool true)], args := [d] }
  | _ => none }
def tiersMovesLoseNothingRow : OpenClaim := { program := "ytganfhmjklcchaagreat", sum := "13d231d884e4d3fa484bf5b0b2a9392306293a46b85578c24ec31b6072949aca", func := "logtide/logtidelaw33.TiersMovesLoseNothing", spec := "tiersMovesLoseNothing", inPlace := ["slices.overlaps[logtide/api.Blob]"], unfollowed := true, recurses := true, apart := false }
def TiersMovesLoseNothingSaid : Prop := tiersMovesLoseNothingRow.holds Tryz.pinned (OpenSpec.ofChange tiersMovesLoseNothingSpec)

/-- ITS FALSE NEIGHBOUR: 'it returns false'. Refute it at one input. -/
def tiersMovesLoseNothingWrong : ChangeSpec := { name := "tiersMovesLoseNothing", fn := fun _ => fun
  | [d] => { results := [.lit (.bool false)], args := [d] }
  | _ => none }
def TiersMovesLoseNothingWrongFalsely : Prop := tiersMovesLoseNothingRow.holds Tryz.pinned (OpenSpec.ofChange tiersMovesLoseNothingWrong)

/- THE SECOND FORM. 'bulk': how many values and letters a reading holds, each counted each time it is reached (what is shared counts as often as it is met; a slice's spare places count too). A statement '..UptoSaid' is the law's where the arguments, and the package variables that the reading takes, are together of bulk at most 1048576: NARROWER than '..Said'. Prove '..Said' where nothing that the law and all that it calls make is longer than what came in: it says more and counts as full. Else prove '..UptoSaid'. A law counts once. -/
mutual
def uptoBulk {H : Type} : DataW H → Nat
  | .lit (.string bytes) => bytes.length + 1
  | .lit _ => 1
  | .nil => 1
  | .ptr d => uptoBulk d + 1
  | .slice elems spare => uptoBulkAll elems + uptoBulkAll spare + 1
  | .agg parts => uptoBulkAll parts + 1
  | .iface _ d => uptoBulk d + 1
  | .map entries => uptoBulkEntries entries + 1
  | .held _ => 1
def uptoBulkAll {H : Type} : List (DataW H) → Nat
  | [] => 0
  | d :: r => uptoBulk d + uptoBulkAll r
def uptoBulkEntries {H : Type} : List (Lit × DataW H) → Nat
  | [] => 0
  | x :: r => uptoBulkEntry x + uptoBulkEntries r
def uptoBulkEntry {H : Type} : Lit × DataW H → Nat
  | (.string bytes, d) => bytes.length + uptoBulk d + 1
  | (_, d) => uptoBulk d + 1
 end
def uptoSmall : (H : Type) → List (DataW H) → Bool := fun _ ds => decide (uptoBulkAll ds ≤ 1048576)
def OpenSpec.upto (s : _root_.Go.ChangeSpec) : _root_.Go.OpenSpec := { _root_.Go.OpenSpec.ofChange s with cond := some uptoSmall }

/-- 'logtidelaw33.TiersCleanLoad', WHERE WHAT IT READS IS OF BULK AT MOST 1048576: true; the input reads as it did. -/
def tiersCleanLoadUptoRow : OpenClaim := { program := "ytganfhmjklcchaagreat", sum := "13d231d884e4d3fa484bf5b0b2a9392306293a46b85578c24ec31b6072949aca", func := "logtide/logtidelaw33.TiersCleanLoad", spec := "tiersCleanLoad", unfollowed := true, recurses := true, apart := false, narrowed := true }
def TiersCleanLoadUptoSaid : Prop := tiersCleanLoadUptoRow.holds Tryz.pinned (OpenSpec.upto tiersCleanLoadSpec)

/-- 'logtidelaw33.TiersCopySwitch', WHERE WHAT IT READS IS OF BULK AT MOST 1048576: true; the input reads as it did. -/
def tiersCopySwitchUptoRow : OpenClaim := { program := "ytganfhmjklcchaagreat", sum := "13d231d884e4d3fa484bf5b0b2a9392306293a46b85578c24ec31b6072949aca", func := "logtide/logtidelaw33.TiersCopySwitch", spec := "tiersCopySwitch", inPlace := ["slices.overlaps[logtide/api.Blob]"], unfollowed := true, recurses := true, apart := false, narrowed := true }
def TiersCopySwitchUptoSaid : Prop := tiersCopySwitchUptoRow.holds Tryz.pinned (OpenSpec.upto tiersCopySwitchSpec)

/-- 'logtidelaw33.TiersMovesLoseNothing', WHERE WHAT IT READS IS OF BULK AT MOST 1048576: true; the input reads as it did. -/
def tiersMovesLoseNothingUptoRow : OpenClaim := { program := "ytganfhmjklcchaagreat", sum := "13d231d884e4d3fa484bf5b0b2a9392306293a46b85578c24ec31b6072949aca", func := "logtide/logtidelaw33.TiersMovesLoseNothing", spec := "tiersMovesLoseNothing", inPlace := ["slices.overlaps[logtide/api.Blob]"], unfollowed := true, recurses := true, apart := false, narrowed := true }
def TiersMovesLoseNothingUptoSaid : Prop := tiersMovesLoseNothingUptoRow.holds Tryz.pinned (OpenSpec.upto tiersMovesLoseNothingSpec)

end Rows
end Go.Proofs.YtganfhmjklcchaaGreat
