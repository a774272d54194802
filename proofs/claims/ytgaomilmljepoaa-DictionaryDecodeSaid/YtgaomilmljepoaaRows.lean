/-
  No cell of these rows narrows 'for every input' (looked for: loops, veiled, ifaces, maps, wideKeys, modest, calm, conditions, laid).
  DERIVED. THE GIVEN ROWS OF THIS SEAT. 7 by the template 'for every input the law returns true; each argument reads behind the call as it read before'; 0 by the template 'total and deterministic' (their statements: YtgaomilmljepoaaTotals.lean).
  GIVEN WITH THE SEED: the statements are not yours to turn. If you find one false, say at which input.
  Laid BY PROGRAM, IN A SANDBOX (cutbox-rows.mjs): the forced cells as the released guide's own fill.sh prints them over the translation b992fec756c5033e… (all of the seat's roots in one cut). By AI agents, Wed Nov 11 2026. No macro, syntax, notation, axiom, sorry.
-/
import Derived.Test.YtgaomilmljepoaaChecked
import GoSem.Claim
import GoSem.ClaimJoined
import GoSem.ClaimMapViews
import Derived.JoinedTies
import Derived.KernelRfl
namespace Go.Proofs.Ytgaomilmljepoaa
/- THE CELL 'sum', in the pinned program and in every row, IS THE sha256 OF THE DUMP (.gsa) THAT YtgaomilmljepoaaProg.lean LOADS. Nothing in Lean hashes anything: it is a label: what it is worth is what the hold of that sum in a sandbox is worth. -/
noncomputable def Try.pinned : Pinned := { name := "ytgaomilmljepoaa", sum := "b992fec756c5033e643cbde05956e664938f1dd10b183151c85f70a70ee60d52", checked := Try.checked }
namespace Rows
def none {H : Type} : Left H := { results := [], args := [] }

/-- 'logtidelaw23.DictionaryIndexPrefix': WHATEVER THE INPUT: true; the input reads as it did. -/
def dictionaryIndexPrefixSpec : ChangeSpec := { name := "dictionaryIndexPrefix", fn := fun _ => fun
  | [d1, d2] => { results := [.lit (.bool true)], args := [d1, d2] }
  | _ => none }
def dictionaryIndexPrefixRow : OpenClaim := { program := "ytgaomilmljepoaa", sum := "b992fec756c5033e643cbde05956e664938f1dd10b183151c85f70a70ee60d52", func := "logtide/logtidelaw23.DictionaryIndexPrefix", spec := "dictionaryIndexPrefix", unfollowed := true, recurses := true, apart := false }
def DictionaryIndexPrefixSaid : Prop := dictionaryIndexPrefixRow.holds Try.pinned (OpenSpec.ofChange dictionaryIndexPrefixSpec)

/-- ITS FALSE NEIGHBOUR: 'it returns false'. Refute it at one input. -/
def dictionaryIndexPrefixWrong : ChangeSpec := { name := "dictionaryIndexPrefix", fn := fun _ => fun
  | [d1, d2] => { results := [.lit (.bool false)], args := [d1, d2] }
  | _ => none }
def DictionaryIndexPrefixWrongFalsely : Prop := dictionaryIndexPrefixRow.holds Try.pinned (OpenSpec.ofChange dictionaryIndexPrefixWrong)

/-- 'logtidelaw23.DictionaryMerge': WHATEVER THE INPUT: true; the input reads as it did. -/
def dictionaryMergeSpec : ChangeSpec := { name := "dictionaryMerge", fn := fun _ => fun
  | [d] => { results := [.lit (.bool true)], args := [d] }
  | _ => none }
def dictionaryMergeRow : OpenClaim := { program := "ytgaomilmljepoaa", sum := "b992fec756c5033e643cbde05956e664938f1dd10b183151c85f70a70ee60d52", func := "logtide/logtidelaw23.DictionaryMerge", spec := "dictionaryMerge", unfollowed := true, recurses := true, apart := false }
def DictionaryMergeSaid : Prop := dictionaryMergeRow.holds Try.pinned (OpenSpec.ofChange dictionaryMergeSpec)

/-- ITS FALSE NEIGHBOUR: 'it returns false'. Refute it at one input. -/
def dictionaryMergeWrong : ChangeSpec := { name := "dictionaryMerge", fn := fun _ => fun
  | [d] => { results := [.lit (.bool false)], args := [d] }
  | _ => none }
def DictionaryMergeWrongFalsely : Prop := dictionaryMergeRow.holds Try.pinned (OpenSpec.ofChange dictionaryMergeWrong)

/-- 'logtidelaw23.DictionaryEncode': WHATEVER THE INPUT: true; the input reads as it did. -/
def dictionaryEncodeSpec : ChangeSpec := { name := "dictionaryEncode", fn := fun _ => fun
  | [d1, d2] => { results := [.lit (.bool true)], args := [d1, d2] }
  | _ => none }
def dictionaryEncodeRow : OpenClaim := { program := "ytgaomilmljepoaa", sum := "b992fec756c5033e643cbde05956e664938f1dd10b183151c85f70a70ee60d52", func := "logtide/logtidelaw23.DictionaryEncode", spec := "dictionaryEncode", unfollowed := true, recurses := true, apart := false }
def DictionaryEncodeSaid : Prop := dictionaryEncodeRow.holds Try.pinned (OpenSpec.ofChange dictionaryEncodeSpec)

/-- ITS FALSE NEIGHBOUR: 'it returns false'. Refute it at one input. -/
def dictionaryEncodeWrong : ChangeSpec := { name := "dictionaryEncode", fn := fun _ => fun
  | [d1, d2] => { results := [.lit (.bool false)], args := [d1, d2] }
  | _ => none }
def DictionaryEncodeWrongFalsely : Prop := dictionaryEncodeRow.holds Try.pinned (OpenSpec.ofChange dictionaryEncodeWrong)

/-- 'logtidelaw23.DictionaryDecode': WHATEVER THE INPUT: true; the input reads as it did. -/
def dictionaryDecodeSpec : ChangeSpec := { name := "dictionaryDecode", fn := fun _ => fun
  | [d1, d2, d3, d4] => { results := [.lit (.bool true)], args := [d1, d2, d3, d4] }
  | _ => none }
def dictionaryDecodeRow : OpenClaim := { program := "ytgaomilmljepoaa", sum := "b992fec756c5033e643cbde05956e664938f1dd10b183151c85f70a70ee60d52", func := "logtide/logtidelaw23.DictionaryDecode", spec := "dictionaryDecode", unfollowed := true, recurses := true, apart := false }
def DictionaryDecodeSaid : Prop := dictionaryDecodeRow.holds Try.pinned (OpenSpec.ofChange dictionaryDecodeSpec)

/-- ITS FALSE NEIGHBOUR: 'it returns false'. Refute it at one input. -/
def dictionaryDecodeWrong : ChangeSpec := { name := "dictionaryDecode", fn := fun _ => fun
  | [d1, d2, d3, d4] => { results := [.lit (.bool false)], args := [d1, d2, d3, d4] }
  | _ => none }
def DictionaryDecodeWrongFalsely : Prop := dictionaryDecodeRow.holds Try.pinned (OpenSpec.ofChange dictionaryDecodeWrong)

/-- 'logtidelaw23.DictionaryDecodeInvertsEncode': WHATEVER THE INPUT: true; the input reads as it did. -/
def dictionaryDecodeInvertsEncodeSpec : ChangeSpec := { name := "dictionaryDecodeInvertsEncode", fn := fun _ => fun
  | [d] => { results := [.lit (.bool true)], args := [d] }
  | _ => none }
def dictionaryDecodeInvertsEncodeRow : OpenClaim := { program := "ytgaomilmljepoaa", sum := "b992fec756c5033e643cbde05956e664938f1dd10b183151c85f70a70ee60d52", func := "logtide/logtidelaw23.DictionaryDecodeInvertsEncode", spec := "dictionaryDecodeInvertsEncode", unfollowed := true, recurses := true, apart := false }
def DictionaryDecodeInvertsEncodeSaid : Prop := dictionaryDecodeInvertsEncodeRow.holds Try.pinned (OpenSpec.ofChange dictionaryDecodeInvertsEncodeSpec)

/-- ITS FALSE NEIGHBOUR: 'it returns false'. Refute it at one input. -/
def dictionaryDecodeInvertsEncodeWrong : ChangeSpec := { name := "dictionaryDecodeInvertsEncode", fn := fun _ => fun
  | [d] => { results := [.lit (.bool false)], args := [d] }
  | _ => none }
def DictionaryDecodeInvertsEncodeWrongFalsely : Prop := dictionaryDecodeInvertsEncodeRow.holds Try.pinned (OpenSpec.ofChange dictionaryDecodeInvertsEncodeWrong)

/-- 'logtidelaw23.DictionaryBuild': WHATEVER THE INPUT: true; the input reads as it did. -/
def dictionaryBuildSpec : ChangeSpec := { name := "dictionaryBuild", fn := fun _ => fun
  | [d] => { results := [.lit (.bool true)], args := [d] }
  | _ => none }
def dictionaryBuildRow : OpenClaim := { program := "ytgaomilmljepoaa", sum := "b992fec756c5033e643cbde05956e664938f1dd10b183151c85f70a70ee60d52", func := "logtide/logtidelaw23.DictionaryBuild", spec := "dictionaryBuild", unfollowed := true, recurses := true, apart := false }
def DictionaryBuildSaid : Prop := dictionaryBuildRow.holds Try.pinned (OpenSpec.ofChange dictionaryBuildSpec)

/-- ITS FALSE NEIGHBOUR: 'it returns false'. Refute it at one input. -/
def dictionaryBuildWrong : ChangeSpec := { name := "dictionaryBuild", fn := fun _ => fun
  | [d] => { results := [.lit (.bool false)], args := [d] }
  | _ => none }
def DictionaryBuildWrongFalsely : Prop := dictionaryBuildRow.holds Try.pinned (OpenSpec.ofChange dictionaryBuildWrong)

/-- 'logtidelaw23.DictionaryLimits': WHATEVER THE INPUT: true; the input reads as it did. -/
def dictionaryLimitsSpec : ChangeSpec := { name := "dictionaryLimits", fn := fun _ => fun
  | [d] => { results := [.lit (.bool true)], args := [d] }
  | _ => none }
def dictionaryLimitsRow : OpenClaim := { program := "ytgaomilmljepoaa", sum := "b992fec756c5033e643cbde05956e664938f1dd10b183151c85f70a70ee60d52", func := "logtide/logtidelaw23.DictionaryLimits", spec := "dictionaryLimits", unfollowed := true, recurses := true, apart := false }
def DictionaryLimitsSaid : Prop := dictionaryLimitsRow.holds Try.pinned (OpenSpec.ofChange dictionaryLimitsSpec)

/-- ITS FALSE NEIGHBOUR: 'it returns false'. Refute it at one input. -/
def dictionaryLimitsWrong : ChangeSpec := { name := "dictionaryLimits", fn := fun _ => fun
  | [d] => { results := [.lit (.bool false)], args := [d] }
  | _ => none }
def DictionaryLimitsWrongFalsely : Prop := dictionaryLimitsRow.holds Try.pinned (OpenSpec.ofChange dictionaryLimitsWrong)

/- THE SECOND FORM. 'bulk': how many values and letters a reading holds, each counted each time it is reached (what is shared counts as often as it is met; a slice's spare places count too). A statement '..UptoSaid' is the law's where the arguments, and the package variables that the reading takes, are together of bulk at most 1048576: NARROWER than '..Said'. Prove '..Said' where nothing that the law and all that it calls make is longer than what came in: it says more and counts as full. Else prove '..UptoSaid'. A law counts once. -/
mutual
def uptoBulk {H : Type} : DataW H → Nat
  | .lit (.string bytes) => bytes.length + 1
  | .lit _ => 1
  | .nil => 1
  | .ptr d => uptoBulk d + 1
  | .slice elems spare => uptoBulkAll elems + uptoBulkAll spare + 1
  | .agg parts => uptoBulkAll parts + 1
  | .iface _ d => uptoBulk d + 1
  | .map entries => uptoBulkEntries entries + 1
  | .held _ => 1
def uptoBulkAll {H : Type} : List (DataW H) → Nat
  | [] => 0
  | d :: r => uptoBulk d + uptoBulkAll r
def uptoBulkEntries {H : Type} : List (Lit × DataW H) → Nat
  | [] => 0
  | x :: r => uptoBulkEntry x + uptoBulkEntries r
def uptoBulkEntry {H : Type} : Lit × DataW H → Nat
  | (.string bytes, d) => bytes.length + uptoBulk d + 1
  | (_, d) => uptoBulk d + 1
 end
def uptoSmall : (H : Type) → List (DataW H) → Bool := fun _ ds => decide (uptoBulkAll ds ≤ 1048576)
def OpenSpec.upto (s : _root_.Go.ChangeSpec) : _root_.Go.OpenSpec := { _root_.Go.OpenSpec.ofChange s with cond := some uptoSmall }

/-- 'logtidelaw23.DictionaryIndexPrefix', WHERE WHAT IT READS IS OF BULK AT MOST 1048576: true; the input reads as it did. -/
def dictionaryIndexPrefixUptoRow : OpenClaim := { program := "ytgaomilmljepoaa", sum := "b992fec756c5033e643cbde05956e664938f1dd10b183151c85f70a70ee60d52", func := "logtide/logtidelaw23.DictionaryIndexPrefix", spec := "dictionaryIndexPrefix", unfollowed := true, recurses := true, apart := false, narrowed := true }
def DictionaryIndexPrefixUptoSaid : Prop := dictionaryIndexPrefixUptoRow.holds Try.pinned (OpenSpec.upto dictionaryIndexPrefixSpec)

/-- 'logtidelaw23.DictionaryMerge', WHERE WHAT IT READS IS OF BULK AT MOST 1048576: true; the input reads as it did. -/
def dictionaryMergeUptoRow : OpenClaim := { program := "ytgaomilmljepoaa", sum := "b992fec756c5033e643cbde05956e664938f1dd10b183151c85f70a70ee60d52", func := "logtide/logtidelaw23.DictionaryMerge", spec := "dictionaryMerge", unfollowed := true, recurses := true, apart := false, narrowed := true }
def DictionaryMergeUptoSaid : Prop := dictionaryMergeUptoRow.holds Try.pinned (OpenSpec.upto dictionaryMergeSpec)

/-- 'logtidelaw23.DictionaryEncode', WHERE WHAT IT READS IS OF BULK AT MOST 1048576: true; the input reads as it did. -/
def dictionaryEncodeUptoRow : OpenClaim := { program := "ytgaomilmljepoaa", sum := "b992fec756c5033e643cbde05956e664938f1dd10b183151c85f70a70ee60d52", func := "logtide/logtidelaw23.DictionaryEncode", spec := "dictionaryEncode", unfollowed := true, recurses := true, apart := false, narrowed := true }
def DictionaryEncodeUptoSaid : Prop := dictionaryEncodeUptoRow.holds Try.pinned (OpenSpec.upto dictionaryEncodeSpec)

/-- 'logtidelaw23.DictionaryDecode', WHERE WHAT IT READS IS OF BULK AT MOST 1048576: true; the input reads as it did. -/
def dictionaryDecodeUptoRow : OpenClaim := { program := "ytgaomilmljepoaa", sum := "b992fec756c5033e643cbde05956e664938f1dd10b183151c85f70a70ee60d52", func := "logtide/logtidelaw23.DictionaryDecode", spec := "dictionaryDecode", unfollowed := true, recurses := true, apart := false, narrowed := true }
def DictionaryDecodeUptoSaid : Prop := dictionaryDecodeUptoRow.holds Try.pinned (OpenSpec.upto dictionaryDecodeSpec)

/-- 'logtidelaw23.DictionaryDecodeInvertsEncode', WHERE WHAT IT READS IS OF BULK AT MOST 1048576: true; the input reads as it did. -/
def dictionaryDecodeInvertsEncodeUptoRow : OpenClaim := { program := "ytgaomilmljepoaa", sum := "b992fec756c5033e643cbde05956e664938f1dd10b183151c85f70a70ee60d52", func := "logtide/logtidelaw23.DictionaryDecodeInvertsEncode", spec := "dictionaryDecodeInvertsEncode", unfollowed := true, recurses := true, apart := false, narrowed := true }
def DictionaryDecodeInvertsEncodeUptoSaid : Prop := dictionaryDecodeInvertsEncodeUptoRow.holds Try.pinned (OpenSpec.upto dictionaryDecodeInvertsEncodeSpec)

/-- 'logtidelaw23.DictionaryBuild', WHERE WHAT IT READS IS OF BULK AT MOST 1048576: true; the input reads as it did. -/
def dictionaryBuildUptoRow : OpenClaim := { program := "ytgaomilmljepoaa", sum := "b992fec756c5033e643cbde05956e664938f1dd10b183151c85f70a70ee60d52", func := "logtide/logtidelaw23.DictionaryBuild", spec := "dictionaryBuild", unfollowed := true, recurses := true, apart := false, narrowed := true }
def DictionaryBuildUptoSaid : Prop := dictionaryBuildUptoRow.holds Try.pinned (OpenSpec.upto dictionaryBuildSpec)

/-- 'logtidelaw23.DictionaryLimits', WHERE WHAT IT READS IS OF BULK AT MOST 1048576: true; the input reads as it did. -/
def dictionaryLimitsUptoRow : OpenClaim := { program := "ytgaomilmljepoaa", sum := "b992fec756c5033e643cbde05956e664938f1dd10b183151c85f70a70ee60d52", func := "logtide/logtidelaw23.DictionaryLimits", spec := "dictionaryLimits", unfollowed := true, recurses := true, apart := false, narrowed := true }
def DictionaryLimitsUptoSaid : Prop := dictionaryLimitsUptoRow.holds Try.pinned (OpenSpec.upto dictionaryLimitsSpec)

end Rows
end Go.Proofs.Ytgaomilmljepoaa
