/-
  No cell of these rows narrows 'for every input' (looked for: loops, veiled, ifaces, maps, wideKeys, modest, calm, conditions, laid).
  DERIVED. THE GIVEN ROWS OF THIS SEAT. 6 by the template 'for every input the law returns true; each argument reads behind the call as it read before'; 0 by the template 'total and deterministic' (their statements: YtebakogdbeeljaaTotals.lean).
  GIVEN WITH THE SEED: the statements are not yours to turn. If you find one false, say at which input.
  Laid BY PROGRAM, IN A SANDBOX (cutbox-rows.mjs): the forced cells as the released guide's own fill.sh prints them over the translation 760209db7ff2ca9b… (all of the seat's roots in one cut). By AI agents, Wed Nov 11 2026. No macro, syntax, notation, axiom, sorry.
-/
import Derived.Test.YtebakogdbeeljaaChecked
import GoSem.Claim
import GoSem.ClaimJoined
import GoSem.ClaimMapViews
import Derived.JoinedTies
import Derived.KernelRfl
namespace Go.Proofs.Ytebakogdbeeljaa
/- THE CELL 'sum', in the pinned program and in every row, IS THE sha256 OF THE DUMP (.gsa) THAT YtebakogdbeeljaaProg.lean LOADS. Nothing in Lean hashes anything: it is a label: what it is worth is what the hold of that sum in a sandbox is worth. -/
noncomputable def Try.pinned : Pinned := { name := "ytebakogdbeeljaa", sum := "760209db7ff2ca9b762ea0b931d820382d7ad7792bf9a589e34046bd1f7b412d", checked := Try.checked }
namespace Rows
def none {H : Type} : Left H := { results := [], args := [] }

/-- 'logtidelaw24.ColumnBounds': WHATEVER THE INPUT: true; the input reads as it did. -/
def columnBoundsSpec : ChangeSpec := { name := "columnBounds", fn := fun _ => fun
  | [d1, d2] => { results := [.lit (.bool true)], args := [d1, d2] }
  | _ => none }
def columnBoundsRow : OpenClaim := { program := "ytebakogdbeeljaa", sum := "760209db7ff2ca9b762ea0b931d820382d7ad7792bf9a589e34046bd1f7b412d", func := "logtide/logtidelaw24.ColumnBounds", spec := "columnBounds", apart := false }
def ColumnBoundsSaid : Prop := columnBoundsRow.holds Try.pinned (OpenSpec.ofChange columnBoundsSpec)

/-- ITS FALSE NEIGHBOUR: 'it returns false'. Refute it at one input. -/
def columnBoundsWrong : ChangeSpec := { name := "columnBounds", fn := fun _ => fun
  | [d1, d2] => { results := [.lit (.bool false)], args := [d1, d2] }
  | _ => none }
def ColumnBoundsWrongFalsely : Prop := columnBoundsRow.holds Try.pinned (OpenSpec.ofChange columnBoundsWrong)

/-- 'logtidelaw24.ColumnRunsLength': WHATEVER THE INPUT: true; the input reads as it did. -/
def columnRunsLengthSpec : ChangeSpec := { name := "columnRunsLength", fn := fun _ => fun
  | [d1, d2] => { results := [.lit (.bool true)], args := [d1, d2] }
  | _ => none }
def columnRunsLengthRow : OpenClaim := { program := "ytebakogdbeeljaa", sum := "760209db7ff2ca9b762ea0b931d820382d7ad7792bf9a589e34046bd1f7b412d", func := "logtide/logtidelaw24.ColumnRunsLength", spec := "columnRunsLength", unfollowed := true, recurses := true, apart := false }
def ColumnRunsLengthSaid : Prop := columnRunsLengthRow.holds Try.pinned (OpenSpec.ofChange columnRunsLengthSpec)

/-- ITS FALSE NEIGHBOUR: 'it returns false'. Refute it at one input. -/
def columnRunsLengthWrong : ChangeSpec := { name := "columnRunsLength", fn := fun _ => fun
  | [d1, d2] => { results := [.lit (.bool false)], args := [d1, d2] }
  | _ => none }
def ColumnRunsLengthWrongFalsely : Prop := columnRunsLengthRow.holds Try.pinned (OpenSpec.ofChange columnRunsLengthWrong)

/-- 'logtidelaw24.ColumnEncode': WHATEVER THE INPUT: true; the input reads as it did. -/
def columnEncodeSpec : ChangeSpec := { name := "columnEncode", fn := fun _ => fun
  | [d1, d2, d3] => { results := [.lit (.bool true)], args := [d1, d2, d3] }
  | _ => none }
def columnEncodeRow : OpenClaim := { program := "ytebakogdbeeljaa", sum := "760209db7ff2ca9b762ea0b931d820382d7ad7792bf9a589e34046bd1f7b412d", func := "logtide/logtidelaw24.ColumnEncode", spec := "columnEncode", unfollowed := true, recurses := true, apart := false }
def ColumnEncodeSaid : Prop := columnEncodeRow.holds Try.pinned (OpenSpec.ofChange columnEncodeSpec)

/-- ITS FALSE NEIGHBOUR: 'it returns false'. Refute it at one input. -/
def columnEncodeWrong : ChangeSpec := { name := "columnEncode", fn := fun _ => fun
  | [d1, d2, d3] => { results := [.lit (.bool false)], args := [d1, d2, d3] }
  | _ => none }
def ColumnEncodeWrongFalsely : Prop := columnEncodeRow.holds Try.pinned (OpenSpec.ofChange columnEncodeWrong)

/-- 'logtidelaw24.ColumnDecode': WHATEVER THE INPUT: true; the input reads as it did. -/
def columnDecodeSpec : ChangeSpec := { name := "columnDecode", fn := fun _ => fun
  | [d1, d2, d3, d4, d5] => { results := [.lit (.bool true)], args := [d1, d2, d3, d4, d5] }
  | _ => none }
def columnDecodeRow : OpenClaim := { program := "ytebakogdbeeljaa", sum := "760209db7ff2ca9b762ea0b931d820382d7ad7792bf9a589e34046bd1f7b412d", func := "logtide/logtidelaw24.ColumnDecode", spec := "columnDecode", unfollowed := true, recurses := true, apart := false }
def ColumnDecodeSaid : Prop := columnDecodeRow.holds Try.pinned (OpenSpec.ofChange columnDecodeSpec)

/-- ITS FALSE NEIGHBOUR: 'it returns false'. Refute it at one input. -/
def columnDecodeWrong : ChangeSpec := { name := "columnDecode", fn := fun _ => fun
  | [d1, d2, d3, d4, d5] => { results := [.lit (.bool false)], args := [d1, d2, d3, d4, d5] }
  | _ => none }
def ColumnDecodeWrongFalsely : Prop := columnDecodeRow.holds Try.pinned (OpenSpec.ofChange columnDecodeWrong)

/-- 'logtidelaw24.ColumnDecodeInvertsEncode': WHATEVER THE INPUT: true; the input reads as it did. -/
def columnDecodeInvertsEncodeSpec : ChangeSpec := { name := "columnDecodeInvertsEncode", fn := fun _ => fun
  | [d1, d2] => { results := [.lit (.bool true)], args := [d1, d2] }
  | _ => none }
def columnDecodeInvertsEncodeRow : OpenClaim := { program := "ytebakogdbeeljaa", sum := "760209db7ff2ca9b762ea0b931d820382d7ad7792bf9a589e34046bd1f7b412d", func := "logtide/logtidelaw24.ColumnDecodeInvertsEncode", spec := "columnDecodeInvertsEncode", unfollowed := true, recurses := true, apart := false }
def ColumnDecodeInvertsEncodeSaid : Prop := columnDecodeInvertsEncodeRow.holds Try.pinned (OpenSpec.ofChange columnDecodeInvertsEncodeSpec)

/-- ITS FALSE NEIGHBOUR: 'it returns false'. Refute it at one input. -/
def columnDecodeInvertsEncodeWrong : ChangeSpec := { name := "columnDecodeInvertsEncode", fn := fun _ => fun
  | [d1, d2] => { results := [.lit (.bool false)], args := [d1, d2] }
  | _ => none }
def ColumnDecodeInvertsEncodeWrongFalsely : Prop := columnDecodeInvertsEncodeRow.holds Try.pinned (OpenSpec.ofChange columnDecodeInvertsEncodeWrong)

/-- 'logtidelaw24.ColumnLimit': WHATEVER THE INPUT: true; the input reads as it did. -/
def columnLimitSpec : ChangeSpec := { name := "columnLimit", fn := fun _ => fun
  | [d1, d2] => { results := [.lit (.bool true)], args := [d1, d2] }
  | _ => none }
def columnLimitRow : OpenClaim := { program := "ytebakogdbeeljaa", sum := "760209db7ff2ca9b762ea0b931d820382d7ad7792bf9a589e34046bd1f7b412d", func := "logtide/logtidelaw24.ColumnLimit", spec := "columnLimit", unfollowed := true, recurses := true, apart := false }
def ColumnLimitSaid : Prop := columnLimitRow.holds Try.pinned (OpenSpec.ofChange columnLimitSpec)

/-- ITS FALSE NEIGHBOUR: 'it returns false'. Refute it at one input. -/
def columnLimitWrong : ChangeSpec := { name := "columnLimit", fn := fun _ => fun
  | [d1, d2] => { results := [.lit (.bool false)], args := [d1, d2] }
  | _ => none }
def ColumnLimitWrongFalsely : Prop := columnLimitRow.holds Try.pinned (OpenSpec.ofChange columnLimitWrong)

/- THE SECOND FORM. 'bulk': how many values and letters a reading holds, each counted each time it is reached (what is shared counts as often as it is met; a slice's spare places count too). A statement '..UptoSaid' is the law's where the arguments, and the package variables that the reading takes, are together of bulk at most 1048576: NARROWER than '..Said'. Prove '..Said' where nothing that the law and all that it calls make is longer than what came in: it says more and counts as full. Else prove '..UptoSaid'. A law counts once. -/
mutual
def uptoBulk {H : Type} : DataW H → Nat
  | .lit (.string bytes) => bytes.length + 1
  | .lit _ => 1
  | .nil => 1
  | .ptr d => uptoBulk d + 1
  | .slice elems spare => uptoBulkAll elems + uptoBulkAll spare + 1
  | .agg parts => uptoBulkAll parts + 1
  | .iface _ d => uptoBulk d + 1
  | .map entries => uptoBulkEntries entries + 1
  | .held _ => 1
def uptoBulkAll {H : Type} : List (DataW H) → Nat
  | [] => 0
  | d :: r => uptoBulk d + uptoBulkAll r
def uptoBulkEntries {H : Type} : List (Lit × DataW H) → Nat
  | [] => 0
  | x :: r => uptoBulkEntry x + uptoBulkEntries r
def uptoBulkEntry {H : Type} : Lit × DataW H → Nat
  | (.string bytes, d) => bytes.length + uptoBulk d + 1
  | (_, d) => uptoBulk d + 1
 end
def uptoSmall : (H : Type) → List (DataW H) → Bool := fun _ ds => decide (uptoBulkAll ds ≤ 1048576)
def OpenSpec.upto (s : _root_.Go.ChangeSpec) : _root_.Go.OpenSpec := { _root_.Go.OpenSpec.ofChange s with cond := some uptoSmall }

/-- 'logtidelaw24.ColumnBounds', WHERE WHAT IT READS IS OF BULK AT MOST 1048576: true; the input reads as it did. -/
def columnBoundsUptoRow : OpenClaim := { program := "ytebakogdbeeljaa", sum := "760209db7ff2ca9b762ea0b931d820382d7ad7792bf9a589e34046bd1f7b412d", func := "logtide/logtidelaw24.ColumnBounds", spec := "columnBounds", apart := false, narrowed := true }
def ColumnBoundsUptoSaid : Prop := columnBoundsUptoRow.holds Try.pinned (OpenSpec.upto columnBoundsSpec)

/-- 'logtidelaw24.ColumnRunsLength', WHERE WHAT IT READS IS OF BULK AT MOST 1048576: true; the input reads as it did. -/
def columnRunsLengthUptoRow : OpenClaim := { program := "ytebakogdbeeljaa", sum := "760209db7ff2ca9b762ea0b931d820382d7ad7792bf9a589e34046bd1f7b412d", func := "logtide/logtidelaw24.ColumnRunsLength", spec := "columnRunsLength", unfollowed := true, recurses := true, apart := false, narrowed := true }
def ColumnRunsLengthUptoSaid : Prop := columnRunsLengthUptoRow.holds Try.pinned (OpenSpec.upto columnRunsLengthSpec)

/-- 'logtidelaw24.ColumnEncode', WHERE WHAT IT READS IS OF BULK AT MOST 1048576: true; the input reads as it did. -/
def columnEncodeUptoRow : OpenClaim := { program := "ytebakogdbeeljaa", sum := "760209db7ff2ca9b762ea0b931d820382d7ad7792bf9a589e34046bd1f7b412d", func := "logtide/logtidelaw24.ColumnEncode", spec := "columnEncode", unfollowed := true, recurses := true, apart := false, narrowed := true }
def ColumnEncodeUptoSaid : Prop := columnEncodeUptoRow.holds Try.pinned (OpenSpec.upto columnEncodeSpec)

/-- 'logtidelaw24.ColumnDecode', WHERE WHAT IT READS IS OF BULK AT MOST 1048576: true; the input reads as it did. -/
def columnDecodeUptoRow : OpenClaim := { program := "ytebakogdbeeljaa", sum := "760209db7ff2ca9b762ea0b931d820382d7ad7792bf9a589e34046bd1f7b412d", func := "logtide/logtidelaw24.ColumnDecode", spec := "columnDecode", unfollowed := true, recurses := true, apart := false, narrowed := true }
def ColumnDecodeUptoSaid : Prop := columnDecodeUptoRow.holds Try.pinned (OpenSpec.upto columnDecodeSpec)

/-- 'logtidelaw24.ColumnDecodeInvertsEncode', WHERE WHAT IT READS IS OF BULK AT MOST 1048576: true; the input reads as it did. -/
def columnDecodeInvertsEncodeUptoRow : OpenClaim := { program := "ytebakogdbeeljaa", sum := "760209db7ff2ca9b762ea0b931d820382d7ad7792bf9a589e34046bd1f7b412d", func := "logtide/logtidelaw24.ColumnDecodeInvertsEncode", spec := "columnDecodeInvertsEncode", unfollowed := true, recurses := true, apart := false, narrowed := true }
def ColumnDecodeInvertsEncodeUptoSaid : Prop := columnDecodeInvertsEncodeUptoRow.holds Try.pinned (OpenSpec.upto columnDecodeInvertsEncodeSpec)

/-- 'logtidelaw24.ColumnLimit', WHERE WHAT IT READS IS OF BULK AT MOST 1048576: true; the input reads as it did. -/
def columnLimitUptoRow : OpenClaim := { program := "ytebakogdbeeljaa", sum := "760209db7ff2ca9b762ea0b931d820382d7ad7792bf9a589e34046bd1f7b412d", func := "logtide/logtidelaw24.ColumnLimit", spec := "columnLimit", unfollowed := true, recurses := true, apart := false, narrowed := true }
def ColumnLimitUptoSaid : Prop := columnLimitUptoRow.holds Try.pinned (OpenSpec.upto columnLimitSpec)

end Rows
end Go.Proofs.Ytebakogdbeeljaa
