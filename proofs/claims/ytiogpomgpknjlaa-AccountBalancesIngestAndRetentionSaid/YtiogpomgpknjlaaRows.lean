/-
  No cell of these rows narrows 'for every input' (looked for: loops, veiled, ifaces, maps, wideKeys, modest, calm, conditions, laid).
  DERIVED. THE GIVEN ROWS OF THIS SEAT. 4 by the template 'for every input the law returns true; each argument reads behind the call as it read before'; 0 by the template 'total and deterministic' (their statements: YtiogpomgpknjlaaTotals.lean).
  GIVEN WITH THE SEED: the statements are not yours to turn. If you find one false, say at which input.
  Laid BY PROGRAM, IN A SANDBOX (cutbox-rows.mjs): the forced cells as the released guide's own fill.sh prints them over the translation 51ac54c453dfb632… (all of the seat's roots in one cut). By AI agents, Wed Nov 11 2026. No macro, syntax, notation, axiom, sorry.
-/
import Derived.Test.YtiogpomgpknjlaaChecked
import GoSem.Claim
import GoSem.ClaimJoined
import GoSem.ClaimMapViews
import Derived.JoinedTies
import Derived.KernelRfl
namespace Go.Proofs.Ytiogpomgpknjlaa
/- THE CELL 'sum', in the pinned program and in every row, IS THE sha256 OF THE DUMP (.gsa) THAT YtiogpomgpknjlaaProg.lean LOADS. Nothing in Lean hashes anything: it is a label: what it is worth is what the hold of that sum in a sandbox is worth. -/
noncomputable def Try.pinned : Pinned := { name := "ytiogpomgpknjlaa", sum := "51ac54c453dfb632d2fd358193f2d92ec4b28feb5b00119808b72c86cdb99aed", checked := Try.checked }
namespace Rows
def none {H : Type} : Left H := { results := [], args := [] }

/-- 'logtidelaw42.AccountMergeIsAssociative': WHATEVER THE INPUT: true; the input reads as it did. -/
def accountMergeIsAssociativeSpec : ChangeSpec := { name := "accountMergeIsAssociative", fn := fun _ => fun
  | [d] => { results := [.lit (.bool true)], args := [d] }
  | _ => none }
def accountMergeIsAssociativeRow : OpenClaim := { program := "ytiogpomgpknjlaa", sum := "51ac54c453dfb632d2fd358193f2d92ec4b28feb5b00119808b72c86cdb99aed", func := "logtide/logtidelaw42.AccountMergeIsAssociative", spec := "accountMergeIsAssociative", unfollowed := true, recurses := true, apart := false }
def AccountMergeIsAssociativeSaid : Prop := accountMergeIsAssociativeRow.holds Try.pinned (OpenSpec.ofChange accountMergeIsAssociativeSpec)

/-- ITS FALSE NEIGHBOUR: 'it returns false'. Refute it at one input. -/
def accountMergeIsAssociativeWrong : ChangeSpec := { name := "accountMergeIsAssociative", fn := fun _ => fun
  | [d] => { results := [.lit (.bool false)], args := [d] }
  | _ => none }
def AccountMergeIsAssociativeWrongFalsely : Prop := accountMergeIsAssociativeRow.holds Try.pinned (OpenSpec.ofChange accountMergeIsAssociativeWrong)

/-- 'logtidelaw42.AccountTallies': WHATEVER THE INPUT: true; the input reads as it did. -/
def accountTalliesSpec : ChangeSpec := { name := "accountTallies", fn := fun _ => fun
  | [d1, d2] => { results := [.lit (.bool true)], args := [d1, d2] }
  | _ => none }
def accountTalliesRow : OpenClaim := { program := "ytiogpomgpknjlaa", sum := "51ac54c453dfb632d2fd358193f2d92ec4b28feb5b00119808b72c86cdb99aed", func := "logtide/logtidelaw42.AccountTallies", spec := "accountTallies", inPlace := ["slices.overlaps[logtide/api.Tally]"], unfollowed := true, recurses := true, apart := false }
def AccountTalliesSaid : Prop := accountTalliesRow.holds Try.pinned (OpenSpec.ofChange accountTalliesSpec)

/-- ITS FALSE NEIGHBOUR: 'it returns false'. Refute it at one input. -/
def accountTalliesWrong : ChangeSpec := { name := "accountTallies", fn := fun _ => fun
  | [d1, d2] => { results := [.lit (.bool false)], args := [d1, d2] }
  | _ => none }
def AccountTalliesWrongFalsely : Prop := accountTalliesRow.holds Try.pinned (OpenSpec.ofChange accountTalliesWrong)

/-- 'logtidelaw42.AccountReport': WHATEVER THE INPUT: true; the input reads as it did. -/
def accountReportSpec : ChangeSpec := { name := "accountReport", fn := fun _ => fun
  | [d] => { results := [.lit (.bool true)], args := [d] }
  | _ => none }
def accountReportRow : OpenClaim := { program := "ytiogpomgpknjlaa", sum := "51ac54c453dfb632d2fd358193f2d92ec4b28feb5b00119808b72c86cdb99aed", func := "logtide/logtidelaw42.AccountReport", spec := "accountReport", inPlace := ["slices.overlaps[logtide/api.Tally]"], unfollowed := true, recurses := true, apart := false }
def AccountReportSaid : Prop := accountReportRow.holds Try.pinned (OpenSpec.ofChange accountReportSpec)

/-- ITS FALSE NEIGHBOUR: 'it returns false'. Refute it at one input. -/
def accountReportWrong : ChangeSpec := { name := "accountReport", fn := fun _ => fun
  | [d] => { results := [.lit (.bool false)], args := [d] }
  | _ => none }
def AccountReportWrongFalsely : Prop := accountReportRow.holds Try.pinned (OpenSpec.ofChange accountReportWrong)

/-- 'logtidelaw42.AccountBalancesIngestAndRetention': WHATEVER THE INPUT: true; the input reads as it did. -/
def accountBalancesIngestAndRetentionSpec : ChangeSpec := { name := "accountBalancesIngestAndRetention", fn := fun _ => fun
  | [d] => { results := [.lit (.bool true)], args := [d] }
  | _ => none }
def accountBalancesIngestAndRetentionRow : OpenClaim := { program := "ytiogpomgpknjlaa", sum := "51ac54c453dfb632d2fd358193f2d92ec4b28feb5b00119808b72c86cdb99aed", func := "logtide/logtidelaw42.AccountBalancesIngestAndRetention", spec := "accountBalancesIngestAndRetention", inPlace := ["slices.overlaps[logtide/api.Tally]"], unfollowed := true, recurses := true, apart := false }
def AccountBalancesIngestAndRetentionSaid : Prop := accountBalancesIngestAndRetentionRow.holds Try.pinned (OpenSpec.ofChange accountBalancesIngestAndRetentionSpec)

/-- ITS FALSE NEIGHBOUR: 'it returns false'. Refute it at one input. -/
def accountBalancesIngestAndRetentionWrong : ChangeSpec := { name := "accountBalancesIngestAndRetention", fn := fun _ => fun
  | [d] => { results := [.lit (.bool false)], args := [d] }
  | _ => none }
def AccountBalancesIngestAndRetentionWrongFalsely : Prop := accountBalancesIngestAndRetentionRow.holds Try.pinned (OpenSpec.ofChange accountBalancesIngestAndRetentionWrong)

/- THE SECOND FORM. 'bulk': how many values and letters a reading holds, each counted each time it is reached (what is shared counts as often as it is met; a slice's spare places count too). A statement '..UptoSaid' is the law's where the arguments, and the package variables that the reading takes, are together of bulk at most 1048576: NARROWER than '..Said'. Prove '..Said' where nothing that the law and all that it calls make is longer than what came in: it says more and counts as full. Else prove '..UptoSaid'. A law counts once. -/
mutual
def uptoBulk {H : Type} : DataW H → Nat
  | .lit (.string bytes) => bytes.length + 1
  | .lit _ => 1
  | .nil => 1
  | .ptr d => uptoBulk d + 1
  | .slice elems spare => uptoBulkAll elems + uptoBulkAll spare + 1
  | .agg parts => uptoBulkAll parts + 1
  | .iface _ d => uptoBulk d + 1
  | .map entries => uptoBulkEntries entries + 1
  | .held _ => 1
def uptoBulkAll {H : Type} : List (DataW H) → Nat
  | [] => 0
  | d :: r => uptoBulk d + uptoBulkAll r
def uptoBulkEntries {H : Type} : List (Lit × DataW H) → Nat
  | [] => 0
  | x :: r => uptoBulkEntry x + uptoBulkEntries r
def uptoBulkEntry {H : Type} : Lit × DataW H → Nat
  | (.string bytes, d) => bytes.length + uptoBulk d + 1
  | (_, d) => uptoBulk d + 1
 end
def uptoSmall : (H : Type) → List (DataW H) → Bool := fun _ ds => decide (uptoBulkAll ds ≤ 1048576)
def OpenSpec.upto (s : _root_.Go.ChangeSpec) : _root_.Go.OpenSpec := { _root_.Go.OpenSpec.ofChange s with cond := some uptoSmall }

/-- 'logtidelaw42.AccountMergeIsAssociative', WHERE WHAT IT READS IS OF BULK AT MOST 1048576: true; the input reads as it did. -/
def accountMergeIsAssociativeUptoRow : OpenClaim := { program := "ytiogpomgpknjlaa", sum := "51ac54c453dfb632d2fd358193f2d92ec4b28feb5b00119808b72c86cdb99aed", func := "logtide/logtidelaw42.AccountMergeIsAssociative", spec := "accountMergeIsAssociative", unfollowed := true, recurses := true, apart := false, narrowed := true }
def AccountMergeIsAssociativeUptoSaid : Prop := accountMergeIsAssociativeUptoRow.holds Try.pinned (OpenSpec.upto accountMergeIsAssociativeSpec)

/-- 'logtidelaw42.AccountTallies', WHERE WHAT IT READS IS OF BULK AT MOST 1048576: true; the input reads as it did. -/
def accountTalliesUptoRow : OpenClaim := { program := "ytiogpomgpknjlaa", sum := "51ac54c453dfb632d2fd358193f2d92ec4b28feb5b00119808b72c86cdb99aed", func := "logtide/logtidelaw42.AccountTallies", spec := "accountTallies", inPlace := ["slices.overlaps[logtide/api.Tally]"], unfollowed := true, recurses := true, apart := false, narrowed := true }
def AccountTalliesUptoSaid : Prop := accountTalliesUptoRow.holds Try.pinned (OpenSpec.upto accountTalliesSpec)

/-- 'logtidelaw42.AccountReport', WHERE WHAT IT READS IS OF BULK AT MOST 1048576: true; the input reads as it did. -/
def accountReportUptoRow : OpenClaim := { program := "ytiogpomgpknjlaa", sum := "51ac54c453dfb632d2fd358193f2d92ec4b28feb5b00119808b72c86cdb99aed", func := "logtide/logtidelaw42.AccountReport", spec := "accountReport", inPlace := ["slices.overlaps[logtide/api.Tally]"], unfollowed := true, recurses := true, apart := false, narrowed := true }
def AccountReportUptoSaid : Prop := accountReportUptoRow.holds Try.pinned (OpenSpec.upto accountReportSpec)

/-- 'logtidelaw42.AccountBalancesIngestAndRetention', WHERE WHAT IT READS IS OF BULK AT MOST 1048576: true; the input reads as it did. -/
def accountBalancesIngestAndRetentionUptoRow : OpenClaim := { program := "ytiogpomgpknjlaa", sum := "51ac54c453dfb632d2fd358193f2d92ec4b28feb5b00119808b72c86cdb99aed", func := "logtide/logtidelaw42.AccountBalancesIngestAndRetention", spec := "accountBalancesIngestAndRetention", inPlace := ["slices.overlaps[logtide/api.Tally]"], unfollowed := true, recurses := true, apart := false, narrowed := true }
def AccountBalancesIngestAndRetentionUptoSaid : Prop := accountBalancesIngestAndRetentionUptoRow.holds Try.pinned (OpenSpec.upto accountBalancesIngestAndRetentionSpec)

end Rows
end Go.Proofs.Ytiogpomgpknjlaa
