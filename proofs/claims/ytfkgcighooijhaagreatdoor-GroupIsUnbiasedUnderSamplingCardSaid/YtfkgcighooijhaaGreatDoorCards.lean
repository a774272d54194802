/-
  DERIVED. GIVEN WITH THE SEED: THE CARDS: each row of YtfkgcighooijhaaGreatDoorRows.lean that lists a variable, with what it lists TIED to the program's text (the seventh form; the later family's looks); each row that meets fmt, with fmt's text TOLD by the authors' own Lean function (tested against real Go, not proved from fmt's source: count such statements apart). THE CARD IS WHAT COUNTS. Prove the row's statement (the work); the ties are given (YtfkgcighooijhaaGreatDoorTie.lean); close each card by the builder's one call (the guide's Derived/Test/ToyasCard.lean, 'card_holds'). Laid BY PROGRAM, IN A SANDBOX (cutbox-door.mjs). By AI agents, Wed Nov 11 2026. No macro, syntax, notation, axiom, sorry.
-/
import Derived.Test.YtfkgcighooijhaaGreatDoorRows
import GoSem.ClaimSeven
namespace Go.Proofs.YtfkgcighooijhaaGreatDoor
namespace Rows

/-- THE TIED CARD OF 'logtidelaw37.GroupMerge'. -/
def groupMergeCard : Claim7 := { stood := { row := groupMergeRow, standIns := [], harness := (true, "7777d575293f8db16b735fd3d4049e5d4563c271227a72bca09a5f97adcd1ee3"), looks := false }, kinds := [], alts := [], laidByText := true, laidKinds := [.data, .data, .data], laidTests := true, laidLooks := .later }
def GroupMergeCardSaid : Prop := Claim7.holds Tryz.pinned (.plain (OpenSpec.ofChange groupMergeSpec)) groupMergeCard

/-- THE TIED CARD OF 'logtidelaw37.GroupCountsAllEvents'. -/
def groupCountsAllEventsCard : Claim7 := { stood := { row := groupCountsAllEventsRow, standIns := [], harness := (true, "7777d575293f8db16b735fd3d4049e5d4563c271227a72bca09a5f97adcd1ee3"), looks := false }, kinds := [], alts := [], laidByText := true, laidKinds := [.data, .data, .data], laidTests := true, laidLooks := .later }
def GroupCountsAllEventsCardSaid : Prop := Claim7.holds Tryz.pinned (.plain (OpenSpec.ofChange groupCountsAllEventsSpec)) groupCountsAllEventsCard

/-- THE TIED CARD OF 'logtidelaw37.GroupIsUnbiasedUnderSampling'. -/
def groupIsUnbiasedUnderSamplingCard : Claim7 := { stood := { row := groupIsUnbiasedUnderSamplingRow, standIns := [], harness := (true, "7777d575293f8db16b735fd3d4049e5d4563c271227a72bca09a5f97adcd1ee3"), looks := false }, kinds := [], alts := [], laidByText := true, laidKinds := [.data, .data, .data], laidTests := true, laidLooks := .later }
def GroupIsUnbiasedUnderSamplingCardSaid : Prop := Claim7.holds Tryz.pinned (.plain (OpenSpec.ofChange groupIsUnbiasedUnderSamplingSpec)) groupIsUnbiasedUnderSamplingCard

/-- THE TIED CARD OF 'logtidelaw37.GroupCollect'. -/
def groupCollectCard : Claim7 := { stood := { row := groupCollectRow, standIns := [], harness := (true, "7777d575293f8db16b735fd3d4049e5d4563c271227a72bca09a5f97adcd1ee3"), looks := false }, kinds := [], alts := [], laidByText := true, laidKinds := [.data, .data, .data], laidTests := true, laidLooks := .later }
def GroupCollectCardSaid : Prop := Claim7.holds Tryz.pinned (.plain (OpenSpec.ofChange groupCollectSpec)) groupCollectCard

/-- THE SECOND FORM's CARD OF 'logtidelaw37.GroupMerge'. -/
def groupMergeUptoCard : Claim7 := { stood := { row := groupMergeUptoRow, standIns := [], harness := (true, "7777d575293f8db16b735fd3d4049e5d4563c271227a72bca09a5f97adcd1ee3"), looks := false }, kinds := [], alts := [], laidByText := true, laidKinds := [.data, .data, .data], laidTests := true, laidLooks := .later }
def GroupMergeUptoCardSaid : Prop := Claim7.holds Tryz.pinned (.plain (OpenSpec.upto groupMergeSpec)) groupMergeUptoCard

/-- THE SECOND FORM's CARD OF 'logtidelaw37.GroupCountsAllEvents'. -/
def groupCountsAllEventsUptoCard : Claim7 := { stood := { row := groupCountsAllEventsUptoRow, standIns := [], harness := (true, "7777d575293f8db16b735fd3d4049e5d4563c271227a72bca09a5f97adcd1ee3"), looks := false }, kinds := [], alts := [], laidByText := true, laidKinds := [.data, .data, .data], laidTests := true, laidLooks := .later }
def GroupCountsAllEventsUptoCardSaid : Prop := Claim7.holds Tryz.pinned (.plain (OpenSpec.upto groupCountsAllEventsSpec)) groupCountsAllEventsUptoCard

/-- THE SECOND FORM's CARD OF 'logtidelaw37.GroupIsUnbiasedUnderSampling'. -/
def groupIsUnbiasedUnderSamplingUptoCard : Claim7 := { stood := { row := groupIsUnbiasedUnderSamplingUptoRow, standIns := [], harness := (true, "7777d575293f8db16b735fd3d4049e5d4563c271227a72bca09a5f97adcd1ee3"), looks := false }, kinds := [], alts := [], laidByText := true, laidKinds := [.data, .data, .data], laidTests := true, laidLooks := .later }
def GroupIsUnbiasedUnderSamplingUptoCardSaid : Prop := Claim7.holds Tryz.pinned (.plain (OpenSpec.upto groupIsUnbiasedUnderSamplingSpec)) groupIsUnbiasedUnderSamplingUptoCard

/-- THE SECOND FORM's CARD OF 'logtidelaw37.GroupCollect'. -/
def groupCollectUptoCard : Claim7 := { stood := { row := groupCollectUptoRow, standIns := [], harness := (true, "7777d575293f8db16b735fd3d4049e5d4563c271227a72bca09a5f97adcd1ee3"), looks := false }, kinds := [], alts := [], laidByText := true, laidKinds := [.data, .data, .data], laidTests := true, laidLooks := .later }
def GroupCollectUptoCardSaid : Prop := Claim7.holds Tryz.pinned (.plain (OpenSpec.upto groupCollectSpec)) groupCollectUptoCard
end Rows
end Go.Proofs.YtfkgcighooijhaaGreatDoor
