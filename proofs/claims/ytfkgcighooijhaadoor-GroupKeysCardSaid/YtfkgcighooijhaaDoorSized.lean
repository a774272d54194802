/- The reach of arguments that are slices of strings. No condition. -/
import Derived.Test.YtfkgcighooijhaaDoorStr
import Derived.SizedLaws
import Derived.SliceStrings
namespace Go.Proofs.YtfkgcighooijhaaDoor
open Go.RowKit
set_option linter.unusedVariables false
set_option linter.unusedSimpArgs false
theorem weights_strs {H : Type} {P : Program} {e : TypeId} : ∀ (ss : List ByteArray) (s : ByteArray), s ∈ ss → s.size ∈ DataW.weightsAll (H := H) P e (ChangeShapes.strs ss)
  | [], _, h => by simp at h
  | t :: l, s, h => by
    simp only [ChangeShapes.strs, List.map_cons, DataW.weightsAll, List.mem_append]
    rcases List.mem_cons.1 h with r | r
    · subst r; left; simp [DataW.weights]
    · exact .inr (weights_strs l s r)
theorem sized_strs {H : Type} {P : Program} {ts : List TypeId} {ds : List (DataW H)} (h : (DataW.weightsEach P ts ds).all (· ≤ reachBytes) = true) {j : Nat} {t e : TypeId} {ss : List ByteArray} {n : Nat} (ht : ts[j]? = some t) (hd : ds[j]? = some (.slice (ChangeShapes.strs (ss.take n)) (ChangeShapes.strs (ss.drop n)))) (hu : P.underlying t = some (.slice e)) :
    ∀ s ∈ ss.take n, s.size ≤ 140737488351232 := fun s hs => by
  have := List.all_eq_true.1 h _ (DataW.weights_mem_each ht hd s.size (by
    simp only [DataW.weights, hu, List.mem_cons, List.mem_append]
    exact .inr (.inl (weights_strs _ s hs))))
  have h2 : s.size ≤ reachBytes := of_decide_eq_true this
  simpa [reachBytes] using h2
theorem rd_of_strs {w : World} {a : Addr} {len cap : Nat} {ss : List ByteArray} (hl : len ≤ cap) (hz : ss.length = cap) (hc : ∀ i, i < ss.length → w.cell? (a.add i) = some (.string (ss.getD i ByteArray.empty))) :
    Rd (fun _ => True) w (some a) ((ss.take len).map .string) := fun hn => by
  have hlen : 0 < ss.length := by simp at hn; omega
  obtain ⟨b, off, spot⟩ := a
  have h0 := hc 0 hlen
  cases spot with
  | some y =>
    exfalso
    simp only [Addr.add, World.cell?] at h0
    simp at h0
    split at h0
    · exact absurd h0 (by simp)
    · exact absurd h0 (by simp)
  | none =>
    refine ⟨b, off, rfl, trivial, World.block_lt_of_cell? w _ h0, fun j u hu => ?_⟩
    rw [List.getElem?_map, List.getElem?_take] at hu
    split at hu
    · rename_i hj
      by_cases hjz : j < ss.length
      · have h1 := hc j hjz
        have hadd : (⟨b, off, none⟩ : Addr).add j = ⟨b, off + j, none⟩ := by unfold Addr.add; split <;> simp_all
        rw [hadd] at h1
        rw [h1, ← hu, getD_lt ss _ hjz, List.getElem?_eq_getElem hjz]
        rfl
      · rw [List.getElem?_eq_none (by omega)] at hu
        cases hu
    · cases hu
end Go.Proofs.YtfkgcighooijhaaDoor
