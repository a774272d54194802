/- Rows of the call's own and other blocks: told apart by what they hold. No condition. -/
import Derived.Test.YtiogpomgpknjlaaBase
namespace Go.Proofs.Ytiogpomgpknjlaa
open Go.RowKit
set_option linter.unusedVariables false
set_option linter.unusedSimpArgs false

theorem blk_norow {w : World} {g t e z n base : Nat} {cs : Array Value} {v : Value} {xs : List Value} (hB : Blk w g t cs) (h : w.ownsRow base e z v n xs) (hte : t ≠ e) : v.ownBlock ≠ some g := by
  rcases h.2 with ⟨rfl, _⟩ | ⟨g', cap, cur, rfl, _, hh, _⟩
  · simp [Value.ownBlock]
  · intro e1
    have e2 : g' = g := by simpa [Value.ownBlock] using e1
    subst e2
    unfold Blk at hB
    rw [hB] at hh
    injection hh with hh
    injection hh with _ h2 _
    exact hte h2
theorem own_off {w w' : World} {base e z n g : Nat} {v : Value} {xs : List Value} (h : w.ownsRow base e z v n xs) (hg : w.grownBy w' (some g)) (hne : v.ownBlock ≠ some g) : w'.ownsRow base e z v n xs := h.kept hg (.inr hne)
theorem own_putk {w : World} {base e size g n c k : Nat} {xs : List Value} {u : Value} (h : w.ownsRow base e size (.slice (some ⟨g, 0, none⟩) n c) n xs) (hk : k < n * size) : (w.setCell ⟨g, k, none⟩ u).ownsRow base e size (.slice (some ⟨g, 0, none⟩) n c) n (xs.set k u) := by
  obtain ⟨hl, h2⟩ := h
  refine ⟨by simpa using hl, ?_⟩
  rcases h2 with ⟨h3, _⟩ | ⟨g', cap, cur, h3, h4, h5, h6, h7, h8, h9⟩
  · cases h3
  · injection h3 with e1 e2 e3
    injection e1 with e1
    injection e1 with e1
    subst e1 e3
    refine .inr ⟨g, c, cur.setIfInBounds k u, rfl, h4, ?_, h6, h7, by simpa using h8, ?_⟩
    · simp [World.setCell, Array.getElem?_modify, h5]
    · rw [Array.toList_setIfInBounds, List.take_set, h9]
end Go.Proofs.Ytiogpomgpknjlaa
