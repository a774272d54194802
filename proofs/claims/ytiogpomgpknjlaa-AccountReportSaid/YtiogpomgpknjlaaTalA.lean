/- Words for Add of the reference of chapter 28. No condition. -/
import Derived.Test.YtiogpomgpknjlaaTal
import Derived.Test.YtiogpomgpknjlaaDraw
import Derived.Test.YtiogpomgpknjlaaFlat
import Derived.Test.YtiogpomgpknjlaaSame0
import Derived.ArgAppend
import Derived.Deep.DeepMust
namespace Go.Proofs.Ytiogpomgpknjlaa
open Go.RowKit
set_option linter.unusedVariables false
set_option linter.unusedSimpArgs false

theorem talInfo : (Try.prog.info? 62).map (fun i => (i.zero, i.size, i.bytes)) = some (some (.agg #[.int .i64 0, .string ⟨#[]⟩, .int .i64 0]), 3, 32) := by kernel_rfl
theorem tflat_at {l : List Tal} {i : Nat} {t : Tal} (h : l[i]? = some t) (j : Nat) (hj : j < 3) : (l.flatMap Tal.cells)[i * 3 + j]? = t.cells[j]? := by
  have hi : i < l.length := by
    rcases Nat.lt_or_ge i l.length with h' | h'
    · exact h'
    · rw [List.getElem?_eq_none h'] at h; cases h
  rw [flat_at Tal.cells 3 Tal.cells_len l i j hi hj]
  rw [List.getElem?_eq_getElem hi] at h
  injection h with h
  rw [h]
theorem tflat_len (l : List Tal) : (l.flatMap Tal.cells).length = l.length * 3 := flat_len _ 3 Tal.cells_len l
theorem tflat_take (l : List Tal) (n : Nat) : (l.take n).flatMap Tal.cells = (l.flatMap Tal.cells).take (n * 3) := flat_take Tal.cells_len l n
theorem tflat_drop (l : List Tal) (n : Nat) : (l.drop n).flatMap Tal.cells = (l.flatMap Tal.cells).drop (n * 3) := flat_drop Tal.cells_len l n
theorem tflat_one (l : List Tal) : ∀ u ∈ l.flatMap Tal.cells, u.oneCell' = true := flat_one Tal.one l
theorem Rd.tal {S : Nat → Prop} {w : World} {A : Option Addr} {l : List Tal} (h : Rd S w A (l.flatMap Tal.cells)) {i : Nat} {t : Tal} (ht : l[i]? = some t) :
    ∃ b off, A = some ⟨b, off, none⟩ ∧ w.cell? ⟨b, off + i * 3, none⟩ = some (.int .i64 t.host) ∧ w.cell? ⟨b, off + i * 3 + 1, none⟩ = some (.string t.rule) ∧ w.cell? ⟨b, off + i * 3 + 2, none⟩ = some (.int .i64 t.lines) := by
  have hi : i < l.length := by
    rcases Nat.lt_or_ge i l.length with h | h
    · exact h
    · rw [List.getElem?_eq_none h] at ht; cases ht
  obtain ⟨b, off, e, _, _, hc⟩ := h (by rw [tflat_len]; omega)
  refine ⟨b, off, e, hc _ _ (tflat_at ht 0 (by omega)), ?_, ?_⟩
  · rw [Nat.add_assoc]; exact hc _ _ (tflat_at ht 1 (by omega))
  · rw [Nat.add_assoc]; exact hc _ _ (tflat_at ht 2 (by omega))
def TalsPost (w : World) (l : List Tal) (e : Ending) (w' : World) : Prop :=
  ∃ (A : Option Addr) (c : Nat), e = .returned (.slice A l.length c) ∧ l.length ≤ c ∧ c ≤ maxLen ∧ Rd (w.heap.size ≤ ·) w' A (l.flatMap Tal.cells) ∧ w.grownBy w' none

end Go.Proofs.Ytiogpomgpknjlaa
