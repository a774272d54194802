/- The place at which a comparison turns: plain law. No condition. -/
import Derived.Test.YtiogpomgpknjlaaCmpI
namespace Go.Proofs.Ytiogpomgpknjlaa
open Go.RowKit
set_option linter.unusedVariables false
set_option linter.unusedSimpArgs false

section
variable {α : Type} (cf : α → Int)
def lowC (xs : List α) : Nat := (xs.takeWhile (fun x => decide (cf x < 0))).length
def okC (xs : List α) : Bool := match xs[lowC cf xs]? with
  | some x => cf x == 0
  | none => false
def MonoC (xs : List α) : Prop := ∀ (p q : Nat) (x y : α), p < q → xs[p]? = some x → xs[q]? = some y → cf y < 0 → cf x < 0
variable {cf}
theorem lowC_le (xs : List α) : lowC cf xs ≤ xs.length := (List.takeWhile_sublist _).length_le
theorem lowC_at {xs : List α} {i : Nat} (hi : i ≤ xs.length) (h1 : ∀ q x, q < i → xs[q]? = some x → cf x < 0) (h2 : ∀ x, xs[i]? = some x → ¬ cf x < 0) : lowC cf xs = i := by
  unfold lowC
  induction xs generalizing i with
  | nil => simp at hi; subst hi; rfl
  | cons a xs ih =>
    rcases i with _ | i
    · have := h2 a rfl
      rw [List.takeWhile_cons, if_neg (by simpa using this)]
      rfl
    · have := h1 0 a (by omega) rfl
      rw [List.takeWhile_cons, if_pos (by simpa using this), List.length_cons]
      rw [ih (i := i) (by simpa using hi) (fun q x hq hx => h1 (q + 1) x (by omega) (by simpa using hx)) (fun x hx => h2 x (by simpa using hx))]
theorem lowC_lt {xs : List α} {q : Nat} {x : α} (hq : q < lowC cf xs) (hx : xs[q]? = some x) : cf x < 0 := by
  unfold lowC at hq
  induction xs generalizing q with
  | nil => simp at hx
  | cons a xs ih =>
    rw [List.takeWhile_cons] at hq
    split at hq
    · rename_i h
      rcases q with _ | q
      · simp at hx; rw [← hx]; simpa using h
      · exact ih (by simpa using hq) (by simpa using hx)
    · simp at hq
theorem lowC_ge {xs : List α} {x : α} (hx : xs[lowC cf xs]? = some x) : ¬ cf x < 0 := by
  unfold lowC at hx
  induction xs with
  | nil => simp at hx
  | cons a xs ih =>
    rw [List.takeWhile_cons] at hx
    split at hx
    · rename_i h
      exact ih (by simpa using hx)
    · rename_i h
      simp at hx; rw [← hx]; simpa using h
end
end Go.Proofs.Ytiogpomgpknjlaa
