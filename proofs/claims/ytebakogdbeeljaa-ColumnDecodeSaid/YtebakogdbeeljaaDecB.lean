/- What the Decode of the program needs beside. -/
import Derived.Test.YtebakogdbeeljaaDecR
import Derived.Test.YtebakogdbeeljaaBEq
import Derived.Test.YtebakogdbeeljaaColH
namespace Go.Proofs.Ytebakogdbeeljaa
open Go.RowKit
set_option linter.unusedVariables false
set_option linter.unusedSimpArgs false

theorem own_base {w : World} {base base' e size n : Nat} {v : Value} {xs : List Value} (h : w.ownsRow base e size v n xs) (hb : base' ≤ base) : w.ownsRow base' e size v n xs := by
  obtain ⟨h1, h2⟩ := h
  refine ⟨h1, ?_⟩
  rcases h2 with h3 | ⟨g, cap, cur, h3, h4, h5⟩
  · exact .inl h3
  · exact .inr ⟨g, cap, cur, h3, Nat.le_trans hb h4, h5⟩
theorem RdrAt.grownD {w w' : World} {g : Nat} {bs : List Int} {bad : Bool} {row : Option Nat} (h : RdrAt w g bs bad) (hg : w.drew.grownBy w' row) (hr : ∀ b, b ≤ g → some b ≠ row) : RdrAt w' g bs bad := RdrAt.grown (w := w.drew) h hg hr
theorem only_transD {a b c : World} {row : Option Nat} (h : a.grownBy b row) (k : b.drew.grownBy c row) : a.grownBy c row := only_trans (only_drew h) k
theorem only_freshD {a b c : World} {g : Nat} {row : Option Nat} (h : a.grownBy b row) (k : b.drew.grownBy c (some g)) (hg : a.heap.size ≤ g) : a.grownBy c row := only_fresh (only_drew h) k hg
def U8s (l : List Int) : Prop := ∀ x ∈ l, 0 ≤ x ∧ x ≤ 255
theorem U8s.app {a b : List Int} (ha : U8s a) (hb : U8s b) : U8s (a ++ b) := fun x hx => (List.mem_append.1 hx).elim (ha x) (hb x)
theorem U8s.nil : U8s [] := fun x hx => by simp at hx
theorem vint_u8 : ∀ n, U8s (vint n) := by
  intro n
  induction n using Nat.strongRecOn with
  | ind n ih =>
    rw [vint]
    split
    · intro x hx
      simp at hx; omega
    · intro x hx
      rcases List.mem_cons.1 hx with rfl | hx
      · omega
      · exact ih _ (by omega) x hx
theorem genTo_u8 {f : Nat → List Int} (h : ∀ i, U8s (f i)) : ∀ k, U8s (genTo f k)
  | 0 => by rw [genTo]; exact U8s.nil
  | k + 1 => by rw [genTo]; exact (genTo_u8 h k).app (h k)
theorem runsB_u8 : ∀ (N : Nat) (l : List Int), l.length ≤ N → U8s (runsB l)
  | _, [], _ => by rw [runsB_nil]; exact U8s.nil
  | 0, x :: l, h => by simp at h
  | N + 1, x :: l, h => by
    rw [runsB_cons]
    exact (vint_u8 _).app ((vint_u8 _).app (runsB_u8 N _ (by simp at h ⊢; omega)))
theorem packB_u8 (vs : List Int) : U8s (packB vs) := by
  rw [packB]
  split
  · exact U8s.nil
  · refine (vint_u8 _).app (U8s.app ?_ ?_)
    · intro x hx
      simp at hx
      have := pw_le vs
      omega
    · intro x hx
      simp only [List.mem_map] at hx
      obtain ⟨n, hn, rfl⟩ := hx
      obtain ⟨i, hi, rfl⟩ := List.getElem_of_mem hn
      have := Bt.all vs vs.length i
      rw [List.getD_eq_getElem?_getD, List.getElem?_eq_getElem hi] at this
      simp at this
      omega
theorem colB_u8 {k : Int} {vs : List Int} (hk : 0 ≤ k ∧ k < 4) (hi : ∀ x ∈ vs, I64 x) (hl : vs.length ≤ 16384) : ∀ x ∈ colB k vs, 0 ≤ x ∧ x ≤ 255 := by
  rw [colB_ok (colErr_ok hk hl)]
  refine U8s.app (fun x hx => ?_) ((vint_u8 _).app ?_)
  · simp at hx; omega
  · unfold bodyB
    split
    · exact genTo_u8 (fun i => vint_u8 _) _
    · split
      · exact genTo_u8 (fun i => vint_u8 _) _
      · split
        · exact runsB_u8 _ _ (Nat.le_refl _)
        · exact packB_u8 vs
end Go.Proofs.Ytebakogdbeeljaa
