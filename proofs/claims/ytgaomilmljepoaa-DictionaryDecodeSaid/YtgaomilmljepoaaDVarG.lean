/- The varint comes back from its bytes: GetVarint. Plain. (beside the reader of dictionaries) -/
import Derived.Test.YtgaomilmljepoaaDRdA
import Derived.Test.YtgaomilmljepoaaGetV
namespace Go.Proofs.Ytgaomilmljepoaa
open Go.RowKit
set_option linter.unusedVariables false
set_option linter.unusedSimpArgs false

theorem gNum_vint : ∀ (s k m acc : Nat) (rest : List Int), s + k = 10 → 0 < s → acc < 2 ^ (7 * k) → acc + 2 ^ (7 * k) * m < 18446744073709551616 → m < 128 ^ s → (0 < k → 0 < m) →
    gNum (vint m ++ rest) k acc = some (acc + 2 ^ (7 * k) * m, k + (vint m).length)
  | 0, _, _, _, _, _, h, _, _, _, _ => absurd h (by omega)
  | s + 1, k, m, acc, rest, hk, _, ha, hn, hm, h0 => by
    have hk10 : ¬ 10 ≤ k := by omega
    have h9 : ∀ d : Int, (k = 9 → d ≤ 1) → ¬ (k = 9 ∧ 1 < d) := fun d h ⟨e, h2⟩ => by have := h e; omega
    by_cases h : m < 128
    · rw [vint_lt h, List.singleton_append, gNum, if_neg hk10]
      have hmod : m % 128 * 2 ^ (7 * k) % 2 ^ 64 = m * 2 ^ (7 * k) := by
        rw [Nat.mod_eq_of_lt h]
        exact Nat.mod_eq_of_lt (by rw [Nat.mul_comm]; omega)
      rw [if_neg (h9 _ (fun e => by subst e; simp at hn; omega)), if_pos (by omega), if_neg (fun ⟨e1, e2⟩ => by have := h0 e1; omega)]
      simp only [Int.toNat_natCast, List.length_cons, List.length_nil]
      rw [hmod, or_add rfl ha]
    · rw [vint_ge h, List.cons_append, gNum, if_neg hk10]
      have hs0 : 0 < s := by
        rcases Nat.eq_zero_or_pos s with e | e
        · subst e; simp at hm; omega
        · exact e
      rw [if_neg (h9 _ (fun e => by omega)), if_neg (by omega)]
      have hP : 2 ^ (7 * (k + 1)) = 2 ^ (7 * k) * 128 := by rw [Nat.mul_add, Nat.pow_add]
      have hle : 2 ^ (7 * k) * (m % 128) ≤ 2 ^ (7 * k) * m := Nat.mul_le_mul_left _ (Nat.mod_le _ _)
      have hmod : (m % 128 + 128) % 128 * 2 ^ (7 * k) % 2 ^ 64 = m % 128 * 2 ^ (7 * k) := by
        rw [show (m % 128 + 128) % 128 = m % 128 from by omega]
        exact Nat.mod_eq_of_lt (by rw [Nat.mul_comm]; omega)
      simp only [Int.toNat_natCast]
      rw [hmod, or_add rfl ha]
      have hsum : acc + 2 ^ (7 * k) * (m % 128) + 2 ^ (7 * (k + 1)) * (m / 128) = acc + 2 ^ (7 * k) * m := by
        rw [hP, Nat.mul_assoc, Nat.add_assoc, ← Nat.mul_add, Nat.mod_add_div]
      have hlt : acc + 2 ^ (7 * k) * (m % 128) < 2 ^ (7 * (k + 1)) := by
        have h1 : 2 ^ (7 * k) * (m % 128) ≤ 2 ^ (7 * k) * 127 := Nat.mul_le_mul_left _ (by omega)
        rw [hP]; omega
      rw [gNum_vint s (k + 1) (m / 128) _ rest (by omega) hs0 hlt (by rw [hsum]; exact hn) (by rw [Nat.div_lt_iff_lt_mul (by decide)]; rw [Nat.pow_succ] at hm; exact hm) (fun _ => by omega), hsum]
      simp only [List.length_cons]
      congr 2
      omega
theorem getv_back (n : Nat) (h : n < 18446744073709551616) (rest : List Int) : gNum (vint n ++ rest) 0 0 = some (n, (vint n).length) := by
  have := gNum_vint 10 0 n 0 rest rfl (by omega) (by simp) (by simpa using h) (Nat.lt_trans h (by decide)) (fun h => absurd h (by omega))
  simpa using this
end Go.Proofs.Ytgaomilmljepoaa
