/- The varint comes back from its bytes: the reader's number. Plain. -/
import Derived.Test.YtebakogdbeeljaaRdB
namespace Go.Proofs.Ytebakogdbeeljaa
open Go.RowKit
set_option linter.unusedVariables false
set_option linter.unusedSimpArgs false

theorem or_add {a P m : Nat} {i : Nat} (hP : P = 2 ^ i) (h : a < P) : a ||| m * P = a + P * m := by
  subst hP
  have := Nat.two_pow_add_eq_or_of_lt (i := i) (b := a) h m
  rw [Nat.or_comm, Nat.mul_comm m, ← this, Nat.add_comm]
theorem rNum_vint : ∀ (s k m acc : Nat) (rest : List Int) (bad : Bool), s + k = 10 → 0 < s → acc < 2 ^ (7 * k) → acc + 2 ^ (7 * k) * m < 18446744073709551616 → m < 128 ^ s →
    rNum s acc (vint m ++ rest) bad = (acc + 2 ^ (7 * k) * m, rest, bad)
  | 0, _, _, _, _, _, _, h, _, _, _ => absurd h (by omega)
  | s + 1, k, m, acc, rest, bad, hk, _, ha, hn, hm => by
    have e10 : 10 - (s + 1) = k := by omega
    by_cases h : m < 128
    · rw [vint_lt h, List.singleton_append, rNum]
      have hmod : m % 128 * 2 ^ (7 * k) % 2 ^ 64 = m * 2 ^ (7 * k) := by
        rw [Nat.mod_eq_of_lt h]
        exact Nat.mod_eq_of_lt (by rw [Nat.mul_comm]; omega)
      simp only [List.headD_cons, List.tail_cons, List.isEmpty_cons, Bool.or_false, e10, Int.toNat_natCast]
      rw [if_pos (by omega), hmod, or_add rfl ha]
    · rw [vint_ge h, List.cons_append, rNum]
      simp only [List.headD_cons, List.tail_cons, List.isEmpty_cons, Bool.or_false, e10, Int.toNat_natCast]
      rw [if_neg (by omega)]
      have hP : 2 ^ (7 * (k + 1)) = 2 ^ (7 * k) * 128 := by rw [Nat.mul_add, Nat.pow_add]
      have hle : 2 ^ (7 * k) * (m % 128) ≤ 2 ^ (7 * k) * m := Nat.mul_le_mul_left _ (Nat.mod_le _ _)
      have hmod : (m % 128 + 128) % 128 * 2 ^ (7 * k) % 2 ^ 64 = m % 128 * 2 ^ (7 * k) := by
        rw [show (m % 128 + 128) % 128 = m % 128 from by omega]
        exact Nat.mod_eq_of_lt (by rw [Nat.mul_comm]; omega)
      rw [hmod, or_add rfl ha]
      have hs0 : 0 < s := by
        rcases Nat.eq_zero_or_pos s with e | e
        · subst e; simp at hm; omega
        · exact e
      have hsum : acc + 2 ^ (7 * k) * (m % 128) + 2 ^ (7 * (k + 1)) * (m / 128) = acc + 2 ^ (7 * k) * m := by
        rw [hP, Nat.mul_assoc, Nat.add_assoc, ← Nat.mul_add, Nat.mod_add_div]
      have hlt : acc + 2 ^ (7 * k) * (m % 128) < 2 ^ (7 * (k + 1)) := by
        have h1 : 2 ^ (7 * k) * (m % 128) ≤ 2 ^ (7 * k) * 127 := Nat.mul_le_mul_left _ (by omega)
        rw [hP]; omega
      rw [rNum_vint s (k + 1) (m / 128) _ rest bad (by omega) hs0 hlt (by rw [hsum]; exact hn) (by rw [Nat.div_lt_iff_lt_mul (by decide)]; rw [Nat.pow_succ] at hm; exact hm), hsum]
theorem num_back (n : Nat) (h : n < 18446744073709551616) (rest : List Int) (bad : Bool) : rNum 10 0 (vint n ++ rest) bad = (n, rest, bad) := by
  have := rNum_vint 10 0 n 0 rest bad rfl (by omega) (by simp) (by simpa using h) (Nat.lt_trans h (by decide))
  simpa using this
end Go.Proofs.Ytebakogdbeeljaa
