/- The reader of columns: packed: the model; the walk is missing. -/
import Derived.Test.YtebakogdbeeljaaRdF
namespace Go.Proofs.Ytebakogdbeeljaa
open Go.RowKit
set_option linter.unusedVariables false
set_option linter.unusedSimpArgs false

/-- the first k bits of the number that begins at bit p -/
def dBits (bs : List Int) (p : Nat) : Nat → Nat
  | 0 => 0
  | k + 1 => dBits bs p k ||| ((bs.getD ((p + k) / 8) 0).toNat / 2 ^ ((p + k) % 8) % 2) <<< k
theorem dBits_lt (bs : List Int) (p : Nat) : ∀ k, dBits bs p k < 2 ^ k
  | 0 => by simp [dBits]
  | k + 1 => by
    have h := dBits_lt bs p k
    refine Nat.or_lt_two_pow (Nat.lt_of_lt_of_le h (Nat.pow_le_pow_right (by decide) (by omega))) ?_
    rw [Nat.shiftLeft_eq, Nat.pow_succ]
    have : (bs.getD ((p + k) / 8) 0).toNat / 2 ^ ((p + k) % 8) % 2 ≤ 1 := by omega
    calc _ ≤ 1 * 2 ^ k := Nat.mul_le_mul_right _ this
      _ < 2 ^ k * 2 := by have := Nat.two_pow_pos k; omega
/-- what packed hands back -/
def rPk (n : Nat) (bs : List Int) (bad : Bool) : List Int × List Int × Bool :=
  if n = 0 then ([], bs, bad) else
  let r := rNum 10 0 bs bad
  let c := (r.2.1.headD 0).toNat
  let b2 := r.2.1.tail
  let d2 := r.2.2 || r.2.1.isEmpty
  if d2 = true ∨ 64 < c ∨ b2.length ≠ (n * c + 7) / 8 then ([], b2, true)
  else ((List.range n).map (fun i => wrap64 (uz r.1 + (dBits b2 (i * c) c : Nat))), [], false)
end Go.Proofs.Ytebakogdbeeljaa
