/- What a test asks of the terms of an event: plain. No condition. -/
import Derived.Test.YtceebhgbebkafaaGreatDoorTestD
import Derived.Test.YtceebhgbebkafaaGreatDoorSorted
import Derived.Lib.Hide
import Derived.Lib.SlicesS
namespace Go.Proofs.YtceebhgbebkafaaGreatDoor
open Go.RowKit
set_option linter.unusedVariables false
set_option linter.unusedSimpArgs false

def eqSign : ByteArray := ⟨#[61]⟩
/-- the term of a test -/
def TT.term (t : TT) : Option ByteArray :=
  if t.op = 1 then some t.tx else if t.op = 4 ∧ Lib.hasPrefix t.nm.data.toList [64] = false then some (t.nm ++ eqSign ++ t.tx) else none
/-- what Possible answers, f: is it among the terms -/
def poss (f : ByteArray → Bool) : Nat → TT → Bool
  | 0, _ => true
  | n + 1, t =>
    if t.op = 6 then t.kids.all (poss f n)
    else if t.op = 7 then t.kids.any (poss f n)
    else match t.term with
      | none => true
      | some s => f s
theorem poss_mono {f g : ByteArray → Bool} (h : ∀ s, f s = true → g s = true) : ∀ (n : Nat) (t : TT), poss f n t = true → poss g n t = true
  | 0, _, _ => rfl
  | n + 1, t, ht => by
    unfold poss at ht ⊢
    by_cases h6 : t.op = 6
    · rw [if_pos h6] at ht ⊢
      rw [List.all_eq_true] at ht ⊢
      exact fun k hk => poss_mono h n k (ht k hk)
    rw [if_neg h6] at ht ⊢
    by_cases h7 : t.op = 7
    · rw [if_pos h7] at ht ⊢
      rw [List.any_eq_true] at ht ⊢
      obtain ⟨k, hk, e⟩ := ht
      exact ⟨k, hk, poss_mono h n k e⟩
    rw [if_neg h7] at ht ⊢
    cases e : t.term with
    | none => rfl
    | some s => rw [e] at ht; exact h s ht
/-- the terms that a test asks for -/
def req : Nat → TT → List ByteArray
  | 0, _ => []
  | n + 1, t =>
    match t.term with
    | some s => [s]
    | none =>
      if t.op = 6 then dist (t.kids.flatMap (req n))
      else if t.op = 7 then
        match t.kids.map (req n) with
        | [] => []
        | r :: l => l.foldl (fun o r => o.filter (fun s => Lib.containsS r s)) r
      else []
end Go.Proofs.YtceebhgbebkafaaGreatDoor
