/- What a test asks of the terms of an event: plain. No condition. -/
import Derived.Test.YtceebhgbebkafaaGreatDoorTestD
import Derived.Test.YtceebhgbebkafaaGreatDoorSorted
import Derived.Lib.Hide
import Derived.Lib.SlicesS
import Derived.Test.YtceebhgbebkafaaGreatDoorPrefP
import Derived.Test.YtceebhgbebkafaaGreatDoorSortS
namespace Go.Proofs.YtceebhgbebkafaaGreatDoor
open Go.RowKit
set_option linter.unusedVariables false
set_option linter.unusedSimpArgs false

def eqSign : ByteArray := ⟨#[61]⟩
/-- the term of a test -/
def TT.term (t : TT) : Option ByteArray :=
  if t.op = 1 then some t.tx else if t.op = 4 ∧ Lib.hasPrefix t.nm.data.toList [64] = false then some (t.nm ++ eqSign ++ t.tx) else none
/-- what Possible answers, f: is it among the terms -/
def poss (f : ByteArray → Bool) : Nat → TT → Bool
  | 0, _ => true
  | n + 1, t =>
    if t.op = 6 then t.kids.all (poss f n)
    else if t.op = 7 then t.kids.any (poss f n)
    else match t.term with
      | none => true
      | some s => f s
theorem poss_mono {f g : ByteArray → Bool} (h : ∀ s, f s = true → g s = true) : ∀ (n : Nat) (t : TT), poss f n t = true → poss g n t = true
  | 0, _, _ => rfl
  | n + 1, t, ht => by
    unfold poss at ht ⊢
    by_cases h6 : t.op = 6
    · rw [if_pos h6] at ht ⊢
      rw [List.all_eq_true] at ht ⊢
      exact fun k hk => poss_mono h n k (ht k hk)
    rw [if_neg h6] at ht ⊢
    by_cases h7 : t.op = 7
    · rw [if_pos h7] at ht ⊢
      rw [List.any_eq_true] at ht ⊢
      obtain ⟨k, hk, e⟩ := ht
      exact ⟨k, hk, poss_mono h n k e⟩
    rw [if_neg h7] at ht ⊢
    cases e : t.term with
    | none => rfl
    | some s => rw [e] at ht; exact h s ht
/-- the terms that a test asks for -/
def req : Nat → TT → List ByteArray
  | 0, _ => []
  | n + 1, t =>
    match t.term with
    | some s => [s]
    | none =>
      if t.op = 6 then dist (t.kids.flatMap (req n))
      else if t.op = 7 then
        match t.kids.map (req n) with
        | [] => []
        | r :: l => l.foldl (fun o r => o.filter (fun s => Lib.containsS r s)) r
      else []
end Go.Proofs.YtceebhgbebkafaaGreatDoor
namespace Go.Proofs.YtceebhgbebkafaaGreatDoor
open Go.RowKit
set_option linter.unusedVariables false
set_option linter.unusedSimpArgs false

def orF : List (List ByteArray) → List ByteArray
  | [] => []
  | r :: l => l.foldl (fun o r => o.filter (fun s => Lib.containsS r s)) r
theorem orF_one (r : List ByteArray) : orF [r] = r := rfl
theorem orF_snoc {rs : List (List ByteArray)} (h : rs ≠ []) (r : List ByteArray) : orF (rs ++ [r]) = (orF rs).filter (fun s => Lib.containsS r s) := by
  cases rs with
  | nil => exact absurd rfl h
  | cons x xs => simp [orF, List.foldl_append]
def rq (op : Int) (rs : List (List ByteArray)) : List ByteArray := if op = 6 then rs.flatten else if op = 7 then orF rs else []
theorem req_leaf {n : Nat} {t : TT} {s : ByteArray} (h : t.term = some s) : req (n + 1) t = [s] := by unfold req; rw [h]
theorem req_and {n : Nat} {t : TT} (h : t.term = none) (h6 : t.op = 6) : req (n + 1) t = dist ((t.kids.map (req n)).flatten) := by
  unfold req; rw [h]; simp only; rw [if_pos h6, List.flatMap_def]
theorem req_or {n : Nat} {t : TT} (h : t.term = none) (h7 : t.op = 7) : req (n + 1) t = orF (t.kids.map (req n)) := by
  unfold req; rw [h]; simp only; rw [if_neg (by omega), if_pos h7]
  unfold orF
  split <;> simp_all
theorem req_none {n : Nat} {t : TT} (h : t.term = none) (h6 : t.op ≠ 6) (h7 : t.op ≠ 7) : req (n + 1) t = [] := by
  unfold req; rw [h]; simp only; rw [if_neg h6, if_neg h7]
theorem foldl_filter_srt : ∀ (l : List (List ByteArray)) (r : List ByteArray), Srt r → Srt (l.foldl (fun o r => o.filter (fun s => Lib.containsS r s)) r)
  | [], r, h => h
  | x :: xs, r, h => foldl_filter_srt xs _ (List.Pairwise.sublist List.filter_sublist h)
theorem orF_srt {rs : List (List ByteArray)} (h : ∀ r ∈ rs, Srt r) : Srt (orF rs) := by
  cases rs with
  | nil => exact List.Pairwise.nil
  | cons x xs => exact foldl_filter_srt xs x (h x (List.mem_cons_self ..))
theorem foldl_filter_len : ∀ (l : List (List ByteArray)) (r : List ByteArray), (l.foldl (fun o r => o.filter (fun s => Lib.containsS r s)) r).length ≤ r.length
  | [], r => Nat.le_refl _
  | x :: xs, r => Nat.le_trans (foldl_filter_len xs _) (List.length_filter_le _ _)
theorem orF_len {rs : List (List ByteArray)} {m : Nat} (h : ∀ r ∈ rs, r.length ≤ m) : (orF rs).length ≤ m := by
  cases rs with
  | nil => exact Nat.zero_le _
  | cons x xs => exact Nat.le_trans (foldl_filter_len xs x) (h x (List.mem_cons_self ..))
theorem dist_len (ws : List ByteArray) : (dist ws).length ≤ ws.length := by
  have h := Lib.compact_length_le (sorted (ws.map ofB))
  rw [sorted_len, List.length_map] at h
  unfold dist
  rw [List.length_map]; exact h
theorem flatten_len {rs : List (List ByteArray)} {m : Nat} (h : ∀ r ∈ rs, r.length ≤ m) : rs.flatten.length ≤ rs.length * m := by
  induction rs with
  | nil => simp
  | cons x xs ih =>
    have h1 := h x (List.mem_cons_self ..)
    have h2 := ih (fun r hr => h r (List.mem_cons_of_mem _ hr))
    rw [List.flatten_cons, List.length_append, List.length_cons, Nat.add_mul]
    omega
theorem rq_len {op : Int} {rs : List (List ByteArray)} {m : Nat} (h : ∀ r ∈ rs, r.length ≤ m) (hl : rs.length ≤ 3) : (rq op rs).length ≤ 3 * m := by
  unfold rq
  split
  · exact Nat.le_trans (flatten_len h) (Nat.mul_le_mul_right m hl)
  · split
    · have := orF_len h; omega
    · exact Nat.zero_le _
theorem req_len : ∀ {n : Nat} {t : TT}, t.Ok n → (req n t).length ≤ 3 ^ n
  | 0, _, h => h.elim
  | n + 1, t, h => by
    have hk : ∀ r ∈ t.kids.map (req n), r.length ≤ 3 ^ n := by
      intro r hr
      obtain ⟨k, hk, rfl⟩ := List.mem_map.1 hr
      exact req_len (h.2.2.2.2.2 k hk)
    have hl : (t.kids.map (req n)).length ≤ 3 := by rw [List.length_map]; exact h.len
    have hp : 1 ≤ 3 ^ n := Nat.pow_pos (by omega)
    rw [Nat.pow_succ]
    cases ht : t.term with
    | some s => rw [req_leaf ht]; simp; omega
    | none =>
      by_cases h6 : t.op = 6
      · rw [req_and ht h6]
        have h1 := dist_len (t.kids.map (req n)).flatten
        have h2 := flatten_len hk
        have h3 : (t.kids.map (req n)).length * 3 ^ n ≤ 3 * 3 ^ n := Nat.mul_le_mul_right _ hl
        omega
      · by_cases h7 : t.op = 7
        · rw [req_or ht h7]; have := orF_len hk; omega
        · rw [req_none ht h6 h7]; simp
theorem req_srt : ∀ (n : Nat) (t : TT), Srt (req n t)
  | 0, _ => List.Pairwise.nil
  | n + 1, t => by
    cases ht : t.term with
    | some s => rw [req_leaf ht]; exact List.pairwise_singleton _ _
    | none =>
      by_cases h6 : t.op = 6
      · rw [req_and ht h6]; exact dist_srt _
      · by_cases h7 : t.op = 7
        · rw [req_or ht h7]; refine orF_srt (fun r hr => ?_)
          obtain ⟨k, hk, rfl⟩ := List.mem_map.1 hr
          exact req_srt n k
        · rw [req_none ht h6 h7]; exact List.Pairwise.nil
theorem dist_self {ws : List ByteArray} (h : Srt ws) : dist ws = ws := srt_ext (dist_srt ws) h (dist_mem ws)
theorem req_rq {n : Nat} {t : TT} (h : t.term = none) : req (n + 1) t = dist (rq t.op (t.kids.map (req n))) := by
  unfold rq
  by_cases h6 : t.op = 6
  · rw [if_pos h6, req_and h h6]
  · rw [if_neg h6]
    by_cases h7 : t.op = 7
    · rw [if_pos h7, req_or h h7, dist_self]
      refine orF_srt (fun r hr => ?_)
      obtain ⟨k, hk, rfl⟩ := List.mem_map.1 hr
      exact req_srt n k
    · rw [if_neg h7, req_none h h6 h7, dist_self List.Pairwise.nil]
theorem filt_ofB (zs l : List ByteArray) : (zs.map ofB).filter (fun x => !(!Lib.containsS l (toB x))) = (zs.filter (fun s => Lib.containsS l s)).map ofB := by
  rw [List.filter_map]
  congr 1
  apply List.filter_congr
  intro x _
  simp [Function.comp, toB_ofB]
end Go.Proofs.YtceebhgbebkafaaGreatDoor
