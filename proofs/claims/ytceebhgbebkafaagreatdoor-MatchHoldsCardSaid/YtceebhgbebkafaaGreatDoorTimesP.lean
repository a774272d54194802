/- The range of times of a test: plain. No condition. -/
import Derived.Test.YtceebhgbebkafaaGreatDoorTestD
namespace Go.Proofs.YtceebhgbebkafaaGreatDoor
open Go.RowKit
set_option linter.unusedVariables false
set_option linter.unusedSimpArgs false

def pMeet (a b : Int × Int) : Int × Int := (max a.1 b.1, min a.2 b.2)
def pJoin (a b : Int × Int) : Int × Int := if a.2 < a.1 then b else if b.2 < b.1 then a else (min a.1 b.1, max a.2 b.2)
def timeName : ByteArray := ⟨#[64, 116, 105, 109, 101]⟩
/-- what match.times answers -/
def pTimes : Nat → TT → Int × Int
  | 0, _ => (0, 253402300799999)
  | n + 1, t =>
    if t.op = 6 then t.kids.foldl (fun s k => pMeet s (pTimes n k)) (0, 253402300799999)
    else if t.op = 7 then t.kids.foldl (fun s k => pJoin s (pTimes n k)) (1, 0)
    else if t.nm ≠ timeName then (0, 253402300799999)
    else if t.op = 9 ∧ t.num ≤ 253402300799999 then (0, max t.num 0 - 1)
    else if t.op = 10 ∧ 0 ≤ t.num then (min t.num 253402300799999 + 1, 253402300799999)
    else if t.op = 11 then pMeet (0, 253402300799999) (t.num, t.num)
    else (0, 253402300799999)
def normT (p : Int × Int) : Int × Int := if p.2 < p.1 then (1, 0) else p
def rNorm (f t : Int) : Int × Int := if min t 253402300799999 < max f 0 then (1, 0) else (max f 0, min t 253402300799999)
def rAnd : List (Int × Int) → Int × Int → Int × Int
  | [], s => rNorm s.1 s.2
  | a :: l, s => if a.2 < a.1 then (1, 0) else rAnd l (pMeet s a)
def rOr (s a : Int × Int) : Int × Int := if a.2 < a.1 then s else if s.2 < s.1 then a else (min s.1 a.1, max s.2 a.2)
/-- what the reference's Times answers -/
def rTimes : Nat → TT → Int × Int
  | 0, _ => (0, 253402300799999)
  | n + 1, t =>
    if t.op = 9 ∧ t.nm = timeName then rNorm 0 (t.num - 1)
    else if t.op = 10 ∧ t.nm = timeName then rNorm (t.num + 1) 253402300799999
    else if t.op = 11 ∧ t.nm = timeName then rNorm t.num t.num
    else if t.op = 6 then rAnd (t.kids.map (rTimes n)) (0, 253402300799999)
    else if t.op = 7 then (t.kids.map (rTimes n)).foldl rOr (1, 0)
    else (0, 253402300799999)
/-- an answer of the one and of the other -/
def Agree (p r : Int × Int) : Prop := (p.2 < p.1 ∧ r = (1, 0)) ∨ (p.1 ≤ p.2 ∧ r = p ∧ 0 ≤ p.1 ∧ p.2 ≤ 253402300799999)
theorem Agree.norm {p r : Int × Int} (h : Agree p r) : normT p = r := by
  unfold normT
  rcases h with ⟨h, rfl⟩ | ⟨h, rfl, _⟩
  · rw [if_pos h]
  · rw [if_neg (by omega)]
theorem and_empty : ∀ (l : List (Int × Int)) (s : Int × Int), s.2 < s.1 → (l.foldl pMeet s).2 < (l.foldl pMeet s).1
  | [], _, h => h
  | a :: l, s, h => and_empty l _ (by simp only [pMeet]; omega)
theorem rand_empty : ∀ (l : List (Int × Int)) (s : Int × Int), s.2 < s.1 → rAnd l s = (1, 0)
  | [], s, h => by unfold rAnd rNorm; rw [if_pos (by omega)]
  | a :: l, s, h => by
    unfold rAnd
    by_cases h1 : a.2 < a.1
    · rw [if_pos h1]
    · rw [if_neg h1]
      exact rand_empty l _ (by simp only [pMeet]; omega)
theorem and_agree {α : Type} (f g : α → Int × Int) : ∀ (l : List α), (∀ x ∈ l, Agree (f x) (g x)) → ∀ s : Int × Int, (s.1 ≤ s.2 → 0 ≤ s.1 ∧ s.2 ≤ 253402300799999) → Agree (l.foldl (fun s k => pMeet s (f k)) s) (rAnd (l.map g) s)
  | [], _, s, hs => by
    simp only [List.foldl_nil, List.map_nil]
    unfold rAnd rNorm Agree
    by_cases h : s.2 < s.1
    · exact .inl ⟨h, by rw [if_pos (by omega)]⟩
    · have := hs (by omega)
      refine .inr ⟨by omega, ?_, by omega, by omega⟩
      rw [if_neg (by omega)]
      exact Prod.ext (by simp; omega) (by simp; omega)
  | a :: l, h, s, hs => by
    have hl := fun x hx => h x (List.mem_cons_of_mem a hx)
    simp only [List.foldl_cons, List.map_cons]
    by_cases hse : s.2 < s.1
    · refine .inl ⟨?_, rand_empty _ _ hse⟩
      have := and_empty (l.map f) (pMeet s (f a)) (by simp only [pMeet]; omega)
      rwa [List.foldl_map] at this
    · have hs := hs (by omega)
      rcases h a List.mem_cons_self with ⟨h1, h2⟩ | ⟨h1, h2, h3, h4⟩
      · refine .inl ⟨?_, ?_⟩
        · have := and_empty (l.map f) (pMeet s (f a)) (by simp only [pMeet]; omega)
          rwa [List.foldl_map] at this
        · rw [h2]; unfold rAnd; rw [if_pos (by simp)]
      · rw [h2]
        unfold rAnd
        rw [if_neg (by omega)]
        exact and_agree f g l hl _ (by simp only [pMeet]; omega)
theorem or_agree {α : Type} (f g : α → Int × Int) : ∀ (l : List α), (∀ x ∈ l, Agree (f x) (g x)) → ∀ s s' : Int × Int, Agree s s' → Agree (l.foldl (fun s k => pJoin s (f k)) s) ((l.map g).foldl rOr s')
  | [], _, s, s', hs => hs
  | a :: l, h, s, s', hs => by
    simp only [List.foldl_cons, List.map_cons]
    refine or_agree f g l (fun x hx => h x (List.mem_cons_of_mem a hx)) _ _ ?_
    unfold pJoin rOr
    rcases hs with ⟨h1, rfl⟩ | ⟨h1, rfl, h3, h4⟩ <;> rcases h a List.mem_cons_self with ⟨k1, k2⟩ | ⟨k1, k2, k3, k4⟩
    · rw [if_pos h1, k2]; exact .inl ⟨k1, by simp⟩
    · rw [if_pos h1, k2]; exact .inr ⟨k1, by rw [if_neg (by omega)]; simp, k3, k4⟩
    · rw [if_neg (by omega), if_pos k1, k2]; exact .inr ⟨h1, by simp, h3, h4⟩
    · rw [if_neg (by omega), if_neg (by omega), k2, if_neg (by omega), if_neg (by omega)]; exact .inr ⟨by simp only []; omega, rfl, by simp only []; omega, by simp only []; omega⟩
theorem agree_whole : Agree (0, 253402300799999) (0, 253402300799999) := .inr ⟨by simp only []; omega, rfl, by simp only []; omega, by simp only []; omega⟩
theorem times_agree : ∀ (n : Nat) (t : TT), Agree (pTimes n t) (rTimes n t)
  | 0, t => agree_whole
  | n + 1, t => by
    unfold pTimes rTimes
    by_cases h6 : t.op = 6
    · rw [if_pos h6, if_neg (by omega), if_neg (by omega), if_neg (by omega), if_pos h6]
      exact and_agree _ _ _ (fun x _ => times_agree n x) _ (by simp only []; omega)
    rw [if_neg h6]
    by_cases h7 : t.op = 7
    · rw [if_pos h7, if_neg (by omega), if_neg (by omega), if_neg (by omega), if_neg h6, if_pos h7]
      exact or_agree _ _ _ (fun x _ => times_agree n x) _ _ (.inl ⟨by simp, rfl⟩)
    rw [if_neg h7]
    by_cases hn : t.nm = timeName
    · simp only [hn, ne_eq, not_true_eq_false, if_false, and_true]
      by_cases h9 : t.op = 9
      · rw [if_pos h9]
        unfold rNorm Agree
        by_cases hm : t.num ≤ 253402300799999
        · rw [if_pos ⟨h9, hm⟩]
          by_cases h0 : t.num ≤ 0
          · exact .inl ⟨by simp only []; omega, by rw [if_pos (by omega)]⟩
          · exact .inr ⟨by simp only []; omega, by rw [if_neg (by omega)]; exact Prod.ext (by simp only []; omega) (by simp only []; omega), by simp only []; omega, by simp only []; omega⟩
        · rw [if_neg (by omega), if_neg (by omega), if_neg (by omega)]
          exact .inr ⟨by simp only []; omega, by rw [if_neg (by omega)]; exact Prod.ext (by simp only []; omega) (by simp only []; omega), by simp only []; omega, by simp only []; omega⟩
      rw [if_neg h9, if_neg (by omega)]
      by_cases h10 : t.op = 10
      · rw [if_pos h10]
        unfold rNorm Agree
        by_cases hm : 0 ≤ t.num
        · rw [if_pos ⟨h10, hm⟩]
          by_cases h0 : 253402300799999 ≤ t.num
          · exact .inl ⟨by simp only []; omega, by rw [if_pos (by omega)]⟩
          · exact .inr ⟨by simp only []; omega, by rw [if_neg (by omega)]; exact Prod.ext (by simp only []; omega) (by simp only []; omega), by simp only []; omega, by simp only []; omega⟩
        · rw [if_neg (by omega), if_neg (by omega)]
          exact .inr ⟨by simp only []; omega, by rw [if_neg (by omega)]; exact Prod.ext (by simp only []; omega) (by simp only []; omega), by simp only []; omega, by simp only []; omega⟩
      rw [if_neg h10, if_neg (by omega)]
      by_cases h11 : t.op = 11
      · rw [if_pos h11, if_pos h11]
        unfold rNorm Agree pMeet
        by_cases hm : min t.num 253402300799999 < max t.num 0
        · exact .inl ⟨by simp only []; omega, by rw [if_pos hm]⟩
        · exact .inr ⟨by simp only []; omega, by rw [if_neg hm]; exact Prod.ext (by simp only []; omega) (by simp only []; omega), by simp only []; omega, by simp only []; omega⟩
      rw [if_neg h11, if_neg h11, if_neg h6, if_neg h7]
      exact agree_whole
    · rw [if_pos hn, if_neg (fun h => hn h.2), if_neg (fun h => hn h.2), if_neg (fun h => hn h.2), if_neg h6, if_neg h7]
      exact agree_whole
theorem times_eq (n : Nat) (t : TT) : normT (pTimes n t) = rTimes n t := (times_agree n t).norm
/-- the bounds of what match.times answers -/
def TB (p : Int × Int) : Prop := -10 ≤ p.1 ∧ p.1 ≤ 1000000000000000010 ∧ -10 ≤ p.2 ∧ p.2 ≤ 1000000000000000010
theorem TB.meet {a b : Int × Int} (h1 : TB a) (h2 : TB b) : TB (pMeet a b) := by unfold TB pMeet at *; simp only []; omega
theorem TB.join {a b : Int × Int} (h1 : TB a) (h2 : TB b) : TB (pJoin a b) := by
  unfold TB pJoin at *
  split
  · omega
  · split
    · omega
    · simp only []; omega
end Go.Proofs.YtceebhgbebkafaaGreatDoor
