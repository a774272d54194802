/- The best of the groups: plain law. No condition. -/
import Derived.Test.YtphglalphejppaaMapG
namespace Go.Proofs.Ytphglalphejppaa
open Go.RowKit
set_option linter.unusedVariables false
set_option linter.unusedSimpArgs false

def Klt (a b : Kp) : Prop := a.1 < b.1 ∨ (a.1 = b.1 ∧ a.2 < b.2)
theorem Klt.tri {a b : Kp} (h : ¬ Klt a b) : b = a ∨ Klt b a := by
  unfold Klt at *
  rcases Int.lt_trichotomy a.1 b.1 with h1 | h1 | h1
  · exact absurd (.inl h1) h
  · rcases Int.lt_trichotomy a.2 b.2 with h2 | h2 | h2
    · exact absurd (.inr ⟨h1, h2⟩) h
    · exact .inl (Prod.ext h1.symm h2.symm)
    · exact .inr (.inr ⟨h1.symm, h2⟩)
  · exact .inr (.inl h1)
theorem Klt.trans {a b c : Kp} (h : Klt a b) (k : Klt b c) : Klt a c := by
  unfold Klt at *
  omega
/-- the best (least) of the keys of D whose lists have four elements or more -/
def BestOn (f : Kp → List Int) (D : Kp → Prop) : Option Kp → Prop
  | none => ∀ k, D k → (f k).length < 4
  | some b => D b ∧ 4 ≤ (f b).length ∧ ∀ k, D k → 4 ≤ (f k).length → b = k ∨ Klt b k
section
variable {f : Kp → List Int} {D D' : Kp → Prop}
theorem BestOn.turn {acc : Option Kp} (h : BestOn f D acc) (e : ∀ k, D' k ↔ D k) : BestOn f D' acc := by
  cases acc with
  | none => exact fun k hk => h k ((e k).1 hk)
  | some b => exact ⟨(e b).2 h.1, h.2.1, fun k hk => h.2.2 k ((e k).1 hk)⟩
theorem BestOn.few {acc : Option Kp} (h : BestOn f D acc) {c : Kp} (hc : (f c).length < 4) : BestOn f (fun k => D k ∨ k = c) acc := by
  cases acc with
  | none =>
    rintro k (hk | rfl)
    · exact h k hk
    · exact hc
  | some b =>
    refine ⟨.inl h.1, h.2.1, ?_⟩
    rintro k (hk | rfl) h4
    · exact h.2.2 k hk h4
    · omega
theorem BestOn.later {b c : Kp} (h : BestOn f D (some b)) (hc : ¬ Klt c b) : BestOn f (fun k => D k ∨ k = c) (some b) := by
  refine ⟨.inl h.1, h.2.1, ?_⟩
  rintro k (hk | rfl) h4
  · exact h.2.2 k hk h4
  · exact Klt.tri hc
theorem BestOn.first {c : Kp} (h : BestOn f D none) (hc : 4 ≤ (f c).length) : BestOn f (fun k => D k ∨ k = c) (some c) := by
  refine ⟨.inr rfl, hc, ?_⟩
  rintro k (hk | rfl) h4
  · have := h k hk; omega
  · exact .inl rfl
theorem BestOn.better {b c : Kp} (h : BestOn f D (some b)) (hc : 4 ≤ (f c).length) (hl : Klt c b) : BestOn f (fun k => D k ∨ k = c) (some c) := by
  refine ⟨.inr rfl, hc, ?_⟩
  rintro k (hk | rfl) h4
  · rcases h.2.2 k hk h4 with rfl | h1
    · exact .inr hl
    · exact .inr (hl.trans h1)
  · exact .inl rfl
theorem BestOn.one {a b : Option Kp} (h : BestOn f D a) (k : BestOn f D' b) (e : ∀ c, 4 ≤ (f c).length → D c) (e' : ∀ c, 4 ≤ (f c).length → D' c) : a = b := by
  cases a with
  | none => cases b with
    | none => rfl
    | some y => have := h y (e y k.2.1); have := k.2.1; omega
  | some x => cases b with
    | none => have := k x (e' x h.2.1); have := h.2.1; omega
    | some y =>
      rcases h.2.2 y (e y k.2.1) k.2.1 with rfl | h1
      · rfl
      · rcases k.2.2 x (e' x h.2.1) h.2.1 with rfl | h2
        · rfl
        · have := h1.trans h2
          unfold Klt at this
          omega
end
/-- the first four of the best group -/
def chL (f : Kp → List Int) : Option Kp → List Int
  | none => []
  | some b => (f b).take 4
def ofK (ss : List SegD) (k : Kp) : List Int := ofL ss k.1 k.2
theorem ofK_mem {ss : List SegD} {c : Kp} (h : ofK ss c ≠ []) : ∃ s ∈ ss, c = (s.level, s.tier) := by
  obtain ⟨i, hi⟩ := List.exists_mem_of_ne_nil _ h
  unfold ofK ofL at hi
  obtain ⟨s, hs, _⟩ := List.mem_map.1 hi
  obtain ⟨h1, h2⟩ := List.mem_filter.1 hs
  unfold isLT at h2
  simp at h2
  exact ⟨s, h1, Prod.ext h2.1.symm h2.2.symm⟩
theorem ofK_four {ss : List SegD} {c : Kp} (h : 4 ≤ (ofK ss c).length) : ∃ s ∈ ss, c = (s.level, s.tier) := ofK_mem (by intro e; rw [e] at h; simp at h)
theorem ofK_len (ss : List SegD) (c : Kp) : (ofK ss c).length ≤ ss.length := ofL_len ss c.1 c.2
theorem ofK_more (ss : List SegD) (s : SegD) : ofK (ss ++ [s]) = more (ofK ss) (s.level, s.tier) s.id := by
  funext k
  unfold ofK more
  rw [ofL_snoc]
  by_cases h : k = (s.level, s.tier)
  · rw [if_pos h, h, if_pos (by unfold isLT; simp)]
  · rw [if_neg h, if_neg (by
      unfold isLT
      simp
      intro h1 h2
      exact h (Prod.ext h1.symm h2.symm))]
    simp
/-- the best group of a manifest -/
def bestO (ss : List SegD) (acc : Option Kp) : Prop := ∃ D : Kp → Prop, BestOn (ofK ss) D acc ∧ ∀ c, 4 ≤ (ofK ss c).length → D c
theorem bestO.one {ss : List SegD} {a b : Option Kp} (h : bestO ss a) (k : bestO ss b) : a = b := by
  obtain ⟨D, h1, h2⟩ := h
  obtain ⟨D', k1, k2⟩ := k
  exact h1.one k1 h2 k2
/-- what Choose hands back -/
def ChPost (w : World) (ss : List SegD) (e : Ending) (w' : World) : Prop :=
  ∃ (A : Option Addr) (c : Nat) (acc : Option Kp), bestO ss acc ∧ e = .returned (.slice A (chL (ofK ss) acc).length c) ∧ (chL (ofK ss) acc).length ≤ c ∧ c ≤ maxLen ∧ Rd (w.heap.size ≤ ·) w' A ((chL (ofK ss) acc).map (.int .i64)) ∧ w.grownBy w' none
theorem chL_len {f : Kp → List Int} {b : Kp} (h : 4 ≤ (f b).length) : (chL f (some b)).length = 4 := by unfold chL; rw [List.length_take]; omega
end Go.Proofs.Ytphglalphejppaa
