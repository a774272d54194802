/- The plain law of prefixes in an ascending list; ascending lists are told by their members (from XPref, XSrt). No condition. -/
import Derived.Test.YtceebhgbebkafaaGreatDoorRIdx
import Derived.Test.YtceebhgbebkafaaGreatDoorUnion
namespace Go.Proofs.YtceebhgbebkafaaGreatDoor
open Go.RowKit
set_option linter.unusedVariables false
set_option linter.unusedSimpArgs false

theorem bs_split (p : Nat → Bool) (n : Nat) (hm : ∀ a b, a ≤ b → b < n → p b = true → p a = true) (f : Nat) : ∀ i j, i ≤ j → j ≤ n → j - i ≤ f → (∀ m, m < i → p m = true) → (∀ m, j ≤ m → m < n → p m = false) →
    (∀ m, m < bs p f i j → p m = true) ∧ (∀ m, bs p f i j ≤ m → m < n → p m = false) := by
  induction f with
  | zero =>
    intro i j h1 h2 h3 h4 h5
    obtain rfl : i = j := by omega
    exact ⟨h4, h5⟩
  | succ f ih =>
    intro i j h1 h2 h3 h4 h5
    simp only [bs]
    by_cases hij : i < j
    · rw [if_pos hij]
      by_cases hp : p ((i + j) / 2) = true
      · rw [if_pos hp]
        exact ih _ _ (by omega) h2 (by omega) (fun m hm' => hm m _ (by omega) (by omega) hp) h5
      · rw [if_neg hp]
        refine ih _ _ (by omega) (by omega) (by omega) h4 (fun m h6 h7 => ?_)
        cases h8 : p m with
        | false => rfl
        | true => exact absurd (hm _ m h6 h7 h8) hp
    · rw [if_neg hij]
      obtain rfl : i = j := by omega
      exact ⟨h4, h5⟩

theorem pre_ge : ∀ (p x : List UInt8), p <+: x → Op.bytesLess x p = false
  | [], x, _ => by cases x <;> rfl
  | a :: p, [], h => by simp at h
  | a :: p, b :: x, h => by
    rw [List.cons_prefix_cons] at h
    obtain ⟨rfl, h⟩ := h
    simp [Op.bytesLess, pre_ge p x h]
theorem pre_mid : ∀ (p x y : List UInt8), Op.bytesLess x p = false → Op.bytesLess y x = false → p <+: y → p <+: x
  | [], x, _, _, _, _ => List.nil_prefix
  | a :: p, _, [], _, _, h => by simp at h
  | a :: p, [], b :: y, h, _, _ => by simp [Op.bytesLess] at h
  | a :: p, c :: x, b :: y, h1, h2, h3 => by
    rw [List.cons_prefix_cons] at h3 ⊢
    obtain ⟨rfl, h3⟩ := h3
    simp only [Op.bytesLess, Bool.or_eq_false_iff, decide_eq_false_iff_not, Bool.and_eq_false_iff, beq_eq_false_iff_ne] at h1 h2
    have hac : a = c := UInt8.le_antisymm (UInt8.not_lt.1 h1.1) (UInt8.not_lt.1 h2.1)
    subst hac
    have e1 : Op.bytesLess x p = false := by rcases h1.2 with h | h; exact absurd rfl h; exact h
    have e2 : Op.bytesLess y x = false := by rcases h2.2 with h | h; exact absurd rfl h; exact h
    exact ⟨rfl, pre_mid p x y e1 e2 h3⟩
theorem hp_iff (s p : ByteArray) : hp s p = true ↔ p.toList <+: s.toList := by
  unfold hp Lib.hasPrefix
  rw [ByteArray.toList_eq, ByteArray.toList_eq, List.isPrefixOf_iff_prefix]
theorem hp_ge {s p : ByteArray} (h : hp s p = true) : sl s p = false := pre_ge _ _ ((hp_iff s p).1 h)
theorem hp_mid {x y p : ByteArray} (h1 : sl x p = false) (h2 : sl y x = false) (h3 : hp y p = true) : hp x p = true := (hp_iff x p).2 (pre_mid _ _ _ h1 h2 ((hp_iff y p).1 h3))

theorem Srt.lt {ds : List ByteArray} (h : Srt ds) {i j : Nat} {x y : ByteArray} (hx : ds[i]? = some x) (hy : ds[j]? = some y) (hij : i < j) : sl x y = true := by
  obtain ⟨hi, rfl⟩ := List.getElem?_eq_some_iff.1 hx
  obtain ⟨hj, rfl⟩ := List.getElem?_eq_some_iff.1 hy
  exact List.pairwise_iff_getElem.1 h i j hi hj hij
theorem getD_of {ds : List ByteArray} {i : Nat} {x : ByteArray} (h : ds[i]? = some x) : ds.getD i ⟨#[]⟩ = x := by simp [List.getD_eq_getElem?_getD, h]
theorem some_at {ds : List ByteArray} {i : Nat} (h : i < ds.length) : ∃ x, ds[i]? = some x := ⟨_, List.getElem?_eq_getElem h⟩

theorem ix_split {ds : List ByteArray} (h : Srt ds) (t : ByteArray) : (∀ i x, i < ixOf ds t → ds[i]? = some x → sl x t = true) ∧ (∀ i x, ixOf ds t ≤ i → ds[i]? = some x → sl x t = false) := by
  have hm : ∀ a b, a ≤ b → b < ds.length → lt ds t b = true → lt ds t a = true := by
    intro a b hab hb hl
    obtain ⟨x, hx⟩ := some_at (ds := ds) (i := a) (by omega)
    obtain ⟨y, hy⟩ := some_at hb
    unfold lt at *
    rw [getD_of hy] at hl
    rw [getD_of hx]
    rcases Nat.lt_or_ge a b with h' | h'
    · exact sl_trans (h.lt hx hy h') hl
    · obtain rfl : a = b := by omega
      rw [hx] at hy; injection hy with hy; rw [hy]; exact hl
  have hs := bs_split (lt ds t) ds.length hm ds.length 0 ds.length (Nat.zero_le _) (Nat.le_refl _) (by omega) (fun m hm => absurd hm (by omega)) (fun m h1 h2 => absurd h2 (by omega))
  refine ⟨fun i x hi hx => ?_, fun i x hi hx => ?_⟩
  · have := hs.1 i hi; unfold lt at this; rwa [getD_of hx] at this
  · have := hs.2 i hi (List.getElem?_eq_some_iff.1 hx).1; unfold lt at this; rwa [getD_of hx] at this
theorem pref_split {ds : List ByteArray} (h : Srt ds) (t : ByteArray) : ∀ i x, ds[i]? = some x → hp x t = (decide (ixOf ds t ≤ i) && decide (i < ixOf ds t + endsAt ds t (ixOf ds t))) := by
  obtain ⟨h1, h2⟩ := ix_split h t
  generalize hf : ixOf ds t = f at *
  have hfl : f ≤ ds.length := by rw [← hf]; exact ixOf_le ds t
  have hm : ∀ a b, a ≤ b → b < ds.length - f → (fun i => hp (ds.getD (f + i) ⟨#[]⟩) t) b = true → (fun i => hp (ds.getD (f + i) ⟨#[]⟩) t) a = true := by
    intro a b hab hb hl
    obtain ⟨x, hx⟩ := some_at (ds := ds) (i := f + a) (by omega)
    obtain ⟨y, hy⟩ := some_at (ds := ds) (i := f + b) (by omega)
    simp only at *
    rw [getD_of hy] at hl
    rw [getD_of hx]
    rcases Nat.lt_or_ge a b with h' | h'
    · exact hp_mid (h2 _ _ (by omega) hx) (sl_asymm (h.lt hx hy (by omega))) hl
    · obtain rfl : a = b := by omega
      rw [hx] at hy; injection hy with hy; rw [hy]; exact hl
  have hs := bs_split (fun i => hp (ds.getD (f + i) ⟨#[]⟩) t) (ds.length - f) hm (ds.length - f) 0 (ds.length - f) (Nat.zero_le _) (Nat.le_refl _) (by omega) (fun m hm => absurd hm (by omega)) (fun m h1 h2 => absurd h2 (by omega))
  intro i x hx
  have hil := (List.getElem?_eq_some_iff.1 hx).1
  by_cases hi : f ≤ i
  · have e0 : f + (i - f) = i := by omega
    by_cases hi2 : i < f + endsAt ds t f
    · have := hs.1 (i - f) (by unfold endsAt at hi2; omega)
      simp only [e0, getD_of hx] at this
      simp [hi, hi2, this]
    · have := hs.2 (i - f) (by unfold endsAt at hi2; omega) (by omega)
      simp only [e0, getD_of hx] at this
      simp [hi2, this]
  · have : hp x t = false := by
      cases hh : hp x t with
      | false => rfl
      | true => have h3 := hp_ge hh; rw [h1 i x (by omega) hx] at h3; cases h3
    simp [hi, this]
theorem pref_same {ds : List ByteArray} (h : Srt ds) (t : ByteArray) (k : Nat) (h1 : ixOf ds t ≤ k) (h2 : k ≤ ds.length) (h3 : ∀ i x, ixOf ds t ≤ i → i < k → ds[i]? = some x → hp x t = true) (h4 : ∀ x, ds[k]? = some x → hp x t = false) : k = ixOf ds t + endsAt ds t (ixOf ds t) := by
  have hs := pref_split h t
  have he := endsAt_le ds t (ixOf ds t)
  have hi := ixOf_le ds t
  rcases Nat.lt_trichotomy k (ixOf ds t + endsAt ds t (ixOf ds t)) with hk | hk | hk
  · obtain ⟨x, hx⟩ := some_at (ds := ds) (i := k) (by omega)
    have := hs k x hx
    rw [h4 x hx] at this
    simp [h1, hk] at this
  · exact hk
  · obtain ⟨x, hx⟩ := some_at (ds := ds) (i := ixOf ds t + endsAt ds t (ixOf ds t)) (by omega)
    have := hs _ x hx
    rw [h3 _ x (by omega) (by omega) hx] at this
    simp at this
theorem srt_ext : ∀ {xs ys : List ByteArray}, Srt xs → Srt ys → (∀ s, s ∈ xs ↔ s ∈ ys) → xs = ys
  | [], [], _, _, _ => rfl
  | [], y :: ys, _, _, h => absurd ((h y).2 (List.mem_cons_self ..)) (by simp)
  | x :: xs, [], _, _, h => absurd ((h x).1 (List.mem_cons_self ..)) (by simp)
  | x :: xs, y :: ys, hx, hy, h => by
    unfold Srt at hx hy
    rw [List.pairwise_cons] at hx hy
    have hxy : x = y := by
      rcases List.mem_cons.1 ((h x).1 (List.mem_cons_self ..)) with e | e
      · exact e
      · rcases List.mem_cons.1 ((h y).2 (List.mem_cons_self ..)) with e' | e'
        · exact e'.symm
        · have h1 := hy.1 x e
          have h2 := hx.1 y e'
          rw [sl_asymm h1] at h2
          cases h2
    subst hxy
    rw [srt_ext hx.2 hy.2 (fun s => ?_)]
    constructor
    · intro hs
      rcases List.mem_cons.1 ((h s).1 (List.mem_cons_of_mem _ hs)) with e | e
      · subst e; have := hx.1 s hs; rw [sl_irrefl] at this; cases this
      · exact e
    · intro hs
      rcases List.mem_cons.1 ((h s).2 (List.mem_cons_of_mem _ hs)) with e | e
      · subst e; have := hy.1 s hs; rw [sl_irrefl] at this; cases this
      · exact e
theorem found_iff {ds : List ByteArray} (h : Srt ds) (t : ByteArray) : found ds t = true ↔ t ∈ ds := by
  have hs := ix_split h t
  constructor
  · intro hf
    unfold found at hf
    exact List.mem_of_getElem? (of_decide_eq_true hf)
  · intro hm
    obtain ⟨i, hi⟩ := List.mem_iff_getElem?.1 hm
    have h1 : ¬ i < ixOf ds t := fun hlt => by have := hs.1 i t hlt hi; rw [sl_irrefl] at this; cases this
    have h2 : ¬ ixOf ds t < i := fun hlt => by
      obtain ⟨x, hx⟩ := some_at (ds := ds) (i := ixOf ds t) (by have := (List.getElem?_eq_some_iff.1 hi).1; omega)
      have h3 := h.lt hx hi hlt
      rw [hs.2 _ x (Nat.le_refl _) hx] at h3
      cases h3
    have h4 : ixOf ds t = i := by omega
    unfold found
    rw [h4, hi]
    simp
end Go.Proofs.YtceebhgbebkafaaGreatDoor
