/- The plain law of the heap of sources: what up and down make of a list. No condition. -/
import Derived.Test.YtphglalphejppaaHeapUp
import Derived.Test.YtphglalphejppaaEvents
namespace Go.Proofs.Ytphglalphejppaa
open Go.RowKit
set_option linter.unusedVariables false
set_option linter.unusedSimpArgs false

/-- the lesser child -/
def jOf (ss : List Src) (i n : Nat) : Nat := if (decide (2 * i + 1 + 1 < n) && lessAt ss (2 * i + 1 + 1) (2 * i + 1)) = true then 2 * i + 1 + 1 else 2 * i + 1
theorem jOf_gt (ss : List Src) (i n : Nat) : i < jOf ss i n := by unfold jOf; split <;> omega
theorem jOf_lt {ss : List Src} {i n : Nat} (h : 2 * i + 1 < n) : jOf ss i n < n := by
  unfold jOf
  split
  · rename_i h2; simp at h2; omega
  · exact h
def downM (ss : List Src) (i n : Nat) : List Src × Nat := if 2 * i + 1 < n then (if lessAt ss (jOf ss i n) i = true then downM (swapAt ss i (jOf ss i n)) (jOf ss i n) n else (ss, i)) else (ss, i)
  termination_by n - i
  decreasing_by
    have h1 := jOf_gt ss i n
    omega
theorem downM_step {ss : List Src} {i n j : Nat} (h : 2 * i + 1 < n) (hj : jOf ss i n = j) (hd : lessAt ss j i = true) : downM ss i n = downM (swapAt ss i j) j n := by
  conv => lhs; rw [downM]
  rw [if_pos h, hj, if_pos hd]
theorem downM_stop {ss : List Src} {i n j : Nat} (hj : jOf ss i n = j) (hd : lessAt ss j i = false) : downM ss i n = (ss, i) := by
  rw [downM, hj, hd]
  simp
theorem downM_end {ss : List Src} {i n : Nat} (h : ¬ 2 * i + 1 < n) : downM ss i n = (ss, i) := by
  rw [downM, if_neg h]

/-- all sources have events -/
def Full (ss : List Src) : Prop := ∀ s ∈ ss, s.rest ≠ []
theorem qlt_irrefl (s : Src) : qlt s s = false := by
  unfold qlt
  split
  · rename_i a l b l' h1 h2
    rw [h1] at h2
    injection h2 with h2 _
    subst h2
    have : a.less a = false := by
      cases h : a.less a with
      | false => rfl
      | true => have := (less_iff a a).1 h; omega
    simp [this]
  · rfl
theorem less_iff_f (a b : Ev) : a.less b = false ↔ ¬ (a.time < b.time ∨ (a.time = b.time ∧ (a.host < b.host ∨ (a.host = b.host ∧ (a.file < b.file ∨ (a.file = b.file ∧ a.beg < b.beg)))))) := by
  rw [← less_iff]; simp
theorem qlt_cons {s t : Src} {a b : Ev} {l m : List Ev} (hs : s.rest = a :: l) (ht : t.rest = b :: m) : qlt s t = (a.less b || (!b.less a && decide (s.idx < t.idx))) := by
  unfold qlt; rw [hs, ht]
theorem qlt_asymm {s t : Src} (h : qlt s t = true) : qlt t s = false := by
  cases hs : s.rest with
  | nil => unfold qlt at h; rw [hs] at h; simp at h
  | cons a l =>
    cases ht : t.rest with
    | nil => unfold qlt at h; rw [hs, ht] at h; simp at h
    | cons b m =>
      rw [qlt_cons hs ht] at h
      rw [qlt_cons ht hs]
      cases h1 : a.less b <;> cases h2 : b.less a <;> simp [h1, h2] at h ⊢
      · omega
      · rw [less_iff] at h1 h2; omega
theorem qlt_nil_l {s t : Src} (h : s.rest = []) : qlt s t = false := by unfold qlt; rw [h]
theorem qlt_nil_r {s t : Src} (h : t.rest = []) : qlt s t = false := by unfold qlt; rw [h]; split <;> simp_all
theorem qlt_nt {s t u : Src} (ht : t.rest ≠ []) (h1 : qlt s t = false) (h2 : qlt t u = false) : qlt s u = false := by
  by_cases hs : s.rest = []
  · exact qlt_nil_l hs
  by_cases hu : u.rest = []
  · exact qlt_nil_r hu
  obtain ⟨a, l, es⟩ := List.exists_cons_of_ne_nil hs
  obtain ⟨b, m, et⟩ := List.exists_cons_of_ne_nil ht
  obtain ⟨c, n, eu⟩ := List.exists_cons_of_ne_nil hu
  rw [qlt_cons es et] at h1
  rw [qlt_cons et eu] at h2
  rw [qlt_cons es eu]
  simp at h1 h2 ⊢
  obtain ⟨a1, a2⟩ := h1
  obtain ⟨b1, b2⟩ := h2
  refine ⟨?_, fun hca => ?_⟩
  · rw [less_iff_f] at *; omega
  · have e1 : b.less a = false := by rw [less_iff_f] at *; omega
    have e2 : c.less b = false := by rw [less_iff_f] at *; omega
    have := a2 e1
    have := b2 e2
    omega

theorem lessAt_eq {ss : List Src} {i j : Nat} {s t : Src} (hs : ss[i]? = some s) (ht : ss[j]? = some t) : lessAt ss i j = qlt s t := by unfold lessAt; rw [hs, ht]
theorem lessAt_congr {ss ss' : List Src} {a b c d : Nat} (h1 : ss'[a]? = ss[b]?) (h2 : ss'[c]? = ss[d]?) : lessAt ss' a c = lessAt ss b d := by unfold lessAt; rw [h1, h2]
theorem lessAt_parts {ss : List Src} {i j : Nat} (h : lessAt ss i j = true) : ∃ s t, ss[i]? = some s ∧ ss[j]? = some t ∧ qlt s t = true := by
  unfold lessAt at h
  split at h
  · rename_i s t h1 h2; exact ⟨s, t, h1, h2, h⟩
  · cases h
theorem lessAt_asymm {ss : List Src} {i j : Nat} (h : lessAt ss i j = true) : lessAt ss j i = false := by
  obtain ⟨s, t, h1, h2, h3⟩ := lessAt_parts h
  rw [lessAt_eq h2 h1]; exact qlt_asymm h3
/-- the first n have events -/
def FullTo (ss : List Src) (n : Nat) : Prop := ∀ k s, k < n → ss[k]? = some s → s.rest ≠ []
theorem Full.to {ss : List Src} (h : Full ss) (n : Nat) : FullTo ss n := fun k s _ hs => h s (List.mem_of_getElem? hs)
theorem lessAt_nt {ss : List Src} {n : Nat} (hf : FullTo ss n) (hn : n ≤ ss.length) {i j k : Nat} (hj : j < n) (h1 : lessAt ss i j = false) (h2 : lessAt ss j k = false) : lessAt ss i k = false := by
  cases hi : ss[i]? with
  | none => unfold lessAt; rw [hi]
  | some s =>
    cases hk : ss[k]? with
    | none => unfold lessAt; rw [hi, hk]
    | some u =>
      have ht := List.getElem?_eq_getElem (show j < ss.length by omega)
      rw [lessAt_eq hi ht] at h1
      rw [lessAt_eq ht hk] at h2
      rw [lessAt_eq hi hk]
      exact qlt_nt (hf j _ hj ht) h1 h2
theorem swapAt_at {ss : List Src} {i j : Nat} (hi : i < ss.length) (hj : j < ss.length) (k : Nat) : (swapAt ss i j)[k]? = if k = j then ss[i]? else if k = i then ss[j]? else ss[k]? := by
  have h1 := List.getElem?_eq_getElem hi
  have h2 := List.getElem?_eq_getElem hj
  unfold swapAt swp
  rw [h1, h2]
  simp only [List.getElem?_set]
  by_cases e1 : k = j
  · subst e1; simp [hj]
  · by_cases e2 : k = i
    · subst e2
      have : ¬ j = k := fun e => e1 e.symm
      simp [e1, this, hi]
    · have n1 : ¬ j = k := fun e => e1 e.symm
      have n2 : ¬ i = k := fun e => e2 e.symm
      simp [e1, e2, n1, n2]
theorem swapAt_perm (ss : List Src) (i j : Nat) : (swapAt ss i j).Perm ss := by
  unfold swapAt
  split
  · rename_i a b ha hb
    obtain ⟨hi, ha⟩ := List.getElem?_eq_some_iff.1 ha
    obtain ⟨hj, hb⟩ := List.getElem?_eq_some_iff.1 hb
    unfold swp
    rw [← ha, ← hb]
    exact List.set_set_perm hi hj
  · exact List.Perm.refl _
theorem Full.perm {ss ss' : List Src} (h : Full ss) (hp : ss'.Perm ss) : Full ss' := fun s hs => h s (hp.mem_iff.1 hs)
theorem FullTo.swap {ss : List Src} {n : Nat} (h : FullTo ss n) (hn : n ≤ ss.length) {i j : Nat} (hi : i < n) (hj : j < n) : FullTo (swapAt ss i j) n := fun k s hk hs => by
  rw [swapAt_at (by omega) (by omega)] at hs
  split at hs
  · exact h i s hi hs
  · split at hs
    · exact h j s hj hs
    · exact h k s hk hs

/-- a heap -/
def Hp (ss : List Src) (n : Nat) : Prop := ∀ k, 0 < k → k < n → lessAt ss k ((k - 1) / 2) = false
theorem Hp.root {ss : List Src} {n : Nat} (h : Hp ss n) (hf : FullTo ss n) (hn : n ≤ ss.length) : ∀ k, k < n → lessAt ss k 0 = false := by
  intro k
  induction k using Nat.strongRecOn with
  | ind k ih =>
    intro hk
    by_cases h0 : k = 0
    · subst h0
      rw [lessAt_eq (List.getElem?_eq_getElem (by omega)) (List.getElem?_eq_getElem (by omega))]
      exact qlt_irrefl _
    · exact lessAt_nt hf hn (show (k - 1) / 2 < n by omega) (h k (by omega) hk) (ih _ (by omega) (by omega))
def UpI (ss : List Src) (j n : Nat) : Prop := (∀ k, 0 < k → k < n → k ≠ j → lessAt ss k ((k - 1) / 2) = false) ∧ ∀ k, 0 < k → k < n → (k - 1) / 2 = j → 0 < j → lessAt ss k ((j - 1) / 2) = false
theorem up_heap (n : Nat) : ∀ (j : Nat) (ss : List Src), FullTo ss n → n ≤ ss.length → j < n → UpI ss j n → Hp (upM ss j) n := by
  intro j
  induction j using Nat.strongRecOn with
  | ind j ih =>
    intro ss hf hn hj hu
    rw [upM]
    split
    · rename_i h0; subst h0
      intro k h1 h2; exact hu.1 k h1 h2 (by omega)
    · rename_i h0
      obtain ⟨p, hp⟩ : ∃ p, p = (j - 1) / 2 := ⟨_, rfl⟩
      rw [← hp]
      split
      · rename_i hl
        have hpj : p < j := by omega
        have hsw := swapAt_at (ss := ss) (i := p) (j := j) (by omega) (by omega)
        have hsj : (swapAt ss p j)[j]? = ss[p]? := by rw [hsw, if_pos rfl]
        have hsp : (swapAt ss p j)[p]? = ss[j]? := by rw [hsw, if_neg (by omega), if_pos rfl]
        have hso : ∀ k, k ≠ p → k ≠ j → (swapAt ss p j)[k]? = ss[k]? := fun k h1 h2 => by rw [hsw, if_neg h2, if_neg h1]
        refine ih p hpj _ (hf.swap hn (by omega) (by omega)) (by rw [swapAt_len]; exact hn) (by omega) ⟨fun k h1 h2 h3 => ?_, fun k h1 h2 h3 h4 => ?_⟩
        · by_cases e1 : k = j
          · subst e1
            rw [← hp, lessAt_congr hsj hsp]; exact lessAt_asymm hl
          · by_cases e2 : (k - 1) / 2 = j
            · rw [e2, lessAt_congr (hso k h3 e1) hsj, hp]; exact hu.2 k h1 h2 e2 (by omega)
            · by_cases e3 : (k - 1) / 2 = p
              · rw [e3, lessAt_congr (hso k h3 e1) hsp]
                have := hu.1 k h1 h2 e1
                rw [e3] at this
                exact lessAt_nt hf hn (by omega) this (lessAt_asymm hl)
              · rw [lessAt_congr (hso k h3 e1) (hso _ e3 e2)]; exact hu.1 k h1 h2 e1
        · have hpp : (p - 1) / 2 < p := by omega
          have hg := hu.1 p h4 (by omega) (by omega)
          by_cases e1 : k = j
          · subst e1
            rw [lessAt_congr hsj (hso _ (by omega) (by omega))]; exact hg
          · rw [lessAt_congr (hso k (by omega) e1) (hso _ (by omega) (by omega))]
            have := hu.1 k h1 h2 e1
            rw [h3] at this
            exact lessAt_nt hf hn (by omega) this hg
      · rename_i hl
        intro k h1 h2
        by_cases e1 : k = j
        · subst e1; rw [← hp]; simpa using hl
        · exact hu.1 k h1 h2 e1
def DnI (ss : List Src) (i n : Nat) : Prop := (∀ k, 0 < k → k < n → (k - 1) / 2 ≠ i → lessAt ss k ((k - 1) / 2) = false) ∧ ∀ k, 0 < k → k < n → (k - 1) / 2 = i → 0 < i → lessAt ss k ((i - 1) / 2) = false
theorem jOf_kid {ss : List Src} {i n k : Nat} (h : 2 * i + 1 < n) (hl : n ≤ ss.length) (hk : 0 < k) (hkn : k < n) (hp : (k - 1) / 2 = i) : k = jOf ss i n ∨ (k ≠ jOf ss i n ∧ lessAt ss k (jOf ss i n) = false) := by
  have hk2 : k = 2 * i + 1 ∨ k = 2 * i + 1 + 1 := by omega
  unfold jOf
  split
  · rename_i hj
    simp at hj
    rcases hk2 with e | e
    · right; subst e; exact ⟨by omega, lessAt_asymm hj.2⟩
    · left; exact e
  · rename_i hj
    rcases hk2 with e | e
    · left; exact e
    · right; subst e
      refine ⟨by omega, ?_⟩
      simp at hj
      exact hj hkn
theorem jOf_parent (ss : List Src) (i n : Nat) : (jOf ss i n - 1) / 2 = i := by unfold jOf; split <;> omega
theorem down_heap (n : Nat) : ∀ (d i : Nat) (ss : List Src), n - i ≤ d → FullTo ss n → n ≤ ss.length → i < n → DnI ss i n → Hp (downM ss i n).1 n := by
  intro d
  induction d with
  | zero => intro i ss h1 _ _ h2; omega
  | succ d ih =>
    intro i ss hd hf hn hi hu
    by_cases h2 : 2 * i + 1 < n
    · have hgt := jOf_gt ss i n
      have hlt := jOf_lt (ss := ss) h2
      have hpar := jOf_parent ss i n
      have hkid : ∀ k, 0 < k → k < n → (k - 1) / 2 = i → _ := fun k a b c => jOf_kid (ss := ss) h2 hn a b c
      obtain ⟨j, hj⟩ : ∃ j, jOf ss i n = j := ⟨_, rfl⟩
      rw [hj] at hgt hlt hpar
      simp only [hj] at hkid
      cases hl : lessAt ss j i with
      | true =>
        rw [downM_step h2 hj hl]
        have hsw := swapAt_at (ss := ss) (i := i) (j := j) (by omega) (by omega)
        have hsj : (swapAt ss i j)[j]? = ss[i]? := by rw [hsw, if_pos rfl]
        have hsp : (swapAt ss i j)[i]? = ss[j]? := by rw [hsw, if_neg (by omega), if_pos rfl]
        have hso : ∀ k, k ≠ i → k ≠ j → (swapAt ss i j)[k]? = ss[k]? := fun k h1 h2 => by rw [hsw, if_neg h2, if_neg h1]
        refine ih j _ (by omega) (hf.swap hn (by omega) (by omega)) (by rw [swapAt_len]; exact hn) hlt ⟨fun k h1 h2 h3 => ?_, fun k h1 h2 h3 h4 => ?_⟩
        · by_cases e1 : (k - 1) / 2 = i
          · rw [e1]
            rcases hkid k h1 h2 e1 with e2 | ⟨e2, e3⟩
            · rw [e2, lessAt_congr hsj hsp]; exact lessAt_asymm hl
            · rw [lessAt_congr (hso k (by omega) e2) hsp]; exact e3
          · have ekj : k ≠ j := fun e => e1 (by rw [e]; exact hpar)
            by_cases e2 : k = i
            · rw [e2, lessAt_congr hsp (hso _ (by omega) (by omega))]
              exact hu.2 j (by omega) hlt hpar (by omega)
            · rw [lessAt_congr (hso k e2 ekj) (hso _ e1 h3)]; exact hu.1 k h1 h2 e1
        · rw [hpar, lessAt_congr (hso k (by omega) (by omega)) hsp]
          have := hu.1 k h1 h2 (by omega)
          rw [h3] at this
          exact this
      | false =>
        rw [downM_stop hj hl]
        intro k h1 h2
        by_cases e1 : (k - 1) / 2 = i
        · rw [e1]
          rcases hkid k h1 h2 e1 with e2 | ⟨e2, e3⟩
          · rw [e2]; exact hl
          · exact lessAt_nt hf hn hlt e3 hl
        · exact hu.1 k h1 h2 e1
    · rw [downM_end h2]
      intro k h1 h3
      exact hu.1 k h1 h3 (by omega)
theorem up_perm (j : Nat) : ∀ ss : List Src, (upM ss j).Perm ss := by
  induction j using Nat.strongRecOn with
  | ind j ih =>
    intro ss
    rw [upM]
    split
    · exact List.Perm.refl _
    · split
      · exact (ih _ (by omega) _).trans (swapAt_perm _ _ _)
      · exact List.Perm.refl _
theorem down_perm (n : Nat) : ∀ (d i : Nat) (ss : List Src), n - i ≤ d → (downM ss i n).1.Perm ss := by
  intro d
  induction d with
  | zero => intro i ss h; rw [downM_end (by omega)]
  | succ d ih =>
    intro i ss hd
    by_cases h2 : 2 * i + 1 < n
    · have hgt := jOf_gt ss i n
      cases hl : lessAt ss (jOf ss i n) i with
      | true => rw [downM_step h2 rfl hl]; exact (ih _ _ (by omega)).trans (swapAt_perm _ _ _)
      | false => rw [downM_stop rfl hl]
    · rw [downM_end h2]
/-- down leaves what lies behind n -/
theorem down_keeps (n : Nat) : ∀ (d i : Nat) (ss : List Src), n - i ≤ d → n ≤ ss.length → ∀ k, n ≤ k → (downM ss i n).1[k]? = ss[k]? := by
  intro d
  induction d with
  | zero => intro i ss h hn k hk; rw [downM_end (by omega)]
  | succ d ih =>
    intro i ss hd hn k hk
    by_cases h2 : 2 * i + 1 < n
    · have hgt := jOf_gt ss i n
      have hlt := jOf_lt (ss := ss) h2
      cases hl : lessAt ss (jOf ss i n) i with
      | true => rw [downM_step h2 rfl hl, ih _ _ (by omega) (by rw [swapAt_len]; exact hn) k hk, swapAt_at (by omega) (by omega), if_neg (by omega), if_neg (by omega)]
      | false => rw [downM_stop rfl hl]
    · rw [downM_end h2]
/-- push: up from the end -/
theorem push_heap {ss : List Src} {s : Src} (hf : Full (ss ++ [s])) (h : Hp ss ss.length) : Hp (upM (ss ++ [s]) ss.length) (ss.length + 1) := by
  refine up_heap _ _ _ (hf.to _) (by simp) (by omega) ⟨fun k h1 h2 h3 => ?_, fun k h1 h2 h3 h4 => by omega⟩
  rw [lessAt_congr (ss := ss) (b := k) (d := (k - 1) / 2) (List.getElem?_append_left (by omega)) (List.getElem?_append_left (by omega))]
  exact h k h1 (by omega)
/-- fix behind a change of the root -/
theorem fix_heap {ss : List Src} {s : Src} (hf : Full (ss.set 0 s)) (hn : 0 < ss.length) (h : Hp ss ss.length) : Hp (downM (ss.set 0 s) 0 ss.length).1 ss.length := by
  refine down_heap _ _ 0 _ (Nat.le_refl _) (hf.to _) (by simp) hn ⟨fun k h1 h2 h3 => ?_, fun k _ _ _ h => by omega⟩
  rw [lessAt_congr (ss := ss) (b := k) (d := (k - 1) / 2) (List.getElem?_set_ne (by omega)) (List.getElem?_set_ne (by omega))]
  exact h k h1 h2
/-- pop: the end to the root, and down; the root that goes may be empty -/
theorem pop_heap {ss : List Src} (hf : Full ss) {n : Nat} (s : Src) (hn : ss.length = n + 1) (h : Hp ss ss.length) : Hp (downM (swapAt (ss.set 0 s) 0 n) 0 n).1 n := by
  by_cases h0 : n = 0
  · subst h0; intro k h1 h2; omega
  · have hsw := swapAt_at (ss := ss.set 0 s) (i := 0) (j := n) (by simp; omega) (by simp; omega)
    have hat : ∀ k, 0 < k → k < n → (swapAt (ss.set 0 s) 0 n)[k]? = ss[k]? := fun k h1 h2 => by
      rw [hsw, if_neg (by omega), if_neg (by omega), List.getElem?_set_ne (by omega)]
    have h0' : (swapAt (ss.set 0 s) 0 n)[0]? = ss[n]? := by
      rw [hsw, if_neg (by omega), if_pos rfl, List.getElem?_set_ne (by omega)]
    refine down_heap _ _ 0 _ (Nat.le_refl _) (fun k t hk ht => ?_) (by rw [swapAt_len]; simp; omega) (by omega) ⟨fun k h1 h2 h3 => ?_, fun k _ _ _ h => by omega⟩
    · by_cases e : k = 0
      · rw [e, h0'] at ht; exact hf t (List.mem_of_getElem? ht)
      · rw [hat k (by omega) hk] at ht; exact hf t (List.mem_of_getElem? ht)
    · rw [lessAt_congr (ss := ss) (b := k) (d := (k - 1) / 2) (hat k h1 h2) (hat _ (by omega) (by omega))]
      exact h k h1 (by omega)
theorem pop_perm {s0 s : Src} {tl : List Src} {n : Nat} (hn : tl.length = n) : ((downM (swapAt (s :: tl) 0 n) 0 n).1.take n).Perm tl := by
  have hsw := swapAt_at (ss := s :: tl) (i := 0) (j := n) (by simp) (by simp; omega)
  have hk := down_keeps n n 0 (swapAt (s :: tl) 0 n) (by omega) (by rw [swapAt_len]; simp; omega) n (Nat.le_refl _)
  rw [hsw, if_pos rfl] at hk
  have hp := (down_perm n n 0 (swapAt (s :: tl) 0 n) (by omega)).trans (swapAt_perm (s :: tl) 0 n)
  obtain ⟨R, hR⟩ : ∃ R, R = (downM (swapAt (s :: tl) 0 n) 0 n).1 := ⟨_, rfl⟩
  rw [← hR] at hk hp ⊢
  have hl : R.length = n + 1 := by rw [hp.length_eq]; simp [hn]
  have hd : R.drop n = [s] := by
    obtain ⟨h1, h2⟩ := List.getElem?_eq_some_iff.1 (hk.trans (by simp : (s :: tl)[0]? = some s))
    rw [List.drop_eq_getElem_cons h1, h2, List.drop_of_length_le (by omega)]
  have h3 : (R.take n ++ [s]).Perm (s :: tl) := by rw [← hd, List.take_append_drop]; exact hp
  exact List.Perm.cons_inv ((List.perm_append_singleton s _).symm.trans h3)
theorem Hp.congr {ss ss' : List Src} {n : Nat} (h : Hp ss n) (he : ∀ k, k < n → ss'[k]? = ss[k]?) : Hp ss' n := fun k h1 h2 => by
  rw [lessAt_congr (ss := ss) (b := k) (d := (k - 1) / 2) (he k h2) (he _ (by omega))]; exact h k h1 h2
end Go.Proofs.Ytphglalphejppaa
