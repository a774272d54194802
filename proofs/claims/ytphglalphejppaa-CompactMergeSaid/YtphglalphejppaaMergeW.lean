/- Words for merging lists of events: lists in memory, what the sources hold, what remains. No condition. -/
import Derived.Test.YtphglalphejppaaHeapOps
import Derived.Test.YtphglalphejppaaPick
import Derived.StillTailTactics
import Derived.Deep.DeepCutAuto
namespace Go.Proofs.Ytphglalphejppaa
open Go.RowKit
set_option linter.unusedVariables false
set_option linter.unusedSimpArgs false

/-- a list of events and where it lies -/
structure Pl where
  evs : List Ev
  a : Option Addr
  c : Nat
def Pl.cell (p : Pl) : Value := .slice p.a p.evs.length p.c
def Pl.Ok (S : Nat → Prop) (w : World) (p : Pl) : Prop := Rd S w p.a (p.evs.flatMap Ev.cells) ∧ p.evs.length ≤ p.c ∧ p.c ≤ maxLen
theorem Pl.Ok.grown {S : Nat → Prop} {w w' : World} {p : Pl} {row : Option Nat} (h : p.Ok S w) (hg : w.grownBy w' row) (hr : ∀ b, S b → some b ≠ row) : p.Ok S w' := ⟨h.1.grown hg hr, h.2⟩
theorem Pl.Ok.mono {S S' : Nat → Prop} {w : World} {p : Pl} (h : p.Ok S w) (hS : ∀ b, S b → b < w.heap.size → S' b) : p.Ok S' w := ⟨h.1.mono hS, h.2⟩
theorem Rd.cell1 {S : Nat → Prop} {w : World} {b off : Nat} {xs : List Value} (h : Rd S w (some ⟨b, off, none⟩) xs) {i : Nat} {v : Value} (hv : xs[i]? = some v) : w.cell? ⟨b, off + i, none⟩ = some v := by
  obtain ⟨b', off', e, _, _, hc⟩ := h (by rcases Nat.lt_or_ge i xs.length with h | h; omega; rw [List.getElem?_eq_none h] at hv; cases hv)
  injection e with e
  injection e with e1 e2
  subst e1 e2
  exact hc i _ hv

/-- neighbours are in order, as far as k -/
def AdjTo (l : List Ev) (k : Nat) : Prop := ∀ j x y, j + 1 < k → l[j]? = some x → l[j + 1]? = some y → y.less x = false
theorem AdjTo.step {l : List Ev} {k : Nat} (h : AdjTo l k) {x y : Ev} (hk : 1 ≤ k) (hx : l[k - 1]? = some x) (hy : l[k]? = some y) (hl : y.less x = false) : AdjTo l (k + 1) := fun j a b hj ha hb => by
  by_cases e : j + 1 = k
  · have e1 : k - 1 = j := by omega
    rw [e1] at hx
    rw [← e] at hy
    rw [hx] at ha; rw [hy] at hb
    injection ha with ha; injection hb with hb
    rw [← ha, ← hb]; exact hl
  · exact h j a b (by omega) ha hb
theorem asc_of_adj : ∀ {l : List Ev}, AdjTo l l.length → Asc l
  | [], _ => List.Pairwise.nil
  | [x], _ => List.pairwise_singleton _ _
  | x :: y :: l, h => by
    have h1 : y.less x = false := h 0 x y (by simp) rfl rfl
    have h2 : Asc (y :: l) := asc_of_adj fun j a b hj ha hb => h (j + 1) a b (by simp at hj ⊢; omega) (by simpa using ha) (by simpa using hb)
    refine List.pairwise_cons.2 ⟨fun b hb => ?_, h2⟩
    rcases List.mem_cons.1 hb with rfl | hb
    · exact h1
    · exact nless_trans h1 ((List.pairwise_cons.1 h2).1 b hb)
theorem not_asc {l : List Ev} {k : Nat} {x y : Ev} (hx : l[k]? = some x) (hy : l[k + 1]? = some y) (hl : y.less x = true) : ¬ Asc l := fun h => by
  obtain ⟨h1, ex⟩ := List.getElem?_eq_some_iff.1 hx
  obtain ⟨h2, ey⟩ := List.getElem?_eq_some_iff.1 hy
  have := List.pairwise_iff_getElem.1 h k (k + 1) h1 h2 (by omega)
  rw [ex, ey, hl] at this
  cases this

/-- how many events remain -/
def tot (ss : List Src) : Nat := (ss.map (·.rest.length)).sum
theorem tot_perm {a b : List Src} (h : a.Perm b) : tot a = tot b := by
  unfold tot; exact (h.map _).sum_nat
theorem MInv.push {L : List (List Ev)} {ss : List Src} (h : MInv L ss []) {s : Src} (hi : s.idx = L.length) (hl : s.rest ≠ []) : MInv (L ++ [s.rest]) (ss ++ [s]) [] where
  dist := List.pairwise_append.2 ⟨h.dist, List.pairwise_singleton _ _, fun a ha b hb => by
    rw [List.mem_singleton.1 hb, hi]
    obtain ⟨i, pre, h1, h2, _⟩ := h.src a ha
    have := (List.getElem?_eq_some_iff.1 h2).1
    rw [h1]; omega⟩
  full := fun t ht => by
    rcases List.mem_append.1 ht with ht | ht
    · exact h.full t ht
    · rw [List.mem_singleton.1 ht]; exact hl
  src := fun t ht => by
    rcases List.mem_append.1 ht with ht | ht
    · obtain ⟨i, pre, h1, h2, h3⟩ := h.src t ht
      exact ⟨i, pre, h1, by rw [List.getElem?_append_left (List.getElem?_eq_some_iff.1 h2).1]; exact h2, h3⟩
    · rw [List.mem_singleton.1 ht]; exact ⟨L.length, [], hi, by simp, by simp⟩
  has := fun i l hl' => by
    rcases Nat.lt_or_ge i L.length with h1 | h1
    · rw [List.getElem?_append_left h1] at hl'
      rcases h.has i l hl' with ⟨t, ht, e⟩ | h2
      · exact .inl ⟨t, by simp [ht], e⟩
      · exact .inr h2
    · have e : i = L.length := by
        have := (List.getElem?_eq_some_iff.1 hl').1
        simp at this; omega
      exact .inl ⟨s, by simp, by rw [hi, e]⟩
  srt := List.Pairwise.nil
  pick := by simp
  le := by simp
theorem MInv.skip {L : List (List Ev)} {ss : List Src} (h : MInv L ss []) : MInv (L ++ [[]]) ss [] where
  dist := h.dist
  full := h.full
  src := fun t ht => by
    obtain ⟨i, pre, h1, h2, h3⟩ := h.src t ht
    exact ⟨i, pre, h1, by rw [List.getElem?_append_left (List.getElem?_eq_some_iff.1 h2).1]; exact h2, h3⟩
  has := fun i l hl' => by
    rcases Nat.lt_or_ge i L.length with h1 | h1
    · rw [List.getElem?_append_left h1] at hl'; exact h.has i l hl'
    · have e : i = L.length := by
        have := (List.getElem?_eq_some_iff.1 hl').1
        simp at this; omega
      subst e
      right
      simp at hl'
      subst hl'
      simp
  srt := List.Pairwise.nil
  pick := by simp
  le := by simp
theorem MInv.none : MInv [] [] [] where
  dist := List.Pairwise.nil
  full := by intro s hs; cases hs
  src := by simp
  has := by simp
  srt := List.Pairwise.nil
  pick := by simp
  le := by simp
/-- a source whose events lie in old memory -/
def SGood (w0 : World) (s : Src) : Prop := SOk w0 s ∧ s.rest.length ≤ s.c ∧ s.c ≤ maxLen
theorem own_block_eq {w w' : World} {base e z n : Nat} {v : Value} {xs : List Value} (h : w.ownsRow base e z v n xs) (hb : ∀ g, v.ownBlock = some g → w'.heap[g]? = w.heap[g]?) : w'.ownsRow base e z v n xs := by
  obtain ⟨h1, h2⟩ := h
  refine ⟨h1, ?_⟩
  rcases h2 with h2 | ⟨g, cap, cur, h3, h4, h5, h6⟩
  · exact .inl h2
  · refine .inr ⟨g, cap, cur, h3, h4, ?_, h6⟩
    rw [hb g (by rw [h3]; rfl)]; exact h5
/-- the row of the output through a call that turns the queue alone -/
theorem own_fr2 {w w' : World} {base base' e z n gq t t' z' n' : Nat} {v q : Value} {cs : Array Value} {xs xs' : List Value} (h : w.ownsRow base e z v n xs) (hf : Fr2 w w' gq q.ownBlock) (hB : Blk w gq t cs) (hq : w.ownsRow base' t' z' q n' xs') (h1 : t ≠ e) (h2 : e ≠ t') : w'.ownsRow base e z v n xs :=
  own_block_eq h fun g hg => hf.2.2.2.2 g (h.lt g hg).2 (fun e1 => blk_not_row hB h h1 (by rw [hg, e1])) (fun e1 => by
    rcases h.2 with ⟨e2, _⟩ | ⟨g1, _, _, e2, _, h5, _⟩
    · rw [e2] at hg; simp [Value.ownBlock] at hg
    · rcases hq.2 with ⟨e3, _⟩ | ⟨g2, _, _, e3, _, h6, _⟩
      · rw [e3] at e1; simp [Value.ownBlock] at e1
      · have a1 : g1 = g := by rw [e2] at hg; simpa [Value.ownBlock] using hg
        have a2 : g = g2 := by rw [e3] at e1; simpa [Value.ownBlock] using e1
        subst a1 a2
        rw [h5] at h6
        injection h6 with h6
        injection h6 with _ h7 _
        exact h2 h7)
/-- what a merge gives back -/
def MergePost (w : World) (L : List (List Ev)) (e : Ending) (w' : World) : Prop :=
  w.grownBy w' none ∧ (((∀ l ∈ L, Asc l) ∧ ∃ (A : Option Addr) (c : Nat) (out : List Ev), e = .returned (.tuple #[.slice A out.length c, .int .i64 0]) ∧ IsMerge L.flatten out ∧ out.length ≤ L.flatten.length ∧ out.length ≤ c ∧ c ≤ maxLen ∧ Rd (w.heap.size ≤ ·) w' A (out.flatMap Ev.cells)) ∨
    ((∃ l ∈ L, ¬ Asc l) ∧ e = .returned (.tuple #[.slice none 0 0, .int .i64 19])))
end Go.Proofs.Ytphglalphejppaa
