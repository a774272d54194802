/- Removing entries: plain law. No condition. -/
import Derived.Test.YtphglalphejppaaMChk
namespace Go.Proofs.Ytphglalphejppaa
open Go.RowKit
set_option linter.unusedVariables false
set_option linter.unusedSimpArgs false

def del1 (l : List SegD) (id : Int) : List SegD := l.filter (fun s => s.id != id)
def remL (ss : List SegD) (ids : List Int) : List SegD := ids.foldl del1 ss
theorem remL_snoc (ss : List SegD) (ids : List Int) (x : Int) : remL ss (ids ++ [x]) = del1 (remL ss ids) x := by unfold remL; rw [List.foldl_append]; rfl
theorem remL_sub (ss : List SegD) (ids : List Int) : (remL ss ids).Sublist ss := by
  unfold remL
  induction ids generalizing ss with
  | nil => exact List.Sublist.refl _
  | cons x ids ih => rw [List.foldl_cons]; exact (ih _).trans (List.filter_sublist ..)
theorem remL_mem {ss : List SegD} {ids : List Int} {s : SegD} : s ∈ remL ss ids ↔ s ∈ ss ∧ s.id ∉ ids := by
  unfold remL
  induction ids generalizing ss with
  | nil => simp
  | cons x ids ih =>
    rw [List.foldl_cons, ih]
    unfold del1
    rw [List.mem_filter]
    simp
    constructor
    · rintro ⟨⟨h1, h2⟩, h3⟩; exact ⟨h1, h2, h3⟩
    · rintro ⟨h1, h2, h3⟩; exact ⟨⟨h1, h2⟩, h3⟩
def AscId (l : List SegD) : Prop := l.Pairwise fun a b => a.id < b.id
theorem remL_asc {ss : List SegD} (h : AscId ss) (ids : List Int) : AscId (remL ss ids) := h.sublist (remL_sub ss ids)
theorem del1_at {l : List SegD} (h : AscId l) {k : Nat} {s : SegD} (hs : l[k]? = some s) : l.take k ++ l.drop (k + 1) = del1 l s.id := by
  obtain ⟨h1, h2⟩ := List.getElem?_eq_some_iff.1 hs
  have e : l = l.take k ++ s :: l.drop (k + 1) := by
    rw [← h2, ← List.drop_eq_getElem_cons h1, List.take_append_drop]
  have hp : AscId (l.take k ++ s :: l.drop (k + 1)) := by rw [← e]; exact h
  have hf : del1 (l.take k ++ s :: l.drop (k + 1)) s.id = l.take k ++ l.drop (k + 1) := by
    obtain ⟨p1, p2, p3⟩ := List.pairwise_append.1 hp
    obtain ⟨p4, p5⟩ := List.pairwise_cons.1 p2
    unfold del1
    rw [List.filter_append, List.filter_cons]
    simp only [bne_self_eq_false, Bool.false_eq_true, if_false]
    rw [List.filter_eq_self.2 (fun x hx => by have := p3 x hx s (by simp); simp; omega), List.filter_eq_self.2 (fun x hx => by have := p4 x hx; simp; omega)]
  rw [← hf, ← e]
theorem del1_len {l : List SegD} (h : AscId l) {k : Nat} {s : SegD} (hs : l[k]? = some s) : (del1 l s.id).length + 1 = l.length := by
  rw [← del1_at h hs, List.length_append, List.length_take, List.length_drop]
  have := (List.getElem?_eq_some_iff.1 hs).1
  omega
/-- identifiers that are there, each once -/
def IdsIn (ss : List SegD) (ids : List Int) : Prop := ids.Nodup ∧ ∀ x ∈ ids, ∃ s ∈ ss, s.id = x
theorem IdsIn.at {ss : List SegD} {ids : List Int} (h : IdsIn ss ids) {i : Nat} {x : Int} (hx : ids[i]? = some x) : ∃ (k : Nat) (s : SegD), segI (remL ss (ids.take i)) x = k ∧ (remL ss (ids.take i))[k]? = some s ∧ s.id = x := by
  obtain ⟨s, hs, hsx⟩ := h.2 x (List.mem_of_getElem? hx)
  obtain ⟨q1, q2⟩ := List.getElem?_eq_some_iff.1 hx
  have hno : x ∉ ids.take i := fun hm => by
    obtain ⟨j, hj⟩ := List.getElem?_of_mem hm
    rw [List.getElem?_take] at hj
    split at hj
    · rename_i hji
      obtain ⟨q3, q4⟩ := List.getElem?_eq_some_iff.1 hj
      have := List.pairwise_iff_getElem.1 h.1 j i q3 q1 hji
      rw [q4, q2] at this
      exact this rfl
    · cases hj
  have hmem : s ∈ remL ss (ids.take i) := remL_mem.2 ⟨hs, by rw [hsx]; exact hno⟩
  rcases segI_find (ss := remL ss (ids.take i)) (id := x) with ⟨_, hF⟩ | ⟨k, t, hI, hk, hF⟩
  · have := List.find?_eq_none.1 hF s hmem
    simp [hsx] at this
  · exact ⟨k, t, hI, hk, by have := List.find?_some hF; simpa using this⟩
theorem IdsIn.len {ss : List SegD} (ha : AscId ss) {ids : List Int} (h : IdsIn ss ids) : ∀ i, i ≤ ids.length → (remL ss (ids.take i)).length + i = ss.length := by
  intro i
  induction i with
  | zero => intro _; simp [remL]
  | succ i ih =>
    intro hi
    have h0 := ih (by omega)
    obtain ⟨x, hx⟩ : ∃ x, ids[i]? = some x := ⟨_, List.getElem?_eq_getElem (by omega)⟩
    obtain ⟨k, s, _, hk, e⟩ := h.at hx
    obtain ⟨q1, q2⟩ := List.getElem?_eq_some_iff.1 hx
    rw [List.take_succ_eq_append_getElem q1, q2, remL_snoc, ← e]
    have := del1_len (remL_asc ha _) hk
    omega
theorem MOk.rem {num nid jn : Int} {ss : List SegD} {ms : List MarkD} {ts xs : List Tal} (h : MOk num nid jn ss ms ts xs) (hn : num < 1000) (ids : List Int) : MOk (num + 1) nid jn (remL ss ids) ms ts xs where
  hnum := by have := h.hnum; omega
  hnid := h.hnid
  hjn := h.hjn
  len := Nat.le_trans (remL_sub ss ids).length_le h.len
  asc := remL_asc h.asc ids
  seg := fun s hs => h.seg s ((remL_sub ss ids).subset hs)
  ml := h.ml
  ma := h.ma
  tl := h.tl
  ta := h.ta
  xl := h.xl
  xa := h.xa
/-- a prefix of a row, and what lies behind -/
theorem own_prefix {w : World} {base e z n k c : Nat} {A : Option Addr} {xs : List Value} (h : w.ownsRow base e z (.slice A n c) n xs) (hk : k ≤ n) (hA : 0 < n) : w.ownsRow base e z (.slice A k c) k (xs.take (k * z)) := by
  obtain ⟨hl, h2⟩ := h
  have hkn : k * z ≤ n * z := Nat.mul_le_mul_right z hk
  refine ⟨by rw [List.length_take]; omega, ?_⟩
  rcases h2 with ⟨e1, h2⟩ | ⟨g, cap, cur, e1, h3, h4, h5, h6, h7, h8⟩
  · omega
  · injection e1 with e1 e2 e3
    subst e1 e3
    exact .inr ⟨g, c, cur, rfl, h3, h4, by omega, h6, h7, by rw [← h8, List.take_take, Nat.min_eq_left hkn]⟩
end Go.Proofs.Ytphglalphejppaa
