/- Compaction makes progress: plain law. No condition. -/
import Derived.Test.YtphglalphejppaaRemP
import Derived.Test.YtphglalphejppaaBest
import Derived.Test.YtphglalphejppaaMLev
import Derived.Test.YtphglalphejppaaMSet
namespace Go.Proofs.Ytphglalphejppaa
open Go.RowKit
set_option linter.unusedVariables false
set_option linter.unusedSimpArgs false

theorem segF_of {ss : List SegD} (ha : AscId ss) {s : SegD} (hs : s ∈ ss) : segF ss s.id = some s := by
  cases h : segF ss s.id with
  | none => have := List.find?_eq_none.1 h s hs; simp at this
  | some t =>
    have ht := List.mem_of_find?_eq_some h
    have he : t.id = s.id := by have := List.find?_some h; simpa using this
    obtain ⟨i, hi⟩ := List.getElem?_of_mem hs
    obtain ⟨j, hj⟩ := List.getElem?_of_mem ht
    obtain ⟨i1, i2⟩ := List.getElem?_eq_some_iff.1 hi
    obtain ⟨j1, j2⟩ := List.getElem?_eq_some_iff.1 hj
    rcases Nat.lt_trichotomy i j with hl | hl | hl
    · have := List.pairwise_iff_getElem.1 ha i j i1 j1 hl; rw [i2, j2] at this; omega
    · subst hl; rw [hi] at hj; exact hj.symm
    · have := List.pairwise_iff_getElem.1 ha j i j1 i1 hl; rw [i2, j2] at this; omega
theorem chL_mem {ss : List SegD} {b : Kp} {x : Int} (h : x ∈ chL (ofK ss) (some b)) : ∃ s ∈ ss, s.id = x ∧ s.level = b.1 := by
  unfold chL at h
  have h1 := List.mem_of_mem_take h
  unfold ofK ofL at h1
  obtain ⟨s, hs, e⟩ := List.mem_map.1 h1
  obtain ⟨h2, h3⟩ := List.mem_filter.1 hs
  unfold isLT at h3
  simp at h3
  exact ⟨s, h2, e, h3.1⟩
theorem chL_ids {ss : List SegD} (ha : AscId ss) (b : Kp) : IdsIn ss (chL (ofK ss) (some b)) := by
  refine ⟨?_, fun x hx => by obtain ⟨s, h1, h2, _⟩ := chL_mem hx; exact ⟨s, h1, h2⟩⟩
  have h1 : (ofK ss b).Pairwise (· < ·) := by
    unfold ofK ofL
    exact List.pairwise_map.2 (ha.sublist (List.filter_sublist ..))
  have h2 : (chL (ofK ss) (some b)).Pairwise (· < ·) := h1.sublist (List.take_sublist ..)
  exact h2.imp (fun h e => by omega)
theorem lvl_stay {ss : List SegD} {v : Int} : ∀ (ids : List Int), (∀ x ∈ ids, ∃ s, segF ss x = some s ∧ s.level = v) → ids.foldl (lvl1 ss) (v + 1) = v + 1
  | [], _ => rfl
  | x :: xs, h => by
    obtain ⟨s, h1, h2⟩ := h x (by simp)
    have : lvl1 ss (v + 1) x = v + 1 := by unfold lvl1; rw [h1]; simp only []; rw [h2]; split <;> omega
    rw [List.foldl_cons, this]
    exact lvl_stay xs (fun y hy => h y (by simp [hy]))
theorem lvl_all {ss : List SegD} {v : Int} (hv : 0 ≤ v) {ids : List Int} (h : ∀ x ∈ ids, ∃ s, segF ss x = some s ∧ s.level = v) (hne : ids ≠ []) : lvl ss ids = v + 1 := by
  cases ids with
  | nil => exact absurd rfl hne
  | cons x xs =>
    obtain ⟨s, h1, h2⟩ := h x (by simp)
    have : lvl1 ss 0 x = v + 1 := by unfold lvl1; rw [h1]; simp only []; rw [h2]; split <;> omega
    unfold lvl
    rw [List.foldl_cons, this]
    exact lvl_stay xs (fun y hy => h y (by simp [hy]))
/-- the manifest behind n rounds of compaction -/
structure PInv (n : Nat) (num nid jn : Int) (ss : List SegD) (ms : List MarkD) (ts xs : List Tal) : Prop where
  ok : MOk num nid jn ss ms ts xs
  hnum : num ≤ 8 + 2 * (n : Int)
  hnid : nid ≤ 500 + (n : Int)
  len : ss.length + 3 * n ≤ 20
  lev : ∀ s ∈ ss, s.level ≤ 2 + (n : Int)
def newSeg (nid v : Int) : SegD := ⟨nid, v, 0, 1, 0, 1, 0⟩
theorem MOk.add {num nid jn : Int} {ss : List SegD} {ms : List MarkD} {ts xs : List Tal} (h : MOk num nid jn ss ms ts xs) (hn : num < 1000) (hi : nid < 1000) (hl : ss.length < 64) {s : SegD} (hs : SegC (nid + 1) s) (hid : s.id = nid) : MOk (num + 1) (nid + 1) jn (ss ++ [s]) ms ts xs where
  hnum := by have := h.hnum; omega
  hnid := by have := h.hnid; omega
  hjn := h.hjn
  len := by rw [List.length_append]; simp; omega
  asc := List.pairwise_append.2 ⟨h.asc, List.pairwise_singleton _ _, fun a ha b hb => by
    rw [List.mem_singleton.1 hb, hid]; exact (h.seg a ha).2.1⟩
  seg := fun t ht => by
    rcases List.mem_append.1 ht with ht | ht
    · have := h.seg t ht; unfold SegC at this ⊢; omega
    · rw [List.mem_singleton.1 ht]; exact hs
  ml := h.ml
  ma := h.ma
  tl := h.tl
  ta := h.ta
  xl := h.xl
  xa := h.xa
/-- one round -/
theorem PInv.next {n : Nat} {num nid jn : Int} {ss : List SegD} {ms : List MarkD} {ts xs : List Tal} (h : PInv n num nid jn ss ms ts xs) (hn : n < 20) {b : Kp} (h4 : 4 ≤ (ofK ss b).length) :
    let L := chL (ofK ss) (some b)
    L.length = 4 ∧ IdsIn ss L ∧ lvl ss L = b.1 + 1 ∧ (∀ x ∈ L, ∃ s, segF ss x = some s ∧ s.level < b.1 + 1) ∧ 0 ≤ b.1 ∧ b.1 ≤ 100 ∧ (remL ss L).length + 4 = ss.length ∧
      MOk (num + 1) nid jn (remL ss L) ms ts xs ∧ SegC (nid + 1) (newSeg nid (b.1 + 1)) ∧ PInv (n + 1) (num + 1 + 1) (nid + 1) jn (remL ss L ++ [newSeg nid (b.1 + 1)]) ms ts xs := by
  have hL := chL_len h4
  have hI := chL_ids h.ok.asc b
  have hx : ∀ x ∈ chL (ofK ss) (some b), ∃ s, segF ss x = some s ∧ s.level = b.1 := fun x hx => by
    obtain ⟨s, h1, h2, h3⟩ := chL_mem hx
    exact ⟨s, by rw [← h2]; exact segF_of h.ok.asc h1, h3⟩
  obtain ⟨s0, hs0, hb0⟩ := ofK_four h4
  have hlev := h.lev s0 hs0
  have hseg := h.ok.seg s0 hs0
  have hb1 : b.1 = s0.level := by rw [hb0]
  have hr := hI.len h.ok.asc 4 (by omega)
  rw [List.take_of_length_le (by omega)] at hr
  have h20 := h.len
  have hnn := h.hnum
  have hni := h.hnid
  have h0 := h.ok.hnid
  unfold SegC at hseg
  have hC : SegC (nid + 1) (newSeg nid (b.1 + 1)) := by unfold SegC newSeg; simp only []; omega
  have hM := h.ok.rem (by omega) (chL (ofK ss) (some b))
  refine ⟨hL, hI, lvl_all (by omega) hx (by intro e; rw [e] at hL; simp at hL), fun x q => by obtain ⟨s, q1, q2⟩ := hx x q; exact ⟨s, q1, by omega⟩, by omega, by omega, hr, hM, hC, ?_⟩
  refine ⟨hM.add (by omega) (by omega) (by omega) hC rfl, by push_cast; omega, by push_cast; omega, by rw [List.length_append]; simp; omega, fun s hs => ?_⟩
  rcases List.mem_append.1 hs with hs | hs
  · have := h.lev s ((remL_sub ss _).subset hs); push_cast; omega
  · rw [List.mem_singleton.1 hs]; show b.1 + 1 ≤ _; push_cast; omega
end Go.Proofs.Ytphglalphejppaa
