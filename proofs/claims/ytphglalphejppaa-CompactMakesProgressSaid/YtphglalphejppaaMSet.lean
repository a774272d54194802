/- A drawn manifest whose levels are set anew: words for the laws of chapter 31. No condition. -/
import Derived.Test.YtphglalphejppaaMani
import Derived.Test.YtphglalphejppaaMLev
namespace Go.Proofs.Ytphglalphejppaa
open Go.RowKit
set_option linter.unusedVariables false
set_option linter.unusedSimpArgs false

/-- the manifest's variable (block mb), its row of segments, the codes; what has turned since the law began is new -/
def LRow (w0 : World) (g : Nat) (l : List Int) (mb : Nat) (cs : Array Value) (base : Nat) (A : Option Addr) (n c : Nat) (xs : List Value) (W : World) : Prop :=
  Blk W mb 52 cs ∧ W.ownsRow base 29 7 (.slice A n c) n xs ∧ (∃ k, CodesAt W g l k) ∧ w0.grownBy W none
section
variable {w0 W W' : World} {g mb base n c : Nat} {l : List Int} {cs : Array Value} {A : Option Addr} {xs : List Value}
theorem LRow.next (h : LRow w0 g l mb cs base A n c xs W) {k : Nat} (hc : CodesAt W' g l k) (hg : W.grownBy W' (some g)) (h1 : g < base) (h2 : g ≠ mb) (h3 : w0.heap.size ≤ g) : LRow w0 g l mb cs base A n c xs W' :=
  ⟨h.1.grown hg (by intro e; injection e with e; exact h2 e.symm), h.2.1.kept hg (by
    cases hu : (Value.slice A n c).ownBlock with
    | none => exact .inl rfl
    | some j => have := (h.2.1.lt j hu).1; exact .inr (by intro e; injection e with e; omega)), ⟨k, hc⟩, only_fresh h.2.2.2 hg h3⟩
theorem LRow.quiet (h : LRow w0 g l mb cs base A n c xs W) (hg : W.grownBy W' none) : LRow w0 g l mb cs base A n c xs W' :=
  ⟨h.1.grown hg (by simp), h.2.1.kept hg (by cases (Value.slice A n c).ownBlock <;> simp), by obtain ⟨k, hk⟩ := h.2.2.1; exact ⟨k, hk.grown hg (by simp)⟩, only_trans h.2.2.2 hg⟩
theorem LRow.drewN (h : LRow w0 g l mb cs base A n c xs W) (k : Nat) : LRow w0 g l mb cs base A n c xs (W.drewN k) := h.quiet (only_drewN (only_refl _ _) k)
theorem LRow.drew (h : LRow w0 g l mb cs base A n c xs W) : LRow w0 g l mb cs base A n c xs W.drew := h.quiet (only_drew (only_refl _ _))
/-- the row's block -/
theorem LRow.row (h : LRow w0 g l mb cs base A n c xs W) (hn : 0 < n) : ∃ gr, A = some ⟨gr, 0, none⟩ ∧ base ≤ gr ∧ gr < W.heap.size ∧ gr ≠ mb := by
  have h0 := blk_norow h.1 h.2.1 (by decide)
  obtain ⟨hl, h2⟩ := h.2.1
  rcases h2 with ⟨e, h2⟩ | ⟨g', cap, cur, e, hb, hh, _⟩
  · omega
  · injection e with e1 e2 e3
    subst e1
    exact ⟨g', rfl, hb, (Array.getElem?_eq_some_iff.1 hh).1, fun e => h0 (by rw [e]; rfl)⟩
theorem LRow.cell {gr : Nat} (h : LRow w0 g l mb cs base (some ⟨gr, 0, none⟩) n c xs W) {i : Nat} {v : Value} (hv : xs[i]? = some v) : W.cell? ⟨gr, i, none⟩ = some v ∧ W.frozen? ⟨gr, i, none⟩ = false := by
  obtain ⟨hl, h2⟩ := h.2.1
  rcases h2 with ⟨e, h2⟩ | ⟨g', cap, cur, e, hb, hh, hc, hm, hs, ht⟩
  · cases e
  · injection e with e1 e2 e3
    injection e1 with e1
    injection e1 with e1
    subst e1
    have hi := (List.getElem?_eq_some_iff.1 hv).1
    refine ⟨?_, by simp [World.frozen?, hh]⟩
    rw [cell_of_row W gr i _ _ (0, 0) hh, ← Array.getElem?_toList]
    have h1 : (cur.toList.take (n * 7))[i]? = some v := by rw [ht]; exact hv
    rw [List.getElem?_take] at h1
    split at h1
    · exact h1
    · cases h1
theorem LRow.put {gr : Nat} (h : LRow w0 g l mb cs base (some ⟨gr, 0, none⟩) n c xs W) {i : Nat} (hi : i < n * 7) (hgb : g < base) (hw : w0.heap.size ≤ base) (u : Value) : LRow w0 g l mb cs base (some ⟨gr, 0, none⟩) n c (xs.set i u) (W.setCell ⟨gr, i, none⟩ u) := by
  have hn : 0 < n := by omega
  obtain ⟨gr', e, h1, h2, h3⟩ := h.row hn
  injection e with e; injection e with e
  subst e
  have hs : W.grownBy (W.setCell ⟨gr, i, none⟩ u) (some gr) := only_setCell (only_refl _ _) (p := ⟨gr, i, none⟩) (.inl rfl) u
  obtain ⟨k, hk⟩ := h.2.2.1
  exact ⟨h.1.grown hs (by intro e; injection e with e; exact h3 e.symm), own_putk h.2.1 hi, ⟨k, hk.grown hs (fun b hb e => by injection e with e; omega)⟩, only_fresh h.2.2.2 hs (by omega)⟩
theorem LRow.c3 {v0 v1 v2 v3 v4 v5 v6 : Value} (h : LRow w0 g l mb #[v0, v1, v2, v3, v4, v5, v6] base A n c xs W) : W.cell? ⟨mb, 3, none⟩ = some v3 := by
  have := h.1.cell 3
  simpa using this
end
/-- an entry with another level and tier -/
def SegD.at_ (s : SegD) (v t : Int) : SegD := { s with level := v, tier := t }
theorem seg_put1 {ss : List SegD} {k : Nat} {s : SegD} (hs : ss[k]? = some s) (v : Int) : (ss.flatMap SegD.cells).set (k * 7 + 1) (.int .i64 v) = (ss.set k (s.at_ v s.tier)).flatMap SegD.cells := by
  obtain ⟨h1, h2⟩ := List.getElem?_eq_some_iff.1 hs
  exact flat_set SegD.cells_len ss k 1 h1 _ _ (by omega) (by rw [h2]; rfl)
theorem seg_put2 {ss : List SegD} {k : Nat} {s : SegD} (hs : ss[k]? = some s) (t : Int) : (ss.flatMap SegD.cells).set (k * 7 + 2) (.int .i64 t) = (ss.set k (s.at_ s.level t)).flatMap SegD.cells := by
  obtain ⟨h1, h2⟩ := List.getElem?_eq_some_iff.1 hs
  exact flat_set SegD.cells_len ss k 2 h1 _ _ (by omega) (by rw [h2]; rfl)
theorem set_at {α : Type} {ss : List α} {k : Nat} {s y : α} (hs : ss[k]? = some s) : (ss.set k y)[k]? = some y := by
  obtain ⟨h1, h2⟩ := List.getElem?_eq_some_iff.1 hs
  rw [List.getElem?_set_self h1]
theorem SegsOk.set_ {ss : List SegD} {nid : Int} (h : SegsOk ss nid) {k : Nat} {s : SegD} (hs : ss[k]? = some s) {v t : Int} (hv : 0 ≤ v ∧ v ≤ 2) (ht : 0 ≤ t ∧ t ≤ 2) : SegsOk (ss.set k (s.at_ v t)) nid := by
  obtain ⟨h1, h2⟩ := List.getElem?_eq_some_iff.1 hs
  refine ⟨?_, fun x hx => ?_⟩
  · have e : (ss.set k (s.at_ v t)).map (·.id) = ss.map (·.id) := by
      rw [List.map_set]
      apply List.ext_getElem?
      intro i
      rw [List.getElem?_set]
      split
      · rename_i hi
        subst hi
        rw [List.length_map, if_pos h1, List.getElem?_map, hs]
        rfl
      · rfl
    have h3 : (ss.map (·.id)).Pairwise (· < ·) := List.pairwise_map.2 h.1
    rw [← e] at h3
    exact List.pairwise_map.1 h3
  · rcases List.mem_or_eq_of_mem_set hx with hx | rfl
    · exact h.2 x hx
    · have := h.2 s (List.mem_of_getElem? hs)
      unfold SegOk at this ⊢
      exact ⟨⟨this.1.1, hv.1, hv.2, ht.1, ht.2, this.1.2.2.2.2.2⟩, this.2⟩
end Go.Proofs.Ytphglalphejppaa
