/- (*queue).Pop, (queue).Len. No condition. -/
import Derived.Test.YtphglalphejppaaQPush
namespace Go.Proofs.Ytphglalphejppaa
open Go.RowKit
set_option linter.unusedVariables false
set_option linter.unusedSimpArgs false

theorem own_pop {w : World} {base e z n g c : Nat} {xs : List Value} (h : w.ownsRow base e z (.slice (some ⟨g, 0, none⟩) (n + 1) c) (n + 1) xs) : w.ownsRow base e z (.slice (some ⟨g, 0, none⟩) n c) n (xs.take (n * z)) := by
  obtain ⟨hl, h2⟩ := h
  have hle : n * z ≤ (n + 1) * z := Nat.mul_le_mul_right _ (by omega)
  refine ⟨by rw [List.length_take, hl]; omega, ?_⟩
  rcases h2 with ⟨h3, _⟩ | ⟨g', cap, cur, h3, h4, h5, h6, h7, h8, h9⟩
  · cases h3
  · injection h3 with e1 e2 e3
    injection e1 with e1
    injection e1 with e1
    subst e1 e3
    refine .inr ⟨g, c, cur, rfl, h4, h5, by omega, h7, h8, ?_⟩
    rw [← h9, List.take_take, Nat.min_eq_left hle]
theorem Fr2.refl (w : World) (gq : Nat) (r : Option Nat) : Fr2 w w gq r := ⟨rfl, rfl, rfl, Nat.le_refl _, fun _ _ _ _ => rfl⟩
theorem Fr2.of {w w' : World} {gq : Nat} {r : Option Nat} (h : w.grownBy w' r) : Fr2 w w' gq r := ⟨h.os, h.tape, h.output, h.size, fun b hb _ h2 => h.block b hb h2⟩
theorem Fr2.of_q {w w' : World} {gq : Nat} {r : Option Nat} (h : w.grownBy w' (some gq)) : Fr2 w w' gq r := ⟨h.os, h.tape, h.output, h.size, fun b hb h1 _ => h.block b hb (fun e => h1 (by injection e))⟩
theorem Fr2.trans {a b c : World} {gq : Nat} {r s : Option Nat} (h : Fr2 a b gq r) (k : Fr2 b c gq s) (hs : s = r ∨ s = none ∨ ∃ x, s = some x ∧ a.heap.size ≤ x) : Fr2 a c gq r :=
  ⟨k.1.trans h.1, k.2.1.trans h.2.1, k.2.2.1.trans h.2.2.1, Nat.le_trans h.2.2.2.1 k.2.2.2.1, fun x hx h1 h2 => (k.2.2.2.2 x (Nat.lt_of_lt_of_le hx h.2.2.2.1) h1 (by
    rcases hs with rfl | rfl | ⟨y, rfl, hy⟩
    · exact h2
    · simp
    · intro e; injection e; omega)).trans (h.2.2.2.2 x hx h1 h2)⟩
theorem len_any (v : Value) (n : Nat) (A : Option Addr) (c : Nat) (w : World) (hv : v = .slice A n c) : Calls Try.prog 34 #[v] w (fun e w' => e = .returned (.int .i64 n) ∧ w = w') := by
  subst hv
  go_enter Try.func34, Try.ntmps34
  go_wp2
  go_ret
  exact ⟨rfl, rfl⟩
def PopPost (base : Nat) (w : World) (gq : Nat) (ss : List Src) (s : Src) (v' : Value) (e : Ending) (w' : World) : Prop :=
  e = .returned (.iface 76 (.agg #[.slice s.A s.rest.length s.c, .int .i64 s.idx])) ∧ QSt base w' gq v' ss ∧ w.grownBy w' (some gq)
set_option maxHeartbeats 2000000 in
set_option maxRecDepth 100000 in
theorem qpop_any (base gq gr cq : Nat) (ss : List Src) (s : Src) (w : World) (h : QSt base w gq (.slice (some ⟨gr, 0, none⟩) (ss.length + 1) cq) (ss ++ [s])) (hl : ss.length ≤ 100000) (hcq : cq ≤ maxLen) (hlc : ss.length + 1 ≤ cq) :
    Calls Try.prog 109 #[.pointer (some ⟨gq, 0, none⟩)] w (PopPost base w gq ss s (.slice (some ⟨gr, 0, none⟩) ss.length cq)) := by
  have q0 := h.1.cell 0
  have qf := h.1.frozen 0
  have hgq := h.1.lt
  simp at q0
  have hS : SRow base w gr (ss.length + 1) cq (ss ++ [s]) := ⟨by simp, by have := h.2; simpa using this⟩
  obtain ⟨a0, a1, -, -⟩ := hS.cells (i := ss.length) (s := s) (by simp)
  have hgrw : gr < w.heap.size := by
    have := hS.2
    obtain ⟨-, h2⟩ := this
    rcases h2 with ⟨h3, _⟩ | ⟨g', cap, cur, h3, h4, h5, _⟩
    · cases h3
    · injection h3 with e1 _ _; injection e1 with e1; injection e1 with e1; subst e1; exact (Array.getElem?_eq_some_iff.1 h5).1
  have HS := Lib.hid hS
  have HB := Lib.hid h.1
  unfold maxLen at hcq
  have hne : gr ≠ w.heap.size := by omega
  have hneq : gq ≠ w.heap.size := by omega
  clear h hS
  go_enter Try.func109, Try.ntmps109
  go_wp2_with fail
  go_ret
  have hown : w.ownsRow base 76 2 (.slice (some ⟨gr, 0, none⟩) ss.length cq) ss.length (ss.flatMap Src.cells) := by
    have h1 := own_pop HS.out.2
    rw [List.flatMap_append, List.take_left' (by rw [flat_len _ 2 Src.cells_len])] at h1
    exact h1
  have hg : w.grownBy (w.setCell ⟨gq, 0, none⟩ (.slice (some ⟨gr, 0, none⟩) ss.length cq)) (some gq) := only_setCell (only_refl _ _) (p := ⟨gq, 0, none⟩) (.inl rfl) _
  exact ⟨rfl, ⟨Blk.alloc (by simpa using HB.out.set_ 0 (.slice (some ⟨gr, 0, none⟩) ss.length cq)) _, (own_apart hown hg (blk_not_row HB.out hown (by decide))).alloc _⟩, only_alloc hg _⟩
end Go.Proofs.Ytphglalphejppaa
