/- The reader of columns: next. Condition: sizes. -/
import Derived.Test.YtebakogdbeeljaaColE
import Derived.Deep.DeepMust
namespace Go.Proofs.Ytebakogdbeeljaa
open Go.RowKit
set_option linter.unusedVariables false
set_option linter.unusedSimpArgs false

/-- the reader in block g has the bytes bs before it -/
def RdrAt (w : World) (g : Nat) (bs : List Int) (bad : Bool) : Prop :=
  ∃ A c, Blk w g 60 #[.slice A bs.length c, .bool bad] ∧ Rd (· < g) w A (bs.map (.int .u8)) ∧ bs.length ≤ c ∧ c ≤ maxLen ∧ bs.length ≤ 1000000 ∧ ∀ x ∈ bs, 0 ≤ x ∧ x ≤ 255
theorem RdrAt.drewN {w : World} {g : Nat} {bs : List Int} {bad : Bool} (h : RdrAt w g bs bad) (n : Nat) : RdrAt (w.drewN n) g bs bad := h
theorem RdrAt.lt {w : World} {g : Nat} {bs : List Int} {bad : Bool} (h : RdrAt w g bs bad) : g < w.heap.size := by
  obtain ⟨A, c, hb, _⟩ := h; exact hb.lt
theorem RdrAt.setBad {w : World} {g : Nat} {bs : List Int} {bad : Bool} (h : RdrAt w g bs bad) (b : Bool) : RdrAt (w.setCell ⟨g, 1, none⟩ (.bool b)) g bs b := by
  obtain ⟨A, c, hb, hr, h1, h2, h3, h4⟩ := h
  exact ⟨A, c, by simpa using hb.set_ 1 (.bool b), hr.keep (fun k hk _ => Below.heap_setCell _ _ _ _ (by simp; omega)) (by simp [World.setCell]), h1, h2, h3, h4⟩
theorem RdrAt.setB {w : World} {g : Nat} {u : Value} {bad : Bool} {A : Option Addr} {c : Nat} {bs : List Int} (hb : Blk w g 60 #[u, .bool bad]) (hr : Rd (· < g) w A (bs.map (.int .u8))) (h1 : bs.length ≤ c) (h2 : c ≤ maxLen) (h3 : bs.length ≤ 1000000) (h4 : ∀ x ∈ bs, 0 ≤ x ∧ x ≤ 255) : RdrAt (w.setCell ⟨g, 0, none⟩ (.slice A bs.length c)) g bs bad :=
  ⟨A, c, by simpa using hb.set_ 0 (.slice A bs.length c), hr.keep (fun k hk _ => Below.heap_setCell _ _ _ _ (by simp; omega)) (by simp [World.setCell]), h1, h2, h3, h4⟩
theorem RdrAt.grown {w w' : World} {g : Nat} {bs : List Int} {bad : Bool} {row : Option Nat} (h : RdrAt w g bs bad) (hg : w.grownBy w' row) (hr : ∀ b, b ≤ g → some b ≠ row) : RdrAt w' g bs bad := by
  obtain ⟨A, c, hb, hrd, h1, h2, h3, h4⟩ := h
  exact ⟨A, c, hb.grown hg (hr g (Nat.le_refl _)), hrd.grown hg (fun b hb => hr b (by omega)), h1, h2, h3, h4⟩
theorem only_cell {w : World} {g o : Nat} (u : Value) : w.grownBy (w.setCell ⟨g, o, none⟩ u) (some g) := only_setCell (only_refl _ _) (.inl rfl) u
def NxPost (w : World) (g : Nat) (bs : List Int) (bad : Bool) (e : Ending) (w' : World) : Prop :=
  e = .returned (.int .u8 (bs.headD 0)) ∧ RdrAt w' g bs.tail (bad || bs.isEmpty) ∧ w.grownBy w' (some g)

set_option maxHeartbeats 1000000 in
set_option maxRecDepth 100000 in
theorem nx_any (g : Nat) (bs : List Int) (bad : Bool) (w : World) (h : RdrAt w g bs bad) :
    Calls Try.prog 58 #[.pointer (some ⟨g, 0, none⟩)] w (NxPost w g bs bad) := by
  have H := Lib.hid h
  obtain ⟨A, c, hb, hr, hc, hm, hl, hx⟩ := h
  have c0 := hb.cell 0
  have c1 := hb.cell 1
  have f0 := hb.frozen 0
  have f1 := hb.frozen 1
  simp at c0 c1
  cases bs with
  | nil =>
    clear hb hr hx
    go_enter Try.func58, Try.ntmps58
    go_wp2_with fail
    go_ret
    exact ⟨rfl, by simpa using H.out.setBad true, only_cell _⟩
  | cons x l =>
    obtain ⟨b, off, rfl, hne, hlt, hcell⟩ := hr (by simp)
    have hcx : w.cell? ⟨b, off, none⟩ = some (.int .u8 x) := hcell 0 _ rfl
    have HX := Lib.hid hx
    have HR := Lib.hid hr
    have HB := Lib.hid hb
    have t0 : (((x :: l).length : Int) == 0) = false := by simp; omega
    have t1 : (1 : Int) ≤ ((x :: l).length : Int) := by simp; omega
    have t2 : ((l.length : Int) + 1 == 0) = false := by rw [beq_eq_false_iff_ne]; omega
    have hne' : b ≠ g := by have : b < g := hne; omega
    unfold maxLen at hm
    simp at hc hl
    clear hb hr hx hcell
    by_cases hc1 : c = 1
    · subst hc1
      obtain rfl : l = [] := List.eq_nil_of_length_eq_zero (by omega)
      go_enter Try.func58, Try.ntmps58
      go_wp2_with fail
      go_ret
      exact ⟨rfl, by simpa using RdrAt.setB (A := some ⟨b, off, none⟩) (c := 0) (bs := []) HB.out Rd.nil (by simp) (by unfold maxLen; omega) (by simp) (by simp), only_cell _⟩
    · have hcc : c - 1 ≤ maxLen := by unfold maxLen; omega
      go_enter Try.func58, Try.ntmps58
      go_wp2_with fail
      go_ret
      have hd := HR.out.drop 1
      exact ⟨rfl, by simpa using RdrAt.setB (A := some ⟨b, off + 1, none⟩) (c := c - 1) (bs := l) HB.out (by simpa [Addr.add] using hd) (by omega) hcc (by omega) (fun y hy => HX.out y (List.mem_cons_of_mem _ hy)), only_cell _⟩
end Go.Proofs.Ytebakogdbeeljaa
