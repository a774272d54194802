/- slices.Clone at []uint8 (printed by mkclone.py). Condition: sizes. -/
import Derived.Test.YtpaiideboodaeaaGreatDoorJByInfo
import Derived.Lib.SliceRun
namespace Go.Proofs.YtpaiideboodaeaaGreatDoor
open Go.RowKit
set_option linter.unusedVariables false
set_option linter.unusedSimpArgs false

def CloneByPost (w : World) (n : Nat) (xs : List Value) (e : Ending) (w' : World) : Prop := ∃ A' c', e = .returned (.slice A' n c') ∧ w'.ownsRow w.heap.size 5 1 (.slice A' n c') n xs ∧ w.grownBy w' none
set_option maxHeartbeats 1000000 in
set_option maxRecDepth 100000 in
theorem cloneBy_any {S : Nat → Prop} (A : Option Addr) (n c : Nat) (xs : List Value) (w : World) (hr : Rd S w A xs) (hn : xs.length = n * 1) (hl : n ≤ 10000000) (h1 : ∀ u ∈ xs, u.oneCell' = true) (hA : A = none → n = 0) :
    Calls Tryz.prog 34 #[.slice A n c] w (CloneByPost w n xs) := by
  have q22 : ∀ (w : World) (a : Option Addr) (n c n' c' : Nat), (binOp .eql 22 (.slice a n c) (.slice none n' c')).run Tryz.prog w = .ok (.bool a.isNone) w := fun w a n c n' c' => Lib.run_eql_slice_nil w _ _ a n c n' c' Tryz.underlying22
  have H1 := Lib.hid h1
  have HR := Lib.hid hr
  clear h1 hr
  cases A with
  | none =>
    obtain rfl := hA rfl
    obtain rfl : xs = [] := List.eq_nil_of_length_eq_zero (by omega)
    clear hA
    go_enter Tryz.func34, Tryz.ntmps34
    go_wp2_with fail
    go_ret
    exact ⟨none, 0, rfl, World.ownsRow_nil _ _ _ _, only_refl _ _⟩
  | some a =>
    clear hA
    go_enter Tryz.func34, Tryz.ntmps34
    go_wp2_with (at_builtin; refine wpList_appendN rfl _ _ 22 rfl w.heap.size Tryz.underlying22 byteInfo8 rfl (by decide) (v := .slice (some ⟨w.heap.size, 0, none⟩) 0 0) (by rfl) (World.ownsRow_made w #[] 0 (Nat.le_refl _) (Nat.zero_le _) (by simp)) (some a) n c (news := xs) (by rfl) (HR.out.alloc _) hn H1.out (by decide) (by omega) (by simp) ?_; intro v3 w3 hown3 hg3 hob3)
    have O3 : Hid (w3.ownsRow w.heap.size 5 1 v3 n xs) := Lib.hid (by simpa using hown3)
    have G3 : Hid (w.grownBy w3 none) := Lib.hid (only_fresh (only_alloc (only_refl _ _) _) (by simpa [Value.ownBlock] using hg3) (Nat.le_refl _))
    clear hown3 hg3 hob3
    obtain ⟨A3, c3, rfl, -, -, -, -⟩ := Rd.of_own O3.out (by decide)
    go_wp2_with fail
    go_ret
    exact ⟨A3, c3, rfl, O3.out, G3.out⟩
end Go.Proofs.YtpaiideboodaeaaGreatDoor
