/- The reader of columns: Kind, the table of decoders, Unzig of the reference. Condition: sizes. -/
import Derived.Test.YtebakogdbeeljaaRdE
import Derived.Test.YtebakogdbeeljaaColG
namespace Go.Proofs.Ytebakogdbeeljaa
open Go.RowKit
set_option linter.unusedVariables false
set_option linter.unusedSimpArgs false

def decTab : Value := .agg #[.func (.func 49) #[] #[], .func (.func 50) #[] #[], .func (.func 51) #[] #[], .func (.func 52) #[] #[]]
theorem decoders_any (w : World) : Calls Try.prog 37 #[] w (RetExt decTab w) := by
  go_enter Try.func37, Try.ntmps37
  go_wp2
  refine bodyPost_ret (v := decTab) ?_ rfl ?_
  · simp [results, Try.results37, go_sem, decTab]
  · exact ⟨rfl, only_alloc (only_refl _ _) _⟩
set_option maxHeartbeats 1000000 in
set_option maxRecDepth 100000 in
theorem runzig_any (n : Nat) (w : World) (h : n < 18446744073709551616) : Calls Try.prog 59 #[.int .u64 n] w (Quiet (.int .i64 (uz n)) w) := by
  have HX := Lib.hid h
  clear h
  go_enter Try.func59, Try.ntmps59
  go_wp2_with fail
  go_ret
  exact ⟨ret_int (uz_bits HX.out), 0, rfl⟩
/-- the kind that bytes say: none if there is none -/
def kindOf : List Int → Int × Bool
  | [] => (0, false)
  | x :: _ => if x < 4 then (x, true) else (0, false)
set_option maxHeartbeats 1000000 in
set_option maxRecDepth 100000 in
theorem kind_any {S : Nat → Prop} (A : Option Addr) (bs : List Int) (c : Nat) (w : World) (h : Rd S w A (bs.map (.int .u8))) (hl : bs.length ≤ 1000000) (hx : ∀ x ∈ bs, 0 ≤ x ∧ x ≤ 255) :
    Calls Try.prog 23 #[.slice A bs.length c] w (Quiet (.tuple #[.int .i64 (kindOf bs).1, .bool (kindOf bs).2]) w) := by
  cases bs with
  | nil =>
    clear h hx
    go_enter Try.func23, Try.ntmps23
    go_wp2_with fail
    go_ret2
    exact ⟨rfl, 0, rfl⟩
  | cons x l =>
    obtain ⟨hx0, hx1⟩ := hx x (List.mem_cons_self ..)
    obtain ⟨b, off, rfl, -, -, hcell⟩ := h (by simp)
    have hcx : w.cell? ⟨b, off, none⟩ = some (.int .u8 x) := hcell 0 _ rfl
    have t0 : (((x :: l).length : Int) == 0) = false := by simp; omega
    have t2 : ((l.length : Int) + 1 == 0) = false := by rw [beq_eq_false_iff_ne]; omega
    have t1 : (0 : Int) < ((x :: l).length : Int) := by simp
    clear h hx hcell
    by_cases h4 : x < 4
    · have d1 : decide ((4 : Int) ≤ x) = false := decide_eq_false (by omega)
      have HK : Hid (kindOf (x :: l) = (x, true)) := by show kindOf (x :: l) = _; rw [kindOf, if_pos h4]
      go_enter Try.func23, Try.ntmps23
      go_wp2_with fail
      go_ret2
      exact ⟨by rw [HK.out]; rfl, 0, rfl⟩
    · have d1 : decide ((4 : Int) ≤ x) = true := decide_eq_true (by omega)
      have HK : Hid (kindOf (x :: l) = (0, false)) := by show kindOf (x :: l) = _; rw [kindOf, if_neg h4]
      go_enter Try.func23, Try.ntmps23
      go_wp2_with fail
      go_ret2
      exact ⟨by rw [HK.out]; rfl, 0, rfl⟩
set_option maxHeartbeats 1000000 in
set_option maxRecDepth 100000 in
theorem rkind_any {S : Nat → Prop} (A : Option Addr) (bs : List Int) (c : Nat) (w : World) (h : Rd S w A (bs.map (.int .u8))) (hl : bs.length ≤ 1000000) (hx : ∀ x ∈ bs, 0 ≤ x ∧ x ≤ 255) :
    Calls Try.prog 24 #[.slice A bs.length c] w (Quiet (.tuple #[.int .i64 (kindOf bs).1, .bool (kindOf bs).2]) w) := by
  cases bs with
  | nil =>
    clear h hx
    go_enter Try.func24, Try.ntmps24
    go_wp2_with fail
    go_ret2
    exact ⟨rfl, 0, rfl⟩
  | cons x l =>
    obtain ⟨hx0, hx1⟩ := hx x (List.mem_cons_self ..)
    obtain ⟨b, off, rfl, -, -, hcell⟩ := h (by simp)
    have hcx : w.cell? ⟨b, off, none⟩ = some (.int .u8 x) := hcell 0 _ rfl
    have t0 : (((x :: l).length : Int) == 0) = false := by simp; omega
    have t2 : ((l.length : Int) + 1 == 0) = false := by rw [beq_eq_false_iff_ne]; omega
    have t1 : (0 : Int) < ((x :: l).length : Int) := by simp
    clear h hx hcell
    by_cases h4 : x < 4
    · have d1 : decide ((3 : Int) < x) = false := decide_eq_false (by omega)
      have HK : Hid (kindOf (x :: l) = (x, true)) := by show kindOf (x :: l) = _; rw [kindOf, if_pos h4]
      go_enter Try.func24, Try.ntmps24
      go_wp2_with fail
      go_ret2
      exact ⟨by rw [HK.out]; rfl, 0, rfl⟩
    · have d1 : decide ((3 : Int) < x) = true := decide_eq_true (by omega)
      have HK : Hid (kindOf (x :: l) = (0, false)) := by show kindOf (x :: l) = _; rw [kindOf, if_neg h4]
      go_enter Try.func24, Try.ntmps24
      go_wp2_with fail
      go_ret2
      exact ⟨by rw [HK.out]; rfl, 0, rfl⟩
end Go.Proofs.Ytebakogdbeeljaa
