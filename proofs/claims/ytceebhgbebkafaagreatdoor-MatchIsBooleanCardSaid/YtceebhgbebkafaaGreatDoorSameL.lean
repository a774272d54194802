/- Equality of lines and of fields: of equal ones. No condition. -/
import Derived.Test.YtceebhgbebkafaaGreatDoorEvents
namespace Go.Proofs.YtceebhgbebkafaaGreatDoor
open Go.RowKit
set_option linter.unusedVariables false
set_option linter.unusedSimpArgs false

def QuietV (v : Value) (w : World) (e : Ending) (w' : World) : Prop := e = .returned v ∧ ∃ n, w' = w.drewN n
theorem Rd.flat_cell {α : Type} {f : α → List Value} {z : Nat} (hf : ∀ x, (f x).length = z) {S : Nat → Prop} {w : World} {b off : Nat} {l : List α} (h : Rd S w (some ⟨b, off, none⟩) (l.flatMap f)) {i : Nat} {x : α} (hx : l[i]? = some x) (j : Nat) (hj : j < z) : w.cell? ⟨b, off + i * z + j, none⟩ = (f x)[j]? := by
  obtain ⟨hi, hxi⟩ := List.getElem?_eq_some_iff.1 hx
  rw [Nat.add_assoc]
  obtain ⟨b', off', e, _, _, hc⟩ := h (by rw [flat_len _ z hf]; exact Nat.mul_pos (by omega) (by omega))
  injection e with e
  injection e with e1 e2
  subst e1 e2
  have h1 := flat_at f z hf l i j hi hj
  rw [hxi] at h1
  have h2 : (f x)[j]? = some ((f x)[j]'(by rw [hf]; exact hj)) := List.getElem?_eq_getElem _
  rw [h2]
  exact hc _ _ (h1.trans h2)
set_option maxHeartbeats 1000000 in
theorem samelines_true {S S' : Nat → Prop} (A B : Option Addr) (ls : List LineD) (c d : Nat) (w : World) (ha : Rd S w A (ls.flatMap LineD.cells)) (hb : Rd S' w B (ls.flatMap LineD.cells)) (hl : ls.length ≤ 10000000) :
    Calls Tryz.prog 98 #[.slice A ls.length c, .slice B ls.length d] w (QuietV (.bool true) w) := by
  have HA := Lib.hid ha
  have HB := Lib.hid hb
  clear ha hb
  have t1 : ((ls.length : Int) != (ls.length : Int)) = false := by simp
  go_enter Tryz.func98, Tryz.ntmps98
  go_wp2
  go_loopw [5] (fun i wr => ∃ k : Nat, k ≤ ls.length ∧ i = .int .i64 k ∧ ∃ q, wr = w.drewN q) (fun i _ => ls.length - (intOf i).toNat)
  case atStart => exact ⟨0, Nat.zero_le _, rfl, 0, rfl⟩
  case round =>
    obtain ⟨k, hk, rfl, q, rfl⟩ := hrel
    by_cases hlt : k < ls.length
    · obtain ⟨x, hx⟩ : ∃ x, ls[k]? = some x := ⟨_, List.getElem?_eq_getElem hlt⟩
      obtain ⟨ba, oa, rfl, -, -, -⟩ := HA.out (by rw [flat_len _ 3 LineD.cells_len]; omega)
      obtain ⟨bb, ob, rfl, -, -, -⟩ := HB.out (by rw [flat_len _ 3 LineD.cells_len]; omega)
      have a0 : w.cell? ⟨ba, oa + k * 3, none⟩ = some (.int .i64 x.off) := HA.out.flat_cell LineD.cells_len hx 0 (by omega)
      have a1 : w.cell? ⟨ba, oa + k * 3 + 1, none⟩ = some (.int .i64 x.len) := HA.out.flat_cell LineD.cells_len hx 1 (by omega)
      have a2 : w.cell? ⟨ba, oa + k * 3 + 2, none⟩ = some (.string x.text) := HA.out.flat_cell LineD.cells_len hx 2 (by omega)
      have b0 : w.cell? ⟨bb, ob + k * 3, none⟩ = some (.int .i64 x.off) := HB.out.flat_cell LineD.cells_len hx 0 (by omega)
      have b1 : w.cell? ⟨bb, ob + k * 3 + 1, none⟩ = some (.int .i64 x.len) := HB.out.flat_cell LineD.cells_len hx 1 (by omega)
      have b2 : w.cell? ⟨bb, ob + k * 3 + 2, none⟩ = some (.string x.text) := HB.out.flat_cell LineD.cells_len hx 2 (by omega)
      have i1 : (k : Int) < (ls.length : Int) := by omega
      clear hx
      go_wp2
      go_quiet (fail)
      go_wp2
      go_roundw
      case rel => exact ⟨k + 1, by omega, by go_num, _, rfl⟩
      case measure => simp [intOf]; omega
    · have i1 : ¬ ((k : Int) < (ls.length : Int)) := by omega
      go_wp2
      go_ret
      exact ⟨rfl, _, rfl⟩
set_option maxHeartbeats 1000000 in
theorem samefields_true {S S' : Nat → Prop} (A B : Option Addr) (ls : List FieldD) (c d : Nat) (w : World) (ha : Rd S w A (ls.flatMap FieldD.cells)) (hb : Rd S' w B (ls.flatMap FieldD.cells)) (hl : ls.length ≤ 10000000) :
    Calls Tryz.prog 99 #[.slice A ls.length c, .slice B ls.length d] w (QuietV (.bool true) w) := by
  have HA := Lib.hid ha
  have HB := Lib.hid hb
  clear ha hb
  have t1 : ((ls.length : Int) != (ls.length : Int)) = false := by simp
  go_enter Tryz.func99, Tryz.ntmps99
  go_wp2
  go_loopw [5] (fun i wr => ∃ k : Nat, k ≤ ls.length ∧ i = .int .i64 k ∧ ∃ q, wr = w.drewN q) (fun i _ => ls.length - (intOf i).toNat)
  case atStart => exact ⟨0, Nat.zero_le _, rfl, 0, rfl⟩
  case round =>
    obtain ⟨k, hk, rfl, q, rfl⟩ := hrel
    by_cases hlt : k < ls.length
    · obtain ⟨x, hx⟩ : ∃ x, ls[k]? = some x := ⟨_, List.getElem?_eq_getElem hlt⟩
      obtain ⟨ba, oa, rfl, -, -, -⟩ := HA.out (by rw [flat_len _ 2 FieldD.cells_len]; omega)
      obtain ⟨bb, ob, rfl, -, -, -⟩ := HB.out (by rw [flat_len _ 2 FieldD.cells_len]; omega)
      have a0 : w.cell? ⟨ba, oa + k * 2, none⟩ = some (.string x.name) := HA.out.flat_cell FieldD.cells_len hx 0 (by omega)
      have a1 : w.cell? ⟨ba, oa + k * 2 + 1, none⟩ = some (.string x.value) := HA.out.flat_cell FieldD.cells_len hx 1 (by omega)
      have b0 : w.cell? ⟨bb, ob + k * 2, none⟩ = some (.string x.name) := HB.out.flat_cell FieldD.cells_len hx 0 (by omega)
      have b1 : w.cell? ⟨bb, ob + k * 2 + 1, none⟩ = some (.string x.value) := HB.out.flat_cell FieldD.cells_len hx 1 (by omega)
      have i1 : (k : Int) < (ls.length : Int) := by omega
      clear hx
      go_wp2
      go_quiet (fail)
      go_wp2
      go_roundw
      case rel => exact ⟨k + 1, by omega, by go_num, _, rfl⟩
      case measure => simp [intOf]; omega
    · have i1 : ¬ ((k : Int) < (ls.length : Int)) := by omega
      go_wp2
      go_ret
      exact ⟨rfl, _, rfl⟩
end Go.Proofs.YtceebhgbebkafaaGreatDoor
