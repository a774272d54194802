/- law23: small. Condition: no string is longer than memory. -/
import Derived.Test.YtgaomilmljepoaaStr
namespace Go.Proofs.Ytgaomilmljepoaa
open Go.RowKit
set_option linter.unusedVariables false
set_option linter.unusedSimpArgs false

def sumB : List ByteArray → Nat
  | [] => 0
  | s :: l => 15 + s.size + sumB l
theorem sumB_app : ∀ a b : List ByteArray, sumB (a ++ b) = sumB a + sumB b
  | [], b => by simp [sumB]
  | s :: a, b => by simp [sumB, sumB_app a b]; omega
theorem sumB_snoc {ws : List ByteArray} {k : Nat} {x : ByteArray} (hx : ws[k]? = some x) : sumB (ws.take (k + 1)) = sumB (ws.take k) + (15 + x.size) := by
  obtain ⟨hk, e⟩ := List.getElem?_eq_some_iff.1 hx
  rw [List.take_succ_eq_append_getElem hk, sumB_app, e]; simp [sumB]
theorem sumB_take (ws : List ByteArray) (k : Nat) : sumB (ws.take k) ≤ sumB ws := by
  have := sumB_app (ws.take k) (ws.drop k)
  rw [List.take_append_drop] at this; omega
theorem sumB_len : ∀ ws : List ByteArray, 15 * ws.length ≤ sumB ws
  | [] => by simp
  | s :: l => by have := sumB_len l; simp [sumB]; omega
theorem sumB_mem : ∀ (ws : List ByteArray) (s : ByteArray), s ∈ ws → s.size ≤ sumB ws
  | [], _, h => by simp at h
  | t :: l, s, h => by
    rcases List.mem_cons.1 h with e | e
    · subst e; simp [sumB]; omega
    · have := sumB_mem l s e; simp [sumB]; omega
theorem ret_bool {a b : Bool} (h : a = b) : Ending.returned (.bool a) = .returned (.bool b) := by rw [h]
def smallB (ws : List ByteArray) : Bool := decide (sumB ws ≤ 3000)

set_option maxHeartbeats 1000000 in
set_option maxRecDepth 100000 in
theorem small_any {S : Nat → Prop} (A : Option Addr) (ws : List ByteArray) (c : Nat) (w : World) (h : Rd S w A (ws.map .string)) (hl : ws.length ≤ c) (hcm : c ≤ maxLen) (hs : ∀ s ∈ ws, s.size ≤ 140737488351232) :
    Calls Try.prog 23 #[.slice A ws.length c] w (Quiet (.bool (smallB ws)) w) := by
  unfold maxLen at hcm
  have H := Lib.hid h
  have HS := Lib.hid hs
  clear h hs
  go_enter Try.func23, Try.ntmps23
  go_wp2_with fail
  go_loopw [3, 4] (fun n i wr => ∃ (k m : Nat), k ≤ ws.length ∧ i = .int .i64 k ∧ n = .int .i64 m ∧ m = sumB (ws.take k) ∧ m ≤ 140737488400000 ∧ ∃ q, wr = w.drewN q) (fun _ i _ => ws.length - (intOf i).toNat)
  case atStart => exact ⟨0, 0, Nat.zero_le _, rfl, rfl, by simp [sumB], by omega, 0, rfl⟩
  case round =>
    obtain ⟨k, m, hk, rfl, rfl, hm, hmb, q, rfl⟩ := hrel
    have HM := Lib.hid hm
    clear hm
    by_cases hlt : k < ws.length
    · have dk : decide ((k : Int) < (ws.length : Int)) = true := by simp; omega
      by_cases hn : m ≤ 3000
      · obtain ⟨b, off, x, rfl, hc, hx⟩ := H.out.str_at hlt
        have hxs := HS.out x (List.mem_of_getElem? hx.out)
        have HN := Lib.hid (sumB_snoc hx.out)
        have hni : (m : Int) ≤ 3000 := by omega
        go_wp2_with fail
        go_roundw
        case rel => exact ⟨k + 1, m + (15 + x.size), by omega, by go_num, by go_num, by rw [HN.out, ← HM.out], by omega, _, rfl⟩
        case measure => simp [intOf]; omega
      · have hni : decide ((m : Int) ≤ 3000) = false := by simp; omega
        have hnn : decide (m ≤ 3000) = false := by simp; omega
        have HR : Hid (smallB ws = false) := by
          show smallB ws = false
          have := sumB_take ws k
          have := HM.out
          simp [smallB]; omega
        go_wp2_with fail
        go_ret
        exact ⟨by rw [HR.out]; rfl, _, rfl⟩
    · have dk : decide ((k : Int) < (ws.length : Int)) = false := by simp; omega
      have HR : Hid (smallB ws = decide (m ≤ 3000)) := by
        show smallB ws = decide (m ≤ 3000)
        have e := HM.out
        rw [List.take_of_length_le (by omega)] at e
        rw [e]; rfl
      go_wp2_with fail
      go_ret
      exact ⟨ret_bool (by rw [HR.out, decide_eq_decide]; omega), _, rfl⟩
end Go.Proofs.Ytgaomilmljepoaa
