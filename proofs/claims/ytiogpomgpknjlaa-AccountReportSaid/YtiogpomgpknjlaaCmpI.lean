/- cmp.Compare and cmp.Or of ints. No condition. -/
import Derived.Test.YtiogpomgpknjlaaStr
namespace Go.Proofs.Ytiogpomgpknjlaa
open Go.RowKit
set_option linter.unusedVariables false
set_option linter.unusedSimpArgs false

def cmpI (a b : Int) : Int := if a < b then -1 else if b < a then 1 else 0
def ExtV (v : Value) (w : World) (e : Ending) (w' : World) : Prop := e = .returned v ∧ w.grownBy w' none
def StillV (v : Value) (w : World) (e : Ending) (w' : World) : Prop := e = .returned v ∧ w' = w
set_option maxHeartbeats 1000000 in
theorem cmpI_any (a b : Int) (w : World) : Calls Try.prog 33 #[.int .i64 a, .int .i64 b] w (fun e w' => e = .returned (.int .i64 (cmpI a b)) ∧ w' = w) := by
  by_cases h1 : a < b
  · have hv : cmpI a b = -1 := by simp [cmpI, h1]
    rw [hv]
    have d1 : decide (a < b) = true := by simp; omega
    clear hv h1
    go_enter Try.func33, Try.ntmps33
    go_wp2
    go_ret
    exact ⟨rfl, rfl⟩
  · have d1 : decide (a < b) = false := by simp; omega
    by_cases h2 : b < a
    · have hv : cmpI a b = 1 := by simp [cmpI, h1, h2]
      rw [hv]
      have d2 : decide (b < a) = true := by simp; omega
      clear hv h1 h2
      go_enter Try.func33, Try.ntmps33
      go_wp2
      go_ret
      exact ⟨rfl, rfl⟩
    · have hv : cmpI a b = 0 := by simp [cmpI, h1, h2]
      rw [hv]
      have d2 : decide (b < a) = false := by simp; omega
      clear hv h1 h2
      go_enter Try.func33, Try.ntmps33
      go_wp2
      go_ret
      exact ⟨rfl, rfl⟩
set_option maxHeartbeats 1000000 in
theorem or_any (g : Nat) (c1 c2 d : Int) (w : World) (hB : Blk w g 3 #[.int .i64 c1, .int .i64 c2]) (hd : (c1 = 0 ∧ d = c2) ∨ (c1 ≠ 0 ∧ d = c1)) :
    Calls Try.prog 32 #[.slice (some ⟨g, 0, none⟩) 2 2] w (fun e w' => e = .returned (.int .i64 d) ∧ w' = w) := by
  have b0 := hB.cell 0
  have b1 := hB.cell 1
  simp at b0 b1
  clear hB
  have HD := Lib.hid hd
  clear hd
  go_enter Try.func32, Try.ntmps32
  go_wp2
  go_loop [8] (fun i => ∃ k : Nat, k ≤ 2 ∧ i = .int .i64 k ∧ (1 ≤ k → c1 = 0) ∧ (k = 2 → c2 = 0)) (fun i => 2 - (intOf i).toNat)
  case atStart => exact ⟨0, by omega, rfl, (fun h => by omega), (fun h => by omega)⟩
  case round =>
    obtain ⟨k, hk, rfl, h1, h2⟩ := hrel
    have H1 := Lib.hid h1
    have H2 := Lib.hid h2
    clear h1 h2
    rcases k with _ | _ | _ | k
    · by_cases hz : c1 = 0
      · have d1 : (c1 != 0) = false := by simp [hz]
        have HZ := Lib.hid hz
        clear hz
        go_wp2
        go_round
        case rel => exact ⟨1, by omega, rfl, fun _ => HZ.out, fun h => by omega⟩
        case measure => simp [intOf]
      · have d1 : (c1 != 0) = true := by simp [hz]
        have HZ := Lib.hid hz
        clear hz
        go_wp2
        go_ret
        exact ⟨by rcases HD.out with h | h; exact absurd h.1 HZ.out; rw [h.2]; rfl, rfl⟩
    · by_cases hz : c2 = 0
      · have d1 : (c2 != 0) = false := by simp [hz]
        have HZ := Lib.hid hz
        clear hz
        go_wp2
        go_round
        case rel => exact ⟨2, by omega, rfl, fun _ => H1.out (by omega), fun _ => HZ.out⟩
        case measure => simp [intOf]
      · have d1 : (c2 != 0) = true := by simp [hz]
        have HZ := Lib.hid hz
        clear hz
        go_wp2
        go_ret
        exact ⟨by rcases HD.out with h | h; rw [h.2]; rfl; exact absurd (H1.out (by omega)) h.1, rfl⟩
    · have HC2 : Hid (c2 = 0) := H2.out rfl
      clear H2
      go_wp2
      go_ret
      exact ⟨by rcases HD.out with h | h; rw [h.2, HC2.out]; rfl; exact absurd (H1.out (by omega)) h.1, rfl⟩
    · omega
end Go.Proofs.Ytiogpomgpknjlaa
