/- cmp.Compare of strings. No condition. -/
import Derived.Test.YtiogpomgpknjlaaCmpI
namespace Go.Proofs.Ytiogpomgpknjlaa
open Go.RowKit
set_option linter.unusedVariables false
set_option linter.unusedSimpArgs false

def cmpS (a b : ByteArray) : Int := if sl a b = true then -1 else if sl b a = true then 1 else 0
set_option maxHeartbeats 1000000 in
theorem cmpS_any (a b : ByteArray) (w : World) : Calls Try.prog 34 #[.string a, .string b] w (fun e w' => e = .returned (.int .i64 (cmpS a b)) ∧ w' = w) := by
  cases h1 : sl a b with
  | true =>
    have hv : cmpS a b = -1 := by simp [cmpS, h1]
    rw [hv]
    have d1 : Op.bytesLess a.toList b.toList = true := h1
    clear hv h1
    go_enter Try.func34, Try.ntmps34
    go_wp2
    go_ret
    exact ⟨rfl, rfl⟩
  | false =>
    have d1 : Op.bytesLess a.toList b.toList = false := h1
    cases h2 : sl b a with
    | true =>
      have hv : cmpS a b = 1 := by simp [cmpS, h1, h2]
      rw [hv]
      have d2 : Op.bytesLess b.toList a.toList = true := h2
      have d3 : (a.toList == b.toList) = false := by rw [beq_eq_false_iff_ne]; intro e; rw [toList_inj e, sl_irrefl] at h2; cases h2
      clear hv h1 h2
      go_enter Try.func34, Try.ntmps34
      go_wp2
      go_ret
      exact ⟨rfl, rfl⟩
    | false =>
      have hv : cmpS a b = 0 := by simp [cmpS, h1, h2]
      rw [hv]
      have d2 : Op.bytesLess b.toList a.toList = false := h2
      have d3 : (a.toList == b.toList) = true := by rw [sl_tri h1 h2]; simp
      clear hv h1 h2
      go_enter Try.func34, Try.ntmps34
      go_wp2
      go_ret
      exact ⟨rfl, rfl⟩
end Go.Proofs.Ytiogpomgpknjlaa
