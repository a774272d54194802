/- SameTallies of the reference of chapter 28. No condition. -/
import Derived.Test.YtiogpomgpknjlaaTalA
namespace Go.Proofs.Ytiogpomgpknjlaa
open Go.RowKit
set_option linter.unusedVariables false
set_option linter.unusedSimpArgs false

set_option maxHeartbeats 2000000 in
theorem sametal_any {S S' : Nat → Prop} (A B : Option Addr) (a b : List Tal) (c d : Nat) (w : World) (ha : Rd S w A (a.flatMap Tal.cells)) (hb : Rd S' w B (b.flatMap Tal.cells)) (hl : a.length ≤ 1000000) (hab : a = b) :
    Calls Try.prog 10 #[.slice A a.length c, .slice B b.length d] w (Quiet (.bool true) w) := by
  subst hab
  have HA := Lib.hid ha
  have HB := Lib.hid hb
  clear ha hb
  go_enter Try.func10, Try.ntmps10
  go_wp2
  go_loopw [5] (fun i wr => ∃ k : Nat, k ≤ a.length ∧ i = .int .i64 k ∧ ∃ q, wr = w.drewN q) (fun i _ => a.length - (intOf i).toNat)
  case atStart => exact ⟨0, Nat.zero_le _, rfl, 0, rfl⟩
  case round =>
    obtain ⟨k, hk, rfl, q, rfl⟩ := hrel
    by_cases hlt : k < a.length
    · obtain ⟨t, ht⟩ : ∃ t, a[k]? = some t := ⟨_, List.getElem?_eq_getElem hlt⟩
      obtain ⟨b1, o1, rfl, x0, x1, x2⟩ := HA.out.tal ht
      obtain ⟨b2, o2, rfl, y0, y1, y2⟩ := HB.out.tal ht
      have i1 : (k : Int) < (a.length : Int) := by omega
      have i0 : (0 : Int) ≤ (k : Int) := by omega
      clear ht
      go_wp2
      go_quiet (fail)
      go_wp2
      go_roundw
      case rel => exact ⟨k + 1, by omega, by go_num, _, rfl⟩
      case measure => simp [intOf]; omega
    · go_wp2
      go_ret
      exact ⟨rfl, _, rfl⟩
end Go.Proofs.Ytiogpomgpknjlaa
