/- Words for the equality of slices. No condition. -/
import Derived.Test.YtfkgcighooijhaaDoorStr
namespace Go.Proofs.YtfkgcighooijhaaDoor
open Go.RowKit
set_option linter.unusedVariables false
set_option linter.unusedSimpArgs false

theorem Rd.i_at {S : Nat → Prop} {w : World} {A : Option Addr} {k : Nat} {vs : List Int} {kd : IntKind} (h : Rd S w A (vs.map (.int kd))) (hk : k < vs.length) :
    ∃ b off x, A = some ⟨b, off, none⟩ ∧ w.cell? ⟨b, off + k, none⟩ = some (.int kd x) ∧ Hid (vs[k]? = some x) := by
  obtain ⟨b, off, e, _, _, hc⟩ := h (by simp; omega)
  exact ⟨b, off, vs[k], e, hc k _ (by simp [hk]), List.getElem?_eq_getElem hk⟩
theorem take_eq_all {α : Type} {a b : List α} (hl : a.length = b.length) (h : ∀ i, i < a.length → a[i]? = b[i]?) : a = b := by
  apply List.ext_getElem? 
  intro i
  by_cases hi : i < a.length
  · exact h i hi
  · rw [List.getElem?_eq_none (by omega), List.getElem?_eq_none (by omega)]

end Go.Proofs.YtfkgcighooijhaaDoor
namespace Go.Proofs.YtfkgcighooijhaaDoor
open Go.RowKit
set_option linter.unusedVariables false
set_option linter.unusedSimpArgs false

set_option maxHeartbeats 1000000 in
theorem same_any {S S' : Nat → Prop} (A B : Option Addr) (a b : List ByteArray) (c d : Nat) (w : World) (ha : Rd S w A (a.map .string)) (hb : Rd S' w B (b.map .string)) (hl : a.length ≤ 10000000) (hl2 : b.length ≤ 10000000) (v : Bool) (hv : v = true ↔ a = b) :
    Calls Tryd.prog 6 #[.slice A a.length c, .slice B b.length d] w (Quiet (.bool v) w) := by
  have HA := Lib.hid ha
  have HB := Lib.hid hb
  have HV := Lib.hid hv
  clear ha hb hv
  by_cases hlen : a.length = b.length
  · have t1 : ((a.length : Int) != (b.length : Int)) = false := by simp [hlen]
    have HLEN := Lib.hid hlen
    have hle1 : a.length ≤ b.length := by omega
    have hle2 : b.length ≤ a.length := by omega
    clear hlen
    go_enter Tryd.func6, Tryd.ntmps6
    go_wp2
    go_loopw [5] (fun i wr => ∃ k : Nat, k ≤ a.length ∧ i = .int .i64 k ∧ (∀ i, i < k → a[i]? = b[i]?) ∧ ∃ q, wr = w.drewN q) (fun i _ => a.length - (intOf i).toNat)
    case atStart => exact ⟨0, Nat.zero_le _, rfl, fun i hi => absurd hi (by omega), 0, rfl⟩
    case round =>
      obtain ⟨k, hk, rfl, hall, q, rfl⟩ := hrel
      have AL := Lib.hid hall
      clear hall
      by_cases hlt : k < a.length
      · obtain ⟨b1, o1, x, rfl, hc1, hx⟩ := HA.out.str_at hlt
        obtain ⟨b2, o2, y, rfl, hc2, hy⟩ := HB.out.str_at (k := k) (by omega)
        have i1 : (k : Int) < (a.length : Int) := by omega
        have i2 : (k : Int) < (b.length : Int) := by omega
        by_cases hxy : x = y
        · have t2 : (!(x.toList == y.toList)) = false := by simp [hxy]
          have HXY := Lib.hid hxy
          clear hxy
          go_wp2
          go_quiet (fail)
          go_wp2
          go_roundw
          case rel =>
            refine ⟨k + 1, by omega, by go_num, fun i hi => ?_, _, rfl⟩
            rcases Nat.lt_or_ge i k with h | h
            · exact AL.out i h
            · obtain rfl : i = k := by omega
              rw [hx.out, hy.out, HXY.out]
          case measure => simp [intOf]; omega
        · have t2 : (!(x.toList == y.toList)) = true := by simp; exact fun h => hxy (toList_inj h)
          have hne : v = false := by
            cases hv : v with
            | false => rfl
            | true =>
              have := HV.out.1 hv
              rw [this] at hx
              rw [hx.out] at hy
              have := hy.out
              injection this with this
              exact absurd this hxy
          have HNE := Lib.hid hne
          clear hxy hne
          go_wp2
          go_quiet (fail)
          go_wp2
          go_ret
          exact ⟨by rw [HNE.out]; rfl, _, World.drewN_drewN _ _ _⟩
      · have hv1 : v = true := HV.out.2 (take_eq_all HLEN.out (fun i hi => AL.out i (by omega)))
        have HV1 := Lib.hid hv1
        clear hv1
        go_wp2
        go_ret
        exact ⟨by rw [HV1.out]; rfl, _, rfl⟩
  · have t1 : ((a.length : Int) != (b.length : Int)) = true := by simp; omega
    have hne : v = false := by
      cases hv : v with
      | false => rfl
      | true => exact absurd (congrArg List.length (HV.out.1 hv)) hlen
    have HNE := Lib.hid hne
    clear hlen hne
    go_enter Tryd.func6, Tryd.ntmps6
    go_wp2
    go_ret
    exact ⟨by rw [HNE.out]; rfl, 0, rfl⟩
end Go.Proofs.YtfkgcighooijhaaDoor
