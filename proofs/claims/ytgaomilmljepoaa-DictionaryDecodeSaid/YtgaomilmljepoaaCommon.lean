/- The longest common beginning of two strings, both texts. No condition but the size. -/
import Derived.Test.YtgaomilmljepoaaStr
import Derived.Deep.DeepMust
namespace Go.Proofs.Ytgaomilmljepoaa
open Go.RowKit
set_option linter.unusedVariables false
set_option linter.unusedSimpArgs false

def cmn : List UInt8 → List UInt8 → Nat
  | a :: x, b :: y => if a = b then cmn x y + 1 else 0
  | _, _ => 0
theorem cmn_comm : ∀ x y, cmn x y = cmn y x
  | [], [] => rfl
  | [], _ :: _ => rfl
  | _ :: _, [] => rfl
  | a :: x, b :: y => by
    by_cases h : a = b
    · subst h; simp [cmn, cmn_comm x y]
    · simp [cmn, h, Ne.symm h]
theorem cmn_eq : ∀ (k : Nat) (x y : List UInt8), (∀ i, i < k → x[i]? = y[i]?) → k ≤ x.length → k ≤ y.length → (k = x.length ∨ k = y.length ∨ x[k]? ≠ y[k]?) → cmn x y = k
  | 0, [], _, _, _, _, _ => by simp [cmn]
  | 0, _ :: _, [], _, _, _, _ => by simp [cmn]
  | 0, a :: x, b :: y, _, _, _, h => by
    simp at h
    simp [cmn, h]
  | k + 1, [], _, _, h, _, _ => by simp at h
  | k + 1, _ :: _, [], _, _, h, _ => by simp at h
  | k + 1, a :: x, b :: y, h, h1, h2, h3 => by
    have e : a = b := by have := h 0 (by omega); simpa using this
    subst e
    simp at h1 h2 h3
    simp [cmn, cmn_eq k x y (fun i hi => by have := h (i + 1) (by omega); simpa using this) h1 h2 (by simpa using h3)]
/-- the length of the longest common beginning -/
def cm (a b : ByteArray) : Nat := cmn a.data.toList b.data.toList
theorem cm_comm (a b : ByteArray) : cm a b = cm b a := cmn_comm _ _
theorem cmn_le : ∀ x y, cmn x y ≤ x.length ∧ cmn x y ≤ y.length
  | [], [] => by simp [cmn]
  | [], _ :: _ => by simp [cmn]
  | _ :: _, [] => by simp [cmn]
  | a :: x, b :: y => by
    have := cmn_le x y
    by_cases h : a = b <;> simp [cmn, h] <;> omega
theorem cm_le (a b : ByteArray) : cm a b ≤ a.size ∧ cm a b ≤ b.size := by
  have := cmn_le a.data.toList b.data.toList
  simpa [cm] using this
theorem cm_is {a b : ByteArray} {k : Nat} (h : ∀ i, i < k → a.data.toList[i]? = b.data.toList[i]?) (h1 : k ≤ a.size) (h2 : k ≤ b.size) (h3 : k = a.size ∨ k = b.size ∨ a.data.toList[k]? ≠ b.data.toList[k]?) : cm a b = k :=
  cmn_eq k _ _ h (by simpa using h1) (by simpa using h2) (by simpa using h3)
theorem byte_at {a : ByteArray} {k : Nat} (h : k < a.size) : a.data.toList[k]? = some a[k] := by
  rw [List.getElem?_eq_getElem (by simpa using h)]; rfl

set_option maxHeartbeats 1000000 in
set_option maxRecDepth 100000 in
theorem dcommon_any (a b : ByteArray) (w : World) (ha : a.size ≤ 5000000) (hb : b.size ≤ 5000000) : Calls Try.prog 43 #[.string a, .string b] w (Quiet (.int .i64 (cm a b : Nat)) w) := by
  go_enter Try.func43, Try.ntmps43
  go_wp2_with fail
  go_loopw [5] (fun i wr => ∃ k : Nat, k ≤ a.size ∧ k ≤ b.size ∧ i = .int .i64 k ∧ (∀ i, i < k → a.data.toList[i]? = b.data.toList[i]?) ∧ ∃ q, wr = w.drewN q) (fun i _ => a.size - (intOf i).toNat)
  case atStart => exact ⟨0, Nat.zero_le _, Nat.zero_le _, rfl, (fun i hi => absurd hi (by omega)), 0, rfl⟩
  case round =>
    obtain ⟨k, hka, hkb, rfl, hall, q, rfl⟩ := hrel
    have AL := Lib.hid hall
    clear hall
    by_cases h1 : k < a.size
    · have i1 : (k : Int) < (a.size : Int) := by omega
      by_cases h2 : k < b.size
      · have i2 : (k : Int) < (b.size : Int) := by omega
        by_cases he : a[k] = b[k]
        · have t1 : ((a[k].toNat : Int) == (b[k].toNat : Int)) = true := by simp [he]
          have HE := Lib.hid he
          clear he
          go_wp2_with fail
          go_quiet (fail)
          go_wp2_with fail
          go_roundw
          case rel =>
            refine ⟨k + 1, by omega, by omega, by go_num, fun i hi => ?_, _, rfl⟩
            rcases Nat.lt_or_ge i k with h | h
            · exact AL.out i h
            · obtain rfl : i = k := by omega
              rw [byte_at h1, byte_at h2, HE.out]
          case measure => simp [intOf]; omega
        · have t1 : ((a[k].toNat : Int) == (b[k].toNat : Int)) = false := by
            rw [beq_eq_false_iff_ne]; intro e; exact he (UInt8.toNat_inj.1 (by omega))
          have HC : Hid (cm a b = k) := cm_is AL.out hka hkb (.inr (.inr (by rw [byte_at h1, byte_at h2]; simpa using he)))
          clear he
          go_wp2_with fail
          go_quiet (fail)
          go_wp2_with fail
          go_ret
          exact ⟨by rw [HC.out]; rfl, _, World.drewN_drewN _ _ _⟩
      · have d1 : decide ((k : Int) < (b.size : Int)) = false := by simp; omega
        have HC : Hid (cm a b = k) := cm_is AL.out hka hkb (.inr (.inl (by omega)))
        go_wp2_with fail
        go_quiet (fail)
        go_wp2_with fail
        go_ret
        exact ⟨by rw [HC.out]; rfl, _, World.drewN_drewN _ _ _⟩
    · have d1 : decide ((k : Int) < (a.size : Int)) = false := by simp; omega
      have HC : Hid (cm a b = k) := cm_is AL.out hka hkb (.inl (by omega))
      go_wp2_with fail
      go_quiet (fail)
      go_wp2_with fail
      go_ret
      exact ⟨by rw [HC.out]; rfl, _, World.drewN_drewN _ _ _⟩

set_option maxHeartbeats 1000000 in
set_option maxRecDepth 100000 in
theorem rcommon_any (a b : ByteArray) (w : World) (ha : a.size ≤ 5000000) (hb : b.size ≤ 5000000) : Calls Try.prog 45 #[.string a, .string b] w (Quiet (.int .i64 (cm a b : Nat)) w) := by
  go_enter Try.func45, Try.ntmps45
  go_wp2_with fail
  go_loopw [5] (fun i wr => ∃ k : Nat, k ≤ a.size ∧ k ≤ b.size ∧ i = .int .i64 k ∧ (∀ i, i < k → a.data.toList[i]? = b.data.toList[i]?) ∧ ∃ q, wr = w.drewN q) (fun i _ => a.size - (intOf i).toNat)
  case atStart => exact ⟨0, Nat.zero_le _, Nat.zero_le _, rfl, (fun i hi => absurd hi (by omega)), 0, rfl⟩
  case round =>
    obtain ⟨k, hka, hkb, rfl, hall, q, rfl⟩ := hrel
    have AL := Lib.hid hall
    clear hall
    by_cases h1 : k < a.size
    · have i1 : (k : Int) < (a.size : Int) := by omega
      by_cases h2 : k < b.size
      · have i2 : (k : Int) < (b.size : Int) := by omega
        by_cases he : a[k] = b[k]
        · have t1 : ((a[k].toNat : Int) == (b[k].toNat : Int)) = true := by simp [he]
          have HE := Lib.hid he
          clear he
          go_wp2_with fail
          go_quiet (fail)
          go_wp2_with fail
          go_roundw
          case rel =>
            refine ⟨k + 1, by omega, by omega, by go_num, fun i hi => ?_, _, rfl⟩
            rcases Nat.lt_or_ge i k with h | h
            · exact AL.out i h
            · obtain rfl : i = k := by omega
              rw [byte_at h1, byte_at h2, HE.out]
          case measure => simp [intOf]; omega
        · have t1 : ((a[k].toNat : Int) == (b[k].toNat : Int)) = false := by
            rw [beq_eq_false_iff_ne]; intro e; exact he (UInt8.toNat_inj.1 (by omega))
          have HC : Hid (cm a b = k) := cm_is AL.out hka hkb (.inr (.inr (by rw [byte_at h1, byte_at h2]; simpa using he)))
          clear he
          go_wp2_with fail
          go_quiet (fail)
          go_wp2_with fail
          go_ret
          exact ⟨by rw [HC.out]; rfl, _, World.drewN_drewN _ _ _⟩
      · have d1 : decide ((k : Int) < (b.size : Int)) = false := by simp; omega
        have HC : Hid (cm a b = k) := cm_is AL.out hka hkb (.inr (.inl (by omega)))
        go_wp2_with fail
        go_quiet (fail)
        go_wp2_with fail
        go_ret
        exact ⟨by rw [HC.out]; rfl, _, World.drewN_drewN _ _ _⟩
    · have d1 : decide ((k : Int) < (a.size : Int)) = false := by simp; omega
      have HC : Hid (cm a b = k) := cm_is AL.out hka hkb (.inl (by omega))
      go_wp2_with fail
      go_quiet (fail)
      go_wp2_with fail
      go_ret
      exact ⟨by rw [HC.out]; rfl, _, World.drewN_drewN _ _ _⟩
end Go.Proofs.Ytgaomilmljepoaa
