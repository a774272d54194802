/- varint and zigzag of chapter 24. No condition but the size. -/
import Derived.Test.YtebakogdbeeljaaVarR
import Derived.Test.YtebakogdbeeljaaStr
import Derived.Laws.Bits64
namespace Go.Proofs.Ytebakogdbeeljaa
open Go.RowKit
set_option linter.unusedVariables false
set_option linter.unusedSimpArgs false

set_option maxHeartbeats 1000000 in
set_option maxRecDepth 100000 in
theorem cvarint_any (base : Nat) (v : Value) (xs : List Int) (n : Nat) (w : World) (h : Byts base w v xs) (hx : xs.length ≤ 5000000) (hn : n < 18446744073709551616) (hb : base ≤ w.heap.size) :
    Calls Try.prog 33 #[v, .int .u64 n] w (VPost base w v (xs ++ vint n)) := by
  have H := Lib.hid h
  have HN := Lib.hid hn
  clear h hn
  go_enter Try.func33, Try.ntmps33
  go_wp2_with fail
  go_loopw [0, 1] (fun u i wr => ∃ (m : Nat) (ys : List Int), m ≤ n ∧ i = .int .u64 m ∧ Byts base wr u ys ∧ ys ++ vint m = xs ++ vint n ∧ Onto w v u wr) (fun _ i _ => (intOf i).toNat)
  case atStart => exact ⟨n, xs, Nat.le_refl _, rfl, H.out, rfl, Onto.refl _ _⟩
  case round =>
    obtain ⟨m, ys, hm, rfl, hB, he, hO⟩ := hrel
    have hl : ys.length ≤ 5000010 := by
      have h1 := congrArg List.length he
      have h2 := vint_len10 HN.out
      simp at h1
      omega
    have HO := Lib.hid hO
    have HE := Lib.hid he
    have HB := Lib.hid hB
    have hz := hO.1.size
    clear hO he hB
    by_cases hc : 127 < m
    · have HV := Lib.hid (vb_u64 m (Nat.lt_of_le_of_lt hm HN.out))
      have HV2 := Lib.hid (vint_ge (n := m) (by omega))
      go_wp2_with (at_builtin; refine wpList_append1 rfl _ _ 23 rfl base Try.underlying23 byteInfo rfl (by decide) (v := _) (by rfl) (w0 := _) (cs := #[.int .u8 (bits BinOp.or IntKind.u64 (bits BinOp.and IntKind.u64 (m : Int) 127) 128 % 256)]) HB.out (by rfl) rfl (by simp [Value.oneCell']) (by decide) (by omega) (by omega) ?_; intro v1 w1 hv1 hg1 hob1)
      rw [HV.out] at hv1
      have B1 := Lib.hid (Byts.snoc hv1)
      have O1 := Lib.hid (HO.out.trans (onto_ap hg1 hob1))
      clear hv1 hg1 hob1
      go_wp2_with fail
      go_roundw
      case rel => exact ⟨m / 128, ys ++ [((m % 128 + 128 : Nat) : Int)], by omega, by simp, B1.out, by rw [← HE.out, HV2.out]; simp, O1.out⟩
      case measure => simp [intOf]; omega
    · have HV2 := Lib.hid (vint_lt (n := m) (by omega))
      have hd : decide ((127 : Int) < (m : Int)) = false := by simp; omega
      have hd2 : decide (127 < m) = false := by simp; omega
      go_wp2_with (at_builtin; refine wpList_append1 rfl _ _ 23 rfl base Try.underlying23 byteInfo rfl (by decide) (v := _) (by rfl) (w0 := _) (cs := #[.int .u8 (m : Int)]) HB.out (by rfl) rfl (by simp [Value.oneCell']) (by decide) (by omega) (by omega) ?_; intro v1 w1 hv1 hg1 hob1)
      have B1 := Lib.hid (Byts.snoc hv1)
      have O1 := Lib.hid (HO.out.trans (onto_ap hg1 hob1))
      clear hv1 hg1 hob1
      go_wp2_with fail
      go_ret
      exact ⟨v1, rfl, by rw [← HE.out, HV2.out]; exact B1.out, O1.out⟩

def zz (x : Int) : Nat := if 0 ≤ x then (2 * x).toNat else (-(2 * x) - 1).toNat
theorem zz_lt {x : Int} (h : -9223372036854775808 ≤ x ∧ x ≤ 9223372036854775807) : zz x < 18446744073709551616 := by
  unfold zz; split <;> omega
theorem xor_max (b : Nat) (hb : b < 2 ^ 64) : b ^^^ 18446744073709551615 = 18446744073709551615 - b := by
  apply Nat.eq_of_testBit_eq
  intro i
  rw [Nat.testBit_xor, show (18446744073709551615 : Nat) = 2 ^ 64 - 1 from rfl, Nat.testBit_two_pow_sub_one, show 2 ^ 64 - 1 - b = 2 ^ 64 - (b + 1) by omega, Nat.testBit_two_pow_sub_succ hb]
  by_cases hi : i < 64
  · simp [hi]
  · have : b.testBit i = false := Nat.testBit_lt_two_pow (Nat.lt_of_lt_of_le hb (Nat.pow_le_pow_right (by decide) (by omega)))
    simp [hi, this]

theorem zz_bits {x : Int} (h : -9223372036854775808 ≤ x ∧ x ≤ 9223372036854775807) : bits BinOp.xor IntKind.u64 (IntKind.u64.wrap (IntKind.u64.wrap x * 2)) (IntKind.u64.wrap (x / 9223372036854775808)) = ((zz x : Nat) : Int) := by
  by_cases h0 : 0 ≤ x
  · have e1 : IntKind.u64.wrap (IntKind.u64.wrap x * 2) = (((2 * x).toNat : Nat) : Int) := by
      rw [IntKind.wrap_u64, IntKind.wrap_u64]; omega
    have e2 : IntKind.u64.wrap (x / 9223372036854775808) = ((0 : Nat) : Int) := by
      rw [IntKind.wrap_u64]; omega
    rw [e1, e2, bits_xor_u64_nat _ _ (by omega) (by decide)]
    unfold zz; rw [if_pos h0]; simp
  · have e1 : IntKind.u64.wrap (IntKind.u64.wrap x * 2) = (((2 * x + 18446744073709551616).toNat : Nat) : Int) := by
      rw [IntKind.wrap_u64, IntKind.wrap_u64]; omega
    have e2 : IntKind.u64.wrap (x / 9223372036854775808) = ((18446744073709551615 : Nat) : Int) := by
      rw [IntKind.wrap_u64]; omega
    rw [e1, e2, bits_xor_u64_nat _ _ (by omega) (by decide), xor_max _ (by omega)]
    unfold zz; rw [if_neg h0]; omega

set_option maxHeartbeats 1000000 in
set_option maxRecDepth 100000 in
theorem zigzag_any (x : Int) (w : World) (h : -9223372036854775808 ≤ x ∧ x ≤ 9223372036854775807) : Calls Try.prog 55 #[.int .i64 x] w (Quiet (.int .u64 (zz x : Nat)) w) := by
  have HX := Lib.hid h
  clear h
  go_enter Try.func55, Try.ntmps55
  go_wp2_with fail
  go_ret
  exact ⟨ret_int (zz_bits HX.out), 0, rfl⟩
set_option maxHeartbeats 1000000 in
set_option maxRecDepth 100000 in
theorem rzigzag_any (x : Int) (w : World) (h : -9223372036854775808 ≤ x ∧ x ≤ 9223372036854775807) : Calls Try.prog 48 #[.int .i64 x] w (Quiet (.int .u64 (zz x : Nat)) w) := by
  have HX := Lib.hid h
  clear h
  go_enter Try.func48, Try.ntmps48
  go_wp2_with fail
  go_ret
  exact ⟨ret_int (zz_bits HX.out), 0, rfl⟩

set_option maxHeartbeats 1000000 in
theorem putint_any (base : Nat) (v : Value) (xs : List Int) (x : Int) (w : World) (h : Byts base w v xs) (hx : xs.length ≤ 5000000) (hr : -9223372036854775808 ≤ x ∧ x ≤ 9223372036854775807) (hb : base ≤ w.heap.size) :
    Calls Try.prog 36 #[v, .int .i64 x] w (VPost base w v (xs ++ vint (zz x))) := by
  have H := Lib.hid h
  have HX := Lib.hid hr
  clear h hr
  go_enter Try.func36, Try.ntmps36
  go_wp2_with fail
  refine (rzigzag_any x _ HX.out).mono ?_
  rintro e w1 ⟨rfl, n1, rfl⟩
  go_wp2_with fail
  refine (rvarint_any base _ _ (zz x) _ (H.out.drewN _) hx (zz_lt HX.out) (by exact hb)).mono ?_
  rintro e w2 ⟨v2, rfl, hB2, hO2⟩
  go_wp2_with fail
  go_ret
  exact ⟨v2, rfl, hB2, Onto.trans ((Onto.refl _ _).drewN n1) hO2⟩
end Go.Proofs.Ytebakogdbeeljaa
