/- GetVarint of the reference of chapter 23. Condition: sizes. -/
import Derived.Test.YtgaomilmljepoaaBits
import Derived.Test.YtgaomilmljepoaaStr
import Derived.Deep.DeepMust
namespace Go.Proofs.Ytgaomilmljepoaa
open Go.RowKit
set_option linter.unusedVariables false
set_option linter.unusedSimpArgs false

/-- a varint with as few bytes as possible: its value and its length -/
def gNum : List Int → Nat → Nat → Option (Nat × Nat)
  | [], _, _ => none
  | d :: l, k, acc => if 10 ≤ k then none else if k = 9 ∧ 1 < d then none else
    if d < 128 then (if 0 < k ∧ d = 0 then none else some (acc ||| (d.toNat % 128 * 2 ^ (7 * k)) % 2 ^ 64, k + 1))
    else gNum l (k + 1) (acc ||| (d.toNat % 128 * 2 ^ (7 * k)) % 2 ^ 64)
theorem gNum_10 (l : List Int) (acc : Nat) : gNum l 10 acc = none := by cases l <;> simp [gNum]
def gOut (bs : List Int) (p : Nat) : Value := match gNum (bs.drop p) 0 0 with
  | none => .tuple #[.int .u64 0, .int .i64 0, .bool false]
  | some (v, c) => .tuple #[.int .u64 (v : Nat), .int .i64 ((p + c : Nat) : Int), .bool true]
theorem gout_none {bs : List Int} {p : Nat} (h : gNum (bs.drop p) 0 0 = none) : gOut bs p = .tuple #[.int .u64 0, .int .i64 0, .bool false] := by unfold gOut; rw [h]
theorem gout_some {bs : List Int} {p v c : Nat} (h : gNum (bs.drop p) 0 0 = some (v, c)) : gOut bs p = .tuple #[.int .u64 (v : Nat), .int .i64 ((p + c : Nat) : Int), .bool true] := by unfold gOut; rw [h]
theorem gv_val {acc : Nat} {x : Int} {k : Nat} (ha : acc < 18446744073709551616) (h0 : 0 ≤ x) (h1 : x ≤ 255) :
    bits BinOp.or IntKind.u64 (acc : Int) (IntKind.u64.wrap (bits BinOp.and IntKind.u64 x 127 * 2 ^ (7 * k))) = ((acc ||| (x.toNat % 128 * 2 ^ (7 * k)) % 2 ^ 64 : Nat) : Int) := by
  obtain ⟨n, rfl⟩ := Int.eq_ofNat_of_zero_le h0
  have e1 : bits BinOp.and IntKind.u64 (n : Int) 127 = ((n % 128 : Nat) : Int) := by
    have h := bits_and_u64_nat n 127 (by omega) (by decide)
    rw [show n &&& 127 = n % 128 from Nat.and_two_pow_sub_one_eq_mod n 7] at h
    exact h
  rw [e1, Int.toNat_natCast]
  have e3 : IntKind.u64.wrap (((n % 128 : Nat) : Int) * 2 ^ (7 * k)) = ((n % 128 * 2 ^ (7 * k) % 2 ^ 64 : Nat) : Int) := by
    rw [IntKind.wrap_u64, show ((2 : Int) ^ (7 * k)) = ((2 ^ (7 * k) : Nat) : Int) from by rw [Int.natCast_pow]; rfl, ← Int.natCast_mul]
    generalize n % 128 * 2 ^ (7 * k) = z
    omega
  rw [e3, bits_or_u64_nat _ _ ha (Nat.lt_of_lt_of_le (Nat.mod_lt _ (by decide)) (by decide))]
theorem gacc_lt {acc z : Nat} (ha : acc < 18446744073709551616) : acc ||| z % 2 ^ 64 < 18446744073709551616 :=
  Nat.or_lt_two_pow (n := 64) ha (Nat.mod_lt _ (by decide))

set_option maxHeartbeats 1000000 in
set_option maxRecDepth 100000 in
theorem getv_any {S : Nat → Prop} (A : Option Addr) (bs : List Int) (c : Nat) (p : Nat) (w : World) (h : Rd S w A (bs.map (.int .u8))) (hl : bs.length ≤ 2000000) (hp : p ≤ 3000000) (hx : ∀ x ∈ bs, 0 ≤ x ∧ x ≤ 255) :
    Calls Try.prog 49 #[.slice A bs.length c, .int .i64 p] w (Quiet (gOut bs p) w) := by
  have H := Lib.hid h
  have HX := Lib.hid hx
  clear h hx
  go_enter Try.func49, Try.ntmps49
  go_wp2_with fail
  go_loopw [7, 8] (fun n i wr => ∃ (k acc : Nat), k ≤ 10 ∧ acc < 18446744073709551616 ∧ n = .int .u64 acc ∧ i = .int .i64 k ∧ gNum (bs.drop (p + k)) k acc = gNum (bs.drop p) 0 0 ∧ ∃ q, wr = w.drewN q) (fun _ i _ => 10 - (intOf i).toNat)
  case atStart => exact ⟨0, 0, by omega, by omega, rfl, rfl, by simp, 0, rfl⟩
  case round =>
    obtain ⟨k, acc, hk, hacc, rfl, rfl, hE, q, rfl⟩ := hrel
    have HA := Lib.hid hacc
    have HE := Lib.hid hE
    have dp : decide ((0 : Int) ≤ (p : Int)) = true := decide_eq_true (by omega)
    clear hacc hE
    by_cases hk10 : k < 10
    · have dk : decide ((k : Int) < 10) = true := decide_eq_true (by omega)
      by_cases hpl : p + k < bs.length
      · obtain ⟨b, off, x, rfl, hc, hx⟩ := H.out.int_at hpl
        have hdr : bs.drop (p + k) = x :: bs.drop (p + (k + 1)) := by rw [List.drop_eq_getElem_cons hpl, ← getD_lt bs 0 hpl, hx.out]; rfl
        obtain ⟨hx0, hx1⟩ : 0 ≤ x ∧ x ≤ 255 := by rw [← hx.out]; exact HX.out _ (getD_mem bs 0 hpl)
        have HG : Hid (gNum (bs.drop p) 0 0 = if k = 9 ∧ 1 < x then none else
            if x < 128 then (if 0 < k ∧ x = 0 then none else some (acc ||| (x.toNat % 128 * 2 ^ (7 * k)) % 2 ^ 64, k + 1))
            else gNum (bs.drop (p + (k + 1))) (k + 1) (acc ||| (x.toNat % 128 * 2 ^ (7 * k)) % 2 ^ 64)) := by
          show gNum (bs.drop p) 0 0 = _
          rw [← HE.out, hdr, gNum, if_neg (by omega)]
        have HV := Lib.hid (gv_val (k := k) HA.out hx0 hx1)
        have dpl : decide ((p : Int) + (k : Int) < (bs.length : Int)) = true := decide_eq_true (by omega)
        clear hdr
        by_cases h9 : k = 9 ∧ 1 < x
        · obtain ⟨rfl, h9x⟩ := h9
          have d9 : decide (1 < x) = true := decide_eq_true h9x
          have HF : Hid (gOut bs p = .tuple #[.int .u64 0, .int .i64 0, .bool false]) := gout_none (by rw [HG.out, if_pos ⟨rfl, h9x⟩])
          go_wp2_with fail
          go_ret3
          exact ⟨by rw [HF.out]; rfl, _, rfl⟩
        · by_cases hk9 : k = 9
          · subst hk9
            have hx2 : ¬ 1 < x := fun h => h9 ⟨rfl, h⟩
            have d9 : decide (1 < x) = false := decide_eq_false hx2
            have d128 : decide (x < 128) = true := decide_eq_true (by omega)
            by_cases hx00 : x = 0
            · have t0 : (x == 0) = true := by simp [hx00]
              have HF : Hid (gOut bs p = .tuple #[.int .u64 0, .int .i64 0, .bool false]) := gout_none (by rw [HG.out, if_neg h9, if_pos (by omega), if_pos ⟨by omega, hx00⟩])
              clear hx00
              go_wp2_with fail
              go_ret3
              exact ⟨by rw [HF.out]; rfl, _, rfl⟩
            · have t0 : (x == 0) = false := by simp [hx00]
              have HF := Lib.hid (gout_some (bs := bs) (p := p) (v := acc ||| (x.toNat % 128 * 2 ^ (7 * 9)) % 2 ^ 64) (c := 9 + 1) (by rw [HG.out, if_neg h9, if_pos (by omega), if_neg (fun h => hx00 h.2)]))
              go_wp2_with fail
              go_ret3
              refine ⟨?_, _, rfl⟩
              rw [HF.out, ← HV.out]
              have e : ((p + (9 + 1) : Nat) : Int) = (p : Int) + ((9 : Nat) : Int) + 1 := by omega
              rw [e]; rfl
          · have t9 : ((k : Int) == 9) = false := by rw [beq_eq_false_iff_ne]; omega
            by_cases h128 : x < 128
            · by_cases h00 : 0 < k ∧ x = 0
              · obtain ⟨hk0, hx00⟩ := h00
                have dk0 : decide ((0 : Int) < (k : Int)) = true := decide_eq_true (by omega)
                have dk1 : decide (0 < k) = true := decide_eq_true hk0
                have t0 : (x == 0) = true := by simp [hx00]
                have HF : Hid (gOut bs p = .tuple #[.int .u64 0, .int .i64 0, .bool false]) := gout_none (by rw [HG.out, if_neg h9, if_pos h128, if_pos ⟨hk0, hx00⟩])
                clear hx00
                go_wp2_with fail
                go_ret3
                exact ⟨by rw [HF.out]; rfl, _, rfl⟩
              · by_cases hk0 : 0 < k
                · have dk0 : decide ((0 : Int) < (k : Int)) = true := decide_eq_true (by omega)
                  have dk1 : decide (0 < k) = true := decide_eq_true hk0
                  have t0 : (x == 0) = false := by simp; exact fun h => h00 ⟨hk0, h⟩
                  have HF := Lib.hid (gout_some (bs := bs) (p := p) (v := acc ||| (x.toNat % 128 * 2 ^ (7 * k)) % 2 ^ 64) (c := k + 1) (by rw [HG.out, if_neg h9, if_pos h128, if_neg h00]))
                  go_wp2_with fail
                  go_ret3
                  refine ⟨?_, _, rfl⟩
                  rw [HF.out, ← HV.out]
                  have e : ((p + (k + 1) : Nat) : Int) = (p : Int) + ((k : Nat) : Int) + 1 := by omega
                  rw [e]; rfl
                · have dk0 : decide ((0 : Int) < (k : Int)) = false := decide_eq_false (by omega)
                  have dk1 : decide (0 < k) = false := decide_eq_false hk0
                  have HF := Lib.hid (gout_some (bs := bs) (p := p) (v := acc ||| (x.toNat % 128 * 2 ^ (7 * k)) % 2 ^ 64) (c := k + 1) (by rw [HG.out, if_neg h9, if_pos h128, if_neg h00]))
                  go_wp2_with fail
                  go_ret3
                  refine ⟨?_, _, rfl⟩
                  rw [HF.out, ← HV.out]
                  have e : ((p + (k + 1) : Nat) : Int) = (p : Int) + ((k : Nat) : Int) + 1 := by omega
                  rw [e]; rfl
            · have d128 : decide (x < 128) = false := decide_eq_false h128
              have HF : Hid (gNum (bs.drop (p + (k + 1))) (k + 1) (acc ||| (x.toNat % 128 * 2 ^ (7 * k)) % 2 ^ 64) = gNum (bs.drop p) 0 0) := by
                show _ = gNum (bs.drop p) 0 0
                rw [HG.out, if_neg h9, if_neg h128]
              go_wp2_with fail
              rw [HV.out]
              go_roundw
              case rel => exact ⟨k + 1, _, by omega, gacc_lt HA.out, rfl, by go_num, HF.out, _, rfl⟩
              case measure => simp [intOf]; omega
      · have dpl : decide ((p : Int) + (k : Int) < (bs.length : Int)) = false := decide_eq_false (by omega)
        have HF : Hid (gOut bs p = .tuple #[.int .u64 0, .int .i64 0, .bool false]) := gout_none (by rw [← HE.out, List.drop_of_length_le (by omega)]; rfl)
        go_wp2_with fail
        go_ret3
        exact ⟨by rw [HF.out]; rfl, _, rfl⟩
    · obtain rfl : k = 10 := by omega
      have HF : Hid (gOut bs p = .tuple #[.int .u64 0, .int .i64 0, .bool false]) := gout_none (by rw [← HE.out, gNum_10])
      go_wp2_with fail
      go_ret3
      exact ⟨by rw [HF.out]; rfl, _, rfl⟩
end Go.Proofs.Ytgaomilmljepoaa
