/- The reader of columns: number. Condition: sizes. -/
import Derived.Test.YtebakogdbeeljaaRdA
namespace Go.Proofs.Ytebakogdbeeljaa
open Go.RowKit
set_option linter.unusedVariables false
set_option linter.unusedSimpArgs false

/-- a varint of at most 10 bytes, as the reader takes it: s steps are left -/
def rNum : Nat → Nat → List Int → Bool → Nat × List Int × Bool
  | 0, _, bs, _ => (0, bs, true)
  | s + 1, acc, bs, bad =>
    if bs.headD 0 < 128 then (acc ||| ((bs.headD 0).toNat % 128 * 2 ^ (7 * (10 - (s + 1)))) % 2 ^ 64, bs.tail, bad || bs.isEmpty)
    else rNum s (acc ||| ((bs.headD 0).toNat % 128 * 2 ^ (7 * (10 - (s + 1)))) % 2 ^ 64) bs.tail (bad || bs.isEmpty)
theorem num_val {acc : Nat} {x : Int} {k : Nat} (ha : acc < 18446744073709551616) (h0 : 0 ≤ x) (h1 : x ≤ 255) :
    bits BinOp.or IntKind.u64 (acc : Int) (IntKind.u64.wrap (IntKind.u64.wrap (bits BinOp.and IntKind.u8 x 127) * 2 ^ (7 * k))) = ((acc ||| (x.toNat % 128 * 2 ^ (7 * k)) % 2 ^ 64 : Nat) : Int) := by
  obtain ⟨n, rfl⟩ := Int.eq_ofNat_of_zero_le h0
  have e1 : bits BinOp.and IntKind.u8 (n : Int) 127 = ((n % 128 : Nat) : Int) := by
    have h := and_u8 n 127 (by omega) (by decide)
    rw [show n &&& 127 = n % 128 from Nat.and_two_pow_sub_one_eq_mod n 7] at h
    exact h
  rw [e1, Int.toNat_natCast]
  have e2 : IntKind.u64.wrap ((n % 128 : Nat) : Int) = ((n % 128 : Nat) : Int) := by rw [IntKind.wrap_u64]; omega
  have e3 : IntKind.u64.wrap (((n % 128 : Nat) : Int) * 2 ^ (7 * k)) = ((n % 128 * 2 ^ (7 * k) % 2 ^ 64 : Nat) : Int) := by
    rw [IntKind.wrap_u64, show ((2 : Int) ^ (7 * k)) = ((2 ^ (7 * k) : Nat) : Int) from by rw [Int.natCast_pow]; rfl, ← Int.natCast_mul]
    generalize n % 128 * 2 ^ (7 * k) = z
    omega
  rw [e2, e3, bits_or_u64_nat _ _ ha (Nat.lt_of_lt_of_le (Nat.mod_lt _ (by decide)) (by decide))]
theorem acc_lt {acc z : Nat} (ha : acc < 18446744073709551616) : acc ||| z % 2 ^ 64 < 18446744073709551616 :=
  Nat.or_lt_two_pow (n := 64) ha (Nat.mod_lt _ (by decide))
theorem rNum_step {k acc : Nat} {cs : List Int} {bd : Bool} (hk : k < 10) : rNum (10 - k) acc cs bd = if cs.headD 0 < 128 then (acc ||| ((cs.headD 0).toNat % 128 * 2 ^ (7 * k)) % 2 ^ 64, cs.tail, bd || cs.isEmpty) else rNum (10 - (k + 1)) (acc ||| ((cs.headD 0).toNat % 128 * 2 ^ (7 * k)) % 2 ^ 64) cs.tail (bd || cs.isEmpty) := by
  obtain ⟨s, hs⟩ : ∃ s, 10 - k = s + 1 := ⟨9 - k, by omega⟩
  rw [hs, rNum, show 10 - (s + 1) = k from by omega, show 10 - (k + 1) = s from by omega]
theorem RdrAt.head {w : World} {g : Nat} {bs : List Int} {bad : Bool} (h : RdrAt w g bs bad) : 0 ≤ bs.headD 0 ∧ bs.headD 0 ≤ 255 := by
  obtain ⟨A, c, _, _, _, _, _, hx⟩ := h
  cases bs with
  | nil => simp
  | cons x l => exact hx x (List.mem_cons_self ..)
def NmPost (w : World) (g : Nat) (r : Nat × List Int × Bool) (e : Ending) (w' : World) : Prop :=
  e = .returned (.int .u64 (r.1 : Nat)) ∧ RdrAt w' g r.2.1 r.2.2 ∧ w.grownBy w' (some g)

set_option maxHeartbeats 1000000 in
set_option maxRecDepth 100000 in
theorem num_any (g : Nat) (bs : List Int) (bad : Bool) (w : World) (h : RdrAt w g bs bad) :
    Calls Try.prog 53 #[.pointer (some ⟨g, 0, none⟩)] w (NmPost w g (rNum 10 0 bs bad)) := by
  have H := Lib.hid h
  clear h
  go_enter Try.func53, Try.ntmps53
  go_wp2_with fail
  go_loopw [3, 6] (fun n i wr => ∃ (k acc : Nat) (cs : List Int) (bd : Bool), k ≤ 10 ∧ acc < 18446744073709551616 ∧ n = .int .u64 acc ∧ i = .int .i64 k ∧ rNum (10 - k) acc cs bd = rNum 10 0 bs bad ∧ RdrAt wr g cs bd ∧ w.grownBy wr (some g)) (fun _ i _ => 10 - (intOf i).toNat)
  case atStart => exact ⟨0, 0, bs, bad, by omega, by omega, rfl, rfl, rfl, H.out, only_refl _ _⟩
  case round =>
    obtain ⟨k, acc, cs, bd, hk, hacc, rfl, rfl, hr, hR, hG⟩ := hrel
    have HA := Lib.hid hacc
    have HRN := Lib.hid hr
    have HR := Lib.hid hR
    have HG := Lib.hid hG
    clear hr hR hG hacc
    by_cases hk10 : k < 10
    · go_wp2_with fail
      refine (nx_any g cs bd _ HR.out).mono ?_
      rintro e w1 ⟨rfl, hR1, hg1⟩
      have R1 := Lib.hid hR1
      have G1 : Hid (w.grownBy w1 (some g)) := only_trans HG.out hg1
      clear hR1 hg1
      obtain ⟨x, hx⟩ : ∃ x, cs.headD 0 = x := ⟨_, rfl⟩
      rw [hx]
      have hxr := HR.out.head
      rw [hx] at hxr
      obtain ⟨hx0, hx1⟩ := hxr
      have HX := Lib.hid hx
      have HV := Lib.hid (num_val (k := k) HA.out hx0 hx1)
      have HS := Lib.hid (rNum_step (acc := acc) (cs := cs) (bd := bd) hk10)
      clear hx
      by_cases hx128 : x < 128
      · have HF : Hid (rNum 10 0 bs bad = (acc ||| (x.toNat % 128 * 2 ^ (7 * k)) % 2 ^ 64, cs.tail, bd || cs.isEmpty)) := by
          show rNum 10 0 bs bad = _
          rw [← HRN.out, HS.out, HX.out, if_pos hx128]
        go_wp2_with fail
        go_ret
        exact ⟨by rw [HF.out]; exact ret_int HV.out, by rw [HF.out]; exact R1.out, G1.out⟩
      · have HF : Hid (rNum (10 - (k + 1)) (acc ||| (x.toNat % 128 * 2 ^ (7 * k)) % 2 ^ 64) cs.tail (bd || cs.isEmpty) = rNum 10 0 bs bad) := by
          show _ = rNum 10 0 bs bad
          rw [← HRN.out, HS.out, HX.out, if_neg hx128]
        go_wp2_with fail
        rw [HV.out]
        exact ⟨⟨k + 1, _, _, _, by omega, acc_lt HA.out, rfl, by go_num, HF.out, R1.out, G1.out⟩, by simp [intOf]; omega⟩
    · obtain rfl : k = 10 := by omega
      obtain ⟨A, c, hb, -⟩ := HR.out
      have c1 := hb.cell 1
      have f1 := hb.frozen 1
      simp at c1
      clear hb
      have HF : Hid (rNum 10 0 bs bad = (0, cs, true)) := by show rNum 10 0 bs bad = _; rw [← HRN.out]; rfl
      go_wp2_with fail
      go_ret
      exact ⟨by rw [HF.out]; rfl, by rw [HF.out]; exact HR.out.setBad true, only_trans HG.out (only_cell _)⟩
end Go.Proofs.Ytebakogdbeeljaa
