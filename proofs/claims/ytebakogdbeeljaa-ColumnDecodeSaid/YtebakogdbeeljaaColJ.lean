/- Encode of chapter 24: the reference. Conditions: sizes. -/
import Derived.Test.YtebakogdbeeljaaColI
namespace Go.Proofs.Ytebakogdbeeljaa
open Go.RowKit
set_option linter.unusedVariables false
set_option linter.unusedSimpArgs false

theorem rencas_any (kind : Int) (A : Option Addr) (vs : List Int) (c : Nat) (w : World) (hr : Rd (fun _ => True) w A (vs.map (.int .i64))) (hl : vs.length ≤ 1000000) (hi : ∀ x ∈ vs, I64 x) :
    Calls Try.prog 19 #[.int .i64 kind, .slice A vs.length c] w (CEPost w kind vs) := by
  by_cases he : (kind < 0 ∨ 4 ≤ kind) ∨ 16384 < vs.length
  · exact rencas_err kind A vs c w hl he
  · have h4 : kind = 0 ∨ kind = 1 ∨ kind = 2 ∨ kind = 3 := by omega
    rcases h4 with rfl | rfl | rfl | rfl
    · exact rencas_0 A vs c w hr (by omega) hi
    · exact rencas_1 A vs c w hr (by omega) hi
    · exact rencas_2 A vs c w hr (by omega) hi
    · exact rencas_3 A vs c w hr (by omega) hi

set_option maxHeartbeats 1000000 in
set_option maxRecDepth 100000 in
theorem rencode_any (A : Option Addr) (vs : List Int) (c : Nat) (w : World) (hr : Rd (fun _ => True) w A (vs.map (.int .i64))) (hl : vs.length ≤ 1000000) (hi : ∀ x ∈ vs, I64 x) :
    Calls Try.prog 17 #[.slice A vs.length c] w (EPost w vs) := by
  have HR := Lib.hid hr
  have HI := Lib.hid hi
  clear hr hi
  by_cases hv : 16384 < vs.length
  · have HE : Hid (colErr 0 vs = 4) := colErr_big (k := 0) hv (by omega)
    have HB := Lib.hid (best_big hv)
    have HV := Lib.hid hv
    clear hv
    go_enter Try.func17, Try.ntmps17
    go_wp2_with fail
    refine (rencas_any 0 A vs c _ HR.out hl HI.out).mono ?_
    rintro e w1 ⟨v1, rfl, hB1, hg1⟩
    rw [colB_no (by rw [HE.out]; decide)] at hB1
    rw [HE.out]
    have B1 := Lib.hid hB1
    clear hB1
    go_wp2_with fail
    go_ret2
    exact ⟨_, by rw [if_pos HV.out]; rfl, by rw [HB.out]; exact Byts.nil _ _, hg1⟩
  · have HE : Hid (colErr 0 vs = 0) := colErr_k (k := 0) (by omega) (by omega)
    have HV := Lib.hid hv
    go_enter Try.func17, Try.ntmps17
    go_wp2_with fail
    refine (rencas_any 0 A vs c _ HR.out hl HI.out).mono ?_
    rintro e w1 ⟨v1, rfl, hB1, hg1⟩
    rw [HE.out]
    have B1 := Lib.hid hB1
    have G1 := Lib.hid hg1
    clear hB1 hg1
    go_wp2_with fail
    go_loopw [4, 6] (fun b i wr => ∃ k : Nat, 1 ≤ k ∧ k ≤ 4 ∧ i = .int .i64 k ∧ Byts w.heap.size wr b (bestTo vs k) ∧ w.grownBy wr none) (fun _ i _ => 4 - (intOf i).toNat)
    case atStart => exact ⟨1, by omega, by omega, rfl, B1.out, G1.out⟩
    case round =>
      obtain ⟨k, hk1, hk2, rfl, hB, hG⟩ := hrel
      have HG := Lib.hid hG
      obtain ⟨Ab, cb, rfl⟩ := hB.slice
      have HB := Lib.hid hB
      have hz := hG.size
      clear hB hG B1 G1
      by_cases hk3 : k ≤ 3
      · have d3 : decide ((k : Int) ≤ 3) = true := by simp; omega
        have HEk : Hid (colErr (k : Nat) vs = 0) := colErr_k (by omega) hk3
        have HS := Lib.hid (best_step vs hk1)
        go_wp2_with fail
        refine (rencas_any (k : Nat) A vs c _ (HR.out.grown HG.out (by simp)) hl HI.out).mono ?_
        rintro e w2 ⟨v2, rfl, hB2, hg2⟩
        rw [HEk.out]
        obtain ⟨A2, c2, rfl⟩ := hB2.slice
        have B2 := Lib.hid (hB2.base hz)
        have BK := Lib.hid (own_ext HB.out hg2)
        have G2 : Hid (w.grownBy w2 none) := only_trans HG.out hg2
        clear hB2 hg2
        by_cases hlt : (colB (k : Nat) vs).length < (bestTo vs k).length
        · have HF : Hid (bestTo vs (k + 1) = colB (k : Nat) vs) := by show bestTo vs (k + 1) = _; rw [HS.out]; unfold sh; rw [if_pos hlt]
          have dlt : decide (((colB (k : Nat) vs).length : Int) < ((bestTo vs k).length : Int)) = true := by simp; omega
          go_wp2_with fail
          go_roundw
          case rel => exact ⟨k + 1, by omega, by omega, by go_num, by rw [HF.out]; exact B2.out, G2.out⟩
          case measure => simp [intOf]; omega
        · have HF : Hid (bestTo vs (k + 1) = bestTo vs k) := by show bestTo vs (k + 1) = _; rw [HS.out]; unfold sh; rw [if_neg hlt]
          have dlt : decide (((colB (k : Nat) vs).length : Int) < ((bestTo vs k).length : Int)) = false := by simp; omega
          go_wp2_with fail
          go_roundw
          case rel => exact ⟨k + 1, by omega, by omega, by go_num, by rw [HF.out]; exact BK.out, G2.out⟩
          case measure => simp [intOf]; omega
      · obtain rfl : k = 4 := by omega
        go_wp2_with fail
        go_ret2
        exact ⟨_, by rw [if_neg HV.out]; rfl, HB.out, HG.out⟩
end Go.Proofs.Ytebakogdbeeljaa
