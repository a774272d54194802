/- EncodeAs for any kind, and Encode, of chapter 24: the program. Conditions: sizes. -/
import Derived.Test.YtebakogdbeeljaaColG
namespace Go.Proofs.Ytebakogdbeeljaa
open Go.RowKit
set_option linter.unusedVariables false
set_option linter.unusedSimpArgs false

set_option maxHeartbeats 1000000 in
set_option maxRecDepth 100000 in
theorem encas_any (kind : Int) (A : Option Addr) (vs : List Int) (c : Nat) (w : World) (hr : Rd (fun _ => True) w A (vs.map (.int .i64))) (hl : vs.length ≤ 1000000) (hi : ∀ x ∈ vs, I64 x) :
    Calls Try.prog 15 #[.int .i64 kind, .slice A vs.length c] w (CEPost w kind vs) := by
  by_cases hk : kind < 0 ∨ 4 ≤ kind
  · have HE : Hid (colErr kind vs = 2) := by show colErr kind vs = 2; unfold colErr; rw [if_pos hk]
    clear hr hi
    by_cases hk0 : kind < 0
    · have d0 : decide (kind < 0) = true := by simp [hk0]
      clear hk
      go_enter Try.func15, Try.ntmps15
      go_wp2_with fail
      go_ret2
      exact ⟨_, by rw [HE.out]; rfl, by rw [colB_no (by rw [HE.out]; decide)]; exact Byts.nil _ _, only_refl _ _⟩
    · have d0 : decide (kind < 0) = false := by simp; omega
      have d1 : decide ((4 : Int) ≤ kind) = true := by simp; omega
      clear hk
      go_enter Try.func15, Try.ntmps15
      go_wp2_with fail
      go_ret2
      exact ⟨_, by rw [HE.out]; rfl, by rw [colB_no (by rw [HE.out]; decide)]; exact Byts.nil _ _, only_refl _ _⟩
  · by_cases hv : 16384 < vs.length
    · have HE : Hid (colErr kind vs = 4) := by show colErr kind vs = 4; unfold colErr; rw [if_neg hk, if_pos hv]
      have d0 : decide (kind < 0) = false := by simp; omega
      have d1 : decide ((4 : Int) ≤ kind) = false := by simp; omega
      have d2 : decide ((16384 : Int) < (vs.length : Int)) = true := by simp; omega
      clear hk hr hi
      go_enter Try.func15, Try.ntmps15
      go_wp2_with fail
      go_ret2
      exact ⟨_, by rw [HE.out]; rfl, by rw [colB_no (by rw [HE.out]; decide)]; exact Byts.nil _ _, only_refl _ _⟩
    · have h4 : kind = 0 ∨ kind = 1 ∨ kind = 2 ∨ kind = 3 := by omega
      rcases h4 with rfl | rfl | rfl | rfl
      · exact encas_0 A vs c w hr (by omega) hi
      · exact encas_1 A vs c w hr (by omega) hi
      · exact encas_2 A vs c w hr (by omega) hi
      · exact encas_3 A vs c w hr (by omega) hi

def sh (b best : List Int) : List Int := if b.length < best.length then b else best
def bestTo (vs : List Int) : Nat → List Int
  | 0 => []
  | 1 => colB 0 vs
  | k + 2 => sh (colB (k + 1 : Nat) vs) (bestTo vs (k + 1))
theorem best_step (vs : List Int) {k : Nat} (h : 1 ≤ k) : bestTo vs (k + 1) = sh (colB (k : Nat) vs) (bestTo vs k) := by
  obtain ⟨j, rfl⟩ : ∃ j, k = j + 1 := ⟨k - 1, by omega⟩
  rfl
theorem Byts.base {b b' : Nat} {w : World} {v : Value} {xs : List Int} (h : Byts b w v xs) (hb : b' ≤ b) : Byts b' w v xs := by
  obtain ⟨h1, h2⟩ := h
  refine ⟨h1, ?_⟩
  rcases h2 with h2 | ⟨g, cap, cur, e, hg, r⟩
  · exact .inl h2
  · exact .inr ⟨g, cap, cur, e, Nat.le_trans hb hg, r⟩
theorem Byts.slice {b : Nat} {w : World} {v : Value} {xs : List Int} (h : Byts b w v xs) : ∃ A c, v = .slice A xs.length c := by
  obtain ⟨A, c, h, _⟩ := h.rd
  exact ⟨A, c, h⟩
theorem colErr_k {vs : List Int} (h : vs.length ≤ 16384) {k : Nat} (hk : k ≤ 3) : colErr (k : Nat) vs = 0 := by
  unfold colErr; rw [if_neg (by omega), if_neg (by omega)]
theorem colErr_big {vs : List Int} (h : 16384 < vs.length) {k : Nat} (hk : k ≤ 3) : colErr (k : Nat) vs = 4 := by
  unfold colErr; rw [if_neg (by omega), if_pos h]
def EPost (w : World) (vs : List Int) (e : Ending) (w' : World) : Prop :=
  ∃ v, e = .returned (.tuple #[v, .int .i64 (if 16384 < vs.length then 4 else 0)]) ∧ Byts w.heap.size w' v (bestTo vs 4) ∧ w.grownBy w' none
theorem best_big {vs : List Int} (h : 16384 < vs.length) : bestTo vs 4 = [] := by
  have e : ∀ k : Nat, k ≤ 3 → colB (k : Nat) vs = [] := fun k hk => colB_no (by rw [colErr_big h hk]; decide)
  simp only [bestTo, e 1 (by omega), e 2 (by omega), e 3 (by omega), sh]
  simp

set_option maxHeartbeats 1000000 in
set_option maxRecDepth 100000 in
theorem encode_any (A : Option Addr) (vs : List Int) (c : Nat) (w : World) (hr : Rd (fun _ => True) w A (vs.map (.int .i64))) (hl : vs.length ≤ 1000000) (hi : ∀ x ∈ vs, I64 x) :
    Calls Try.prog 16 #[.slice A vs.length c] w (EPost w vs) := by
  have HR := Lib.hid hr
  have HI := Lib.hid hi
  clear hr hi
  by_cases hv : 16384 < vs.length
  · have HE : Hid (colErr 0 vs = 4) := colErr_big (k := 0) hv (by omega)
    have HB := Lib.hid (best_big hv)
    have HV := Lib.hid hv
    clear hv
    go_enter Try.func16, Try.ntmps16
    go_wp2_with fail
    refine (encas_any 0 A vs c _ HR.out hl HI.out).mono ?_
    rintro e w1 ⟨v1, rfl, hB1, hg1⟩
    rw [colB_no (by rw [HE.out]; decide)] at hB1
    rw [HE.out]
    have B1 := Lib.hid hB1
    clear hB1
    go_wp2_with fail
    go_loopw [4, 5, 6] (fun b e k wr => b = v1 ∧ e = .int .i64 4 ∧ k = .int .i64 1 ∧ wr = w1) (fun _ _ _ _ => 0)
    case atStart => exact ⟨rfl, rfl, rfl, rfl⟩
    case round =>
      obtain ⟨rfl, rfl, rfl, rfl⟩ := hrel
      go_wp2_with fail
      go_ret2
      exact ⟨_, by rw [if_pos HV.out]; rfl, by rw [HB.out]; exact B1.out, hg1⟩
  · have HE : Hid (colErr 0 vs = 0) := colErr_k (k := 0) (by omega) (by omega)
    have HV := Lib.hid hv
    go_enter Try.func16, Try.ntmps16
    go_wp2_with fail
    refine (encas_any 0 A vs c _ HR.out hl HI.out).mono ?_
    rintro e w1 ⟨v1, rfl, hB1, hg1⟩
    rw [HE.out]
    have B1 := Lib.hid hB1
    have G1 := Lib.hid hg1
    clear hB1 hg1
    go_wp2_with fail
    go_loopw [4, 5, 6] (fun b e i wr => ∃ k : Nat, 1 ≤ k ∧ k ≤ 4 ∧ e = .int .i64 0 ∧ i = .int .i64 k ∧ Byts w.heap.size wr b (bestTo vs k) ∧ w.grownBy wr none) (fun _ _ i _ => 4 - (intOf i).toNat)
    case atStart => exact ⟨1, by omega, by omega, rfl, rfl, B1.out, G1.out⟩
    case round =>
      obtain ⟨k, hk1, hk2, rfl, rfl, hB, hG⟩ := hrel
      have HG := Lib.hid hG
      obtain ⟨Ab, cb, rfl⟩ := hB.slice
      have HB := Lib.hid hB
      have hz := hG.size
      clear hB hG B1 G1
      by_cases hk3 : k ≤ 3
      · have d3 : decide ((k : Int) ≤ 3) = true := by simp; omega
        have HEk : Hid (colErr (k : Nat) vs = 0) := colErr_k (by omega) hk3
        have HS := Lib.hid (best_step vs hk1)
        go_wp2_with fail
        refine (encas_any (k : Nat) A vs c _ (HR.out.grown HG.out (by simp)) hl HI.out).mono ?_
        rintro e w2 ⟨v2, rfl, hB2, hg2⟩
        rw [HEk.out]
        obtain ⟨A2, c2, rfl⟩ := hB2.slice
        have B2 := Lib.hid (hB2.base hz)
        have BK := Lib.hid (own_ext HB.out hg2)
        have G2 : Hid (w.grownBy w2 none) := only_trans HG.out hg2
        clear hB2 hg2
        by_cases hlt : (colB (k : Nat) vs).length < (bestTo vs k).length
        · have HF : Hid (bestTo vs (k + 1) = colB (k : Nat) vs) := by show bestTo vs (k + 1) = _; rw [HS.out]; unfold sh; rw [if_pos hlt]
          have dlt : decide (((colB (k : Nat) vs).length : Int) < ((bestTo vs k).length : Int)) = true := by simp; omega
          go_wp2_with fail
          go_roundw
          case rel => exact ⟨k + 1, by omega, by omega, rfl, by go_num, by rw [HF.out]; exact B2.out, G2.out⟩
          case measure => simp [intOf]; omega
        · have HF : Hid (bestTo vs (k + 1) = bestTo vs k) := by show bestTo vs (k + 1) = _; rw [HS.out]; unfold sh; rw [if_neg hlt]
          have dlt : decide (((colB (k : Nat) vs).length : Int) < ((bestTo vs k).length : Int)) = false := by simp; omega
          go_wp2_with fail
          go_roundw
          case rel => exact ⟨k + 1, by omega, by omega, rfl, by go_num, by rw [HF.out]; exact BK.out, G2.out⟩
          case measure => simp [intOf]; omega
      · obtain rfl : k = 4 := by omega
        go_wp2_with fail
        go_ret2
        exact ⟨_, by rw [if_neg HV.out]; rfl, HB.out, HG.out⟩
end Go.Proofs.Ytebakogdbeeljaa
