/- EncodeAs of chapter 24: the reference. Conditions: sizes. -/
import Derived.Test.YtebakogdbeeljaaColQ
import Derived.Test.YtebakogdbeeljaaColH
namespace Go.Proofs.Ytebakogdbeeljaa
open Go.RowKit
set_option linter.unusedVariables false
set_option linter.unusedSimpArgs false

theorem genTo_bound {vs : List Int} (h : ∀ x ∈ vs, I64 x) (f : Nat → List Int) (hf : ∀ i, (f i).length ≤ 10) (hl : vs.length ≤ 16384) {k : Nat} (hk : k ≤ vs.length) : (genTo f k).length ≤ 163840 := by
  have := genTo_len f 10 hf k
  omega
theorem rcol_ok {kind : Int} {vs : List Int} (he : colErr kind vs = 0) {xs : List Int} (h : xs = [kind] ++ vint vs.length ++ bodyB kind vs) : colB kind vs = xs := by
  rw [colB_ok he, h, List.append_assoc]

set_option maxHeartbeats 1000000 in
set_option maxRecDepth 100000 in
theorem rencas_err (kind : Int) (A : Option Addr) (vs : List Int) (c : Nat) (w : World) (hl : vs.length ≤ 1000000) (he : (kind < 0 ∨ 4 ≤ kind) ∨ 16384 < vs.length) :
    Calls Try.prog 19 #[.int .i64 kind, .slice A vs.length c] w (CEPost w kind vs) := by
  by_cases hk : kind < 0 ∨ 4 ≤ kind
  · have HE : Hid (colErr kind vs = 2) := by show colErr kind vs = 2; unfold colErr; rw [if_pos hk]
    clear he
    by_cases hk0 : kind < 0
    · have d0 : decide (kind < 0) = true := by simp [hk0]
      clear hk
      go_enter Try.func19, Try.ntmps19
      go_wp2_with fail
      go_ret2
      exact ⟨_, by rw [HE.out]; rfl, by rw [colB_no (by rw [HE.out]; decide)]; exact Byts.nil _ _, only_refl _ _⟩
    · have d0 : decide (kind < 0) = false := by simp; omega
      have d1 : decide ((3 : Int) < kind) = true := by simp; omega
      clear hk
      go_enter Try.func19, Try.ntmps19
      go_wp2_with fail
      go_ret2
      exact ⟨_, by rw [HE.out]; rfl, by rw [colB_no (by rw [HE.out]; decide)]; exact Byts.nil _ _, only_refl _ _⟩
  · have hv : 16384 < vs.length := by omega
    have HE : Hid (colErr kind vs = 4) := by show colErr kind vs = 4; unfold colErr; rw [if_neg hk, if_pos hv]
    have d0 : decide (kind < 0) = false := by simp; omega
    have d1 : decide ((3 : Int) < kind) = false := by simp; omega
    have d2 : decide ((16384 : Int) < (vs.length : Int)) = true := by simp; omega
    clear hk he
    go_enter Try.func19, Try.ntmps19
    go_wp2_with fail
    go_ret2
    exact ⟨_, by rw [HE.out]; rfl, by rw [colB_no (by rw [HE.out]; decide)]; exact Byts.nil _ _, only_refl _ _⟩
/-- the head: the kind and the number of values -/
def HeadAt (w : World) (kind : Int) (vs : List Int) (A : Option Addr) (v : Value) (w' : World) : Prop :=
  Byts w.heap.size w' v ([kind] ++ vint vs.length) ∧ Rd (· < w.heap.size) w' A (vs.map (.int .i64)) ∧ w.grownBy w' none

set_option maxHeartbeats 2000000 in
set_option maxRecDepth 100000 in
theorem rencas_3 (A : Option Addr) (vs : List Int) (c : Nat) (w : World) (hr : Rd (fun _ => True) w A (vs.map (.int .i64))) (hl : vs.length ≤ 16384) (hi : ∀ x ∈ vs, I64 x) :
    Calls Try.prog 19 #[.int .i64 3, .slice A vs.length c] w (CEPost w 3 vs) := by
  have HR := Lib.hid (hr.mono (S' := (· < w.heap.size)) (fun _ _ h => h))
  have HI := Lib.hid hi
  have HE : Hid (colErr 3 vs = 0) := by show colErr 3 vs = 0; unfold colErr; rw [if_neg (by decide), if_neg (by omega)]
  have hlv := vint_len10 (n := vs.length) (by omega)
  have dlen : decide ((16384 : Int) < (vs.length : Int)) = false := by simp; omega
  clear hr hi
  go_enter Try.func19, Try.ntmps19
  go_wp2_with fail
  refine (rvarint_any w.heap.size _ [3] vs.length _ (byts_one _ _ _ (Nat.le_refl _)) (by simp) (by omega) (by simp)).mono ?_
  rintro e w2 ⟨v2, rfl, hB2, hO2⟩
  have HH : Hid (HeadAt w 3 vs A v2 w2) := by
    have G2 : w.grownBy w2 none := Byts.only (byts_one w 3 w.heap.size (Nat.le_refl _)) hO2 (only_alloc (only_refl _ _) _) (Nat.le_refl _)
    exact ⟨hB2, HR.out.gr G2, G2⟩
  have hz2 := HH.out.2.2.size
  clear hB2 hO2
  go_wp2_with fail
  refine (rpack_any w.heap.size _ _ A vs c _ HH.out.1 HH.out.2.1 (by simp; omega) (by omega) HI.out hz2).mono ?_
  rintro e w3 ⟨v3, rfl, hB3, hO3⟩
  have G3 : Hid (w.grownBy w3 none) := Byts.only HH.out.1 hO3 HH.out.2.2 (Nat.le_refl _)
  have B3 := Lib.hid hB3
  clear hB3 hO3
  go_wp2_with fail
  go_ret2
  exact ⟨v3, by rw [HE.out]; rfl, by rw [rcol_ok HE.out rfl]; exact B3.out, G3.out⟩

set_option maxHeartbeats 2000000 in
set_option maxRecDepth 100000 in
theorem rencas_0 (A : Option Addr) (vs : List Int) (c : Nat) (w : World) (hr : Rd (fun _ => True) w A (vs.map (.int .i64))) (hl : vs.length ≤ 16384) (hi : ∀ x ∈ vs, I64 x) :
    Calls Try.prog 19 #[.int .i64 0, .slice A vs.length c] w (CEPost w 0 vs) := by
  have HR := Lib.hid (hr.mono (S' := (· < w.heap.size)) (fun _ _ h => h))
  have HI := Lib.hid hi
  have HE : Hid (colErr 0 vs = 0) := by show colErr 0 vs = 0; unfold colErr; rw [if_neg (by decide), if_neg (by omega)]
  have hlv := vint_len10 (n := vs.length) (by omega)
  have dlen : decide ((16384 : Int) < (vs.length : Int)) = false := by simp; omega
  clear hr hi
  go_enter Try.func19, Try.ntmps19
  go_wp2_with fail
  refine (rvarint_any w.heap.size _ [0] vs.length _ (byts_one _ _ _ (Nat.le_refl _)) (by simp) (by omega) (by simp)).mono ?_
  rintro e w2 ⟨v2, rfl, hB2, hO2⟩
  have HH : Hid (HeadAt w 0 vs A v2 w2) := by
    have G2 : w.grownBy w2 none := Byts.only (byts_one w 0 w.heap.size (Nat.le_refl _)) hO2 (only_alloc (only_refl _ _) _) (Nat.le_refl _)
    exact ⟨hB2, HR.out.gr G2, G2⟩
  have hz2 := HH.out.2.2.size
  clear hB2 hO2
  go_wp2_with fail
  go_loopw [6, 7] (fun u i wr => ∃ k : Nat, k ≤ vs.length ∧ i = .int .i64 k ∧ Byts w.heap.size wr u ([0] ++ vint vs.length ++ genTo (plF vs) k) ∧ w.grownBy wr none) (fun _ i _ => vs.length - (intOf i).toNat)
  case atStart => exact ⟨0, Nat.zero_le _, rfl, by simpa [genTo] using HH.out.1, HH.out.2.2⟩
  case round =>
    obtain ⟨k, hk, rfl, hB, hG⟩ := hrel
    have HB := Lib.hid hB
    have HG := Lib.hid hG
    have hz := hG.size
    have hgl := genTo_len (plF vs) 10 (plF_len HI.out) k
    clear hB hG HH
    by_cases hlt : k < vs.length
    · obtain ⟨b, off, x, rfl, hc, hx2⟩ := (HR.out.gr HG.out).int_at hlt
      have HX : Hid (I64 x) := by show I64 x; rw [← hx2.out]; exact getD_I64 HI.out k
      go_wp2_with fail
      refine (putint_any w.heap.size _ _ x _ HB.out (by simp; omega) HX.out hz).mono ?_
      rintro e w3 ⟨v3, rfl, hB3, hO3⟩
      have B3 : Hid (Byts w.heap.size w3 v3 ([0] ++ vint vs.length ++ genTo (plF vs) (k + 1))) := by
        show Byts w.heap.size w3 v3 ([0] ++ vint vs.length ++ (genTo (plF vs) k ++ vint (zz (vs.getD k 0))))
        rw [hx2.out, ← List.append_assoc]; exact hB3
      have G3 : Hid (w.grownBy w3 none) := HB.out.only hO3 HG.out (Nat.le_refl _)
      clear hB3 hO3
      go_wp2_with fail
      go_roundw
      case rel => exact ⟨k + 1, by omega, by go_num, B3.out, G3.out⟩
      case measure => simp [intOf]; omega
    · obtain rfl : k = vs.length := by omega
      go_wp2_with fail
      go_ret2
      exact ⟨_, by rw [HE.out]; rfl, by rw [rcol_ok HE.out rfl]; exact HB.out, HG.out⟩

set_option maxHeartbeats 2000000 in
set_option maxRecDepth 100000 in
theorem rencas_1 (A : Option Addr) (vs : List Int) (c : Nat) (w : World) (hr : Rd (fun _ => True) w A (vs.map (.int .i64))) (hl : vs.length ≤ 16384) (hi : ∀ x ∈ vs, I64 x) :
    Calls Try.prog 19 #[.int .i64 1, .slice A vs.length c] w (CEPost w 1 vs) := by
  have HR := Lib.hid (hr.mono (S' := (· < w.heap.size)) (fun _ _ h => h))
  have HI := Lib.hid hi
  have HE : Hid (colErr 1 vs = 0) := by show colErr 1 vs = 0; unfold colErr; rw [if_neg (by decide), if_neg (by omega)]
  have hlv := vint_len10 (n := vs.length) (by omega)
  have dlen : decide ((16384 : Int) < (vs.length : Int)) = false := by simp; omega
  clear hr hi
  go_enter Try.func19, Try.ntmps19
  go_wp2_with fail
  refine (rvarint_any w.heap.size _ [1] vs.length _ (byts_one _ _ _ (Nat.le_refl _)) (by simp) (by omega) (by simp)).mono ?_
  rintro e w2 ⟨v2, rfl, hB2, hO2⟩
  have HH : Hid (HeadAt w 1 vs A v2 w2) := by
    have G2 : w.grownBy w2 none := Byts.only (byts_one w 1 w.heap.size (Nat.le_refl _)) hO2 (only_alloc (only_refl _ _) _) (Nat.le_refl _)
    exact ⟨hB2, HR.out.gr G2, G2⟩
  have hz2 := HH.out.2.2.size
  clear hB2 hO2
  go_wp2_with fail
  go_loopw [6, 7] (fun u i wr => ∃ k : Nat, k ≤ vs.length ∧ i = .int .i64 k ∧ Byts w.heap.size wr u ([1] ++ vint vs.length ++ genTo (dlF vs) k) ∧ w.grownBy wr none) (fun _ i _ => vs.length - (intOf i).toNat)
  case atStart => exact ⟨0, Nat.zero_le _, rfl, by simpa [genTo] using HH.out.1, HH.out.2.2⟩
  case round =>
    obtain ⟨k, hk, rfl, hB, hG⟩ := hrel
    have HB := Lib.hid hB
    have HG := Lib.hid hG
    have hz := hG.size
    have hgl := genTo_len (dlF vs) 10 (dlF_len HI.out) k
    clear hB hG HH
    by_cases hlt : k < vs.length
    · obtain ⟨b, off, x, rfl, hc, hx2⟩ := (HR.out.gr HG.out).int_at hlt
      have HX : Hid (I64 x) := by show I64 x; rw [← hx2.out]; exact getD_I64 HI.out k
      by_cases hk0 : k = 0
      · have HD : Hid (dl vs k = x) := by show dl vs k = x; unfold dl; rw [if_pos hk0, ← hx2.out, hk0]
        have dk : decide ((0 : Int) < (k : Int)) = false := by simp; omega
        have dk2 : decide (0 < k) = false := by simp; omega
        clear hk0
        go_wp2_with fail
        refine (putint_any w.heap.size _ _ x _ HB.out (by simp; omega) HX.out hz).mono ?_
        rintro e w3 ⟨v3, rfl, hB3, hO3⟩
        have B3 : Hid (Byts w.heap.size w3 v3 ([1] ++ vint vs.length ++ genTo (dlF vs) (k + 1))) := by
          show Byts w.heap.size w3 v3 ([1] ++ vint vs.length ++ (genTo (dlF vs) k ++ vint (zz (dl vs k))))
          rw [HD.out, ← List.append_assoc]; exact hB3
        have G3 : Hid (w.grownBy w3 none) := HB.out.only hO3 HG.out (Nat.le_refl _)
        clear hB3 hO3
        go_wp2_with fail
        go_roundw
        case rel => exact ⟨k + 1, by omega, by go_num, B3.out, G3.out⟩
        case measure => simp [intOf]; omega
      · obtain ⟨j, rfl⟩ : ∃ j, k = j + 1 := ⟨k - 1, by omega⟩
        obtain ⟨y, hcy, hy2⟩ := (HR.out.gr HG.out).int_at' (k := j) (by omega)
        have HD : Hid (wrap64 (x - y) = dl vs (j + 1)) := by
          show wrap64 (x - y) = dl vs (j + 1)
          unfold dl; rw [if_neg (by omega), hx2.out, Nat.add_sub_cancel, hy2.out, IntWalk.i64_left]
        have HW : Hid (I64 (wrap64 (x - y))) := by show I64 (wrap64 (x - y)); rw [HD.out]; exact dl_I64 HI.out _
        have dk : decide ((0 : Int) < ((j + 1 : Nat) : Int)) = true := decide_eq_true (by omega)
        have dk2 : decide ((0 : Int) < (j : Int) + 1) = true := decide_eq_true (by omega)
        have i1 : (j : Int) < (vs.length : Int) := by omega
        have i2 : (j : Int) + 1 < (vs.length : Int) := by omega
        have i3 : (0 : Int) ≤ (j : Int) := by omega
        have i4 : (0 : Int) ≤ (j : Int) + 1 := by omega
        have i5 : ((j : Int) + 1).toNat = j + 1 := by omega
        have hwj : IntKind.i64.wrap (j : Int) = (j : Int) := i64_nat (by omega)
        clear hk0
        go_wp2_with fail
        go_still_tail 11, (by kernel_rfl)
        clear hwj i5
        change wpList _ _ _ _ _ wr.drew
        go_wp2_with fail
        refine (putint_any w.heap.size _ _ _ _ (own_drew HB.out) (by simp; omega) HW.out (by exact hz)).mono ?_
        rintro e w3 ⟨v3, rfl, hB3, hO3⟩
        have B3 : Hid (Byts w.heap.size w3 v3 ([1] ++ vint vs.length ++ genTo (dlF vs) (j + 1 + 1))) := by
          show Byts w.heap.size w3 v3 ([1] ++ vint vs.length ++ (genTo (dlF vs) (j + 1) ++ vint (zz (dl vs (j + 1)))))
          rw [← HD.out, ← List.append_assoc]; exact hB3
        have G3 : Hid (w.grownBy w3 none) := Byts.only (own_drew HB.out) hO3 (only_drew HG.out) (Nat.le_refl _)
        clear hB3 hO3
        go_wp2_with fail
        go_roundw
        case rel => exact ⟨j + 1 + 1, by omega, by go_num, B3.out, G3.out⟩
        case measure => simp [intOf]; omega
    · obtain rfl : k = vs.length := by omega
      go_wp2_with fail
      go_ret2
      exact ⟨_, by rw [HE.out]; rfl, by rw [rcol_ok HE.out rfl]; exact HB.out, HG.out⟩

set_option maxHeartbeats 2000000 in
set_option maxRecDepth 100000 in
theorem rencas_2 (A : Option Addr) (vs : List Int) (c : Nat) (w : World) (hr : Rd (fun _ => True) w A (vs.map (.int .i64))) (hl : vs.length ≤ 16384) (hi : ∀ x ∈ vs, I64 x) :
    Calls Try.prog 19 #[.int .i64 2, .slice A vs.length c] w (CEPost w 2 vs) := by
  have HR := Lib.hid (hr.mono (S' := (· < w.heap.size)) (fun _ _ h => h))
  have HI := Lib.hid hi
  have HE : Hid (colErr 2 vs = 0) := by show colErr 2 vs = 0; unfold colErr; rw [if_neg (by decide), if_neg (by omega)]
  have hlv := vint_len10 (n := vs.length) (by omega)
  have dlen : decide ((16384 : Int) < (vs.length : Int)) = false := by simp; omega
  clear hr hi
  go_enter Try.func19, Try.ntmps19
  go_wp2_with fail
  refine (rvarint_any w.heap.size _ [2] vs.length _ (byts_one _ _ _ (Nat.le_refl _)) (by simp) (by omega) (by simp)).mono ?_
  rintro e w2 ⟨v2, rfl, hB2, hO2⟩
  have HH : Hid (HeadAt w 2 vs A v2 w2) := by
    have G2 : w.grownBy w2 none := Byts.only (byts_one w 2 w.heap.size (Nat.le_refl _)) hO2 (only_alloc (only_refl _ _) _) (Nat.le_refl _)
    exact ⟨hB2, HR.out.gr G2, G2⟩
  have hz2 := HH.out.2.2.size
  clear hB2 hO2
  go_wp2_with fail
  go_loopw [6, 7] (fun u i wr => ∃ (k : Nat) (ys : List Int), k ≤ vs.length ∧ i = .int .i64 k ∧ Byts w.heap.size wr u ([2] ++ vint vs.length ++ ys) ∧ ys ++ runsB (vs.drop k) = runsB vs ∧ ys.length ≤ 20 * k ∧ w.grownBy wr none) (fun _ i _ => vs.length - (intOf i).toNat)
  case atStart => exact ⟨0, [], Nat.zero_le _, rfl, by simpa using HH.out.1, by simp, by simp, HH.out.2.2⟩
  case round =>
    obtain ⟨k, ys, hk, rfl, hB, hY, hyl, hG⟩ := hrel
    have HB := Lib.hid hB
    have HG := Lib.hid hG
    have HY := Lib.hid hY
    have hz := hG.size
    clear hB hG HH hY
    by_cases hlt : k < vs.length
    · obtain ⟨b, off, x, rfl, hc, hx2⟩ := (HR.out.gr HG.out).int_at hlt
      have HX : Hid (I64 x) := by show I64 x; rw [← hx2.out]; exact getD_I64 HI.out k
      obtain ⟨wo, rfl⟩ : ∃ wo : World, wo = wr := ⟨_, rfl⟩
      have RO := Lib.hid (HR.out.gr HG.out)
      go_wp2_with fail
      go_loopw [7, 8] (fun i n wi => ∃ m : Nat, k + m < vs.length ∧ i = .int .i64 ((k + m : Nat) : Int) ∧ n = .int .i64 ((m + 1 : Nat) : Int) ∧ (∀ i, k ≤ i → i < k + m + 1 → vs.getD i 0 = vs.getD k 0) ∧ ∃ q, wi = wo.drewN q) (fun i _ _ => vs.length - (intOf i).toNat)
      case atStart => exact ⟨0, by omega, rfl, rfl, (fun i h1 h2 => by rw [show i = k from by omega]), 0, rfl⟩
      case round =>
        obtain ⟨m, hm, rfl, rfl, hall, q, rfl⟩ := hrel
        have AL := Lib.hid hall
        clear hall
        obtain ⟨t, ht⟩ : ∃ t, t = k + m := ⟨_, rfl⟩
        rw [← ht]
        rw [← ht] at hm AL
        obtain ⟨z, hcz, hz2⟩ := RO.out.int_at' hm
        obtain rfl : z = x := by have h1 := AL.out t (by omega) (by omega); rw [hz2.out, hx2.out] at h1; exact h1
        have HT := Lib.hid ht
        have htk : k ≤ t := by omega
        have hmb : m ≤ 16384 := by omega
        have i1 : (t : Int) < (vs.length : Int) := by omega
        clear ht
        by_cases htl : t + 1 < vs.length
        · obtain ⟨y, hcy, hy2⟩ := RO.out.int_at' htl
          have i2 : (t : Int) + 1 < (vs.length : Int) := by omega
          have i4 : (0 : Int) ≤ (t : Int) + 1 := by omega
          have i5 : ((t : Int) + 1).toNat = t + 1 := by omega
          have hwt : IntKind.i64.wrap ((t : Int) + 1) = (t : Int) + 1 := IntWalk.i64_in _ (by omega)
          by_cases hxy : y = z
          · have t1 : (y == z) = true := by simp [hxy]
            have HXY := Lib.hid hxy
            clear hxy
            go_wp2_with fail
            go_quiet (fail)
            clear hwt i5
            go_wp2_with fail
            go_roundw
            case rel =>
              refine ⟨m + 1, by rw [← Nat.add_assoc, ← HT.out]; exact htl, by rw [← Nat.add_assoc, ← HT.out]; go_num, by go_num, fun i h1 h2 => ?_, _, rfl⟩
              rw [← Nat.add_assoc, ← HT.out] at h2
              rcases Nat.lt_or_ge i (t + 1) with h | h
              · exact AL.out i h1 h
              · obtain rfl : i = t + 1 := by omega
                rw [hy2.out, hx2.out, HXY.out]
            case measure => simp [intOf]; omega
          · have t1 : (y == z) = false := by simp [hxy]
            have HS := Lib.hid (runs_step (j := t + 1) (show k < t + 1 by omega) (by omega) AL.out (.inr (by rw [hy2.out, hx2.out]; exact hxy)))
            clear hxy
            go_wp2_with fail
            go_quiet (fail)
            clear hwt i5
            go_wp2_with fail
            refine (putint_any w.heap.size _ _ z _ (HB.out.drewN _) (by simp; omega) HX.out (by exact hz)).mono ?_
            rintro e w3 ⟨v3, rfl, hB3, hO3⟩
            have B3 := Lib.hid hB3
            have G3 : Hid (w.grownBy w3 none) := Byts.only (HB.out.drewN _) hO3 (only_drewN HG.out _) (Nat.le_refl _)
            have hz3 := G3.out.size
            have hv3 := vint_len10 (zz_lt HX.out)
            clear hB3 hO3
            go_wp2_with fail
            rw [show ((m : Int) + 1) = ((m + 1 : Nat) : Int) from by omega]
            refine (rvarint_any w.heap.size _ _ (m + 1) _ B3.out (by simp; omega) (by omega) hz3).mono ?_
            rintro e w4 ⟨v4, rfl, hB4, hO4⟩
            have B4 : Hid (Byts w.heap.size w4 v4 ([2] ++ vint vs.length ++ (ys ++ (vint (zz z) ++ vint (m + 1))))) := by
              show Byts _ _ _ _
              simpa only [List.append_assoc] using hB4
            have G4 : Hid (w.grownBy w4 none) := B3.out.only hO4 G3.out (Nat.le_refl _)
            have E4 : Hid ((ys ++ (vint (zz z) ++ vint (m + 1))) ++ runsB (vs.drop (t + 1)) = runsB vs) := by
              show _ = _
              rw [← HY.out, HS.out, hx2.out, show t + 1 - k = m + 1 from by have := HT.out; omega]; simp
            have hv4 := vint_len10 (n := m + 1) (by omega)
            clear hB4 hO4
            go_wp2_with fail
            go_roundw
            case rel => exact ⟨t + 1, _, by omega, by go_num, B4.out, E4.out, by simp only [List.length_append]; omega, G4.out⟩
            case measure => simp [intOf]; omega
        · have dt : decide ((t : Int) + 1 < (vs.length : Int)) = false := decide_eq_false (by omega)
          have hwt : IntKind.i64.wrap ((t : Int) + 1) = (t : Int) + 1 := IntWalk.i64_in _ (by omega)
          have HS := Lib.hid (runs_step (j := t + 1) (show k < t + 1 by omega) (by omega) AL.out (.inl (by omega)))
          go_wp2_with fail
          go_quiet (fail)
          clear hwt
          go_wp2_with fail
          refine (putint_any w.heap.size _ _ z _ (HB.out.drewN _) (by simp; omega) HX.out (by exact hz)).mono ?_
          rintro e w3 ⟨v3, rfl, hB3, hO3⟩
          have B3 := Lib.hid hB3
          have G3 : Hid (w.grownBy w3 none) := Byts.only (HB.out.drewN _) hO3 (only_drewN HG.out _) (Nat.le_refl _)
          have hz3 := G3.out.size
          have hv3 := vint_len10 (zz_lt HX.out)
          clear hB3 hO3
          go_wp2_with fail
          rw [show ((m : Int) + 1) = ((m + 1 : Nat) : Int) from by omega]
          refine (rvarint_any w.heap.size _ _ (m + 1) _ B3.out (by simp; omega) (by omega) hz3).mono ?_
          rintro e w4 ⟨v4, rfl, hB4, hO4⟩
          have B4 : Hid (Byts w.heap.size w4 v4 ([2] ++ vint vs.length ++ (ys ++ (vint (zz z) ++ vint (m + 1))))) := by
            show Byts _ _ _ _
            simpa only [List.append_assoc] using hB4
          have G4 : Hid (w.grownBy w4 none) := B3.out.only hO4 G3.out (Nat.le_refl _)
          have E4 : Hid ((ys ++ (vint (zz z) ++ vint (m + 1))) ++ runsB (vs.drop (t + 1)) = runsB vs) := by
            show _ = _
            rw [← HY.out, HS.out, hx2.out, show t + 1 - k = m + 1 from by have := HT.out; omega]; simp
          have hv4 := vint_len10 (n := m + 1) (by omega)
          clear hB4 hO4
          go_wp2_with fail
          go_roundw
          case rel => exact ⟨t + 1, _, by omega, by go_num, B4.out, E4.out, by simp only [List.length_append]; omega, G4.out⟩
          case measure => simp [intOf]; omega
    · obtain rfl : k = vs.length := by omega
      have HF : Hid (ys = runsB vs) := by
        show ys = runsB vs
        rw [← HY.out, List.drop_length, runsB_nil, List.append_nil]
      go_wp2_with fail
      go_ret2
      exact ⟨_, by rw [HE.out]; rfl, by rw [rcol_ok HE.out rfl]; rw [HF.out] at HB; exact HB.out, HG.out⟩
end Go.Proofs.Ytebakogdbeeljaa
