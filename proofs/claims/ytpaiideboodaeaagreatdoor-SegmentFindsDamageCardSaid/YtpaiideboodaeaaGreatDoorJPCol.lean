/- XColV .. XColJ: what is of the program (parted by mkpcol.py). Conditions: as there. -/
import Derived.Test.YtpaiideboodaeaaGreatDoorJRCol
import Derived.Test.YtpaiideboodaeaaGreatDoorJRTermsJ
import Derived.Test.YtpaiideboodaeaaGreatDoorJStr
import Derived.Laws.Bits64
import Derived.Deep.DeepMust
import Derived.Test.YtpaiideboodaeaaGreatDoorJBase
import Derived.RegionTactic
import Derived.Laws.MakeOwn
import Derived.BigRegion
import Derived.StillTailTactics
import Derived.Deep.RegionWith
import Derived.Laws.EntriesVeiled
namespace Go.Proofs.YtpaiideboodaeaaGreatDoor
open Go.RowKit
set_option linter.unusedVariables false
set_option linter.unusedSimpArgs false

set_option maxHeartbeats 1000000 in
set_option maxRecDepth 100000 in
theorem cvarint_any (base : Nat) (v : Value) (xs : List Int) (n : Nat) (w : World) (h : Byts base w v xs) (hx : xs.length ≤ 5000000) (hn : n < 18446744073709551616) (hb : base ≤ w.heap.size) :
    Calls Tryz.prog 103 #[v, .int .u64 n] w (VPost base w v (xs ++ vint n)) := by
  have H := Lib.hid h
  have HN := Lib.hid hn
  clear h hn
  go_enter Tryz.func103, Tryz.ntmps103
  go_wp2_with fail
  go_loopw [0, 1] (fun u i wr => ∃ (m : Nat) (ys : List Int), m ≤ n ∧ i = .int .u64 m ∧ Byts base wr u ys ∧ ys ++ vint m = xs ++ vint n ∧ Onto w v u wr) (fun _ i _ => (intOf i).toNat)
  case atStart => exact ⟨n, xs, Nat.le_refl _, rfl, H.out, rfl, Onto.refl _ _⟩
  case round =>
    obtain ⟨m, ys, hm, rfl, hB, he, hO⟩ := hrel
    have hl : ys.length ≤ 5000010 := by
      have h1 := congrArg List.length he
      have h2 := vint_len10 HN.out
      simp at h1
      omega
    have HO := Lib.hid hO
    have HE := Lib.hid he
    have HB := Lib.hid hB
    have hz := hO.1.size
    clear hO he hB
    by_cases hc : 127 < m
    · have HV := Lib.hid (vb_u64 m (Nat.lt_of_le_of_lt hm HN.out))
      have HV2 := Lib.hid (vint_ge (n := m) (by omega))
      go_wp2_with (at_builtin; refine wpList_append1 rfl _ _ 22 rfl base Tryz.underlying22 byteInfo rfl (by decide) (v := _) (by rfl) (w0 := _) (cs := #[.int .u8 (bits BinOp.or IntKind.u64 (bits BinOp.and IntKind.u64 (m : Int) 127) 128 % 256)]) HB.out (by rfl) rfl (by simp [Value.oneCell']) (by decide) (by omega) (by omega) ?_; intro v1 w1 hv1 hg1 hob1)
      rw [HV.out] at hv1
      have B1 := Lib.hid (Byts.snoc hv1)
      have O1 := Lib.hid (HO.out.trans (onto_ap hg1 hob1))
      clear hv1 hg1 hob1
      go_wp2_with fail
      go_roundw
      case rel => exact ⟨m / 128, ys ++ [((m % 128 + 128 : Nat) : Int)], by omega, by simp, B1.out, by rw [← HE.out, HV2.out]; simp, O1.out⟩
      case measure => simp [intOf]; omega
    · have HV2 := Lib.hid (vint_lt (n := m) (by omega))
      have hd : decide ((127 : Int) < (m : Int)) = false := by simp; omega
      have hd2 : decide (127 < m) = false := by simp; omega
      go_wp2_with (at_builtin; refine wpList_append1 rfl _ _ 22 rfl base Tryz.underlying22 byteInfo rfl (by decide) (v := _) (by rfl) (w0 := _) (cs := #[.int .u8 (m : Int)]) HB.out (by rfl) rfl (by simp [Value.oneCell']) (by decide) (by omega) (by omega) ?_; intro v1 w1 hv1 hg1 hob1)
      have B1 := Lib.hid (Byts.snoc hv1)
      have O1 := Lib.hid (HO.out.trans (onto_ap hg1 hob1))
      clear hv1 hg1 hob1
      go_wp2_with fail
      go_ret
      exact ⟨v1, rfl, by rw [← HE.out, HV2.out]; exact B1.out, O1.out⟩

set_option maxHeartbeats 1000000 in
set_option maxRecDepth 100000 in
theorem zigzag_any (x : Int) (w : World) (h : -9223372036854775808 ≤ x ∧ x ≤ 9223372036854775807) : Calls Tryz.prog 209 #[.int .i64 x] w (Quiet (.int .u64 (zz x : Nat)) w) := by
  have HX := Lib.hid h
  clear h
  go_enter Tryz.func209, Tryz.ntmps209
  go_wp2_with fail
  go_ret
  exact ⟨ret_int (zz_bits HX.out), 0, rfl⟩
set_option maxHeartbeats 1000000 in
set_option maxRecDepth 100000 in
theorem plain_any (base : Nat) (v : Value) (xs : List Int) (A : Option Addr) (vs : List Int) (c : Nat) (w : World) (h : Byts base w v xs) (hr : Rd (· < base) w A (vs.map (.int .i64))) (hx : xs.length ≤ 1000000) (hl : vs.length ≤ 20000) (hi : ∀ x ∈ vs, I64 x) (hb : base ≤ w.heap.size) :
    Calls Tryz.prog 162 #[v, .slice A vs.length c] w (VPost base w v (xs ++ genTo (plF vs) vs.length)) := by
  have H := Lib.hid h
  have HR := Lib.hid hr
  have HI := Lib.hid hi
  clear h hr hi
  go_enter Tryz.func162, Tryz.ntmps162
  go_wp2_with fail
  go_loopw [0, 9] (fun u i wr => ∃ k : Nat, k ≤ vs.length ∧ i = .int .i64 k ∧ Byts base wr u (xs ++ genTo (plF vs) k) ∧ Rd (· < base) wr A (vs.map (.int .i64)) ∧ Onto w v u wr) (fun _ i _ => vs.length - (intOf i).toNat)
  case atStart => exact ⟨0, Nat.zero_le _, rfl, by simpa [genTo] using H.out, HR.out, Onto.refl _ _⟩
  case round =>
    obtain ⟨k, hk, rfl, hB, hRd, hO⟩ := hrel
    have HB := Lib.hid hB
    have HO := Lib.hid hO
    have RD := Lib.hid hRd
    have hz := hO.1.size
    have hg := genTo_len (plF vs) 10 (plF_len HI.out) k
    clear hB hO hRd
    by_cases hlt : k < vs.length
    · obtain ⟨b, off, x, rfl, hc, hx2⟩ := RD.out.int_at hlt
      have HX : Hid (I64 x) := by show I64 x; rw [← hx2.out]; exact getD_I64 HI.out k
      go_wp2_with fail
      refine (zigzag_any x _ HX.out).mono ?_
      rintro e w1 ⟨rfl, n1, rfl⟩
      go_wp2_with fail
      refine (cvarint_any base _ _ (zz x) _ (HB.out.drewN _) (by rw [List.length_append]; omega) (zz_lt HX.out) (by show base ≤ wr.heap.size; omega)).mono ?_
      rintro e w2 ⟨v2, rfl, hB2, hO2⟩
      have B2 : Hid (Byts base w2 v2 (xs ++ genTo (plF vs) (k + 1))) := by
        show Byts base w2 v2 (xs ++ (genTo (plF vs) k ++ vint (zz (vs.getD k 0))))
        rw [hx2.out, ← List.append_assoc]; exact hB2
      have R2 : Hid (Rd (· < base) w2 (some ⟨b, off, none⟩) (vs.map (.int .i64))) := (RD.out.drewN n1).onto hO2 HB.out.ne
      have O2 : Hid (Onto w v v2 w2) := (HO.out.drewN n1).trans hO2
      clear hB2 hO2
      go_wp2_with fail
      go_roundw
      case rel => exact ⟨k + 1, by omega, by go_num, B2.out, R2.out, O2.out⟩
      case measure => simp [intOf]; omega
    · obtain rfl : k = vs.length := by omega
      go_wp2_with fail
      go_ret
      exact ⟨_, rfl, HB.out, HO.out⟩

set_option maxHeartbeats 1000000 in
set_option maxRecDepth 100000 in
theorem delta_any (base : Nat) (v : Value) (xs : List Int) (A : Option Addr) (vs : List Int) (c : Nat) (w : World) (h : Byts base w v xs) (hr : Rd (· < base) w A (vs.map (.int .i64))) (hx : xs.length ≤ 1000000) (hl : vs.length ≤ 20000) (hi : ∀ x ∈ vs, I64 x) (hb : base ≤ w.heap.size) :
    Calls Tryz.prog 163 #[v, .slice A vs.length c] w (VPost base w v (xs ++ genTo (dlF vs) vs.length)) := by
  have H := Lib.hid h
  have HR := Lib.hid hr
  have HI := Lib.hid hi
  clear h hr hi
  go_enter Tryz.func163, Tryz.ntmps163
  go_wp2_with fail
  go_loopw [0, 5, 10] (fun u la i wr => ∃ (k : Nat) (y : Int), k ≤ vs.length ∧ i = .int .i64 k ∧ la = .int .i64 y ∧ y = (if k = 0 then 0 else vs.getD (k - 1) 0) ∧ Byts base wr u (xs ++ genTo (dlF vs) k) ∧ Rd (· < base) wr A (vs.map (.int .i64)) ∧ Onto w v u wr) (fun _ _ i _ => vs.length - (intOf i).toNat)
  case atStart => exact ⟨0, 0, Nat.zero_le _, rfl, rfl, rfl, by simpa [genTo] using H.out, HR.out, Onto.refl _ _⟩
  case round =>
    obtain ⟨k, y, hk, rfl, rfl, hy, hB, hRd, hO⟩ := hrel
    have HY := Lib.hid hy
    have HB := Lib.hid hB
    have HO := Lib.hid hO
    have RD := Lib.hid hRd
    have hz := hO.1.size
    have hg := genTo_len (dlF vs) 10 (dlF_len HI.out) k
    clear hB hO hRd hy
    by_cases hlt : k < vs.length
    · obtain ⟨b, off, x, rfl, hc, hx2⟩ := RD.out.int_at hlt
      have HX : Hid (I64 x) := by show I64 x; rw [← hx2.out]; exact getD_I64 HI.out k
      have HD : Hid (wrap64 (x - y) = dl vs k) := by
        show wrap64 (x - y) = dl vs k
        rw [← IntWalk.i64_left]
        rw [HY.out]
        unfold dl
        have := HX.out
        by_cases h0 : k = 0
        · subst h0
          rw [if_pos rfl, if_pos rfl, hx2.out, IntKind.wrap_i64]; unfold I64 at this; omega
        · rw [if_neg h0, if_neg h0, hx2.out]
      have HW : Hid (I64 (wrap64 (x - y))) := by show I64 (wrap64 (x - y)); rw [HD.out]; exact dl_I64 HI.out k
      have HN : Hid (x = if k + 1 = 0 then 0 else vs.getD (k + 1 - 1) 0) := by
        show x = if k + 1 = 0 then 0 else vs.getD (k + 1 - 1) 0
        rw [if_neg (by omega)]; exact hx2.out.symm
      go_wp2_with fail
      refine (zigzag_any _ _ HW.out).mono ?_
      rintro e w1 ⟨rfl, n1, rfl⟩
      go_wp2_with fail
      refine (cvarint_any base _ _ (zz (wrap64 (x - y))) _ (HB.out.drewN _) (by rw [List.length_append]; omega) (zz_lt HW.out) (by show base ≤ wr.heap.size; omega)).mono ?_
      rintro e w2 ⟨v2, rfl, hB2, hO2⟩
      have B2 : Hid (Byts base w2 v2 (xs ++ genTo (dlF vs) (k + 1))) := by
        show Byts base w2 v2 (xs ++ (genTo (dlF vs) k ++ vint (zz (dl vs k))))
        rw [← HD.out, ← List.append_assoc]; exact hB2
      have R2 : Hid (Rd (· < base) w2 (some ⟨b, off, none⟩) (vs.map (.int .i64))) := (RD.out.drewN n1).onto hO2 HB.out.ne
      have O2 : Hid (Onto w v v2 w2) := (HO.out.drewN n1).trans hO2
      clear hB2 hO2
      go_wp2_with fail
      go_roundw
      case rel => exact ⟨k + 1, x, by omega, by go_num, rfl, HN.out, B2.out, R2.out, O2.out⟩
      case measure => simp [intOf]; omega
    · obtain rfl : k = vs.length := by omega
      go_wp2_with fail
      go_ret
      exact ⟨_, rfl, HB.out, HO.out⟩
set_option maxHeartbeats 2000000 in
set_option maxRecDepth 100000 in
theorem cruns_any (base : Nat) (v : Value) (xs : List Int) (A : Option Addr) (vs : List Int) (c : Nat) (w : World) (h : Byts base w v xs) (hr : Rd (· < base) w A (vs.map (.int .i64))) (hx : xs.length ≤ 1000000) (hl : vs.length ≤ 20000) (hi : ∀ x ∈ vs, I64 x) (hb : base ≤ w.heap.size) :
    Calls Tryz.prog 164 #[v, .slice A vs.length c] w (VPost base w v (xs ++ runsB vs)) := by
  have H := Lib.hid h
  have HR := Lib.hid hr
  have HI := Lib.hid hi
  clear h hr hi
  go_enter Tryz.func164, Tryz.ntmps164
  go_wp2_with fail
  go_loopw [0, 5, 6] (fun u i j wr => ∃ (k : Nat) (ys : List Int), k ≤ vs.length ∧ i = .int .i64 k ∧ j = .int .i64 k ∧ Byts base wr u (xs ++ ys) ∧ ys ++ runsB (vs.drop k) = runsB vs ∧ ys.length ≤ 20 * k ∧ Rd (· < base) wr A (vs.map (.int .i64)) ∧ Onto w v u wr) (fun _ i _ _ => vs.length - (intOf i).toNat)
  case atStart => exact ⟨0, [], Nat.zero_le _, rfl, rfl, by simpa using H.out, by simp, by simp, HR.out, Onto.refl _ _⟩
  case round =>
    obtain ⟨k, ys, hk, rfl, rfl, hB, hE, hY, hRd, hO⟩ := hrel
    have HB := Lib.hid hB
    have HO := Lib.hid hO
    have RD := Lib.hid hRd
    have HE := Lib.hid hE
    have hz := hO.1.size
    clear hB hO hRd hE
    by_cases hlt : k < vs.length
    · obtain ⟨b, off, x, rfl, hc, hx2⟩ := RD.out.int_at hlt
      have HX : Hid (I64 x) := by show I64 x; rw [← hx2.out]; exact getD_I64 HI.out k
      obtain ⟨wo, rfl⟩ : ∃ wo : World, wo = wr := ⟨_, rfl⟩
      go_wp2_with fail
      go_loopw [6] (fun j wi => ∃ (t : Nat), k ≤ t ∧ t ≤ vs.length ∧ j = .int .i64 t ∧ (∀ i, k ≤ i → i < t → vs.getD i 0 = vs.getD k 0) ∧ ∃ q, wi = wo.drewN q) (fun j _ => vs.length - (intOf j).toNat)
      case atStart => exact ⟨k, Nat.le_refl _, hk, rfl, (fun i h1 h2 => absurd h1 (by omega)), 0, rfl⟩
      case round =>
        obtain ⟨t, ht1, ht2, rfl, hall, q, rfl⟩ := hrel
        have AL := Lib.hid hall
        clear hall
        have hki : (k : Int) < (vs.length : Int) := by omega
        by_cases htl : t < vs.length
        · obtain ⟨y, hcy, hy2⟩ := RD.out.int_at' htl
          have hti : (t : Int) < (vs.length : Int) := by omega
          by_cases hxy : y = x
          · have t1 : (y == x) = true := by simp [hxy]
            have HXY := Lib.hid hxy
            clear hxy
            go_wp2_with fail
            go_quiet (fail)
            go_wp2_with fail
            go_roundw
            case rel =>
              refine ⟨t + 1, by omega, by omega, by go_num, fun i h1 h2 => ?_, _, rfl⟩
              rcases Nat.lt_or_ge i t with h | h
              · exact AL.out i h1 h
              · obtain rfl : i = t := by omega
                rw [hy2.out, hx2.out, HXY.out]
            case measure => simp [intOf]; omega
          · have t1 : (y == x) = false := by simp [hxy]
            have hkt : k < t := by
              rcases Nat.lt_or_ge k t with h | h
              · exact h
              · obtain rfl : k = t := by omega
                have h1 := hy2.out; rw [hx2.out] at h1; exact absurd h1.symm hxy
            have HS := Lib.hid (runs_step hkt ht2 AL.out (.inr (by rw [hy2.out, hx2.out]; exact hxy)))
            clear hxy
            go_wp2_with fail
            go_quiet (fail)
            go_wp2_with fail
            refine (zigzag_any x _ HX.out).mono ?_
            rintro e w1 ⟨rfl, n1, rfl⟩
            go_wp2_with fail
            refine (cvarint_any base _ _ (zz x) _ (HB.out.drewN _) (by rw [List.length_append]; omega) (zz_lt HX.out) (by show base ≤ wo.heap.size; omega)).mono ?_
            rintro e w2 ⟨v2, rfl, hB2, hO2⟩
            have B2 := Lib.hid hB2
            have O2 : Hid (Onto w v v2 w2) := (HO.out.drewN _).trans hO2
            have R2 : Hid (Rd (· < base) w2 (some ⟨b, off, none⟩) (vs.map (.int .i64))) := (RD.out.drewN _).onto hO2 HB.out.ne
            have hz2 := O2.out.1.size
            have hv2 := vint_len10 (zz_lt HX.out)
            clear hB2 hO2
            have hsub : (0 : Int) ≤ (t : Int) - (k : Int) := by omega
            go_wp2_with fail
            rw [show ((t : Int) - (k : Int)) = ((t - k : Nat) : Int) from by omega]
            refine (cvarint_any base _ _ (t - k) _ B2.out (by rw [List.length_append, List.length_append]; omega) (by omega) (by omega)).mono ?_
            rintro e w3 ⟨v3, rfl, hB3, hO3⟩
            have B3 : Hid (Byts base w3 v3 (xs ++ (ys ++ (vint (zz x) ++ vint (t - k))))) := by
              show Byts _ _ _ _
              simpa only [List.append_assoc] using hB3
            have O3 : Hid (Onto w v v3 w3) := O2.out.trans hO3
            have R3 : Hid (Rd (· < base) w3 (some ⟨b, off, none⟩) (vs.map (.int .i64))) := R2.out.onto hO3 B2.out.ne
            have E3 : Hid ((ys ++ (vint (zz x) ++ vint (t - k))) ++ runsB (vs.drop t) = runsB vs) := by
              show _ = _
              rw [← HE.out, HS.out, hx2.out]; simp
            have hv3 := vint_len10 (n := t - k) (by omega)
            clear hB3 hO3
            go_wp2_with fail
            go_roundw
            case rel => exact ⟨t, _, ht2, rfl, rfl, B3.out, E3.out, by simp only [List.length_append]; omega, R3.out, O3.out⟩
            case measure => simp [intOf]; omega
        · have hkt : k < t := by omega
          have dt : decide ((t : Int) < (vs.length : Int)) = false := by simp; omega
          have HS := Lib.hid (runs_step hkt ht2 AL.out (.inl (by omega)))
          go_wp2_with fail
          go_quiet (fail)
          go_wp2_with fail
          refine (zigzag_any x _ HX.out).mono ?_
          rintro e w1 ⟨rfl, n1, rfl⟩
          go_wp2_with fail
          refine (cvarint_any base _ _ (zz x) _ (HB.out.drewN _) (by rw [List.length_append]; omega) (zz_lt HX.out) (by show base ≤ wo.heap.size; omega)).mono ?_
          rintro e w2 ⟨v2, rfl, hB2, hO2⟩
          have B2 := Lib.hid hB2
          have O2 : Hid (Onto w v v2 w2) := (HO.out.drewN _).trans hO2
          have R2 : Hid (Rd (· < base) w2 (some ⟨b, off, none⟩) (vs.map (.int .i64))) := (RD.out.drewN _).onto hO2 HB.out.ne
          have hz2 := O2.out.1.size
          have hv2 := vint_len10 (zz_lt HX.out)
          clear hB2 hO2
          have hsub : (0 : Int) ≤ (t : Int) - (k : Int) := by omega
          go_wp2_with fail
          rw [show ((t : Int) - (k : Int)) = ((t - k : Nat) : Int) from by omega]
          refine (cvarint_any base _ _ (t - k) _ B2.out (by rw [List.length_append, List.length_append]; omega) (by omega) (by omega)).mono ?_
          rintro e w3 ⟨v3, rfl, hB3, hO3⟩
          have B3 : Hid (Byts base w3 v3 (xs ++ (ys ++ (vint (zz x) ++ vint (t - k))))) := by
            show Byts _ _ _ _
            simpa only [List.append_assoc] using hB3
          have O3 : Hid (Onto w v v3 w3) := O2.out.trans hO3
          have R3 : Hid (Rd (· < base) w3 (some ⟨b, off, none⟩) (vs.map (.int .i64))) := R2.out.onto hO3 B2.out.ne
          have E3 : Hid ((ys ++ (vint (zz x) ++ vint (t - k))) ++ runsB (vs.drop t) = runsB vs) := by
            show _ = _
            rw [← HE.out, HS.out, hx2.out]; simp
          have hv3 := vint_len10 (n := t - k) (by omega)
          clear hB3 hO3
          go_wp2_with fail
          go_roundw
          case rel => exact ⟨t, _, ht2, rfl, rfl, B3.out, E3.out, by simp only [List.length_append]; omega, R3.out, O3.out⟩
          case measure => simp [intOf]; omega
    · obtain rfl : k = vs.length := by omega
      have HF : Hid (ys = runsB vs) := by
        show ys = runsB vs
        rw [← HE.out, List.drop_length, runsB_nil, List.append_nil]
      go_wp2_with fail
      go_ret
      exact ⟨_, rfl, by rw [← HF.out]; exact HB.out, HO.out⟩
set_option maxHeartbeats 400000 in
theorem slmin_any {S : Nat → Prop} (A : Option Addr) (vs : List Int) (c : Nat) (w : World) (h : Rd S w A (vs.map (.int .i64))) (hl : vs.length ≤ 1000000) (h0 : 0 < vs.length) :
    Calls Tryz.prog 237 #[.slice A vs.length c] w (Same (.int .i64 (loTo vs vs.length)) w) := by
  have H := Lib.hid h
  obtain ⟨b, off, x, rfl, hc, hx⟩ := h.int_at h0
  clear h
  rw [Nat.add_zero] at hc
  have hd : decide ((vs.length : Int) < 1) = false := by simp; omega
  go_enter Tryz.func237, Tryz.ntmps237
  go_wp2
  clear hc
  go_loop [3, 4] (fun n i => ∃ (k : Nat) (m : Int), k ≤ vs.length ∧ i = .int .i64 k ∧ n = .int .i64 m ∧ Hid (m = loTo vs k)) (fun _ i => vs.length - (intOf i).toNat)
  case atStart => exact ⟨1, x, h0, rfl, rfl, by show x = _; have := hx.out; simp only [loTo]; omega⟩
  case round =>
    obtain ⟨k, m, hk, rfl, rfl, hm⟩ := hrel
    by_cases hlt : k < vs.length
    · obtain ⟨y, hcy, hy⟩ := H.out.int_at' hlt
      go_wp2
      go_round
      case rel => exact ⟨k + 1, _, by omega, by go_num, rfl, by have := hm.out; have := hy.out; show _ = _; simp only [loTo]; first | (split <;> omega) | omega⟩
      case measure => simp [intOf]; omega
    · obtain rfl : k = vs.length := by omega
      go_wp2
      go_ret
      exact ⟨ret_int hm.out, 0, rfl⟩
set_option maxHeartbeats 400000 in
theorem slmax_any {S : Nat → Prop} (A : Option Addr) (vs : List Int) (c : Nat) (w : World) (h : Rd S w A (vs.map (.int .i64))) (hl : vs.length ≤ 1000000) (h0 : 0 < vs.length) :
    Calls Tryz.prog 238 #[.slice A vs.length c] w (Same (.int .i64 (hiTo vs vs.length)) w) := by
  have H := Lib.hid h
  obtain ⟨b, off, x, rfl, hc, hx⟩ := h.int_at h0
  clear h
  rw [Nat.add_zero] at hc
  have hd : decide ((vs.length : Int) < 1) = false := by simp; omega
  go_enter Tryz.func238, Tryz.ntmps238
  go_wp2
  clear hc
  go_loop [3, 4] (fun n i => ∃ (k : Nat) (m : Int), k ≤ vs.length ∧ i = .int .i64 k ∧ n = .int .i64 m ∧ Hid (m = hiTo vs k)) (fun _ i => vs.length - (intOf i).toNat)
  case atStart => exact ⟨1, x, h0, rfl, rfl, by show x = _; have := hx.out; simp only [hiTo]; omega⟩
  case round =>
    obtain ⟨k, m, hk, rfl, rfl, hm⟩ := hrel
    by_cases hlt : k < vs.length
    · obtain ⟨y, hcy, hy⟩ := H.out.int_at' hlt
      go_wp2
      go_round
      case rel => exact ⟨k + 1, _, by omega, by go_num, rfl, by have := hm.out; have := hy.out; show _ = _; simp only [hiTo]; first | (split <;> omega) | omega⟩
      case measure => simp [intOf]; omega
    · obtain rfl : k = vs.length := by omega
      go_wp2
      go_ret
      exact ⟨ret_int hm.out, 0, rfl⟩
set_option maxHeartbeats 400000 in
theorem bounds_any {S : Nat → Prop} (A : Option Addr) (vs : List Int) (c : Nat) (w : World) (h : Rd S w A (vs.map (.int .i64))) (hl : vs.length ≤ 1000000) :
    Calls Tryz.prog 210 #[.slice A vs.length c] w (Same (if vs.length = 0 then .tuple #[.int .i64 0, .int .i64 0, .bool false] else .tuple #[.int .i64 (loTo vs vs.length), .int .i64 (hiTo vs vs.length), .bool true]) w) := by
  have H := Lib.hid h
  clear h
  by_cases h0 : vs.length = 0
  · rw [if_pos h0]
    have h1 : ((vs.length : Int) == 0) = true := by simp [h0]
    have H0 := Lib.hid h0
    clear h0
    go_enter Tryz.func210, Tryz.ntmps210
    go_wp2
    go_ret3
    exact ⟨rfl, 0, rfl⟩
  · rw [if_neg h0]
    have h1 : ((vs.length : Int) == 0) = false := by rw [beq_eq_false_iff_ne]; omega
    have h2 : 0 < vs.length := by omega
    clear h0
    go_enter Tryz.func210, Tryz.ntmps210
    go_wp2_with (first | (go_at_call 237; refine (slmin_any A vs c _ H.out hl h2).mono ?_; rintro e w' ⟨rfl, nq, rfl⟩) | (go_at_call 238; refine (slmax_any A vs c _ (by exact H.out.drewN _) hl h2).mono ?_; rintro e w' ⟨rfl, nq, rfl⟩))
    go_ret3
    exact ⟨rfl, _, rfl⟩

set_option maxHeartbeats 4000000 in
set_option maxRecDepth 100000 in
theorem packed_any (base : Nat) (v : Value) (xs : List Int) (A : Option Addr) (vs : List Int) (c : Nat) (w : World) (h : Byts base w v xs) (hr : Rd (· < base) w A (vs.map (.int .i64))) (hx : xs.length ≤ 1000000) (hl : vs.length ≤ 20000) (hi : ∀ x ∈ vs, I64 x) (hb : base ≤ w.heap.size) :
    Calls Tryz.prog 165 #[v, .slice A vs.length c] w (VPost base w v (xs ++ packB vs)) := by
  have H := Lib.hid h
  have HR := Lib.hid hr
  have HI := Lib.hid hi
  clear h hr hi
  by_cases h0 : vs.length = 0
  · have H0 := Lib.hid h0
    have hbd := bounds_any A vs c w HR.out (by omega)
    rw [if_pos h0] at hbd
    have HBD := Lib.hid hbd
    clear h0 hbd
    go_enter Tryz.func165, Tryz.ntmps165
    go_wp2_with fail
    refine HBD.out.mono ?_
    rintro e w1 ⟨rfl, n1, rfl⟩
    go_wp2_with fail
    go_ret
    exact ⟨_, rfl, by unfold packB; rw [if_pos H0.out, List.append_nil]; exact H.out, (Onto.refl _ _).drewN _⟩
  · have hbd := bounds_any A vs c w HR.out (by omega)
    rw [if_neg h0] at hbd
    have HBD := Lib.hid hbd
    have HPB : Hid (packB vs = vint (zz (lo vs)) ++ ([(pw vs : Int)] ++ (allBits vs vs.length).map (fun (n : Nat) => (n : Int)))) := by
      show packB vs = _; unfold packB; rw [if_neg h0]
    have hp0 : 0 < vs.length := by omega
    have hlohi : loTo vs vs.length ≤ hiTo vs vs.length := Int.le_trans (loTo_le vs _ 0 hp0) (hiTo_ge vs _ 0 hp0)
    have HD := Lib.hid (u64_diff (hiTo_I64 HI.out vs.length) (loTo_I64 HI.out vs.length) hlohi)
    have HLO : Hid (I64 (lo vs)) := lo_I64 HI.out
    have hpw := pw_le vs
    obtain ⟨P, hP⟩ : ∃ P, P = vs.length * pw vs := ⟨_, rfl⟩
    have hPb : P ≤ 1280000 := by rw [hP]; exact Nat.mul_le_mul hl hpw
    have hmul : wrap64 ((vs.length : Int) * (pw vs : Int)) = (P : Int) := by
      rw [hP, ← Int.natCast_mul, ← hP]; exact IntWalk.wrap64_in _ (by omega)
    have hdiv : ((P : Int) + 7) / 8 = (nb vs : Int) := by rw [nb_eq, ← hP]; omega
    have hnb : nb vs ≤ 200000 := by rw [nb_eq, ← hP]; omega
    have hmk := make_any (P := Tryz.prog) Tryz.underlying22 byteInfo rfl (by decide) (nb vs) (by omega)
    have HP := Lib.hid hP
    clear h0 hbd hlohi hP
    go_enter Tryz.func165, Tryz.ntmps165
    go_wp2_with fail
    refine HBD.out.mono ?_
    rintro e w1 ⟨rfl, n1, rfl⟩
    go_wp2_with fail
    rw [HD.out]
    refine (Tryz.bits_Len64 _ _ (by omega) (by have h1 := (hiTo_I64 HI.out vs.length); have h2 := loTo_I64 HI.out vs.length; unfold I64 at h1 h2; omega)).mono ?_
    rintro e w2 ⟨rfl, rfl⟩
    rw [pw_is, lo_is, hi_is]
    go_wp2_with fail
    refine (zigzag_any (lo vs) _ HLO.out).mono ?_
    rintro e w3 ⟨rfl, n3, rfl⟩
    go_wp2_with fail
    refine (cvarint_any base _ _ (zz (lo vs)) _ (H.out.drewN _) (by omega) (zz_lt HLO.out) (by exact hb)).mono ?_
    rintro e w4 ⟨v4, rfl, hB4, hO4⟩
    have B4 := Lib.hid hB4
    have O4 : Hid (Onto w v v4 w4) := Onto.trans ((Onto.refl _ _).drewN (n1 + n3)) hO4
    have R4 : Hid (Rd (· < base) w4 A (vs.map (.int .i64))) := (HR.out.drewN (n1 + n3)).onto hO4 H.out.ne
    have hz4 := O4.out.1.size
    have hv4 := vint_len10 (zz_lt HLO.out)
    clear hB4 hO4
    go_wp2_with (at_builtin; refine wpList_append1 rfl _ _ 22 rfl base Tryz.underlying22 byteInfo rfl (by decide) (v := _) (by rfl) (w0 := _) (cs := #[.int .u8 (pw vs : Int)]) B4.out (by rfl) rfl (by simp [Value.oneCell']) (by decide) (by rw [List.length_append]; omega) (by omega) ?_; intro v5 w5 hv5 hg5 hob5)
    have B5 := Lib.hid (Byts.snoc hv5)
    have O45 := onto_ap hg5 hob5
    have R5 : Hid (Rd (· < base) w5 A (vs.map (.int .i64))) := R4.out.onto O45 B4.out.ne
    have O5 := Lib.hid (O4.out.trans O45)
    have hz5 := O5.out.1.size
    clear hv5 hg5 hob5 O45 B4 R4 O4
    go_wp2_with fail
    have BL : Hid (Blk (w5.alloc (.cells (Array.replicate (nb vs) (Value.int .u8 0)) 5)) w5.heap.size 5 (cellsOf (allBits vs 0))) := by
      show Blk _ _ _ _
      rw [show cellsOf (allBits vs 0) = Array.replicate (nb vs) (Value.int .u8 0) from (cells_zero _).symm]
      exact Blk.new _ _ _
    obtain ⟨gB, hgB⟩ : ∃ gB, gB = w5.heap.size := ⟨_, rfl⟩
    rw [← hgB] at BL ⊢
    have hgB1 : w5.heap.size ≤ gB := by omega
    have HGB := Lib.hid hgB
    clear hgB hmk hmul hdiv
    go_loopw [47] (fun j wr => ∃ i : Nat, i ≤ vs.length ∧ j = .int .i64 i ∧ Blk wr gB 5 (cellsOf (allBits vs i)) ∧ w5.grownBy wr none) (fun j _ => vs.length - (intOf j).toNat)
    case atStart => exact ⟨0, Nat.zero_le _, rfl, BL.out, only_alloc (only_refl _ _) _⟩
    case round =>
      obtain ⟨i, hi, rfl, hBk, hG⟩ := hrel
      have BK := Lib.hid hBk
      have HG := Lib.hid hG
      clear hBk hG BL
      by_cases hlt : i < vs.length
      · obtain ⟨b, off, x, rfl, hc, hx2⟩ := (R5.out.grown HG.out (by simp)).int_at hlt
        have HX : Hid (I64 x) := by show I64 x; rw [← hx2.out]; exact getD_I64 HI.out i
        have HDX : Hid (IntKind.u64.wrap (IntKind.u64.wrap x - IntKind.u64.wrap (lo vs)) = (df vs i : Int)) := by
          show IntKind.u64.wrap (IntKind.u64.wrap x - IntKind.u64.wrap (lo vs)) = (df vs i : Int)
          rw [df_is, hx2.out]
          exact u64_diff HX.out HLO.out (by rw [← hx2.out]; exact lo_le hlt)
        obtain ⟨p, hp⟩ : ∃ p, p = i * pw vs := ⟨_, rfl⟩
        have hpb : p + pw vs ≤ P := by
          rw [hp, HP.out]
          have := Nat.mul_le_mul_right (pw vs) (show i + 1 ≤ vs.length from hlt)
          rw [Nat.add_mul] at this; omega
        have hpm : wrap64 ((i : Int) * (pw vs : Int)) = (p : Int) := by
          rw [hp, ← Int.natCast_mul, ← hp]; exact IntWalk.wrap64_in _ (by omega)
        have HPI := Lib.hid hp
        have HPM := Lib.hid hpm
        clear hp hpm
        obtain ⟨wo, rfl⟩ : ∃ wo : World, wo = wr := ⟨_, rfl⟩
        go_wp2_with fail
        rw [HDX.out]
        go_loopw [58] (fun j wi => ∃ k : Nat, k ≤ pw vs ∧ j = .int .i64 k ∧ Blk wi gB 5 (cellsOf (wBits (allBits vs i) p (df vs i) k)) ∧ w5.grownBy wi none) (fun j _ => pw vs - (intOf j).toNat)
        case atStart => exact ⟨0, Nat.zero_le _, rfl, by rw [wBits]; exact BK.out, HG.out⟩
        case round =>
          obtain ⟨k, hk, rfl, hBk2, hG2⟩ := hrel
          have BK2 := Lib.hid hBk2
          have HG2 := Lib.hid hG2
          clear hBk2 hG2
          by_cases hkw : k < pw vs
          · obtain ⟨q, hq⟩ : ∃ q, q = p + k := ⟨_, rfl⟩
            have hqP : q < P := hq ▸ Nat.lt_of_lt_of_le (Nat.add_lt_add_left hkw p) hpb
            have HQW : Hid (wrap64 ((p : Int) + (k : Int)) = (q : Int)) := by
              show wrap64 ((p : Int) + (k : Int)) = (q : Int)
              have h := wrap_add p k (Nat.le_trans (Nat.le_of_lt (hq ▸ hqP)) (Nat.le_trans hPb (by decide)))
              rw [← hq] at h; exact h
            have hqn : q / 8 < nb vs := div_lt (by rw [nb_eq, HP.out]) hqP
            obtain ⟨q8, hq8⟩ : ∃ q8, q8 = q / 8 := ⟨_, rfl⟩
            obtain ⟨m8, hm8⟩ : ∃ m8, m8 = q % 8 := ⟨_, rfl⟩
            have hm7 : m8 ≤ 7 := by omega
            rw [← hq8] at hqn
            have hqi : (q8 : Int) < (nb vs : Int) := by omega
            have hq80 : (0 : Int) ≤ (q8 : Int) := by omega
            have hm80 : (0 : Int) ≤ (m8 : Int) := by omega
            obtain ⟨cur, hcur⟩ : ∃ cur, cur = (wBits (allBits vs i) p (df vs i) k).getD q8 0 := ⟨_, rfl⟩
            have hcell := (BK2.out.cell q8).trans (cellsOf_at (by rw [wBits_len, allBits_len]; exact hqn))
            rw [← hcur] at hcell
            have hfr := BK2.out.frozen q8
            have HQ := Lib.hid (And.intro hq (And.intro hq8 (And.intro hm8 hcur)))
            have hqd : (q : Int).tdiv 8 = (q8 : Int) := hq8 ▸ tdiv8 q
            have hqm : (q : Int).tmod 8 = (m8 : Int) := hm8 ▸ tmod8 q
            have hq8w : IntKind.i64.wrap (q8 : Int) = (q8 : Int) := i64_nat (Nat.le_trans (Nat.le_of_lt hqn) (Nat.le_trans hnb (by decide)))
            have hm8w : IntKind.i64.wrap (m8 : Int) = (m8 : Int) := i64_nat (Nat.le_trans hm7 (by decide))
            have hpm := HPM.out
            clear hq hq8 hm8 hcur hqn hpb hPb
            go_wp2_with fail
            rw [HQW.out]
            clear hpm
            go_still_tail 15, (by kernel_rfl)
            go_wp2_with fail
            clear hqd hqm hq8w hm8w
            have HV := bit_val (cur := cur) (d := df vs i) (k := k) (m8 := m8) (by rw [HQ.out.2.2.2]; exact (Bt.all vs i).w _ _ _ _) (df_lt HI.out hlt) hm7
            rw [HV]
            have hfin := BK2.out.set_ q8 (.int .u8 ((cur ||| (df vs i / 2 ^ k % 2) <<< m8 : Nat) : Int))
            rw [cellsOf_set] at hfin
            have hw : wBits (allBits vs i) p (df vs i) (k + 1) = (wBits (allBits vs i) p (df vs i) k).set q8 (cur ||| (df vs i / 2 ^ k % 2) <<< m8) := by
              rw [wBits, setBit, ← HQ.out.1, ← HQ.out.2.1, ← HQ.out.2.2.1, ← HQ.out.2.2.2]
            exact ⟨⟨k + 1, hkw, by go_num, by rw [hw]; exact hfin, only_drew (only_setNew HG2.out hgB1 _)⟩, by simp [intOf]; omega⟩
          · obtain rfl : k = pw vs := by omega
            go_wp2_with fail
            go_roundw
            case rel => exact ⟨i + 1, by omega, by go_num, by rw [allBits, ← HPI.out]; exact BK2.out, HG2.out⟩
            case measure => simp [intOf]; omega
      · obtain rfl : i = vs.length := by omega
        have B6 : Hid (Byts base wr v5 (xs ++ vint (zz (lo vs)) ++ [(pw vs : Int)])) := own_ext B5.out HG.out
        have hzr := HG.out.size
        have hRB := BK.out.rd
        rw [cellsOf_list] at hRB
        have RB := Lib.hid hRB
        have hal := allBits_len vs vs.length
        have HAL := Lib.hid hal
        clear hRB hal
        go_wp2_with (at_builtin; refine wpList_appendN rfl _ _ 22 rfl base Tryz.underlying22 byteInfo rfl (by decide) (v := v5) (by rfl) B6.out (some ⟨gB, 0, none⟩) (nb vs) (nb vs) (by rfl) RB.out (by rw [List.length_map, List.length_map, HAL.out, Nat.mul_one]) (by simp [Value.oneCell']) (by decide) (by rw [List.length_append, List.length_append]; simp; omega) (by omega) ?_; intro v7 w7 hv7 hg7 hob7)
        have HF : Hid (Byts base w7 v7 (xs ++ packB vs)) := by
          show Byts base w7 v7 (xs ++ packB vs)
          rw [HPB.out]
          have e : xs ++ (vint (zz (lo vs)) ++ ([(pw vs : Int)] ++ (allBits vs vs.length).map (fun (n : Nat) => (n : Int)))) = (xs ++ vint (zz (lo vs)) ++ [(pw vs : Int)]) ++ (allBits vs vs.length).map (fun (n : Nat) => (n : Int)) := by simp
          rw [e]
          unfold Byts
          rw [List.map_append, List.length_append, List.length_map, HAL.out]
          exact hv7
        have O7 : Hid (Onto w v v7 w7) := O5.out.trans ((Onto.trans ⟨only_of_none HG.out _, .inl rfl⟩) ⟨hg7, hob7.elim .inl (fun h => .inr ⟨_, Nat.le_refl _, h⟩)⟩)
        clear hv7 hg7 hob7
        go_wp2_with fail
        go_ret
        exact ⟨v7, rfl, HF.out, O7.out⟩
def encTab : Value := .agg #[.func (.func 162) #[] #[], .func (.func 163) #[] #[], .func (.func 164) #[] #[], .func (.func 165) #[] #[]]
theorem encoders_any (w : World) : Calls Tryz.prog 102 #[] w (RetExt encTab w) := by
  go_enter Tryz.func102, Tryz.ntmps102
  go_wp2
  refine bodyPost_ret (v := encTab) ?_ rfl ?_
  · simp [results, Tryz.results102, go_sem, encTab]
  · exact ⟨rfl, only_alloc (only_refl _ _) _⟩
set_option maxHeartbeats 2000000 in
set_option maxRecDepth 100000 in
theorem encas_0 (A : Option Addr) (vs : List Int) (c : Nat) (w : World) (hr : Rd (fun _ => True) w A (vs.map (.int .i64))) (hl : vs.length ≤ 16384) (hi : ∀ x ∈ vs, I64 x) :
    Calls Tryz.prog 56 #[.int .i64 0, .slice A vs.length c] w (CEPost w 0 vs) := by
  have HR := Lib.hid (hr.mono (S' := (· < w.heap.size)) (fun _ _ h => h))
  have HI := Lib.hid hi
  have HE : Hid (colErr 0 vs = 0) := by show colErr 0 vs = 0; unfold colErr; rw [if_neg (by decide), if_neg (by omega)]
  have HB : Hid (colB 0 vs = [0] ++ vint vs.length ++ bodyB 0 vs) := by show colB 0 vs = _; rw [colB_ok HE.out, List.append_assoc]
  have hlv := vint_len10 (n := vs.length) (by omega)
  have dl : decide ((16384 : Int) < (vs.length : Int)) = false := by simp; omega
  have i0 : ∀ w, (Instr.index 154 encTab (.int .i64 0)).run Tryz.prog w = .ok (.func (.func 162) #[] #[]) w := fun _ => by kernel_rfl
  have hu8 : IntKind.u8.wrap 0 = 0 := by decide
  have hu64 : IntKind.u64.wrap (vs.length : Int) = (vs.length : Int) := by rw [IntKind.wrap_u64]; omega
  clear hr hi
  go_enter Tryz.func56, Tryz.ntmps56
  go_wp2_with fail
  go_region_with (first
    | (have tk := G2; go_at_call 162; go_must (refine (plain_any w.heap.size _ ([0] ++ vint vs.length) A vs c _ (by first | exact B2.out | exact own_ext B2.out hg1) (by first | exact R2.out | exact R2.out.gr hg1) (by simp; omega) (by omega) HI.out (by first | exact G2.out.size | exact Nat.le_trans G2.out.size hg1.size)).mono ?_); rintro e w3 ⟨v3, rfl, hB3, hO3⟩; go_must (have G3 : Hid (w.grownBy w3 none) := by first | exact Byts.only B2.out hO3 G2.out (Nat.le_refl _) | exact Byts.only (own_ext B2.out hg1) hO3 (only_trans G2.out hg1) (Nat.le_refl _)); have B3 := Lib.hid hB3; clear hB3 hO3 tk)
    | (go_at_call 103; go_must (refine (cvarint_any w.heap.size _ [0] vs.length _ (by first | exact byts_one _ _ _ (by exact Nat.le_refl _) | exact byts_one _ _ _ (by exact hg1.size) | exact own_ext (own_drew (byts_one _ _ _ (by exact Nat.le_refl _))) hg1 | exact own_drew (byts_one _ _ _ (by exact Nat.le_refl _))) (by simp) (by omega) (by first | exact Nat.le_trans (by exact hg1.size) (by simp) | (simp; done) | exact Nat.le_trans (by simp) hg1.size)).mono ?_); rintro e w2 ⟨v2, rfl, hB2, hO2⟩; have B2 := Lib.hid hB2; go_must (have G2 : Hid (w.grownBy w2 none) := by first | exact Byts.only (own_drew (byts_one _ _ _ (by exact Nat.le_refl _))) hO2 (only_drew (only_alloc (only_refl _ _) _)) (Nat.le_refl _) | exact Byts.only (byts_one _ _ _ (by exact hg1.size)) hO2 (only_alloc (only_trans (only_drew (only_refl _ _)) hg1) _) (Nat.le_refl _) | exact Byts.only (own_ext (own_drew (byts_one _ _ _ (by exact Nat.le_refl _))) hg1) hO2 (only_trans (only_drew (only_alloc (only_refl _ _) _)) hg1) (Nat.le_refl _)); have R2 : Hid (Rd (· < w.heap.size) w2 A (vs.map (.int .i64))) := HR.out.gr G2.out; clear hB2 hO2)
    | (go_at_call 102; refine (encoders_any _).mono ?_; rintro e w1 ⟨rfl, hg1⟩))
  all_goals
    go_wp2_with fail
    go_ret2
    exact ⟨v3, by rw [HE.out]; rfl, by rw [HB.out]; exact B3.out, G3.out⟩

set_option maxHeartbeats 2000000 in
set_option maxRecDepth 100000 in
theorem encas_1 (A : Option Addr) (vs : List Int) (c : Nat) (w : World) (hr : Rd (fun _ => True) w A (vs.map (.int .i64))) (hl : vs.length ≤ 16384) (hi : ∀ x ∈ vs, I64 x) :
    Calls Tryz.prog 56 #[.int .i64 1, .slice A vs.length c] w (CEPost w 1 vs) := by
  have HR := Lib.hid (hr.mono (S' := (· < w.heap.size)) (fun _ _ h => h))
  have HI := Lib.hid hi
  have HE : Hid (colErr 1 vs = 0) := by show colErr 1 vs = 0; unfold colErr; rw [if_neg (by decide), if_neg (by omega)]
  have HB : Hid (colB 1 vs = [1] ++ vint vs.length ++ bodyB 1 vs) := by show colB 1 vs = _; rw [colB_ok HE.out, List.append_assoc]
  have hlv := vint_len10 (n := vs.length) (by omega)
  have dl : decide ((16384 : Int) < (vs.length : Int)) = false := by simp; omega
  have i0 : ∀ w, (Instr.index 154 encTab (.int .i64 1)).run Tryz.prog w = .ok (.func (.func 163) #[] #[]) w := fun _ => by kernel_rfl
  have hu8 : IntKind.u8.wrap 1 = 1 := by decide
  have hu64 : IntKind.u64.wrap (vs.length : Int) = (vs.length : Int) := by rw [IntKind.wrap_u64]; omega
  clear hr hi
  go_enter Tryz.func56, Tryz.ntmps56
  go_wp2_with fail
  go_region_with (first
    | (have tk := G2; go_at_call 163; go_must (refine (delta_any w.heap.size _ ([1] ++ vint vs.length) A vs c _ (by first | exact B2.out | exact own_ext B2.out hg1) (by first | exact R2.out | exact R2.out.gr hg1) (by simp; omega) (by omega) HI.out (by first | exact G2.out.size | exact Nat.le_trans G2.out.size hg1.size)).mono ?_); rintro e w3 ⟨v3, rfl, hB3, hO3⟩; go_must (have G3 : Hid (w.grownBy w3 none) := by first | exact Byts.only B2.out hO3 G2.out (Nat.le_refl _) | exact Byts.only (own_ext B2.out hg1) hO3 (only_trans G2.out hg1) (Nat.le_refl _)); have B3 := Lib.hid hB3; clear hB3 hO3 tk)
    | (go_at_call 103; go_must (refine (cvarint_any w.heap.size _ [1] vs.length _ (by first | exact byts_one _ _ _ (by exact Nat.le_refl _) | exact byts_one _ _ _ (by exact hg1.size) | exact own_ext (own_drew (byts_one _ _ _ (by exact Nat.le_refl _))) hg1 | exact own_drew (byts_one _ _ _ (by exact Nat.le_refl _))) (by simp) (by omega) (by first | exact Nat.le_trans (by exact hg1.size) (by simp) | (simp; done) | exact Nat.le_trans (by simp) hg1.size)).mono ?_); rintro e w2 ⟨v2, rfl, hB2, hO2⟩; have B2 := Lib.hid hB2; go_must (have G2 : Hid (w.grownBy w2 none) := by first | exact Byts.only (own_drew (byts_one _ _ _ (by exact Nat.le_refl _))) hO2 (only_drew (only_alloc (only_refl _ _) _)) (Nat.le_refl _) | exact Byts.only (byts_one _ _ _ (by exact hg1.size)) hO2 (only_alloc (only_trans (only_drew (only_refl _ _)) hg1) _) (Nat.le_refl _) | exact Byts.only (own_ext (own_drew (byts_one _ _ _ (by exact Nat.le_refl _))) hg1) hO2 (only_trans (only_drew (only_alloc (only_refl _ _) _)) hg1) (Nat.le_refl _)); have R2 : Hid (Rd (· < w.heap.size) w2 A (vs.map (.int .i64))) := HR.out.gr G2.out; clear hB2 hO2)
    | (go_at_call 102; refine (encoders_any _).mono ?_; rintro e w1 ⟨rfl, hg1⟩))
  all_goals
    go_wp2_with fail
    go_ret2
    exact ⟨v3, by rw [HE.out]; rfl, by rw [HB.out]; exact B3.out, G3.out⟩

set_option maxHeartbeats 2000000 in
set_option maxRecDepth 100000 in
theorem encas_2 (A : Option Addr) (vs : List Int) (c : Nat) (w : World) (hr : Rd (fun _ => True) w A (vs.map (.int .i64))) (hl : vs.length ≤ 16384) (hi : ∀ x ∈ vs, I64 x) :
    Calls Tryz.prog 56 #[.int .i64 2, .slice A vs.length c] w (CEPost w 2 vs) := by
  have HR := Lib.hid (hr.mono (S' := (· < w.heap.size)) (fun _ _ h => h))
  have HI := Lib.hid hi
  have HE : Hid (colErr 2 vs = 0) := by show colErr 2 vs = 0; unfold colErr; rw [if_neg (by decide), if_neg (by omega)]
  have HB : Hid (colB 2 vs = [2] ++ vint vs.length ++ bodyB 2 vs) := by show colB 2 vs = _; rw [colB_ok HE.out, List.append_assoc]
  have hlv := vint_len10 (n := vs.length) (by omega)
  have dl : decide ((16384 : Int) < (vs.length : Int)) = false := by simp; omega
  have i0 : ∀ w, (Instr.index 154 encTab (.int .i64 2)).run Tryz.prog w = .ok (.func (.func 164) #[] #[]) w := fun _ => by kernel_rfl
  have hu8 : IntKind.u8.wrap 2 = 2 := by decide
  have hu64 : IntKind.u64.wrap (vs.length : Int) = (vs.length : Int) := by rw [IntKind.wrap_u64]; omega
  clear hr hi
  go_enter Tryz.func56, Tryz.ntmps56
  go_wp2_with fail
  go_region_with (first
    | (have tk := G2; go_at_call 164; go_must (refine (cruns_any w.heap.size _ ([2] ++ vint vs.length) A vs c _ (by first | exact B2.out | exact own_ext B2.out hg1) (by first | exact R2.out | exact R2.out.gr hg1) (by simp; omega) (by omega) HI.out (by first | exact G2.out.size | exact Nat.le_trans G2.out.size hg1.size)).mono ?_); rintro e w3 ⟨v3, rfl, hB3, hO3⟩; go_must (have G3 : Hid (w.grownBy w3 none) := by first | exact Byts.only B2.out hO3 G2.out (Nat.le_refl _) | exact Byts.only (own_ext B2.out hg1) hO3 (only_trans G2.out hg1) (Nat.le_refl _)); have B3 := Lib.hid hB3; clear hB3 hO3 tk)
    | (go_at_call 103; go_must (refine (cvarint_any w.heap.size _ [2] vs.length _ (by first | exact byts_one _ _ _ (by exact Nat.le_refl _) | exact byts_one _ _ _ (by exact hg1.size) | exact own_ext (own_drew (byts_one _ _ _ (by exact Nat.le_refl _))) hg1 | exact own_drew (byts_one _ _ _ (by exact Nat.le_refl _))) (by simp) (by omega) (by first | exact Nat.le_trans (by exact hg1.size) (by simp) | (simp; done) | exact Nat.le_trans (by simp) hg1.size)).mono ?_); rintro e w2 ⟨v2, rfl, hB2, hO2⟩; have B2 := Lib.hid hB2; go_must (have G2 : Hid (w.grownBy w2 none) := by first | exact Byts.only (own_drew (byts_one _ _ _ (by exact Nat.le_refl _))) hO2 (only_drew (only_alloc (only_refl _ _) _)) (Nat.le_refl _) | exact Byts.only (byts_one _ _ _ (by exact hg1.size)) hO2 (only_alloc (only_trans (only_drew (only_refl _ _)) hg1) _) (Nat.le_refl _) | exact Byts.only (own_ext (own_drew (byts_one _ _ _ (by exact Nat.le_refl _))) hg1) hO2 (only_trans (only_drew (only_alloc (only_refl _ _) _)) hg1) (Nat.le_refl _)); have R2 : Hid (Rd (· < w.heap.size) w2 A (vs.map (.int .i64))) := HR.out.gr G2.out; clear hB2 hO2)
    | (go_at_call 102; refine (encoders_any _).mono ?_; rintro e w1 ⟨rfl, hg1⟩))
  all_goals
    go_wp2_with fail
    go_ret2
    exact ⟨v3, by rw [HE.out]; rfl, by rw [HB.out]; exact B3.out, G3.out⟩

set_option maxHeartbeats 2000000 in
set_option maxRecDepth 100000 in
theorem encas_3 (A : Option Addr) (vs : List Int) (c : Nat) (w : World) (hr : Rd (fun _ => True) w A (vs.map (.int .i64))) (hl : vs.length ≤ 16384) (hi : ∀ x ∈ vs, I64 x) :
    Calls Tryz.prog 56 #[.int .i64 3, .slice A vs.length c] w (CEPost w 3 vs) := by
  have HR := Lib.hid (hr.mono (S' := (· < w.heap.size)) (fun _ _ h => h))
  have HI := Lib.hid hi
  have HE : Hid (colErr 3 vs = 0) := by show colErr 3 vs = 0; unfold colErr; rw [if_neg (by decide), if_neg (by omega)]
  have HB : Hid (colB 3 vs = [3] ++ vint vs.length ++ bodyB 3 vs) := by show colB 3 vs = _; rw [colB_ok HE.out, List.append_assoc]
  have hlv := vint_len10 (n := vs.length) (by omega)
  have dl : decide ((16384 : Int) < (vs.length : Int)) = false := by simp; omega
  have i0 : ∀ w, (Instr.index 154 encTab (.int .i64 3)).run Tryz.prog w = .ok (.func (.func 165) #[] #[]) w := fun _ => by kernel_rfl
  have hu8 : IntKind.u8.wrap 3 = 3 := by decide
  have hu64 : IntKind.u64.wrap (vs.length : Int) = (vs.length : Int) := by rw [IntKind.wrap_u64]; omega
  clear hr hi
  go_enter Tryz.func56, Tryz.ntmps56
  go_wp2_with fail
  go_region_with (first
    | (have tk := G2; go_at_call 165; go_must (refine (packed_any w.heap.size _ ([3] ++ vint vs.length) A vs c _ (by first | exact B2.out | exact own_ext B2.out hg1) (by first | exact R2.out | exact R2.out.gr hg1) (by simp; omega) (by omega) HI.out (by first | exact G2.out.size | exact Nat.le_trans G2.out.size hg1.size)).mono ?_); rintro e w3 ⟨v3, rfl, hB3, hO3⟩; go_must (have G3 : Hid (w.grownBy w3 none) := by first | exact Byts.only B2.out hO3 G2.out (Nat.le_refl _) | exact Byts.only (own_ext B2.out hg1) hO3 (only_trans G2.out hg1) (Nat.le_refl _)); have B3 := Lib.hid hB3; clear hB3 hO3 tk)
    | (go_at_call 103; go_must (refine (cvarint_any w.heap.size _ [3] vs.length _ (by first | exact byts_one _ _ _ (by exact Nat.le_refl _) | exact byts_one _ _ _ (by exact hg1.size) | exact own_ext (own_drew (byts_one _ _ _ (by exact Nat.le_refl _))) hg1 | exact own_drew (byts_one _ _ _ (by exact Nat.le_refl _))) (by simp) (by omega) (by first | exact Nat.le_trans (by exact hg1.size) (by simp) | (simp; done) | exact Nat.le_trans (by simp) hg1.size)).mono ?_); rintro e w2 ⟨v2, rfl, hB2, hO2⟩; have B2 := Lib.hid hB2; go_must (have G2 : Hid (w.grownBy w2 none) := by first | exact Byts.only (own_drew (byts_one _ _ _ (by exact Nat.le_refl _))) hO2 (only_drew (only_alloc (only_refl _ _) _)) (Nat.le_refl _) | exact Byts.only (byts_one _ _ _ (by exact hg1.size)) hO2 (only_alloc (only_trans (only_drew (only_refl _ _)) hg1) _) (Nat.le_refl _) | exact Byts.only (own_ext (own_drew (byts_one _ _ _ (by exact Nat.le_refl _))) hg1) hO2 (only_trans (only_drew (only_alloc (only_refl _ _) _)) hg1) (Nat.le_refl _)); have R2 : Hid (Rd (· < w.heap.size) w2 A (vs.map (.int .i64))) := HR.out.gr G2.out; clear hB2 hO2)
    | (go_at_call 102; refine (encoders_any _).mono ?_; rintro e w1 ⟨rfl, hg1⟩))
  all_goals
    go_wp2_with fail
    go_ret2
    exact ⟨v3, by rw [HE.out]; rfl, by rw [HB.out]; exact B3.out, G3.out⟩
set_option maxHeartbeats 1000000 in
set_option maxRecDepth 100000 in
theorem encas_any (kind : Int) (A : Option Addr) (vs : List Int) (c : Nat) (w : World) (hr : Rd (fun _ => True) w A (vs.map (.int .i64))) (hl : vs.length ≤ 1000000) (hi : ∀ x ∈ vs, I64 x) :
    Calls Tryz.prog 56 #[.int .i64 kind, .slice A vs.length c] w (CEPost w kind vs) := by
  by_cases hk : kind < 0 ∨ 4 ≤ kind
  · have HE : Hid (colErr kind vs = 2) := by show colErr kind vs = 2; unfold colErr; rw [if_pos hk]
    clear hr hi
    by_cases hk0 : kind < 0
    · have d0 : decide (kind < 0) = true := by simp [hk0]
      clear hk
      go_enter Tryz.func56, Tryz.ntmps56
      go_wp2_with fail
      go_ret2
      exact ⟨_, by rw [HE.out]; rfl, by rw [colB_no (by rw [HE.out]; decide)]; exact Byts.nil _ _, only_refl _ _⟩
    · have d0 : decide (kind < 0) = false := by simp; omega
      have d1 : decide ((4 : Int) ≤ kind) = true := by simp; omega
      clear hk
      go_enter Tryz.func56, Tryz.ntmps56
      go_wp2_with fail
      go_ret2
      exact ⟨_, by rw [HE.out]; rfl, by rw [colB_no (by rw [HE.out]; decide)]; exact Byts.nil _ _, only_refl _ _⟩
  · by_cases hv : 16384 < vs.length
    · have HE : Hid (colErr kind vs = 4) := by show colErr kind vs = 4; unfold colErr; rw [if_neg hk, if_pos hv]
      have d0 : decide (kind < 0) = false := by simp; omega
      have d1 : decide ((4 : Int) ≤ kind) = false := by simp; omega
      have d2 : decide ((16384 : Int) < (vs.length : Int)) = true := by simp; omega
      clear hk hr hi
      go_enter Tryz.func56, Tryz.ntmps56
      go_wp2_with fail
      go_ret2
      exact ⟨_, by rw [HE.out]; rfl, by rw [colB_no (by rw [HE.out]; decide)]; exact Byts.nil _ _, only_refl _ _⟩
    · have h4 : kind = 0 ∨ kind = 1 ∨ kind = 2 ∨ kind = 3 := by omega
      rcases h4 with rfl | rfl | rfl | rfl
      · exact encas_0 A vs c w hr (by omega) hi
      · exact encas_1 A vs c w hr (by omega) hi
      · exact encas_2 A vs c w hr (by omega) hi
      · exact encas_3 A vs c w hr (by omega) hi

set_option maxHeartbeats 1000000 in
set_option maxRecDepth 100000 in
theorem encode_any (A : Option Addr) (vs : List Int) (c : Nat) (w : World) (hr : Rd (fun _ => True) w A (vs.map (.int .i64))) (hl : vs.length ≤ 1000000) (hi : ∀ x ∈ vs, I64 x) :
    Calls Tryz.prog 23 #[.slice A vs.length c] w (EPost w vs) := by
  have HR := Lib.hid hr
  have HI := Lib.hid hi
  clear hr hi
  by_cases hv : 16384 < vs.length
  · have HE : Hid (colErr 0 vs = 4) := colErr_big (k := 0) hv (by omega)
    have HB := Lib.hid (best_big hv)
    have HV := Lib.hid hv
    clear hv
    go_enter Tryz.func23, Tryz.ntmps23
    go_wp2_with fail
    refine (encas_any 0 A vs c _ HR.out hl HI.out).mono ?_
    rintro e w1 ⟨v1, rfl, hB1, hg1⟩
    rw [colB_no (by rw [HE.out]; decide)] at hB1
    rw [HE.out]
    have B1 := Lib.hid hB1
    clear hB1
    go_wp2_with fail
    go_loopw [4, 5, 6] (fun b e k wr => b = v1 ∧ e = .int .i64 4 ∧ k = .int .i64 1 ∧ wr = w1) (fun _ _ _ _ => 0)
    case atStart => exact ⟨rfl, rfl, rfl, rfl⟩
    case round =>
      obtain ⟨rfl, rfl, rfl, rfl⟩ := hrel
      go_wp2_with fail
      go_ret2
      exact ⟨_, by rw [if_pos HV.out]; rfl, by rw [HB.out]; exact B1.out, hg1⟩
  · have HE : Hid (colErr 0 vs = 0) := colErr_k (k := 0) (by omega) (by omega)
    have HV := Lib.hid hv
    go_enter Tryz.func23, Tryz.ntmps23
    go_wp2_with fail
    refine (encas_any 0 A vs c _ HR.out hl HI.out).mono ?_
    rintro e w1 ⟨v1, rfl, hB1, hg1⟩
    rw [HE.out]
    have B1 := Lib.hid hB1
    have G1 := Lib.hid hg1
    clear hB1 hg1
    go_wp2_with fail
    go_loopw [4, 5, 6] (fun b e i wr => ∃ k : Nat, 1 ≤ k ∧ k ≤ 4 ∧ e = .int .i64 0 ∧ i = .int .i64 k ∧ Byts w.heap.size wr b (bestTo vs k) ∧ w.grownBy wr none) (fun _ _ i _ => 4 - (intOf i).toNat)
    case atStart => exact ⟨1, by omega, by omega, rfl, rfl, B1.out, G1.out⟩
    case round =>
      obtain ⟨k, hk1, hk2, rfl, rfl, hB, hG⟩ := hrel
      have HG := Lib.hid hG
      obtain ⟨Ab, cb, rfl⟩ := hB.slice
      have HB := Lib.hid hB
      have hz := hG.size
      clear hB hG B1 G1
      by_cases hk3 : k ≤ 3
      · have d3 : decide ((k : Int) ≤ 3) = true := by simp; omega
        have HEk : Hid (colErr (k : Nat) vs = 0) := colErr_k (by omega) hk3
        have HS := Lib.hid (best_step vs hk1)
        go_wp2_with fail
        refine (encas_any (k : Nat) A vs c _ (HR.out.grown HG.out (by simp)) hl HI.out).mono ?_
        rintro e w2 ⟨v2, rfl, hB2, hg2⟩
        rw [HEk.out]
        obtain ⟨A2, c2, rfl⟩ := hB2.slice
        have B2 := Lib.hid (hB2.base hz)
        have BK := Lib.hid (own_ext HB.out hg2)
        have G2 : Hid (w.grownBy w2 none) := only_trans HG.out hg2
        clear hB2 hg2
        by_cases hlt : (colB (k : Nat) vs).length < (bestTo vs k).length
        · have HF : Hid (bestTo vs (k + 1) = colB (k : Nat) vs) := by show bestTo vs (k + 1) = _; rw [HS.out]; unfold sh; rw [if_pos hlt]
          have dlt : decide (((colB (k : Nat) vs).length : Int) < ((bestTo vs k).length : Int)) = true := by simp; omega
          go_wp2_with fail
          go_roundw
          case rel => exact ⟨k + 1, by omega, by omega, rfl, by go_num, by rw [HF.out]; exact B2.out, G2.out⟩
          case measure => simp [intOf]; omega
        · have HF : Hid (bestTo vs (k + 1) = bestTo vs k) := by show bestTo vs (k + 1) = _; rw [HS.out]; unfold sh; rw [if_neg hlt]
          have dlt : decide (((colB (k : Nat) vs).length : Int) < ((bestTo vs k).length : Int)) = false := by simp; omega
          go_wp2_with fail
          go_roundw
          case rel => exact ⟨k + 1, by omega, by omega, rfl, by go_num, by rw [HF.out]; exact BK.out, G2.out⟩
          case measure => simp [intOf]; omega
      · obtain rfl : k = 4 := by omega
        go_wp2_with fail
        go_ret2
        exact ⟨_, by rw [if_neg HV.out]; rfl, HB.out, HG.out⟩
end Go.Proofs.YtpaiideboodaeaaGreatDoor
