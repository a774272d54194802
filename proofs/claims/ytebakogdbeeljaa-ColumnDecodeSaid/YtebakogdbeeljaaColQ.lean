/- pack of the reference of chapter 24. Conditions: sizes. -/
import Derived.Test.YtebakogdbeeljaaColP
namespace Go.Proofs.Ytebakogdbeeljaa
open Go.RowKit
set_option linter.unusedVariables false
set_option linter.unusedSimpArgs false

theorem bit_of {d k : Nat} (hd : d < 18446744073709551616) : bits BinOp.and IntKind.u64 ((d : Int) / 2 ^ k) 1 = ((d / 2 ^ k % 2 : Nat) : Int) := by
  have e1 : ((d : Int) / 2 ^ k) = ((d / 2 ^ k : Nat) : Int) := by rw [Int.natCast_ediv, Int.natCast_pow]; rfl
  have h1 := bits_and_u64_nat (d / 2 ^ k) 1 (Nat.lt_of_le_of_lt (Nat.div_le_self _ _) hd) (by decide)
  rw [Nat.and_one_is_mod] at h1
  rw [e1]; exact h1
theorem bit_one {cur m8 : Nat} (hc : cur < 256) (hm : m8 ≤ 7) : bits BinOp.or IntKind.u8 (cur : Int) (2 ^ m8 % 256) = ((cur ||| 1 <<< m8 : Nat) : Int) := by
  have h7 : 2 ^ m8 ≤ 2 ^ 7 := Nat.pow_le_pow_right (by decide) hm
  have e : ((2 : Int) ^ m8 % 256) = ((2 ^ m8 : Nat) : Int) := by
    have e2 : ((2 : Int) ^ m8) = ((2 ^ m8 : Nat) : Int) := by rw [Int.natCast_pow]; rfl
    rw [e2]
    generalize 2 ^ m8 = z at *
    omega
  rw [e, or_u8 cur _ hc (by omega), Nat.shiftLeft_eq, Nat.one_mul]
theorem set_same (l : List Nat) (q : Nat) : l.set q (l.getD q 0) = l := by
  apply List.ext_getElem?
  intro i
  by_cases h : i = q
  · subst h
    by_cases hl : i < l.length
    · rw [List.getElem?_set_self hl, getD_lt l 0 hl, List.getElem?_eq_getElem hl]
    · rw [List.getElem?_eq_none (by simp; omega), List.getElem?_eq_none (by omega)]
  · rw [List.getElem?_set_ne (fun e => h e.symm)]
set_option maxHeartbeats 4000000 in
set_option maxRecDepth 100000 in
theorem rpack_any (base : Nat) (v : Value) (xs : List Int) (A : Option Addr) (vs : List Int) (c : Nat) (w : World) (h : Byts base w v xs) (hr : Rd (· < base) w A (vs.map (.int .i64))) (hx : xs.length ≤ 1000000) (hl : vs.length ≤ 20000) (hi : ∀ x ∈ vs, I64 x) (hb : base ≤ w.heap.size) :
    Calls Try.prog 35 #[v, .slice A vs.length c] w (VPost base w v (xs ++ packB vs)) := by
  have H := Lib.hid h
  have HR := Lib.hid hr
  have HI := Lib.hid hi
  clear h hr hi
  by_cases h0 : vs.length = 0
  · have H0 := Lib.hid h0
    have t0 : ((vs.length : Int) == 0) = true := by simp [h0]
    clear h0
    go_enter Try.func35, Try.ntmps35
    go_wp2_with fail
    go_ret
    exact ⟨_, rfl, by unfold packB; rw [if_pos H0.out, List.append_nil]; exact H.out, Onto.refl _ _⟩
  · have hbd := rbounds_any A vs c w HR.out (by omega)
    rw [if_neg h0] at hbd
    have HBD := Lib.hid hbd
    have t0 : ((vs.length : Int) == 0) = false := by simp [h0]
    have HPB : Hid (packB vs = vint (zz (lo vs)) ++ ([(pw vs : Int)] ++ (allBits vs vs.length).map (fun (n : Nat) => (n : Int)))) := by
      show packB vs = _; unfold packB; rw [if_neg h0]
    have hp0 : 0 < vs.length := by omega
    have hlohi : loTo vs vs.length ≤ hiTo vs vs.length := Int.le_trans (loTo_le vs _ 0 hp0) (hiTo_ge vs _ 0 hp0)
    have HD := Lib.hid (u64_diff (hiTo_I64 HI.out vs.length) (loTo_I64 HI.out vs.length) hlohi)
    have HLO : Hid (I64 (lo vs)) := lo_I64 HI.out
    have hpw := pw_le vs
    obtain ⟨P, hP⟩ : ∃ P, P = vs.length * pw vs := ⟨_, rfl⟩
    have hPb : P ≤ 1280000 := by rw [hP]; exact Nat.mul_le_mul hl hpw
    have hmul : wrap64 ((vs.length : Int) * (pw vs : Int)) = (P : Int) := by
      rw [hP, ← Int.natCast_mul, ← hP]; exact IntWalk.wrap64_in _ (by omega)
    have hdiv : ((P : Int) + 7) / 8 = (nb vs : Int) := by rw [nb_eq, ← hP]; omega
    have hnb : nb vs ≤ 200000 := by rw [nb_eq, ← hP]; omega
    have hmk := make_any (P := Try.prog) Try.underlying23 byteInfo rfl (by decide) (nb vs) (by omega)
    have HP := Lib.hid hP
    clear h0 hbd hlohi hP
    go_enter Try.func35, Try.ntmps35
    go_wp2_with fail
    refine HBD.out.mono ?_
    rintro e w1 ⟨rfl, n1, rfl⟩
    go_wp2_with fail
    rw [HD.out]
    refine (Try.bits_Len64 _ _ (by omega) (by have h1 := (hiTo_I64 HI.out vs.length); have h2 := loTo_I64 HI.out vs.length; unfold I64 at h1 h2; omega)).mono ?_
    rintro e w2 ⟨rfl, rfl⟩
    rw [pw_is, lo_is, hi_is]
    go_wp2_with fail
    refine (putint_any base _ _ (lo vs) _ (H.out.drewN _) (by omega) HLO.out (by exact hb)).mono ?_
    rintro e w4 ⟨v4, rfl, hB4, hO4⟩
    have B4 := Lib.hid hB4
    have O4 : Hid (Onto w v v4 w4) := Onto.trans ((Onto.refl _ _).drewN n1) hO4
    have R4 : Hid (Rd (· < base) w4 A (vs.map (.int .i64))) := (HR.out.drewN n1).onto hO4 H.out.ne
    have hz4 := O4.out.1.size
    have hv4 := vint_len10 (zz_lt HLO.out)
    clear hB4 hO4
    go_wp2_with (at_builtin; refine wpList_append1 rfl _ _ 23 rfl base Try.underlying23 byteInfo rfl (by decide) (v := _) (by rfl) (w0 := _) (cs := #[.int .u8 (pw vs : Int)]) B4.out (by rfl) rfl (by simp [Value.oneCell']) (by decide) (by rw [List.length_append]; omega) (by omega) ?_; intro v5 w5 hv5 hg5 hob5)
    have B5 := Lib.hid (Byts.snoc hv5)
    have O45 := onto_ap hg5 hob5
    have R5 : Hid (Rd (· < base) w5 A (vs.map (.int .i64))) := R4.out.onto O45 B4.out.ne
    have O5 := Lib.hid (O4.out.trans O45)
    have hz5 := O5.out.1.size
    clear hv5 hg5 hob5 O45 B4 R4 O4
    go_wp2_with fail
    have BL : Hid (Blk (w5.alloc (.cells (Array.replicate (nb vs) (Value.int .u8 0)) 5)) w5.heap.size 5 (cellsOf (allBits vs 0))) := by
      show Blk _ _ _ _
      rw [show cellsOf (allBits vs 0) = Array.replicate (nb vs) (Value.int .u8 0) from (cells_zero _).symm]
      exact Blk.new _ _ _
    obtain ⟨gB, hgB⟩ : ∃ gB, gB = w5.heap.size := ⟨_, rfl⟩
    rw [← hgB] at BL ⊢
    have hgB1 : w5.heap.size ≤ gB := by omega
    have HGB := Lib.hid hgB
    clear hgB hmk hmul hdiv
    go_loopw [10, 11] (fun at' j wr => ∃ i : Nat, i ≤ vs.length ∧ j = .int .i64 i ∧ at' = .int .i64 ((i * pw vs : Nat) : Int) ∧ Blk wr gB 5 (cellsOf (allBits vs i)) ∧ w5.grownBy wr none) (fun _ j _ => vs.length - (intOf j).toNat)
    case atStart => exact ⟨0, Nat.zero_le _, rfl, by simp, BL.out, only_alloc (only_refl _ _) _⟩
    case round =>
      obtain ⟨i, hi, rfl, rfl, hBk, hG⟩ := hrel
      have BK := Lib.hid hBk
      have HG := Lib.hid hG
      clear hBk hG BL
      by_cases hlt : i < vs.length
      · obtain ⟨b, off, x, rfl, hc, hx2⟩ := (R5.out.grown HG.out (by simp)).int_at hlt
        have HX : Hid (I64 x) := by show I64 x; rw [← hx2.out]; exact getD_I64 HI.out i
        have HDX : Hid (IntKind.u64.wrap (IntKind.u64.wrap x - IntKind.u64.wrap (lo vs)) = (df vs i : Int)) := by
          show IntKind.u64.wrap (IntKind.u64.wrap x - IntKind.u64.wrap (lo vs)) = (df vs i : Int)
          rw [df_is, hx2.out]
          exact u64_diff HX.out HLO.out (by rw [← hx2.out]; exact lo_le hlt)
        obtain ⟨p, hp⟩ : ∃ p, p = i * pw vs := ⟨_, rfl⟩
        have hpb : p + pw vs ≤ P := by
          rw [hp, HP.out]
          have := Nat.mul_le_mul_right (pw vs) (show i + 1 ≤ vs.length from hlt)
          rw [Nat.add_mul] at this; omega
        rw [← hp]
        have HPI := Lib.hid hp
        clear hp
        obtain ⟨wo, rfl⟩ : ∃ wo : World, wo = wr := ⟨_, rfl⟩
        go_wp2_with fail
        rw [HDX.out]
        go_loopw [10, 13] (fun at' j wi => ∃ k : Nat, k ≤ pw vs ∧ j = .int .i64 k ∧ at' = .int .i64 ((p + k : Nat) : Int) ∧ Blk wi gB 5 (cellsOf (wBits (allBits vs i) p (df vs i) k)) ∧ w5.grownBy wi none) (fun _ j _ => pw vs - (intOf j).toNat)
        case atStart => exact ⟨0, Nat.zero_le _, rfl, rfl, by rw [wBits]; exact BK.out, HG.out⟩
        case round =>
          obtain ⟨k, hk, rfl, rfl, hBk2, hG2⟩ := hrel
          have BK2 := Lib.hid hBk2
          have HG2 := Lib.hid hG2
          clear hBk2 hG2
          by_cases hkw : k < pw vs
          · obtain ⟨q, hq⟩ : ∃ q, q = p + k := ⟨_, rfl⟩
            have hqP : q < P := hq ▸ Nat.lt_of_lt_of_le (Nat.add_lt_add_left hkw p) hpb
            have hqb : q ≤ 1280000 := Nat.le_trans (Nat.le_of_lt hqP) hPb
            rw [← hq]
            have hqn : q / 8 < nb vs := div_lt (by rw [nb_eq, HP.out]) hqP
            obtain ⟨q8, hq8⟩ : ∃ q8, q8 = q / 8 := ⟨_, rfl⟩
            obtain ⟨m8, hm8⟩ : ∃ m8, m8 = q % 8 := ⟨_, rfl⟩
            have hm7 : m8 ≤ 7 := by omega
            rw [← hq8] at hqn
            have hqi : (q8 : Int) < (nb vs : Int) := by omega
            have hq80 : (0 : Int) ≤ (q8 : Int) := by omega
            have hm80 : (0 : Int) ≤ (m8 : Int) := by omega
            obtain ⟨cur, hcur⟩ : ∃ cur, cur = (wBits (allBits vs i) p (df vs i) k).getD q8 0 := ⟨_, rfl⟩
            have hcell := (BK2.out.cell q8).trans (cellsOf_at (by rw [wBits_len, allBits_len]; exact hqn))
            rw [← hcur] at hcell
            have hfr := BK2.out.frozen q8
            have HQ := Lib.hid (And.intro hq (And.intro hq8 (And.intro hm8 hcur)))
            have hqd : (q : Int).tdiv 8 = (q8 : Int) := hq8 ▸ tdiv8 q
            have hqm : (q : Int).tmod 8 = (m8 : Int) := hm8 ▸ tmod8 q
            have hq8w : IntKind.i64.wrap (q8 : Int) = (q8 : Int) := i64_nat (Nat.le_trans (Nat.le_of_lt hqn) (Nat.le_trans hnb (by decide)))
            have hm8w : IntKind.i64.wrap (m8 : Int) = (m8 : Int) := i64_nat (Nat.le_trans hm7 (by decide))
            have HV := Lib.hid (bit_of (d := df vs i) (k := k) (df_lt HI.out hlt))
            have hw : wBits (allBits vs i) p (df vs i) (k + 1) = (wBits (allBits vs i) p (df vs i) k).set q8 (cur ||| (df vs i / 2 ^ k % 2) <<< m8) := by
              rw [wBits, setBit, ← HQ.out.1, ← HQ.out.2.1, ← HQ.out.2.2.1, ← HQ.out.2.2.2]
            have HW := Lib.hid hw
            have hb2 : df vs i / 2 ^ k % 2 < 2 := Nat.mod_lt _ (by decide)
            have HQN := Lib.hid hqn
            clear hq hq8 hm8 hcur hqn hpb hPb hw
            by_cases hbit : df vs i / 2 ^ k % 2 = 1
            · have t1 : (bits BinOp.and IntKind.u64 ((df vs i : Int) / 2 ^ k) 1 == 1) = true := by rw [HV.out, hbit]; rfl
              have HBIT := Lib.hid hbit
              clear hbit hb2
              go_wp2_with fail
              go_still_tail 10, (by kernel_rfl)
              go_wp2_with fail
              clear hqd hqm hq8w hm8w
              rw [bit_one (by rw [HQ.out.2.2.2]; exact (Bt.all vs i).w _ _ _ _) hm7]
              have hfin := BK2.out.set_ q8 (.int .u8 ((cur ||| 1 <<< m8 : Nat) : Int))
              rw [cellsOf_set] at hfin
              exact ⟨⟨k + 1, hkw, by go_num, by rw [HQ.out.1]; go_num, by rw [HW.out, HBIT.out]; exact hfin, only_drew (only_setNew HG2.out hgB1 _)⟩, by simp [intOf]; omega⟩
            · have hb0 : df vs i / 2 ^ k % 2 = 0 := by omega
              have t1 : (bits BinOp.and IntKind.u64 ((df vs i : Int) / 2 ^ k) 1 == 1) = false := by rw [HV.out, hb0]; rfl
              have HBIT := Lib.hid hb0
              clear hbit hb2 hb0 hqd hqm hq8w hm8w
              go_wp2_with fail
              go_roundw
              case rel =>
                refine ⟨k + 1, hkw, by go_num, by rw [HQ.out.1]; go_num, ?_, HG2.out⟩
                rw [HW.out, HBIT.out, Nat.zero_shiftLeft, Nat.or_zero, HQ.out.2.2.2, set_same]
                exact BK2.out
              case measure => simp [intOf]; omega
          · obtain rfl : k = pw vs := by omega
            go_wp2_with fail
            go_roundw
            case rel => exact ⟨i + 1, by omega, by go_num, by rw [HPI.out, Nat.add_mul, Nat.one_mul], by rw [allBits, ← HPI.out]; exact BK2.out, HG2.out⟩
            case measure => simp [intOf]; omega
      · obtain rfl : i = vs.length := by omega
        have B6 : Hid (Byts base wr v5 (xs ++ vint (zz (lo vs)) ++ [(pw vs : Int)])) := own_ext B5.out HG.out
        have hzr := HG.out.size
        have hRB := BK.out.rd
        rw [cellsOf_list] at hRB
        have RB := Lib.hid hRB
        have hal := allBits_len vs vs.length
        have HAL := Lib.hid hal
        clear hRB hal
        go_wp2_with (at_builtin; refine wpList_appendN rfl _ _ 23 rfl base Try.underlying23 byteInfo rfl (by decide) (v := v5) (by rfl) B6.out (some ⟨gB, 0, none⟩) (nb vs) (nb vs) (by rfl) RB.out (by rw [List.length_map, List.length_map, HAL.out, Nat.mul_one]) (by simp [Value.oneCell']) (by decide) (by rw [List.length_append, List.length_append]; simp; omega) (by omega) ?_; intro v7 w7 hv7 hg7 hob7)
        have HF : Hid (Byts base w7 v7 (xs ++ packB vs)) := by
          show Byts base w7 v7 (xs ++ packB vs)
          rw [HPB.out]
          have e : xs ++ (vint (zz (lo vs)) ++ ([(pw vs : Int)] ++ (allBits vs vs.length).map (fun (n : Nat) => (n : Int)))) = (xs ++ vint (zz (lo vs)) ++ [(pw vs : Int)]) ++ (allBits vs vs.length).map (fun (n : Nat) => (n : Int)) := by simp
          rw [e]
          unfold Byts
          rw [List.map_append, List.length_append, List.length_map, HAL.out]
          exact hv7
        have O7 : Hid (Onto w v v7 w7) := O5.out.trans ((Onto.trans ⟨only_of_none HG.out _, .inl rfl⟩) ⟨hg7, hob7.elim .inl (fun h => .inr ⟨_, Nat.le_refl _, h⟩)⟩)
        clear hv7 hg7 hob7
        go_wp2_with fail
        go_ret
        exact ⟨v7, rfl, HF.out, O7.out⟩
end Go.Proofs.Ytebakogdbeeljaa
