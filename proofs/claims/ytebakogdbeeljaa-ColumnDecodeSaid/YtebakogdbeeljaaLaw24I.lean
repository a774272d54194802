/- law24: ColumnDecodeInvertsEncode: the walk of the law itself. For every input. -/
import Derived.Test.YtebakogdbeeljaaDec
import Derived.Test.YtebakogdbeeljaaSameInts
namespace Go.Proofs.Ytebakogdbeeljaa
open Go.RowKit
set_option linter.unusedVariables false
set_option linter.unusedSimpArgs false

theorem colB_len7 {kind : Int} {vs : List Int} (hi : ∀ x ∈ vs, I64 x) (hl : vs.length ≤ 16384) : (colB kind vs).length ≤ 1000000 := by
  by_cases he : colErr kind vs = 0
  · rw [colB_ok he]
    have h1 := vint_len10 (n := vs.length) (by omega)
    have h2 := genTo_len (plF vs) 10 (plF_len hi) vs.length
    have h3 := genTo_len (dlF vs) 10 (dlF_len hi) vs.length
    have h4 := runsB_len_any _ vs (Nat.le_refl _) hi hl
    have h5 : (packB vs).length ≤ 200000 := by
      unfold packB
      split
      · simp
      · have h1 := vint_len10 (zz_lt (lo_I64 hi))
        have h2 : vs.length * pw vs ≤ 16384 * 64 := Nat.mul_le_mul hl (pw_le vs)
        have h3 := nb_eq vs
        simp only [List.length_append, List.length_cons, List.length_nil, List.length_map, allBits_len]
        omega
    simp only [List.length_append, List.length_cons, List.length_nil]
    have hb : (bodyB kind vs).length ≤ 400000 := by
      unfold bodyB
      split
      · omega
      · split
        · omega
        · split <;> omega
    omega
  · rw [colB_no he]; simp
set_option maxHeartbeats 3000000 in
set_option maxRecDepth 100000 in
theorem law_inverts (A B : Option Addr) (vs l : List Int) (c d : Nat) (w : World) (hv : Rd (fun _ => True) w A (vs.map (.int .i64))) (hvi : ∀ x ∈ vs, I64 x) (hcv : c ≤ maxLen) (hvc : vs.length ≤ c)
    (h : Rd (fun _ => True) w B (l.map (.int .u8))) (hc : l.length ≤ d) (hcm : d ≤ maxLen) (hx : ∀ x ∈ l, 0 ≤ x ∧ x ≤ 255) :
    Calls Try.prog 7 #[.slice A vs.length c, .slice B l.length d] w (TrueExt w) := by
  have HX := Lib.hid hx
  have HV := Lib.hid hv
  have HL := Lib.hid h
  have HVI := Lib.hid hvi
  clear hx hv h hvi
  unfold maxLen at hcv
  by_cases hbig : 400 < vs.length
  · go_enter Try.func7, Try.ntmps7
    go_wp2_with (go_at_call 9; refine (awake_any _).mono ?_; rintro e w1 ⟨rfl, hg1⟩)
    go_ret
    exact ⟨by simp, hg1⟩
  · have hdb : decide ((400 : Int) < (vs.length : Int)) = false := by simp; omega
    go_enter Try.func7, Try.ntmps7
    go_wp2_with (go_at_call 9; refine (awake_any _).mono ?_; rintro e w1 ⟨rfl, hg1⟩)
    refine (draw_any B l d _ (HL.out.grown hg1 (by simp)) hc hcm HX.out).mono ?_
    rintro e w2 ⟨A2, c2, us, rfl, hl2, hc2, hcm2, hui, hr2, hg2⟩
    have HV2 := Lib.hid ((HV.out.grown hg1 (by simp)).grown hg2 (by simp))
    have HR2 := Lib.hid (hr2.mono (S' := fun _ => True) (fun _ _ _ => trivial))
    have HUI : Hid (∀ x ∈ us, I64 x) := hui
    have G2 : Hid (w.grownBy w2 none) := only_trans hg1 hg2
    clear HV HL HX hr2 hg1 hg2 hui
    go_wp2_with fail
    obtain ⟨W, hW⟩ : ∃ W, W = w2.alloc (Obj.cells #[Value.slice A vs.length c, Value.slice A2 us.length c2] 22) := ⟨_, rfl⟩
    rw [← hW]
    have HB : Hid (Blk W w2.heap.size 22 #[Value.slice A vs.length c, Value.slice A2 us.length c2]) := hW ▸ Blk.new w2 _ _
    have HV3 : Hid (Rd (fun _ => True) W A (vs.map (.int .i64))) := hW ▸ HV2.out.alloc _
    have HR3 : Hid (Rd (fun _ => True) W A2 (us.map (.int .i64))) := hW ▸ HR2.out.alloc _
    have HG : Hid (w.grownBy W none) := hW ▸ only_alloc G2.out _
    clear HV2 HR2 G2 hW
    generalize w2.heap.size = lb at *
    go_loopw [6] (fun i wr => ∃ k : Nat, k ≤ 2 ∧ i = .int .i64 k ∧ W.grownBy wr none) (fun i _ => 2 - (intOf i).toNat)
    case atStart => exact ⟨0, by omega, rfl, only_refl _ _⟩
    case round =>
      obtain ⟨k, hk, rfl, hgr⟩ := hrel
      by_cases hk2 : k < 2
      · obtain ⟨AU, zs, cu, hu, hru, hul, hzi⟩ : ∃ AU zs cu, (#[Value.slice A vs.length c, Value.slice A2 us.length c2] : Array Value)[k]? = some (.slice AU (List.length zs) cu) ∧ Rd (fun _ => True) W AU (zs.map (.int .i64)) ∧ zs.length ≤ 700 ∧ ∀ x ∈ zs, I64 x := by
          rcases k with _ | _ | k
          · exact ⟨A, vs, c, rfl, HV3.out, by omega, HVI.out⟩
          · exact ⟨A2, us, c2, rfl, HR3.out, by omega, HUI.out⟩
          · omega
        have HZ := Lib.hid hzi
        have hcu : wr.cell? ⟨lb, k, none⟩ = some (.slice AU zs.length cu) := ((HB.out.grown hgr (by simp)).cell k).trans hu
        have HR := Lib.hid (hru.grown hgr (by simp))
        have GR := Lib.hid hgr
        have HBK : Hid (∀ W', W.grownBy W' none → W'.cell? ⟨lb, k, none⟩ = some (.slice AU zs.length cu)) := fun W' hW' => ((HB.out.grown hW' (by simp)).cell k).trans hu
        have HRK := Lib.hid hru
        have he0 : ¬ 16384 < zs.length := by omega
        have HE0 := Lib.hid he0
        obtain ⟨kb, hkb, hbest, hmin⟩ := best_is zs 4 (by omega) (by omega)
        have HMIN : Hid (∀ n : Nat, n < 4 → (bestTo zs 4).length ≤ (colB (n : Nat) zs).length ∧ (n < kb → (colB (n : Nat) zs).length ≠ (bestTo zs 4).length)) := hmin
        have HBI := Lib.hid hbest
        have HKB : Hid (kindOf (bestTo zs 4) = ((kb : Int), true)) := by show kindOf (bestTo zs 4) = _; rw [hbest]; exact (isCol_colB (by omega) (by omega) hzi).2
        have HU8 : Hid (∀ x ∈ bestTo zs 4, 0 ≤ x ∧ x ≤ 255) := by show ∀ x ∈ bestTo zs 4, _; rw [hbest]; exact colB_u8 (by omega) hzi (by omega)
        have hbl : (bestTo zs 4).length ≤ 1000000 := by rw [hbest]; exact colB_len7 hzi (by omega)
        clear hu hgr hru hzi he0 hbest hmin
        go_wp2_with fail
        refine (encode_any AU zs cu _ HR.out (by omega) HZ.out).mono ?_
        rw [show EPost wr zs = fun e w' => ∃ v, e = .returned (.tuple #[v, .int .i64 0]) ∧ Byts wr.heap.size w' v (bestTo zs 4) ∧ wr.grownBy w' none from by funext e w'; unfold EPost; rw [if_neg HE0.out]]
        rintro e w3 ⟨v3, rfl, hB3, hg3⟩
        obtain ⟨A3, c3, rfl, hc3, hm3, hr3⟩ := hB3.rd
        have G3 : Hid (W.grownBy w3 none) := only_trans GR.out hg3
        have hcu3 := HBK.out _ G3.out
        have R3 := Lib.hid hr3
        clear hB3 hr3 hg3 hcu
        generalize bestTo zs 4 = bs at *
        go_wp2_with fail
        refine (kind_any A3 bs c3 _ R3.out (by omega) HU8.out).mono ?_
        rw [HKB.out]
        rintro e w4 ⟨rfl, n4, rfl⟩
        have G4 : Hid (W.grownBy (w3.drewN n4) none) := only_drewN G3.out n4
        clear G3 R3 hcu3
        go_wp2_with fail
        obtain ⟨wo, hwo⟩ : ∃ wo, wo = w3.drewN n4 := ⟨_, rfl⟩
        rw [← hwo] at G4 ⊢
        clear hwo
        go_loopw [11] (fun i wi => ∃ n : Nat, n ≤ 4 ∧ i = .int .i64 n ∧ W.grownBy wi none) (fun i _ => 4 - (intOf i).toNat)
        case atStart => exact ⟨0, by omega, rfl, G4.out⟩
        case round =>
          obtain ⟨n, hn, rfl, hgn⟩ := hrel
          have GN := Lib.hid hgn
          have hcn := HBK.out _ hgn
          have RN := Lib.hid (HRK.out.grown hgn (by simp))
          clear hgn
          by_cases hn4 : n < 4
          · have HEn : Hid (colErr (n : Nat) zs = 0) := colErr_k (by omega) (by omega)
            have hbl2 := colB_len7 (kind := (n : Nat)) HZ.out (by omega)
            have DB : Hid (∀ (A : Option Addr) (c : Nat) (w : World), Rd (fun _ => True) w A ((colB (n : Nat) zs).map (.int .u8)) → (colB (n : Nat) zs).length ≤ c → c ≤ maxLen → Calls Try.prog 21 #[.slice A (colB (n : Nat) zs).length c] w (DecYes w zs)) := fun A c w h1 h2 h3 => dec_back (by omega) (by omega) HZ.out (by omega) A c w h1 h2 h3
            obtain ⟨hm1, hm2⟩ := HMIN.out n hn4
            go_wp2_with fail
            refine (encas_any (n : Nat) AU zs cu _ RN.out (by omega) HZ.out).mono ?_
            rintro e w6 ⟨v6, he6, hB6, hg6⟩
            rw [HEn.out] at he6
            subst he6
            obtain ⟨A6, c6, rfl, hc6, hm6, hr6⟩ := hB6.rd
            have G6 : Hid (W.grownBy w6 none) := only_trans GN.out hg6
            have R6 := Lib.hid hr6
            clear hB6 hr6 hg6 hcn
            generalize colB (n : Nat) zs = bs2 at *
            go_wp2_with fail
            refine (DB.out A6 c6 _ (R6.out.mono (fun _ _ _ => trivial)) hc6 hm6).mono ?_
            rintro e w7 ⟨v7, rfl, hown7, hg7⟩
            obtain ⟨A7, c7, rfl, hc7, hm7, -, hr7⟩ := Rd.of_own hown7 (by decide)
            have G7 : Hid (W.grownBy w7 none) := only_trans G6.out hg7
            have R7 := Lib.hid hr7
            have hc7' := HBK.out _ G7.out
            clear hr7 hg7 hown7 R6 G6
            have d1 : decide ((bs2.length : Int) < (bs.length : Int)) = false := decide_eq_false (by omega)
            have d1' : decide (bs2.length < bs.length) = false := decide_eq_false (by omega)
            by_cases hnk : n < kb
            · have d2 : decide ((n : Int) < (kb : Int)) = true := decide_eq_true (by omega)
              have hne := hm2 hnk
              have d3 : ((bs2.length : Int) == (bs.length : Int)) = false := by rw [beq_eq_false_iff_ne]; omega
              clear hm2 hne
              go_wp2_with fail
              refine (sameints_any A7 AU zs zs c7 cu _ R7.out (HRK.out.grown G7.out (by simp)) (by omega) (by omega) true (by simp)).mono ?_
              rintro e w8 ⟨rfl, n8, rfl⟩
              go_wp2_with fail
              go_roundw
              case rel => exact ⟨n + 1, by omega, by go_num, only_drewN G7.out _⟩
              case measure => simp [intOf]; omega
            · have d2 : decide ((n : Int) < (kb : Int)) = false := decide_eq_false (by omega)
              clear hm2
              go_wp2_with fail
              refine (sameints_any A7 AU zs zs c7 cu _ R7.out (HRK.out.grown G7.out (by simp)) (by omega) (by omega) true (by simp)).mono ?_
              rintro e w8 ⟨rfl, n8, rfl⟩
              go_wp2_with fail
              go_roundw
              case rel => exact ⟨n + 1, by omega, by go_num, only_drewN G7.out _⟩
              case measure => simp [intOf]; omega
          · obtain rfl : n = 4 := by omega
            go_wp2_with fail
            go_roundw
            case rel => exact ⟨k + 1, by omega, by go_num, GN.out⟩
            case measure => simp [intOf]; omega
      · obtain rfl : k = 2 := by omega
        have G9 : Hid (w.grownBy wr none) := only_trans HG.out hgr
        clear hgr
        go_wp2_with fail
        go_ret
        exact ⟨rfl, G9.out⟩
end Go.Proofs.Ytebakogdbeeljaa
