/- law24: ColumnEncode: the walk of the law itself. For every input. -/
import Derived.Test.YtebakogdbeeljaaLaw24A
import Derived.Test.YtebakogdbeeljaaColJ
import Derived.Test.YtebakogdbeeljaaSameBytes
namespace Go.Proofs.Ytebakogdbeeljaa
open Go.RowKit
set_option linter.unusedVariables false
set_option linter.unusedSimpArgs false

theorem runsB_len_any : ∀ (n : Nat) (vs : List Int), vs.length ≤ n → (∀ x ∈ vs, I64 x) → vs.length ≤ 16384 → (runsB vs).length ≤ 20 * vs.length
  | 0, [], _, _, _ => by rw [runsB_nil]; simp
  | 0, _ :: _, h, _, _ => by simp at h
  | n + 1, [], _, _, _ => by rw [runsB_nil]; simp
  | n + 1, x :: l, h, hi, hl => by
    have h1 := vint_len10 (zz_lt (hi x (List.mem_cons_self ..)))
    have hr := runLen_le x l
    have h2 := vint_len10 (n := runLen x l + 1) (by simp at hl; omega)
    have h3 := runsB_len_any n (l.drop (runLen x l)) (by simp at h ⊢; omega) (fun y hy => hi y (List.mem_cons_of_mem _ (List.mem_of_mem_drop hy))) (by simp at hl ⊢; omega)
    rw [runsB_cons]
    simp only [List.length_append, List.length_cons, List.length_drop] at *
    omega
theorem runsB_len (vs : List Int) (hi : ∀ x ∈ vs, I64 x) (hl : vs.length ≤ 16384) : (runsB vs).length ≤ 1000000 := by
  have := runsB_len_any _ vs (Nat.le_refl _) hi hl
  omega
theorem packB_len (vs : List Int) (hi : ∀ x ∈ vs, I64 x) (hl : vs.length ≤ 16384) : (packB vs).length ≤ 1000000 := by
  unfold packB
  split
  · simp
  · have h1 := vint_len10 (zz_lt (lo_I64 hi))
    have h2 : vs.length * pw vs ≤ 16384 * 64 := Nat.mul_le_mul hl (pw_le vs)
    have h3 := nb_eq vs
    simp only [List.length_append, List.length_cons, List.length_nil, List.length_map, allBits_len]
    omega
theorem colB_len {kind : Int} {vs : List Int} (hi : ∀ x ∈ vs, I64 x) (hl : vs.length ≤ 16384) : (colB kind vs).length ≤ 2000000 := by
  by_cases he : colErr kind vs = 0
  · rw [colB_ok he]
    have h1 := vint_len10 (n := vs.length) (by omega)
    have h2 := genTo_len (plF vs) 10 (plF_len hi) vs.length
    have h3 := genTo_len (dlF vs) 10 (dlF_len hi) vs.length
    have h4 := runsB_len vs hi hl
    have h5 := packB_len vs hi hl
    simp only [List.length_append, List.length_cons, List.length_nil]
    have hb : (bodyB kind vs).length ≤ 1000000 := by
      unfold bodyB
      split
      · omega
      · split
        · omega
        · split <;> omega
    omega
  · rw [colB_no he]; simp
theorem best_len {vs : List Int} (hi : ∀ x ∈ vs, I64 x) (hl : vs.length ≤ 16384) : (bestTo vs 4).length ≤ 2000000 := by
  have h0 := colB_len (kind := 0) hi hl
  have key : ∀ a b : List Int, b.length ≤ 2000000 → (sh a b).length ≤ 2000000 := fun a b hb => by
    unfold sh; split <;> omega
  exact key _ _ (key _ _ (key _ _ h0))

set_option maxHeartbeats 3000000 in
set_option maxRecDepth 100000 in
theorem law_encode (A B : Option Addr) (vs l : List Int) (c d : Nat) (kind : Int) (w : World) (hv : Rd (fun _ => True) w A (vs.map (.int .i64))) (hvi : ∀ x ∈ vs, I64 x) (hcv : c ≤ maxLen) (hvc : vs.length ≤ c)
    (h : Rd (fun _ => True) w B (l.map (.int .u8))) (hc : l.length ≤ d) (hcm : d ≤ maxLen) (hx : ∀ x ∈ l, 0 ≤ x ∧ x ≤ 255) :
    Calls Try.prog 5 #[.slice A vs.length c, .int .i64 kind, .slice B l.length d] w (TrueExt w) := by
  have HX := Lib.hid hx
  have HV := Lib.hid hv
  have HL := Lib.hid h
  have HVI := Lib.hid hvi
  clear hx hv h hvi
  unfold maxLen at hcv
  by_cases hbig : 400 < vs.length
  · go_enter Try.func5, Try.ntmps5
    go_wp2_with (go_at_call 9; refine (awake_any _).mono ?_; rintro e w1 ⟨rfl, hg1⟩)
    go_ret
    exact ⟨by simp, hg1⟩
  · have hdb : decide ((400 : Int) < (vs.length : Int)) = false := by simp; omega
    go_enter Try.func5, Try.ntmps5
    go_wp2_with (go_at_call 9; refine (awake_any _).mono ?_; rintro e w1 ⟨rfl, hg1⟩)
    refine (draw_any B l d _ (HL.out.grown hg1 (by simp)) hc hcm HX.out).mono ?_
    rintro e w2 ⟨A2, c2, us, rfl, hl2, hc2, hcm2, hui, hr2, hg2⟩
    have HV2 := Lib.hid ((HV.out.grown hg1 (by simp)).grown hg2 (by simp))
    have HR2 := Lib.hid (hr2.mono (S' := fun _ => True) (fun _ _ _ => trivial))
    have HUI : Hid (∀ x ∈ us, I64 x) := hui
    have G2 : Hid (w.grownBy w2 none) := only_trans hg1 hg2
    clear HV HL HX hr2 hg1 hg2 hui
    go_wp2_with fail
    obtain ⟨W, hW⟩ : ∃ W, W = w2.alloc (Obj.cells #[Value.slice A vs.length c, Value.slice A2 us.length c2] 22) := ⟨_, rfl⟩
    rw [← hW]
    have HB : Hid (Blk W w2.heap.size 22 #[Value.slice A vs.length c, Value.slice A2 us.length c2]) := hW ▸ Blk.new w2 _ _
    have HV3 : Hid (Rd (fun _ => True) W A (vs.map (.int .i64))) := hW ▸ HV2.out.alloc _
    have HR3 : Hid (Rd (fun _ => True) W A2 (us.map (.int .i64))) := hW ▸ HR2.out.alloc _
    have HG : Hid (w.grownBy W none) := hW ▸ only_alloc G2.out _
    clear HV2 HR2 G2 hW
    generalize w2.heap.size = lb at *
    go_loopw [8] (fun i wr => ∃ k : Nat, k ≤ 2 ∧ i = .int .i64 k ∧ W.grownBy wr none) (fun i _ => 2 - (intOf i).toNat)
    case atStart => exact ⟨0, by omega, rfl, only_refl _ _⟩
    case round =>
      obtain ⟨k, hk, rfl, hgr⟩ := hrel
      by_cases hk2 : k < 2
      · obtain ⟨AU, zs, cu, hu, hru, hul, hzi⟩ : ∃ AU zs cu, (#[Value.slice A vs.length c, Value.slice A2 us.length c2] : Array Value)[k]? = some (.slice AU (List.length zs) cu) ∧ Rd (fun _ => True) W AU (zs.map (.int .i64)) ∧ zs.length ≤ 700 ∧ ∀ x ∈ zs, I64 x := by
          rcases k with _ | _ | k
          · exact ⟨A, vs, c, rfl, HV3.out, by omega, HVI.out⟩
          · exact ⟨A2, us, c2, rfl, HR3.out, by omega, HUI.out⟩
          · omega
        have HZ := Lib.hid hzi
        have hcu : wr.cell? ⟨lb, k, none⟩ = some (.slice AU zs.length cu) := ((HB.out.grown hgr (by simp)).cell k).trans hu
        have HR := Lib.hid (hru.grown hgr (by simp))
        have GR := Lib.hid hgr
        have HBK : Hid (∀ W', W.grownBy W' none → W'.cell? ⟨lb, k, none⟩ = some (.slice AU zs.length cu)) := fun W' hW' => ((HB.out.grown hW' (by simp)).cell k).trans hu
        have HRK := Lib.hid hru
        have he0 : ¬ 16384 < zs.length := by omega
        have HE0 := Lib.hid he0
        clear hu hgr hru hzi he0
        go_wp2_with fail
        refine (encode_any AU zs cu _ HR.out (by omega) HZ.out).mono ?_
        rw [show EPost wr zs = fun e w' => ∃ v, e = .returned (.tuple #[v, .int .i64 0]) ∧ Byts wr.heap.size w' v (bestTo zs 4) ∧ wr.grownBy w' none from by funext e w'; unfold EPost; rw [if_neg HE0.out]]
        rintro e w3 ⟨v3, rfl, hB3, hg3⟩
        obtain ⟨A3, c3, rfl, hc3, hm3, hr3⟩ := hB3.rd
        have G3 : Hid (W.grownBy w3 none) := only_trans GR.out hg3
        have hcu3 := HBK.out _ G3.out
        have R3 := Lib.hid hr3
        clear hB3 hr3 hg3 hcu
        go_wp2_with fail
        refine (rencode_any AU zs cu _ (HRK.out.grown G3.out (by simp)) (by omega) HZ.out).mono ?_
        rw [show EPost w3 zs = fun e w' => ∃ v, e = .returned (.tuple #[v, .int .i64 0]) ∧ Byts w3.heap.size w' v (bestTo zs 4) ∧ w3.grownBy w' none from by funext e w'; unfold EPost; rw [if_neg HE0.out]]
        rintro e w4 ⟨v4, rfl, hB4, hg4⟩
        obtain ⟨A4, c4, rfl, hc4, hm4, hr4⟩ := hB4.rd
        have G4 : Hid (W.grownBy w4 none) := only_trans G3.out hg4
        have R34 := Lib.hid (R3.out.grown hg4 (by simp))
        have R4 := Lib.hid hr4
        have hbl := best_len HZ.out (by omega)
        clear hB4 hr4 hg4 hcu3 G3 R3
        generalize bestTo zs 4 = bs at *
        go_wp2_with fail
        refine (samebytes_any A3 A4 bs bs c3 c4 _ R34.out R4.out (by omega) (by omega) true (by simp)).mono ?_
        rintro e w5 ⟨rfl, n5, rfl⟩
        have G5 : Hid (W.grownBy (w4.drewN n5) none) := only_drewN G4.out n5
        clear G4 R34 R4
        go_wp2_with fail
        obtain ⟨wo, hwo⟩ : ∃ wo, wo = w4.drewN n5 := ⟨_, rfl⟩
        rw [← hwo] at G5 ⊢
        clear hwo
        go_loopw [9, 10, 11, 12, 13] (fun _ _ _ _ i wi => ∃ n : Nat, n ≤ 4 ∧ i = .int .i64 n ∧ W.grownBy wi none) (fun _ _ _ _ i _ => 4 - (intOf i).toNat)
        case atStart => exact ⟨0, by omega, rfl, G5.out⟩
        case round =>
          obtain ⟨n, hn, rfl, hgn⟩ := hrel
          have GN := Lib.hid hgn
          have hcn := HBK.out _ hgn
          have RN := Lib.hid (HRK.out.grown hgn (by simp))
          clear hgn
          by_cases hn4 : n < 4
          · have HEn : Hid (colErr (n : Nat) zs = 0) := colErr_k (by omega) (by omega)
            go_wp2_with fail
            refine (encas_any (n : Nat) AU zs cu _ RN.out (by omega) HZ.out).mono ?_
            rintro e w6 ⟨v6, rfl, hB6, hg6⟩
            obtain ⟨A6, c6, rfl, hc6, hm6, hr6⟩ := hB6.rd
            have G6 : Hid (W.grownBy w6 none) := only_trans GN.out hg6
            have hc6' := HBK.out _ G6.out
            have R6 := Lib.hid hr6
            clear hB6 hr6 hg6 hcn
            go_wp2_with fail
            refine (rencas_any (n : Nat) AU zs cu _ (HRK.out.grown G6.out (by simp)) (by omega) HZ.out).mono ?_
            rintro e w7 ⟨v7, rfl, hB7, hg7⟩
            obtain ⟨A7, c7, rfl, hc7, hm7, hr7⟩ := hB7.rd
            have G7 : Hid (W.grownBy w7 none) := only_trans G6.out hg7
            have R67 := Lib.hid (R6.out.grown hg7 (by simp))
            have R7 := Lib.hid hr7
            have hbl2 := colB_len (kind := (n : Nat)) HZ.out (by omega)
            clear hB7 hr7 hg7 hc6' G6 R6
            generalize colB (n : Nat) zs = bs2 at *
            go_wp2_with fail
            refine (samebytes_any A6 A7 bs2 bs2 c6 c7 _ R67.out R7.out (by omega) (by omega) true (by simp)).mono ?_
            rintro e w8 ⟨rfl, n8, rfl⟩
            go_wp2_with fail
            go_roundw
            case rel => exact ⟨n + 1, by omega, by go_num, only_drewN G7.out _⟩
            case measure => simp [intOf]; omega
          · obtain rfl : n = 4 := by omega
            go_wp2_with fail
            refine (encas_any kind AU zs cu _ RN.out (by omega) HZ.out).mono ?_
            rintro e w6 ⟨v6, rfl, hB6, hg6⟩
            have G6 : Hid (W.grownBy w6 none) := only_trans GN.out hg6
            clear hB6 hg6 hcn
            by_cases hk0 : kind < 0
            · rw [show colErr kind zs = 2 from by unfold colErr; rw [if_pos (.inl hk0)]]
              have d0 : decide (kind < 0) = true := decide_eq_true hk0
              go_wp2_with fail
              go_roundw
              case rel => exact ⟨k + 1, by omega, by go_num, G6.out⟩
              case measure => simp [intOf]; omega
            · have d0 : decide (kind < 0) = false := decide_eq_false hk0
              by_cases hk4 : 3 < kind
              · rw [show colErr kind zs = 2 from by unfold colErr; rw [if_pos (.inr (by omega))]]
                have d1 : decide (3 < kind) = true := decide_eq_true hk4
                go_wp2_with fail
                go_roundw
                case rel => exact ⟨k + 1, by omega, by go_num, G6.out⟩
                case measure => simp [intOf]; omega
              · rw [show colErr kind zs = 0 from by unfold colErr; rw [if_neg (by omega), if_neg HE0.out]]
                have d1 : decide (3 < kind) = false := decide_eq_false hk4
                go_wp2_with fail
                go_roundw
                case rel => exact ⟨k + 1, by omega, by go_num, G6.out⟩
                case measure => simp [intOf]; omega
      · obtain rfl : k = 2 := by omega
        go_wp2_with fail
        go_ret
        exact ⟨rfl, only_trans HG.out hgr⟩
end Go.Proofs.Ytebakogdbeeljaa
