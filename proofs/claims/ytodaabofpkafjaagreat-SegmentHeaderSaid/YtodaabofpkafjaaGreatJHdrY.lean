/- Section of package segment. Conditions: sizes, bytes. -/
import Derived.Test.YtodaabofpkafjaaGreatJByInfo
namespace Go.Proofs.YtodaabofpkafjaaGreat
open Go.RowKit
set_option linter.unusedVariables false
set_option linter.unusedSimpArgs false

theorem fin21 {w w3 w7 : World} {bs : List Int} {k n : Nat} {A : Option Addr} {c : Nat} (hE : secE bs k = 0) (hX : secY bs k = secH bs k) (hn : n = (secH bs k).length) (h3 : w.grownBy w3 none) (h7 : w3.grownBy w7 none) (hr : Rd (w3.heap.size ≤ ·) w7 A ((secH bs k).map (.int .u8))) : SecP w bs k (.returned (.tuple #[.slice A n c, .int .i64 0])) w7 :=
  ⟨A, c, by rw [hX, hE, hn]; rfl, by rw [hX]; exact hr.mono (fun b hb _ => Nat.le_trans h3.size hb), only_trans h3 h7⟩
set_option maxHeartbeats 4000000 in
set_option maxRecDepth 100000 in
theorem ssection_any {S : Nat → Prop} (A : Option Addr) (bs : List Int) (c : Nat) (kind : Int) (w : World) (hr : Rd S w A (bs.map (.int .u8))) (hi : InH bs) (hl : bs.length ≤ 10000000) (hc : bs.length ≤ c) (hm : c ≤ 9223372036854775807) :
    Calls Tryz.prog 21 #[.slice A bs.length c, .int .i64 kind] w (SecP w bs kind) := by
  have HR := Lib.hid hr
  have HI := Lib.hid hi
  clear hr hi
  go_enter Tryz.func21, Tryz.ntmps21
  by_cases h1 : kind < 1
  · have i1 : decide (kind < 1) = true := by simp [h1]
    have HE := Lib.hid (secE_out (bs := bs) (.inl h1))
    clear h1
    go_wp2_with fail
    go_ret2
    exact SecP.no HE.out (by decide) (only_refl _ _)
  · by_cases h2 : 12 < kind
    · have i1 : decide (kind < 1) = false := by simp; omega
      have i2 : decide (12 < kind) = true := by simp [h2]
      have HE := Lib.hid (secE_out (bs := bs) (.inr h2))
      clear h1 h2
      go_wp2_with fail
      go_ret2
      exact SecP.no HE.out (by decide) (only_refl _ _)
    · have i1 : decide (kind < 1) = false := by simp; omega
      have i2 : decide (12 < kind) = false := by simp; omega
      obtain ⟨k, rfl⟩ : ∃ k : Nat, kind = k := ⟨kind.toNat, by omega⟩
      have hk1 : 1 ≤ k := by omega
      have hk2 : k ≤ 12 := by omega
      clear h1 h2
      have KP := Lib.hid (parse_any A bs c w HR.out HI.out hl hc hm)
      obtain ⟨x, y, z, hV⟩ := sumV_three bs
      have HV := Lib.hid hV
      clear hV
      obtain ⟨E, hE⟩ : ∃ E, errS bs = E := ⟨_, rfl⟩
      have hE15 := errS_le bs
      rw [hE] at hE15
      by_cases he : E = 0
      · subst he
        have HE0 := Lib.hid hE
        clear hE hE15
        obtain ⟨b, off, rfl, hSb, hbw, -⟩ := HR.out (by rw [List.length_map]; have := (errS_ok HE0.out).1; omega)
        have hl124 : 124 ≤ bs.length := (errS_ok HE0.out).1
        have HIN := Lib.hid (fun j (h1 : 1 ≤ j) (h2 : j ≤ 12) => sec_in HE0.out h1 h2)
        have HSL := Lib.hid (sec_len HE0.out hk1 hk2)
        have HOL := Lib.hid (fun j (hj : j ≤ 12) => offH_le HI.out hl124 j hj)
        have HLL := Lib.hid (fun j (hj : j ≤ 12) => lenH_lt HI.out hj hl124)
        have HCC := Lib.hid (fun j (hj : j ≤ 12) => crcH_lt HI.out hj hl124)
        go_upto_region 7 with (go_at_call 35; refine KP.out.mono ?_; rintro e w2 ⟨A2, n2, c2, rfl, hd2, hg2⟩; obtain ⟨rfl, hc2, hr2⟩ := hd2 HE0.out; rw [HV.out, HE0.out]; have G2 := Lib.hid (only_alloc hg2 (.cells #[.int .i64 x, .int .i64 y, .int .i64 z] 43)); have R2 := Lib.hid (hr2.alloc (.cells #[.int .i64 x, .int .i64 y, .int .i64 z] 43)); clear hd2 hg2 hr2)
        obtain ⟨W, hW⟩ : ∃ W, W = w2.alloc (.cells #[.int .i64 x, .int .i64 y, .int .i64 z] 43) := ⟨_, rfl⟩
        rw [← hW] at G2 R2 ⊢
        clear hW
        obtain ⟨eb, eo, rfl, heb, hebW, -⟩ := R2.out (by rw [entL_len]; decide)
        have HAT : Hid (∀ w', W.grownBy w' none → ∀ j, j < 12 → w'.cell? ⟨eb, eo + 2 * j, none⟩ = some (.int .i64 (lenH bs (j + 1) : Nat)) ∧ w'.cell? ⟨eb, eo + (2 * j + 1), none⟩ = some (.int .u32 (crcH bs (j + 1) : Nat))) := Lib.hid (fun w' hg j hj => by
          obtain ⟨h1, h2⟩ := entL_at bs 12 j hj
          obtain ⟨b', o', e, -, -, hcell⟩ := (R2.out.grown hg (by simp)) (by rw [entL_len]; decide)
          injection e with e; injection e with e1 e2
          subst e1 e2
          exact ⟨hcell _ _ h1, hcell _ _ h2⟩)
        have i5 : (k : Int) - 1 = ((k - 1 : Nat) : Int) := by omega
        obtain ⟨k1, hk1e⟩ : ∃ x, x = k - 1 := ⟨_, rfl⟩
        have HKE : Hid (k1 + 1 = k) := Lib.hid (by omega)
        rw [← hk1e] at i5
        have i6 : IntKind.i64.wrap ((k : Int) - 1) = (k1 : Int) := by rw [i5]; exact IntWalk.i64_in _ (by omega)
        have i7 : (k1 : Int) ≤ (c2 : Int) := by omega
        have i8 : (0 : Int) ≤ (k1 : Int) := by omega
        have hk1l : k1 < 12 := by omega
        go_wp2_with fail
        rw [← hk1e]
        clear hk1e
        go_loopw [9, 33] (fun va vi wr => ∃ j : Nat, vi = .int .i64 j ∧ j ≤ k1 ∧ va = .int .i64 (offH bs j : Nat) ∧ W.grownBy wr none) (fun _ vi _ => 12 - (intOf vi).toNat)
        case atStart => exact ⟨0, rfl, by omega, rfl, only_refl _ _⟩
        case round =>
          obtain ⟨j, rfl, hj, rfl, hG⟩ := hrel
          have GO := Lib.hid hG
          by_cases hlt : j < k1
          · have i9 : (j : Int) < (k1 : Int) := by omega
            obtain ⟨c0, c1⟩ := HAT.out wr hG j (by omega)
            have HF : Hid (offH bs (j + 1) = offH bs j + lenH bs (j + 1)) := Lib.hid rfl
            have hon := HOL.out j (by omega)
            have hln := HLL.out (j + 1) (by omega)
            obtain ⟨on, hon2⟩ : ∃ x, offH bs j = x := ⟨_, rfl⟩
            obtain ⟨ln, hln2⟩ : ∃ x, lenH bs (j + 1) = x := ⟨_, rfl⟩
            obtain ⟨cn, hcn2⟩ : ∃ x, crcH bs (j + 1) = x := ⟨_, rfl⟩
            rw [hon2, hln2] at HF
            rw [hln2] at hln c0
            rw [hcn2] at c1
            rw [hon2] at hon ⊢
            rw [show eo + 2 * j = eo + j * 2 by omega] at c0
            rw [show eo + (2 * j + 1) = eo + j * 2 + 1 by omega] at c1
            clear hon2 hln2 hcn2 hG
            go_wp2_with fail
            go_roundw
            case rel => exact ⟨j + 1, by go_num, by omega, by rw [HF.out]; go_num, only_alloc GO.out _⟩
            case measure => simp [intOf]; omega
          · have i9 : ¬ (j : Int) < (k1 : Int) := by omega
            obtain rfl : j = k1 := by omega
            obtain ⟨c0, c1⟩ := HAT.out wr hG j (by omega)
            have GW := Lib.hid (only_trans G2.out hG)
            have hin := HIN.out (j + 1) (by omega) (by omega)
            have hcn := HCC.out (j + 1) (by omega)
            rw [Nat.add_sub_cancel] at hin
            obtain rfl := HKE.out
            have HRA : Hid (∀ w', w.grownBy w' none → Rd S w' (some ⟨b, off + offH bs j, none⟩) ((secH bs (j + 1)).map (.int .u8))) := Lib.hid (fun w' hg => sec_rd (c := c) (HR.out.grown hg (by simp)) (j + 1))
            have HRZ : Hid (∀ w' A, c = offH bs j → Rd S w' A ((secH bs (j + 1)).map (.int .u8))) := Lib.hid (fun w' A h => sec_rd0 (by rw [Nat.add_sub_cancel]; omega))
            have HRT : Hid (rightH bs (j + 1) = (crcH bs (j + 1) == crcN (secH bs (j + 1)))) := Lib.hid rfl
            have hcc : crcN (secH bs (j + 1)) < 4294967296 := crcN_lt _
            have hsl : (secH bs (j + 1)).length ≤ 10000000 := by rw [HSL.out]; omega
            have HSC := Lib.hid (fun (A : Option Addr) (c' : Nat) (w' : World) (h : Rd S w' A ((secH bs (j + 1)).map (.int .u8))) => scrc_any A (secH bs (j + 1)) c' w' h hsl)
            have KCL := Lib.hid (fun (a : Addr) (c' : Nat) (w' : World) (h : Rd S w' (some a) ((secH bs (j + 1)).map (.int .u8))) => cloneBy_any (some a) (secH bs (j + 1)).length c' ((secH bs (j + 1)).map (.int .u8)) w' h (by rw [List.length_map, Nat.mul_one]) hsl (byte_ones _) (fun e => by cases e))
            rw [HSL.out] at HSC KCL
            have hlE := HSL.out
            obtain ⟨on, hon2⟩ : ∃ x, offH bs j = x := ⟨_, rfl⟩
            obtain ⟨ln, hln2⟩ : ∃ x, lenH bs (j + 1) = x := ⟨_, rfl⟩
            obtain ⟨cn, hcn2⟩ : ∃ x, crcH bs (j + 1) = x := ⟨_, rfl⟩
            obtain ⟨cc, hcc2⟩ : ∃ x, crcN (secH bs (j + 1)) = x := ⟨_, rfl⟩
            rw [hon2] at hin HRA HRZ ⊢
            rw [hln2] at hin c0 HSC KCL hlE
            rw [hcn2] at c1 hcn HRT
            rw [hcc2] at hcc HRT HSC
            rw [show eo + 2 * j = eo + j * 2 by omega] at c0
            rw [show eo + (2 * j + 1) = eo + j * 2 + 1 by omega] at c1
            have HLE := Lib.hid hlE
            clear hon2 hln2 hcn2 hcc2 hG hsl hlE
            have n1 : (on : Int) ≤ (on : Int) + (ln : Int) := by omega
            have n2 : (on : Int) + (ln : Int) ≤ (c : Int) := by omega
            go_upto_region 13 with fail
            obtain ⟨SA, hSA⟩ : ∃ a : Addr, (if c = on then some (⟨b, off, none⟩ : Addr) else some ⟨b, off + on, none⟩) = some a := by
              by_cases h : c = on
              · exact ⟨_, by rw [if_pos h]⟩
              · exact ⟨_, by rw [if_neg h]⟩
            have HSA : Hid (∀ w', w.grownBy w' none → Rd S w' (some SA) ((secH bs (j + 1)).map (.int .u8))) := Lib.hid (fun w' hg => by
              rw [← hSA]
              split
              · exact HRZ.out w' _ (by assumption)
              · exact HRA.out w' hg)
            rw [hSA, show on + ln - on = ln by omega]
            clear hSA n1 n2 i5 i7 i8 i1 i2
            have l12 : (j : Int) < 12 := by omega
            have i6b : IntKind.i64.wrap ((j : Int) + 1 - 1) = (j : Int) := by rw [show (j : Int) + 1 - 1 = j by omega]; exact IntWalk.i64_in _ (by omega)
            by_cases heq : cc = cn
            · have HE : Hid (secE bs ((j + 1 : Nat) : Int) = 0) := Lib.hid (by rw [secE_ok hk1 hk2 HE0.out, HRT.out, if_pos (by rw [heq, beq_self_eq_true])])
              have HX := Lib.hid (secY_yes HE.out)
              have e1 : ((cc : Int) == (cn : Int)) = true := by simp [heq]
              clear heq
              go_quiet (first | (go_at_call 12; exact Calls.quiet_of_same (HSC.out _ _ _ (HSA.out _ (only_drewN GW.out _)))))
              go_wp2_with (go_at_call 39; refine (KCL.out SA _ _ (HSA.out _ (only_drewN GW.out _))).mono ?_; rintro e w7 ⟨A7, c7, rfl, hown7, hg7⟩; obtain ⟨A8, c8, hv8, -, -, -, hr7⟩ := Rd.of_own hown7 (by decide); injection hv8 with hA8 hn8 hc8; rw [← hA8] at hr7; have R7 := Lib.hid hr7; have G7 := Lib.hid hg7; clear hown7 hg7 hr7 hA8 hn8 hc8)
              go_ret2
              exact fin21 HE.out HX.out HLE.out.symm (only_drewN GW.out _) G7.out R7.out
            · have HE : Hid (secE bs ((j + 1 : Nat) : Int) = 15) := Lib.hid (by rw [secE_ok hk1 hk2 HE0.out, HRT.out, if_neg (by rw [beq_iff_eq]; omega)])
              have e1 : ((cc : Int) == (cn : Int)) = false := by rw [beq_eq_false_iff_ne]; omega
              clear heq
              go_quiet (first | (go_at_call 12; exact Calls.quiet_of_same (HSC.out _ _ _ (HSA.out _ (only_drewN GW.out _)))))
              go_wp2_with fail
              go_ret2
              exact SecP.no HE.out (by decide) (only_drewN GW.out _)
      · have HE := Lib.hid (secE_err (bs := bs) (kind := (k : Int)) (by omega) (by omega) hE he)
        have hne : ((E : Int) == 0) = false := by rw [beq_eq_false_iff_ne]; omega
        have HE1 := Lib.hid hE
        have HN := Lib.hid he
        clear hE he
        go_wp2_with (go_at_call 35; refine KP.out.mono ?_; rintro e w2 ⟨A2, n2, c2, rfl, -, hg2⟩; rw [HV.out, HE1.out])
        go_ret2
        exact SecP.no HE.out HN.out (only_alloc (by assumption) _)
end Go.Proofs.YtodaabofpkafjaaGreat

namespace Go.Proofs.YtodaabofpkafjaaGreat
open Go.RowKit
set_option linter.unusedVariables false
set_option linter.unusedSimpArgs false

set_option maxHeartbeats 4000000 in
set_option maxRecDepth 100000 in
theorem sdamaged_any {S : Nat → Prop} (A : Option Addr) (bs : List Int) (c : Nat) (w : World) (hr : Rd S w A (bs.map (.int .u8))) (hi : InH bs) (hl : bs.length ≤ 10000000) (hc : bs.length ≤ c) (hm : c ≤ 9223372036854775807) :
    Calls Tryz.prog 18 #[.slice A bs.length c] w (DamP w bs) := by
  have HR := Lib.hid hr
  have HI := Lib.hid hi
  clear hr hi
  go_enter Tryz.func18, Tryz.ntmps18
  have KS := Lib.hid (ssummary_any A bs c w HR.out HI.out hl hc hm)
  obtain ⟨E, hE⟩ : ∃ E, E = errS bs := ⟨_, rfl⟩
  have hE15 := errS_le bs
  rw [← hE] at hE15
  by_cases he : E = 0
  · subst he
    have HE0 := Lib.hid hE.symm
    clear hE hE15
    obtain ⟨b, off, rfl, hSb, hbw, -⟩ := HR.out (by rw [List.length_map]; have := (errS_ok HE0.out).1; omega)
    obtain ⟨x, y, z, hV⟩ : ∃ x y z : Int, sumV bs = #[.int .i64 x, .int .i64 y, .int .i64 z] := ⟨_, _, _, by unfold sumV; rw [if_pos HE0.out]⟩
    have HV := Lib.hid hV
    have KR := Lib.hid (fun (w' : World) (hg : w.grownBy w' none) (k : Nat) => ssection_any (some ⟨b, off, none⟩) bs c (k : Int) w' (HR.out.grown hg (by simp)) HI.out hl hc hm)
    have HS : Hid (∀ e w', SumP w bs e w' → e = .returned (.tuple #[.agg #[.int .i64 x, .int .i64 y, .int .i64 z], .int .i64 ((0 : Nat) : Int)]) ∧ w.grownBy w' none) := Lib.hid (fun e w' h => by have h2 := h; unfold SumP at h2; rw [HV.out, HE0.out] at h2; exact h2)
    clear hV hSb hbw
    go_wp2_with (go_at_call 16; refine KS.out.mono ?_; intro e w2 hs; obtain ⟨rfl, hg2⟩ := HS.out _ _ hs; clear hs)
    have G2 : Hid (w.grownBy _ none) := Lib.hid (only_alloc hg2 (.cells #[.int .i64 x, .int .i64 y, .int .i64 z] 43))
    clear hg2
    go_loopw [6, 7] (fun v vi wr => ∃ k : Nat, vi = .int .i64 k ∧ 1 ≤ k ∧ k ≤ 13 ∧ wr.ownsRow w.heap.size 3 1 v (damH bs (k - 1)).length ((damH bs (k - 1)).map (.int .i64)) ∧ w.grownBy wr none) (fun _ vi _ => 13 - (intOf vi).toNat)
    case atStart => exact ⟨1, rfl, by omega, by omega, World.ownsRow_nil _ _ _ _, G2.out⟩
    case round =>
      obtain ⟨k, rfl, hk1, hk, hO, hG⟩ := hrel
      have OO := Lib.hid hO
      have G := Lib.hid hG
      obtain ⟨vO, hvO⟩ : ∃ v, v = u6 := ⟨_, rfl⟩
      rw [← hvO] at OO ⊢
      clear hO hG hvO
      by_cases hlt : k ≤ 12
      · have i1 : (k : Int) ≤ 12 := by omega
        have KR1 := Lib.hid (KR.out wr G.out k)
        have HSE := Lib.hid (secE_ok hk1 hlt HE0.out)
        have hln := damH_len bs (k - 1)
        have hwz := G.out.size
        cases hR : rightH bs k with
        | true =>
          have HD := Lib.hid (damH_true hR hk1)
          have HE1 : Hid (secE bs k = 0) := Lib.hid (by rw [HSE.out, hR]; rfl)
          clear hR
          go_wp2_with (go_at_call 21; refine KR1.out.mono ?_; rintro e w3 ⟨A3, c3, rfl, -, hg3⟩; rw [HE1.out]; have G3 := Lib.hid hg3; clear hg3)
          go_roundw
          case rel => exact ⟨k + 1, by go_num, by omega, by omega, by rw [Nat.add_sub_cancel, HD.out]; exact own_ext OO.out G3.out, only_trans G.out G3.out⟩
          case measure => simp [intOf]; omega
        | false =>
          have HD := Lib.hid (damH_false hR hk1)
          have HE1 : Hid (secE bs k = 15) := Lib.hid (by rw [HSE.out, hR]; rfl)
          clear hR
          go_wp2_with (first
            | (go_at_call 21; refine KR1.out.mono ?_; rintro e w3 ⟨A3, c3, rfl, -, hg3⟩; rw [HE1.out]; have G3 := Lib.hid hg3; have hz3 := hg3.size; clear hg3)
            | (at_builtin; go_must (refine wpList_append1 rfl _ _ 47 rfl w.heap.size Tryz.underlying47 intInfoS rfl (by decide) (v := vO) (by rfl) (w0 := w3) (cs := #[.int .i64 k]) (own_ext OO.out G3.out) (by rfl) rfl (by simp [Value.oneCell']) (by decide) (by omega) (by omega) ?_); intro v5 w5 hown5 hg5 hob5))
          have O5 : Hid (w5.ownsRow w.heap.size 3 1 v5 (damH bs k).length ((damH bs k).map (.int .i64))) := Lib.hid (by rw [HD.out, List.map_append, List.length_append]; exact hown5)
          have G5 : Hid (w.grownBy w5 none) := Lib.hid (only_own (only_trans G.out G3.out) hg5 (own_ext OO.out G3.out) (Nat.le_refl _))
          clear hown5 hg5 hob5
          go_wp2_with fail
          go_roundw
          case rel => exact ⟨k + 1, by go_num, by omega, by omega, by rw [Nat.add_sub_cancel]; exact O5.out, G5.out⟩
          case measure => simp [intOf]; omega
      · have i1 : ¬ (k : Int) ≤ 12 := by omega
        have hkE : k - 1 = 12 := by omega
        obtain ⟨AO, cO, hv, h1, h2, -, h3⟩ := Rd.of_own OO.out (by decide)
        rw [hkE] at h3 hv
        have HL : Hid (damL bs = damH bs 12) := Lib.hid (by unfold damL; rw [if_pos HE0.out])
        have H3 := Lib.hid h3
        rw [hv]
        clear hv h1 h2 h3 hkE OO
        go_wp2_with fail
        go_ret2
        exact ⟨AO, cO, by rw [HL.out, HE0.out]; rfl, by rw [HL.out]; exact H3.out, G.out⟩
  · have HE := Lib.hid hE.symm
    have hne : ((E : Int) == 0) = false := by rw [beq_eq_false_iff_ne]; omega
    have HS : Hid (∀ e w', SumP w bs e w' → e = .returned (.tuple #[.agg (sumV bs), .int .i64 (E : Nat)]) ∧ w.grownBy w' none) := Lib.hid (fun e w' h => by rw [hE]; exact h)
    have HV : Hid (sumV bs = #[.int .i64 0, .int .i64 0, .int .i64 0]) := Lib.hid (sumV_no hE.symm he)
    have HN := Lib.hid he
    clear hE he
    go_wp2_with (go_at_call 16; refine KS.out.mono ?_; intro e w2 hs; obtain ⟨rfl, hg2⟩ := HS.out _ _ hs; rw [HV.out]; clear hs)
    go_ret2
    exact DamP.no HE.out HN.out (only_alloc (by assumption) _)
end Go.Proofs.YtodaabofpkafjaaGreat
