/- The law of part 36 about the bounds of a test. Condition: the table of powers of ten; MaxLen holds a number; match.whole. -/
import Derived.Test.YtceebhgbebkafaaGreatDoorBoundP
import Derived.Test.YtceebhgbebkafaaGreatDoorBoundP
import Derived.Test.YtceebhgbebkafaaGreatDoorMTimes
import Derived.Test.YtceebhgbebkafaaGreatDoorReq
import Derived.Test.YtceebhgbebkafaaGreatDoorScene
import Derived.Test.YtceebhgbebkafaaGreatDoorAwake
import Derived.Test.YtceebhgbebkafaaGreatDoorEvIn
import Derived.Deep.DeepCutAuto
namespace Go.Proofs.YtceebhgbebkafaaGreatDoor
open Go.RowKit
set_option linter.unusedVariables false
set_option linter.unusedSimpArgs false

set_option maxHeartbeats 4000000 in
set_option maxRecDepth 100000 in
theorem law_bounds (A : Option Addr) (l : List Int) (c : Nat) (w : World) (hW : Whole w) (hPow : Pow10 w) (hMax : MaxL w) (h : Rd (fun _ => True) w A (l.map (.int .u8))) (hc : l.length ≤ c) (hcm : c ≤ maxLen) (hx : ∀ x ∈ l, 0 ≤ x ∧ x ≤ 255) :
    Calls Tryz.prog 8 #[.slice A l.length c] w (BoolP w true) := by
  have HS : Hid (∀ w', w.grownBy w' none → Calls Tryz.prog 10 #[.slice A l.length c] w' (ScenePost w')) := fun w' hg => scene_any A l c w' (h.grown hg (by simp)) hc hcm hx
  have HW := Lib.hid hW
  have HPW := Lib.hid hPow
  have HMX := Lib.hid hMax
  clear h hc hcm hx hW hPow hMax
  go_enter Tryz.func8, Tryz.ntmps8
  go_wp2_with fail
  refine (awake_any _).mono ?_
  rintro e w1 ⟨rfl, hg1⟩
  have G1 := Lib.hid hg1
  clear hg1
  go_wp2_with fail
  refine (HS.out _ G1.out).mono ?_
  rintro e w2 ⟨t, A2, c2, es, g, k2, l2, rfl, hok, hsub, hc2, hm2, hl2, hev, hst, hgd, h2, hgw, hg2⟩
  have HOK := Lib.hid hok
  have HGD : Hid (∀ e ∈ es, EvGood e) := hgd
  have hcl : t.cells.toArray = #[.int .i64 t.op, .string t.nm, .string t.tx, .int .i64 t.num, .slice t.ka t.kids.length t.kc] := rfl
  rw [hcl]
  have G2 := Lib.hid (only_trans G1.out hg2)
  have HSUB := Lib.hid hsub
  have HEV := Lib.hid hev
  clear hsub hev h2 hg2 G1 HS hcl hst hgd hok hgw
  go_upto_region 4 with fail
  obtain ⟨N, hN⟩ : ∃ N, N = w2.heap.size := ⟨_, rfl⟩
  obtain ⟨W, hW⟩ : ∃ W, W = w2.alloc (.cells #[.int .i64 t.op, .string t.nm, .string t.tx, .int .i64 t.num, .slice t.ka t.kids.length t.kc] 26) := ⟨_, rfl⟩
  have hB := Blk.new w2 26 #[.int .i64 t.op, .string t.nm, .string t.tx, .int .i64 t.num, .slice t.ka t.kids.length t.kc]
  have hGW : w2.grownBy W none := by rw [hW]; exact only_alloc (only_refl _ _) _
  rw [← hW, ← hN] at hB
  rw [← hW, ← hN]
  have SUBW := Lib.hid (HSUB.out.grown hGW (by simp))
  have EVW := Lib.hid (HEV.out.grown hGW (by simp))
  have GW := Lib.hid (only_trans G2.out hGW)
  have BW := Lib.hid hB
  clear hB hGW hW hN HSUB HEV G2
  have KT := Lib.hid (mtimes_any HOK.out SUBW.out (HW.out.grown GW.out (by simp)))
  obtain ⟨e0, e1, e2, e3, e4⟩ := box5 BW.out (only_refl W none)
  go_wp2_with fail
  refine KT.out.mono ?_
  obtain ⟨p, hp⟩ : ∃ p, p = normT (pTimes 4 t) := ⟨_, rfl⟩
  rw [← hp]
  have HPT := Lib.hid hp
  clear hp KT
  obtain ⟨f, u⟩ := p
  rintro e w3 ⟨rfl, hg3⟩
  simp only [pairV]
  have G3 := Lib.hid (only_trans GW.out hg3)
  have GX3 := Lib.hid hg3
  have KR := Lib.hid (mreq_any 4 (by omega) t _ w3 HOK.out (SUBW.out.grown hg3 (by simp)))
  obtain ⟨e0, e1, e2, e3, e4⟩ := box5 BW.out hg3
  clear hg3
  go_wp2_with fail
  refine KR.out.mono ?_
  have hql : (req 4 t).length ≤ 1000 := by have := req_len HOK.out; omega
  obtain ⟨qs, hq⟩ : ∃ q, q = req 4 t := ⟨_, rfl⟩
  rw [← hq] at hql ⊢
  have HQS := Lib.hid hq
  clear hq KR
  rintro e w4 ⟨A4, c4, rfl, hc4, hm4, ho4, hg4⟩
  have G4 := Lib.hid (only_trans G3.out hg4)
  have GX4 := Lib.hid (only_trans GX3.out hg4)
  have RQ := Lib.hid (rd_own ho4 (by decide))
  have SUB4 := Lib.hid (SUBW.out.grown GX4.out (by simp))
  have EV4 := Lib.hid (EVW.out.grown GX4.out (by simp))
  have B4 := Lib.hid (BW.out.grown GX4.out (by simp))
  clear ho4 hg4 e0 e1 e2 e3 e4 SUBW EVW BW G3 GX3 GX4 GW HW
  go_wp2_with fail
  go_loopw [9] (fun i wr => ∃ k : Nat, i = .int .i64 k ∧ k ≤ es.length ∧ w4.grownBy wr none) (fun i _ => es.length - (intOf i).toNat)
  case atStart => exact ⟨0, rfl, Nat.zero_le _, only_refl _ _⟩
  case round =>
    obtain ⟨k, rfl, hk, hG⟩ := hrel
    have GJ := Lib.hid hG
    have G5 := Lib.hid (only_trans G4.out hG)
    have EV5 := Lib.hid (EV4.out.grown hG (by simp))
    have SUB5 := Lib.hid (SUB4.out.grown hG (by simp))
    have B5 := Lib.hid (B4.out.grown hG (by simp))
    have RQ5 := Lib.hid (RQ.out.grown hG (by simp))
    clear hG
    by_cases hlt : k < es.length
    · have i1 : (k : Int) < (es.length : Int) := by omega
      obtain ⟨y, hy⟩ : ∃ y, es[k]? = some y := ⟨_, List.getElem?_eq_getElem hlt⟩
      obtain ⟨kb, ko, rfl, hkw, z0, z1, z2, z3, z4, z5, z6, z7, z8, z9⟩ := ev_in EV5.out.1 hy
      have hgy := HGD.out y (List.mem_of_getElem? hy)
      have hty := hgy.evT
      have hrl := scratch_len y hty
      have hysub := EV5.out.2 y (List.mem_of_getElem? hy)
      have HH : Hid (∀ w', wr.grownBy w' none → Calls Tryz.prog 11 #[.agg #[.int .i64 t.op, .string t.nm, .string t.tx, .int .i64 t.num, .slice t.ka t.kids.length t.kc], .agg #[.int .i64 y.host, .int .i64 y.file, .int .i64 y.beg, .int .i64 y.fin, .slice y.la y.lines.length y.lc, .int .i64 y.time, .int .i64 y.weight, .string y.trace, .string y.stream, .slice y.fa y.fields.length y.fc]] w' (BoolP w' (holdB y 4 t))) := fun w' hg => mHolds_any y t 4 w' HOK.out (SUB5.out.grown hg (by simp)) (hysub.grown hg (by simp)) hty hgy.evV (HPW.out.grown (only_trans G5.out hg)) (HMX.out.grown (only_trans G5.out hg))
      have HT : Hid (∀ w', wr.grownBy w' none → Calls Tryz.prog 17 #[.agg #[.int .i64 y.host, .int .i64 y.file, .int .i64 y.beg, .int .i64 y.fin, .slice y.la y.lines.length y.lc, .int .i64 y.time, .int .i64 y.weight, .string y.trace, .string y.stream, .slice y.fa y.fields.length y.fc]] w' (DistOwn w' (rawT y))) := fun w' hg => terms_own y w' (hysub.grown hg (by simp)) hty
      have HTM : Hid (holdB y 4 t = true → f ≤ y.time ∧ y.time ≤ u) := Lib.hid (fun hh => by
        have h1 := times_safe hgy.1.1 hgy.1.2.1 4 t hh
        have h2 := HPT.out
        unfold normT at h2
        rw [if_neg (by have := h1.1; have := h1.2; omega)] at h2
        have h3 : f = (pTimes 4 t).1 := congrArg Prod.fst h2
        have h4 : u = (pTimes 4 t).2 := congrArg Prod.snd h2
        rw [h3, h4]; exact h1)
      have HPO : Hid (∀ ts : List ByteArray, (∀ s, s ∈ ts ↔ s ∈ rawT y) → holdB y 4 t = true → poss (Lib.containsS ts) 4 t = true) := Lib.hid (fun ts hm hh => poss_safe (e := y) (fun s hs => (Lib.containsS_iff ts s).2 ((hm s).2 hs)) 4 t hh)
      have HRE : Hid (holdB y 4 t = true → ∀ s ∈ qs, s ∈ rawT y) := Lib.hid (fun hh => by rw [HQS.out]; exact req_safe 4 t hh)
      have EVC := Lib.hid (ev_in EV5.out.1 hy)
      clear hgy hty hysub
      obtain ⟨e0, e1, e2, e3, e4⟩ := box5 B5.out (only_refl wr none)
      have GD : Hid (wr.grownBy wr.drew none) := Lib.hid (only_drew (only_refl _ _))
      have HY := Lib.hid hy
      clear hy
      go_wp2_with fail
      go_cut [41] (fun v wx => v = .bool (!holdB y 4 t) ∧ wr.grownBy wx none)
      case first =>
        go_region_law (go_simp; go_at_call 11; go_must (with_reducible (refine (HH.out _ GD.out).mono ?_)); rintro e w6 ⟨rfl, hg6⟩; have H6 : Hid (wr.grownBy w6 none) := Lib.hid (only_trans GD.out hg6); clear hg6)
        all_goals
          go_wp2_with fail
          go_meet
          exact ⟨rfl, H6.out⟩
      case rest =>
        obtain ⟨rfl, hgc⟩ := hcut
        have GC := Lib.hid hgc
        have GJ6 := Lib.hid (only_trans GJ.out hgc)
        have EV6 := Lib.hid (EV5.out.grown hgc (by simp))
        have SUB6 := Lib.hid (SUB5.out.grown hgc (by simp))
        have B6 := Lib.hid (B5.out.grown hgc (by simp))
        have RQ6 := Lib.hid (RQ5.out.grown hgc (by simp))
        clear hgc e0 e1 e2 e3 e4 z0 z1 z2 z3 z4 z5 z6 z7 z8 z9 EV5 SUB5 B5 RQ5 EVC
        cases hh : holdB y 4 t with
        | false =>
          clear hh
          go_wp2_with fail
          go_roundw
          case rel => exact ⟨k + 1, by go_num, by omega, GJ6.out⟩
          case measure => simp [intOf]; omega
        | true =>
          have HTM2 := HTM.out hh
          have HPO2 := Lib.hid (fun ts hm => HPO.out ts hm hh)
          have HRE2 := Lib.hid (HRE.out hh)
          obtain ⟨kb', ko', hkb, hkw2, z0, z1, z2, z3, z4, z5, z6, z7, z8, z9⟩ := ev_in EV6.out.1 HY.out
          injection hkb with hkb
          injection hkb with hk1 hk2
          subst hk1 hk2
          obtain ⟨t1, t2⟩ := HTM2
          have d1 : ¬ y.time < f := by omega
          have d2 : ¬ u < y.time := by omega
          clear hh HTM HPO HRE
          go_wp2_with fail
          refine (HT.out _ GC.out).mono ?_
          rintro e w7 ⟨A7, c7, ms, rfl, m1, m2, m3, m4, m5, m6, hg7⟩
          have RM7 := Lib.hid (rd_own m6 (by decide))
          have GJ7 := Lib.hid (only_trans GJ6.out hg7)
          have EV7 := Lib.hid (EV6.out.grown hg7 (by simp))
          have SUB7 := Lib.hid (SUB6.out.grown hg7 (by simp))
          have B7 := Lib.hid (B6.out.grown hg7 (by simp))
          have RQ7 := Lib.hid (RQ6.out.grown hg7 (by simp))
          have HP7 := Lib.hid (HPO2.out ms m4)
          have hml : ms.length ≤ 1000000 := by omega
          have HF7 : Hid (∀ s ∈ qs, found ms s = true) := Lib.hid (fun s hs => (found_iff m3 s).2 ((m4 s).2 (HRE2.out s hs)))
          have PA : Hid (∀ w', w7.grownBy w' none → Calls Tryz.prog 20 #[.agg #[.int .i64 t.op, .string t.nm, .string t.tx, .int .i64 t.num, .slice t.ka t.kids.length t.kc], .slice A7 ms.length c7] w' (BoolP w' true)) := fun w' hg => by
            rw [← HP7.out]
            exact poss_any 4 t _ _ w' A7 ms c7 HOK.out (SUB7.out.grown hg (by simp)) (RM7.out.grown hg (by simp)) hml
          obtain ⟨kb', ko', hkb, hkw3, z0, z1, z2, z3, z4, z5, z6, z7, z8, z9⟩ := ev_in EV7.out.1 HY.out
          injection hkb with hkb
          injection hkb with hk1 hk2
          subst hk1 hk2
          obtain ⟨e0, e1, e2, e3, e4⟩ := box5 B7.out (only_refl w7 none)
          clear m3 m4 m5 m6 hg7 EV6 SUB6 B6 RQ6
          go_wp2_with fail
          refine (PA.out _ (only_refl _ _)).mono ?_
          rintro e w8 ⟨rfl, hg8⟩
          have GJ8 := Lib.hid (only_trans GJ7.out hg8)
          have RQ8 := Lib.hid (RQ7.out.grown hg8 (by simp))
          have RM8 := Lib.hid (RM7.out.grown hg8 (by simp))
          clear hg8 e0 e1 e2 e3 e4 z0 z1 z2 z3 z4 z5 z6 z7 z8 z9 EV7 SUB7 B7 RQ7 RM7 PA
          go_wp2_with fail
          go_loopw [11] (fun i wx => ∃ j : Nat, i = .int .i64 j ∧ j ≤ qs.length ∧ w8.grownBy wx none) (fun i _ => qs.length - (intOf i).toNat)
          case atStart => exact ⟨0, rfl, Nat.zero_le _, only_refl _ _⟩
          case round =>
            obtain ⟨j, rfl, hj, hGx⟩ := hrel
            have GX := Lib.hid hGx
            have RQ9 := Lib.hid (RQ8.out.grown hGx (by simp))
            have RM9 := Lib.hid (RM8.out.grown hGx (by simp))
            clear hGx
            by_cases hjl : j < qs.length
            · have i2 : (j : Int) < (qs.length : Int) := by omega
              obtain ⟨qb, qo, s, rfl, hcs, hsx⟩ := RQ9.out.str_at hjl
              have hfs := HF7.out s (List.mem_of_getElem? hsx.out)
              have KI := Lib.hid (rindex_any A7 ms c7 s _ RM9.out (by omega))
              rw [hfs] at KI
              clear hsx hfs
              go_wp2_with fail
              refine KI.out.mono ?_
              rintro e w10 ⟨rfl, q, rfl⟩
              clear KI hcs
              go_wp2_with fail
              go_roundw
              case rel => exact ⟨j + 1, by go_num, by omega, only_drewN GX.out q⟩
              case measure => simp [intOf]; omega
            · have i2 : ¬ (j : Int) < (qs.length : Int) := by omega
              go_wp2_with fail
              go_roundw
              case rel => exact ⟨k + 1, by go_num, by omega, only_trans GJ8.out GX.out⟩
              case measure => simp [intOf]; omega
    · have i1 : ¬ (k : Int) < (es.length : Int) := by omega
      go_wp2_with fail
      go_ret
      exact ⟨rfl, G5.out⟩
end Go.Proofs.YtceebhgbebkafaaGreatDoor
