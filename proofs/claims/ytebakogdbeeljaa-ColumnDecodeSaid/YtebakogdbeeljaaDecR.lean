/- Decode of the reference of chapter 24. Condition: sizes. -/
import Derived.Test.YtebakogdbeeljaaColLaw3
import Derived.Test.YtebakogdbeeljaaColJ
import Derived.Test.YtebakogdbeeljaaLaw24E
import Derived.Test.YtebakogdbeeljaaSameBytes
namespace Go.Proofs.Ytebakogdbeeljaa
open Go.RowKit
set_option linter.unusedVariables false
set_option linter.unusedSimpArgs false

theorem dec_no {w w' : World} {bs : List Int} {e : Ending} (hn : ∀ v, ¬ IsCol bs v) (he : e = .returned (.tuple #[.slice none 0 0, .int .i64 22])) (hg : w.grownBy w' none) : DecPost w bs e w' := ⟨hg, .inr ⟨hn, he⟩⟩
theorem dec_yes {w w' : World} {bs v : List Int} {e : Ending} {row : Value} (hn : IsCol bs v) (he : e = .returned (.tuple #[row, .int .i64 0])) (ho : w'.ownsRow w.heap.size 3 1 row v.length (v.map (.int .i64))) (hg : w.grownBy w' none) : DecPost w bs e w' := ⟨hg, .inl ⟨v, row, hn, he, ho⟩⟩
theorem Rd.tr {S : Nat → Prop} {w : World} {A : Option Addr} {xs : List Value} (h : Rd S w A xs) : Rd (fun _ => True) w A xs := h.mono (fun _ _ _ => trivial)

set_option maxHeartbeats 2000000 in
set_option maxRecDepth 100000 in
theorem rdec_any (A : Option Addr) (bs : List Int) (c : Nat) (w : World) (h : Rd (fun _ => True) w A (bs.map (.int .u8))) (hl : bs.length ≤ 1000000) (hx : ∀ x ∈ bs, 0 ≤ x ∧ x ≤ 255) :
    Calls Try.prog 22 #[.slice A bs.length c] w (DecPost w bs) := by
  have KC := Lib.hid (rkind_any A bs c w h hl hx)
  have H := Lib.hid (h.mono (S' := (· < w.heap.size)) (fun _ _ h => h))
  have HX := Lib.hid hx
  have HKO := Lib.hid (kindOf_ok hx)
  have GV : Hid (∀ n, Calls Try.prog 40 #[.slice A bs.length c, .int .i64 1] (w.drewN n) (Quiet (gOut bs 1) (w.drewN n))) := fun n => getv_any A bs c 1 (w.drewN n) (h.drewN n) (by omega) (by omega) hx
  clear h hx
  have hik : ∀ v, IsCol bs v → (kindOf bs).2 = true := fun v h => h.1
  generalize hko : kindOf bs = ko at *
  obtain ⟨k, ok⟩ := ko
  simp only at hik KC HKO
  cases ok with
  | false =>
    have HN : Hid (∀ v, ¬ IsCol bs v) := fun v h => by have := hik v h; cases this
    obtain ⟨z, pz, is, hgo⟩ : ∃ z pz is, gOut bs 1 = .tuple #[.int .u64 z, .int .i64 pz, .bool is] := by
      cases hg : gNum (bs.drop 1) 0 0 with
      | none => exact ⟨_, _, _, gout_none hg⟩
      | some r => exact ⟨_, _, _, gout_some hg⟩
    rw [hgo] at GV
    clear hik hgo hko
    go_enter Try.func22, Try.ntmps22
    go_wp2_with fail
    refine KC.out.mono ?_
    rintro e w1 ⟨rfl, n1, rfl⟩
    go_wp2_with fail
    refine (GV.out n1).mono ?_
    rintro e w2 ⟨rfl, n2, rfl⟩
    go_wp2_with fail
    go_ret2
    exact dec_no HN.out rfl (only_drewN (only_refl _ _) _)
  | true =>
    obtain ⟨k', l, hbs, hk', hk4⟩ := HKO.out rfl
    subst hk'
    subst hbs
    have HK4 := Lib.hid hk4
    clear hik hko
    cases hg : gNum ((k :: l).drop 1) 0 0 with
    | none =>
      have HN : Hid (∀ v, ¬ IsCol (k :: l) v) := fun v h => by
        have := (isCol_ref HK4.out h).1
        rw [hg] at this; cases this
      have HGO := Lib.hid (gout_none hg)
      clear hg
      go_enter Try.func22, Try.ntmps22
      go_wp2_with fail
      refine KC.out.mono ?_
      rintro e w1 ⟨rfl, n1, rfl⟩
      go_wp2_with fail
      refine (GV.out n1).mono ?_
      rw [HGO.out]
      rintro e w2 ⟨rfl, n2, rfl⟩
      go_wp2_with fail
      go_ret2
      exact dec_no HN.out rfl (only_drewN (only_refl _ _) _)
    | some r =>
      obtain ⟨n, cz⟩ := r
      have hpz := gNum_end hg (by simp)
      have hnl := gNum_lt _ _ _ _ (by omega) hg
      have HGO := Lib.hid (gout_some hg)
      have HGN := Lib.hid hg
      simp only at hnl
      clear hg
      obtain ⟨p, hp⟩ : ∃ p, p = 1 + cz := ⟨_, rfl⟩
      rw [← hp] at HGO hpz
      have HPZ := Lib.hid hp
      clear hp
      have HB : Hid (∀ v, IsCol (k :: l) v → v.length = n ∧ (k :: l).drop p = bodyB k v ∧ v.length ≤ 16384 ∧ (∀ x ∈ v, I64 x) ∧ (k :: l) = colB k v) := fun v h => by
        have h1 := isCol_ref HK4.out h
        rw [HGN.out] at h1
        obtain ⟨h1, h2⟩ := h1
        injection h1 with h1
        injection h1 with h1 h3
        have e : (kindOf (k :: l)).1 = k := by rw [kindOf, if_pos HK4.out.2]
        refine ⟨h1.symm, by rw [HPZ.out, h3]; exact h2, h.2.1, h.2.2.1, ?_⟩
        have := h.2.2.2
        rw [e] at this; exact this
      by_cases hbig : 16384 < n
      · have HN : Hid (∀ v, ¬ IsCol (k :: l) v) := fun v h => by
          have := HB.out v h
          omega
        have d1 : decide ((16384 : Int) < (n : Int)) = true := decide_eq_true (by omega)
        have d1' : decide (16384 < n) = true := decide_eq_true hbig
        go_enter Try.func22, Try.ntmps22
        go_wp2_with fail
        refine KC.out.mono ?_
        rintro e w1 ⟨rfl, n1, rfl⟩
        go_wp2_with fail
        refine (GV.out n1).mono ?_
        rw [HGO.out]
        rintro e w2 ⟨rfl, n2, rfl⟩
        go_wp2_with fail
        go_ret2
        exact dec_no HN.out rfl (only_drewN (only_refl _ _) _)
      · have d1 : decide ((16384 : Int) < (n : Int)) = false := decide_eq_false (by omega)
        have d1' : decide (16384 < n) = false := decide_eq_false hbig
        have hn2 : n ≤ 16384 := by omega
        have hpl : p ≤ (k :: l).length := hpz
        have HC3 : Hid (k = 3 → ∀ m, Calls Try.prog 41 #[.slice A (k :: l).length c, .int .i64 p, .int .i64 n] (w.drewN m) (RVPost (w.drewN m) (rdcR k (k :: l) p n))) := fun hk3 m => by
          rw [rdcR, if_pos hk3]; exact unpack_any A (k :: l) c p n (w.drewN m) (H.out.drewN m) hl hpl hn2 HX.out
        have HCV : Hid (¬ k = 3 → ∀ m, Calls Try.prog 42 #[.slice A (k :: l).length c, .int .i64 p, .int .i64 n, .int .i64 k] (w.drewN m) (RVPost (w.drewN m) (rdcR k (k :: l) p n))) := fun hk3 m => by
          rw [rdcR, if_neg hk3]; exact values_any A (k :: l) c p n k (w.drewN m) (H.out.drewN m) hl hpl hn2 (by have := HK4.out; omega) HX.out
        have hnw : wrap64 (n : Int) = (n : Int) := IntWalk.wrap64_in _ (by omega)
        cases hr : rdcR k (k :: l) p n with
        | none =>
          have HN : Hid (∀ v, ¬ IsCol (k :: l) v) := fun v h => by
            have h1 := HB.out v h
            have := rdcR_back HK4.out h1.2.2.2.1 h1.2.2.1 h1.2.1
            rw [h1.1, hr] at this; cases this
          have HR := Lib.hid hr
          clear hr
          by_cases hk3 : k = 3
          · have C := Lib.hid (HC3.out hk3)
            subst hk3
            go_enter Try.func22, Try.ntmps22
            go_wp2_with fail
            refine KC.out.mono ?_
            rintro e w1 ⟨rfl, n1, rfl⟩
            go_wp2_with fail
            refine (GV.out n1).mono ?_
            rw [HGO.out]
            rintro e w2 ⟨rfl, n2, rfl⟩
            go_wp2_with fail
            refine (C.out _).mono ?_
            rintro e w3 ⟨he, -, hg3⟩
            obtain rfl := he HR.out
            have G3 := Lib.hid hg3
            clear he hg3
            go_wp2_with fail
            go_ret2
            exact dec_no HN.out rfl (only_trans (only_drewN (only_refl _ _) _) G3.out)
          · have d3 : (k == 3) = false := by simpa using hk3
            have C := Lib.hid (HCV.out hk3)
            clear hk3
            go_enter Try.func22, Try.ntmps22
            go_wp2_with fail
            refine KC.out.mono ?_
            rintro e w1 ⟨rfl, n1, rfl⟩
            go_wp2_with fail
            refine (GV.out n1).mono ?_
            rw [HGO.out]
            rintro e w2 ⟨rfl, n2, rfl⟩
            go_wp2_with fail
            refine (C.out _).mono ?_
            rintro e w3 ⟨he, -, hg3⟩
            obtain rfl := he HR.out
            have G3 := Lib.hid hg3
            clear he hg3
            go_wp2_with fail
            go_ret2
            exact dec_no HN.out rfl (only_trans (only_drewN (only_refl _ _) _) G3.out)
        | some out =>
          have hok := rdcR_ok hr
          obtain ⟨bo, hbo⟩ : ∃ bo, bo = decide (colB k out = k :: l) := ⟨_, rfl⟩
          have HE0 : Hid (colErr k out = 0) := colErr_ok HK4.out (by have := hok.2; omega)
          have HR := Lib.hid hr
          have HI := Lib.hid hok.1
          have hol := hok.2
          have HBO := Lib.hid hbo
          have hcl := colB_len (kind := k) HI.out (by omega)
          have HDEC : Hid (∀ (w' : World) (row : Value), w.grownBy w' none → w'.ownsRow w.heap.size 3 1 row out.length (out.map (.int .i64)) → DecPost w (k :: l) (.returned (.tuple #[if bo = true then row else .slice none 0 0, .int .i64 (if bo = true then 0 else 22)])) w') := fun w' row hg ho => by
            by_cases hc : colB k out = k :: l
            · have hb : bo = true := by rw [HBO.out]; exact decide_eq_true hc
              rw [if_pos hb, if_pos hb]
              have e : (kindOf (k :: l)) = (k, true) := by rw [kindOf, if_pos HK4.out.2]
              exact dec_yes ⟨by rw [e], by omega, HI.out, by rw [e]; exact hc.symm⟩ rfl ho hg
            · have hb : ¬ bo = true := by rw [HBO.out]; simpa using hc
              rw [if_neg hb, if_neg hb]
              refine dec_no (fun v h => ?_) rfl hg
              have h1 := HB.out v h
              have h2 := rdcR_back HK4.out h1.2.2.2.1 h1.2.2.1 h1.2.1
              rw [h1.1, HR.out] at h2
              injection h2 with h2
              subst h2
              exact hc h1.2.2.2.2.symm
          clear hr hok hbo
          by_cases hk3 : k = 3
          · have C := Lib.hid (HC3.out hk3)
            subst hk3
            go_enter Try.func22, Try.ntmps22
            go_wp2_with fail
            refine KC.out.mono ?_
            rintro e w1 ⟨rfl, n1, rfl⟩
            go_wp2_with fail
            refine (GV.out n1).mono ?_
            rw [HGO.out]
            rintro e w2 ⟨rfl, n2, rfl⟩
            go_wp2_with fail
            refine (C.out _).mono ?_
            rintro e w3 ⟨-, he, hg3⟩
            obtain ⟨v3, rfl, hown⟩ := he _ HR.out
            obtain ⟨AV, cv, rfl, hcv, hcm, -, hrd⟩ := Rd.of_own hown (by decide)
            have O3 := Lib.hid hown
            have G3 : Hid (w.grownBy w3 none) := only_trans (only_drewN (only_refl _ _) _) hg3
            have R3 := Lib.hid hrd.tr
            clear he hg3 hown hrd
            go_wp2_with fail
            refine (rencas_any 3 AV out cv _ R3.out (by omega) HI.out).mono ?_
            rintro e w4 ⟨v4, he4, hB4, hg4⟩
            rw [HE0.out] at he4
            subst he4
            obtain ⟨A4, c4, rfl, hc4, hm4, -, hr4⟩ := Rd.of_own hB4 (by decide)
            have R4 := Lib.hid hr4
            have G4 : Hid (w.grownBy w4 none) := only_trans G3.out hg4
            have O4 : Hid (w4.ownsRow w.heap.size 3 1 (.slice AV out.length cv) out.length (out.map (.int .i64))) := own_ext O3.out hg4
            clear hr4 hg4 hB4
            go_wp2_with fail
            refine (samebytes_any A4 A (colB 3 out) (3 :: l) c4 c _ R4.out (H.out.gr G4.out) (by omega) (by omega) bo (by rw [HBO.out]; simp)).mono ?_
            rintro e w5 ⟨rfl, n5, rfl⟩
            have D := Lib.hid (HDEC.out (w4.drewN n5) (.slice AV out.length cv) (only_drewN G4.out n5) (own_drewN O4.out n5))
            cases bo with
            | true =>
              go_wp2_with fail
              go_ret2
              exact D.out
            | false =>
              go_wp2_with fail
              go_ret2
              exact D.out
          · have d3 : (k == 3) = false := by simpa using hk3
            have C := Lib.hid (HCV.out hk3)
            clear hk3
            go_enter Try.func22, Try.ntmps22
            go_wp2_with fail
            refine KC.out.mono ?_
            rintro e w1 ⟨rfl, n1, rfl⟩
            go_wp2_with fail
            refine (GV.out n1).mono ?_
            rw [HGO.out]
            rintro e w2 ⟨rfl, n2, rfl⟩
            go_wp2_with fail
            refine (C.out _).mono ?_
            rintro e w3 ⟨-, he, hg3⟩
            obtain ⟨v3, rfl, hown⟩ := he _ HR.out
            obtain ⟨AV, cv, rfl, hcv, hcm, -, hrd⟩ := Rd.of_own hown (by decide)
            have O3 := Lib.hid hown
            have G3 : Hid (w.grownBy w3 none) := only_trans (only_drewN (only_refl _ _) _) hg3
            have R3 := Lib.hid hrd.tr
            clear he hg3 hown hrd
            go_wp2_with fail
            refine (rencas_any k AV out cv _ R3.out (by omega) HI.out).mono ?_
            rintro e w4 ⟨v4, he4, hB4, hg4⟩
            rw [HE0.out] at he4
            subst he4
            obtain ⟨A4, c4, rfl, hc4, hm4, -, hr4⟩ := Rd.of_own hB4 (by decide)
            have R4 := Lib.hid hr4
            have G4 : Hid (w.grownBy w4 none) := only_trans G3.out hg4
            have O4 : Hid (w4.ownsRow w.heap.size 3 1 (.slice AV out.length cv) out.length (out.map (.int .i64))) := own_ext O3.out hg4
            clear hr4 hg4 hB4
            go_wp2_with fail
            refine (samebytes_any A4 A (colB k out) (k :: l) c4 c _ R4.out (H.out.gr G4.out) (by omega) (by omega) bo (by rw [HBO.out]; simp)).mono ?_
            rintro e w5 ⟨rfl, n5, rfl⟩
            have D := Lib.hid (HDEC.out (w4.drewN n5) (.slice AV out.length cv) (only_drewN G4.out n5) (own_drewN O4.out n5))
            cases bo with
            | true =>
              go_wp2_with fail
              go_ret2
              exact D.out
            | false =>
              go_wp2_with fail
              go_ret2
              exact D.out
end Go.Proofs.Ytebakogdbeeljaa
