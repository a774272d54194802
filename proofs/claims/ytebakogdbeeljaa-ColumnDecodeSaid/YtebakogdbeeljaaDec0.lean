/- column.Decode, kind 0 (printed by mkdec.py). Conditions: sizes. -/
import Derived.Test.YtebakogdbeeljaaDecB
import Derived.Deep.RegionWith
namespace Go.Proofs.Ytebakogdbeeljaa
open Go.RowKit
set_option linter.unusedVariables false
set_option linter.unusedSimpArgs false

set_option maxHeartbeats 4000000 in
set_option maxRecDepth 100000 in
theorem dec_0 (A : Option Addr) (l : List Int) (c : Nat) (w : World) (h : Rd (fun _ => True) w A ((0 :: l).map (.int .u8))) (hc : (0 :: l).length ≤ c) (hm : c ≤ maxLen) (hl : (0 :: l).length ≤ 1000000) (hx : ∀ x ∈ (0 :: l : List Int), 0 ≤ x ∧ x ≤ 255) :
    Calls Try.prog 21 #[.slice A (0 :: l).length c] w (DecPost w (0 :: l)) := by
  have KC := Lib.hid (kind_any A (0 :: l) c w h hl hx)
  rw [show kindOf (0 :: l) = (0, true) from rfl] at KC
  have HR := Lib.hid (h.mono (S' := (· < w.heap.size)) (fun _ _ h => h))
  have HX := Lib.hid hx
  obtain ⟨b, off, rfl, -, -, hcell⟩ := h (by simp)
  have hcx : w.cell? ⟨b, off, none⟩ = some (.int .u8 0) := hcell 0 _ rfl
  have t1 : (1 : Int) ≤ ((0 :: l).length : Int) := by simp; omega
  have i0 : ∀ w, (Instr.index 62 decTab (.int .i64 0)).run Try.prog w = .ok (.func (.func 49) #[] #[]) w := fun _ => by kernel_rfl
  simp only [List.length_cons] at hc hl
  clear hx hcell
  by_cases hc1 : c = 1
  · subst hc1
    obtain rfl : l = [] := List.eq_nil_of_length_eq_zero (by omega)

    obtain ⟨z, hz⟩ : ∃ z, z = rSize 16384 [] false := ⟨_, rfl⟩
    have HZ := Lib.hid hz
    have hzl : z.1 ≤ 16384 := by rw [hz]; exact rSize_le _ _ _
    obtain ⟨n, cs, bd⟩ := z
    simp only at hzl
    obtain ⟨r, hr⟩ : ∃ r, r = rPl n cs bd := ⟨_, rfl⟩
    have hok := rK_ok 0 n cs bd
    have hrk : rK 0 n cs bd = r := by rw [hr]; rfl
    rw [hrk] at hok
    have HRK := Lib.hid hrk
    obtain ⟨out, left, bad⟩ := r
    simp only at hok
    have HI := Lib.hid hok.1
    have hol := hok.2
    have HRR := Lib.hid hr
    clear hz hr hok hrk
    obtain ⟨bo, hbo⟩ : ∃ bo, bo = decide (colB 0 out = 0 :: []) := ⟨_, rfl⟩
    have HBO := Lib.hid hbo
    have HE0 : Hid (colErr 0 out = 0) := colErr_ok (by decide) (by omega)
    have hcl := colB_len (kind := 0) HI.out (by omega)
    have HRD : Hid (∀ v, IsCol (0 :: []) v → v = out ∧ bad = false ∧ 0 :: [] = colB 0 v) := fun v h => by
      have h1 := isCol_read (by decide) h
      rw [← HZ.out] at h1
      obtain ⟨h1, h2⟩ := h1
      injection h1 with h1 h3
      injection h3 with h3 h4
      subst h1 h3 h4
      rw [HRK.out] at h2
      injection h2 with h2 h3
      injection h3 with h3 h4
      exact ⟨h2.symm, h4, h.2.2.2⟩
    have HDN : Hid (∀ (w' : World), w.grownBy w' none → (bad = true ∨ bo = false) → DecPost w (0 :: []) (.returned (.tuple #[.slice none 0 0, .int .i64 22])) w') := fun w' hg hh => by
      refine dec_no (fun v h => ?_) rfl hg
      obtain ⟨h1, h2, h3⟩ := HRD.out v h
      rcases hh with hh | hh
      · rw [h2] at hh; cases hh
      · rw [HBO.out] at hh
        have := of_decide_eq_false hh
        exact this (by rw [← h1]; exact h3.symm)
    have HDY : Hid (∀ (w' : World) (row : Value), bo = true → w.grownBy w' none → w'.ownsRow w.heap.size 3 1 row out.length (out.map (.int .i64)) → DecPost w (0 :: []) (.returned (.tuple #[row, .int .i64 0])) w') := fun w' row hb hg ho => by
      rw [HBO.out] at hb
      exact dec_yes ⟨rfl, by omega, HI.out, (of_decide_eq_true hb).symm⟩ rfl ho hg
    clear hbo
    go_enter Try.func21, Try.ntmps21
    go_wp2_with fail
    refine KC.out.mono ?_
    rintro e w0 ⟨rfl, n0, rfl⟩
    go_wp2_with fail
    have R1 : Hid (RdrAt ((w.drewN n0).alloc (.cells #[.slice (some ⟨b, off, none⟩) 0 (0), .bool false] 60)) w.heap.size [] false) :=
      ⟨some ⟨b, off, none⟩, 0, Blk.new (w.drewN n0) _ _, Rd.nil, by omega, by unfold maxLen at *; omega, by first | omega | simp, fun y hy => HX.out y (List.mem_cons_of_mem _ hy)⟩
    have G1 : Hid (w.grownBy ((w.drewN n0).alloc (.cells #[.slice (some ⟨b, off, none⟩) 0 (0), .bool false] 60)) none) := only_alloc (only_drewN (only_refl _ _) _) _
    obtain ⟨W, hW⟩ : ∃ W, W = (w.drewN n0).alloc (.cells #[.slice (some ⟨b, off, none⟩) 0 (0), .bool false] 60) := ⟨_, rfl⟩
    obtain ⟨g, hg⟩ : ∃ g, g = w.heap.size := ⟨_, rfl⟩
    rw [← hW, ← hg] at R1
    rw [← hW] at G1
    rw [← hW, ← hg]
    have hgw : w.heap.size ≤ g := by omega
    clear hW hg hcx
    go_region_with (first
      | (have tk := R2; go_at_call 49; go_must (refine (rplain_any g n cs bd _ (by first | exact R2.out | exact R2.out.grown hgd (fun _ _ => nofun) | fail) hzl).mono ?_); go_must (rw [← HRR.out]); go_must (rintro e w3 ⟨v3, rfl, hown3, hR3, hg3⟩); go_must (have G3 : Hid (w.grownBy w3 none) := by first | exact only_fresh G2.out hg3 hgw | exact only_fresh (only_trans G2.out hgd) hg3 hgw | fail); have R3 := Lib.hid hR3; have O3 := Lib.hid hown3; go_must (have hb3 : w.heap.size ≤ w2.heap.size := G2.out.size); go_must (clear hR3 hown3 hg3 tk))
      | (go_at_call 38; go_must (refine (size_any g 16384 [] false _ (by first | exact R1.out | exact R1.out.grownD hgd (fun _ _ => nofun) | exact R1.out.grown hgd (fun _ _ => nofun) | fail) (by omega)).mono ?_); go_must (rw [← HZ.out]); go_must (rintro e w2 ⟨rfl, hR2, hg2⟩); have R2 := Lib.hid hR2; go_must (have G2 : Hid (w.grownBy w2 none) := by first | exact only_freshD G1.out hg2 hgw | exact only_fresh (only_transD G1.out hgd) hg2 hgw | exact only_fresh G1.out hg2 hgw | exact only_fresh (only_trans G1.out hgd) hg2 hgw | fail); go_must (clear hR2 hg2))
      | (go_at_call 37; refine (decoders_any _).mono ?_; rintro e w1 ⟨rfl, hgd⟩))
    all_goals
      obtain ⟨AV, cv, rfl, hcv, hcm, -, hrd⟩ := Rd.of_own O3.out (by decide)
      have R4 := Lib.hid hrd.tr
      clear hrd
      go_wp2_with fail
      refine (encas_any 0 AV out cv _ R4.out (by omega) HI.out).mono ?_
      rintro e w4 ⟨v4, he4, hB4, hg4⟩
      rw [HE0.out] at he4
      subst he4
      obtain ⟨A5, c5, rfl, hc5, hm5, -, hr5⟩ := Rd.of_own hB4 (by decide)
      have R5 := Lib.hid hr5
      have G5 : Hid (w.grownBy w4 none) := only_trans G3.out hg4
      have RD5 := Lib.hid (R3.out.grown hg4 (by simp))
      have O5 := Lib.hid (own_ext O3.out hg4)
      obtain ⟨A6, c6, hb6, -⟩ := RD5.out
      have c61 := hb6.cell 1
      simp at c61
      clear hr5 hB4 hb6 hg4
      cases bad with
      | true =>
        go_wp2_with fail
        go_ret2
        exact HDN.out _ G5.out (by simp)
      | false =>
        go_wp2_with fail
        refine (bequal_any A5 (some ⟨b, off, none⟩) (colB 0 out) (0 :: []) c5 1 _ R5.out (HR.out.gr G5.out) (colB_u8 (by decide) HI.out (by omega)) HX.out bo (by rw [HBO.out]; simp)).mono ?_
        rintro e w6 ⟨rfl, n6, rfl⟩
        cases bo with
        | true =>
          go_wp2_with fail
          go_ret2
          exact HDY.out _ _ (by simp) (only_drewN G5.out n6) (own_base (own_drewN O5.out n6) (by first | exact hb3 | exact Nat.le_trans hb3 hgd.size | fail))
        | false =>
          go_wp2_with fail
          go_ret2
          exact HDN.out _ (only_drewN G5.out n6) (by simp)
  · have hc2 : 1 < c := by omega

    obtain ⟨z, hz⟩ : ∃ z, z = rSize 16384 l false := ⟨_, rfl⟩
    have HZ := Lib.hid hz
    have hzl : z.1 ≤ 16384 := by rw [hz]; exact rSize_le _ _ _
    obtain ⟨n, cs, bd⟩ := z
    simp only at hzl
    obtain ⟨r, hr⟩ : ∃ r, r = rPl n cs bd := ⟨_, rfl⟩
    have hok := rK_ok 0 n cs bd
    have hrk : rK 0 n cs bd = r := by rw [hr]; rfl
    rw [hrk] at hok
    have HRK := Lib.hid hrk
    obtain ⟨out, left, bad⟩ := r
    simp only at hok
    have HI := Lib.hid hok.1
    have hol := hok.2
    have HRR := Lib.hid hr
    clear hz hr hok hrk
    obtain ⟨bo, hbo⟩ : ∃ bo, bo = decide (colB 0 out = 0 :: l) := ⟨_, rfl⟩
    have HBO := Lib.hid hbo
    have HE0 : Hid (colErr 0 out = 0) := colErr_ok (by decide) (by omega)
    have hcl := colB_len (kind := 0) HI.out (by omega)
    have HRD : Hid (∀ v, IsCol (0 :: l) v → v = out ∧ bad = false ∧ 0 :: l = colB 0 v) := fun v h => by
      have h1 := isCol_read (by decide) h
      rw [← HZ.out] at h1
      obtain ⟨h1, h2⟩ := h1
      injection h1 with h1 h3
      injection h3 with h3 h4
      subst h1 h3 h4
      rw [HRK.out] at h2
      injection h2 with h2 h3
      injection h3 with h3 h4
      exact ⟨h2.symm, h4, h.2.2.2⟩
    have HDN : Hid (∀ (w' : World), w.grownBy w' none → (bad = true ∨ bo = false) → DecPost w (0 :: l) (.returned (.tuple #[.slice none 0 0, .int .i64 22])) w') := fun w' hg hh => by
      refine dec_no (fun v h => ?_) rfl hg
      obtain ⟨h1, h2, h3⟩ := HRD.out v h
      rcases hh with hh | hh
      · rw [h2] at hh; cases hh
      · rw [HBO.out] at hh
        have := of_decide_eq_false hh
        exact this (by rw [← h1]; exact h3.symm)
    have HDY : Hid (∀ (w' : World) (row : Value), bo = true → w.grownBy w' none → w'.ownsRow w.heap.size 3 1 row out.length (out.map (.int .i64)) → DecPost w (0 :: l) (.returned (.tuple #[row, .int .i64 0])) w') := fun w' row hb hg ho => by
      rw [HBO.out] at hb
      exact dec_yes ⟨rfl, by omega, HI.out, (of_decide_eq_true hb).symm⟩ rfl ho hg
    clear hbo
    go_enter Try.func21, Try.ntmps21
    go_wp2_with fail
    refine KC.out.mono ?_
    rintro e w0 ⟨rfl, n0, rfl⟩
    go_wp2_with fail
    have R1 : Hid (RdrAt ((w.drewN n0).alloc (.cells #[.slice (some ⟨b, off + 1, none⟩) l.length (c - 1), .bool false] 60)) w.heap.size l false) :=
      ⟨some ⟨b, off + 1, none⟩, c - 1, Blk.new (w.drewN n0) _ _, (by simpa [Addr.add] using ((HR.out.drop 1).drewN n0).gr (World.grownBy_alloc _ _ none)), by omega, by unfold maxLen at *; omega, by first | omega | simp, fun y hy => HX.out y (List.mem_cons_of_mem _ hy)⟩
    have G1 : Hid (w.grownBy ((w.drewN n0).alloc (.cells #[.slice (some ⟨b, off + 1, none⟩) l.length (c - 1), .bool false] 60)) none) := only_alloc (only_drewN (only_refl _ _) _) _
    obtain ⟨W, hW⟩ : ∃ W, W = (w.drewN n0).alloc (.cells #[.slice (some ⟨b, off + 1, none⟩) l.length (c - 1), .bool false] 60) := ⟨_, rfl⟩
    obtain ⟨g, hg⟩ : ∃ g, g = w.heap.size := ⟨_, rfl⟩
    rw [← hW, ← hg] at R1
    rw [← hW] at G1
    rw [← hW, ← hg]
    have hgw : w.heap.size ≤ g := by omega
    clear hW hg hcx
    go_region_with (first
      | (have tk := R2; go_at_call 49; go_must (refine (rplain_any g n cs bd _ (by first | exact R2.out | exact R2.out.grown hgd (fun _ _ => nofun) | fail) hzl).mono ?_); go_must (rw [← HRR.out]); go_must (rintro e w3 ⟨v3, rfl, hown3, hR3, hg3⟩); go_must (have G3 : Hid (w.grownBy w3 none) := by first | exact only_fresh G2.out hg3 hgw | exact only_fresh (only_trans G2.out hgd) hg3 hgw | fail); have R3 := Lib.hid hR3; have O3 := Lib.hid hown3; go_must (have hb3 : w.heap.size ≤ w2.heap.size := G2.out.size); go_must (clear hR3 hown3 hg3 tk))
      | (go_at_call 38; go_must (refine (size_any g 16384 l false _ (by first | exact R1.out | exact R1.out.grownD hgd (fun _ _ => nofun) | exact R1.out.grown hgd (fun _ _ => nofun) | fail) (by omega)).mono ?_); go_must (rw [← HZ.out]); go_must (rintro e w2 ⟨rfl, hR2, hg2⟩); have R2 := Lib.hid hR2; go_must (have G2 : Hid (w.grownBy w2 none) := by first | exact only_freshD G1.out hg2 hgw | exact only_fresh (only_transD G1.out hgd) hg2 hgw | exact only_fresh G1.out hg2 hgw | exact only_fresh (only_trans G1.out hgd) hg2 hgw | fail); go_must (clear hR2 hg2))
      | (go_at_call 37; refine (decoders_any _).mono ?_; rintro e w1 ⟨rfl, hgd⟩))
    all_goals
      obtain ⟨AV, cv, rfl, hcv, hcm, -, hrd⟩ := Rd.of_own O3.out (by decide)
      have R4 := Lib.hid hrd.tr
      clear hrd
      go_wp2_with fail
      refine (encas_any 0 AV out cv _ R4.out (by omega) HI.out).mono ?_
      rintro e w4 ⟨v4, he4, hB4, hg4⟩
      rw [HE0.out] at he4
      subst he4
      obtain ⟨A5, c5, rfl, hc5, hm5, -, hr5⟩ := Rd.of_own hB4 (by decide)
      have R5 := Lib.hid hr5
      have G5 : Hid (w.grownBy w4 none) := only_trans G3.out hg4
      have RD5 := Lib.hid (R3.out.grown hg4 (by simp))
      have O5 := Lib.hid (own_ext O3.out hg4)
      obtain ⟨A6, c6, hb6, -⟩ := RD5.out
      have c61 := hb6.cell 1
      simp at c61
      clear hr5 hB4 hb6 hg4
      cases bad with
      | true =>
        go_wp2_with fail
        go_ret2
        exact HDN.out _ G5.out (by simp)
      | false =>
        go_wp2_with fail
        refine (bequal_any A5 (some ⟨b, off, none⟩) (colB 0 out) (0 :: l) c5 c _ R5.out (HR.out.gr G5.out) (colB_u8 (by decide) HI.out (by omega)) HX.out bo (by rw [HBO.out]; simp)).mono ?_
        rintro e w6 ⟨rfl, n6, rfl⟩
        cases bo with
        | true =>
          go_wp2_with fail
          go_ret2
          exact HDY.out _ _ (by simp) (only_drewN G5.out n6) (own_base (own_drewN O5.out n6) (by first | exact hb3 | exact Nat.le_trans hb3 hgd.size | fail))
        | false =>
          go_wp2_with fail
          go_ret2
          exact HDN.out _ (only_drewN G5.out n6) (by simp)
end Go.Proofs.Ytebakogdbeeljaa
