/- law42: AccountReport: the walk of the law itself. For every input. -/
import Derived.Test.YtiogpomgpknjlaaLaw42A
import Derived.Test.YtiogpomgpknjlaaBalP
import Derived.Test.YtiogpomgpknjlaaMark0
import Derived.Deep.RegionLaw
import Derived.Deep.DeepMust
import Derived.Deep.DeepCutAuto
namespace Go.Proofs.Ytiogpomgpknjlaa
open Go.RowKit
set_option linter.unusedVariables false
set_option linter.unusedSimpArgs false

theorem bal_in {ss ts : List Tal} {es : List Ev} (hi1 : TIn 36 ss) (l1 : ss.length ≤ 4) (hi2 : TIn 36 ts) (l2 : ts.length ≤ 4) (l3 : es.length ≤ 900) (hg : ∀ e ∈ es, 1 ≤ e.lines.length ∧ e.lines.length ≤ 3) : ∀ b ∈ balL ss ts es, BIn b := fun b hb => by
  obtain ⟨h, -, rfl⟩ := List.mem_map.1 hb
  have q2 := sumP_le p2 h hi1 (by omega)
  have q3 := sumP_le p3 h hi1 (by omega)
  have qt := sumT_le h hi2 (by omega)
  have hlv := (linT_ok es hg es.length (Nat.le_refl _))
  rw [List.take_length] at hlv
  have ql := sumT_le (n := 3 * (es.length : Int)) h hlv.2.1 (by omega)
  have hll := hlv.2.2
  have e1 : 3 * (es.length : Int) * ((linT es).length : Int) ≤ 1000000000 := by
    have a1 : 3 * (es.length : Int) ≤ 2700 := by omega
    have a2 : ((linT es).length : Int) ≤ 900 := by omega
    have := Int.mul_le_mul a1 a2 (by omega) (by omega)
    omega
  refine ⟨⟨q2.1, ?_⟩, ⟨q3.1, ?_⟩, ⟨ql.1, ?_⟩, ⟨qt.1, ?_⟩, ?_⟩
  · show sumP p2 h ss ≤ _; omega
  · show sumP p3 h ss ≤ _; omega
  · show sumT h (linT es) ≤ _; omega
  · show sumT h ts ≤ _; omega
  · show sumP p1 h ss = sumP p2 h ss + sumP p3 h ss
    rw [p3_sum h ss]; omega
set_option maxHeartbeats 8000000 in
set_option maxRecDepth 100000 in
theorem law_report (A : Option Addr) (l0 : List Int) (d : Nat) (w : World) (h : Rd (fun _ => True) w A (l0.map (.int .u8))) (hc : l0.length ≤ d) (hcm : d ≤ maxLen) (hx : ∀ x ∈ l0, 0 ≤ x ∧ x ≤ 255) :
    Calls Try.prog 5 #[.slice A l0.length d] w (TrueExt w) := by
  have HX := Lib.hid hx
  have HL := Lib.hid h
  clear hx h
  go_enter Try.func5, Try.ntmps5
  go_wp2_with (go_at_call 7; refine (awake_any _).mono ?_; rintro e w1 ⟨rfl, hg1⟩)
  refine (new_any A l0 d 400 _ (HL.out.grown hg1 (by simp)) hc hcm (by omega) HX.out).mono ?_
  rintro e w2 ⟨rfl, h2, hg2, hlt2⟩
  have G2 : Hid (w.grownBy w2 none) := Lib.hid (only_trans hg1 hg2)
  have hs1 := hg1.size
  have hs2 := hg2.size
  generalize w1.heap.size = g at *
  obtain ⟨l, hl⟩ : ∃ l, l = l0.take 400 := ⟨_, rfl⟩
  rw [← hl] at h2
  clear HL HX hg1 hg2 hl
  go_wp2_with fail
  refine (intake_some g l _ w2 h2).mono ?_
  rintro e w3 ⟨Am, A3, cm, c3, ms, x, k3, rfl, -, -, -, -, -, hc3, hm3, hl3, hs3, hi3, hr3, h3, hg3⟩
  have G3 := Lib.hid (only_fresh G2.out hg3 hs1)
  have X3 := Lib.hid (hr3.mono (S' := (· ≠ g)) (fun b hb _ => by have h1 : w2.heap.size ≤ b := hb; omega))
  have hz3 := hg3.size
  obtain ⟨nm, hnm⟩ : ∃ n, n = ms.length := ⟨_, rfl⟩
  rw [← hnm]
  clear h2 hg3 hr3 G2 hnm
  go_wp2_with fail
  refine (tallies_some g _ _ _ h3).mono ?_
  rintro e w4 ⟨A4, c4, y, k4, rfl, hc4, hm4, hl4, hs4, hi4, hr4, h4, hg4⟩
  have G4 := Lib.hid (only_fresh G3.out hg4 hs1)
  have X4 := Lib.hid (X3.out.grown hg4 (fun b hb e => hb (by injection e)))
  have Y4 := Lib.hid (hr4.mono (S' := (· ≠ g)) (fun b hb _ => by have h1 : w3.heap.size ≤ b := hb; omega))
  have hz4 := hg4.size
  clear h3 hg4 hr4 G3 X3
  go_wp2_with fail
  refine (events_some g _ _ 4 _ h4 (by omega)).mono ?_
  rintro e w5 ⟨A5, c5, es, k5, rfl, hc5, hm5, hl5, hev, -, hgood, h5, hg5⟩
  have G5 := Lib.hid (only_fresh G4.out hg5 hs1)
  have X5 := Lib.hid (X4.out.grown hg5 (fun b hb e => hb (by injection e)))
  have Y5 := Lib.hid (Y4.out.grown hg5 (fun b hb e => hb (by injection e)))
  have E5 := Lib.hid hev.1.tru
  have EG := Lib.hid (fun e (he : e ∈ es) => And.intro ((hgood e he).2.2.1 : 1 ≤ e.lines.length) ((hgood e he).2.2.2.1 : e.lines.length ≤ 3))
  have hes : es.length ≤ 30 := by omega
  clear h4 h5 hg5 hev hgood G4 X4 Y4 hl5
  obtain ⟨xb, hxb⟩ : ∃ b, b = w5.heap.size := ⟨_, rfl⟩
  obtain ⟨W6, hW6⟩ : ∃ W, W = w5.alloc (.cells #[.slice Am nm cm, .slice A3 x.length c3] 39) := ⟨_, rfl⟩
  have HB6 : Hid (Blk W6 xb 39 #[.slice Am nm cm, .slice A3 x.length c3]) := Lib.hid (by rw [hW6, hxb]; exact Blk.new w5 _ _)
  have g6 : w5.grownBy W6 none := by rw [hW6]; exact only_alloc (only_refl _ _) _
  have G6 := Lib.hid (only_trans G5.out g6)
  have X6 := Lib.hid (X5.out.grown g6 (by simp))
  have Y6 := Lib.hid (Y5.out.grown g6 (by simp))
  have E6 := Lib.hid (E5.out.grown g6 (by simp))
  have hix : TIn 1000000 x := fun t ht => by have := hi3 t ht; omega
  have hiy : TIn 1000000 y := fun t ht => by have := hi4 t ht; omega
  have HIX := Lib.hid hix
  have HIY := Lib.hid hiy
  have HSX := Lib.hid hs3
  have HBI := Lib.hid (bal_in hi3 hl3 hi4 hl4 (by omega) EG.out)
  have hbl : (balL x y es).length ≤ 100000 := by
    have h1 := hosts_len (hostL x y es)
    unfold balL
    rw [List.length_map]
    unfold hostL at h1
    simp only [List.length_append, List.length_map] at h1
    unfold hostL
    omega
  have HBL := Lib.hid hbl
  have KR := Lib.hid (fun (W : World) (hW : W6.grownBy W none) => report_any Am nm cm A3 x c3 A4 y c4 A5 es c5 W (X6.out.grown hW (by simp)) (Y6.out.grown hW (by simp)) (E6.out.grown hW (by simp)) (by omega) (by omega) (by omega) HIX.out HIY.out EG.out)
  have KRR := Lib.hid (fun (W : World) (hW : W6.grownBy W none) => rreport_any Am nm cm A3 x c3 A4 y c4 A5 es c5 W (X6.out.grown hW (by simp)) (Y6.out.grown hW (by simp)) (E6.out.grown hW (by simp)) (by omega) (by omega) (by omega) HIX.out HIY.out HSX.out EG.out)
  have KB := Lib.hid (fun (W : World) (hW : W6.grownBy W none) => balanced_any Am nm cm A3 x c3 A4 y c4 A5 es c5 W (X6.out.grown hW (by simp)) (Y6.out.grown hW (by simp)) (E6.out.grown hW (by simp)) (by omega) (by omega) (by omega) HIX.out HIY.out EG.out HBI.out HBL.out)
  have KRB := Lib.hid (fun (W : World) (hW : W6.grownBy W none) => rbalanced_any Am nm cm A3 x c3 A4 y c4 A5 es c5 W (X6.out.grown hW (by simp)) (Y6.out.grown hW (by simp)) (E6.out.grown hW (by simp)) (by omega) (by omega) (by omega) HIX.out HIY.out HSX.out EG.out HBI.out HBL.out)
  obtain ⟨L, hL⟩ : ∃ L, L = balL x y es := ⟨_, rfl⟩
  obtain ⟨v, hv⟩ : ∃ v, v = okL L := ⟨_, rfl⟩
  rw [← hL] at KR KRR KB KRB hbl
  rw [← hv] at KB KRB
  have HW6 := Lib.hid hW6.symm
  have HXE := Lib.hid hxb.symm
  clear hW6 hxb g6 G5 X5 Y5 E5 hi3 hi4 hs3 hs4 hix hiy hL hv X6 Y6 E6 HBI HBL
  go_upto_region 5 with fail
  rw [HW6.out, HXE.out]
  clear HW6 HXE
  have b0 := HB6.out.cell 0
  have b1 := HB6.out.cell 1
  simp at b0 b1
  go_region_law (first
    | (have htok := hq4; go_simp; go_at_call 23; go_must (refine Calls.mono (KRB.out w9 G9.out) ?_); go_must (rintro e w10 ⟨rfl, hq5⟩); have G10 := Lib.hid (only_trans G9.out hq5))
    | (have htok := hq3; go_simp; go_at_call 22; go_must (refine Calls.mono (KB.out w8 G8.out) ?_); go_must (rintro e w9 ⟨rfl, hq4⟩); have G9 := Lib.hid (only_trans G8.out hq4); have hB9 := HB6.out.grown G9.out (by simp); have d90 := hB9.cell 0; have d91 := hB9.cell 1; simp at d90 d91)
    | (have htok := hq2; go_simp; go_at_call 19; go_must (refine Calls.mono (rsame42_true A6' A7 L c6 c7 w7 (RA.out.grown hq2 (by simp)) RB2.out hbl) ?_); go_must (rintro e w8 ⟨rfl, hq3⟩); have G8 := Lib.hid (only_trans G7.out hq3); have hB8 := HB6.out.grown G8.out (by simp); have d80 := hB8.cell 0; have d81 := hB8.cell 1; simp at d80 d81)
    | (have htok := hq1; go_simp; go_at_call 21; go_must (refine Calls.mono (KRR.out w6 G61.out) ?_); go_must (rintro e w7 ⟨A7, c7, rfl, -, -, hr7, hq2⟩); have RB2 := Lib.hid hr7; have G7 := Lib.hid (only_trans G61.out hq2); have hB7 := HB6.out.grown G7.out (by simp); have d70 := hB7.cell 0; have d71 := hB7.cell 1; simp at d70 d71)
    | (go_simp; go_at_call 20; go_must (refine Calls.mono (KR.out W6.drew (only_drew (only_refl _ _))) ?_); go_must (rintro e w6 ⟨A6', c6, rfl, -, -, hr6, hq1⟩); have RA := Lib.hid hr6; have G61 := Lib.hid (only_trans (only_drew (only_refl W6 none)) hq1); have hB61 := HB6.out.grown G61.out (by simp); have d60 := hB61.cell 0; have d61 := hB61.cell 1; simp at d60 d61))
  all_goals
    have GF := Lib.hid (only_trans G6.out G10.out)
    clear KR KRR KB KRB RA RB2 G61 G7 G8 G9 G10 b0 b1 d60 d61 d70 d71 d80 d81 d90 d91 hB61 hB7 hB8 hB9 hq1 hq2 hq3 hq4 hq5 hr6 hr7
    go_simp
    go_wp2_with fail
    go_ret
    exact ⟨by simp, GF.out⟩
end Go.Proofs.Ytiogpomgpknjlaa
