/- law42: AccountTallies: the walk of the law itself. For every input. -/
import Derived.Test.YtiogpomgpknjlaaLaw42A
import Derived.Test.YtiogpomgpknjlaaLin
import Derived.Test.YtiogpomgpknjlaaTalR
import Derived.Test.YtiogpomgpknjlaaTalS
import Derived.Test.YtiogpomgpknjlaaSum
import Derived.Deep.CutBlock
import Derived.Deep.DeepCutAuto
namespace Go.Proofs.Ytiogpomgpknjlaa
open Go.RowKit
set_option linter.unusedVariables false
set_option linter.unusedSimpArgs false

theorem addO_comm (x y : Option Int) : addO x y = addO y x := by cases x <;> cases y <;> simp [addO, Int.add_comm]
theorem mrg_comm {x y : List Tal} (hx : TSrt x) (hy : TSrt y) : mrg x y = mrg y x :=
  tal_ext _ _ (mrg_srt hx hy) (mrg_srt hy hx) (fun k => by rw [tget_mrg k hx hy, tget_mrg k hy hx, addO_comm])
set_option maxHeartbeats 8000000 in
set_option maxRecDepth 100000 in
theorem law_tallies (A : Option Addr) (l0 : List Int) (d : Nat) (host : Int) (w : World) (h : Rd (fun _ => True) w A (l0.map (.int .u8))) (hc : l0.length ≤ d) (hcm : d ≤ maxLen) (hx : ∀ x ∈ l0, 0 ≤ x ∧ x ≤ 255) :
    Calls Try.prog 4 #[.slice A l0.length d, .int .i64 host] w (TrueExt w) := by
  have HX := Lib.hid hx
  have HL := Lib.hid h
  clear hx h
  go_enter Try.func4, Try.ntmps4
  go_wp2_with (go_at_call 7; refine (awake_any _).mono ?_; rintro e w1 ⟨rfl, hg1⟩)
  refine (new_any A l0 d 300 _ (HL.out.grown hg1 (by simp)) hc hcm (by omega) HX.out).mono ?_
  rintro e w2 ⟨rfl, h2, hg2, hlt2⟩
  have G2 : Hid (w.grownBy w2 none) := Lib.hid (only_trans hg1 hg2)
  have hs1 := hg1.size
  have hs2 := hg2.size
  generalize w1.heap.size = g at *
  obtain ⟨l, hl⟩ : ∃ l, l = l0.take 300 := ⟨_, rfl⟩
  rw [← hl] at h2
  clear HL HX hg1 hg2 hl
  go_wp2_with fail
  refine (tallies_some g _ _ _ h2).mono ?_
  rintro e w3 ⟨A3, c3, x, k3, rfl, hc3, hm3, hl3, hs3, hi3, hr3, h3, hg3⟩
  have G3 := Lib.hid (only_fresh G2.out hg3 hs1)
  have X3 := Lib.hid (hr3.mono (S' := (· ≠ g)) (fun b hb _ => by have h1 : w2.heap.size ≤ b := hb; omega))
  have hz3 := hg3.size
  clear h2 hg3 hr3 G2
  go_wp2_with fail
  refine (tallies_some g _ _ _ h3).mono ?_
  rintro e w4 ⟨A4, c4, y, k4, rfl, hc4, hm4, hl4, hs4, hi4, hr4, h4, hg4⟩
  have G4 := Lib.hid (only_fresh G3.out hg4 hs1)
  have X4 := Lib.hid (X3.out.grown hg4 (fun b hb e => hb (by injection e)))
  have Y4 := Lib.hid (hr4.mono (S' := (· ≠ g)) (fun b hb _ => by have h1 : w3.heap.size ≤ b := hb; omega))
  have hz4 := hg4.size
  clear h3 hg4 hr4 G3 X3
  go_wp2_with fail
  refine (events_some g _ _ 5 _ h4 (by omega)).mono ?_
  rintro e w5 ⟨A5, c5, es, k5, rfl, hc5, hm5, hl5, hev, -, hgood, h5, hg5⟩
  have G5 := Lib.hid (only_fresh G4.out hg5 hs1)
  have X5 := Lib.hid (X4.out.grown hg5 (fun b hb e => hb (by injection e)))
  have Y5 := Lib.hid (Y4.out.grown hg5 (fun b hb e => hb (by injection e)))
  have E5 := Lib.hid hev.1.tru
  have EG := Lib.hid (fun e (he : e ∈ es) => ((hgood e he).2.2.1 : 1 ≤ e.lines.length))
  have EG2 := Lib.hid (fun e (he : e ∈ es) => ((hgood e he).2.2.2.1 : e.lines.length ≤ 3))
  have hes : es.length ≤ 30 := by omega
  clear h4 h5 hg5 hev hgood G4 X4 Y4 hl5
  have hix : TIn 1000000 x := fun t ht => by have := hi3 t ht; omega
  have hiy : TIn 1000000 y := fun t ht => by have := hi4 t ht; omega
  have hixy : TIn 1000000 (mrg x y) := fun t ht => by have := mrg_in hi3 hi4 (by omega) (by omega) t ht; omega
  have hlxy := mrg_len x y
  have hsum : ∀ h : Int, sumT h (mrg x y) = sumT h x + sumT h y ∧ 0 ≤ sumT h x ∧ sumT h x ≤ 1000 ∧ 0 ≤ sumT h y ∧ sumT h y ≤ 1000 := fun h => by
    have q1 := sumT_le h hi3 (by omega)
    have q2 := sumT_le h hi4 (by omega)
    exact ⟨sumT_mrg h x y, q1.1, by omega, q2.1, by omega⟩
  have HIX := Lib.hid hix
  have HIY := Lib.hid hiy
  have HIXY := Lib.hid hixy
  have HSX := Lib.hid hs3
  have HSY := Lib.hid hs4
  have HSUM := Lib.hid hsum
  have HCOM := Lib.hid (mrg_comm hs3 hs4)
  clear hi3 hi4 hix hiy hixy hsum hs3 hs4
  go_wp2_with fail
  refine (merge_any A3 A4 x y c3 c4 _ X5.out.tru Y5.out.tru (by omega) (by omega) hc3 hm3 hc4 hm4 HIX.out HIY.out).mono ?_
  rintro e w6 ⟨A6, c6, rfl, hc6, hm6, hr6, hg6⟩
  obtain ⟨M, hM⟩ : ∃ M, M = mrg x y := ⟨_, rfl⟩
  rw [← hM] at hc6 hr6 hlxy HIXY HSUM ⊢
  have HMM := Lib.hid hM
  obtain ⟨tb, htb⟩ : ∃ b, b = w6.heap.size := ⟨_, rfl⟩
  obtain ⟨W7, hW7⟩ : ∃ W, W = w6.alloc (.cells #[.int .i64 host, .int .i64 1, .int .i64 2] 3) := ⟨_, rfl⟩
  have ga : w6.grownBy W7 none := by rw [hW7]; exact only_alloc (only_refl _ _) _
  have g57 := only_trans hg6 ga
  have HTB : Hid (Blk W7 tb 3 #[.int .i64 host, .int .i64 1, .int .i64 2]) := Lib.hid (by rw [hW7, htb]; exact Blk.new w6 _ _)
  have X7 := Lib.hid (X5.out.grown g57 (by simp))
  have Y7 := Lib.hid (Y5.out.grown g57 (by simp))
  have E7 := Lib.hid (E5.out.grown g57 (by simp))
  have M7 := Lib.hid (hr6.tru.grown ga (by simp))
  have G7 := Lib.hid (only_trans G5.out g57)
  have HW7 := Lib.hid hW7.symm
  have HTE := Lib.hid htb.symm
  clear hW7 htb ga g57 hg6 hr6 X5 Y5 E5 G5 hM
  go_upto_block 0 with fail
  rw [HW7.out, HTE.out]
  clear HW7 HTE
  go_wp2_with fail
  go_loopw [28] (fun vi wr => ∃ k : Nat, vi = .int .i64 k ∧ k ≤ 3 ∧ W7.grownBy wr none) (fun vi _ => 3 - (intOf vi).toNat)
  case atStart => exact ⟨0, rfl, by omega, only_refl _ _⟩
  case round =>
    obtain ⟨k, rfl, hk, hG⟩ := hrel
    have G := Lib.hid hG
    clear hG
    by_cases hk3 : k < 3
    · obtain ⟨t, ht⟩ : ∃ t, wr.cell? ⟨tb, k, none⟩ = some (.int .i64 t) := by
        have hb := HTB.out.grown G.out (by simp)
        rcases k with _ | _ | _ | k
        · exact ⟨host, hb.cell 0⟩
        · exact ⟨1, hb.cell 1⟩
        · exact ⟨2, hb.cell 2⟩
        · omega
      have i1 : (k : Int) < 3 := by omega
      have i2 : (0 : Int) ≤ (k : Int) := by omega
      obtain ⟨q1, q2, q3, q4, q5⟩ := HSUM.out t
      have KX : Hid (∀ W, W7.grownBy W none → Calls Try.prog 13 #[.slice A3 x.length c3, .int .i64 t] W (SumPost W (sumT t x))) := Lib.hid (fun W hW => sum_any A3 x c3 t W (X7.out.grown hW (by simp)) (by omega) HIX.out)
      have KY : Hid (∀ W, W7.grownBy W none → Calls Try.prog 13 #[.slice A4 y.length c4, .int .i64 t] W (SumPost W (sumT t y))) := Lib.hid (fun W hW => sum_any A4 y c4 t W (Y7.out.grown hW (by simp)) (by omega) HIY.out)
      have KM : Hid (∀ W, W7.grownBy W none → Calls Try.prog 13 #[.slice A6 M.length c6, .int .i64 t] W (SumPost W (sumT t M))) := Lib.hid (fun W hW => sum_any A6 M c6 t W (M7.out.grown hW (by simp)) (by omega) HIXY.out)
      have KR := Lib.hid (fun W (hW : W7.grownBy W none) => rsum_any A3 x c3 t W (X7.out.grown hW (by simp)) (by omega) HIX.out)
      obtain ⟨s1, hs1'⟩ : ∃ s, s = sumT t x := ⟨_, rfl⟩
      obtain ⟨s2, hs2'⟩ : ∃ s, s = sumT t y := ⟨_, rfl⟩
      obtain ⟨s3, hs3'⟩ : ∃ s, s = sumT t M := ⟨_, rfl⟩
      rw [← hs1', ← hs2', ← hs3'] at q1
      rw [← hs1'] at q2 q3 KX KR
      rw [← hs2'] at q4 q5 KY
      rw [← hs3'] at KM
      have hadd : IntKind.i64.wrap (s1 + s2) = s3 := by rw [q1]; exact IntWalk.i64_in _ (by omega)
      clear hs1' hs2' hs3' q1
      go_wp2_with fail
      clear ht
      refine (KX.out _ G.out).mono ?_
      rintro e wa ⟨rfl, hga⟩
      have Ga := Lib.hid (only_trans G.out hga)
      clear hga
      go_wp2_with fail
      refine (KR.out _ Ga.out).mono ?_
      rintro e wb ⟨rfl, hg⟩
      have Gwb := Lib.hid (only_trans Ga.out hg)
      clear hg
      go_wp2_with fail
      refine (KM.out _ Gwb.out).mono ?_
      rintro e wc ⟨rfl, hg⟩
      have Gwc := Lib.hid (only_trans Gwb.out hg)
      clear hg
      go_wp2_with fail
      refine (KX.out _ Gwc.out).mono ?_
      rintro e wd ⟨rfl, hg⟩
      have Gwd := Lib.hid (only_trans Gwc.out hg)
      clear hg
      go_wp2_with fail
      refine (KY.out _ Gwd.out).mono ?_
      rintro e we ⟨rfl, hg⟩
      have Gwe := Lib.hid (only_trans Gwd.out hg)
      clear hg
      go_wp2_with fail
      go_roundw
      case rel => exact ⟨k + 1, by go_num, by omega, Gwe.out⟩
      case measure => simp [intOf]; omega
    · have i1 : ¬ ((k : Int) < 3) := by omega
      have hgo : ∀ e ∈ es, 1 ≤ e.lines.length ∧ e.lines.length ≤ 3 := fun e he => ⟨EG.out e he, EG2.out e he⟩
      obtain ⟨L, hL⟩ : ∃ L, L = linT es := ⟨_, rfl⟩
      have hLl : L.length ≤ 30 := by
        have := (linT_ok es hgo es.length (Nat.le_refl _)).2.2
        rw [List.take_length] at this
        rw [hL]; omega
      have KP : Hid (∀ W, W7.grownBy W none → Calls Try.prog 15 #[.slice A5 es.length c5] W (TalsPost W L)) := Lib.hid (fun W hW => by rw [hL]; exact linp_any A5 es c5 W (E7.out.grown hW (by simp)) (by omega) hgo)
      have KR : Hid (∀ W, W7.grownBy W none → Calls Try.prog 16 #[.slice A5 es.length c5] W (TalsPost W L)) := Lib.hid (fun W hW => by rw [hL]; exact linr_any A5 es c5 W (E7.out.grown hW (by simp)) (by omega) hgo)
      have KM1 : Hid (∀ W, W7.grownBy W none → Calls Try.prog 17 #[.slice A3 x.length c3, .slice A4 y.length c4] W (TalsPost W M)) := Lib.hid (fun W hW => by rw [HMM.out]; exact rmerge_any A3 A4 x y c3 c4 W (X7.out.grown hW (by simp)).tru (Y7.out.grown hW (by simp)).tru (by omega) (by omega) HIX.out HIY.out)
      have KM2 : Hid (∀ W, W7.grownBy W none → Calls Try.prog 11 #[.slice A4 y.length c4, .slice A3 x.length c3] W (TalsPost W M)) := Lib.hid (fun W hW => by rw [HMM.out, HCOM.out]; exact merge_any A4 A3 y x c4 c3 W (Y7.out.grown hW (by simp)).tru (X7.out.grown hW (by simp)).tru (by omega) (by omega) hc4 hm4 hc3 hm3 HIY.out HIX.out)
      clear hgo hL
      go_wp2_with fail
      refine (KP.out _ G.out).mono ?_
      rintro e wa ⟨Aa, ca, rfl, -, -, hra, hga⟩
      have Ga := Lib.hid (only_trans G.out hga)
      have Ra := Lib.hid hra
      clear hga hra
      go_wp2_with fail
      refine (KR.out _ Ga.out).mono ?_
      rintro e wb ⟨Ab, cb, rfl, -, -, hrb, hgb⟩
      have Gb := Lib.hid (only_trans Ga.out hgb)
      have KS1 := Lib.hid (sametal_any Aa Ab L L ca cb wb (Ra.out.grown hgb (by simp)) hrb (by omega) rfl)
      clear hgb hrb
      go_wp2_with fail
      refine KS1.out.mono ?_
      rintro e wc ⟨rfl, nc, rfl⟩
      have Gc := Lib.hid (only_drewN Gb.out nc)
      go_wp2_with fail
      refine (KM1.out _ Gc.out).mono ?_
      rintro e wd ⟨Ad, cd, rfl, -, -, hrd, hgd⟩
      have Gd := Lib.hid (only_trans Gc.out hgd)
      have KS2 := Lib.hid (sametal_any A6 Ad M M c6 cd wd (M7.out.grown Gd.out (by simp)) hrd (by omega) rfl)
      clear hgd hrd
      go_wp2_with fail
      refine KS2.out.mono ?_
      rintro e we ⟨rfl, ne, rfl⟩
      have Ge := Lib.hid (only_drewN Gd.out ne)
      go_wp2_with fail
      refine (KM2.out _ Ge.out).mono ?_
      rintro e wf ⟨Af, cf, rfl, -, -, hrf, hgf⟩
      have Gf := Lib.hid (only_trans Ge.out hgf)
      have KS3 := Lib.hid (sametal_any A6 Af M M c6 cf wf (M7.out.grown Gf.out (by simp)) hrf (by omega) rfl)
      clear hgf hrf
      go_wp2_with fail
      refine KS3.out.mono ?_
      rintro e wh ⟨rfl, nh, rfl⟩
      have Gh := Lib.hid (only_drewN Gf.out nh)
      go_wp2_with fail
      go_ret
      exact ⟨rfl, only_trans G7.out Gh.out⟩
end Go.Proofs.Ytiogpomgpknjlaa
