/- law33: TiersTarget: the walk of the law itself (printed by mktgt.py). For every input. -/
import Derived.Test.YtganfhmjklcchaaGet33
import Derived.Test.YtganfhmjklcchaaDue
import Derived.Test.YtganfhmjklcchaaMani
import Derived.Test.YtganfhmjklcchaaSameInts
import Derived.Deep.CutBlock
import Derived.Deep.DeepCutAuto
namespace Go.Proofs.Ytganfhmjklcchaa
open Go.RowKit
set_option linter.unusedVariables false
set_option linter.unusedSimpArgs false

theorem load_mani33 (w : World) (mb : Nat) {num nid jn : Int} {A3 B C E : Option Addr} {n c nb d2 nc f2 ne h2' : Nat} (hB : Blk w mb 45 #[.int .i64 num, .int .i64 nid, .int .i64 jn, .slice A3 n c, .slice B nb d2, .slice C nc f2, .slice E ne h2']) :
    (Instr.loadAt 45 (.pointer (some ⟨mb, 0, none⟩))).run Try.prog w = .ok (.agg #[.int .i64 num, .int .i64 nid, .int .i64 jn, .slice A3 n c, .slice B nb d2, .slice C nc f2, .slice E ne h2']) w := by
  have b0 := hB.cell 0
  have b1 := hB.cell 1
  have b2 := hB.cell 2
  have b3 := hB.cell 3
  have b4 := hB.cell 4
  have b5 := hB.cell 5
  have b6 := hB.cell 6
  simp at b0 b1 b2 b3 b4 b5 b6
  have hu := Try.underlying45
  simp [go_sem, b0, b1, b2, b3, b4, b5, b6]
theorem dueL_asc {ss : List SegD} {nid : Int} (h : SegsOk ss nid) (t : Int) : (dueL ss t).Pairwise (· ≤ ·) := by
  unfold dueL
  exact List.pairwise_map.2 ((h.1.sublist (List.filter_sublist ..)).imp (fun h => Int.le_of_lt h))
set_option maxHeartbeats 8000000 in
set_option maxRecDepth 100000 in
theorem law_target (A : Option Addr) (l0 : List Int) (d : Nat) (s0 : SegD) (now : Int) (w : World) (h : Rd (fun _ => True) w A (l0.map (.int .u8))) (hc : l0.length ≤ d) (hcm : d ≤ maxLen) (hx : ∀ x ∈ l0, 0 ≤ x ∧ x ≤ 255) :
    Calls Try.prog 4 #[.slice A l0.length d, .agg s0.cells.toArray, .int .i64 now] w (TrueExt w) := by
  obtain ⟨sb, hsb⟩ : ∃ b, b = w.heap.size := ⟨_, rfl⟩
  obtain ⟨Ws, hWs⟩ : ∃ W, W = w.alloc (.cells s0.cells.toArray 38) := ⟨_, rfl⟩
  have HB0 : Hid (Blk Ws sb 38 s0.cells.toArray) := Lib.hid (by rw [hWs, hsb]; exact Blk.new w _ _)
  have g0 : w.grownBy Ws none := by rw [hWs]; exact only_alloc (only_refl _ _) _
  have G0 := Lib.hid g0
  have hsw : sb < Ws.heap.size := by rw [hWs, hsb]; simp
  have HX := Lib.hid hx
  have HL := Lib.hid (h.grown g0 (by simp))
  have HWS := Lib.hid hWs.symm
  have HSE := Lib.hid hsb.symm
  clear hx h hWs hsb g0
  go_enter Try.func4, Try.ntmps4
  go_upto_region 1 with fail
  rw [HWS.out, HSE.out]
  go_wp2_with (go_at_call 5; refine (awake33_any _).mono ?_; rintro e w1 ⟨rfl, hg1⟩)
  refine (new_any A l0 d 200 _ (HL.out.grown hg1 (by simp)) hc hcm (by omega) HX.out).mono ?_
  rintro e w2 ⟨rfl, h2, hg2, hlt2⟩
  have hg12 := only_trans hg1 hg2
  have G2 : Hid (w.grownBy w2 none) := Lib.hid (only_trans G0.out hg12)
  have HB2 := Lib.hid (HB0.out.grown hg12 (by simp))
  have hs1 := hg1.size
  have hs2 := hg2.size
  have hsW := G0.out.size
  generalize w1.heap.size = g at *
  obtain ⟨l, hl⟩ : ∃ l, l = l0.take 200 := ⟨_, rfl⟩
  rw [← hl] at h2
  clear HL HX hg1 hg2 hl hg12 HWS HSE
  go_wp2_with fail
  refine (manifest_some g l _ w2 h2).mono ?_
  rintro e w3 ⟨A3, B, C, E, c, d2, f2, h2', num, jn, nid, ss, ms, ts, xs, k3, rfl, -, -, -, -, -, -, hn3, hok, hrow, -, -, -, -, -, -, -, -, -, -, -, -, -, -, -, hc3, hg3⟩
  obtain ⟨mb, hmb⟩ : ∃ b, b = w3.heap.size := ⟨_, rfl⟩
  have hs3 := hg3.size
  have hwg : w.heap.size ≤ g := by omega
  obtain ⟨A9, c9, e9, -, -, -, hr9⟩ := Rd.of_own hrow (by decide)
  injection e9 with e91 e92 e93
  subst e91 e93
  obtain ⟨W4, hW4⟩ : ∃ W, W = w3.alloc (.cells #[.int .i64 num, .int .i64 nid, .int .i64 jn, .slice A3 ss.length c, .slice B ms.length d2, .slice C ts.length f2, .slice E xs.length h2'] 45) := ⟨_, rfl⟩
  have ga : w3.grownBy W4 none := by rw [hW4]; exact only_alloc (only_refl _ _) _
  have HMB : Hid (Blk W4 mb 45 #[.int .i64 num, .int .i64 nid, .int .i64 jn, .slice A3 ss.length c, .slice B ms.length d2, .slice C ts.length f2, .slice E xs.length h2']) := Lib.hid (by rw [hW4, hmb]; exact Blk.new w3 _ _)
  have HR := Lib.hid ((hr9.mono (S' := fun b => w2.heap.size ≤ b ∧ b ≠ g) (fun b hb _ => ⟨hb, by have : w2.heap.size ≤ b := hb; omega⟩)).grown ga (by simp))
  have HSB4 := Lib.hid ((HB2.out.grown hg3 (by intro e; injection e with e; omega)).grown ga (by simp))
  have G4 := Lib.hid (only_trans (only_fresh G2.out hg3 hwg) ga)
  have HC4 := hc3.grown ga (by simp)
  have HOK := Lib.hid hok
  have HW4 := Lib.hid hW4.symm
  have HME := Lib.hid hmb.symm
  have hmg : mb ≠ g := by omega
  have hsg : sb ≠ g := by omega
  generalize ms.length = nb at *
  generalize ts.length = nc at *
  generalize xs.length = ne at *
  clear h2 hrow hr9 hc3 hg3 hW4 hmb ga hok HB0 HB2
  go_upto_region 5 with fail
  rw [HW4.out, HME.out]
  clear HW4 HME
  go_wp2_with fail
  refine (time_some g l k3 W4 HC4).mono ?_
  rintro e w5 ⟨v5, k5, rfl, hv5, h5, hg5⟩
  have HMB5 := Lib.hid (HMB.out.grown hg5 (by intro e; injection e with e; exact hmg e))
  have HSB5 := Lib.hid (HSB4.out.grown hg5 (by intro e; injection e with e; exact hsg e))
  have HR5 := Lib.hid (HR.out.grown hg5 (fun b hb e => hb.2 (by injection e)))
  have G5 := Lib.hid (only_fresh G4.out hg5 hwg)
  clear hg5 h5 HC4
  go_wp2_with fail
  refine (mod_some now 253402300800000 _ (by omega) (by omega)).mono ?_
  rintro e w6 ⟨⟨r6, rfl⟩, rfl⟩
  obtain ⟨tb, htb⟩ : ∃ b, b = w6.heap.size := ⟨_, rfl⟩
  obtain ⟨W7, hW7⟩ : ∃ W, W = w6.alloc (.cells #[.int .i64 now, .int .i64 v5, .int .i64 r6] 3) := ⟨_, rfl⟩
  have ga : w6.grownBy W7 none := by rw [hW7]; exact only_alloc (only_refl _ _) _
  have HTB : Hid (Blk W7 tb 3 #[.int .i64 now, .int .i64 v5, .int .i64 r6]) := Lib.hid (by rw [hW7, htb]; exact Blk.new w6 _ _)
  have HMB7 := Lib.hid (HMB5.out.grown ga (by simp))
  have HSB7 := Lib.hid (HSB5.out.grown ga (by simp))
  have HR7 := Lib.hid (HR5.out.grown ga (by simp))
  have G7 := Lib.hid (only_trans G5.out ga)
  have HW7 := Lib.hid hW7.symm
  have HTE := Lib.hid htb.symm
  clear hW7 htb ga
  go_upto_block 0 with fail
  rw [HW7.out, HTE.out]
  clear HW7 HTE
  obtain ⟨n, hn⟩ : ∃ n, n = ss.length := ⟨_, rfl⟩
  have hn13 : n ≤ 13 := by omega
  have HN := Lib.hid hn
  have HMB9 : Hid (Blk W7 mb 45 #[.int .i64 num, .int .i64 nid, .int .i64 jn, .slice A3 n c, .slice B nb d2, .slice C nc f2, .slice E ne h2']) := Lib.hid (by rw [hn]; exact HMB7.out)
  have HRL := Lib.hid (HR7.out.mono (S' := (· < W7.heap.size)) (fun b _ hlt => hlt))
  clear HMB HMB5 HMB7 HSB4 HSB5 HR HR5 HR7 hn
  go_wp2_with fail
  go_loopw [26] (fun vi wr => ∃ k : Nat, vi = .int .i64 k ∧ k ≤ 3 ∧ W7.grownBy wr none) (fun vi _ => 3 - (intOf vi).toNat)
  case atStart => exact ⟨0, rfl, by omega, only_refl _ _⟩
  case round =>
    obtain ⟨k, rfl, hk, hG⟩ := hrel
    have G := Lib.hid hG
    clear hG
    by_cases hk3 : k < 3
    · obtain ⟨t, ht⟩ : ∃ t, wr.cell? ⟨tb, k, none⟩ = some (.int .i64 t) := by
        have hb := HTB.out.grown G.out (by simp)
        rcases k with _ | _ | _ | k
        · exact ⟨now, hb.cell 0⟩
        · exact ⟨v5, hb.cell 1⟩
        · exact ⟨r6, hb.cell 2⟩
        · omega
      have i1 : (k : Int) < 3 := by omega
      have i2 : (0 : Int) ≤ (k : Int) := by omega
      obtain ⟨L, hL⟩ : ∃ L, L = dueL ss t := ⟨_, rfl⟩
      have hLl : L.length ≤ 13 := by have := dueL_len ss t; have := HN.out; rw [hL]; omega
      have HSB := Lib.hid (HSB7.out.grown G.out (by simp))
      have HMB := Lib.hid (HMB9.out.grown G.out (by simp))
      have KD : Hid (∀ W, wr.grownBy W none → Calls Try.prog 23 #[.agg #[.int .i64 num, .int .i64 nid, .int .i64 jn, .slice A3 n c, .slice B nb d2, .slice C nc f2, .slice E ne h2'], .int .i64 t] W (OfPost W L)) := Lib.hid (fun W hW => by
        have := due_any num nid jn A3 ss c B nb d2 C nc f2 E ne h2' t W ((HRL.out.grown G.out (by simp)).grown hW (by simp)) (by have := HN.out; omega) (dueL_asc HOK.out t)
        rw [← HN.out, ← hL] at this
        exact this)
      have KR : Hid (∀ W, wr.grownBy W none → Calls Try.prog 24 #[.agg #[.int .i64 num, .int .i64 nid, .int .i64 jn, .slice A3 n c, .slice B nb d2, .slice C nc f2, .slice E ne h2'], .int .i64 t] W (OfPost W L)) := Lib.hid (fun W hW => by
        have := rdue_any num nid jn A3 ss c B nb d2 C nc f2 E ne h2' t W ((HRL.out.grown G.out (by simp)).grown hW (by simp)) (by have := HN.out; omega)
        rw [← HN.out, ← hL] at this
        exact this)
      clear hL
      obtain ⟨W0, rfl⟩ : ∃ W0 : World, W0 = wr := ⟨_, rfl⟩
      go_upto_region 8 with fail
      clear ht
      refine wp_region_gen 17 (JC [some (.agg s0.cells.toArray), some (.int .i64 (t)), some (.int .i64 (tgt s0 t)), some (.agg s0.cells.toArray), some (.int .i64 (t)), some (.int .i64 (tgt s0 t)), some (.bool false), some (.bool false), some (.agg #[.int .i64 num, .int .i64 nid, .int .i64 jn, .slice A3 n c, .slice B nb d2, .slice C nc f2, .slice E ne h2']), some (.int .i64 (t)), none, some (.agg #[.int .i64 num, .int .i64 nid, .int .i64 jn, .slice A3 n c, .slice B nb d2, .slice C nc f2, .slice E ne h2']), some (.int .i64 (t)), none, some (.bool true), some (.bool false), some (.bool false)] (fun D u wx => W0.grownBy wx none ∧ (D 10 = true → ∃ A2 c2, u 10 = .slice A2 L.length c2 ∧ Rd (fun _ => True) wx A2 (L.map (.int .i64))) ∧ (D 13 = true → ∃ A2 c2, u 13 = .slice A2 L.length c2 ∧ Rd (fun _ => True) wx A2 (L.map (.int .i64))))) (by kernel_rfl) (by kernel_rfl) ?_ ?_ ?_
      · intro u
        exact ⟨(fun j c _ h => by cases h), ⟨only_drew (only_refl _ _), (fun h => by cases h), fun h => by cases h⟩⟩
      · intro AA hA
        have hasz : AA.tmps.size = 90 := by rw [hA]; kernel_rfl
        have ea4 : AA.eval (.tmp 4) = .pointer (some ⟨sb, 0, none⟩) := by rw [hA]; kernel_rfl
        have ea8 : AA.eval (.tmp 8) = .pointer (some ⟨mb, 0, none⟩) := by rw [hA]; kernel_rfl
        have ea10 : AA.eval (.tmp 10) = .int .i64 (t) := by rw [hA]; kernel_rfl
        clear hA
        simp only [List.take_succ_cons, List.take_zero]
        refine .cons ?_ (.cons ?_ (.cons ?_ (.cons ?_ (.cons ?_ (.cons ?_ (.cons ?_ (.cons ?_ (.cons ?_ (.cons ?_ (.cons ?_ (.cons ?_ (.cons ?_ (.cons ?_ (.cons ?_ (.cons ?_ (.cons ?_ (.nil)))))))))))))))))
        · exact gd_gen (by kernel_rfl) (Want.none_ rfl) rfl (fun D u w v h => by simpa [updB, upd] using h) (fun D u ρ w kn => by
            have e0 := kn.own 4 (c := .pointer (some ⟨sb, 0, none⟩)) (by kernel_rfl) ea4
            exact run_load ρ w rfl e0 (load_segO w sb 0 s0 (fun j hj => by rw [Nat.zero_add]; simpa using (HSB.out.grown kn.ext.1 (by simp)).cell j)))
        · exact gd_gen (by kernel_rfl) (Want.none_ rfl) rfl (fun D u w v h => by simpa [updB, upd] using h) (fun D u ρ w kn => by
            have e0 := kn.own 10 (c := .int .i64 (t)) (by kernel_rfl) ea10
            simp [execOp, kn.rho.con, e0, go_sem])
        · refine gd_call (by kernel_rfl) (Want.none_ rfl) 20 (fun D u ρ wx kn hD => ?_)
          have e0 := kn.con 0 30 (c := .agg s0.cells.toArray) (by kernel_rfl) (by omega) (by kernel_rfl) rfl
          have e1 := kn.con 1 31 (c := .int .i64 t) (by kernel_rfl) (by omega) (by kernel_rfl) rfl
          obtain ⟨x1, x2, x3⟩ := kn.ext
          refine ⟨#[.agg s0.cells.toArray, .int .i64 t], ?_, (target_any s0 t wx).mono ?_⟩
          · simp only [execOp, resolve, Deferred.ofValue, List.map_toArray, List.map_cons, List.map_nil, e0, e1, kn.rho.con, kn.rho.fn]
            simp [go_sem]
          · rintro e w' ⟨rfl, hg⟩
            exact ⟨_, rfl, (fun c h => by injection h with h; injection h), only_trans x1 hg, (fun h => by rw [updB_ne D (show (10 : Nat) ≠ 2 by omega)] at h; rw [upd_ne u _ (show (10 : Nat) ≠ 2 by omega)]; obtain ⟨A2, c2, q1, q2⟩ := x2 h; exact ⟨A2, c2, q1, q2.grown hg (by simp)⟩), (fun h => by rw [updB_ne D (show (13 : Nat) ≠ 2 by omega)] at h; rw [upd_ne u _ (show (13 : Nat) ≠ 2 by omega)]; obtain ⟨A2, c2, q1, q2⟩ := x3 h; exact ⟨A2, c2, q1, q2.grown hg (by simp)⟩)⟩
        · exact gd_gen (by kernel_rfl) (Want.none_ rfl) rfl (fun D u w v h => by simpa [updB, upd] using h) (fun D u ρ w kn => by
            have e0 := kn.own 4 (c := .pointer (some ⟨sb, 0, none⟩)) (by kernel_rfl) ea4
            exact run_load ρ w rfl e0 (load_segO w sb 0 s0 (fun j hj => by rw [Nat.zero_add]; simpa using (HSB.out.grown kn.ext.1 (by simp)).cell j)))
        · exact gd_gen (by kernel_rfl) (Want.none_ rfl) rfl (fun D u w v h => by simpa [updB, upd] using h) (fun D u ρ w kn => by
            have e0 := kn.own 10 (c := .int .i64 (t)) (by kernel_rfl) ea10
            simp [execOp, kn.rho.con, e0, go_sem])
        · refine gd_call (by kernel_rfl) (Want.none_ rfl) 21 (fun D u ρ wx kn hD => ?_)
          have e0 := kn.con 3 33 (c := .agg s0.cells.toArray) (by kernel_rfl) (by omega) (by kernel_rfl) rfl
          have e1 := kn.con 4 34 (c := .int .i64 t) (by kernel_rfl) (by omega) (by kernel_rfl) rfl
          obtain ⟨x1, x2, x3⟩ := kn.ext
          refine ⟨#[.agg s0.cells.toArray, .int .i64 t], ?_, (rtarget_any s0 t wx).mono ?_⟩
          · simp only [execOp, resolve, Deferred.ofValue, List.map_toArray, List.map_cons, List.map_nil, e0, e1, kn.rho.con, kn.rho.fn]
            simp [go_sem]
          · rintro e w' ⟨rfl, hg⟩
            exact ⟨_, rfl, (fun c h => by injection h with h; injection h), only_trans x1 hg, (fun h => by rw [updB_ne D (show (10 : Nat) ≠ 5 by omega)] at h; rw [upd_ne u _ (show (10 : Nat) ≠ 5 by omega)]; obtain ⟨A2, c2, q1, q2⟩ := x2 h; exact ⟨A2, c2, q1, q2.grown hg (by simp)⟩), (fun h => by rw [updB_ne D (show (13 : Nat) ≠ 5 by omega)] at h; rw [upd_ne u _ (show (13 : Nat) ≠ 5 by omega)]; obtain ⟨A2, c2, q1, q2⟩ := x3 h; exact ⟨A2, c2, q1, q2.grown hg (by simp)⟩)⟩
        · exact gd_gen (by kernel_rfl) (Want.none_ rfl) rfl (fun D u w v h => by simpa [updB, upd] using h) (fun D u ρ w kn => by
            have e0 := kn.con 2 32 (c := .int .i64 (tgt s0 t)) (by kernel_rfl) (by omega) (by kernel_rfl) rfl
            have e1 := kn.con 5 35 (c := .int .i64 (tgt s0 t)) (by kernel_rfl) (by omega) (by kernel_rfl) rfl
            simp [execOp, kn.rho.con, e0, e1, go_sem])
        · exact gd_gen (by kernel_rfl) (Want.none_ rfl) rfl (fun D u w v h => by simpa [updB, upd] using h) (fun D u ρ w kn => by
            have e0 := kn.con 6 36 (c := .bool false) (by kernel_rfl) (by omega) (by kernel_rfl) rfl
            simp [execOp, kn.rho.con, e0, go_sem])
        · exact gd_gen (by kernel_rfl) (Want.some_ (g := 7) (v := false) rfl rfl (by kernel_rfl) (by omega) rfl rfl (by kernel_rfl)) rfl (fun D u w v h => by simpa [updB, upd] using h) (fun D u ρ w kn => by
            have e0 := kn.own 8 (c := .pointer (some ⟨mb, 0, none⟩)) (by kernel_rfl) ea8
            exact run_load ρ w rfl e0 (load_mani33 w mb (HMB.out.grown kn.ext.1 (by simp))))
        · exact gd_gen (by kernel_rfl) (Want.some_ (g := 7) (v := false) rfl rfl (by kernel_rfl) (by omega) rfl rfl (by kernel_rfl)) rfl (fun D u w v h => by simpa [updB, upd] using h) (fun D u ρ w kn => by
            have e0 := kn.own 10 (c := .int .i64 (t)) (by kernel_rfl) ea10
            simp [execOp, kn.rho.con, e0, go_sem])
        · refine gd_call (by kernel_rfl) (Want.some_ (g := 7) (v := false) rfl rfl (by kernel_rfl) (by omega) rfl rfl (by kernel_rfl)) 23 (fun D u ρ wx kn hD => ?_)
          have e0 := kn.con 8 38 (c := .agg #[.int .i64 num, .int .i64 nid, .int .i64 jn, .slice A3 n c, .slice B nb d2, .slice C nc f2, .slice E ne h2']) (by kernel_rfl) (by omega) (by kernel_rfl) rfl
          have e1 := kn.con 9 39 (c := .int .i64 t) (by kernel_rfl) (by omega) (by kernel_rfl) rfl
          obtain ⟨x1, x2, x3⟩ := kn.ext
          refine ⟨#[.agg #[.int .i64 num, .int .i64 nid, .int .i64 jn, .slice A3 n c, .slice B nb d2, .slice C nc f2, .slice E ne h2'], .int .i64 t], ?_, (KD.out wx x1).mono ?_⟩
          · simp only [execOp, resolve, Deferred.ofValue, List.map_toArray, List.map_cons, List.map_nil, e0, e1, kn.rho.con, kn.rho.fn]
            simp [go_sem]
          · rintro e w' ⟨A2, c2, rfl, hc2, hm2, hr2, hg⟩
            exact ⟨_, rfl, (fun c h => by cases h), only_trans x1 hg, (fun _ => ⟨A2, c2, upd_at _ _ _, hr2.mono (fun _ _ _ => trivial)⟩), (fun h => by rw [updB_ne D (show (13 : Nat) ≠ 10 by omega)] at h; rw [upd_ne u _ (show (13 : Nat) ≠ 10 by omega)]; obtain ⟨A2, c2, q1, q2⟩ := x3 h; exact ⟨A2, c2, q1, q2.grown hg (by simp)⟩)⟩
        · exact gd_gen (by kernel_rfl) (Want.some_ (g := 7) (v := false) rfl rfl (by kernel_rfl) (by omega) rfl rfl (by kernel_rfl)) rfl (fun D u w v h => by simpa [updB, upd] using h) (fun D u ρ w kn => by
            have e0 := kn.own 8 (c := .pointer (some ⟨mb, 0, none⟩)) (by kernel_rfl) ea8
            exact run_load ρ w rfl e0 (load_mani33 w mb (HMB.out.grown kn.ext.1 (by simp))))
        · exact gd_gen (by kernel_rfl) (Want.some_ (g := 7) (v := false) rfl rfl (by kernel_rfl) (by omega) rfl rfl (by kernel_rfl)) rfl (fun D u w v h => by simpa [updB, upd] using h) (fun D u ρ w kn => by
            have e0 := kn.own 10 (c := .int .i64 (t)) (by kernel_rfl) ea10
            simp [execOp, kn.rho.con, e0, go_sem])
        · refine gd_call (by kernel_rfl) (Want.some_ (g := 7) (v := false) rfl rfl (by kernel_rfl) (by omega) rfl rfl (by kernel_rfl)) 24 (fun D u ρ wx kn hD => ?_)
          have e0 := kn.con 11 41 (c := .agg #[.int .i64 num, .int .i64 nid, .int .i64 jn, .slice A3 n c, .slice B nb d2, .slice C nc f2, .slice E ne h2']) (by kernel_rfl) (by omega) (by kernel_rfl) rfl
          have e1 := kn.con 12 42 (c := .int .i64 t) (by kernel_rfl) (by omega) (by kernel_rfl) rfl
          obtain ⟨x1, x2, x3⟩ := kn.ext
          refine ⟨#[.agg #[.int .i64 num, .int .i64 nid, .int .i64 jn, .slice A3 n c, .slice B nb d2, .slice C nc f2, .slice E ne h2'], .int .i64 t], ?_, (KR.out wx x1).mono ?_⟩
          · simp only [execOp, resolve, Deferred.ofValue, List.map_toArray, List.map_cons, List.map_nil, e0, e1, kn.rho.con, kn.rho.fn]
            simp [go_sem]
          · rintro e w' ⟨A2, c2, rfl, hc2, hm2, hr2, hg⟩
            exact ⟨_, rfl, (fun c h => by cases h), only_trans x1 hg, (fun h => by rw [updB_ne D (show (10 : Nat) ≠ 13 by omega)] at h; rw [upd_ne u _ (show (10 : Nat) ≠ 13 by omega)]; obtain ⟨A2, c2, q1, q2⟩ := x2 h; exact ⟨A2, c2, q1, q2.grown hg (by simp)⟩), (fun _ => ⟨A2, c2, upd_at _ _ _, hr2.mono (fun _ _ _ => trivial)⟩)⟩
        · refine gd_call (by kernel_rfl) (Want.some_ (g := 7) (v := false) rfl rfl (by kernel_rfl) (by omega) rfl rfl (by kernel_rfl)) 22 (fun D u ρ wx kn hD => ?_)
          have e0 := kn.slot 10 40 (by kernel_rfl) (by omega)
          have e1 := kn.slot 13 43 (by kernel_rfl) (by omega)
          have d10 := kn.dep 10 (by kernel_rfl)
          have d13 := kn.dep 13 (by kernel_rfl)
          obtain ⟨x1, x2, x3⟩ := kn.ext
          obtain ⟨A2, c2, q1, q2⟩ := x2 d10
          obtain ⟨A4, c4, p1, p2⟩ := x3 d13
          rw [q1] at e0
          rw [p1] at e1
          refine ⟨#[.slice A2 L.length c2, .slice A4 L.length c4], ?_, (sameints_any A2 A4 L L c2 c4 wx q2 p2 (by omega) (by omega) true (by simp)).mono ?_⟩
          · simp only [execOp, resolve, Deferred.ofValue, List.map_toArray, List.map_cons, List.map_nil, e0, e1, kn.rho.con, kn.rho.fn]
            simp [go_sem]
          · rintro e w' ⟨rfl, n', rfl⟩
            have hg : wx.grownBy (wx.drewN n') none := only_drewN (only_refl _ _) n'
            exact ⟨_, rfl, (fun c h => by injection h with h; injection h), only_trans x1 hg, (fun h => by rw [updB_ne D (show (10 : Nat) ≠ 14 by omega)] at h; rw [upd_ne u _ (show (10 : Nat) ≠ 14 by omega)]; obtain ⟨A2, c2, q1, q2⟩ := x2 h; exact ⟨A2, c2, q1, q2.grown hg (by simp)⟩), (fun h => by rw [updB_ne D (show (13 : Nat) ≠ 14 by omega)] at h; rw [upd_ne u _ (show (13 : Nat) ≠ 14 by omega)]; obtain ⟨A2, c2, q1, q2⟩ := x3 h; exact ⟨A2, c2, q1, q2.grown hg (by simp)⟩)⟩
        · exact gd_gen (by kernel_rfl) (Want.some_ (g := 7) (v := false) rfl rfl (by kernel_rfl) (by omega) rfl rfl (by kernel_rfl)) rfl (fun D u w v h => by simpa [updB, upd] using h) (fun D u ρ w kn => by
            have e0 := kn.con 14 44 (c := .bool true) (by kernel_rfl) (by omega) (by kernel_rfl) rfl
            simp [execOp, kn.rho.con, e0, go_sem])
        · exact gd_gen (by kernel_rfl) (Want.none_ rfl) rfl (fun D u w v h => by simpa [updB, upd] using h) (fun D u ρ w kn => by
            have e0 := kn.con 7 37 (c := .bool false) (by kernel_rfl) (by omega) (by kernel_rfl) rfl
            have e1 := kn.con 15 45 (c := .bool false) (by kernel_rfl) (by omega) (by kernel_rfl) rfl
            simp [execOp, kn.rho.con, e0, e1, go_sem])
      · intro D u w9 hJ hD
        obtain ⟨hcn, x1, -⟩ := hJ
        have e16 : u 16 = .bool false := hcn 16 _ rfl (hD 16 (by omega))
        have G9 := Lib.hid (only_trans G.out x1)
        simp only [List.take_succ_cons, List.take_zero, List.drop_succ_cons, List.drop_zero, putAll]
        rw [e16]
        clear hcn x1 e16 hD KD KR HSB HMB
        go_simp
        go_wp2_with fail
        go_loopw [11] (fun vi wx => ∃ i : Nat, vi = .int .i64 i ∧ i ≤ n ∧ W7.grownBy wx none) (fun vi _ => n - (intOf vi).toNat)
        case atStart => exact ⟨0, rfl, Nat.zero_le _, G9.out⟩
        case round =>
          obtain ⟨i, rfl, hi, hGi⟩ := hrel
          have Gi := Lib.hid hGi
          clear hGi
          have c3 := (HMB9.out.grown Gi.out (by simp)).cell 3
          simp at c3
          by_cases hin : i < n
          · obtain ⟨s, hs⟩ : ∃ s, ss[i]? = some s := ⟨_, List.getElem?_eq_getElem (by rw [← HN.out]; exact hin)⟩
            have HS := Lib.hid hs
            have hrr := HRL.out.grown Gi.out (by simp)
            obtain ⟨b3, o3, rfl, -, -, -⟩ := hrr (by rw [flat_len _ 7 SegD.cells_len]; have := HN.out; omega)
            have hsz := Gi.out.size
            have hsg2 := HOK.out.2 s (List.mem_of_getElem? hs)
            obtain ⟨tg, htg⟩ : ∃ tg, tg = tgt s t := ⟨_, rfl⟩
            have htg1 : s.tier ≤ tg := by rw [htg]; exact tgt_le s t
            have htg2 : tg ≤ 2 := by rw [htg]; exact tgt_cold (by have := hsg2.1; unfold SegOk at this; omega) t
            have HTG : Hid (tgt ({ s with tier := tg } : SegD) t = tg) := Lib.hid (by rw [tgt_same (s := s) (t := ({ s with tier := tg } : SegD)) t htg rfl, htg])
            have i1 : (i : Int) < (n : Int) := by omega
            have i2 : (0 : Int) ≤ (i : Int) := by omega
            obtain ⟨xb, hxb⟩ : ∃ b, b = wr.heap.size := ⟨_, rfl⟩
            obtain ⟨W12, hW12⟩ : ∃ W, W = wr.alloc (.cells #[.int .i64 s.id, .int .i64 s.level, .int .i64 s.tier, .int .i64 s.count, .int .i64 s.min, .int .i64 s.max, .int .i64 s.size] 38) := ⟨_, rfl⟩
            have ga : wr.grownBy W12 none := by rw [hW12]; exact only_alloc (only_refl _ _) _
            have HX12 : Hid (Blk W12 xb 38 s.cells.toArray) := Lib.hid (by rw [hW12, hxb]; exact Blk.new wr _ _)
            have G12 := Lib.hid (only_trans Gi.out ga)
            have d0 : wr.cell? ⟨b3, o3 + i * 7, none⟩ = some (.int .i64 s.id) := hrr.flatAt SegD.cells_len hs 0 (by omega)
            have d1 : wr.cell? ⟨b3, o3 + i * 7 + 1, none⟩ = some (.int .i64 s.level) := hrr.flatAt SegD.cells_len hs 1 (by omega)
            have d2' : wr.cell? ⟨b3, o3 + i * 7 + 2, none⟩ = some (.int .i64 s.tier) := hrr.flatAt SegD.cells_len hs 2 (by omega)
            have d3 : wr.cell? ⟨b3, o3 + i * 7 + 3, none⟩ = some (.int .i64 s.count) := hrr.flatAt SegD.cells_len hs 3 (by omega)
            have d4 : wr.cell? ⟨b3, o3 + i * 7 + 4, none⟩ = some (.int .i64 s.min) := hrr.flatAt SegD.cells_len hs 4 (by omega)
            have d5 : wr.cell? ⟨b3, o3 + i * 7 + 5, none⟩ = some (.int .i64 s.max) := hrr.flatAt SegD.cells_len hs 5 (by omega)
            have d6 : wr.cell? ⟨b3, o3 + i * 7 + 6, none⟩ = some (.int .i64 s.size) := hrr.flatAt SegD.cells_len hs 6 (by omega)
            have HW12 := Lib.hid hW12.symm
            have HXE := Lib.hid hxb.symm
            have hxw : W7.heap.size ≤ xb := by omega
            clear hs hrr hW12 hxb ga hsg2
            go_upto_region 14 with fail
            rw [HW12.out, HXE.out]
            clear d0 d1 d2' d3 d4 d5 d6 c3 HW12 HXE
            have hrr := HRL.out.grown G12.out (by simp)
            have d0 : W12.cell? ⟨b3, o3 + i * 7, none⟩ = some (.int .i64 s.id) := hrr.flatAt SegD.cells_len HS.out 0 (by omega)
            have d1 : W12.cell? ⟨b3, o3 + i * 7 + 1, none⟩ = some (.int .i64 s.level) := hrr.flatAt SegD.cells_len HS.out 1 (by omega)
            have d2' : W12.cell? ⟨b3, o3 + i * 7 + 2, none⟩ = some (.int .i64 s.tier) := hrr.flatAt SegD.cells_len HS.out 2 (by omega)
            have d3 : W12.cell? ⟨b3, o3 + i * 7 + 3, none⟩ = some (.int .i64 s.count) := hrr.flatAt SegD.cells_len HS.out 3 (by omega)
            have d4 : W12.cell? ⟨b3, o3 + i * 7 + 4, none⟩ = some (.int .i64 s.min) := hrr.flatAt SegD.cells_len HS.out 4 (by omega)
            have d5 : W12.cell? ⟨b3, o3 + i * 7 + 5, none⟩ = some (.int .i64 s.max) := hrr.flatAt SegD.cells_len HS.out 5 (by omega)
            have d6 : W12.cell? ⟨b3, o3 + i * 7 + 6, none⟩ = some (.int .i64 s.size) := hrr.flatAt SegD.cells_len HS.out 6 (by omega)
            have c3 := (HMB9.out.grown G12.out (by simp)).cell 3
            simp at c3
            clear hrr
            go_wp2_with fail
            refine (target_any s t _).mono ?_
            rintro e w13 ⟨rfl, hg13⟩
            clear d0 d1 d2' d3 d4 d5 d6 c3
            rw [← htg]
            have hX13 := HX12.out.grown hg13 (by simp)
            have x2 := hX13.cell 2
            have z2 := hX13.frozen 2
            simp [SegD.cells] at x2
            obtain ⟨W14, hW14⟩ : ∃ W, W = w13.setCell ⟨xb, 2, none⟩ (.int .i64 tg) := ⟨_, rfl⟩
            have gs : w13.grownBy W14 (some xb) := by rw [hW14]; exact only_setCell (only_refl _ _) (p := ⟨xb, 2, none⟩) (.inl rfl) _
            have g14 : W7.grownBy W14 none := only_fresh (only_trans G12.out hg13) gs hxw
            have HXB : Hid (Blk W14 xb 38 ({ s with tier := tg } : SegD).cells.toArray) := Lib.hid (by
              have := hX13.set_ 2 (.int .i64 tg)
              rw [hW14]; simpa [SegD.cells] using this)
            have G14 := Lib.hid g14
            have HSR := Lib.hid (HRL.out.grown g14 (by simp))
            have HMI := Lib.hid (HMB9.out.grown g14 (by simp))
            have HW14 := Lib.hid hW14.symm
            clear hW14 gs g14 hg13 hX13 htg
            go_upto_region 15 with fail
            rw [HW14.out]
            clear x2 z2 HW14
            obtain ⟨W0, rfl⟩ : ∃ W0 : World, W0 = W14 := ⟨_, rfl⟩
            refine wp_region_gen 22 (JC [some (.pointer (some ⟨xb, 2, none⟩)), some (.int .i64 (tg)), some (.pointer (some ⟨mb, 3, none⟩)), some (.slice (some ⟨b3, o3, none⟩) (n) (c)), some (.int .i64 ((i : Int))), some (.pointer (some ⟨b3, o3 + i * 7, none⟩)), some (.pointer (some ⟨b3, o3 + i * 7 + 2, none⟩)), some (.int .i64 (s.tier)), some (.bool false), some (.bool false), some (.pointer (some ⟨xb, 2, none⟩)), some (.int .i64 (tg)), some (.bool false), some (.bool false), some (.bool false), some (.agg ({ s with tier := tg } : SegD).cells.toArray), some (.int .i64 (t)), some (.int .i64 (tg)), some (.pointer (some ⟨xb, 2, none⟩)), some (.int .i64 (tg)), some (.bool false), some (.bool false)] (fun D u wx => W0.grownBy wx none)) (by kernel_rfl) (by kernel_rfl) ?_ ?_ ?_
            · intro u
              exact ⟨(fun j c _ h => by cases h), only_drew (only_refl _ _)⟩
            · intro AA hA
              have hasz : AA.tmps.size = 90 := by rw [hA]; kernel_rfl
              have ea8 : AA.eval (.tmp 8) = .pointer (some ⟨mb, 0, none⟩) := by rw [hA]; kernel_rfl
              have ea10 : AA.eval (.tmp 10) = .int .i64 (t) := by rw [hA]; kernel_rfl
              have ea11 : AA.eval (.tmp 11) = .int .i64 ((i : Int)) := by rw [hA]; kernel_rfl
              have ea12 : AA.eval (.tmp 12) = .pointer (some ⟨xb, 0, none⟩) := by rw [hA]; kernel_rfl
              clear hA
              simp only [List.take_succ_cons, List.take_zero]
              refine .cons ?_ (.cons ?_ (.cons ?_ (.cons ?_ (.cons ?_ (.cons ?_ (.cons ?_ (.cons ?_ (.cons ?_ (.cons ?_ (.cons ?_ (.cons ?_ (.cons ?_ (.cons ?_ (.cons ?_ (.cons ?_ (.cons ?_ (.cons ?_ (.cons ?_ (.cons ?_ (.cons ?_ (.cons ?_ (.nil))))))))))))))))))))))
              · exact gd_gen (by kernel_rfl) (Want.none_ rfl) rfl (fun D u w v h => by simpa [updB, upd] using h) (fun D u ρ w kn => by
                  have e0 := kn.own 12 (c := .pointer (some ⟨xb, 0, none⟩)) (by kernel_rfl) ea12
                  simp [execOp, kn.rho.con, e0, go_sem])
              · exact gd_gen (by kernel_rfl) (Want.none_ rfl) rfl (fun D u w v h => by simpa [updB, upd] using h) (fun D u ρ w kn => by
                  have e0 := kn.con 0 67 (c := .pointer (some ⟨xb, 2, none⟩)) (by kernel_rfl) (by omega) (by kernel_rfl) rfl
                  have f0 := (show w.cell? ⟨xb, 2, none⟩ = some (.int .i64 tg) from (HXB.out.grown kn.ext (by simp)).cell 2)
                  simp [execOp, kn.rho.con, e0, f0, go_sem])
              · exact gd_gen (by kernel_rfl) (Want.none_ rfl) rfl (fun D u w v h => by simpa [updB, upd] using h) (fun D u ρ w kn => by
                  have e0 := kn.own 8 (c := .pointer (some ⟨mb, 0, none⟩)) (by kernel_rfl) ea8
                  simp [execOp, kn.rho.con, e0, go_sem])
              · exact gd_gen (by kernel_rfl) (Want.none_ rfl) rfl (fun D u w v h => by simpa [updB, upd] using h) (fun D u ρ w kn => by
                  have e0 := kn.con 2 69 (c := .pointer (some ⟨mb, 3, none⟩)) (by kernel_rfl) (by omega) (by kernel_rfl) rfl
                  have f0 := (show w.cell? ⟨mb, 3, none⟩ = some (.slice (some ⟨b3, o3, none⟩) n c) from (HMI.out.grown kn.ext (by simp)).cell 3)
                  simp [execOp, kn.rho.con, e0, f0, go_sem])
              · exact gd_gen (by kernel_rfl) (Want.none_ rfl) rfl (fun D u w v h => by simpa [updB, upd] using h) (fun D u ρ w kn => by
                  have e0 := kn.own 11 (c := .int .i64 ((i : Int))) (by kernel_rfl) ea11
                  simp [execOp, kn.rho.con, e0, go_sem])
              · exact gd_gen (by kernel_rfl) (Want.none_ rfl) rfl (fun D u w v h => by simpa [updB, upd] using h) (fun D u ρ w kn => by
                  have e0 := kn.con 3 70 (c := .slice (some ⟨b3, o3, none⟩) (n) (c)) (by kernel_rfl) (by omega) (by kernel_rfl) rfl
                  have e1 := kn.con 4 71 (c := .int .i64 ((i : Int))) (by kernel_rfl) (by omega) (by kernel_rfl) rfl
                  simp [execOp, kn.rho.con, e0, e1, go_sem, i1])
              · exact gd_gen (by kernel_rfl) (Want.none_ rfl) rfl (fun D u w v h => by simpa [updB, upd] using h) (fun D u ρ w kn => by
                  have e0 := kn.con 5 72 (c := .pointer (some ⟨b3, o3 + i * 7, none⟩)) (by kernel_rfl) (by omega) (by kernel_rfl) rfl
                  simp [execOp, kn.rho.con, e0, go_sem])
              · exact gd_gen (by kernel_rfl) (Want.none_ rfl) rfl (fun D u w v h => by simpa [updB, upd] using h) (fun D u ρ w kn => by
                  have e0 := kn.con 6 73 (c := .pointer (some ⟨b3, o3 + i * 7 + 2, none⟩)) (by kernel_rfl) (by omega) (by kernel_rfl) rfl
                  have f0 := (show w.cell? ⟨b3, o3 + i * 7 + 2, none⟩ = some (.int .i64 s.tier) from (HSR.out.grown kn.ext (by simp)).flatAt SegD.cells_len HS.out 2 (by omega))
                  simp [execOp, kn.rho.con, e0, f0, go_sem])
              · exact gd_gen (by kernel_rfl) (Want.none_ rfl) rfl (fun D u w v h => by simpa [updB, upd] using h) (fun D u ρ w kn => by
                  have e0 := kn.con 1 68 (c := .int .i64 (tg)) (by kernel_rfl) (by omega) (by kernel_rfl) rfl
                  have e1 := kn.con 7 74 (c := .int .i64 (s.tier)) (by kernel_rfl) (by omega) (by kernel_rfl) rfl
                  simp [execOp, kn.rho.con, e0, e1, go_sem, htg1])
              · exact gd_gen (by kernel_rfl) (Want.none_ rfl) rfl (fun D u w v h => by simpa [updB, upd] using h) (fun D u ρ w kn => by
                  have e0 := kn.con 8 75 (c := .bool false) (by kernel_rfl) (by omega) (by kernel_rfl) rfl
                  simp [execOp, kn.rho.con, e0, go_sem])
              · exact gd_gen (by kernel_rfl) (Want.some_ (g := 9) (v := false) rfl rfl (by kernel_rfl) (by omega) rfl rfl (by kernel_rfl)) rfl (fun D u w v h => by simpa [updB, upd] using h) (fun D u ρ w kn => by
                  have e0 := kn.own 12 (c := .pointer (some ⟨xb, 0, none⟩)) (by kernel_rfl) ea12
                  simp [execOp, kn.rho.con, e0, go_sem])
              · exact gd_gen (by kernel_rfl) (Want.some_ (g := 9) (v := false) rfl rfl (by kernel_rfl) (by omega) rfl rfl (by kernel_rfl)) rfl (fun D u w v h => by simpa [updB, upd] using h) (fun D u ρ w kn => by
                  have e0 := kn.con 10 77 (c := .pointer (some ⟨xb, 2, none⟩)) (by kernel_rfl) (by omega) (by kernel_rfl) rfl
                  have f0 := (show w.cell? ⟨xb, 2, none⟩ = some (.int .i64 tg) from (HXB.out.grown kn.ext (by simp)).cell 2)
                  simp [execOp, kn.rho.con, e0, f0, go_sem])
              · exact gd_gen (by kernel_rfl) (Want.some_ (g := 9) (v := false) rfl rfl (by kernel_rfl) (by omega) rfl rfl (by kernel_rfl)) rfl (fun D u w v h => by simpa [updB, upd] using h) (fun D u ρ w kn => by
                  have e0 := kn.con 11 78 (c := .int .i64 (tg)) (by kernel_rfl) (by omega) (by kernel_rfl) rfl
                  simp [execOp, kn.rho.con, e0, go_sem, htg2])
              · exact gd_gen (by kernel_rfl) (Want.none_ rfl) rfl (fun D u w v h => by simpa [updB, upd] using h) (fun D u ρ w kn => by
                  have e0 := kn.con 9 76 (c := .bool false) (by kernel_rfl) (by omega) (by kernel_rfl) rfl
                  have e1 := kn.con 12 79 (c := .bool false) (by kernel_rfl) (by omega) (by kernel_rfl) rfl
                  simp [execOp, kn.rho.con, e0, e1, go_sem])
              · exact gd_gen (by kernel_rfl) (Want.none_ rfl) rfl (fun D u w v h => by simpa [updB, upd] using h) (fun D u ρ w kn => by
                  have e0 := kn.con 13 80 (c := .bool false) (by kernel_rfl) (by omega) (by kernel_rfl) rfl
                  simp [execOp, kn.rho.con, e0, go_sem])
              · exact gd_gen (by kernel_rfl) (Want.some_ (g := 14) (v := false) rfl rfl (by kernel_rfl) (by omega) rfl rfl (by kernel_rfl)) rfl (fun D u w v h => by simpa [updB, upd] using h) (fun D u ρ w kn => by
                  have e0 := kn.own 12 (c := .pointer (some ⟨xb, 0, none⟩)) (by kernel_rfl) ea12
                  exact run_load ρ w rfl e0 (load_segO w xb 0 _ (fun j hj => by rw [Nat.zero_add]; simpa using (HXB.out.grown kn.ext (by simp)).cell j)))
              · exact gd_gen (by kernel_rfl) (Want.some_ (g := 14) (v := false) rfl rfl (by kernel_rfl) (by omega) rfl rfl (by kernel_rfl)) rfl (fun D u w v h => by simpa [updB, upd] using h) (fun D u ρ w kn => by
                  have e0 := kn.own 10 (c := .int .i64 (t)) (by kernel_rfl) ea10
                  simp [execOp, kn.rho.con, e0, go_sem])
              · refine gd_call (by kernel_rfl) (Want.some_ (g := 14) (v := false) rfl rfl (by kernel_rfl) (by omega) rfl rfl (by kernel_rfl)) 20 (fun D u ρ wx kn hD => ?_)
                have e0 := kn.con 15 82 (c := .agg ({ s with tier := tg } : SegD).cells.toArray) (by kernel_rfl) (by omega) (by kernel_rfl) rfl
                have e1 := kn.con 16 83 (c := .int .i64 t) (by kernel_rfl) (by omega) (by kernel_rfl) rfl
                refine ⟨#[.agg ({ s with tier := tg } : SegD).cells.toArray, .int .i64 t], ?_, (target_any _ t wx).mono ?_⟩
                · simp only [execOp, resolve, Deferred.ofValue, List.map_toArray, List.map_cons, List.map_nil, e0, e1, kn.rho.con, kn.rho.fn]
                  simp [go_sem]
                · rintro e w' ⟨rfl, hg⟩
                  exact ⟨_, rfl, (fun c h => by injection h with h; injection h with h; rw [← h, HTG.out]), only_trans kn.ext hg⟩
              · exact gd_gen (by kernel_rfl) (Want.some_ (g := 14) (v := false) rfl rfl (by kernel_rfl) (by omega) rfl rfl (by kernel_rfl)) rfl (fun D u w v h => by simpa [updB, upd] using h) (fun D u ρ w kn => by
                  have e0 := kn.own 12 (c := .pointer (some ⟨xb, 0, none⟩)) (by kernel_rfl) ea12
                  simp [execOp, kn.rho.con, e0, go_sem])
              · exact gd_gen (by kernel_rfl) (Want.some_ (g := 14) (v := false) rfl rfl (by kernel_rfl) (by omega) rfl rfl (by kernel_rfl)) rfl (fun D u w v h => by simpa [updB, upd] using h) (fun D u ρ w kn => by
                  have e0 := kn.con 18 85 (c := .pointer (some ⟨xb, 2, none⟩)) (by kernel_rfl) (by omega) (by kernel_rfl) rfl
                  have f0 := (show w.cell? ⟨xb, 2, none⟩ = some (.int .i64 tg) from (HXB.out.grown kn.ext (by simp)).cell 2)
                  simp [execOp, kn.rho.con, e0, f0, go_sem])
              · exact gd_gen (by kernel_rfl) (Want.some_ (g := 14) (v := false) rfl rfl (by kernel_rfl) (by omega) rfl rfl (by kernel_rfl)) rfl (fun D u w v h => by simpa [updB, upd] using h) (fun D u ρ w kn => by
                  have e0 := kn.con 17 84 (c := .int .i64 (tg)) (by kernel_rfl) (by omega) (by kernel_rfl) rfl
                  have e1 := kn.con 19 86 (c := .int .i64 (tg)) (by kernel_rfl) (by omega) (by kernel_rfl) rfl
                  simp [execOp, kn.rho.con, e0, e1, go_sem])
              · exact gd_gen (by kernel_rfl) (Want.none_ rfl) rfl (fun D u w v h => by simpa [updB, upd] using h) (fun D u ρ w kn => by
                  have e0 := kn.con 14 81 (c := .bool false) (by kernel_rfl) (by omega) (by kernel_rfl) rfl
                  have e1 := kn.con 20 87 (c := .bool false) (by kernel_rfl) (by omega) (by kernel_rfl) rfl
                  simp [execOp, kn.rho.con, e0, e1, go_sem])
            · intro D u w15 hJ hD
              obtain ⟨hcn, x1⟩ := hJ
              have e21 : u 21 = .bool false := hcn 21 _ rfl (hD 21 (by omega))
              have G15 := Lib.hid (only_trans G14.out x1)
              simp only [List.take_succ_cons, List.take_zero, List.drop_succ_cons, List.drop_zero, putAll]
              rw [e21]
              clear hcn x1 e21 hD
              go_simp
              go_wp2_with fail
              go_roundw
              case rel => exact ⟨i + 1, by go_num, by omega, G15.out⟩
              case measure => simp [intOf]; omega
          · have i1 : ¬ ((i : Int) < (n : Int)) := by omega
            go_wp2_with fail
            go_roundw
            case rel => exact ⟨k + 1, by go_num, by omega, Gi.out⟩
            case measure => simp [intOf]; omega
    · have i1 : ¬ ((k : Int) < 3) := by omega
      go_wp2_with fail
      go_ret
      exact ⟨rfl, only_trans G7.out G.out⟩
end Go.Proofs.Ytganfhmjklcchaa
