/- law31: CompactChoose: the walk of the law itself. For every input. -/
import Derived.Test.YtphglalphejppaaLaw31A
import Derived.Test.YtphglalphejppaaMSet
import Derived.Test.YtphglalphejppaaPChoose
import Derived.Test.YtphglalphejppaaMLevR
import Derived.Test.YtphglalphejppaaSameInts
import Derived.Test.YtphglalphejppaaGenC
import Derived.Deep.CutBlock
import Derived.Deep.DeepCutAuto
namespace Go.Proofs.Ytphglalphejppaa
open Go.RowKit
set_option linter.unusedVariables false
set_option linter.unusedSimpArgs false

set_option maxHeartbeats 8000000 in
set_option maxRecDepth 100000 in
theorem law_choose (A : Option Addr) (l0 : List Int) (d : Nat) (I : Option Addr) (ids : List Int) (ci : Nat) (w : World) (h : Rd (fun _ => True) w A (l0.map (.int .u8))) (hc : l0.length ≤ d) (hcm : d ≤ maxLen) (hx : ∀ x ∈ l0, 0 ≤ x ∧ x ≤ 255)
    (hI : Rd (fun _ => True) w I (ids.map (.int .i64))) (hic : ids.length ≤ ci) (him : ci ≤ maxLen) :
    Calls Try.prog 7 #[.slice A l0.length d, .slice I ids.length ci] w (TrueExt w) := by
  have HX := Lib.hid hx
  have HL := Lib.hid h
  have HI := Lib.hid (hI.mono (S' := (· < w.heap.size)) (fun b _ hb => hb))
  unfold maxLen at him
  clear hx h hI
  by_cases hids : 50 < ids.length
  · have i1 : (50 : Int) < (ids.length : Int) := by omega
    go_enter Try.func7, Try.ntmps7
    go_wp2_with (go_at_call 9; refine (awake_any _).mono ?_; rintro e w1 ⟨rfl, hg1⟩)
    go_ret
    exact ⟨rfl, hg1⟩
  · have i1 : ¬ ((50 : Int) < (ids.length : Int)) := by omega
    go_enter Try.func7, Try.ntmps7
    go_wp2_with (go_at_call 9; refine (awake_any _).mono ?_; rintro e w1 ⟨rfl, hg1⟩)
    refine (new_any A l0 d 200 _ (HL.out.grown hg1 (by simp)) hc hcm (by omega) HX.out).mono ?_
    rintro e w2 ⟨rfl, h2, hg2, hlt2⟩
    have G2 : Hid (w.grownBy w2 none) := Lib.hid (only_trans hg1 hg2)
    have hs1 := hg1.size
    have hs2 := hg2.size
    generalize w1.heap.size = g at *
    obtain ⟨l, hl⟩ : ∃ l, l = l0.take 200 := ⟨_, rfl⟩
    rw [← hl] at h2
    clear HL HX hg1 hg2 hl
    go_wp2_with fail
    refine (manifest_some g l _ w2 h2).mono ?_
    rintro e w3 ⟨A3, B, C, E, c, d2, f2, h2', num, jn, nid, ss0, ms, ts, xs, k3, rfl, -, -, -, -, -, -, hn3, hok, hrow, -, -, -, -, -, -, -, -, -, -, -, -, -, -, -, hc3, hg3⟩
    obtain ⟨base, hbase⟩ : ∃ b, b = w2.heap.size := ⟨_, rfl⟩
    obtain ⟨mb, hmb⟩ : ∃ b, b = w3.heap.size := ⟨_, rfl⟩
    obtain ⟨n, hn⟩ : ∃ n, n = ss0.length := ⟨_, rfl⟩
    have hgb : g < base := by omega
    have hs3 := hg3.size
    have hgm : g ≠ mb := by omega
    have hwg : w.heap.size ≤ g := hs1
    have hwb : w.heap.size ≤ base := by omega
    have hbm : base ≤ mb := by omega
    rw [← hn]
    obtain ⟨W4, hW4⟩ : ∃ W, W = w3.alloc (.cells #[.int .i64 num, .int .i64 nid, .int .i64 jn, .slice A3 n c, .slice B ms.length d2, .slice C ts.length f2, .slice E xs.length h2'] 52) := ⟨_, rfl⟩
    have RW0 : Hid (LRow w g l mb #[.int .i64 num, .int .i64 nid, .int .i64 jn, .slice A3 n c, .slice B ms.length d2, .slice C ts.length f2, .slice E xs.length h2'] base A3 n c (ss0.flatMap SegD.cells) W4) := Lib.hid (by rw [hW4]; exact ⟨by rw [hmb]; exact Blk.new w3 _ _, by rw [hn, hbase]; exact hrow.alloc _, ⟨k3, hc3.alloc _⟩, only_alloc (only_fresh G2.out hg3 hwg) _⟩)
    have HW4 := Lib.hid hW4.symm
    clear hW4
    rw [← hn] at hn3
    have HN := Lib.hid hn
    have HMB := Lib.hid hmb.symm
    have HOK := Lib.hid hok
    generalize ms.length = nb at *
    generalize ts.length = nc at *
    generalize xs.length = ne at *
    clear h2 hrow hc3 hg3 hmb hbase hok hn
    go_upto_block 0 with fail
    rw [HW4.out, HMB.out]
    go_cut [7] (fun vi wx => ∃ ss : List SegD, ss.length = n ∧ SegsOk ss nid ∧ LRow w g l mb #[.int .i64 num, .int .i64 nid, .int .i64 jn, .slice A3 n c, .slice B nb d2, .slice C nc f2, .slice E ne h2'] base A3 n c (ss.flatMap SegD.cells) wx)
    case first =>
      go_wp2_with fail
      go_loopw [7] (fun vi wx => ∃ (k : Nat) (ss : List SegD), vi = .int .i64 k ∧ k ≤ n ∧ ss.length = n ∧ SegsOk ss nid ∧ LRow w g l mb #[.int .i64 num, .int .i64 nid, .int .i64 jn, .slice A3 n c, .slice B nb d2, .slice C nc f2, .slice E ne h2'] base A3 n c (ss.flatMap SegD.cells) wx) (fun vi _ => n - (intOf vi).toNat)
      case atStart => exact ⟨0, ss0, rfl, Nat.zero_le _, HN.out.symm, HOK.out, RW0.out⟩
      case round =>
        obtain ⟨k, ss, rfl, hk, hsl, hso, hR⟩ := hrel
        have HSL := Lib.hid hsl
        have HSO := Lib.hid hso
        have R := Lib.hid hR
        have c3 := hR.c3
        clear hsl hso hR
        by_cases hkn : k < n
        · obtain ⟨gr, rfl, hgr1, hgr2, hgr3⟩ := R.out.row (by omega)
          obtain ⟨kc, hkc⟩ := R.out.2.2.1
          have i2 : (k : Int) < (n : Int) := by omega
          go_wp2_with fail
          refine (next_some g l kc 2 _ hkc (by omega) (by omega)).mono ?_
          rintro e wa ⟨v, k', rfl, hv, hca, hga⟩
          have RA := Lib.hid (R.out.next hca hga hgb hgm hwg)
          clear hkc hca hga c3
          by_cases hv1 : v = 1
          · subst hv1
            obtain ⟨s, hs⟩ : ∃ s, ss[k]? = some s := ⟨_, List.getElem?_eq_getElem (by rw [HSL.out]; exact hkn)⟩
            have HS := Lib.hid hs
            have HC1 : Hid ((ss.flatMap SegD.cells)[k * 7 + 1]? = some (.int .i64 s.level)) := Lib.hid (by
              obtain ⟨q1, q2⟩ := List.getElem?_eq_some_iff.1 hs
              rw [flat_at SegD.cells 7 SegD.cells_len ss k 1 q1 (by omega), q2]; rfl)
            have hkn7 : k * 7 + 2 < n * 7 := by omega
            clear hs
            go_upto_region 8 with fail
            obtain ⟨W0, rfl⟩ : ∃ W0 : World, W0 = wa := ⟨_, rfl⟩
            refine wp_region_gen 11 (JC [some (.pointer (some ⟨mb, 3, none⟩)), some (.slice (some ⟨gr, 0, none⟩) (n) (c)), some (.int .i64 ((k : Int))), some (.pointer (some ⟨mb, 3, none⟩)), some (.slice (some ⟨gr, 0, none⟩) (n) (c)), some (.int .i64 ((k : Int))), some (.pointer (some ⟨g, 0, none⟩)), none, some (.pointer (some ⟨gr, k * 7, none⟩)), some (.pointer (some ⟨gr, k * 7 + 1, none⟩)), none] (fun D u wx => ∃ v : Int, (D 7 = true → u 7 = .int .i64 v) ∧ (0 ≤ v ∧ v ≤ 1) ∧ (D 10 = true → D 7 = true) ∧ LRow w g l mb #[.int .i64 num, .int .i64 nid, .int .i64 jn, .slice (some ⟨gr, 0, none⟩) n c, .slice B nb d2, .slice C nc f2, .slice E ne h2'] base (some ⟨gr, 0, none⟩) n c (if D 10 = true then (ss.flatMap SegD.cells).set (k * 7 + 1) (.int .i64 v) else ss.flatMap SegD.cells) wx)) (by kernel_rfl) (by kernel_rfl) ?_ ?_ ?_
            · intro u
              exact ⟨(fun j c _ h => by cases h), ⟨0, (fun h => by cases h), by omega, (fun h => by cases h), by simpa using (RA.out).drew⟩⟩
            · intro AA hA
              have hasz : AA.tmps.size = 71 := by rw [hA]; kernel_rfl
              have ea5 : AA.eval (.tmp 5) = .pointer (some ⟨g, 0, none⟩) := by rw [hA]; kernel_rfl
              have ea6 : AA.eval (.tmp 6) = .pointer (some ⟨mb, 0, none⟩) := by rw [hA]; kernel_rfl
              have ea7 : AA.eval (.tmp 7) = .int .i64 ((k : Int)) := by rw [hA]; kernel_rfl
              clear hA
              simp only [List.take_succ_cons, List.take_zero]
              refine .cons ?_ (.cons ?_ (.cons ?_ (.cons ?_ (.cons ?_ (.cons ?_ (.cons ?_ (.cons ?_ (.cons ?_ (.cons ?_ (.cons ?_ (.nil)))))))))))
              · exact gd_gen (by kernel_rfl) (Want.none_ rfl) rfl (fun D u w v h => by simpa [updB, upd] using h) (fun D u ρ w kn => by
                  have e0 := kn.own 6 (c := .pointer (some ⟨mb, 0, none⟩)) (by kernel_rfl) ea6
                  simp [execOp, kn.rho.con, e0, go_sem])
              · exact gd_gen (by kernel_rfl) (Want.none_ rfl) rfl (fun D u w v h => by simpa [updB, upd] using h) (fun D u ρ w kn => by
                  have e0 := kn.con 0 35 (c := .pointer (some ⟨mb, 3, none⟩)) (by kernel_rfl) (by omega) (by kernel_rfl) rfl
                  have f0 := (show w.cell? ⟨mb, 3, none⟩ = some (.slice (some ⟨gr, 0, none⟩) n c) from (by obtain ⟨v, x1, x2, x3, x4⟩ := kn.ext; exact x4.c3))
                  simp [execOp, kn.rho.con, e0, f0, go_sem])
              · exact gd_gen (by kernel_rfl) (Want.none_ rfl) rfl (fun D u w v h => by simpa [updB, upd] using h) (fun D u ρ w kn => by
                  have e0 := kn.own 7 (c := .int .i64 ((k : Int))) (by kernel_rfl) ea7
                  simp [execOp, kn.rho.con, e0, go_sem])
              · exact gd_gen (by kernel_rfl) (Want.none_ rfl) rfl (fun D u w v h => by simpa [updB, upd] using h) (fun D u ρ w kn => by
                  have e0 := kn.own 6 (c := .pointer (some ⟨mb, 0, none⟩)) (by kernel_rfl) ea6
                  simp [execOp, kn.rho.con, e0, go_sem])
              · exact gd_gen (by kernel_rfl) (Want.none_ rfl) rfl (fun D u w v h => by simpa [updB, upd] using h) (fun D u ρ w kn => by
                  have e0 := kn.con 3 38 (c := .pointer (some ⟨mb, 3, none⟩)) (by kernel_rfl) (by omega) (by kernel_rfl) rfl
                  have f0 := (show w.cell? ⟨mb, 3, none⟩ = some (.slice (some ⟨gr, 0, none⟩) n c) from (by obtain ⟨v, x1, x2, x3, x4⟩ := kn.ext; exact x4.c3))
                  simp [execOp, kn.rho.con, e0, f0, go_sem])
              · exact gd_gen (by kernel_rfl) (Want.none_ rfl) rfl (fun D u w v h => by simpa [updB, upd] using h) (fun D u ρ w kn => by
                  have e0 := kn.own 7 (c := .int .i64 ((k : Int))) (by kernel_rfl) ea7
                  simp [execOp, kn.rho.con, e0, go_sem])
              · exact gd_gen (by kernel_rfl) (Want.none_ rfl) rfl (fun D u w v h => by simpa [updB, upd] using h) (fun D u ρ w kn => by
                  have e0 := kn.own 5 (c := .pointer (some ⟨g, 0, none⟩)) (by kernel_rfl) ea5
                  simp [execOp, kn.rho.con, e0, go_sem])
              · refine gd_call (by kernel_rfl) (Want.none_ rfl) 15 (fun D u ρ wx kn hD => ?_)
                have e0 := kn.con 6 41 (c := .pointer (some ⟨g, 0, none⟩)) (by kernel_rfl) (by omega) (by kernel_rfl) rfl
                obtain ⟨v, x1, x2, x3, x4⟩ := kn.ext
                have h10 : D 10 = false := by cases h : D 10 with | false => rfl | true => have := x3 h; rw [hD] at this; cases this
                rw [h10, if_neg (by simp)] at x4
                obtain ⟨kc, hkc⟩ := x4.2.2.1
                refine ⟨#[.pointer (some ⟨g, 0, none⟩), .int .i64 2], ?_, (next_some g l kc 2 wx hkc (by omega) (by omega)).mono ?_⟩
                · simp only [execOp, resolve, Deferred.ofValue, List.map_toArray, List.map_cons, List.map_nil, e0, kn.rho.con, kn.rho.fn]
                  simp [go_sem]
                · rintro e w' ⟨v', k', rfl, hv', hc', hg'⟩
                  exact ⟨_, rfl, (fun c h => by cases h), v', (fun _ => upd_at _ _ _), by omega, (fun h => by rw [updB_ne D (show (10 : Nat) ≠ 7 by omega), h10] at h; cases h), by rw [updB_ne D (show (10 : Nat) ≠ 7 by omega), h10, if_neg (by simp)]; exact x4.next hc' hg' hgb hgm hwg⟩
              · exact gd_gen (by kernel_rfl) (Want.none_ rfl) rfl (fun D u w v h => by simpa [updB, upd] using h) (fun D u ρ w kn => by
                  have e0 := kn.con 1 36 (c := .slice (some ⟨gr, 0, none⟩) (n) (c)) (by kernel_rfl) (by omega) (by kernel_rfl) rfl
                  have e1 := kn.con 2 37 (c := .int .i64 ((k : Int))) (by kernel_rfl) (by omega) (by kernel_rfl) rfl
                  simp [execOp, kn.rho.con, e0, e1, go_sem, hkn])
              · exact gd_gen (by kernel_rfl) (Want.none_ rfl) rfl (fun D u w v h => by simpa [updB, upd] using h) (fun D u ρ w kn => by
                  have e0 := kn.con 8 43 (c := .pointer (some ⟨gr, k * 7, none⟩)) (by kernel_rfl) (by omega) (by kernel_rfl) rfl
                  simp [execOp, kn.rho.con, e0, go_sem])
              · refine gd_skip (by kernel_rfl) (Want.none_ rfl) rfl (fun D u ρ wx kn hD => ?_)
                have e0 := kn.con 9 44 (c := .pointer (some ⟨gr, k * 7 + 1, none⟩)) (by kernel_rfl) (by omega) (by kernel_rfl) rfl
                have e1 := kn.slot 7 42 (by kernel_rfl) (by omega)
                have d7 := kn.dep 7 (by kernel_rfl)
                obtain ⟨v, x1, x2, x3, x4⟩ := kn.ext
                rw [hD, if_neg (by simp)] at x4
                rw [x1 d7] at e1
                obtain ⟨z1, z2⟩ := x4.cell (i := k * 7 + 1) (v := .int .i64 s.level) HC1.out
                refine ⟨wx.setCell ⟨gr, k * 7 + 1, none⟩ (.int .i64 v), by simp [execOp, e0, e1, z1, z2, go_sem], v, (fun h => by rw [upd_ne u _ (show (7 : Nat) ≠ 10 by omega)]; exact x1 d7), x2, (fun _ => by rw [updB_ne D (show (7 : Nat) ≠ 10 by omega)]; exact d7), by rw [updB_at, if_pos rfl]; exact x4.put (by omega) hgb hwb _⟩
            · intro D u w9 hJ hD
              obtain ⟨hcn, v, x1, x2, -, x4⟩ := hJ
              rw [hD 10 (by omega), if_pos rfl, seg_put1 HS.out] at x4
              have e4 : u 4 = .slice (some ⟨gr, 0, none⟩) n c := hcn 4 _ rfl (hD 4 (by omega))
              have e5 : u 5 = .int .i64 (k : Int) := hcn 5 _ rfl (hD 5 (by omega))
              have hs1 := set_at (y := s.at_ v s.tier) HS.out
              have hC2 : ((ss.set k (s.at_ v s.tier)).flatMap SegD.cells)[k * 7 + 2]? = some (.int .i64 s.tier) := by
                obtain ⟨q1, q2⟩ := List.getElem?_eq_some_iff.1 hs1
                rw [flat_at SegD.cells 7 SegD.cells_len _ k 2 q1 (by omega), q2]; rfl
              obtain ⟨z1, z2⟩ := x4.cell hC2
              have R9 := x4.put (i := k * 7 + 2) (by omega) hgb hwb (.int .i64 0)
              rw [seg_put2 hs1 0, List.set_set] at R9
              have R10 := Lib.hid R9
              have SO := Lib.hid (HSO.out.set_ HS.out (v := v) (t := 0) (by omega) (by omega))
              simp only [List.take_succ_cons, List.take_zero, List.drop_succ_cons, List.drop_zero, putAll]
              rw [e4, e5]
              clear hcn x1 x4 e4 e5 hD hs1 hC2 R9
              go_wp2_with fail
              go_roundw
              case rel => exact ⟨k + 1, ss.set k (s.at_ v 0), by go_num, by omega, by rw [List.length_set]; exact HSL.out, SO.out, R10.out⟩
              case measure => simp [intOf]; omega
          · obtain rfl : v = 0 := by omega
            go_wp2_with fail
            go_meet
            exact ⟨ss, HSL.out, HSO.out, RA.out⟩
        · have i2 : ¬ ((k : Int) < (n : Int)) := by omega
          go_wp2_with fail
          go_meet
          exact ⟨ss, HSL.out, HSO.out, R.out⟩
    case rest =>
      obtain ⟨ss, hsl, hso, hR⟩ := hcut
      have R := Lib.hid hR
      have SO := Lib.hid hso
      obtain ⟨A3', c3', hve, hnc, -, -, hrd⟩ := Rd.of_own hR.2.1 (by decide)
      injection hve with hv1 hv2 hv3
      subst hv1
      have hb : ∀ s ∈ ss, 0 ≤ s.level ∧ s.level ≤ 1000 ∧ 0 ≤ s.tier ∧ s.tier ≤ 1000 := fun s hs => by
        have := (hso.2 s hs).1
        unfold SegOk at this
        omega
      have RD := Lib.hid hrd
      have HBD := Lib.hid hb
      have B5 := Lib.hid hR.1
      have GW := Lib.hid hR.2.2.2
      subst hsl
      have KC := Lib.hid (pchoose_any num nid jn A3 ss c B nb d2 C nc f2 E ne h2' wc hrd (by omega) hb (fun k => ofK_asc hso k))
      have b0 := hR.1.cell 0
      have b1 := hR.1.cell 1
      have b2 := hR.1.cell 2
      have b3 := hR.1.cell 3
      have b4 := hR.1.cell 4
      have b5 := hR.1.cell 5
      have b6 := hR.1.cell 6
      simp at b0 b1 b2 b3 b4 b5 b6
      clear hso hR hrd hb hv2 hv3 hnc RW0 HOK HW4
      go_wp2_with fail
      refine KC.out.mono ?_
      rintro e W5 ⟨A5, c5, acc, hbo, rfl, hc5, hm5, hr5, hg5⟩
      clear b0 b1 b2 b3 b4 b5 b6
      obtain ⟨L, hL⟩ : ∃ L, L = chL (ofK ss) acc := ⟨_, rfl⟩
      rw [← hL] at hc5 hr5 ⊢
      have hLl : L.length ≤ 4 := by
        rw [hL]
        cases acc with
        | none => simp [chL]
        | some a => unfold chL; rw [List.length_take]; omega
      have HB5 := Lib.hid (B5.out.grown hg5 (by simp))
      have RD5 := Lib.hid (RD.out.grown hg5 (by simp))
      have R5 := Lib.hid (hr5.mono (S' := fun _ => True) (fun _ _ _ => trivial))
      have RI5 := Lib.hid ((HI.out.grown GW.out (by simp)).grown hg5 (by simp))
      have G5 := Lib.hid (only_trans GW.out hg5)
      have KRC : Hid (∀ W, W5.grownBy W none → Calls Try.prog 23 #[.agg #[.int .i64 num, .int .i64 nid, .int .i64 jn, .slice A3 ss.length c, .slice B nb d2, .slice C nc f2, .slice E ne h2']] W (fun e w' => ∃ A2 c2, e = .returned (.slice A2 L.length c2) ∧ Rd (fun _ => True) w' A2 (L.map (.int .i64)) ∧ W.grownBy w' none)) := Lib.hid (fun W hW => (rchoose_any num nid jn A3 ss c B nb d2 C nc f2 E ne h2' W (RD5.out.grown hW (by simp)) (by omega) HBD.out).mono fun e w' he => by
        obtain ⟨A2, c2, acc2, k1, k2, k3, k4, k5, k6⟩ := he
        have : acc2 = acc := k1.one hbo
        subst this
        rw [← hL] at k2 k3 k5
        exact ⟨A2, c2, k2, k5.mono (fun _ _ _ => trivial), k6⟩)
      have KSI : Hid (∀ W A2 c2, W5.grownBy W none → Rd (fun _ => True) W A2 (L.map (.int .i64)) → Calls Try.prog 22 #[.slice A5 L.length c5, .slice A2 L.length c2] W (Quiet (.bool true) W)) := Lib.hid (fun W A2 c2 hW h2 => sameints_any A5 A2 L L c5 c2 W (R5.out.grown hW (by simp)) h2 (by omega) (by omega) true (by simp))
      have hbl : ∀ s ∈ ss, 0 ≤ s.level ∧ s.level ≤ 1000 := fun s hs => by have := HBD.out s hs; omega
      have KPI : Hid (∀ W, W5.grownBy W none → Calls Try.prog 24 #[.agg #[.int .i64 num, .int .i64 nid, .int .i64 jn, .slice A3 ss.length c, .slice B nb d2, .slice C nc f2, .slice E ne h2'], .slice I ids.length ci] W (LevPost (lvl ss ids) W)) := Lib.hid (fun W hW => level_any num nid jn A3 ss c B nb d2 C nc f2 E ne h2' I ids ci W (RD5.out.grown hW (by simp)) (RI5.out.grown hW (by simp)) (by omega) (by omega) hbl)
      have KRI : Hid (∀ W, W5.grownBy W none → Calls Try.prog 25 #[.agg #[.int .i64 num, .int .i64 nid, .int .i64 jn, .slice A3 ss.length c, .slice B nb d2, .slice C nc f2, .slice E ne h2'], .slice I ids.length ci] W (LevPost (lvl ss ids) W)) := Lib.hid (fun W hW => rlevel_any num nid jn A3 ss c B nb d2 C nc f2 E ne h2' I ids ci W (RD5.out.grown hW (by simp)) (RI5.out.grown hW (by simp)) (by omega) (by omega) hbl)
      have KPG : Hid (∀ W, W5.grownBy W none → Calls Try.prog 24 #[.agg #[.int .i64 num, .int .i64 nid, .int .i64 jn, .slice A3 ss.length c, .slice B nb d2, .slice C nc f2, .slice E ne h2'], .slice A5 L.length c5] W (LevPost (lvl ss L) W)) := Lib.hid (fun W hW => level_any num nid jn A3 ss c B nb d2 C nc f2 E ne h2' A5 L c5 W (RD5.out.grown hW (by simp)) (R5.out.grown hW (by simp)) (by omega) (by omega) hbl)
      have KRG : Hid (∀ W, W5.grownBy W none → Calls Try.prog 25 #[.agg #[.int .i64 num, .int .i64 nid, .int .i64 jn, .slice A3 ss.length c, .slice B nb d2, .slice C nc f2, .slice E ne h2'], .slice A5 L.length c5] W (LevPost (lvl ss L) W)) := Lib.hid (fun W hW => rlevel_any num nid jn A3 ss c B nb d2 C nc f2 E ne h2' A5 L c5 W (RD5.out.grown hW (by simp)) (R5.out.grown hW (by simp)) (by omega) (by omega) hbl)
      clear hc5 hr5 hg5 hbl hbo hL
      obtain ⟨n, hn⟩ : ∃ n, n = ss.length := ⟨_, rfl⟩
      rw [← hn] at KRC KPI KRI KPG KRG HB5 ⊢
      clear hn
      go_upto_region 10 with fail
      refine wp_region_gen 22 (JC [some (.slice A5 L.length c5), some (.agg #[.int .i64 num, .int .i64 nid, .int .i64 jn, .slice A3 n c, .slice B nb d2, .slice C nc f2, .slice E ne h2']), none, some (.bool true), some (.bool true), some (.agg #[.int .i64 num, .int .i64 nid, .int .i64 jn, .slice A3 n c, .slice B nb d2, .slice C nc f2, .slice E ne h2']), some (.slice I ids.length ci), some (.int .i64 (lvl ss ids)), some (.agg #[.int .i64 num, .int .i64 nid, .int .i64 jn, .slice A3 n c, .slice B nb d2, .slice C nc f2, .slice E ne h2']), some (.slice I ids.length ci), some (.int .i64 (lvl ss ids)), some (.bool true), some (.bool true), some (.bool true), some (.agg #[.int .i64 num, .int .i64 nid, .int .i64 jn, .slice A3 n c, .slice B nb d2, .slice C nc f2, .slice E ne h2']), some (.slice A5 L.length c5), some (.int .i64 (lvl ss L)), some (.agg #[.int .i64 num, .int .i64 nid, .int .i64 jn, .slice A3 n c, .slice B nb d2, .slice C nc f2, .slice E ne h2']), some (.slice A5 L.length c5), some (.int .i64 (lvl ss L)), some (.bool true), some (.bool true)] (fun D u wx => W5.grownBy wx none ∧ (D 2 = true → ∃ A2 c2, u 2 = .slice A2 L.length c2 ∧ Rd (fun _ => True) wx A2 (L.map (.int .i64))))) (by kernel_rfl) (by kernel_rfl) ?_ ?_ ?_
      · intro u
        exact ⟨(fun j c _ h => by cases h), ⟨only_drew (only_refl _ _), fun h => by cases h⟩⟩
      · intro AA hA
        have hasz : AA.tmps.size = 71 := by rw [hA]; kernel_rfl
        have ea1 : AA.eval (.tmp 1) = .slice I ids.length ci := by rw [hA]; kernel_rfl
        have ea6 : AA.eval (.tmp 6) = .pointer (some ⟨mb, 0, none⟩) := by rw [hA]; kernel_rfl
        have ea8 : AA.eval (.tmp 8) = .slice A5 L.length c5 := by rw [hA]; kernel_rfl
        clear hA
        simp only [List.take_succ_cons, List.take_zero]
        refine .cons ?_ (.cons ?_ (.cons ?_ (.cons ?_ (.cons ?_ (.cons ?_ (.cons ?_ (.cons ?_ (.cons ?_ (.cons ?_ (.cons ?_ (.cons ?_ (.cons ?_ (.cons ?_ (.cons ?_ (.cons ?_ (.cons ?_ (.cons ?_ (.cons ?_ (.cons ?_ (.cons ?_ (.cons ?_ (.nil))))))))))))))))))))))
        · exact gd_gen (by kernel_rfl) (Want.none_ rfl) rfl (fun D u w v h => by simpa [updB, upd] using h) (fun D u ρ w kn => by
            have e0 := kn.own 8 (c := .slice A5 L.length c5) (by kernel_rfl) ea8
            simp [execOp, kn.rho.con, e0, go_sem])
        · exact gd_gen (by kernel_rfl) (Want.none_ rfl) rfl (fun D u w v h => by simpa [updB, upd] using h) (fun D u ρ w kn => by
            have e0 := kn.own 6 (c := .pointer (some ⟨mb, 0, none⟩)) (by kernel_rfl) ea6
            exact run_load ρ w rfl e0 (load_mani w mb (HB5.out.grown kn.ext.1 (by simp))))
        · refine gd_call (by kernel_rfl) (Want.none_ rfl) 23 (fun D u ρ wx kn hD => ?_)
          have e0 := kn.con 1 50 (c := .agg #[.int .i64 num, .int .i64 nid, .int .i64 jn, .slice A3 n c, .slice B nb d2, .slice C nc f2, .slice E ne h2']) (by kernel_rfl) (by omega) (by kernel_rfl) rfl
          obtain ⟨x1, x2⟩ := kn.ext
          refine ⟨#[.agg #[.int .i64 num, .int .i64 nid, .int .i64 jn, .slice A3 n c, .slice B nb d2, .slice C nc f2, .slice E ne h2']], ?_, (KRC.out wx x1).mono ?_⟩
          · simp only [execOp, resolve, Deferred.ofValue, List.map_toArray, List.map_cons, List.map_nil, e0, kn.rho.con, kn.rho.fn]
            simp [go_sem]
          · rintro e w' ⟨A2, c2, rfl, hr2, hg⟩
            exact ⟨_, rfl, (fun c h => by cases h), only_trans x1 hg, fun _ => ⟨A2, c2, upd_at _ _ _, hr2⟩⟩
        · refine gd_call (by kernel_rfl) (Want.none_ rfl) 22 (fun D u ρ wx kn hD => ?_)
          have e0 := kn.con 0 49 (c := .slice A5 L.length c5) (by kernel_rfl) (by omega) (by kernel_rfl) rfl
          have e1 := kn.slot 2 51 (by kernel_rfl) (by omega)
          have d2' := kn.dep 2 (by kernel_rfl)
          obtain ⟨x1, x2⟩ := kn.ext
          obtain ⟨A2, c2, q1, q2⟩ := x2 d2'
          rw [q1] at e1
          refine ⟨#[.slice A5 L.length c5, .slice A2 L.length c2], ?_, (KSI.out wx A2 c2 x1 q2).mono ?_⟩
          · simp only [execOp, resolve, Deferred.ofValue, List.map_toArray, List.map_cons, List.map_nil, e0, e1, kn.rho.con, kn.rho.fn]
            simp [go_sem]
          · rintro e w' ⟨rfl, n', rfl⟩
            exact ⟨_, rfl, (fun c h => by injection h with h; injection h), only_drewN x1 n', fun h => ⟨A2, c2, by rw [upd_ne u _ (show (2 : Nat) ≠ 3 by omega)]; exact q1, q2.drewN n'⟩⟩
        · exact gd_gen (by kernel_rfl) (Want.none_ rfl) rfl (fun D u w v h => by simpa [updB, upd] using h) (fun D u ρ w kn => by
            have e0 := kn.con 3 52 (c := .bool true) (by kernel_rfl) (by omega) (by kernel_rfl) rfl
            simp [execOp, kn.rho.con, e0, go_sem])
        · exact gd_gen (by kernel_rfl) (Want.some_ (g := 4) (v := true) rfl rfl (by kernel_rfl) (by omega) rfl rfl (by kernel_rfl)) rfl (fun D u w v h => by simpa [updB, upd] using h) (fun D u ρ w kn => by
            have e0 := kn.own 6 (c := .pointer (some ⟨mb, 0, none⟩)) (by kernel_rfl) ea6
            exact run_load ρ w rfl e0 (load_mani w mb (HB5.out.grown kn.ext.1 (by simp))))
        · exact gd_gen (by kernel_rfl) (Want.some_ (g := 4) (v := true) rfl rfl (by kernel_rfl) (by omega) rfl rfl (by kernel_rfl)) rfl (fun D u w v h => by simpa [updB, upd] using h) (fun D u ρ w kn => by
            have e0 := kn.own 1 (c := .slice I ids.length ci) (by kernel_rfl) ea1
            simp [execOp, kn.rho.con, e0, go_sem])
        · refine gd_call (by kernel_rfl) (Want.some_ (g := 4) (v := true) rfl rfl (by kernel_rfl) (by omega) rfl rfl (by kernel_rfl)) 24 (fun D u ρ wx kn hD => ?_)
          have e0 := kn.con 5 54 (c := .agg #[.int .i64 num, .int .i64 nid, .int .i64 jn, .slice A3 n c, .slice B nb d2, .slice C nc f2, .slice E ne h2']) (by kernel_rfl) (by omega) (by kernel_rfl) rfl
          have e1 := kn.con 6 55 (c := .slice I ids.length ci) (by kernel_rfl) (by omega) (by kernel_rfl) rfl
          obtain ⟨x1, x2⟩ := kn.ext
          refine ⟨#[.agg #[.int .i64 num, .int .i64 nid, .int .i64 jn, .slice A3 n c, .slice B nb d2, .slice C nc f2, .slice E ne h2'], .slice I ids.length ci], ?_, (KPI.out wx x1).mono ?_⟩
          · simp only [execOp, resolve, Deferred.ofValue, List.map_toArray, List.map_cons, List.map_nil, e0, e1, kn.rho.con, kn.rho.fn]
            simp [go_sem]
          · rintro e w' ⟨rfl, hg⟩
            exact ⟨_, rfl, (fun c h => by injection h with h; injection h), only_trans x1 hg, (fun h => by rw [updB_ne D (show (2 : Nat) ≠ 7 by omega)] at h; rw [upd_ne u _ (show (2 : Nat) ≠ 7 by omega)]; obtain ⟨A2, c2, q1, q2⟩ := x2 h; exact ⟨A2, c2, q1, q2.grown hg (by simp)⟩)⟩
        · exact gd_gen (by kernel_rfl) (Want.some_ (g := 4) (v := true) rfl rfl (by kernel_rfl) (by omega) rfl rfl (by kernel_rfl)) rfl (fun D u w v h => by simpa [updB, upd] using h) (fun D u ρ w kn => by
            have e0 := kn.own 6 (c := .pointer (some ⟨mb, 0, none⟩)) (by kernel_rfl) ea6
            exact run_load ρ w rfl e0 (load_mani w mb (HB5.out.grown kn.ext.1 (by simp))))
        · exact gd_gen (by kernel_rfl) (Want.some_ (g := 4) (v := true) rfl rfl (by kernel_rfl) (by omega) rfl rfl (by kernel_rfl)) rfl (fun D u w v h => by simpa [updB, upd] using h) (fun D u ρ w kn => by
            have e0 := kn.own 1 (c := .slice I ids.length ci) (by kernel_rfl) ea1
            simp [execOp, kn.rho.con, e0, go_sem])
        · refine gd_call (by kernel_rfl) (Want.some_ (g := 4) (v := true) rfl rfl (by kernel_rfl) (by omega) rfl rfl (by kernel_rfl)) 25 (fun D u ρ wx kn hD => ?_)
          have e0 := kn.con 8 57 (c := .agg #[.int .i64 num, .int .i64 nid, .int .i64 jn, .slice A3 n c, .slice B nb d2, .slice C nc f2, .slice E ne h2']) (by kernel_rfl) (by omega) (by kernel_rfl) rfl
          have e1 := kn.con 9 58 (c := .slice I ids.length ci) (by kernel_rfl) (by omega) (by kernel_rfl) rfl
          obtain ⟨x1, x2⟩ := kn.ext
          refine ⟨#[.agg #[.int .i64 num, .int .i64 nid, .int .i64 jn, .slice A3 n c, .slice B nb d2, .slice C nc f2, .slice E ne h2'], .slice I ids.length ci], ?_, (KRI.out wx x1).mono ?_⟩
          · simp only [execOp, resolve, Deferred.ofValue, List.map_toArray, List.map_cons, List.map_nil, e0, e1, kn.rho.con, kn.rho.fn]
            simp [go_sem]
          · rintro e w' ⟨rfl, hg⟩
            exact ⟨_, rfl, (fun c h => by injection h with h; injection h), only_trans x1 hg, (fun h => by rw [updB_ne D (show (2 : Nat) ≠ 10 by omega)] at h; rw [upd_ne u _ (show (2 : Nat) ≠ 10 by omega)]; obtain ⟨A2, c2, q1, q2⟩ := x2 h; exact ⟨A2, c2, q1, q2.grown hg (by simp)⟩)⟩
        · exact gd_gen (by kernel_rfl) (Want.some_ (g := 4) (v := true) rfl rfl (by kernel_rfl) (by omega) rfl rfl (by kernel_rfl)) rfl (fun D u w v h => by simpa [updB, upd] using h) (fun D u ρ w kn => by
            have e0 := kn.con 7 56 (c := .int .i64 (lvl ss ids)) (by kernel_rfl) (by omega) (by kernel_rfl) rfl
            have e1 := kn.con 10 59 (c := .int .i64 (lvl ss ids)) (by kernel_rfl) (by omega) (by kernel_rfl) rfl
            simp [execOp, kn.rho.con, e0, e1, go_sem])
        · exact gd_gen (by kernel_rfl) (Want.none_ rfl) rfl (fun D u w v h => by simpa [updB, upd] using h) (fun D u ρ w kn => by
            have e0 := kn.con 4 53 (c := .bool true) (by kernel_rfl) (by omega) (by kernel_rfl) rfl
            have e1 := kn.con 11 60 (c := .bool true) (by kernel_rfl) (by omega) (by kernel_rfl) rfl
            simp [execOp, kn.rho.con, e0, e1, go_sem])
        · exact gd_gen (by kernel_rfl) (Want.none_ rfl) rfl (fun D u w v h => by simpa [updB, upd] using h) (fun D u ρ w kn => by
            have e0 := kn.con 12 61 (c := .bool true) (by kernel_rfl) (by omega) (by kernel_rfl) rfl
            simp [execOp, kn.rho.con, e0, go_sem])
        · exact gd_gen (by kernel_rfl) (Want.some_ (g := 13) (v := true) rfl rfl (by kernel_rfl) (by omega) rfl rfl (by kernel_rfl)) rfl (fun D u w v h => by simpa [updB, upd] using h) (fun D u ρ w kn => by
            have e0 := kn.own 6 (c := .pointer (some ⟨mb, 0, none⟩)) (by kernel_rfl) ea6
            exact run_load ρ w rfl e0 (load_mani w mb (HB5.out.grown kn.ext.1 (by simp))))
        · exact gd_gen (by kernel_rfl) (Want.some_ (g := 13) (v := true) rfl rfl (by kernel_rfl) (by omega) rfl rfl (by kernel_rfl)) rfl (fun D u w v h => by simpa [updB, upd] using h) (fun D u ρ w kn => by
            have e0 := kn.own 8 (c := .slice A5 L.length c5) (by kernel_rfl) ea8
            simp [execOp, kn.rho.con, e0, go_sem])
        · refine gd_call (by kernel_rfl) (Want.some_ (g := 13) (v := true) rfl rfl (by kernel_rfl) (by omega) rfl rfl (by kernel_rfl)) 24 (fun D u ρ wx kn hD => ?_)
          have e0 := kn.con 14 63 (c := .agg #[.int .i64 num, .int .i64 nid, .int .i64 jn, .slice A3 n c, .slice B nb d2, .slice C nc f2, .slice E ne h2']) (by kernel_rfl) (by omega) (by kernel_rfl) rfl
          have e1 := kn.con 15 64 (c := .slice A5 L.length c5) (by kernel_rfl) (by omega) (by kernel_rfl) rfl
          obtain ⟨x1, x2⟩ := kn.ext
          refine ⟨#[.agg #[.int .i64 num, .int .i64 nid, .int .i64 jn, .slice A3 n c, .slice B nb d2, .slice C nc f2, .slice E ne h2'], .slice A5 L.length c5], ?_, (KPG.out wx x1).mono ?_⟩
          · simp only [execOp, resolve, Deferred.ofValue, List.map_toArray, List.map_cons, List.map_nil, e0, e1, kn.rho.con, kn.rho.fn]
            simp [go_sem]
          · rintro e w' ⟨rfl, hg⟩
            exact ⟨_, rfl, (fun c h => by injection h with h; injection h), only_trans x1 hg, (fun h => by rw [updB_ne D (show (2 : Nat) ≠ 16 by omega)] at h; rw [upd_ne u _ (show (2 : Nat) ≠ 16 by omega)]; obtain ⟨A2, c2, q1, q2⟩ := x2 h; exact ⟨A2, c2, q1, q2.grown hg (by simp)⟩)⟩
        · exact gd_gen (by kernel_rfl) (Want.some_ (g := 13) (v := true) rfl rfl (by kernel_rfl) (by omega) rfl rfl (by kernel_rfl)) rfl (fun D u w v h => by simpa [updB, upd] using h) (fun D u ρ w kn => by
            have e0 := kn.own 6 (c := .pointer (some ⟨mb, 0, none⟩)) (by kernel_rfl) ea6
            exact run_load ρ w rfl e0 (load_mani w mb (HB5.out.grown kn.ext.1 (by simp))))
        · exact gd_gen (by kernel_rfl) (Want.some_ (g := 13) (v := true) rfl rfl (by kernel_rfl) (by omega) rfl rfl (by kernel_rfl)) rfl (fun D u w v h => by simpa [updB, upd] using h) (fun D u ρ w kn => by
            have e0 := kn.own 8 (c := .slice A5 L.length c5) (by kernel_rfl) ea8
            simp [execOp, kn.rho.con, e0, go_sem])
        · refine gd_call (by kernel_rfl) (Want.some_ (g := 13) (v := true) rfl rfl (by kernel_rfl) (by omega) rfl rfl (by kernel_rfl)) 25 (fun D u ρ wx kn hD => ?_)
          have e0 := kn.con 17 66 (c := .agg #[.int .i64 num, .int .i64 nid, .int .i64 jn, .slice A3 n c, .slice B nb d2, .slice C nc f2, .slice E ne h2']) (by kernel_rfl) (by omega) (by kernel_rfl) rfl
          have e1 := kn.con 18 67 (c := .slice A5 L.length c5) (by kernel_rfl) (by omega) (by kernel_rfl) rfl
          obtain ⟨x1, x2⟩ := kn.ext
          refine ⟨#[.agg #[.int .i64 num, .int .i64 nid, .int .i64 jn, .slice A3 n c, .slice B nb d2, .slice C nc f2, .slice E ne h2'], .slice A5 L.length c5], ?_, (KRG.out wx x1).mono ?_⟩
          · simp only [execOp, resolve, Deferred.ofValue, List.map_toArray, List.map_cons, List.map_nil, e0, e1, kn.rho.con, kn.rho.fn]
            simp [go_sem]
          · rintro e w' ⟨rfl, hg⟩
            exact ⟨_, rfl, (fun c h => by injection h with h; injection h), only_trans x1 hg, (fun h => by rw [updB_ne D (show (2 : Nat) ≠ 19 by omega)] at h; rw [upd_ne u _ (show (2 : Nat) ≠ 19 by omega)]; obtain ⟨A2, c2, q1, q2⟩ := x2 h; exact ⟨A2, c2, q1, q2.grown hg (by simp)⟩)⟩
        · exact gd_gen (by kernel_rfl) (Want.some_ (g := 13) (v := true) rfl rfl (by kernel_rfl) (by omega) rfl rfl (by kernel_rfl)) rfl (fun D u w v h => by simpa [updB, upd] using h) (fun D u ρ w kn => by
            have e0 := kn.con 16 65 (c := .int .i64 (lvl ss L)) (by kernel_rfl) (by omega) (by kernel_rfl) rfl
            have e1 := kn.con 19 68 (c := .int .i64 (lvl ss L)) (by kernel_rfl) (by omega) (by kernel_rfl) rfl
            simp [execOp, kn.rho.con, e0, e1, go_sem])
        · exact gd_gen (by kernel_rfl) (Want.none_ rfl) rfl (fun D u w v h => by simpa [updB, upd] using h) (fun D u ρ w kn => by
            have e0 := kn.con 13 62 (c := .bool true) (by kernel_rfl) (by omega) (by kernel_rfl) rfl
            have e1 := kn.con 20 69 (c := .bool true) (by kernel_rfl) (by omega) (by kernel_rfl) rfl
            simp [execOp, kn.rho.con, e0, e1, go_sem])
      · intro D u w9 hJ hD
        obtain ⟨hcn, x1, -⟩ := hJ
        have e21 : u 21 = .bool true := hcn 21 _ rfl (hD 21 (by omega))
        simp only [List.take_succ_cons, List.take_zero, List.drop_succ_cons, List.drop_zero, putAll]
        rw [e21]
        clear hcn e21 hD
        go_wp2_with fail
        go_ret
        exact ⟨rfl, only_trans G5.out x1⟩
end Go.Proofs.Ytphglalphejppaa
