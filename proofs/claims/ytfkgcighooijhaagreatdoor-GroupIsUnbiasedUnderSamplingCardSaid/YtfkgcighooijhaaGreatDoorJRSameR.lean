/- SameRows of the reference of chapter 37, where both rows hold the same (printed by mkrsamer.py). Condition: sizes. -/
import Derived.Test.YtfkgcighooijhaaGreatDoorJGRows
import Derived.Test.YtfkgcighooijhaaGreatDoorJEvA37
import Derived.Test.YtfkgcighooijhaaGreatDoorDrawTime
import Derived.Test.YtfkgcighooijhaaGreatDoorStr
import Derived.Deep.RegionLaw
import Derived.Deep.DeepCutAuto
import Derived.Test.YtfkgcighooijhaaGreatDoorCmpK
import Derived.Test.YtfkgcighooijhaaGreatDoorEvents
import Derived.Test.YtfkgcighooijhaaGreatDoorJGrpP
import Derived.Test.YtfkgcighooijhaaGreatDoorKey
import Derived.Test.YtfkgcighooijhaaGreatDoorNumE
namespace Go.Proofs.YtfkgcighooijhaaGreatDoor
open Go.RowKit
set_option linter.unusedVariables false
set_option linter.unusedSimpArgs false

theorem rw_in3 {S : Nat → Prop} {w : World} {A : Option Addr} {ps : List RwD} (h : Rd S w A (ps.flatMap RwD.cells)) {i : Nat} {y : RwD} (hy : ps[i]? = some y) :
    ∃ b off, A = some ⟨b, off, none⟩ ∧ b < w.heap.size ∧ w.cell? ⟨b, off + i * 3, none⟩ = some (.slice y.key.a y.key.l.length y.key.c) ∧ w.cell? ⟨b, off + i * 3 + 1, none⟩ = some (.slice y.na y.nl.length y.nc) ∧ w.cell? ⟨b, off + i * 3 + 2, none⟩ = some (.int .i64 0) := by
  obtain ⟨hi, hyi⟩ := List.getElem?_eq_some_iff.1 hy
  obtain ⟨b, off, rfl, _, hlt, hc⟩ := h (by rw [flat_len _ 3 RwD.cells_len]; omega)
  have key : ∀ j, j < 3 → w.cell? ⟨b, off + i * 3 + j, none⟩ = y.cells[j]? := by
    intro j hj
    have h1 := flat_at RwD.cells 3 RwD.cells_len ps i j hi hj
    rw [hyi] at h1
    have hlt : j < y.cells.length := by rw [RwD.cells_len]; exact hj
    rw [List.getElem?_eq_getElem hlt] at h1 ⊢
    rw [Nat.add_assoc]
    exact hc _ _ h1
  exact ⟨b, off, rfl, hlt, key 0 (by omega), key 1 (by omega), key 2 (by omega)⟩
def OkR (r : RwD) : Prop := r.key.l.length ≤ 100000 ∧ r.nl.length ≤ 100000
set_option maxHeartbeats 16000000 in
set_option maxRecDepth 100000 in
theorem rsamerows_any {S T : Nat → Prop} (A : Option Addr) (ps : List RwD) (cA : Nat) (B : Option Addr) (qs : List RwD) (cB : Nat) (w0 : World) (hA : Rws S w0 A ps) (hB : Rws T w0 B qs) (he : ps.map RwD.pl = qs.map RwD.pl) (hl : ps.length ≤ 100000) (hok : ∀ p ∈ ps, OkR p) :
    Calls Tryz.prog 23 #[.slice A ps.length cA, .slice B qs.length cB] w0 (fun e w' => e = .returned (.bool true) ∧ w0.grownBy w' none) := by
  have hlq : qs.length = ps.length := by simpa using (congrArg List.length he).symm
  rw [hlq]
  have HA := Lib.hid hA
  have HB := Lib.hid hB
  have HE := Lib.hid he
  have HOK := Lib.hid hok
  clear hA hB he hok hlq
  go_enter Tryz.func23, Tryz.ntmps23
  go_wp2_with fail
  go_loopw [5] (fun v1 wr => ∃ k : Nat, v1 = .int .i64 k ∧ k ≤ ps.length ∧ w0.grownBy wr none) (fun v1 _ => ps.length - (intOf v1).toNat)
  case atStart => exact ⟨0, rfl, Nat.zero_le _, only_refl _ _⟩
  case round =>
    obtain ⟨k, rfl, hk, hG⟩ := hrel
    obtain ⟨wo, rfl⟩ : ∃ w, w = wr := ⟨_, rfl⟩
    have G := Lib.hid hG
    clear hG
    by_cases hlt : k < ps.length
    · obtain ⟨x, y, hx, hy, hxy⟩ := map_at2 HE.out hlt
      obtain ⟨bA, oA, eA, hbA, a0, a1, a2⟩ := rw_in3 (HA.out.1.grown G.out (by simp)) hx
      obtain ⟨bB, oB, eB, hbB, b0, b1, b2⟩ := rw_in3 (HB.out.1.grown G.out (by simp)) hy
      subst eA eB
      have xs := (HA.out.2 x (List.mem_of_getElem? hx)).grown G.out (by simp)
      have ys := (HB.out.2 y (List.mem_of_getElem? hy)).grown G.out (by simp)
      have xo := HOK.out x (List.mem_of_getElem? hx)
      have p1 : x.key.l = y.key.l := congrArg Prod.fst hxy
      have p2 : x.nl = y.nl := congrArg Prod.snd hxy
      have KK : Hid (∀ w', wo.grownBy w' none → Calls Tryz.prog 20 #[.slice x.key.a x.key.l.length x.key.c, .slice y.key.a x.key.l.length y.key.c] w' (Quiet (.bool true) w')) := Lib.hid (fun w' hg => by
        have h0 := same_any x.key.a y.key.a x.key.l y.key.l x.key.c y.key.c w' (xs.1.1.grown hg (by simp)) (ys.1.1.grown hg (by simp)) (by have := xo.1; omega) (by rw [← p1]; have := xo.1; omega) true ⟨fun _ => p1, fun _ => rfl⟩
        rw [← p1] at h0
        exact h0)
      have KT : Hid (∀ w', wo.grownBy w' none → Calls Tryz.prog 32 #[.slice x.na x.nl.length x.nc, .slice y.na x.nl.length y.nc] w' (Quiet (.bool true) w')) := Lib.hid (fun w' hg => by
        have h0 := sameints_any x.na y.na x.nl y.nl x.nc y.nc w' (xs.2.1.grown hg (by simp)) (ys.2.1.grown hg (by simp)) (by have := xo.2; omega) (by rw [← p2]; have := xo.2; omega) true ⟨fun _ => p2, fun _ => rfl⟩
        rw [← p2] at h0
        exact h0)
      rw [← p1] at b0
      rw [← p2] at b1
      clear xs ys xo p1 p2 hxy hx hy
      obtain ⟨kl, hkl⟩ : ∃ l, l = x.key.l := ⟨_, rfl⟩
      obtain ⟨nl, hnl⟩ : ∃ l, l = x.nl := ⟨_, rfl⟩
      obtain ⟨xka, h1⟩ : ∃ l, l = x.key.a := ⟨_, rfl⟩
      obtain ⟨xkc, h2⟩ : ∃ l, l = x.key.c := ⟨_, rfl⟩
      obtain ⟨yka, h3⟩ : ∃ l, l = y.key.a := ⟨_, rfl⟩
      obtain ⟨ykc, h4⟩ : ∃ l, l = y.key.c := ⟨_, rfl⟩
      obtain ⟨xna, i1⟩ : ∃ l, l = x.na := ⟨_, rfl⟩
      obtain ⟨xnc, i2⟩ : ∃ l, l = x.nc := ⟨_, rfl⟩
      obtain ⟨yna, i3⟩ : ∃ l, l = y.na := ⟨_, rfl⟩
      obtain ⟨ync, i4⟩ : ∃ l, l = y.nc := ⟨_, rfl⟩
      rw [← hkl] at KK a0 b0
      rw [← hnl] at KT a1 b1
      rw [← h1, ← h2] at KK a0
      rw [← h3, ← h4] at KK b0
      rw [← i1, ← i2] at KT a1
      rw [← i3, ← i4] at KT b1
      have j1 : (k : Int) < (ps.length : Int) := by omega
      clear hkl hnl h1 h2 h3 h4 i1 i2 i3 i4
      go_upto_region 6 with fail
      refine wp_region_gen 38 (JC (some (.slice (some ⟨bA, oA, none⟩) (ps.length) (cA)) :: some (.int .i64 (k)) :: some (.pointer (some ⟨bA, oA + k * 3, none⟩)) :: some (.pointer (some ⟨bA, oA + k * 3, none⟩)) :: some (.slice xka kl.length xkc) :: some (.slice (some ⟨bB, oB, none⟩) (ps.length) (cB)) :: some (.int .i64 (k)) :: some (.pointer (some ⟨bB, oB + k * 3, none⟩)) :: some (.pointer (some ⟨bB, oB + k * 3, none⟩)) :: some (.slice yka kl.length ykc) :: some (.bool true) :: some (.bool false) :: some (.bool false) :: some (.slice (some ⟨bA, oA, none⟩) (ps.length) (cA)) :: some (.int .i64 (k)) :: some (.pointer (some ⟨bA, oA + k * 3, none⟩)) :: some (.pointer (some ⟨bA, oA + k * 3 + 1, none⟩)) :: some (.slice xna nl.length xnc) :: some (.slice (some ⟨bB, oB, none⟩) (ps.length) (cB)) :: some (.int .i64 (k)) :: some (.pointer (some ⟨bB, oB + k * 3, none⟩)) :: some (.pointer (some ⟨bB, oB + k * 3 + 1, none⟩)) :: some (.slice yna nl.length ync) :: some (.bool true) :: some (.bool false) :: some (.bool false) :: some (.bool false) :: some (.slice (some ⟨bA, oA, none⟩) (ps.length) (cA)) :: some (.int .i64 (k)) :: some (.pointer (some ⟨bA, oA + k * 3, none⟩)) :: some (.pointer (some ⟨bA, oA + k * 3 + 2, none⟩)) :: some (.int .i64 0) :: some (.slice (some ⟨bB, oB, none⟩) (ps.length) (cB)) :: some (.int .i64 (k)) :: some (.pointer (some ⟨bB, oB + k * 3, none⟩)) :: some (.pointer (some ⟨bB, oB + k * 3 + 2, none⟩)) :: some (.int .i64 0) :: some (.bool false) :: []) (fun D u w => wo.grownBy w none)) (by kernel_rfl) (by kernel_rfl) ?_ ?_ ?_
      · intro u
        exact ⟨(fun j c _ h => by cases h), only_drew (only_refl _ _)⟩
      · intro AA hA
        have hasz : AA.tmps.size = 56 := by rw [hA]; kernel_rfl
        have ea0 : AA.eval (.tmp 0) = .slice (some ⟨bA, oA, none⟩) (ps.length) (cA) := by rw [hA]; kernel_rfl
        have ea1 : AA.eval (.tmp 1) = .slice (some ⟨bB, oB, none⟩) (ps.length) (cB) := by rw [hA]; kernel_rfl
        have ea5 : AA.eval (.tmp 5) = .int .i64 (k) := by rw [hA]; kernel_rfl
        clear hA
        simp only [List.take_succ_cons, List.take_zero]
        refine .cons ?_ (.cons ?_ (.cons ?_ (.cons ?_ (.cons ?_ (.cons ?_ (.cons ?_ (.cons ?_ (.cons ?_ (.cons ?_ (.cons ?_ (.cons ?_ (.cons ?_ (.cons ?_ (.cons ?_ (.cons ?_ (.cons ?_ (.cons ?_ (.cons ?_ (.cons ?_ (.cons ?_ (.cons ?_ (.cons ?_ (.cons ?_ (.cons ?_ (.cons ?_ (.cons ?_ (.cons ?_ (.cons ?_ (.cons ?_ (.cons ?_ (.cons ?_ (.cons ?_ (.cons ?_ (.cons ?_ (.cons ?_ (.cons ?_ (.cons ?_ (.nil))))))))))))))))))))))))))))))))))))))
        · exact gd_gen (by kernel_rfl) (Want.none_ rfl) rfl (fun D u w v h => h) (fun D u ρ w kn => by
            have e0 := kn.own 0 (c := .slice (some ⟨bA, oA, none⟩) (ps.length) (cA)) (by kernel_rfl) ea0
            simp [execOp, kn.rho.con, e0, go_sem])
        · exact gd_gen (by kernel_rfl) (Want.none_ rfl) rfl (fun D u w v h => h) (fun D u ρ w kn => by
            have e0 := kn.own 5 (c := .int .i64 (k)) (by kernel_rfl) ea5
            simp [execOp, kn.rho.con, e0, go_sem])
        · exact gd_gen (by kernel_rfl) (Want.none_ rfl) rfl (fun D u w v h => h) (fun D u ρ w kn => by
            have e0 := kn.con 0 17 (c := .slice (some ⟨bA, oA, none⟩) (ps.length) (cA)) (by kernel_rfl) (by omega) (by kernel_rfl) rfl
            have e1 := kn.con 1 18 (c := .int .i64 (k)) (by kernel_rfl) (by omega) (by kernel_rfl) rfl
            simp [execOp, kn.rho.con, e0, e1, go_sem, j1])
        · exact gd_gen (by kernel_rfl) (Want.none_ rfl) rfl (fun D u w v h => h) (fun D u ρ w kn => by
            have e0 := kn.con 2 19 (c := .pointer (some ⟨bA, oA + k * 3, none⟩)) (by kernel_rfl) (by omega) (by kernel_rfl) rfl
            simp [execOp, kn.rho.con, e0, go_sem])
        · exact gd_gen (by kernel_rfl) (Want.none_ rfl) rfl (fun D u w v h => h) (fun D u ρ w kn => by
            have e0 := kn.con 3 20 (c := .pointer (some ⟨bA, oA + k * 3, none⟩)) (by kernel_rfl) (by omega) (by kernel_rfl) rfl
            have f0 := (cellG kn.ext hbA).trans a0
            simp [execOp, kn.rho.con, e0, f0, go_sem])
        · exact gd_gen (by kernel_rfl) (Want.none_ rfl) rfl (fun D u w v h => h) (fun D u ρ w kn => by
            have e0 := kn.own 1 (c := .slice (some ⟨bB, oB, none⟩) (ps.length) (cB)) (by kernel_rfl) ea1
            simp [execOp, kn.rho.con, e0, go_sem])
        · exact gd_gen (by kernel_rfl) (Want.none_ rfl) rfl (fun D u w v h => h) (fun D u ρ w kn => by
            have e0 := kn.own 5 (c := .int .i64 (k)) (by kernel_rfl) ea5
            simp [execOp, kn.rho.con, e0, go_sem])
        · exact gd_gen (by kernel_rfl) (Want.none_ rfl) rfl (fun D u w v h => h) (fun D u ρ w kn => by
            have e0 := kn.con 5 22 (c := .slice (some ⟨bB, oB, none⟩) (ps.length) (cB)) (by kernel_rfl) (by omega) (by kernel_rfl) rfl
            have e1 := kn.con 6 23 (c := .int .i64 (k)) (by kernel_rfl) (by omega) (by kernel_rfl) rfl
            simp [execOp, kn.rho.con, e0, e1, go_sem, j1])
        · exact gd_gen (by kernel_rfl) (Want.none_ rfl) rfl (fun D u w v h => h) (fun D u ρ w kn => by
            have e0 := kn.con 7 24 (c := .pointer (some ⟨bB, oB + k * 3, none⟩)) (by kernel_rfl) (by omega) (by kernel_rfl) rfl
            simp [execOp, kn.rho.con, e0, go_sem])
        · exact gd_gen (by kernel_rfl) (Want.none_ rfl) rfl (fun D u w v h => h) (fun D u ρ w kn => by
            have e0 := kn.con 8 25 (c := .pointer (some ⟨bB, oB + k * 3, none⟩)) (by kernel_rfl) (by omega) (by kernel_rfl) rfl
            have f0 := (cellG kn.ext hbB).trans b0
            simp [execOp, kn.rho.con, e0, f0, go_sem])
        · refine gd_call (by kernel_rfl) (Want.none_ rfl) 20 (fun D u ρ w kn hD => ?_)
          have e0 := kn.con 4 21 (c := .slice xka kl.length xkc) (by kernel_rfl) (by omega) (by kernel_rfl) rfl
          have e1 := kn.con 9 26 (c := .slice yka kl.length ykc) (by kernel_rfl) (by omega) (by kernel_rfl) rfl
          refine ⟨#[.slice xka kl.length xkc, .slice yka kl.length ykc], ?_, (KK.out w kn.ext).mono ?_⟩
          · simp only [execOp, resolve, Deferred.ofValue, List.map_toArray, List.map_cons, List.map_nil, e0, e1, kn.rho.con, kn.rho.fn]
            simp [go_sem]
          · rintro e w' ⟨rfl, nq, rfl⟩
            exact ⟨_, rfl, (fun c h => by injection h with h; injection h), only_drewN kn.ext nq⟩
        · exact gd_gen (by kernel_rfl) (Want.none_ rfl) rfl (fun D u w v h => h) (fun D u ρ w kn => by
            have e0 := kn.con 10 27 (c := .bool true) (by kernel_rfl) (by omega) (by kernel_rfl) rfl
            simp [execOp, kn.rho.con, e0, go_sem])
        · exact gd_gen (by kernel_rfl) (Want.none_ rfl) rfl (fun D u w v h => h) (fun D u ρ w kn => by
            have e0 := kn.con 11 28 (c := .bool false) (by kernel_rfl) (by omega) (by kernel_rfl) rfl
            simp [execOp, kn.rho.con, e0, go_sem])
        · exact gd_gen (by kernel_rfl) (Want.some_ (g := 12) (v := false) rfl rfl (by kernel_rfl) (by omega) rfl rfl (by kernel_rfl)) rfl (fun D u w v h => h) (fun D u ρ w kn => by
            have e0 := kn.own 0 (c := .slice (some ⟨bA, oA, none⟩) (ps.length) (cA)) (by kernel_rfl) ea0
            simp [execOp, kn.rho.con, e0, go_sem])
        · exact gd_gen (by kernel_rfl) (Want.some_ (g := 12) (v := false) rfl rfl (by kernel_rfl) (by omega) rfl rfl (by kernel_rfl)) rfl (fun D u w v h => h) (fun D u ρ w kn => by
            have e0 := kn.own 5 (c := .int .i64 (k)) (by kernel_rfl) ea5
            simp [execOp, kn.rho.con, e0, go_sem])
        · exact gd_gen (by kernel_rfl) (Want.some_ (g := 12) (v := false) rfl rfl (by kernel_rfl) (by omega) rfl rfl (by kernel_rfl)) rfl (fun D u w v h => h) (fun D u ρ w kn => by
            have e0 := kn.con 13 30 (c := .slice (some ⟨bA, oA, none⟩) (ps.length) (cA)) (by kernel_rfl) (by omega) (by kernel_rfl) rfl
            have e1 := kn.con 14 31 (c := .int .i64 (k)) (by kernel_rfl) (by omega) (by kernel_rfl) rfl
            simp [execOp, kn.rho.con, e0, e1, go_sem, j1])
        · exact gd_gen (by kernel_rfl) (Want.some_ (g := 12) (v := false) rfl rfl (by kernel_rfl) (by omega) rfl rfl (by kernel_rfl)) rfl (fun D u w v h => h) (fun D u ρ w kn => by
            have e0 := kn.con 15 32 (c := .pointer (some ⟨bA, oA + k * 3, none⟩)) (by kernel_rfl) (by omega) (by kernel_rfl) rfl
            simp [execOp, kn.rho.con, e0, go_sem])
        · exact gd_gen (by kernel_rfl) (Want.some_ (g := 12) (v := false) rfl rfl (by kernel_rfl) (by omega) rfl rfl (by kernel_rfl)) rfl (fun D u w v h => h) (fun D u ρ w kn => by
            have e0 := kn.con 16 33 (c := .pointer (some ⟨bA, oA + k * 3 + 1, none⟩)) (by kernel_rfl) (by omega) (by kernel_rfl) rfl
            have f0 := (cellG kn.ext hbA).trans a1
            simp [execOp, kn.rho.con, e0, f0, go_sem])
        · exact gd_gen (by kernel_rfl) (Want.some_ (g := 12) (v := false) rfl rfl (by kernel_rfl) (by omega) rfl rfl (by kernel_rfl)) rfl (fun D u w v h => h) (fun D u ρ w kn => by
            have e0 := kn.own 1 (c := .slice (some ⟨bB, oB, none⟩) (ps.length) (cB)) (by kernel_rfl) ea1
            simp [execOp, kn.rho.con, e0, go_sem])
        · exact gd_gen (by kernel_rfl) (Want.some_ (g := 12) (v := false) rfl rfl (by kernel_rfl) (by omega) rfl rfl (by kernel_rfl)) rfl (fun D u w v h => h) (fun D u ρ w kn => by
            have e0 := kn.own 5 (c := .int .i64 (k)) (by kernel_rfl) ea5
            simp [execOp, kn.rho.con, e0, go_sem])
        · exact gd_gen (by kernel_rfl) (Want.some_ (g := 12) (v := false) rfl rfl (by kernel_rfl) (by omega) rfl rfl (by kernel_rfl)) rfl (fun D u w v h => h) (fun D u ρ w kn => by
            have e0 := kn.con 18 35 (c := .slice (some ⟨bB, oB, none⟩) (ps.length) (cB)) (by kernel_rfl) (by omega) (by kernel_rfl) rfl
            have e1 := kn.con 19 36 (c := .int .i64 (k)) (by kernel_rfl) (by omega) (by kernel_rfl) rfl
            simp [execOp, kn.rho.con, e0, e1, go_sem, j1])
        · exact gd_gen (by kernel_rfl) (Want.some_ (g := 12) (v := false) rfl rfl (by kernel_rfl) (by omega) rfl rfl (by kernel_rfl)) rfl (fun D u w v h => h) (fun D u ρ w kn => by
            have e0 := kn.con 20 37 (c := .pointer (some ⟨bB, oB + k * 3, none⟩)) (by kernel_rfl) (by omega) (by kernel_rfl) rfl
            simp [execOp, kn.rho.con, e0, go_sem])
        · exact gd_gen (by kernel_rfl) (Want.some_ (g := 12) (v := false) rfl rfl (by kernel_rfl) (by omega) rfl rfl (by kernel_rfl)) rfl (fun D u w v h => h) (fun D u ρ w kn => by
            have e0 := kn.con 21 38 (c := .pointer (some ⟨bB, oB + k * 3 + 1, none⟩)) (by kernel_rfl) (by omega) (by kernel_rfl) rfl
            have f0 := (cellG kn.ext hbB).trans b1
            simp [execOp, kn.rho.con, e0, f0, go_sem])
        · refine gd_call (by kernel_rfl) (Want.some_ (g := 12) (v := false) rfl rfl (by kernel_rfl) (by omega) rfl rfl (by kernel_rfl)) 32 (fun D u ρ w kn hD => ?_)
          have e0 := kn.con 17 34 (c := .slice xna nl.length xnc) (by kernel_rfl) (by omega) (by kernel_rfl) rfl
          have e1 := kn.con 22 39 (c := .slice yna nl.length ync) (by kernel_rfl) (by omega) (by kernel_rfl) rfl
          refine ⟨#[.slice xna nl.length xnc, .slice yna nl.length ync], ?_, (KT.out w kn.ext).mono ?_⟩
          · simp only [execOp, resolve, Deferred.ofValue, List.map_toArray, List.map_cons, List.map_nil, e0, e1, kn.rho.con, kn.rho.fn]
            simp [go_sem]
          · rintro e w' ⟨rfl, nq, rfl⟩
            exact ⟨_, rfl, (fun c h => by injection h with h; injection h), only_drewN kn.ext nq⟩
        · exact gd_gen (by kernel_rfl) (Want.some_ (g := 12) (v := false) rfl rfl (by kernel_rfl) (by omega) rfl rfl (by kernel_rfl)) rfl (fun D u w v h => h) (fun D u ρ w kn => by
            have e0 := kn.con 23 40 (c := .bool true) (by kernel_rfl) (by omega) (by kernel_rfl) rfl
            simp [execOp, kn.rho.con, e0, go_sem])
        · exact gd_gen (by kernel_rfl) (Want.none_ rfl) rfl (fun D u w v h => h) (fun D u ρ w kn => by
            have e0 := kn.con 12 29 (c := .bool false) (by kernel_rfl) (by omega) (by kernel_rfl) rfl
            have e1 := kn.con 24 41 (c := .bool false) (by kernel_rfl) (by omega) (by kernel_rfl) rfl
            simp [execOp, kn.rho.con, e0, e1, go_sem])
        · exact gd_gen (by kernel_rfl) (Want.none_ rfl) rfl (fun D u w v h => h) (fun D u ρ w kn => by
            have e0 := kn.con 25 42 (c := .bool false) (by kernel_rfl) (by omega) (by kernel_rfl) rfl
            simp [execOp, kn.rho.con, e0, go_sem])
        · exact gd_gen (by kernel_rfl) (Want.some_ (g := 26) (v := false) rfl rfl (by kernel_rfl) (by omega) rfl rfl (by kernel_rfl)) rfl (fun D u w v h => h) (fun D u ρ w kn => by
            have e0 := kn.own 0 (c := .slice (some ⟨bA, oA, none⟩) (ps.length) (cA)) (by kernel_rfl) ea0
            simp [execOp, kn.rho.con, e0, go_sem])
        · exact gd_gen (by kernel_rfl) (Want.some_ (g := 26) (v := false) rfl rfl (by kernel_rfl) (by omega) rfl rfl (by kernel_rfl)) rfl (fun D u w v h => h) (fun D u ρ w kn => by
            have e0 := kn.own 5 (c := .int .i64 (k)) (by kernel_rfl) ea5
            simp [execOp, kn.rho.con, e0, go_sem])
        · exact gd_gen (by kernel_rfl) (Want.some_ (g := 26) (v := false) rfl rfl (by kernel_rfl) (by omega) rfl rfl (by kernel_rfl)) rfl (fun D u w v h => h) (fun D u ρ w kn => by
            have e0 := kn.con 27 44 (c := .slice (some ⟨bA, oA, none⟩) (ps.length) (cA)) (by kernel_rfl) (by omega) (by kernel_rfl) rfl
            have e1 := kn.con 28 45 (c := .int .i64 (k)) (by kernel_rfl) (by omega) (by kernel_rfl) rfl
            simp [execOp, kn.rho.con, e0, e1, go_sem, j1])
        · exact gd_gen (by kernel_rfl) (Want.some_ (g := 26) (v := false) rfl rfl (by kernel_rfl) (by omega) rfl rfl (by kernel_rfl)) rfl (fun D u w v h => h) (fun D u ρ w kn => by
            have e0 := kn.con 29 46 (c := .pointer (some ⟨bA, oA + k * 3, none⟩)) (by kernel_rfl) (by omega) (by kernel_rfl) rfl
            simp [execOp, kn.rho.con, e0, go_sem])
        · exact gd_gen (by kernel_rfl) (Want.some_ (g := 26) (v := false) rfl rfl (by kernel_rfl) (by omega) rfl rfl (by kernel_rfl)) rfl (fun D u w v h => h) (fun D u ρ w kn => by
            have e0 := kn.con 30 47 (c := .pointer (some ⟨bA, oA + k * 3 + 2, none⟩)) (by kernel_rfl) (by omega) (by kernel_rfl) rfl
            have f0 := (cellG kn.ext hbA).trans a2
            simp [execOp, kn.rho.con, e0, f0, go_sem])
        · exact gd_gen (by kernel_rfl) (Want.some_ (g := 26) (v := false) rfl rfl (by kernel_rfl) (by omega) rfl rfl (by kernel_rfl)) rfl (fun D u w v h => h) (fun D u ρ w kn => by
            have e0 := kn.own 1 (c := .slice (some ⟨bB, oB, none⟩) (ps.length) (cB)) (by kernel_rfl) ea1
            simp [execOp, kn.rho.con, e0, go_sem])
        · exact gd_gen (by kernel_rfl) (Want.some_ (g := 26) (v := false) rfl rfl (by kernel_rfl) (by omega) rfl rfl (by kernel_rfl)) rfl (fun D u w v h => h) (fun D u ρ w kn => by
            have e0 := kn.own 5 (c := .int .i64 (k)) (by kernel_rfl) ea5
            simp [execOp, kn.rho.con, e0, go_sem])
        · exact gd_gen (by kernel_rfl) (Want.some_ (g := 26) (v := false) rfl rfl (by kernel_rfl) (by omega) rfl rfl (by kernel_rfl)) rfl (fun D u w v h => h) (fun D u ρ w kn => by
            have e0 := kn.con 32 49 (c := .slice (some ⟨bB, oB, none⟩) (ps.length) (cB)) (by kernel_rfl) (by omega) (by kernel_rfl) rfl
            have e1 := kn.con 33 50 (c := .int .i64 (k)) (by kernel_rfl) (by omega) (by kernel_rfl) rfl
            simp [execOp, kn.rho.con, e0, e1, go_sem, j1])
        · exact gd_gen (by kernel_rfl) (Want.some_ (g := 26) (v := false) rfl rfl (by kernel_rfl) (by omega) rfl rfl (by kernel_rfl)) rfl (fun D u w v h => h) (fun D u ρ w kn => by
            have e0 := kn.con 34 51 (c := .pointer (some ⟨bB, oB + k * 3, none⟩)) (by kernel_rfl) (by omega) (by kernel_rfl) rfl
            simp [execOp, kn.rho.con, e0, go_sem])
        · exact gd_gen (by kernel_rfl) (Want.some_ (g := 26) (v := false) rfl rfl (by kernel_rfl) (by omega) rfl rfl (by kernel_rfl)) rfl (fun D u w v h => h) (fun D u ρ w kn => by
            have e0 := kn.con 35 52 (c := .pointer (some ⟨bB, oB + k * 3 + 2, none⟩)) (by kernel_rfl) (by omega) (by kernel_rfl) rfl
            have f0 := (cellG kn.ext hbB).trans b2
            simp [execOp, kn.rho.con, e0, f0, go_sem])
        · exact gd_gen (by kernel_rfl) (Want.some_ (g := 26) (v := false) rfl rfl (by kernel_rfl) (by omega) rfl rfl (by kernel_rfl)) rfl (fun D u w v h => h) (fun D u ρ w kn => by
            have e0 := kn.con 31 48 (c := .int .i64 0) (by kernel_rfl) (by omega) (by kernel_rfl) rfl
            have e1 := kn.con 36 53 (c := .int .i64 0) (by kernel_rfl) (by omega) (by kernel_rfl) rfl
            simp [execOp, kn.rho.con, e0, e1, go_sem])
      · intro D u w3 hJ hD
        obtain ⟨hc, x1⟩ := hJ
        have e26 := hc 26 _ rfl (hD 26 (by omega))
        have e37 := hc 37 _ rfl (hD 37 (by omega))
        simp only [List.take_succ_cons, List.take_zero, List.drop_succ_cons, List.drop_zero, putAll]
        rw [e26, e37]
        have GE := Lib.hid (only_trans G.out x1)
        clear hc x1 hD e26 e37 a0 a1 a2 b0 b1 b2 KK KT
        go_wp2_with fail
        go_roundw
        case rel => exact ⟨k + 1, by go_num, by omega, GE.out⟩
        case measure => simp [intOf]; omega
    · have j1 : ¬ (k : Int) < (ps.length : Int) := by omega
      go_wp2_with fail
      go_ret
      exact ⟨rfl, G.out⟩
end Go.Proofs.YtfkgcighooijhaaGreatDoor

namespace Go.Proofs.YtfkgcighooijhaaGreatDoor
open Go.RowKit
set_option linter.unusedVariables false
set_option linter.unusedSimpArgs false

set_option maxHeartbeats 800000 in
theorem name1_some (g : Nat) (l : List Int) (k : Nat) (w : World) (h : CodesAt w g l k) :
    Calls Tryz.prog 46 #[.pointer (some ⟨g, 0, none⟩)] w (StrPost w g l 20) := by
  go_enter Tryz.func46, Tryz.ntmps46
  go_wp2_with fail
  refine (next_some g l k 4 _ (h.grown (World.grownBy_alloc _ _ none) (by simp)) (by omega) (by omega)).mono ?_
  rintro e w2 ⟨v2, k2, rfl, hv2, h2, hg2⟩
  obtain ⟨j, rfl⟩ := Int.eq_ofNat_of_zero_le hv2.1
  have hj : j < 4 := by omega
  have hlt := h.lt
  have hB := (Blk.new w _ _).grown hg2 (by simp; omega)
  obtain ⟨x, hc, HX⟩ := hB.str_at (m := 20) (by rfl) (j := j) hj
  have G2 := Lib.hid hg2
  have C2 := Lib.hid h2
  clear hg2 h2 hB
  go_wp2
  go_ret
  exact ⟨x, k2, rfl, by have := HX.out; simpa using this, C2.out, only_trans (only_alloc (only_refl _ _) _) G2.out⟩
def NamesPost (w : World) (g : Nat) (l : List Int) (e : Ending) (w' : World) : Prop :=
  ∃ (A : Option Addr) (c : Nat) (ns : List ByteArray) (k : Nat), e = .returned (.slice A ns.length c) ∧ ns.length ≤ c ∧ c ≤ maxLen ∧ 1 ≤ ns.length ∧ ns.length ≤ 2 ∧ (∀ n ∈ ns, n.size ≤ 20) ∧
    Rd (w.heap.size ≤ ·) w' A (ns.map .string) ∧ CodesAt w' g l k ∧ w.grownBy w' (some g)
set_option maxHeartbeats 4000000 in
set_option maxRecDepth 100000 in
theorem names_some (g : Nat) (l : List Int) (k : Nat) (w : World) (h : CodesAt w g l k) :
    Calls Tryz.prog 25 #[.pointer (some ⟨g, 0, none⟩)] w (NamesPost w g l) := by
  go_enter Tryz.func25, Tryz.ntmps25
  go_wp2_with fail
  refine (next_some g l k 5 _ (h.grown (World.grownBy_alloc _ _ none) (by simp)) (by omega) (by omega)).mono ?_
  rintro e w2 ⟨v2, k2, rfl, hv2, h2, hg2⟩
  obtain ⟨j, rfl⟩ := Int.eq_ofNat_of_zero_le hv2.1
  have hj : j < 5 := by omega
  have hlt := h.lt
  have hB := (Blk.new w _ _).grown hg2 (by simp; omega)
  obtain ⟨x, hc, HX⟩ := hB.str_at (m := 20) (by rfl) (j := j) hj
  have hx : Hid (x.size ≤ 20) := by have := HX.out; exact Lib.hid (by simpa using this)
  have G2 : Hid (w.grownBy w2 (some g)) := Lib.hid (only_trans (only_alloc (only_refl _ _) _) hg2)
  have C2 := Lib.hid h2
  have hz2 : w.heap.size < w2.heap.size := by have := hg2.size; simp at this; omega
  have hg0 := h2.lt
  clear hg2 h2 hB h HX
  go_upto_region 2 with fail
  obtain ⟨b, hb⟩ : ∃ b, b = w2.heap.size := ⟨_, rfl⟩
  have HBB := Lib.hid hb
  obtain ⟨W, hW⟩ : ∃ W, W = w2.alloc (.cells #[.string x] 9) := ⟨_, rfl⟩
  have hOL : W.ownsRow b 9 1 (.slice (some ⟨b, 0, none⟩) 1 1) 1 #[Value.string x].toList := by rw [hW, hb]; exact World.ownsRow_lit w2 #[.string x] 1 (Nat.le_refl _) (by unfold maxLen; omega) rfl
  have CW : Hid (CodesAt W g l k2) := Lib.hid (by rw [hW]; exact C2.out.alloc _)
  have GW : Hid (w.grownBy W (some g)) := Lib.hid (by rw [hW]; exact only_alloc G2.out _)
  have hbl := hOL.lt b rfl
  have hgb : g < b := by rw [hb]; exact hg0
  have hwb : w.heap.size < b := by rw [hb]; exact hz2
  rw [← hb, ← hW]
  have OL := Lib.hid hOL
  clear hb hW hOL G2 C2 hz2 hc hg0
  go_wp2_with fail
  refine (next_some g l k2 2 _ CW.out (by omega) (by omega)).mono ?_
  rintro e w3 ⟨v3, k3, rfl, hv3, h3, hg3⟩
  have O3 : Hid (w3.ownsRow b 9 1 (.slice (some ⟨b, 0, none⟩) 1 1) 1 #[Value.string x].toList) := Lib.hid (own_only OL.out hg3 hgb)
  have G3 : Hid (w.grownBy w3 (some g)) := Lib.hid (only_trans GW.out hg3)
  have hz3 := hg3.size
  have C3 := Lib.hid h3
  clear hg3 h3 OL GW CW
  by_cases h1 : v3 = 1
  · have t1 : (v3 == 1) = true := by simp [h1]
    clear h1
    go_wp2_with fail
    refine (name1_some g l k3 _ C3.out).mono ?_
    rintro e w4 ⟨y, k4, rfl, hy, h4, hg4⟩
    have O4 : Hid (w4.ownsRow b 9 1 (.slice (some ⟨b, 0, none⟩) 1 1) 1 #[Value.string x].toList) := Lib.hid (own_only O3.out hg4 hgb)
    have G4 : Hid (w.grownBy w4 (some g)) := Lib.hid (only_trans G3.out hg4)
    have hz4 := hg4.size
    have C4 := Lib.hid h4
    have hg0 := h4.lt
    clear hg4 h4 O3 G3 C3
    go_wp2_with (at_builtin; refine wpList_append1 rfl _ _ 24 rfl b Tryz.underlying24 strInfo rfl (by decide) (v := .slice (some ⟨b, 0, none⟩) 1 1) (by rfl) (w0 := w4) (cs := #[.string y]) O4.out (by rfl) rfl (by simp [Value.oneCell']) (by decide) (by omega) (by omega) ?_; intro v7 w7 hown7 hg7 hob7)
    have O7 : Hid (w7.ownsRow b 9 1 v7 [x, y].length ([x, y].map .string)) := Lib.hid hown7
    have G7 : Hid (w.grownBy w7 (some g)) := Lib.hid (only_own G4.out hg7 O4.out (by omega))
    have C7 : Hid (CodesAt w7 g l k4) := Lib.hid (C4.out.grown hg7 (by intro b' hb' e; simp [Value.ownBlock] at e; omega))
    obtain ⟨A7, c7, rfl, hc7, hm7, -, hr7⟩ := Rd.of_own O7.out (by decide)
    have R7 := Lib.hid hr7
    clear hown7 hg7 hob7 hr7
    go_wp2_with fail
    go_ret
    exact ⟨A7, c7, [x, y], k4, rfl, hc7, hm7, by simp, by simp, by intro n hn; simp at hn; rcases hn with rfl | rfl; exact hx.out; omega, R7.out.mono (fun b' hb' _ => by have hq : b ≤ b' := hb'; show w.heap.size ≤ b'; omega), C7.out, G7.out⟩
  · have t1 : (v3 == 1) = false := by simp [h1]
    clear h1
    obtain ⟨A7, c7, hv7, hc7, hm7, -, hr7⟩ := Rd.of_own (xs := [x].map .string) (n := [x].length) O3.out (by decide)
    injection hv7 with e1 e2 e3
    subst e1 e3
    have R7 := Lib.hid hr7
    have HC7 := Lib.hid hc7
    have HM7 := Lib.hid hm7
    clear hr7 hc7 hm7 e2
    go_wp2_with fail
    go_ret
    exact ⟨_, _, [x], k3, rfl, HC7.out, HM7.out, by simp, by simp, by intro n hn; simp at hn; rcases hn with rfl; exact hx.out, R7.out.mono (fun b' hb' _ => by have hq : b ≤ b' := hb'; show w.heap.size ≤ b'; omega), C3.out, G3.out⟩
end Go.Proofs.YtfkgcighooijhaaGreatDoor

namespace Go.Proofs.YtfkgcighooijhaaGreatDoor
open Go.RowKit
set_option linter.unusedVariables false
set_option linter.unusedSimpArgs false

theorem aggInfo : (Tryz.prog.info? 42).map (fun i => (i.zero, i.size, i.bytes)) = some (some (.agg #[.int .i64 0, .string ⟨#[]⟩]), 2, 24) := by kernel_rfl
theorem only_setOver {a w : World} {g : Nat} (h : a.grownBy w (some g)) {p : Addr} (hp : a.heap.size ≤ p.block) (u : Value) : a.grownBy (w.setCell p u) (some g) := only_setCell h (.inr hp) u
def ScenePost (w : World) (e : Ending) (w' : World) : Prop :=
  ∃ (A1 A2 A3 : Option Addr) (c1 c2 c3 : Nat) (ns : List ByteArray) (ags : List AggD) (es : List Ev) (g k : Nat) (l : List Int), e = .returned (.tuple #[.slice A1 ns.length c1, .slice A2 ags.length c2, .slice A3 es.length c3, .pointer (some ⟨g, 0, none⟩)]) ∧
    ns.length ≤ c1 ∧ c1 ≤ maxLen ∧ 1 ≤ ns.length ∧ ns.length ≤ 2 ∧ (∀ n ∈ ns, n.size ≤ 20) ∧ Rd (g < ·) w' A1 (ns.map .string) ∧
    ags.length ≤ c2 ∧ c2 ≤ maxLen ∧ 1 ≤ ags.length ∧ ags.length ≤ 4 ∧ (∀ a ∈ ags, AggOk a) ∧ Rd (g < ·) w' A2 (ags.flatMap AggD.cells) ∧
    es.length ≤ c3 ∧ c3 ≤ maxLen ∧ es.length ≤ 30 ∧ Evs (g < ·) w' A3 es ∧ SrtE es ∧ (∀ e ∈ es, EvGood e) ∧ CodesAt w' g l k ∧ w.heap.size ≤ g ∧ w.grownBy w' none
set_option maxHeartbeats 4000000 in
set_option maxRecDepth 100000 in
theorem scene_any (A : Option Addr) (l : List Int) (c : Nat) (w : World) (h : Rd (fun _ => True) w A (l.map (.int .u8))) (hc : l.length ≤ c) (hcm : c ≤ maxLen) (hx : ∀ x ∈ l, 0 ≤ x ∧ x ≤ 255) :
    Calls Tryz.prog 8 #[.slice A l.length c] w (ScenePost w) := by
  have HN : Hid (∀ w', w.grownBy w' none → Calls Tryz.prog 17 #[.slice A l.length c, .int .i64 (400 : Nat)] w' (NewPost w' (l.take 400))) := fun w' hg => new_any A l c 400 w' (h.grown hg (by simp)) hc hcm (by omega) hx
  clear h hc hcm hx
  go_enter Tryz.func8, Tryz.ntmps8
  go_wp2_with fail
  refine (HN.out _ (only_refl _ _)).mono ?_
  rintro e w1 ⟨rfl, h1, hg1, hlt1⟩
  obtain ⟨g, hgd⟩ : ∃ g, g = w.heap.size := ⟨_, rfl⟩
  obtain ⟨l1, hl1⟩ : ∃ l1, l1 = l.take 400 := ⟨_, rfl⟩
  have HGD := Lib.hid hgd
  rw [← hgd, ← hl1] at h1
  rw [← hgd]
  have G1 := Lib.hid (only_of_none hg1 (some g))
  have hg0 := h1.lt
  clear HN hgd hl1 hg1 hlt1
  go_wp2_with fail
  refine (names_some g l1 0 _ h1).mono ?_
  rintro e w2 ⟨A1, c1, ns, k2, rfl, hc1, hm1, hn1, hn2, hns, hr1, h2, hg2⟩
  have G2 := Lib.hid (only_trans G1.out hg2)
  have R2 : Hid (Rd (g < ·) w2 A1 (ns.map .string)) := Lib.hid (hr1.mono (fun b hb _ => by have hq : w1.heap.size ≤ b := hb; show g < b; omega))
  have HC1 := Lib.hid hc1
  have HM1 := Lib.hid hm1
  have HNS := Lib.hid hns
  have hz2 := hg2.size
  clear h1 hr1 hg2 hc1 hm1 hns G1
  go_wp2_with fail
  refine (next_some g l1 k2 4 _ h2 (by omega) (by omega)).mono ?_
  rintro e w3 ⟨v3, k3, rfl, hv3, h3, hg3⟩
  have G3 := Lib.hid (only_trans G2.out hg3)
  have R3 := Lib.hid (R2.out.grown hg3 (fun b hb e => by have hq : g < b := hb; injection e; omega))
  have hz3 := hg3.size
  obtain ⟨m, rfl⟩ := Int.eq_ofNat_of_zero_le hv3.1
  have hm4 : m < 4 := by omega
  have C3 := Lib.hid h3
  clear h2 hg3 h3 G2 R2 hv3
  go_wp2_with fail
  go_loopw [8, 9] (fun vo i wr => ∃ (n : Nat) (ags : List AggD) (k : Nat), i = .int .i64 n ∧ n ≤ m + 1 ∧ ags.length + n = m + 1 ∧ (∀ a ∈ ags, AggOk a) ∧ wr.ownsRow w3.heap.size 42 2 vo ags.length (ags.flatMap AggD.cells) ∧ CodesAt wr g l1 k ∧ w3.grownBy wr (some g)) (fun _ i _ => (intOf i).toNat)
  case atStart => exact ⟨m + 1, [], k3, by go_num, Nat.le_refl _, by simp, by simp, World.ownsRow_nil _ _ _ _, C3.out, only_refl _ _⟩
  case round =>
    obtain ⟨n, ags, k, rfl, hn, han, hok, hO, hC, hG⟩ := hrel
    have HOK := Lib.hid hok
    have hal : ags.length ≤ 4 := by omega
    have HAN := Lib.hid han
    obtain ⟨Ao, co, rfl, hoc, hom, -, hro⟩ := Rd.of_own hO (by decide)
    have OO := Lib.hid hO
    have RO := Lib.hid hro
    have C := Lib.hid hC
    have G := Lib.hid hG
    have hsz := hG.size
    have hgw := hC.lt
    have HOC := Lib.hid hoc
    have HOM := Lib.hid hom
    clear C3 hok han hO hro hC hG hoc hom
    by_cases hlt : 0 < n
    · have i1 : (0 : Int) < (n : Int) := by omega
      go_wp2_with fail
      refine (next_some g l1 k 5 _ C.out (by omega) (by omega)).mono ?_
      rintro e w4 ⟨v4, k4, rfl, hv4, h4, hg4⟩
      have O4 := Lib.hid (own_only OO.out hg4 (by omega))
      have G4 := Lib.hid (only_trans G.out hg4)
      have C4 := Lib.hid h4
      have hz4 := hg4.size
      have hgw4 := h4.lt
      clear hg4 h4 OO G C RO hgw
      by_cases h0 : v4 = 0
      · have t1 : (v4 != 0) = false := by simp [h0]
        have HV : Hid (AggOk ⟨0, ⟨#[]⟩⟩) := Lib.hid (by unfold AggOk; decide)
        go_upto_region 8 with fail
        obtain ⟨b, hb⟩ : ∃ b, b = w4.heap.size := ⟨_, rfl⟩
        obtain ⟨WW, hWW⟩ : ∃ W, W = w4.alloc (.cells #[.int .i64 0, .string ⟨#[]⟩] 42) := ⟨_, rfl⟩
        have BB : Hid (Blk WW b 42 #[.int .i64 0, .string ⟨#[]⟩]) := Lib.hid (by rw [hWW, hb]; exact Blk.new _ _ _)
        have OW := Lib.hid (own_ext O4.out (show w4.grownBy WW none by rw [hWW]; exact only_alloc (only_refl _ _) _))
        have GW : Hid (w3.grownBy WW (some g)) := Lib.hid (by rw [hWW]; exact only_alloc G4.out _)
        obtain ⟨kk, hkk⟩ : ∃ kk, kk = k4 := ⟨_, rfl⟩
        have CW : Hid (CodesAt WW g l1 kk) := Lib.hid (by rw [hWW, hkk]; exact C4.out.alloc _)
        have hzW := GW.out.size
        have hbW := BB.out.lt
        rw [← hb, ← hWW]
        clear hb hWW hkk O4 G4 C4 h0 t1
        have z0 := BB.out.cell 0
        have z1 := BB.out.cell 1
        simp at z0 z1
        go_wp2_with (at_builtin; go_must (refine wpList_append1 rfl _ _ 25 rfl w3.heap.size Tryz.underlying25 aggInfo rfl (by decide) (v := .slice Ao ags.length co) (by rfl) (w0 := WW) (cs := #[.int .i64 0, .string ⟨#[]⟩]) OW.out (by rfl) rfl (by simp [Value.oneCell']) (by decide) (by omega) (by omega) ?_); intro v7 w7 hown7 hg7 hob7)
        have O7 : Hid (w7.ownsRow w3.heap.size 42 2 v7 (ags ++ [(⟨0, ⟨#[]⟩⟩ : AggD)]).length ((ags ++ [(⟨0, ⟨#[]⟩⟩ : AggD)]).flatMap AggD.cells)) := Lib.hid (by rw [List.length_append, List.flatMap_append]; simpa [AggD.cells] using hown7)
        have G7 : Hid (w3.grownBy w7 (some g)) := Lib.hid (only_own GW.out hg7 OW.out (Nat.le_refl _))
        have C7 : Hid (CodesAt w7 g l1 kk) := Lib.hid (CW.out.grown hg7 (by
          intro b' hb' e
          have := (OW.out.lt b' e.symm).1
          omega))
        have HOK7 : Hid (∀ a ∈ ags ++ [(⟨0, ⟨#[]⟩⟩ : AggD)], AggOk a) := Lib.hid (mem_snoc HOK.out HV.out)
        clear hown7 hg7 hob7
        go_wp2_with fail
        go_roundw
        case rel => exact ⟨n - 1, ags ++ [(⟨0, ⟨#[]⟩⟩ : AggD)], kk, by go_num, by omega, by have := HAN.out; rw [List.length_append, List.length_singleton]; omega, HOK7.out, O7.out, C7.out, G7.out⟩
        case measure => simp [intOf]; omega
      · have t1 : (v4 != 0) = true := by simp [h0]
        go_upto_region 8 with fail
        obtain ⟨b, hb⟩ : ∃ b, b = w4.heap.size := ⟨_, rfl⟩
        obtain ⟨W, hW⟩ : ∃ W, W = w4.alloc (.cells #[.int .i64 v4, .string ⟨#[]⟩] 42) := ⟨_, rfl⟩
        have B5 : Hid (Blk W b 42 #[.int .i64 v4, .string ⟨#[]⟩]) := Lib.hid (by rw [hW, hb]; exact Blk.new _ _ _)
        have O5 := Lib.hid (own_ext O4.out (show w4.grownBy W none by rw [hW]; exact only_alloc (only_refl _ _) _))
        have hrow : ∀ q, (Value.slice Ao ags.length co).ownBlock = some q → q < b := fun q hq => by rw [hb]; exact (O4.out.lt q hq).2
        have HROW := Lib.hid hrow
        have G5 : Hid (w3.grownBy W (some g)) := Lib.hid (by rw [hW]; exact only_alloc G4.out _)
        have C5 : Hid (CodesAt W g l1 k4) := Lib.hid (by rw [hW]; exact C4.out.alloc _)
        have hzW := G5.out.size
        have hbW := B5.out.lt
        have hgb : g < b := by rw [hb]; exact hgw4
        have z0 := B5.out.cell 0
        simp at z0
        have hw3b : w3.heap.size ≤ b := by rw [hb]; omega
        have hv40 := hv4.1
        have hv41 := hv4.2
        rw [← hb, ← hW]
        clear hb hW O4 G4 C4 h0 hrow hz4 hgw4
        go_wp2_with fail
        refine (next_some g l1 k4 5 _ (C5.out.alloc _) (by omega) (by omega)).mono ?_
        rintro e w5 ⟨v5, kk, rfl, hv5, h5, hg5⟩
        obtain ⟨j, rfl⟩ := Int.eq_ofNat_of_zero_le hv5.1
        have hj : j < 5 := by omega
        have hB := (Blk.new W _ _).grown hg5 (by simp; omega)
        obtain ⟨x, hc, HX⟩ := hB.str_at (m := 20) (by rfl) (j := j) hj
        have hx : Hid (x.size ≤ 20) := by have := HX.out; exact Lib.hid (by simpa using this)
        have hgA : W.grownBy w5 (some g) := only_trans (only_alloc (only_refl _ _) _) hg5
        have B6 := Lib.hid (B5.out.grown hgA (by intro e; injection e; omega))
        have O6 := Lib.hid (own_only O5.out hgA (by omega))
        have G6 := Lib.hid (only_trans G5.out hgA)
        have C6 := Lib.hid h5
        have f0 := B6.out.frozen 1
        have y1 := B6.out.cell 1
        simp at y1
        have hz6 := hgA.size
        have HV : Hid (AggOk ⟨v4, x⟩) := Lib.hid ⟨hv40, by show v4 ≤ 4; omega, hx.out⟩
        have hne : W.heap.size ≠ b := by omega
        clear hg5 h5 hB HX B5 O5 G5 C5 hgA z0 hv5 hx
        go_upto_region 10 with fail
        obtain ⟨WW, hWW⟩ : ∃ WW, WW = w5.setCell ⟨b, 1, none⟩ (.string x) := ⟨_, rfl⟩
        have hgS : w5.grownBy WW (some b) := by rw [hWW]; exact only_setCell (only_refl _ _) (.inl rfl) _
        have BB : Hid (Blk WW b 42 #[.int .i64 v4, .string x]) := Lib.hid (by rw [hWW]; simpa using B6.out.set_ 1 (.string x))
        have OW : Hid (WW.ownsRow w3.heap.size 42 2 (.slice Ao ags.length co) ags.length (ags.flatMap AggD.cells)) := Lib.hid (O6.out.kept hgS (by
          cases hv : (Value.slice Ao ags.length co).ownBlock with
          | none => exact .inl rfl
          | some q => exact .inr (by have := HROW.out q hv; intro e; injection e; omega)))
        have GW : Hid (w3.grownBy WW (some g)) := Lib.hid (by rw [hWW]; exact only_setOver G6.out (by show w3.heap.size ≤ b; omega) _)
        have CW : Hid (CodesAt WW g l1 kk) := Lib.hid (C6.out.grown hgS (by intro b' hb' e; injection e; omega))
        have hzWW := GW.out.size
        have hbWW := BB.out.lt
        rw [← hWW]
        clear hWW O6 G6 C6 B6 f0 y1 hc t1
        have z0 := BB.out.cell 0
        have z1 := BB.out.cell 1
        simp at z0 z1
        go_wp2_with (at_builtin; go_must (refine wpList_append1 rfl _ _ 25 rfl w3.heap.size Tryz.underlying25 aggInfo rfl (by decide) (v := .slice Ao ags.length co) (by rfl) (w0 := WW) (cs := #[.int .i64 v4, .string x]) OW.out (by rfl) rfl (by simp [Value.oneCell']) (by decide) (by omega) (by omega) ?_); intro v7 w7 hown7 hg7 hob7)
        have O7 : Hid (w7.ownsRow w3.heap.size 42 2 v7 (ags ++ [(⟨v4, x⟩ : AggD)]).length ((ags ++ [(⟨v4, x⟩ : AggD)]).flatMap AggD.cells)) := Lib.hid (by rw [List.length_append, List.flatMap_append]; simpa [AggD.cells] using hown7)
        have G7 : Hid (w3.grownBy w7 (some g)) := Lib.hid (only_own GW.out hg7 OW.out (Nat.le_refl _))
        have C7 : Hid (CodesAt w7 g l1 kk) := Lib.hid (CW.out.grown hg7 (by
          intro b' hb' e
          have := (OW.out.lt b' e.symm).1
          omega))
        have HOK7 : Hid (∀ a ∈ ags ++ [(⟨v4, x⟩ : AggD)], AggOk a) := Lib.hid (mem_snoc HOK.out HV.out)
        clear hown7 hg7 hob7
        go_wp2_with fail
        go_roundw
        case rel => exact ⟨n - 1, ags ++ [(⟨v4, x⟩ : AggD)], kk, by go_num, by omega, by have := HAN.out; rw [List.length_append, List.length_singleton]; omega, HOK7.out, O7.out, C7.out, G7.out⟩
        case measure => simp [intOf]; omega
    · have i1 : ¬ (0 : Int) < (n : Int) := by omega
      have HA1 : Hid (1 ≤ ags.length) := Lib.hid (by have := HAN.out; omega)
      have HA2 : Hid (ags.length ≤ 4) := Lib.hid hal
      have GA := Lib.hid (only_trans G3.out G.out)
      have RA := Lib.hid (R3.out.grown G.out (fun b hb e => by have hq : g < b := hb; injection e; omega))
      go_wp2_with fail
      refine (events_some g l1 k 5 _ C.out (by omega)).mono ?_
      rintro e w8 ⟨A3, c3, es, k8, rfl, he1, he2, he3, he4, he5, he6, h8, hg8⟩
      have R8 := Lib.hid (RA.out.grown hg8 (fun b hb e => by have hq : g < b := hb; injection e; omega))
      have Q8 := Lib.hid ((RO.out.grown hg8 (fun b hb e => by have hq : w3.heap.size ≤ b := hb; injection e; omega)).mono (S' := (g < ·)) (fun b hb _ => by have hq : w3.heap.size ≤ b := hb; show g < b; omega))
      have E8 := Lib.hid (he4.mono (S' := (g < ·)) (fun b hb _ => by have hq : wr.heap.size ≤ b := hb; show g < b; omega))
      have G8 : Hid (w.grownBy w8 none) := Lib.hid (only_fresh (only_refl w none) (only_trans GA.out hg8) (Nat.le_of_eq HGD.out.symm))
      have C8 := Lib.hid h8
      have H1 := Lib.hid he1; have H2 := Lib.hid he2; have H3 := Lib.hid he3; have H5 := Lib.hid he5; have H6 := Lib.hid he6
      clear he1 he2 he3 he4 he5 he6 h8 hg8 RA RO GA G C
      go_wp2_with fail
      exact bodyPost_ret (v := .tuple #[.slice A1 ns.length c1, .slice Ao ags.length co, .slice A3 es.length c3, .pointer (some ⟨g, 0, none⟩)]) (by simp [results, Tryz.results8, go_sem]) rfl ⟨A1, Ao, A3, c1, co, c3, ns, ags, es, g, k8, l1, rfl, HC1.out, HM1.out, hn1, hn2, HNS.out, R8.out, HOC.out, HOM.out, HA1.out, HA2.out, HOK.out, Q8.out, H1.out, H2.out, by have := H3.out; omega, E8.out, H5.out, H6.out, C8.out, by rw [HGD.out]; exact Nat.le_refl _, G8.out⟩
theorem awake_cmp : cmpK [⟨#[97]⟩] [⟨#[98]⟩] = -1 := by
  have h : sl ⟨#[97]⟩ ⟨#[98]⟩ = true := by unfold sl; rw [ByteArray.toList_eq, ByteArray.toList_eq]; simp [Op.bytesLess]
  rw [cmpK, h]; rfl
theorem awake_keys (A B : Option Addr) (c d : Nat) (w' : World) (ha : Rd (fun _ => True) w' A ([⟨#[97]⟩].map .string)) (hb : Rd (fun _ => True) w' B ([⟨#[98]⟩].map .string)) : Calls Tryz.prog 15 #[.slice A 1 c, .slice B 1 d] w' (IntP (-1) w') := by
  rw [← awake_cmp]
  have h0 := pcmp_any A B [⟨#[97]⟩] [⟨#[98]⟩] c d w' ha hb (by simp) (by simp)
  exact h0
/-- the sanity check -/
theorem awake_any (w : World) : Calls Tryz.prog 7 #[] w (fun e w' => e = .returned (.bool true) ∧ w.grownBy w' none) := by
  have HC := fun (A B : Option Addr) (c d : Nat) (w' : World) ha hb => awake_keys A B c d w' ha hb
  have RD : Hid (∀ (w' : World) (b : Nat) (x : ByteArray), Blk w' b 9 #[.string x] → Rd (fun _ => True) w' (some ⟨b, 0, none⟩) ([x].map .string)) := Lib.hid (fun w' b x hB _ => ⟨b, 0, rfl, trivial, hB.lt, fun j u hu => by
    rw [Nat.zero_add, hB.cell j]
    simpa using hu⟩)
  have ha := RD.out ((w.alloc (.cells #[.string ⟨#[97]⟩] 9)).alloc (.cells #[.string ⟨#[98]⟩] 9)) w.heap.size ⟨#[97]⟩ ((Blk.new w 9 #[.string ⟨#[97]⟩]).alloc _)
  have hb := RD.out ((w.alloc (.cells #[.string ⟨#[97]⟩] 9)).alloc (.cells #[.string ⟨#[98]⟩] 9)) (w.alloc (.cells #[.string ⟨#[97]⟩] 9)).heap.size ⟨#[98]⟩ (Blk.new _ _ _)
  have K := HC _ _ 1 1 _ ha hb
  rw [show (w.alloc (.cells #[.string ⟨#[97]⟩] 9)).heap.size = w.heap.size + 1 by simp] at K
  have KK := Lib.hid K
  clear ha hb K HC RD
  go_enter Tryz.func7, Tryz.ntmps7
  go_wp2_with fail
  refine KK.out.mono ?_
  rintro e w1 ⟨rfl, rfl⟩
  go_wp2_with fail
  go_ret
  exact ⟨rfl, only_alloc (only_alloc (only_refl _ _) _) _⟩
end Go.Proofs.YtfkgcighooijhaaGreatDoor

namespace Go.Proofs.YtfkgcighooijhaaGreatDoor
open Go.RowKit
set_option linter.unusedVariables false
set_option linter.unusedSimpArgs false

theorem EvGood.evV37 {e : Ev} (h : EvGood e) : EvV e := by
  obtain ⟨hf, -⟩ := id h
  refine ⟨h.evI0, ?_, ?_, fun f hfm => ?_⟩
  · have := hf.2.2.2.1; omega
  · have := hf.2.2.2.2.1; omega
  · have := hf.2.2.2.2.2.2 f hfm; omega
theorem EvGood.wt {e : Ev} (h : EvGood e) : 0 ≤ e.weight ∧ e.weight ≤ 5040 := by
  have := h.1.2.2.1
  unfold IsWeight at this
  omega
end Go.Proofs.YtfkgcighooijhaaGreatDoor

namespace Go.Proofs.YtfkgcighooijhaaGreatDoor
open Go.RowKit
set_option linter.unusedVariables false
set_option linter.unusedSimpArgs false

theorem okS_coll {ps : List PD} {names : List ByteArray} {ags : List AggD} {es : List Ev} (h : ps.map PD.pl = collF names ags es) (hn : names.length ≤ 1000) (ha : ags.length ≤ 1000) (he : es.length ≤ 40000) : (∀ p ∈ ps, OkS p) ∧ ps.length ≤ es.length := by
  have h1 := coll_okP h hn (by omega)
  exact ⟨fun p hp => by have h2 := h1.1 p hp; exact ⟨by have := h2.1; omega, by have := h2.2.1; omega, h2.2.2⟩, h1.2⟩
theorem okR_of {rs : List RwD} {ps : List PD} (h : rs.map RwD.pl = (ps.map PD.pl).map rowP) (hp : ∀ p ∈ ps, OkS p) : ∀ r ∈ rs, OkR r := by
  intro r hr
  have h1 : r.pl ∈ (ps.map PD.pl).map rowP := by rw [← h]; exact List.mem_map.2 ⟨r, hr, rfl⟩
  rw [List.map_map] at h1
  obtain ⟨p, hpm, e⟩ := List.mem_map.1 h1
  have h2 := hp p hpm
  have e1 : p.key.l = r.key.l := congrArg Prod.fst e
  have e2 : (p.cs.map CM.pl).map (·.t) = r.nl := congrArg Prod.snd e
  have e3 := congrArg List.length e2
  simp at e3
  exact ⟨by have := h2.2.1; rw [← e1]; omega, by have := h2.1; omega⟩
set_option maxHeartbeats 16000000 in
set_option maxRecDepth 100000 in
theorem law_collect (A : Option Addr) (l : List Int) (c : Nat) (w : World) (hPow : Pow10 w)
    (h : Rd (fun _ => True) w A (l.map (.int .u8))) (hc : l.length ≤ c) (hcm : c ≤ maxLen) (hx : ∀ x ∈ l, 0 ≤ x ∧ x ≤ 255) :
    Calls Tryz.prog 6 #[.slice A l.length c] w (fun e w' => e = .returned (.bool true) ∧ w.grownBy w' none) := by
  have HS : Hid (∀ w', w.grownBy w' none → Calls Tryz.prog 8 #[.slice A l.length c] w' (ScenePost w')) := fun w' hg => scene_any A l c w' (h.grown hg (by simp)) hc hcm hx
  have HP : Hid (∀ w', w.grownBy w' none → Pow10 w') := Lib.hid (fun w' hg => hPow.grown hg)
  clear h hc hcm hx hPow
  go_enter Tryz.func6, Tryz.ntmps6
  go_wp2_with fail
  refine (awake_any _).mono ?_
  rintro e w1 ⟨rfl, hg1⟩
  have G1 := Lib.hid hg1
  clear hg1
  go_wp2_with fail
  refine (HS.out _ G1.out).mono ?_
  rintro e w2 ⟨A1, A2, A3, c1, c2, c3, ns, ags, es, g, k0, l0, rfl, n1, n2, n3, n4, hns, hrn, a1, a2, a3, a4, hao, hra, e1, e2, e3, hev, -, hgd, -, -, hg2⟩
  have G2 := Lib.hid (only_trans G1.out hg2)
  have HNS : Hid (∀ n ∈ ns, n.size ≤ 1000) := Lib.hid (fun n hn => by have := hns n hn; omega)
  have RN := Lib.hid hrn
  have RA := Lib.hid hra
  have HAO := Lib.hid hao
  have EV := Lib.hid hev
  have PT := Lib.hid (HP.out _ G2.out)
  have HNV : Hid (∀ e ∈ es, EvV e) := Lib.hid (fun e he => (hgd e he).evV37)
  have HNN : Hid (∀ e ∈ es, EvN e) := Lib.hid (fun e he => (hgd e he).evN0)
  have HE1 := Lib.hid e1
  have HN1 := Lib.hid n1
  have HA1 := Lib.hid a1
  have HSN : Hid (∀ (k : Nat) (y : Ev), es[k]? = some y → mergeP ags (collF ns ags (es.take k)) [oneP ns ags y] = collF ns ags (es.take (k + 1))) := Lib.hid (fun k y hy => by
    obtain ⟨h1, e⟩ := List.getElem?_eq_some_iff.1 hy
    rw [List.take_succ_eq_append_getElem h1, e, collF_snoc])
  have KADD : Hid (∀ (Ap : Option Addr) (ps : List PD) (cp : Nat) (e : Ev) (k : Nat) (w' : World), w2.grownBy w' none → PDs (w2.heap.size ≤ ·) w' Ap ps → ps.length ≤ cp → ps.map PD.pl = collF ns ags (es.take k) → e ∈ es → Calls Tryz.prog 21 #[.slice Ap ps.length cp, .slice A1 ns.length c1, .slice A2 ags.length c2, .agg e.cells.toArray] w' (PartsP w' (mergeP ags (collF ns ags (es.take k)) [oneP ns ags e]))) := Lib.hid (fun Ap ps cp e k w' hg h1 h2 h3 h4 => by
    have h5 := coll_okP h3 (by omega) (by rw [List.length_take]; omega)
    have h0 := gadd_any Ap ps cp A1 ns c1 A2 ags c2 e w' h1 h2 h5.1 (by have := h5.2; rw [List.length_take] at this; omega) (hrn.grown hg (by simp)) (by omega) HNS.out (hra.grown hg (by simp)) (by omega) hao ((hev.2 e h4).grown hg (by simp)) (HNV.out e h4) (PT.out.grown hg)
    rw [h3] at h0
    exact h0)
  have KRC : Hid (∀ w', w2.grownBy w' none → Calls Tryz.prog 22 #[.slice A1 ns.length c1, .slice A2 ags.length c2, .slice A3 es.length c3] w' (PartsP w' (collF ns ags es))) := Lib.hid (fun w' hg => rcoll37_any A1 ns c1 A2 ags c2 A3 es c3 w' (hrn.grown hg (by simp)) (by omega) HNS.out (hra.grown hg (by simp)) (by omega) hao (hev.grown hg (by simp)) (by omega) HNV.out HNN.out)
  have KGC : Hid (∀ w', w2.grownBy w' none → Calls Tryz.prog 10 #[.slice A1 ns.length c1, .slice A2 ags.length c2, .slice A3 es.length c3] w' (PartsP w' (collF ns ags es))) := Lib.hid (fun w' hg => gcoll_any A1 ns c1 A2 ags c2 w' (hrn.grown hg (by simp)) (by omega) HNS.out (hra.grown hg (by simp)) (by omega) hao (PT.out.grown hg) 50 _ A3 es c3 w' (by omega) (only_refl _ _) (hev.grown hg (by simp)) e1 (by omega) HNV.out)
  clear HS hns hrn hra hao hev hgd hg2 G1 HP n1 n2 e1 e2 a1 a2
  go_wp2_with fail
  go_loopw [7, 8] (fun v7 v8 wr => ∃ (k : Nat) (Ap : Option Addr) (ps : List PD) (cp : Nat), v8 = .int .i64 k ∧ k ≤ es.length ∧ v7 = .slice Ap ps.length cp ∧ ps.map PD.pl = collF ns ags (es.take k) ∧ ps.length ≤ cp ∧ cp ≤ maxLen ∧ PDs (w2.heap.size ≤ ·) wr Ap ps ∧ w2.grownBy wr none) (fun _ v8 _ => es.length - (intOf v8).toNat)
  case atStart => exact ⟨0, none, [], 0, rfl, Nat.zero_le _, rfl, rfl, Nat.le_refl _, Nat.zero_le _, ⟨Rd.nil, by simp⟩, only_refl _ _⟩
  case round =>
    obtain ⟨k, Ap, ps, cp, rfl, hk, rfl, hps, hcp, hcm, hP, hG⟩ := hrel
    have HPS := Lib.hid hps
    have HPD := Lib.hid hP
    have G := Lib.hid hG
    have HCP := Lib.hid (And.intro hcp hcm)
    clear hps hP hG hcp hcm
    by_cases hlt : k < es.length
    · obtain ⟨y, hy⟩ : ∃ y, es[k]? = some y := ⟨_, List.getElem?_eq_getElem hlt⟩
      obtain ⟨kb, ko, eE, hkw, z0, z1, z2, z3, z4, z5, z6, z7, z8, z9⟩ := ev_in (EV.out.1.grown G.out (by simp)) hy
      subst eE
      have KA := Lib.hid (KADD.out Ap ps cp y k wr G.out HPD.out HCP.out.1 HPS.out (List.mem_of_getElem? hy))
      have hycl : y.cells.toArray = #[.int .i64 y.host, .int .i64 y.file, .int .i64 y.beg, .int .i64 y.fin, .slice y.la y.lines.length y.lc, .int .i64 y.time, .int .i64 y.weight, .string y.trace, .string y.stream, .slice y.fa y.fields.length y.fc] := rfl
      rw [hycl, HSN.out k y hy] at KA
      have i1 : (k : Int) < (es.length : Int) := by omega
      clear hy hycl
      go_wp2_with fail
      refine KA.out.mono ?_
      rintro e w3 ⟨AR, cR, rs, rfl, r1, r2, r3, r4, hg3⟩
      have hz := G.out.size
      have R1 := Lib.hid r1
      have R2 := Lib.hid (And.intro r2 r3)
      have RP : Hid (PDs (w2.heap.size ≤ ·) w3 AR rs) := Lib.hid (r4.mono (fun b hb _ => Nat.le_trans hz hb))
      have G3 := Lib.hid (only_trans G.out hg3)
      clear r1 r2 r3 r4 hg3 hz z0 z1 z2 z3 z4 z5 z6 z7 z8 z9
      go_wp2_with fail
      go_roundw
      case rel => exact ⟨k + 1, AR, rs, cR, by go_num, by omega, rfl, R1.out, R2.out.1, R2.out.2, RP.out, G3.out⟩
      case measure => simp [intOf]; omega
    · have i1 : ¬ (k : Int) < (es.length : Int) := by omega
      have hke : k = es.length := by omega
      have HPS2 : Hid (ps.map PD.pl = collF ns ags es) := Lib.hid (by rw [HPS.out, hke, List.take_length])
      clear hke HPS
      obtain ⟨Z, hZ⟩ : ∃ Z, Z = collF ns ags es := ⟨_, rfl⟩
      rw [← hZ] at KRC KGC
      have HZ := Lib.hid hZ
      have OKP := Lib.hid (okS_coll HPS2.out (by omega) (by omega) (by omega))
      clear hZ
      go_wp2_with fail
      refine (KRC.out _ G.out).mono ?_
      rintro e w3 ⟨AQ, cQ, qs, rfl, q1, q2, q3, q4, hg3⟩
      have G3 := Lib.hid (only_trans G.out hg3)
      have HPD3 := Lib.hid (HPD.out.grown hg3 (by simp))
      have HQ := Lib.hid q4
      have Q1 := Lib.hid q1
      have OKQ := Lib.hid (okS_coll (q1.trans HZ.out) (by omega) (by omega) (by omega))
      clear q1 q2 q3 q4 hg3
      go_wp2_with fail
      refine (rsame_any Ap ps cp AQ qs cQ w3 HPD3.out HQ.out (HPS2.out.trans (HZ.out.symm.trans Q1.out.symm)) (by have := OKP.out.2; omega) OKP.out.1).mono ?_
      rintro e w4 ⟨rfl, hg4⟩
      have G4 := Lib.hid (only_trans G3.out hg4)
      have HPD4 := Lib.hid (HPD3.out.grown hg4 (by simp))
      have HQ4 := Lib.hid (HQ.out.grown hg4 (by simp))
      clear hg4
      go_wp2_with fail
      refine (KGC.out _ G4.out).mono ?_
      rintro e w5 ⟨AR, cR, rs, rfl, r1, r2, r3, r4, hg5⟩
      have G5 := Lib.hid (only_trans G4.out hg5)
      have HPD5 := Lib.hid (HPD4.out.grown hg5 (by simp))
      have HQ5 := Lib.hid (HQ4.out.grown hg5 (by simp))
      have HR := Lib.hid r4
      have R1 := Lib.hid r1
      have OKR2 := Lib.hid (okS_coll (r1.trans HZ.out) (by omega) (by omega) (by omega))
      clear r1 r2 r3 r4 hg5
      go_wp2_with fail
      refine (rsame_any AR rs cR AQ qs cQ w5 HR.out HQ5.out (R1.out.trans Q1.out.symm) (by have := OKR2.out.2; omega) OKR2.out.1).mono ?_
      rintro e w6 ⟨rfl, hg6⟩
      have G6 := Lib.hid (only_trans G5.out hg6)
      have HPD6 := Lib.hid (HPD5.out.grown hg6 (by simp))
      have HQ6 := Lib.hid (HQ5.out.grown hg6 (by simp))
      clear hg6
      go_wp2_with fail
      refine (grows_any A2 ags.length c2 Ap ps cp w6 HPD6.out (by have := OKP.out.2; omega) (fun p hp => ⟨(OKP.out.1 p hp).1, (OKP.out.1 p hp).2.1⟩)).mono ?_
      rintro e w7 ⟨AS, cS, ss, rfl, s1, s2, s3, s4, hg7⟩
      have G7 := Lib.hid (only_trans G6.out hg7)
      have HQ7 := Lib.hid (HQ6.out.grown hg7 (by simp))
      have S1 := Lib.hid s1
      have S4 := Lib.hid s4
      clear s1 s2 s3 s4 hg7
      go_wp2_with fail
      refine (rrows_any A2 ags.length c2 AQ qs cQ w7 HQ7.out (by have := OKQ.out.2; omega) (fun p hp => ⟨(OKQ.out.1 p hp).1, (OKQ.out.1 p hp).2.1⟩)).mono ?_
      rintro e w8 ⟨AT, cT, ts, rfl, t1, t2, t3, t4, hg8⟩
      have G8 := Lib.hid (only_trans G7.out hg8)
      have S8 := Lib.hid (S4.out.grown hg8 (by simp))
      have T1 := Lib.hid t1
      have T4 := Lib.hid t4
      clear t1 t2 t3 t4 hg8
      go_wp2_with fail
      have hsl : ss.length = ps.length := by have := congrArg List.length S1.out; simpa using this
      refine (rsamerows_any AS ss cS AT ts cT w8 S8.out T4.out (by rw [S1.out, T1.out, HPS2.out, Q1.out, HZ.out]) (by have := OKP.out.2; omega) (okR_of S1.out OKP.out.1)).mono ?_
      rintro e w9 ⟨rfl, hg9⟩
      have G9 := Lib.hid (only_trans G2.out (only_trans G8.out hg9))
      clear hg9 hsl
      go_wp2_with fail
      go_ret
      exact ⟨rfl, G9.out⟩
end Go.Proofs.YtfkgcighooijhaaGreatDoor
