/- Equality of slices (strings, ints, bytes) of the reference of chapter 23. No condition. -/
import Derived.Test.YtganfhmjklcchaaGreatJBase
import Derived.Test.YtganfhmjklcchaaGreatJCloneY
import Derived.Test.YtganfhmjklcchaaGreatJGenC
import Derived.Deep.DeepCutAuto
import Derived.Test.YtganfhmjklcchaaGreatJDrw27
import Derived.Deep.RegionLaw
namespace Go.Proofs.YtganfhmjklcchaaGreat
open Go.RowKit
set_option linter.unusedVariables false
set_option linter.unusedSimpArgs false


set_option maxHeartbeats 1000000 in
theorem samebytes_any {S S' : Nat → Prop} (A B : Option Addr) (a b : List Int) (c d : Nat) (w : World) (ha : Rd S w A (a.map (.int .u8))) (hb : Rd S' w B (b.map (.int .u8))) (hl : a.length ≤ 10000000) (hl2 : b.length ≤ 10000000) (v : Bool) (hv : v = true ↔ a = b) :
    Calls Tryz.prog 14 #[.slice A a.length c, .slice B b.length d] w (Quiet (.bool v) w) := by
  have HA := Lib.hid ha
  have HB := Lib.hid hb
  have HV := Lib.hid hv
  clear ha hb hv
  by_cases hlen : a.length = b.length
  · have t1 : ((a.length : Int) != (b.length : Int)) = false := by simp [hlen]
    have HLEN := Lib.hid hlen
    have hle1 : a.length ≤ b.length := by omega
    have hle2 : b.length ≤ a.length := by omega
    clear hlen
    go_enter Tryz.func14, Tryz.ntmps14
    go_wp2
    go_loopw [5] (fun i wr => ∃ k : Nat, k ≤ a.length ∧ i = .int .i64 k ∧ (∀ i, i < k → a[i]? = b[i]?) ∧ ∃ q, wr = w.drewN q) (fun i _ => a.length - (intOf i).toNat)
    case atStart => exact ⟨0, Nat.zero_le _, rfl, fun i hi => absurd hi (by omega), 0, rfl⟩
    case round =>
      obtain ⟨k, hk, rfl, hall, q, rfl⟩ := hrel
      have AL := Lib.hid hall
      clear hall
      by_cases hlt : k < a.length
      · obtain ⟨b1, o1, x, rfl, hc1, hx⟩ := HA.out.i_at hlt
        obtain ⟨b2, o2, y, rfl, hc2, hy⟩ := HB.out.i_at (k := k) (by omega)
        have i1 : (k : Int) < (a.length : Int) := by omega
        have i2 : (k : Int) < (b.length : Int) := by omega
        by_cases hxy : x = y
        · have t2 : (x != y) = false := by simp [hxy]
          have HXY := Lib.hid hxy
          clear hxy
          go_wp2
          go_quiet (fail)
          go_wp2
          go_roundw
          case rel =>
            refine ⟨k + 1, by omega, by go_num, fun i hi => ?_, _, rfl⟩
            rcases Nat.lt_or_ge i k with h | h
            · exact AL.out i h
            · obtain rfl : i = k := by omega
              rw [hx.out, hy.out, HXY.out]
          case measure => simp [intOf]; omega
        · have t2 : (x != y) = true := by simp [hxy]
          have hne : v = false := by
            cases hv : v with
            | false => rfl
            | true =>
              have := HV.out.1 hv
              rw [this] at hx
              rw [hx.out] at hy
              have := hy.out
              injection this with this
              exact absurd this hxy
          have HNE := Lib.hid hne
          clear hxy hne
          go_wp2
          go_quiet (fail)
          go_wp2
          go_ret
          exact ⟨by rw [HNE.out]; rfl, _, World.drewN_drewN _ _ _⟩
      · have hv1 : v = true := HV.out.2 (take_eq_all HLEN.out (fun i hi => AL.out i (by omega)))
        have HV1 := Lib.hid hv1
        clear hv1
        go_wp2
        go_ret
        exact ⟨by rw [HV1.out]; rfl, _, rfl⟩
  · have t1 : ((a.length : Int) != (b.length : Int)) = true := by simp; omega
    have hne : v = false := by
      cases hv : v with
      | false => rfl
      | true => exact absurd (congrArg List.length (HV.out.1 hv)) hlen
    have HNE := Lib.hid hne
    clear hlen hne
    go_enter Tryz.func14, Tryz.ntmps14
    go_wp2
    go_ret
    exact ⟨by rw [HNE.out]; rfl, 0, rfl⟩
end Go.Proofs.YtganfhmjklcchaaGreat

namespace Go.Proofs.YtganfhmjklcchaaGreat
open Go.RowKit
set_option linter.unusedVariables false
set_option linter.unusedSimpArgs false

set_option maxHeartbeats 8000000 in
set_option maxRecDepth 100000 in
theorem rsame33_true {S S' S2 S3 : Nat → Prop} (A B : Option Addr) (al bl : List BlobD) (n c d : Nat) (w : World) (hn : al.length = n) (hn2 : bl.length = n) (ha : Rd S w A (al.flatMap BlobD.cells)) (hb : Rd S' w B (bl.flatMap BlobD.cells)) (sa : ∀ x ∈ al, x.Sub S2 w) (sb : ∀ x ∈ bl, x.Sub S3 w) (hal : Alike al bl) (hl : n ≤ 100000) :
    Calls Tryz.prog 8 #[.slice A n c, .slice B n d] w (TrueExt w) := by
  have HA := Lib.hid ha
  have HB := Lib.hid hb
  have SA := Lib.hid sa
  have SB := Lib.hid sb
  have AL := Lib.hid hal
  have HN := Lib.hid hn
  have HN2 := Lib.hid hn2
  clear ha hb sa sb hal hn hn2
  go_enter Tryz.func8, Tryz.ntmps8
  go_wp2_with fail
  go_loopw [5] (fun vi wr => ∃ k : Nat, vi = .int .i64 k ∧ k ≤ n ∧ w.grownBy wr none) (fun vi _ => n - (intOf vi).toNat)
  case atStart => exact ⟨0, rfl, Nat.zero_le _, only_refl _ _⟩
  case round =>
    obtain ⟨k, rfl, hk, hG⟩ := hrel
    have G := Lib.hid hG
    clear hG
    by_cases hlt : k < n
    · obtain ⟨x, hx⟩ : ∃ x, al[k]? = some x := ⟨_, List.getElem?_eq_getElem (by rw [HN.out]; exact hlt)⟩
      obtain ⟨y, hy⟩ : ∃ y, bl[k]? = some y := ⟨_, List.getElem?_eq_getElem (by rw [HN2.out]; exact hlt)⟩
      have HX := Lib.hid hx
      have HY := Lib.hid hy
      have hkey := AL.out.at_ k
      rw [hx, hy] at hkey
      injection hkey with hkey
      unfold BlobD.key at hkey
      injection hkey with h1 h2
      injection h2 with h2 h3
      have EY : Hid (y.cells = [.int .i64 x.id, .int .i64 x.tier, .slice y.A x.data.length y.c]) := Lib.hid (by unfold BlobD.cells; rw [h1, h2, h3])
      have ED : Hid (y.data = x.data) := Lib.hid h3.symm
      have UX := Lib.hid (SA.out x (List.mem_of_getElem? hx))
      have UY := Lib.hid (SB.out y (List.mem_of_getElem? hy))
      obtain ⟨b1, o1, rfl, -, -, -⟩ := HA.out (by rw [flat_len _ 3 BlobD.cells_len, HN.out]; omega)
      obtain ⟨b2, o2, rfl, -, -, -⟩ := HB.out (by rw [flat_len _ 3 BlobD.cells_len, HN2.out]; omega)
      have i1 : (k : Int) < (n : Int) := by omega
      clear hx hy h1 h2 h3
      go_wp2_with fail
      obtain ⟨W0, hW0⟩ : ∃ W0, W0 = wr := ⟨_, rfl⟩
      subst hW0
      refine wp_region_gen 35 (JC (some (.slice (some ⟨b1, o1, none⟩) (n) (c)) :: some (.int .i64 ((k : Int))) :: some (.pointer (some ⟨b1, o1 + k * 3, none⟩)) :: some (.pointer (some ⟨b1, o1 + k * 3, none⟩)) :: some (.int .i64 (x.id)) :: some (.slice (some ⟨b2, o2, none⟩) (n) (d)) :: some (.int .i64 ((k : Int))) :: some (.pointer (some ⟨b2, o2 + k * 3, none⟩)) :: some (.pointer (some ⟨b2, o2 + k * 3, none⟩)) :: some (.int .i64 (x.id)) :: some (.bool false) :: some (.bool false) :: some (.slice (some ⟨b1, o1, none⟩) (n) (c)) :: some (.int .i64 ((k : Int))) :: some (.pointer (some ⟨b1, o1 + k * 3, none⟩)) :: some (.pointer (some ⟨b1, o1 + k * 3 + 1, none⟩)) :: some (.int .i64 (x.tier)) :: some (.slice (some ⟨b2, o2, none⟩) (n) (d)) :: some (.int .i64 ((k : Int))) :: some (.pointer (some ⟨b2, o2 + k * 3, none⟩)) :: some (.pointer (some ⟨b2, o2 + k * 3 + 1, none⟩)) :: some (.int .i64 (x.tier)) :: some (.bool false) :: some (.bool false) :: some (.bool false) :: some (.slice (some ⟨b1, o1, none⟩) (n) (c)) :: some (.int .i64 ((k : Int))) :: some (.pointer (some ⟨b1, o1 + k * 3, none⟩)) :: some (.pointer (some ⟨b1, o1 + k * 3 + 2, none⟩)) :: some (.slice x.A x.data.length x.c) :: some (.slice (some ⟨b2, o2, none⟩) (n) (d)) :: some (.int .i64 ((k : Int))) :: some (.pointer (some ⟨b2, o2 + k * 3, none⟩)) :: some (.pointer (some ⟨b2, o2 + k * 3 + 2, none⟩)) :: some (.slice y.A x.data.length y.c) :: []) (fun D u wx => W0.grownBy wx none)) (by kernel_rfl) (by kernel_rfl) ?_ ?_ ?_
      · intro u
        exact ⟨(fun j c _ h => by cases h), only_drew (only_refl _ _)⟩
      · intro AA hA
        have hasz : AA.tmps.size = 55 := by rw [hA]; kernel_rfl
        have ea0 : AA.eval (.tmp 0) = .slice (some ⟨b1, o1, none⟩) (n) (c) := by rw [hA]; kernel_rfl
        have ea1 : AA.eval (.tmp 1) = .slice (some ⟨b2, o2, none⟩) (n) (d) := by rw [hA]; kernel_rfl
        have ea5 : AA.eval (.tmp 5) = .int .i64 ((k : Int)) := by rw [hA]; kernel_rfl
        clear hA
        simp only [List.take_succ_cons, List.take_zero]
        refine .cons ?_ (.cons ?_ (.cons ?_ (.cons ?_ (.cons ?_ (.cons ?_ (.cons ?_ (.cons ?_ (.cons ?_ (.cons ?_ (.cons ?_ (.cons ?_ (.cons ?_ (.cons ?_ (.cons ?_ (.cons ?_ (.cons ?_ (.cons ?_ (.cons ?_ (.cons ?_ (.cons ?_ (.cons ?_ (.cons ?_ (.cons ?_ (.cons ?_ (.cons ?_ (.cons ?_ (.cons ?_ (.cons ?_ (.cons ?_ (.cons ?_ (.cons ?_ (.cons ?_ (.cons ?_ (.cons ?_ (.nil)))))))))))))))))))))))))))))))))))
        · exact gd_gen (by kernel_rfl) (Want.none_ rfl) rfl (fun D u w v h => by simpa [updB, upd] using h) (fun D u ρ w kn => by
            have e0 := kn.own 0 (c := .slice (some ⟨b1, o1, none⟩) (n) (c)) (by kernel_rfl) ea0
            simp [execOp, kn.rho.con, e0, go_sem])
        · exact gd_gen (by kernel_rfl) (Want.none_ rfl) rfl (fun D u w v h => by simpa [updB, upd] using h) (fun D u ρ w kn => by
            have e0 := kn.own 5 (c := .int .i64 ((k : Int))) (by kernel_rfl) ea5
            simp [execOp, kn.rho.con, e0, go_sem])
        · exact gd_gen (by kernel_rfl) (Want.none_ rfl) rfl (fun D u w v h => by simpa [updB, upd] using h) (fun D u ρ w kn => by
            have e0 := kn.con 0 17 (c := .slice (some ⟨b1, o1, none⟩) (n) (c)) (by kernel_rfl) (by omega) (by kernel_rfl) rfl
            have e1 := kn.con 1 18 (c := .int .i64 ((k : Int))) (by kernel_rfl) (by omega) (by kernel_rfl) rfl
            simp [execOp, kn.rho.con, e0, e1, go_sem, i1])
        · exact gd_gen (by kernel_rfl) (Want.none_ rfl) rfl (fun D u w v h => by simpa [updB, upd] using h) (fun D u ρ w kn => by
            have e0 := kn.con 2 19 (c := .pointer (some ⟨b1, o1 + k * 3, none⟩)) (by kernel_rfl) (by omega) (by kernel_rfl) rfl
            simp [execOp, kn.rho.con, e0, go_sem])
        · exact gd_gen (by kernel_rfl) (Want.none_ rfl) rfl (fun D u w v h => by simpa [updB, upd] using h) (fun D u ρ w kn => by
            have e0 := kn.con 3 20 (c := .pointer (some ⟨b1, o1 + k * 3, none⟩)) (by kernel_rfl) (by omega) (by kernel_rfl) rfl
            have f0 := (show w.cell? ⟨b1, o1 + k * 3, none⟩ = some (.int .i64 (x.id)) from (HA.out.grown (only_trans G.out kn.ext) (by simp)).flatAt BlobD.cells_len HX.out 0 (by omega))
            simp [execOp, kn.rho.con, e0, f0, go_sem])
        · exact gd_gen (by kernel_rfl) (Want.none_ rfl) rfl (fun D u w v h => by simpa [updB, upd] using h) (fun D u ρ w kn => by
            have e0 := kn.own 1 (c := .slice (some ⟨b2, o2, none⟩) (n) (d)) (by kernel_rfl) ea1
            simp [execOp, kn.rho.con, e0, go_sem])
        · exact gd_gen (by kernel_rfl) (Want.none_ rfl) rfl (fun D u w v h => by simpa [updB, upd] using h) (fun D u ρ w kn => by
            have e0 := kn.own 5 (c := .int .i64 ((k : Int))) (by kernel_rfl) ea5
            simp [execOp, kn.rho.con, e0, go_sem])
        · exact gd_gen (by kernel_rfl) (Want.none_ rfl) rfl (fun D u w v h => by simpa [updB, upd] using h) (fun D u ρ w kn => by
            have e0 := kn.con 5 22 (c := .slice (some ⟨b2, o2, none⟩) (n) (d)) (by kernel_rfl) (by omega) (by kernel_rfl) rfl
            have e1 := kn.con 6 23 (c := .int .i64 ((k : Int))) (by kernel_rfl) (by omega) (by kernel_rfl) rfl
            simp [execOp, kn.rho.con, e0, e1, go_sem, i1])
        · exact gd_gen (by kernel_rfl) (Want.none_ rfl) rfl (fun D u w v h => by simpa [updB, upd] using h) (fun D u ρ w kn => by
            have e0 := kn.con 7 24 (c := .pointer (some ⟨b2, o2 + k * 3, none⟩)) (by kernel_rfl) (by omega) (by kernel_rfl) rfl
            simp [execOp, kn.rho.con, e0, go_sem])
        · exact gd_gen (by kernel_rfl) (Want.none_ rfl) rfl (fun D u w v h => by simpa [updB, upd] using h) (fun D u ρ w kn => by
            have e0 := kn.con 8 25 (c := .pointer (some ⟨b2, o2 + k * 3, none⟩)) (by kernel_rfl) (by omega) (by kernel_rfl) rfl
            have f0 := (show w.cell? ⟨b2, o2 + k * 3, none⟩ = some (.int .i64 (x.id)) from ((HB.out.grown (only_trans G.out kn.ext) (by simp)).flatAt BlobD.cells_len HY.out 0 (by omega)).trans (by rw [EY.out]; rfl))
            simp [execOp, kn.rho.con, e0, f0, go_sem])
        · exact gd_gen (by kernel_rfl) (Want.none_ rfl) rfl (fun D u w v h => by simpa [updB, upd] using h) (fun D u ρ w kn => by
            have e0 := kn.con 4 21 (c := .int .i64 (x.id)) (by kernel_rfl) (by omega) (by kernel_rfl) rfl
            have e1 := kn.con 9 26 (c := .int .i64 (x.id)) (by kernel_rfl) (by omega) (by kernel_rfl) rfl
            simp [execOp, kn.rho.con, e0, e1, go_sem])
        · exact gd_gen (by kernel_rfl) (Want.none_ rfl) rfl (fun D u w v h => by simpa [updB, upd] using h) (fun D u ρ w kn => by
            have e0 := kn.con 10 27 (c := .bool false) (by kernel_rfl) (by omega) (by kernel_rfl) rfl
            simp [execOp, kn.rho.con, e0, go_sem])
        · exact gd_gen (by kernel_rfl) (Want.some_ (g := 11) (v := false) rfl rfl (by kernel_rfl) (by omega) rfl rfl (by kernel_rfl)) rfl (fun D u w v h => by simpa [updB, upd] using h) (fun D u ρ w kn => by
            have e0 := kn.own 0 (c := .slice (some ⟨b1, o1, none⟩) (n) (c)) (by kernel_rfl) ea0
            simp [execOp, kn.rho.con, e0, go_sem])
        · exact gd_gen (by kernel_rfl) (Want.some_ (g := 11) (v := false) rfl rfl (by kernel_rfl) (by omega) rfl rfl (by kernel_rfl)) rfl (fun D u w v h => by simpa [updB, upd] using h) (fun D u ρ w kn => by
            have e0 := kn.own 5 (c := .int .i64 ((k : Int))) (by kernel_rfl) ea5
            simp [execOp, kn.rho.con, e0, go_sem])
        · exact gd_gen (by kernel_rfl) (Want.some_ (g := 11) (v := false) rfl rfl (by kernel_rfl) (by omega) rfl rfl (by kernel_rfl)) rfl (fun D u w v h => by simpa [updB, upd] using h) (fun D u ρ w kn => by
            have e0 := kn.con 12 29 (c := .slice (some ⟨b1, o1, none⟩) (n) (c)) (by kernel_rfl) (by omega) (by kernel_rfl) rfl
            have e1 := kn.con 13 30 (c := .int .i64 ((k : Int))) (by kernel_rfl) (by omega) (by kernel_rfl) rfl
            simp [execOp, kn.rho.con, e0, e1, go_sem, i1])
        · exact gd_gen (by kernel_rfl) (Want.some_ (g := 11) (v := false) rfl rfl (by kernel_rfl) (by omega) rfl rfl (by kernel_rfl)) rfl (fun D u w v h => by simpa [updB, upd] using h) (fun D u ρ w kn => by
            have e0 := kn.con 14 31 (c := .pointer (some ⟨b1, o1 + k * 3, none⟩)) (by kernel_rfl) (by omega) (by kernel_rfl) rfl
            simp [execOp, kn.rho.con, e0, go_sem])
        · exact gd_gen (by kernel_rfl) (Want.some_ (g := 11) (v := false) rfl rfl (by kernel_rfl) (by omega) rfl rfl (by kernel_rfl)) rfl (fun D u w v h => by simpa [updB, upd] using h) (fun D u ρ w kn => by
            have e0 := kn.con 15 32 (c := .pointer (some ⟨b1, o1 + k * 3 + 1, none⟩)) (by kernel_rfl) (by omega) (by kernel_rfl) rfl
            have f0 := (show w.cell? ⟨b1, o1 + k * 3 + 1, none⟩ = some (.int .i64 (x.tier)) from (HA.out.grown (only_trans G.out kn.ext) (by simp)).flatAt BlobD.cells_len HX.out 1 (by omega))
            simp [execOp, kn.rho.con, e0, f0, go_sem])
        · exact gd_gen (by kernel_rfl) (Want.some_ (g := 11) (v := false) rfl rfl (by kernel_rfl) (by omega) rfl rfl (by kernel_rfl)) rfl (fun D u w v h => by simpa [updB, upd] using h) (fun D u ρ w kn => by
            have e0 := kn.own 1 (c := .slice (some ⟨b2, o2, none⟩) (n) (d)) (by kernel_rfl) ea1
            simp [execOp, kn.rho.con, e0, go_sem])
        · exact gd_gen (by kernel_rfl) (Want.some_ (g := 11) (v := false) rfl rfl (by kernel_rfl) (by omega) rfl rfl (by kernel_rfl)) rfl (fun D u w v h => by simpa [updB, upd] using h) (fun D u ρ w kn => by
            have e0 := kn.own 5 (c := .int .i64 ((k : Int))) (by kernel_rfl) ea5
            simp [execOp, kn.rho.con, e0, go_sem])
        · exact gd_gen (by kernel_rfl) (Want.some_ (g := 11) (v := false) rfl rfl (by kernel_rfl) (by omega) rfl rfl (by kernel_rfl)) rfl (fun D u w v h => by simpa [updB, upd] using h) (fun D u ρ w kn => by
            have e0 := kn.con 17 34 (c := .slice (some ⟨b2, o2, none⟩) (n) (d)) (by kernel_rfl) (by omega) (by kernel_rfl) rfl
            have e1 := kn.con 18 35 (c := .int .i64 ((k : Int))) (by kernel_rfl) (by omega) (by kernel_rfl) rfl
            simp [execOp, kn.rho.con, e0, e1, go_sem, i1])
        · exact gd_gen (by kernel_rfl) (Want.some_ (g := 11) (v := false) rfl rfl (by kernel_rfl) (by omega) rfl rfl (by kernel_rfl)) rfl (fun D u w v h => by simpa [updB, upd] using h) (fun D u ρ w kn => by
            have e0 := kn.con 19 36 (c := .pointer (some ⟨b2, o2 + k * 3, none⟩)) (by kernel_rfl) (by omega) (by kernel_rfl) rfl
            simp [execOp, kn.rho.con, e0, go_sem])
        · exact gd_gen (by kernel_rfl) (Want.some_ (g := 11) (v := false) rfl rfl (by kernel_rfl) (by omega) rfl rfl (by kernel_rfl)) rfl (fun D u w v h => by simpa [updB, upd] using h) (fun D u ρ w kn => by
            have e0 := kn.con 20 37 (c := .pointer (some ⟨b2, o2 + k * 3 + 1, none⟩)) (by kernel_rfl) (by omega) (by kernel_rfl) rfl
            have f0 := (show w.cell? ⟨b2, o2 + k * 3 + 1, none⟩ = some (.int .i64 (x.tier)) from ((HB.out.grown (only_trans G.out kn.ext) (by simp)).flatAt BlobD.cells_len HY.out 1 (by omega)).trans (by rw [EY.out]; rfl))
            simp [execOp, kn.rho.con, e0, f0, go_sem])
        · exact gd_gen (by kernel_rfl) (Want.some_ (g := 11) (v := false) rfl rfl (by kernel_rfl) (by omega) rfl rfl (by kernel_rfl)) rfl (fun D u w v h => by simpa [updB, upd] using h) (fun D u ρ w kn => by
            have e0 := kn.con 16 33 (c := .int .i64 (x.tier)) (by kernel_rfl) (by omega) (by kernel_rfl) rfl
            have e1 := kn.con 21 38 (c := .int .i64 (x.tier)) (by kernel_rfl) (by omega) (by kernel_rfl) rfl
            simp [execOp, kn.rho.con, e0, e1, go_sem])
        · exact gd_gen (by kernel_rfl) (Want.none_ rfl) rfl (fun D u w v h => by simpa [updB, upd] using h) (fun D u ρ w kn => by
            have e0 := kn.con 11 28 (c := .bool false) (by kernel_rfl) (by omega) (by kernel_rfl) rfl
            have e1 := kn.con 22 39 (c := .bool false) (by kernel_rfl) (by omega) (by kernel_rfl) rfl
            simp [execOp, kn.rho.con, e0, e1, go_sem])
        · exact gd_gen (by kernel_rfl) (Want.none_ rfl) rfl (fun D u w v h => by simpa [updB, upd] using h) (fun D u ρ w kn => by
            have e0 := kn.con 23 40 (c := .bool false) (by kernel_rfl) (by omega) (by kernel_rfl) rfl
            simp [execOp, kn.rho.con, e0, go_sem])
        · exact gd_gen (by kernel_rfl) (Want.some_ (g := 24) (v := false) rfl rfl (by kernel_rfl) (by omega) rfl rfl (by kernel_rfl)) rfl (fun D u w v h => by simpa [updB, upd] using h) (fun D u ρ w kn => by
            have e0 := kn.own 0 (c := .slice (some ⟨b1, o1, none⟩) (n) (c)) (by kernel_rfl) ea0
            simp [execOp, kn.rho.con, e0, go_sem])
        · exact gd_gen (by kernel_rfl) (Want.some_ (g := 24) (v := false) rfl rfl (by kernel_rfl) (by omega) rfl rfl (by kernel_rfl)) rfl (fun D u w v h => by simpa [updB, upd] using h) (fun D u ρ w kn => by
            have e0 := kn.own 5 (c := .int .i64 ((k : Int))) (by kernel_rfl) ea5
            simp [execOp, kn.rho.con, e0, go_sem])
        · exact gd_gen (by kernel_rfl) (Want.some_ (g := 24) (v := false) rfl rfl (by kernel_rfl) (by omega) rfl rfl (by kernel_rfl)) rfl (fun D u w v h => by simpa [updB, upd] using h) (fun D u ρ w kn => by
            have e0 := kn.con 25 42 (c := .slice (some ⟨b1, o1, none⟩) (n) (c)) (by kernel_rfl) (by omega) (by kernel_rfl) rfl
            have e1 := kn.con 26 43 (c := .int .i64 ((k : Int))) (by kernel_rfl) (by omega) (by kernel_rfl) rfl
            simp [execOp, kn.rho.con, e0, e1, go_sem, i1])
        · exact gd_gen (by kernel_rfl) (Want.some_ (g := 24) (v := false) rfl rfl (by kernel_rfl) (by omega) rfl rfl (by kernel_rfl)) rfl (fun D u w v h => by simpa [updB, upd] using h) (fun D u ρ w kn => by
            have e0 := kn.con 27 44 (c := .pointer (some ⟨b1, o1 + k * 3, none⟩)) (by kernel_rfl) (by omega) (by kernel_rfl) rfl
            simp [execOp, kn.rho.con, e0, go_sem])
        · exact gd_gen (by kernel_rfl) (Want.some_ (g := 24) (v := false) rfl rfl (by kernel_rfl) (by omega) rfl rfl (by kernel_rfl)) rfl (fun D u w v h => by simpa [updB, upd] using h) (fun D u ρ w kn => by
            have e0 := kn.con 28 45 (c := .pointer (some ⟨b1, o1 + k * 3 + 2, none⟩)) (by kernel_rfl) (by omega) (by kernel_rfl) rfl
            have f0 := (show w.cell? ⟨b1, o1 + k * 3 + 2, none⟩ = some (.slice x.A x.data.length x.c) from (HA.out.grown (only_trans G.out kn.ext) (by simp)).flatAt BlobD.cells_len HX.out 2 (by omega))
            simp [execOp, kn.rho.con, e0, f0, go_sem])
        · exact gd_gen (by kernel_rfl) (Want.some_ (g := 24) (v := false) rfl rfl (by kernel_rfl) (by omega) rfl rfl (by kernel_rfl)) rfl (fun D u w v h => by simpa [updB, upd] using h) (fun D u ρ w kn => by
            have e0 := kn.own 1 (c := .slice (some ⟨b2, o2, none⟩) (n) (d)) (by kernel_rfl) ea1
            simp [execOp, kn.rho.con, e0, go_sem])
        · exact gd_gen (by kernel_rfl) (Want.some_ (g := 24) (v := false) rfl rfl (by kernel_rfl) (by omega) rfl rfl (by kernel_rfl)) rfl (fun D u w v h => by simpa [updB, upd] using h) (fun D u ρ w kn => by
            have e0 := kn.own 5 (c := .int .i64 ((k : Int))) (by kernel_rfl) ea5
            simp [execOp, kn.rho.con, e0, go_sem])
        · exact gd_gen (by kernel_rfl) (Want.some_ (g := 24) (v := false) rfl rfl (by kernel_rfl) (by omega) rfl rfl (by kernel_rfl)) rfl (fun D u w v h => by simpa [updB, upd] using h) (fun D u ρ w kn => by
            have e0 := kn.con 30 47 (c := .slice (some ⟨b2, o2, none⟩) (n) (d)) (by kernel_rfl) (by omega) (by kernel_rfl) rfl
            have e1 := kn.con 31 48 (c := .int .i64 ((k : Int))) (by kernel_rfl) (by omega) (by kernel_rfl) rfl
            simp [execOp, kn.rho.con, e0, e1, go_sem, i1])
        · exact gd_gen (by kernel_rfl) (Want.some_ (g := 24) (v := false) rfl rfl (by kernel_rfl) (by omega) rfl rfl (by kernel_rfl)) rfl (fun D u w v h => by simpa [updB, upd] using h) (fun D u ρ w kn => by
            have e0 := kn.con 32 49 (c := .pointer (some ⟨b2, o2 + k * 3, none⟩)) (by kernel_rfl) (by omega) (by kernel_rfl) rfl
            simp [execOp, kn.rho.con, e0, go_sem])
        · exact gd_gen (by kernel_rfl) (Want.some_ (g := 24) (v := false) rfl rfl (by kernel_rfl) (by omega) rfl rfl (by kernel_rfl)) rfl (fun D u w v h => by simpa [updB, upd] using h) (fun D u ρ w kn => by
            have e0 := kn.con 33 50 (c := .pointer (some ⟨b2, o2 + k * 3 + 2, none⟩)) (by kernel_rfl) (by omega) (by kernel_rfl) rfl
            have f0 := (show w.cell? ⟨b2, o2 + k * 3 + 2, none⟩ = some (.slice y.A x.data.length y.c) from ((HB.out.grown (only_trans G.out kn.ext) (by simp)).flatAt BlobD.cells_len HY.out 2 (by omega)).trans (by rw [EY.out]; rfl))
            simp [execOp, kn.rho.con, e0, f0, go_sem])
      · intro D u w9 hJ hD
        simp only [List.take_succ_cons, List.take_zero, List.drop_succ_cons, List.drop_zero, putAll]
        have hcn := hJ.1
        have x1 := hJ.2
        clear hJ
        have e24 : u 24 = .bool false := hcn 24 _ rfl (hD 24 (by omega))
        have e29 : u 29 = .slice x.A x.data.length x.c := hcn 29 _ rfl (hD 29 (by omega))
        have e34 : u 34 = .slice y.A x.data.length y.c := hcn 34 _ rfl (hD 34 (by omega))
        have G9 := Lib.hid (only_trans G.out x1)
        have KB : Hid (Calls Tryz.prog 14 #[.slice x.A x.data.length x.c, .slice y.A x.data.length y.c] w9 (Quiet (.bool true) w9)) := Lib.hid (by
          have hy2 := (UY.out.grown G9.out (by simp))
          have := samebytes_any x.A y.A x.data y.data x.c y.c w9 ((UX.out.grown G9.out (by simp)).1) hy2.1 (by have := UX.out.2.2.2; omega) (by have := UY.out.2.2.2; omega) true (by rw [ED.out]; simp)
          rw [ED.out] at this; exact this)
        rw [e24, e29, e34]
        clear hcn x1 e24 e29 e34 hD
        go_simp
        go_wp2_with fail
        refine KB.out.mono ?_
        rintro e w10 ⟨rfl, q, rfl⟩
        have G10 := Lib.hid (only_drewN G9.out q)
        clear KB
        go_wp2_with fail
        go_roundw
        case rel => exact ⟨k + 1, by go_num, by omega, G10.out⟩
        case measure => simp [intOf]; omega
    · have i1 : ¬ ((k : Int) < (n : Int)) := by omega
      go_wp2_with fail
      go_ret
      exact ⟨rfl, G.out⟩
end Go.Proofs.YtganfhmjklcchaaGreat

namespace Go.Proofs.YtganfhmjklcchaaGreat
open Go.RowKit
set_option linter.unusedVariables false
set_option linter.unusedSimpArgs false

/-- what a law of chapter 33 has in hand -/
structure L33 (g : Nat) (l : List Int) (mb : Nat) (A : Option Addr) (bs : List BlobD) (c : Nat) (num nid : Int) (A2 : Option Addr) (ss : List SegD) (c2 : Nat) (wr : World) : Prop where
  mB : Blk wr mb 31 #[.int .i64 num, .int .i64 nid, .int .i64 0, .slice A2 ss.length c2, .slice none 0 0, .slice none 0 0, .slice none 0 0]
  cd : ∃ k, CodesAt wr g l k
  sh : Shf (g + 1) wr A bs c
  rd : Rd (g + 1 ≤ ·) wr A2 (ss.flatMap SegD.cells)
section
variable {g : Nat} {l : List Int} {mb : Nat} {A : Option Addr} {bs : List BlobD} {c : Nat} {num nid : Int} {A2 : Option Addr} {ss : List SegD} {c2 : Nat} {wr w' : World}
theorem L33.quiet (h : L33 g l mb A bs c num nid A2 ss c2 wr) (hg : wr.grownBy w' none) : L33 g l mb A bs c num nid A2 ss c2 w' where
  mB := h.mB.grown hg (by simp)
  cd := by obtain ⟨k, hk⟩ := h.cd; exact ⟨k, hk.grown hg (by simp)⟩
  sh := h.sh.grown hg (by simp)
  rd := h.rd.grown hg (by simp)
theorem L33.code (h : L33 g l mb A bs c num nid A2 ss c2 wr) (hg : wr.grownBy w' (some g)) {k : Nat} (hc : CodesAt w' g l k) (h1 : mb ≠ g) : L33 g l mb A bs c num nid A2 ss c2 w' :=
  have hn : ∀ b, g + 1 ≤ b → some b ≠ some g := fun b hb e => by injection e; omega
  { mB := h.mB.grown hg (fun e => h1 (by injection e)), cd := ⟨k, hc⟩, sh := h.sh.grown hg hn, rd := h.rd.grown hg hn }
end
theorem loadB_len {ss : List SegD} {bs : List BlobD} {id : Int} {S : Nat → Prop} {w : World} (hs : ∀ x ∈ bs, x.Sub S w) (hi : ∀ x ∈ bs, InH x.data) : (loadB ss bs id).2.length ≤ 10000000 := by
  unfold loadB
  split
  · simp
  · rename_i s hs2
    unfold ldO
    split
    · rename_i d hd
      split
      · exact (getB_in hs hi hd).2
      · simp
    · simp
theorem alike_refl (bs : List BlobD) : Alike bs bs := rfl
set_option maxHeartbeats 8000000 in
set_option maxRecDepth 100000 in
theorem law_cleanload (A : Option Addr) (l0 : List Int) (d : Nat) (id : Int) (w : World) (h : Rd (fun _ => True) w A (l0.map (.int .u8))) (hc : l0.length ≤ d) (hcm : d ≤ maxLen) (hx : ∀ x ∈ l0, 0 ≤ x ∧ x ≤ 255) :
    Calls Tryz.prog 3 #[.slice A l0.length d, .int .i64 id] w (TrueExt w) := by
  obtain ⟨g0, hg0⟩ : ∃ g, g = w.heap.size := ⟨_, rfl⟩
  have HX := Lib.hid hx
  have HL := Lib.hid h
  clear hx h hg0
  go_enter Tryz.func3, Tryz.ntmps3
  go_wp2_with fail
  refine (awake33_any w).mono ?_
  rintro e w1 ⟨rfl, hg1⟩
  have KS := Lib.hid (scene_any true A l0 d w1 (HL.out.grown hg1 (by simp)) hc hcm HX.out)
  have G1 := Lib.hid hg1
  clear hg1 HL HX
  go_wp2_with fail
  refine KS.out.mono ?_
  rintro e w2 ⟨A0, bs, c, num, nid, A2, ss, c2, g, l, k, rfl, hcd, hsh, hrd, hl2, hm2, hok, hn3, hs3, hb6, hsrt, hinh, hgd, hwg, hg2⟩
  obtain ⟨mb, hmb⟩ : ∃ b, b = w2.heap.size := ⟨_, rfl⟩
  obtain ⟨W3, hW3⟩ : ∃ W, W = w2.alloc (.cells #[.int .i64 num, .int .i64 nid, .int .i64 0, .slice A2 ss.length c2, .slice none 0 0, .slice none 0 0, .slice none 0 0] 31) := ⟨_, rfl⟩
  have g3 : w2.grownBy W3 none := by rw [hW3]; exact only_alloc (only_refl _ _) _
  have L3 : Hid (L33 g l mb A0 bs c num nid A2 ss c2 W3) := Lib.hid { mB := by rw [hW3, hmb]; exact Blk.new w2 _ _, cd := ⟨k, hcd.grown g3 (by simp)⟩, sh := hsh.grown g3 (by simp), rd := hrd.grown g3 (by simp) }
  have G3 := Lib.hid (only_trans (only_trans G1.out hg2) g3)
  have hgm : g < mb := by have := hcd.lt; omega
  have hwg2 : w.heap.size ≤ g := by have := G1.out.size; omega
  have hmg : mb ≠ g := by omega
  have SH2 : Hid (Rd (fun b => g < b ∧ b ≠ mb) W3 A0 (bs.flatMap BlobD.cells) ∧ (∀ x ∈ bs, x.Sub (fun b => g < b ∧ b ≠ mb) W3) ∧ Rd (fun b => g < b ∧ b ≠ mb) W3 A2 (ss.flatMap SegD.cells) ∧ bs.length ≤ c ∧ c ≤ maxLen ∧ (A0 = none → c = 0)) := Lib.hid ⟨(hsh.1.mono (S' := fun b => g < b ∧ b ≠ mb) (fun b hb hlt => (by have h0 : g + 1 ≤ b := hb; omega))).grown g3 (by simp), fun x hx => ((hsh.2.1 x hx).mono (S' := fun b => g < b ∧ b ≠ mb) (fun b hb hlt => (by have h0 : g + 1 ≤ b := hb; omega))).grown g3 (by simp), (hrd.mono (S' := fun b => g < b ∧ b ≠ mb) (fun b hb hlt => (by have h0 : g + 1 ≤ b := hb; omega))).grown g3 (by simp), hsh.2.2⟩
  have PU := Lib.hid (And.intro hl2 (And.intro hm2 (And.intro hok (And.intro hsrt (And.intro hinh hgd)))))
  have HW3 := Lib.hid hW3.symm
  have HMB := Lib.hid hmb
  clear hW3 hmb hcd hsh hrd hm2 hok hsrt hinh hgd hg2 g3 KS G1
  go_upto_region 4 with fail
  rw [HW3.out, ← HMB.out]
  clear HW3
  go_cut [29] (fun vb wx => vb = .bool false ∧ W3.grownBy wx none)
  case first =>
    have hB := L3.out.mB
    have b0 := hB.cell 0
    have b1 := hB.cell 1
    have b2 := hB.cell 2
    have b3 := hB.cell 3
    have b4 := hB.cell 4
    have b5 := hB.cell 5
    have b6 := hB.cell 6
    simp at b0 b1 b2 b3 b4 b5 b6
    clear hB
    have KP := Lib.hid (fun (W : World) (hW : W3.grownBy W none) => pclean_any A0 bs c num nid 0 A2 ss c2 W (L3.out.sh.1.grown hW (by simp)) (by omega) (L3.out.rd.grown hW (by simp)) (by omega))
    have KR := Lib.hid (fun (W : World) (hW : W3.grownBy W none) => rclean_any A0 bs c num nid 0 A2 ss c2 W (L3.out.sh.1.grown hW (by simp)) (by omega) (L3.out.rd.grown hW (by simp)) (by omega))
    go_region_law (first
      | (have htok := tokb; go_simp; go_at_call 8; go_must (refine Calls.mono (rsame33_true A8 A9 (cleanB ss bs) (cleanB ss bs) (cleanB ss bs).length c8 c9 w9 rfl rfl ra9 rb9 sa9 sa9 (alike_refl _) (by have := cleanB_len ss bs; omega)) ?_); rintro e w10 ⟨rfl, hg10⟩; have G10 : Hid (W3.grownBy w10 none) := Lib.hid (only_trans G9 hg10); clear hg10)
      | (have htok := toka; go_simp; go_at_call 10; go_must (refine Calls.mono (KR.out w8 G8) ?_); rintro e w9 ⟨A9, c9, rfl, y1, y2, y3, rb9, hg9⟩; have ra9 := ra8.grown hg9 (by simp); have G9 : W3.grownBy w9 none := only_trans G8 hg9; have sa9 : ∀ x ∈ cleanB ss bs, x.Sub (g + 1 ≤ ·) w9 := (fun x hx => (L3.out.sh.2.1 x (cleanB_mem hx)).grown G9 (by simp)); have tokb := True.intro; have hB9 := L3.out.mB.grown G9 (by simp); have f0 := hB9.cell 0; have f1 := hB9.cell 1; have f2 := hB9.cell 2; have f3 := hB9.cell 3; have f4 := hB9.cell 4; have f5 := hB9.cell 5; have f6 := hB9.cell 6; simp at f0 f1 f2 f3 f4 f5 f6; clear hB9)
      | (go_simp; go_at_call 9; go_must (refine Calls.mono (KP.out W3.drew (only_drew (only_refl _ _))) ?_); rintro e w8 ⟨A8, c8, rfl, y1, y2, y3, ra8, hg8⟩; have G8 : W3.grownBy w8 none := only_trans (only_drew (only_refl _ _)) hg8; have toka := True.intro; have hB8 := L3.out.mB.grown G8 (by simp); have e0 := hB8.cell 0; have e1 := hB8.cell 1; have e2 := hB8.cell 2; have e3 := hB8.cell 3; have e4 := hB8.cell 4; have e5 := hB8.cell 5; have e6 := hB8.cell 6; simp at e0 e1 e2 e3 e4 e5 e6; clear hB8))
    all_goals
      go_simp
      go_wp2_with fail
      go_meet
      exact ⟨rfl, G10.out⟩
  case rest =>
    obtain ⟨rfl, hwc⟩ := hcut
    have L4 := Lib.hid (L3.out.quiet hwc)
    have G4 := Lib.hid (only_trans G3.out hwc)
    obtain ⟨w4, rfl⟩ : ∃ w4 : World, w4 = wc := ⟨_, rfl⟩
    obtain ⟨k4, hk4⟩ := L4.out.cd
    clear hwc L3 G3
    go_wp2_with fail
    refine (next_some g l k4 4 w4 hk4 (by omega) (by omega)).mono ?_
    rintro e w5 ⟨v5, k5, rfl, hv5, h5, hg5⟩
    go_wp2_with fail
    refine (next_some g l k5 4 w5 h5 (by omega) (by omega)).mono ?_
    rintro e w6 ⟨v6, k6, rfl, hv6, h6, hg6⟩
    have L6 := Lib.hid (L4.out.code (only_trans hg5 hg6) h6 hmg)
    have G6 := Lib.hid (only_fresh G4.out (only_trans hg5 hg6) hwg2)
    obtain ⟨lb, hlb⟩ : ∃ b, b = w6.heap.size := ⟨_, rfl⟩
    obtain ⟨W7, hW7⟩ : ∃ W, W = w6.alloc (.cells #[.int .i64 id, .int .i64 v5, .int .i64 v6] 3) := ⟨_, rfl⟩
    have g7 : w6.grownBy W7 none := by rw [hW7]; exact only_alloc (only_refl _ _) _
    have B7 : Hid (Blk W7 lb 3 #[.int .i64 id, .int .i64 v5, .int .i64 v6]) := Lib.hid (by rw [hW7, hlb]; exact Blk.new w6 _ _)
    have L7 := Lib.hid (L6.out.quiet g7)
    have G7 := Lib.hid (only_trans G6.out g7)
    have HW7 := Lib.hid hW7.symm
    have HLB := Lib.hid hlb
    clear hk4 hg5 h5 hv5 hg6 h6 hv6 hW7 hlb g7 L4 L6 G4 G6
    go_upto_region 7 with fail
    rw [HW7.out, ← HLB.out]
    clear HW7
    go_loopw [37] (fun vi wr => ∃ k : Nat, vi = .int .i64 k ∧ k ≤ 3 ∧ W7.grownBy wr none) (fun vi _ => 3 - (intOf vi).toNat)
    case atStart => exact ⟨0, rfl, by omega, only_refl _ _⟩
    case round =>
      obtain ⟨k, rfl, hk, hG⟩ := hrel
      have GR := Lib.hid hG
      have LR := Lib.hid (L7.out.quiet hG)
      have hlbr := B7.out.grown hG (by simp)
      have BR := Lib.hid hlbr
      clear hG hlbr
      by_cases hk3 : k < 3
      · obtain ⟨x, hx⟩ : ∃ x, wr.cell? ⟨lb, k, none⟩ = some (.int .i64 x) := by
          rw [BR.out.cell]
          have : k = 0 ∨ k = 1 ∨ k = 2 := by omega
          rcases this with rfl | rfl | rfl
          · exact ⟨id, rfl⟩
          · exact ⟨v5, rfl⟩
          · exact ⟨v6, rfl⟩
        have i1 : (k : Int) < 3 := by omega
        have i2 : (0 : Int) ≤ (k : Int) := by omega
        obtain ⟨p, hp⟩ : ∃ p, p = loadB ss bs x := ⟨_, rfl⟩
        have HP := Lib.hid hp
        have hpl : p.2.length ≤ 10000000 := by rw [hp]; exact loadB_len LR.out.sh.2.1 PU.out.2.2.2.2.1
        have KP := Lib.hid (fun (W : World) (hW : wr.grownBy W none) => pload_any A0 bs c num nid 0 A2 ss c2 x W (LR.out.sh.1.grown hW (by simp)) (fun y hy => (LR.out.sh.2.1 y hy).grown hW (by simp)) (by omega) PU.out.2.2.2.1 PU.out.2.2.2.2.1 (LR.out.rd.grown hW (by simp)) (by omega))
        have KR := Lib.hid (fun (W : World) (hW : wr.grownBy W none) => rload_any A0 bs c num nid 0 A2 ss c2 x W (LR.out.sh.1.grown hW (by simp)) (fun y hy => (LR.out.sh.2.1 y hy).grown hW (by simp)) (by omega) PU.out.2.2.2.1 PU.out.2.2.2.2.1 (LR.out.rd.grown hW (by simp)) (by omega))
        rw [← hp] at KP KR
        have hB := LR.out.mB
        have b0 := hB.cell 0
        have b1 := hB.cell 1
        have b2 := hB.cell 2
        have b3 := hB.cell 3
        have b4 := hB.cell 4
        have b5 := hB.cell 5
        have b6 := hB.cell 6
        simp at b0 b1 b2 b3 b4 b5 b6
        clear hB hp
        go_wp2_with fail
        refine (KP.out wr (only_refl _ _)).mono ?_
        rintro e w8 ⟨A8, c8, rfl, -, -, hr8, hg8⟩
        have G8 := Lib.hid hg8
        have R8 := Lib.hid hr8
        have hB := LR.out.mB.grown hg8 (by simp)
        clear b0 b1 b2 b3 b4 b5 b6 hx hg8 hr8
        have b0 := hB.cell 0
        have b1 := hB.cell 1
        have b2 := hB.cell 2
        have b3 := hB.cell 3
        have b4 := hB.cell 4
        have b5 := hB.cell 5
        have b6 := hB.cell 6
        simp at b0 b1 b2 b3 b4 b5 b6
        clear hB
        go_wp2_with fail
        refine (KR.out w8 G8.out).mono ?_
        rintro e w9 ⟨A9, c9, rfl, -, -, hr9, hg9⟩
        have KY := Lib.hid (samebytes_any A8 A9 p.2 p.2 c8 c9 w9 (R8.out.grown hg9 (by simp)) hr9 hpl hpl true (by simp))
        have G9 := Lib.hid (only_trans G8.out hg9)
        obtain ⟨n, hn⟩ : ∃ n, n = p.2.length := ⟨_, rfl⟩
        obtain ⟨E, hE⟩ : ∃ E, E = p.1 := ⟨_, rfl⟩
        rw [← hn] at KY ⊢
        rw [← hE]
        clear b0 b1 b2 b3 b4 b5 b6 hg9 hr9 R8 KP KR hn hE hpl
        go_wp2_with fail
        refine KY.out.mono ?_
        rintro e w10 ⟨rfl, q10, rfl⟩
        have G10 := Lib.hid (only_trans GR.out (only_drewN G9.out q10))
        go_wp2_with fail
        go_roundw
        case rel => exact ⟨k + 1, by go_num, by omega, G10.out⟩
        case measure => simp [intOf]; omega
      · have i1 : ¬ ((k : Int) < 3) := by omega
        go_wp2_with fail
        go_ret
        exact ⟨rfl, only_trans G7.out GR.out⟩
end Go.Proofs.YtganfhmjklcchaaGreat
