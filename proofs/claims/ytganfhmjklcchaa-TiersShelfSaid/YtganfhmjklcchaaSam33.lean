/- Same of the reference of chapter 33, at shelves that are alike (printed by mksam33.py). Condition: sizes. -/
import Derived.Test.YtganfhmjklcchaaPut0
import Derived.Test.YtganfhmjklcchaaSameBytes
import Derived.Test.YtganfhmjklcchaaGenC
import Derived.Deep.DeepCutAuto
namespace Go.Proofs.Ytganfhmjklcchaa
open Go.RowKit
set_option linter.unusedVariables false
set_option linter.unusedSimpArgs false

set_option maxHeartbeats 8000000 in
set_option maxRecDepth 100000 in
theorem rsame33_true {S S' S2 S3 : Nat → Prop} (A B : Option Addr) (al bl : List BlobD) (n c d : Nat) (w : World) (hn : al.length = n) (hn2 : bl.length = n) (ha : Rd S w A (al.flatMap BlobD.cells)) (hb : Rd S' w B (bl.flatMap BlobD.cells)) (sa : ∀ x ∈ al, x.Sub S2 w) (sb : ∀ x ∈ bl, x.Sub S3 w) (hal : Alike al bl) (hl : n ≤ 100000) :
    Calls Try.prog 15 #[.slice A n c, .slice B n d] w (TrueExt w) := by
  have HA := Lib.hid ha
  have HB := Lib.hid hb
  have SA := Lib.hid sa
  have SB := Lib.hid sb
  have AL := Lib.hid hal
  have HN := Lib.hid hn
  have HN2 := Lib.hid hn2
  clear ha hb sa sb hal hn hn2
  go_enter Try.func15, Try.ntmps15
  go_wp2_with fail
  go_loopw [5] (fun vi wr => ∃ k : Nat, vi = .int .i64 k ∧ k ≤ n ∧ w.grownBy wr none) (fun vi _ => n - (intOf vi).toNat)
  case atStart => exact ⟨0, rfl, Nat.zero_le _, only_refl _ _⟩
  case round =>
    obtain ⟨k, rfl, hk, hG⟩ := hrel
    have G := Lib.hid hG
    clear hG
    by_cases hlt : k < n
    · obtain ⟨x, hx⟩ : ∃ x, al[k]? = some x := ⟨_, List.getElem?_eq_getElem (by rw [HN.out]; exact hlt)⟩
      obtain ⟨y, hy⟩ : ∃ y, bl[k]? = some y := ⟨_, List.getElem?_eq_getElem (by rw [HN2.out]; exact hlt)⟩
      have HX := Lib.hid hx
      have HY := Lib.hid hy
      have hkey := AL.out.at_ k
      rw [hx, hy] at hkey
      injection hkey with hkey
      unfold BlobD.key at hkey
      injection hkey with h1 h2
      injection h2 with h2 h3
      have EY : Hid (y.cells = [.int .i64 x.id, .int .i64 x.tier, .slice y.A x.data.length y.c]) := Lib.hid (by unfold BlobD.cells; rw [h1, h2, h3])
      have ED : Hid (y.data = x.data) := Lib.hid h3.symm
      have UX := Lib.hid (SA.out x (List.mem_of_getElem? hx))
      have UY := Lib.hid (SB.out y (List.mem_of_getElem? hy))
      obtain ⟨b1, o1, rfl, -, -, -⟩ := HA.out (by rw [flat_len _ 3 BlobD.cells_len, HN.out]; omega)
      obtain ⟨b2, o2, rfl, -, -, -⟩ := HB.out (by rw [flat_len _ 3 BlobD.cells_len, HN2.out]; omega)
      have i1 : (k : Int) < (n : Int) := by omega
      clear hx hy h1 h2 h3
      go_wp2_with fail
      obtain ⟨W0, hW0⟩ : ∃ W0, W0 = wr := ⟨_, rfl⟩
      subst hW0
      refine wp_region_gen 35 (JC (some (.slice (some ⟨b1, o1, none⟩) (n) (c)) :: some (.int .i64 ((k : Int))) :: some (.pointer (some ⟨b1, o1 + k * 3, none⟩)) :: some (.pointer (some ⟨b1, o1 + k * 3, none⟩)) :: some (.int .i64 (x.id)) :: some (.slice (some ⟨b2, o2, none⟩) (n) (d)) :: some (.int .i64 ((k : Int))) :: some (.pointer (some ⟨b2, o2 + k * 3, none⟩)) :: some (.pointer (some ⟨b2, o2 + k * 3, none⟩)) :: some (.int .i64 (x.id)) :: some (.bool false) :: some (.bool false) :: some (.slice (some ⟨b1, o1, none⟩) (n) (c)) :: some (.int .i64 ((k : Int))) :: some (.pointer (some ⟨b1, o1 + k * 3, none⟩)) :: some (.pointer (some ⟨b1, o1 + k * 3 + 1, none⟩)) :: some (.int .i64 (x.tier)) :: some (.slice (some ⟨b2, o2, none⟩) (n) (d)) :: some (.int .i64 ((k : Int))) :: some (.pointer (some ⟨b2, o2 + k * 3, none⟩)) :: some (.pointer (some ⟨b2, o2 + k * 3 + 1, none⟩)) :: some (.int .i64 (x.tier)) :: some (.bool false) :: some (.bool false) :: some (.bool false) :: some (.slice (some ⟨b1, o1, none⟩) (n) (c)) :: some (.int .i64 ((k : Int))) :: some (.pointer (some ⟨b1, o1 + k * 3, none⟩)) :: some (.pointer (some ⟨b1, o1 + k * 3 + 2, none⟩)) :: some (.slice x.A x.data.length x.c) :: some (.slice (some ⟨b2, o2, none⟩) (n) (d)) :: some (.int .i64 ((k : Int))) :: some (.pointer (some ⟨b2, o2 + k * 3, none⟩)) :: some (.pointer (some ⟨b2, o2 + k * 3 + 2, none⟩)) :: some (.slice y.A x.data.length y.c) :: []) (fun D u wx => W0.grownBy wx none)) (by kernel_rfl) (by kernel_rfl) ?_ ?_ ?_
      · intro u
        exact ⟨(fun j c _ h => by cases h), only_drew (only_refl _ _)⟩
      · intro AA hA
        have hasz : AA.tmps.size = 55 := by rw [hA]; kernel_rfl
        have ea0 : AA.eval (.tmp 0) = .slice (some ⟨b1, o1, none⟩) (n) (c) := by rw [hA]; kernel_rfl
        have ea1 : AA.eval (.tmp 1) = .slice (some ⟨b2, o2, none⟩) (n) (d) := by rw [hA]; kernel_rfl
        have ea5 : AA.eval (.tmp 5) = .int .i64 ((k : Int)) := by rw [hA]; kernel_rfl
        clear hA
        simp only [List.take_succ_cons, List.take_zero]
        refine .cons ?_ (.cons ?_ (.cons ?_ (.cons ?_ (.cons ?_ (.cons ?_ (.cons ?_ (.cons ?_ (.cons ?_ (.cons ?_ (.cons ?_ (.cons ?_ (.cons ?_ (.cons ?_ (.cons ?_ (.cons ?_ (.cons ?_ (.cons ?_ (.cons ?_ (.cons ?_ (.cons ?_ (.cons ?_ (.cons ?_ (.cons ?_ (.cons ?_ (.cons ?_ (.cons ?_ (.cons ?_ (.cons ?_ (.cons ?_ (.cons ?_ (.cons ?_ (.cons ?_ (.cons ?_ (.cons ?_ (.nil)))))))))))))))))))))))))))))))))))
        · exact gd_gen (by kernel_rfl) (Want.none_ rfl) rfl (fun D u w v h => by simpa [updB, upd] using h) (fun D u ρ w kn => by
            have e0 := kn.own 0 (c := .slice (some ⟨b1, o1, none⟩) (n) (c)) (by kernel_rfl) ea0
            simp [execOp, kn.rho.con, e0, go_sem])
        · exact gd_gen (by kernel_rfl) (Want.none_ rfl) rfl (fun D u w v h => by simpa [updB, upd] using h) (fun D u ρ w kn => by
            have e0 := kn.own 5 (c := .int .i64 ((k : Int))) (by kernel_rfl) ea5
            simp [execOp, kn.rho.con, e0, go_sem])
        · exact gd_gen (by kernel_rfl) (Want.none_ rfl) rfl (fun D u w v h => by simpa [updB, upd] using h) (fun D u ρ w kn => by
            have e0 := kn.con 0 17 (c := .slice (some ⟨b1, o1, none⟩) (n) (c)) (by kernel_rfl) (by omega) (by kernel_rfl) rfl
            have e1 := kn.con 1 18 (c := .int .i64 ((k : Int))) (by kernel_rfl) (by omega) (by kernel_rfl) rfl
            simp [execOp, kn.rho.con, e0, e1, go_sem, i1])
        · exact gd_gen (by kernel_rfl) (Want.none_ rfl) rfl (fun D u w v h => by simpa [updB, upd] using h) (fun D u ρ w kn => by
            have e0 := kn.con 2 19 (c := .pointer (some ⟨b1, o1 + k * 3, none⟩)) (by kernel_rfl) (by omega) (by kernel_rfl) rfl
            simp [execOp, kn.rho.con, e0, go_sem])
        · exact gd_gen (by kernel_rfl) (Want.none_ rfl) rfl (fun D u w v h => by simpa [updB, upd] using h) (fun D u ρ w kn => by
            have e0 := kn.con 3 20 (c := .pointer (some ⟨b1, o1 + k * 3, none⟩)) (by kernel_rfl) (by omega) (by kernel_rfl) rfl
            have f0 := (show w.cell? ⟨b1, o1 + k * 3, none⟩ = some (.int .i64 (x.id)) from (HA.out.grown (only_trans G.out kn.ext) (by simp)).flatAt BlobD.cells_len HX.out 0 (by omega))
            simp [execOp, kn.rho.con, e0, f0, go_sem])
        · exact gd_gen (by kernel_rfl) (Want.none_ rfl) rfl (fun D u w v h => by simpa [updB, upd] using h) (fun D u ρ w kn => by
            have e0 := kn.own 1 (c := .slice (some ⟨b2, o2, none⟩) (n) (d)) (by kernel_rfl) ea1
            simp [execOp, kn.rho.con, e0, go_sem])
        · exact gd_gen (by kernel_rfl) (Want.none_ rfl) rfl (fun D u w v h => by simpa [updB, upd] using h) (fun D u ρ w kn => by
            have e0 := kn.own 5 (c := .int .i64 ((k : Int))) (by kernel_rfl) ea5
            simp [execOp, kn.rho.con, e0, go_sem])
        · exact gd_gen (by kernel_rfl) (Want.none_ rfl) rfl (fun D u w v h => by simpa [updB, upd] using h) (fun D u ρ w kn => by
            have e0 := kn.con 5 22 (c := .slice (some ⟨b2, o2, none⟩) (n) (d)) (by kernel_rfl) (by omega) (by kernel_rfl) rfl
            have e1 := kn.con 6 23 (c := .int .i64 ((k : Int))) (by kernel_rfl) (by omega) (by kernel_rfl) rfl
            simp [execOp, kn.rho.con, e0, e1, go_sem, i1])
        · exact gd_gen (by kernel_rfl) (Want.none_ rfl) rfl (fun D u w v h => by simpa [updB, upd] using h) (fun D u ρ w kn => by
            have e0 := kn.con 7 24 (c := .pointer (some ⟨b2, o2 + k * 3, none⟩)) (by kernel_rfl) (by omega) (by kernel_rfl) rfl
            simp [execOp, kn.rho.con, e0, go_sem])
        · exact gd_gen (by kernel_rfl) (Want.none_ rfl) rfl (fun D u w v h => by simpa [updB, upd] using h) (fun D u ρ w kn => by
            have e0 := kn.con 8 25 (c := .pointer (some ⟨b2, o2 + k * 3, none⟩)) (by kernel_rfl) (by omega) (by kernel_rfl) rfl
            have f0 := (show w.cell? ⟨b2, o2 + k * 3, none⟩ = some (.int .i64 (x.id)) from ((HB.out.grown (only_trans G.out kn.ext) (by simp)).flatAt BlobD.cells_len HY.out 0 (by omega)).trans (by rw [EY.out]; rfl))
            simp [execOp, kn.rho.con, e0, f0, go_sem])
        · exact gd_gen (by kernel_rfl) (Want.none_ rfl) rfl (fun D u w v h => by simpa [updB, upd] using h) (fun D u ρ w kn => by
            have e0 := kn.con 4 21 (c := .int .i64 (x.id)) (by kernel_rfl) (by omega) (by kernel_rfl) rfl
            have e1 := kn.con 9 26 (c := .int .i64 (x.id)) (by kernel_rfl) (by omega) (by kernel_rfl) rfl
            simp [execOp, kn.rho.con, e0, e1, go_sem])
        · exact gd_gen (by kernel_rfl) (Want.none_ rfl) rfl (fun D u w v h => by simpa [updB, upd] using h) (fun D u ρ w kn => by
            have e0 := kn.con 10 27 (c := .bool false) (by kernel_rfl) (by omega) (by kernel_rfl) rfl
            simp [execOp, kn.rho.con, e0, go_sem])
        · exact gd_gen (by kernel_rfl) (Want.some_ (g := 11) (v := false) rfl rfl (by kernel_rfl) (by omega) rfl rfl (by kernel_rfl)) rfl (fun D u w v h => by simpa [updB, upd] using h) (fun D u ρ w kn => by
            have e0 := kn.own 0 (c := .slice (some ⟨b1, o1, none⟩) (n) (c)) (by kernel_rfl) ea0
            simp [execOp, kn.rho.con, e0, go_sem])
        · exact gd_gen (by kernel_rfl) (Want.some_ (g := 11) (v := false) rfl rfl (by kernel_rfl) (by omega) rfl rfl (by kernel_rfl)) rfl (fun D u w v h => by simpa [updB, upd] using h) (fun D u ρ w kn => by
            have e0 := kn.own 5 (c := .int .i64 ((k : Int))) (by kernel_rfl) ea5
            simp [execOp, kn.rho.con, e0, go_sem])
        · exact gd_gen (by kernel_rfl) (Want.some_ (g := 11) (v := false) rfl rfl (by kernel_rfl) (by omega) rfl rfl (by kernel_rfl)) rfl (fun D u w v h => by simpa [updB, upd] using h) (fun D u ρ w kn => by
            have e0 := kn.con 12 29 (c := .slice (some ⟨b1, o1, none⟩) (n) (c)) (by kernel_rfl) (by omega) (by kernel_rfl) rfl
            have e1 := kn.con 13 30 (c := .int .i64 ((k : Int))) (by kernel_rfl) (by omega) (by kernel_rfl) rfl
            simp [execOp, kn.rho.con, e0, e1, go_sem, i1])
        · exact gd_gen (by kernel_rfl) (Want.some_ (g := 11) (v := false) rfl rfl (by kernel_rfl) (by omega) rfl rfl (by kernel_rfl)) rfl (fun D u w v h => by simpa [updB, upd] using h) (fun D u ρ w kn => by
            have e0 := kn.con 14 31 (c := .pointer (some ⟨b1, o1 + k * 3, none⟩)) (by kernel_rfl) (by omega) (by kernel_rfl) rfl
            simp [execOp, kn.rho.con, e0, go_sem])
        · exact gd_gen (by kernel_rfl) (Want.some_ (g := 11) (v := false) rfl rfl (by kernel_rfl) (by omega) rfl rfl (by kernel_rfl)) rfl (fun D u w v h => by simpa [updB, upd] using h) (fun D u ρ w kn => by
            have e0 := kn.con 15 32 (c := .pointer (some ⟨b1, o1 + k * 3 + 1, none⟩)) (by kernel_rfl) (by omega) (by kernel_rfl) rfl
            have f0 := (show w.cell? ⟨b1, o1 + k * 3 + 1, none⟩ = some (.int .i64 (x.tier)) from (HA.out.grown (only_trans G.out kn.ext) (by simp)).flatAt BlobD.cells_len HX.out 1 (by omega))
            simp [execOp, kn.rho.con, e0, f0, go_sem])
        · exact gd_gen (by kernel_rfl) (Want.some_ (g := 11) (v := false) rfl rfl (by kernel_rfl) (by omega) rfl rfl (by kernel_rfl)) rfl (fun D u w v h => by simpa [updB, upd] using h) (fun D u ρ w kn => by
            have e0 := kn.own 1 (c := .slice (some ⟨b2, o2, none⟩) (n) (d)) (by kernel_rfl) ea1
            simp [execOp, kn.rho.con, e0, go_sem])
        · exact gd_gen (by kernel_rfl) (Want.some_ (g := 11) (v := false) rfl rfl (by kernel_rfl) (by omega) rfl rfl (by kernel_rfl)) rfl (fun D u w v h => by simpa [updB, upd] using h) (fun D u ρ w kn => by
            have e0 := kn.own 5 (c := .int .i64 ((k : Int))) (by kernel_rfl) ea5
            simp [execOp, kn.rho.con, e0, go_sem])
        · exact gd_gen (by kernel_rfl) (Want.some_ (g := 11) (v := false) rfl rfl (by kernel_rfl) (by omega) rfl rfl (by kernel_rfl)) rfl (fun D u w v h => by simpa [updB, upd] using h) (fun D u ρ w kn => by
            have e0 := kn.con 17 34 (c := .slice (some ⟨b2, o2, none⟩) (n) (d)) (by kernel_rfl) (by omega) (by kernel_rfl) rfl
            have e1 := kn.con 18 35 (c := .int .i64 ((k : Int))) (by kernel_rfl) (by omega) (by kernel_rfl) rfl
            simp [execOp, kn.rho.con, e0, e1, go_sem, i1])
        · exact gd_gen (by kernel_rfl) (Want.some_ (g := 11) (v := false) rfl rfl (by kernel_rfl) (by omega) rfl rfl (by kernel_rfl)) rfl (fun D u w v h => by simpa [updB, upd] using h) (fun D u ρ w kn => by
            have e0 := kn.con 19 36 (c := .pointer (some ⟨b2, o2 + k * 3, none⟩)) (by kernel_rfl) (by omega) (by kernel_rfl) rfl
            simp [execOp, kn.rho.con, e0, go_sem])
        · exact gd_gen (by kernel_rfl) (Want.some_ (g := 11) (v := false) rfl rfl (by kernel_rfl) (by omega) rfl rfl (by kernel_rfl)) rfl (fun D u w v h => by simpa [updB, upd] using h) (fun D u ρ w kn => by
            have e0 := kn.con 20 37 (c := .pointer (some ⟨b2, o2 + k * 3 + 1, none⟩)) (by kernel_rfl) (by omega) (by kernel_rfl) rfl
            have f0 := (show w.cell? ⟨b2, o2 + k * 3 + 1, none⟩ = some (.int .i64 (x.tier)) from ((HB.out.grown (only_trans G.out kn.ext) (by simp)).flatAt BlobD.cells_len HY.out 1 (by omega)).trans (by rw [EY.out]; rfl))
            simp [execOp, kn.rho.con, e0, f0, go_sem])
        · exact gd_gen (by kernel_rfl) (Want.some_ (g := 11) (v := false) rfl rfl (by kernel_rfl) (by omega) rfl rfl (by kernel_rfl)) rfl (fun D u w v h => by simpa [updB, upd] using h) (fun D u ρ w kn => by
            have e0 := kn.con 16 33 (c := .int .i64 (x.tier)) (by kernel_rfl) (by omega) (by kernel_rfl) rfl
            have e1 := kn.con 21 38 (c := .int .i64 (x.tier)) (by kernel_rfl) (by omega) (by kernel_rfl) rfl
            simp [execOp, kn.rho.con, e0, e1, go_sem])
        · exact gd_gen (by kernel_rfl) (Want.none_ rfl) rfl (fun D u w v h => by simpa [updB, upd] using h) (fun D u ρ w kn => by
            have e0 := kn.con 11 28 (c := .bool false) (by kernel_rfl) (by omega) (by kernel_rfl) rfl
            have e1 := kn.con 22 39 (c := .bool false) (by kernel_rfl) (by omega) (by kernel_rfl) rfl
            simp [execOp, kn.rho.con, e0, e1, go_sem])
        · exact gd_gen (by kernel_rfl) (Want.none_ rfl) rfl (fun D u w v h => by simpa [updB, upd] using h) (fun D u ρ w kn => by
            have e0 := kn.con 23 40 (c := .bool false) (by kernel_rfl) (by omega) (by kernel_rfl) rfl
            simp [execOp, kn.rho.con, e0, go_sem])
        · exact gd_gen (by kernel_rfl) (Want.some_ (g := 24) (v := false) rfl rfl (by kernel_rfl) (by omega) rfl rfl (by kernel_rfl)) rfl (fun D u w v h => by simpa [updB, upd] using h) (fun D u ρ w kn => by
            have e0 := kn.own 0 (c := .slice (some ⟨b1, o1, none⟩) (n) (c)) (by kernel_rfl) ea0
            simp [execOp, kn.rho.con, e0, go_sem])
        · exact gd_gen (by kernel_rfl) (Want.some_ (g := 24) (v := false) rfl rfl (by kernel_rfl) (by omega) rfl rfl (by kernel_rfl)) rfl (fun D u w v h => by simpa [updB, upd] using h) (fun D u ρ w kn => by
            have e0 := kn.own 5 (c := .int .i64 ((k : Int))) (by kernel_rfl) ea5
            simp [execOp, kn.rho.con, e0, go_sem])
        · exact gd_gen (by kernel_rfl) (Want.some_ (g := 24) (v := false) rfl rfl (by kernel_rfl) (by omega) rfl rfl (by kernel_rfl)) rfl (fun D u w v h => by simpa [updB, upd] using h) (fun D u ρ w kn => by
            have e0 := kn.con 25 42 (c := .slice (some ⟨b1, o1, none⟩) (n) (c)) (by kernel_rfl) (by omega) (by kernel_rfl) rfl
            have e1 := kn.con 26 43 (c := .int .i64 ((k : Int))) (by kernel_rfl) (by omega) (by kernel_rfl) rfl
            simp [execOp, kn.rho.con, e0, e1, go_sem, i1])
        · exact gd_gen (by kernel_rfl) (Want.some_ (g := 24) (v := false) rfl rfl (by kernel_rfl) (by omega) rfl rfl (by kernel_rfl)) rfl (fun D u w v h => by simpa [updB, upd] using h) (fun D u ρ w kn => by
            have e0 := kn.con 27 44 (c := .pointer (some ⟨b1, o1 + k * 3, none⟩)) (by kernel_rfl) (by omega) (by kernel_rfl) rfl
            simp [execOp, kn.rho.con, e0, go_sem])
        · exact gd_gen (by kernel_rfl) (Want.some_ (g := 24) (v := false) rfl rfl (by kernel_rfl) (by omega) rfl rfl (by kernel_rfl)) rfl (fun D u w v h => by simpa [updB, upd] using h) (fun D u ρ w kn => by
            have e0 := kn.con 28 45 (c := .pointer (some ⟨b1, o1 + k * 3 + 2, none⟩)) (by kernel_rfl) (by omega) (by kernel_rfl) rfl
            have f0 := (show w.cell? ⟨b1, o1 + k * 3 + 2, none⟩ = some (.slice x.A x.data.length x.c) from (HA.out.grown (only_trans G.out kn.ext) (by simp)).flatAt BlobD.cells_len HX.out 2 (by omega))
            simp [execOp, kn.rho.con, e0, f0, go_sem])
        · exact gd_gen (by kernel_rfl) (Want.some_ (g := 24) (v := false) rfl rfl (by kernel_rfl) (by omega) rfl rfl (by kernel_rfl)) rfl (fun D u w v h => by simpa [updB, upd] using h) (fun D u ρ w kn => by
            have e0 := kn.own 1 (c := .slice (some ⟨b2, o2, none⟩) (n) (d)) (by kernel_rfl) ea1
            simp [execOp, kn.rho.con, e0, go_sem])
        · exact gd_gen (by kernel_rfl) (Want.some_ (g := 24) (v := false) rfl rfl (by kernel_rfl) (by omega) rfl rfl (by kernel_rfl)) rfl (fun D u w v h => by simpa [updB, upd] using h) (fun D u ρ w kn => by
            have e0 := kn.own 5 (c := .int .i64 ((k : Int))) (by kernel_rfl) ea5
            simp [execOp, kn.rho.con, e0, go_sem])
        · exact gd_gen (by kernel_rfl) (Want.some_ (g := 24) (v := false) rfl rfl (by kernel_rfl) (by omega) rfl rfl (by kernel_rfl)) rfl (fun D u w v h => by simpa [updB, upd] using h) (fun D u ρ w kn => by
            have e0 := kn.con 30 47 (c := .slice (some ⟨b2, o2, none⟩) (n) (d)) (by kernel_rfl) (by omega) (by kernel_rfl) rfl
            have e1 := kn.con 31 48 (c := .int .i64 ((k : Int))) (by kernel_rfl) (by omega) (by kernel_rfl) rfl
            simp [execOp, kn.rho.con, e0, e1, go_sem, i1])
        · exact gd_gen (by kernel_rfl) (Want.some_ (g := 24) (v := false) rfl rfl (by kernel_rfl) (by omega) rfl rfl (by kernel_rfl)) rfl (fun D u w v h => by simpa [updB, upd] using h) (fun D u ρ w kn => by
            have e0 := kn.con 32 49 (c := .pointer (some ⟨b2, o2 + k * 3, none⟩)) (by kernel_rfl) (by omega) (by kernel_rfl) rfl
            simp [execOp, kn.rho.con, e0, go_sem])
        · exact gd_gen (by kernel_rfl) (Want.some_ (g := 24) (v := false) rfl rfl (by kernel_rfl) (by omega) rfl rfl (by kernel_rfl)) rfl (fun D u w v h => by simpa [updB, upd] using h) (fun D u ρ w kn => by
            have e0 := kn.con 33 50 (c := .pointer (some ⟨b2, o2 + k * 3 + 2, none⟩)) (by kernel_rfl) (by omega) (by kernel_rfl) rfl
            have f0 := (show w.cell? ⟨b2, o2 + k * 3 + 2, none⟩ = some (.slice y.A x.data.length y.c) from ((HB.out.grown (only_trans G.out kn.ext) (by simp)).flatAt BlobD.cells_len HY.out 2 (by omega)).trans (by rw [EY.out]; rfl))
            simp [execOp, kn.rho.con, e0, f0, go_sem])
      · intro D u w9 hJ hD
        simp only [List.take_succ_cons, List.take_zero, List.drop_succ_cons, List.drop_zero, putAll]
        have hcn := hJ.1
        have x1 := hJ.2
        clear hJ
        have e24 : u 24 = .bool false := hcn 24 _ rfl (hD 24 (by omega))
        have e29 : u 29 = .slice x.A x.data.length x.c := hcn 29 _ rfl (hD 29 (by omega))
        have e34 : u 34 = .slice y.A x.data.length y.c := hcn 34 _ rfl (hD 34 (by omega))
        have G9 := Lib.hid (only_trans G.out x1)
        have KB : Hid (Calls Try.prog 16 #[.slice x.A x.data.length x.c, .slice y.A x.data.length y.c] w9 (Quiet (.bool true) w9)) := Lib.hid (by
          have hy2 := (UY.out.grown G9.out (by simp))
          have := samebytes_any x.A y.A x.data y.data x.c y.c w9 ((UX.out.grown G9.out (by simp)).1) hy2.1 (by have := UX.out.2.2.2; omega) (by have := UY.out.2.2.2; omega) true (by rw [ED.out]; simp)
          rw [ED.out] at this; exact this)
        rw [e24, e29, e34]
        clear hcn x1 e24 e29 e34 hD
        go_simp
        go_wp2_with fail
        refine KB.out.mono ?_
        rintro e w10 ⟨rfl, q, rfl⟩
        have G10 := Lib.hid (only_drewN G9.out q)
        clear KB
        go_wp2_with fail
        go_roundw
        case rel => exact ⟨k + 1, by go_num, by omega, G10.out⟩
        case measure => simp [intOf]; omega
    · have i1 : ¬ ((k : Int) < (n : Int)) := by omega
      go_wp2_with fail
      go_ret
      exact ⟨rfl, G.out⟩
end Go.Proofs.Ytganfhmjklcchaa
