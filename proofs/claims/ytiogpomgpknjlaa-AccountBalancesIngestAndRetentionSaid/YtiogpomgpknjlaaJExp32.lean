/- Expired of the reference of chapter 32: some rule, some Boolean (printed by mk42h.py). Conditions: sizes. -/
import Derived.Test.YtiogpomgpknjlaaJHeld32
namespace Go.Proofs.Ytiogpomgpknjlaa
open Go.RowKit
set_option linter.unusedVariables false
set_option linter.unusedSimpArgs false

def ExpP (w : World) (e : Ending) (w' : World) : Prop := ∃ (s : ByteArray) (b : Bool), e = .returned (.tuple #[.string s, .bool b]) ∧ w.grownBy w' none
set_option maxHeartbeats 8000000 in
set_option maxRecDepth 100000 in
theorem expired32_any {S S2 S3 : Nat → Prop} (A : Option Addr) (ps : List PolD) (c : Nat) (B : Option Addr) (hs : List HoldD) (d : Nat) (now : Int) (x : Ev) (w : World) (hr : Rd S w A (ps.flatMap PolD.cells)) (hl : ps.length ≤ 1000) (hr2 : Rd S3 w B (hs.flatMap HoldD.cells)) (hl2 : hs.length ≤ 1000) (h : x.Sub S2 w) (hxl : x.fields.length ≤ 1000000) :
    Calls Try.prog 58 #[.slice A ps.length c, .slice B hs.length d, .int .i64 now, .agg x.cells.toArray] w (ExpP w) := by
  rw [evAgg]
  obtain ⟨xb, hxb⟩ : ∃ b, b = w.heap.size := ⟨_, rfl⟩
  obtain ⟨W1, hW1⟩ : ∃ W, W = w.alloc (.cells #[.int .i64 x.host, .int .i64 x.file, .int .i64 x.beg, .int .i64 x.fin, .slice x.la x.lines.length x.lc, .int .i64 x.time, .int .i64 x.weight, .string x.trace, .string x.stream, .slice x.fa x.fields.length x.fc] 75) := ⟨_, rfl⟩
  have G1 : Hid (w.grownBy W1 none) := Lib.hid (by rw [hW1]; exact only_alloc (only_refl _ _) _)
  have B1 : Hid (Blk W1 xb 75 #[.int .i64 x.host, .int .i64 x.file, .int .i64 x.beg, .int .i64 x.fin, .slice x.la x.lines.length x.lc, .int .i64 x.time, .int .i64 x.weight, .string x.trace, .string x.stream, .slice x.fa x.fields.length x.fc]) := Lib.hid (by rw [hW1, hxb]; exact Blk.new w _ _)
  have HR := Lib.hid (hr.grown G1.out (by simp))
  have HR2 := Lib.hid (hr2.grown G1.out (by simp))
  have HX := Lib.hid (h.grown G1.out (by simp))
  have KP : Hid (Calls Try.prog 72 #[.slice A ps.length c, .agg #[.int .i64 x.host, .int .i64 x.file, .int .i64 x.beg, .int .i64 x.fin, .slice x.la x.lines.length x.lc, .int .i64 x.time, .int .i64 x.weight, .string x.trace, .string x.stream, .slice x.fa x.fields.length x.fc]] W1 (PolP ps.length W1)) := Lib.hid (by have h0 := policy32_any A ps c x W1 HR.out hl HX.out hxl; rw [evAgg] at h0; exact h0)
  have HW := Lib.hid hW1.symm
  have HXB := Lib.hid hxb
  have x0 := B1.out.cell 0; have x1 := B1.out.cell 1; have x2 := B1.out.cell 2; have x3 := B1.out.cell 3; have x4 := B1.out.cell 4; have x5 := B1.out.cell 5; have x6 := B1.out.cell 6; have x7 := B1.out.cell 7; have x8 := B1.out.cell 8; have x9 := B1.out.cell 9
  simp at x0 x1 x2 x3 x4 x5 x6 x7 x8 x9
  clear hW1 hxb h hr hr2
  go_enter Try.func58, Try.ntmps58
  go_upto_region 1 with fail
  rw [HW.out, ← HXB.out]
  clear HW
  go_wp2_with fail
  refine KP.out.mono ?_
  rintro e W2 ⟨v, rfl, hv, hg2⟩
  have G2 := Lib.hid (only_trans G1.out hg2)
  have BR := Lib.hid (B1.out.grown hg2 (by simp))
  have HP2 := Lib.hid (HR.out.grown hg2 (by simp))
  have KH : Hid (∀ W, W2.grownBy W none → Calls Try.prog 73 #[.slice B hs.length d, .agg x.cells.toArray] W (BoolQ (heldB hs x) W)) := Lib.hid (fun W hg => held32_any B hs d x W (HR2.out.grown (only_trans hg2 hg) (by simp)) hl2 (HX.out.grown (only_trans hg2 hg) (by simp)) hxl)
  have HV := Lib.hid hv
  clear hv hg2 x0 x1 x2 x3 x4 x5 x6 x7 x8 x9 KP
  go_upto_region 2 with fail
  go_cut [40] (fun z wx => ∃ bb : Bool, z = .bool bb ∧ (bb = false → ∃ k : Nat, k < ps.length ∧ v = k) ∧ W2.grownBy wx none)
  case first =>
    by_cases h1 : now < 0
    · refine wp_region_gen 27 (JC (some (.int .i64 (now)) :: some (.bool true) :: some (.bool true) :: some (undef) :: some (undef) :: some (.bool true) :: some (.bool true) :: some (undef) :: some (undef) :: some (.bool true) :: some (.bool true) :: some (undef) :: some (undef) :: some (undef) :: some (.bool true) :: some (.bool true) :: some (undef) :: some (undef) :: some (undef) :: some (undef) :: some (undef) :: some (undef) :: some (undef) :: some (undef) :: some (undef) :: some (undef) :: some (.bool true) :: []) (fun D u wx => W2.grownBy wx none)) (by kernel_rfl) (by kernel_rfl) ?_ ?_ ?_
      · intro u
        exact ⟨(fun j c _ h => by cases h), only_drew (only_refl _ _)⟩
      · intro AA hA
        have hasz : AA.tmps.size = 46 := by rw [hA]; kernel_rfl
        have ea0 : AA.eval (.tmp 0) = .slice A ps.length c := by rw [hA]; kernel_rfl
        have ea1 : AA.eval (.tmp 1) = .slice B hs.length d := by rw [hA]; kernel_rfl
        have ea2 : AA.eval (.tmp 2) = .int .i64 (now) := by rw [hA]; kernel_rfl
        have ea7 : AA.eval (.tmp 7) = .pointer (some ⟨xb, 0, none⟩) := by rw [hA]; kernel_rfl
        have ea10 : AA.eval (.tmp 10) = .int .i64 (v) := by rw [hA]; kernel_rfl
        clear hA
        simp only [List.take_succ_cons, List.take_zero]
        refine .cons ?_ (.cons ?_ (.cons ?_ (.cons ?_ (.cons ?_ (.cons ?_ (.cons ?_ (.cons ?_ (.cons ?_ (.cons ?_ (.cons ?_ (.cons ?_ (.cons ?_ (.cons ?_ (.cons ?_ (.cons ?_ (.cons ?_ (.cons ?_ (.cons ?_ (.cons ?_ (.cons ?_ (.cons ?_ (.cons ?_ (.cons ?_ (.cons ?_ (.cons ?_ (.cons ?_ (.nil)))))))))))))))))))))))))))
        · exact gd_gen (by kernel_rfl) (Want.none_ rfl) rfl (fun D u w v h => by simpa [updB, upd] using h) (fun D u ρ w kn => by
            have e0 := kn.own 2 (c := .int .i64 (now)) (by kernel_rfl) ea2
            simp [execOp, kn.rho.con, e0, go_sem])
        · exact gd_gen (by kernel_rfl) (Want.none_ rfl) rfl (fun D u w v h => by simpa [updB, upd] using h) (fun D u ρ w kn => by
            have e0 := kn.con 0 14 (c := .int .i64 (now)) (by kernel_rfl) (by omega) (by kernel_rfl) rfl
            simp [execOp, kn.rho.con, e0, go_sem, h1])
        · exact gd_gen (by kernel_rfl) (Want.none_ rfl) rfl (fun D u w v h => by simpa [updB, upd] using h) (fun D u ρ w kn => by
            have e0 := kn.con 1 15 (c := .bool true) (by kernel_rfl) (by omega) (by kernel_rfl) rfl
            simp [execOp, kn.rho.con, e0, go_sem])
        · exact gd_off (by kernel_rfl) (Want.some_ (g := 2) (v := true) rfl rfl (by kernel_rfl) (by omega) rfl rfl (by kernel_rfl)) (.inr rfl) (fun D u w v h => by simpa [updB, upd] using h)
        · exact gd_off (by kernel_rfl) (Want.some_ (g := 2) (v := true) rfl rfl (by kernel_rfl) (by omega) rfl rfl (by kernel_rfl)) (.inr rfl) (fun D u w v h => by simpa [updB, upd] using h)
        · exact gd_gen (by kernel_rfl) (Want.none_ rfl) rfl (fun D u w v h => by simpa [updB, upd] using h) (fun D u ρ w kn => by
            have e0 := kn.con 2 16 (c := .bool true) (by kernel_rfl) (by omega) (by kernel_rfl) rfl
            have e1 := kn.con 4 18 (c := undef) (by kernel_rfl) (by omega) (by kernel_rfl) rfl
            simp [execOp, kn.rho.con, e0, e1, go_sem])
        · exact gd_gen (by kernel_rfl) (Want.none_ rfl) rfl (fun D u w v h => by simpa [updB, upd] using h) (fun D u ρ w kn => by
            have e0 := kn.con 5 19 (c := .bool true) (by kernel_rfl) (by omega) (by kernel_rfl) rfl
            simp [execOp, kn.rho.con, e0, go_sem])
        · exact gd_off (by kernel_rfl) (Want.some_ (g := 6) (v := true) rfl rfl (by kernel_rfl) (by omega) rfl rfl (by kernel_rfl)) (.inr rfl) (fun D u w v h => by simpa [updB, upd] using h)
        · exact gd_off (by kernel_rfl) (Want.some_ (g := 6) (v := true) rfl rfl (by kernel_rfl) (by omega) rfl rfl (by kernel_rfl)) (.inr rfl) (fun D u w v h => by simpa [updB, upd] using h)
        · exact gd_gen (by kernel_rfl) (Want.none_ rfl) rfl (fun D u w v h => by simpa [updB, upd] using h) (fun D u ρ w kn => by
            have e0 := kn.con 6 20 (c := .bool true) (by kernel_rfl) (by omega) (by kernel_rfl) rfl
            have e1 := kn.con 8 22 (c := undef) (by kernel_rfl) (by omega) (by kernel_rfl) rfl
            simp [execOp, kn.rho.con, e0, e1, go_sem])
        · exact gd_gen (by kernel_rfl) (Want.none_ rfl) rfl (fun D u w v h => by simpa [updB, upd] using h) (fun D u ρ w kn => by
            have e0 := kn.con 9 23 (c := .bool true) (by kernel_rfl) (by omega) (by kernel_rfl) rfl
            simp [execOp, kn.rho.con, e0, go_sem])
        · exact gd_off (by kernel_rfl) (Want.some_ (g := 10) (v := true) rfl rfl (by kernel_rfl) (by omega) rfl rfl (by kernel_rfl)) (.inr rfl) (fun D u w v h => by simpa [updB, upd] using h)
        · exact gd_off (by kernel_rfl) (Want.some_ (g := 10) (v := true) rfl rfl (by kernel_rfl) (by omega) rfl rfl (by kernel_rfl)) (.inr rfl) (fun D u w v h => by simpa [updB, upd] using h)
        · exact gd_off (by kernel_rfl) (Want.some_ (g := 10) (v := true) rfl rfl (by kernel_rfl) (by omega) rfl rfl (by kernel_rfl)) (.inr rfl) (fun D u w v h => by simpa [updB, upd] using h)
        · exact gd_gen (by kernel_rfl) (Want.none_ rfl) rfl (fun D u w v h => by simpa [updB, upd] using h) (fun D u ρ w kn => by
            have e0 := kn.con 10 24 (c := .bool true) (by kernel_rfl) (by omega) (by kernel_rfl) rfl
            have e1 := kn.con 13 27 (c := undef) (by kernel_rfl) (by omega) (by kernel_rfl) rfl
            simp [execOp, kn.rho.con, e0, e1, go_sem])
        · exact gd_gen (by kernel_rfl) (Want.none_ rfl) rfl (fun D u w v h => by simpa [updB, upd] using h) (fun D u ρ w kn => by
            have e0 := kn.con 14 28 (c := .bool true) (by kernel_rfl) (by omega) (by kernel_rfl) rfl
            simp [execOp, kn.rho.con, e0, go_sem])
        · exact gd_off (by kernel_rfl) (Want.some_ (g := 15) (v := true) rfl rfl (by kernel_rfl) (by omega) rfl rfl (by kernel_rfl)) (.inr rfl) (fun D u w v h => by simpa [updB, upd] using h)
        · exact gd_off (by kernel_rfl) (Want.some_ (g := 15) (v := true) rfl rfl (by kernel_rfl) (by omega) rfl rfl (by kernel_rfl)) (.inr rfl) (fun D u w v h => by simpa [updB, upd] using h)
        · exact gd_off (by kernel_rfl) (Want.some_ (g := 15) (v := true) rfl rfl (by kernel_rfl) (by omega) rfl rfl (by kernel_rfl)) (.inr rfl) (fun D u w v h => by simpa [updB, upd] using h)
        · exact gd_off (by kernel_rfl) (Want.some_ (g := 15) (v := true) rfl rfl (by kernel_rfl) (by omega) rfl rfl (by kernel_rfl)) (.inr rfl) (fun D u w v h => by simpa [updB, upd] using h)
        · exact gd_off (by kernel_rfl) (Want.some_ (g := 15) (v := true) rfl rfl (by kernel_rfl) (by omega) rfl rfl (by kernel_rfl)) (.inr rfl) (fun D u w v h => by simpa [updB, upd] using h)
        · exact gd_off (by kernel_rfl) (Want.some_ (g := 15) (v := true) rfl rfl (by kernel_rfl) (by omega) rfl rfl (by kernel_rfl)) (.inr rfl) (fun D u w v h => by simpa [updB, upd] using h)
        · exact gd_off (by kernel_rfl) (Want.some_ (g := 15) (v := true) rfl rfl (by kernel_rfl) (by omega) rfl rfl (by kernel_rfl)) (.inr rfl) (fun D u w v h => by simpa [updB, upd] using h)
        · exact gd_off (by kernel_rfl) (Want.some_ (g := 15) (v := true) rfl rfl (by kernel_rfl) (by omega) rfl rfl (by kernel_rfl)) (.inr rfl) (fun D u w v h => by simpa [updB, upd] using h)
        · exact gd_off (by kernel_rfl) (Want.some_ (g := 15) (v := true) rfl rfl (by kernel_rfl) (by omega) rfl rfl (by kernel_rfl)) (.inr rfl) (fun D u w v h => by simpa [updB, upd] using h)
        · exact gd_off (by kernel_rfl) (Want.some_ (g := 15) (v := true) rfl rfl (by kernel_rfl) (by omega) rfl rfl (by kernel_rfl)) (.inr rfl) (fun D u w v h => by simpa [updB, upd] using h)
        · exact gd_gen (by kernel_rfl) (Want.none_ rfl) rfl (fun D u w v h => by simpa [updB, upd] using h) (fun D u ρ w kn => by
            have e0 := kn.con 15 29 (c := .bool true) (by kernel_rfl) (by omega) (by kernel_rfl) rfl
            have e1 := kn.con 25 39 (c := undef) (by kernel_rfl) (by omega) (by kernel_rfl) rfl
            simp [execOp, kn.rho.con, e0, e1, go_sem])
      · intro D u w9 hJ hD
        simp only [List.take_succ_cons, List.take_zero, List.drop_succ_cons, List.drop_zero, putAll]
        have hcn := hJ.1
        have x1 := hJ.2
        have e26 : u 26 = .bool true := hcn 26 _ rfl (hD 26 (by omega))
        rw [e26]
        have G9 := Lib.hid x1
        clear hJ hcn x1 e26 hD
        go_simp
        go_wp2_with fail
        go_meet
        exact ⟨true, rfl, (fun e => by cases e), G9.out⟩
    by_cases h2 : 253402300799999 < now
    · refine wp_region_gen 27 (JC (some (.int .i64 (now)) :: some (.bool false) :: some (.bool false) :: some (.int .i64 (now)) :: some (.bool true) :: some (.bool true) :: some (.bool true) :: some (undef) :: some (undef) :: some (.bool true) :: some (.bool true) :: some (undef) :: some (undef) :: some (undef) :: some (.bool true) :: some (.bool true) :: some (undef) :: some (undef) :: some (undef) :: some (undef) :: some (undef) :: some (undef) :: some (undef) :: some (undef) :: some (undef) :: some (undef) :: some (.bool true) :: []) (fun D u wx => W2.grownBy wx none)) (by kernel_rfl) (by kernel_rfl) ?_ ?_ ?_
      · intro u
        exact ⟨(fun j c _ h => by cases h), only_drew (only_refl _ _)⟩
      · intro AA hA
        have hasz : AA.tmps.size = 46 := by rw [hA]; kernel_rfl
        have ea0 : AA.eval (.tmp 0) = .slice A ps.length c := by rw [hA]; kernel_rfl
        have ea1 : AA.eval (.tmp 1) = .slice B hs.length d := by rw [hA]; kernel_rfl
        have ea2 : AA.eval (.tmp 2) = .int .i64 (now) := by rw [hA]; kernel_rfl
        have ea7 : AA.eval (.tmp 7) = .pointer (some ⟨xb, 0, none⟩) := by rw [hA]; kernel_rfl
        have ea10 : AA.eval (.tmp 10) = .int .i64 (v) := by rw [hA]; kernel_rfl
        clear hA
        simp only [List.take_succ_cons, List.take_zero]
        refine .cons ?_ (.cons ?_ (.cons ?_ (.cons ?_ (.cons ?_ (.cons ?_ (.cons ?_ (.cons ?_ (.cons ?_ (.cons ?_ (.cons ?_ (.cons ?_ (.cons ?_ (.cons ?_ (.cons ?_ (.cons ?_ (.cons ?_ (.cons ?_ (.cons ?_ (.cons ?_ (.cons ?_ (.cons ?_ (.cons ?_ (.cons ?_ (.cons ?_ (.cons ?_ (.cons ?_ (.nil)))))))))))))))))))))))))))
        · exact gd_gen (by kernel_rfl) (Want.none_ rfl) rfl (fun D u w v h => by simpa [updB, upd] using h) (fun D u ρ w kn => by
            have e0 := kn.own 2 (c := .int .i64 (now)) (by kernel_rfl) ea2
            simp [execOp, kn.rho.con, e0, go_sem])
        · exact gd_gen (by kernel_rfl) (Want.none_ rfl) rfl (fun D u w v h => by simpa [updB, upd] using h) (fun D u ρ w kn => by
            have e0 := kn.con 0 14 (c := .int .i64 (now)) (by kernel_rfl) (by omega) (by kernel_rfl) rfl
            simp [execOp, kn.rho.con, e0, go_sem, h1])
        · exact gd_gen (by kernel_rfl) (Want.none_ rfl) rfl (fun D u w v h => by simpa [updB, upd] using h) (fun D u ρ w kn => by
            have e0 := kn.con 1 15 (c := .bool false) (by kernel_rfl) (by omega) (by kernel_rfl) rfl
            simp [execOp, kn.rho.con, e0, go_sem])
        · exact gd_gen (by kernel_rfl) (Want.some_ (g := 2) (v := false) rfl rfl (by kernel_rfl) (by omega) rfl rfl (by kernel_rfl)) rfl (fun D u w v h => by simpa [updB, upd] using h) (fun D u ρ w kn => by
            have e0 := kn.own 2 (c := .int .i64 (now)) (by kernel_rfl) ea2
            simp [execOp, kn.rho.con, e0, go_sem])
        · exact gd_gen (by kernel_rfl) (Want.some_ (g := 2) (v := false) rfl rfl (by kernel_rfl) (by omega) rfl rfl (by kernel_rfl)) rfl (fun D u w v h => by simpa [updB, upd] using h) (fun D u ρ w kn => by
            have e0 := kn.con 3 17 (c := .int .i64 (now)) (by kernel_rfl) (by omega) (by kernel_rfl) rfl
            simp [execOp, kn.rho.con, e0, go_sem, h2])
        · exact gd_gen (by kernel_rfl) (Want.none_ rfl) rfl (fun D u w v h => by simpa [updB, upd] using h) (fun D u ρ w kn => by
            have e0 := kn.con 2 16 (c := .bool false) (by kernel_rfl) (by omega) (by kernel_rfl) rfl
            have e1 := kn.con 4 18 (c := .bool true) (by kernel_rfl) (by omega) (by kernel_rfl) rfl
            simp [execOp, kn.rho.con, e0, e1, go_sem])
        · exact gd_gen (by kernel_rfl) (Want.none_ rfl) rfl (fun D u w v h => by simpa [updB, upd] using h) (fun D u ρ w kn => by
            have e0 := kn.con 5 19 (c := .bool true) (by kernel_rfl) (by omega) (by kernel_rfl) rfl
            simp [execOp, kn.rho.con, e0, go_sem])
        · exact gd_off (by kernel_rfl) (Want.some_ (g := 6) (v := true) rfl rfl (by kernel_rfl) (by omega) rfl rfl (by kernel_rfl)) (.inr rfl) (fun D u w v h => by simpa [updB, upd] using h)
        · exact gd_off (by kernel_rfl) (Want.some_ (g := 6) (v := true) rfl rfl (by kernel_rfl) (by omega) rfl rfl (by kernel_rfl)) (.inr rfl) (fun D u w v h => by simpa [updB, upd] using h)
        · exact gd_gen (by kernel_rfl) (Want.none_ rfl) rfl (fun D u w v h => by simpa [updB, upd] using h) (fun D u ρ w kn => by
            have e0 := kn.con 6 20 (c := .bool true) (by kernel_rfl) (by omega) (by kernel_rfl) rfl
            have e1 := kn.con 8 22 (c := undef) (by kernel_rfl) (by omega) (by kernel_rfl) rfl
            simp [execOp, kn.rho.con, e0, e1, go_sem])
        · exact gd_gen (by kernel_rfl) (Want.none_ rfl) rfl (fun D u w v h => by simpa [updB, upd] using h) (fun D u ρ w kn => by
            have e0 := kn.con 9 23 (c := .bool true) (by kernel_rfl) (by omega) (by kernel_rfl) rfl
            simp [execOp, kn.rho.con, e0, go_sem])
        · exact gd_off (by kernel_rfl) (Want.some_ (g := 10) (v := true) rfl rfl (by kernel_rfl) (by omega) rfl rfl (by kernel_rfl)) (.inr rfl) (fun D u w v h => by simpa [updB, upd] using h)
        · exact gd_off (by kernel_rfl) (Want.some_ (g := 10) (v := true) rfl rfl (by kernel_rfl) (by omega) rfl rfl (by kernel_rfl)) (.inr rfl) (fun D u w v h => by simpa [updB, upd] using h)
        · exact gd_off (by kernel_rfl) (Want.some_ (g := 10) (v := true) rfl rfl (by kernel_rfl) (by omega) rfl rfl (by kernel_rfl)) (.inr rfl) (fun D u w v h => by simpa [updB, upd] using h)
        · exact gd_gen (by kernel_rfl) (Want.none_ rfl) rfl (fun D u w v h => by simpa [updB, upd] using h) (fun D u ρ w kn => by
            have e0 := kn.con 10 24 (c := .bool true) (by kernel_rfl) (by omega) (by kernel_rfl) rfl
            have e1 := kn.con 13 27 (c := undef) (by kernel_rfl) (by omega) (by kernel_rfl) rfl
            simp [execOp, kn.rho.con, e0, e1, go_sem])
        · exact gd_gen (by kernel_rfl) (Want.none_ rfl) rfl (fun D u w v h => by simpa [updB, upd] using h) (fun D u ρ w kn => by
            have e0 := kn.con 14 28 (c := .bool true) (by kernel_rfl) (by omega) (by kernel_rfl) rfl
            simp [execOp, kn.rho.con, e0, go_sem])
        · exact gd_off (by kernel_rfl) (Want.some_ (g := 15) (v := true) rfl rfl (by kernel_rfl) (by omega) rfl rfl (by kernel_rfl)) (.inr rfl) (fun D u w v h => by simpa [updB, upd] using h)
        · exact gd_off (by kernel_rfl) (Want.some_ (g := 15) (v := true) rfl rfl (by kernel_rfl) (by omega) rfl rfl (by kernel_rfl)) (.inr rfl) (fun D u w v h => by simpa [updB, upd] using h)
        · exact gd_off (by kernel_rfl) (Want.some_ (g := 15) (v := true) rfl rfl (by kernel_rfl) (by omega) rfl rfl (by kernel_rfl)) (.inr rfl) (fun D u w v h => by simpa [updB, upd] using h)
        · exact gd_off (by kernel_rfl) (Want.some_ (g := 15) (v := true) rfl rfl (by kernel_rfl) (by omega) rfl rfl (by kernel_rfl)) (.inr rfl) (fun D u w v h => by simpa [updB, upd] using h)
        · exact gd_off (by kernel_rfl) (Want.some_ (g := 15) (v := true) rfl rfl (by kernel_rfl) (by omega) rfl rfl (by kernel_rfl)) (.inr rfl) (fun D u w v h => by simpa [updB, upd] using h)
        · exact gd_off (by kernel_rfl) (Want.some_ (g := 15) (v := true) rfl rfl (by kernel_rfl) (by omega) rfl rfl (by kernel_rfl)) (.inr rfl) (fun D u w v h => by simpa [updB, upd] using h)
        · exact gd_off (by kernel_rfl) (Want.some_ (g := 15) (v := true) rfl rfl (by kernel_rfl) (by omega) rfl rfl (by kernel_rfl)) (.inr rfl) (fun D u w v h => by simpa [updB, upd] using h)
        · exact gd_off (by kernel_rfl) (Want.some_ (g := 15) (v := true) rfl rfl (by kernel_rfl) (by omega) rfl rfl (by kernel_rfl)) (.inr rfl) (fun D u w v h => by simpa [updB, upd] using h)
        · exact gd_off (by kernel_rfl) (Want.some_ (g := 15) (v := true) rfl rfl (by kernel_rfl) (by omega) rfl rfl (by kernel_rfl)) (.inr rfl) (fun D u w v h => by simpa [updB, upd] using h)
        · exact gd_off (by kernel_rfl) (Want.some_ (g := 15) (v := true) rfl rfl (by kernel_rfl) (by omega) rfl rfl (by kernel_rfl)) (.inr rfl) (fun D u w v h => by simpa [updB, upd] using h)
        · exact gd_gen (by kernel_rfl) (Want.none_ rfl) rfl (fun D u w v h => by simpa [updB, upd] using h) (fun D u ρ w kn => by
            have e0 := kn.con 15 29 (c := .bool true) (by kernel_rfl) (by omega) (by kernel_rfl) rfl
            have e1 := kn.con 25 39 (c := undef) (by kernel_rfl) (by omega) (by kernel_rfl) rfl
            simp [execOp, kn.rho.con, e0, e1, go_sem])
      · intro D u w9 hJ hD
        simp only [List.take_succ_cons, List.take_zero, List.drop_succ_cons, List.drop_zero, putAll]
        have hcn := hJ.1
        have x1 := hJ.2
        have e26 : u 26 = .bool true := hcn 26 _ rfl (hD 26 (by omega))
        rw [e26]
        have G9 := Lib.hid x1
        clear hJ hcn x1 e26 hD
        go_simp
        go_wp2_with fail
        go_meet
        exact ⟨true, rfl, (fun e => by cases e), G9.out⟩
    rcases HV.out with rfl | ⟨k, hlt, rfl⟩
    · refine wp_region_gen 27 (JC (some (.int .i64 (now)) :: some (.bool false) :: some (.bool false) :: some (.int .i64 (now)) :: some (.bool false) :: some (.bool false) :: some (.bool false) :: some (.int .i64 (-1)) :: some (.bool true) :: some (.bool true) :: some (.bool true) :: some (undef) :: some (undef) :: some (undef) :: some (.bool true) :: some (.bool true) :: some (undef) :: some (undef) :: some (undef) :: some (undef) :: some (undef) :: some (undef) :: some (undef) :: some (undef) :: some (undef) :: some (undef) :: some (.bool true) :: []) (fun D u wx => W2.grownBy wx none)) (by kernel_rfl) (by kernel_rfl) ?_ ?_ ?_
      · intro u
        exact ⟨(fun j c _ h => by cases h), only_drew (only_refl _ _)⟩
      · intro AA hA
        have hasz : AA.tmps.size = 46 := by rw [hA]; kernel_rfl
        have ea0 : AA.eval (.tmp 0) = .slice A ps.length c := by rw [hA]; kernel_rfl
        have ea1 : AA.eval (.tmp 1) = .slice B hs.length d := by rw [hA]; kernel_rfl
        have ea2 : AA.eval (.tmp 2) = .int .i64 (now) := by rw [hA]; kernel_rfl
        have ea7 : AA.eval (.tmp 7) = .pointer (some ⟨xb, 0, none⟩) := by rw [hA]; kernel_rfl
        have ea10 : AA.eval (.tmp 10) = .int .i64 (-1) := by rw [hA]; kernel_rfl
        clear hA
        simp only [List.take_succ_cons, List.take_zero]
        refine .cons ?_ (.cons ?_ (.cons ?_ (.cons ?_ (.cons ?_ (.cons ?_ (.cons ?_ (.cons ?_ (.cons ?_ (.cons ?_ (.cons ?_ (.cons ?_ (.cons ?_ (.cons ?_ (.cons ?_ (.cons ?_ (.cons ?_ (.cons ?_ (.cons ?_ (.cons ?_ (.cons ?_ (.cons ?_ (.cons ?_ (.cons ?_ (.cons ?_ (.cons ?_ (.cons ?_ (.nil)))))))))))))))))))))))))))
        · exact gd_gen (by kernel_rfl) (Want.none_ rfl) rfl (fun D u w v h => by simpa [updB, upd] using h) (fun D u ρ w kn => by
            have e0 := kn.own 2 (c := .int .i64 (now)) (by kernel_rfl) ea2
            simp [execOp, kn.rho.con, e0, go_sem])
        · exact gd_gen (by kernel_rfl) (Want.none_ rfl) rfl (fun D u w v h => by simpa [updB, upd] using h) (fun D u ρ w kn => by
            have e0 := kn.con 0 14 (c := .int .i64 (now)) (by kernel_rfl) (by omega) (by kernel_rfl) rfl
            simp [execOp, kn.rho.con, e0, go_sem, h1])
        · exact gd_gen (by kernel_rfl) (Want.none_ rfl) rfl (fun D u w v h => by simpa [updB, upd] using h) (fun D u ρ w kn => by
            have e0 := kn.con 1 15 (c := .bool false) (by kernel_rfl) (by omega) (by kernel_rfl) rfl
            simp [execOp, kn.rho.con, e0, go_sem])
        · exact gd_gen (by kernel_rfl) (Want.some_ (g := 2) (v := false) rfl rfl (by kernel_rfl) (by omega) rfl rfl (by kernel_rfl)) rfl (fun D u w v h => by simpa [updB, upd] using h) (fun D u ρ w kn => by
            have e0 := kn.own 2 (c := .int .i64 (now)) (by kernel_rfl) ea2
            simp [execOp, kn.rho.con, e0, go_sem])
        · exact gd_gen (by kernel_rfl) (Want.some_ (g := 2) (v := false) rfl rfl (by kernel_rfl) (by omega) rfl rfl (by kernel_rfl)) rfl (fun D u w v h => by simpa [updB, upd] using h) (fun D u ρ w kn => by
            have e0 := kn.con 3 17 (c := .int .i64 (now)) (by kernel_rfl) (by omega) (by kernel_rfl) rfl
            simp [execOp, kn.rho.con, e0, go_sem, h2])
        · exact gd_gen (by kernel_rfl) (Want.none_ rfl) rfl (fun D u w v h => by simpa [updB, upd] using h) (fun D u ρ w kn => by
            have e0 := kn.con 2 16 (c := .bool false) (by kernel_rfl) (by omega) (by kernel_rfl) rfl
            have e1 := kn.con 4 18 (c := .bool false) (by kernel_rfl) (by omega) (by kernel_rfl) rfl
            simp [execOp, kn.rho.con, e0, e1, go_sem])
        · exact gd_gen (by kernel_rfl) (Want.none_ rfl) rfl (fun D u w v h => by simpa [updB, upd] using h) (fun D u ρ w kn => by
            have e0 := kn.con 5 19 (c := .bool false) (by kernel_rfl) (by omega) (by kernel_rfl) rfl
            simp [execOp, kn.rho.con, e0, go_sem])
        · exact gd_gen (by kernel_rfl) (Want.some_ (g := 6) (v := false) rfl rfl (by kernel_rfl) (by omega) rfl rfl (by kernel_rfl)) rfl (fun D u w v h => by simpa [updB, upd] using h) (fun D u ρ w kn => by
            have e0 := kn.own 10 (c := .int .i64 (-1)) (by kernel_rfl) ea10
            simp [execOp, kn.rho.con, e0, go_sem])
        · exact gd_gen (by kernel_rfl) (Want.some_ (g := 6) (v := false) rfl rfl (by kernel_rfl) (by omega) rfl rfl (by kernel_rfl)) rfl (fun D u w v h => by simpa [updB, upd] using h) (fun D u ρ w kn => by
            have e0 := kn.con 7 21 (c := .int .i64 (-1)) (by kernel_rfl) (by omega) (by kernel_rfl) rfl
            simp [execOp, kn.rho.con, e0, go_sem])
        · exact gd_gen (by kernel_rfl) (Want.none_ rfl) rfl (fun D u w v h => by simpa [updB, upd] using h) (fun D u ρ w kn => by
            have e0 := kn.con 6 20 (c := .bool false) (by kernel_rfl) (by omega) (by kernel_rfl) rfl
            have e1 := kn.con 8 22 (c := .bool true) (by kernel_rfl) (by omega) (by kernel_rfl) rfl
            simp [execOp, kn.rho.con, e0, e1, go_sem])
        · exact gd_gen (by kernel_rfl) (Want.none_ rfl) rfl (fun D u w v h => by simpa [updB, upd] using h) (fun D u ρ w kn => by
            have e0 := kn.con 9 23 (c := .bool true) (by kernel_rfl) (by omega) (by kernel_rfl) rfl
            simp [execOp, kn.rho.con, e0, go_sem])
        · exact gd_off (by kernel_rfl) (Want.some_ (g := 10) (v := true) rfl rfl (by kernel_rfl) (by omega) rfl rfl (by kernel_rfl)) (.inr rfl) (fun D u w v h => by simpa [updB, upd] using h)
        · exact gd_off (by kernel_rfl) (Want.some_ (g := 10) (v := true) rfl rfl (by kernel_rfl) (by omega) rfl rfl (by kernel_rfl)) (.inr rfl) (fun D u w v h => by simpa [updB, upd] using h)
        · exact gd_off (by kernel_rfl) (Want.some_ (g := 10) (v := true) rfl rfl (by kernel_rfl) (by omega) rfl rfl (by kernel_rfl)) (.inr rfl) (fun D u w v h => by simpa [updB, upd] using h)
        · exact gd_gen (by kernel_rfl) (Want.none_ rfl) rfl (fun D u w v h => by simpa [updB, upd] using h) (fun D u ρ w kn => by
            have e0 := kn.con 10 24 (c := .bool true) (by kernel_rfl) (by omega) (by kernel_rfl) rfl
            have e1 := kn.con 13 27 (c := undef) (by kernel_rfl) (by omega) (by kernel_rfl) rfl
            simp [execOp, kn.rho.con, e0, e1, go_sem])
        · exact gd_gen (by kernel_rfl) (Want.none_ rfl) rfl (fun D u w v h => by simpa [updB, upd] using h) (fun D u ρ w kn => by
            have e0 := kn.con 14 28 (c := .bool true) (by kernel_rfl) (by omega) (by kernel_rfl) rfl
            simp [execOp, kn.rho.con, e0, go_sem])
        · exact gd_off (by kernel_rfl) (Want.some_ (g := 15) (v := true) rfl rfl (by kernel_rfl) (by omega) rfl rfl (by kernel_rfl)) (.inr rfl) (fun D u w v h => by simpa [updB, upd] using h)
        · exact gd_off (by kernel_rfl) (Want.some_ (g := 15) (v := true) rfl rfl (by kernel_rfl) (by omega) rfl rfl (by kernel_rfl)) (.inr rfl) (fun D u w v h => by simpa [updB, upd] using h)
        · exact gd_off (by kernel_rfl) (Want.some_ (g := 15) (v := true) rfl rfl (by kernel_rfl) (by omega) rfl rfl (by kernel_rfl)) (.inr rfl) (fun D u w v h => by simpa [updB, upd] using h)
        · exact gd_off (by kernel_rfl) (Want.some_ (g := 15) (v := true) rfl rfl (by kernel_rfl) (by omega) rfl rfl (by kernel_rfl)) (.inr rfl) (fun D u w v h => by simpa [updB, upd] using h)
        · exact gd_off (by kernel_rfl) (Want.some_ (g := 15) (v := true) rfl rfl (by kernel_rfl) (by omega) rfl rfl (by kernel_rfl)) (.inr rfl) (fun D u w v h => by simpa [updB, upd] using h)
        · exact gd_off (by kernel_rfl) (Want.some_ (g := 15) (v := true) rfl rfl (by kernel_rfl) (by omega) rfl rfl (by kernel_rfl)) (.inr rfl) (fun D u w v h => by simpa [updB, upd] using h)
        · exact gd_off (by kernel_rfl) (Want.some_ (g := 15) (v := true) rfl rfl (by kernel_rfl) (by omega) rfl rfl (by kernel_rfl)) (.inr rfl) (fun D u w v h => by simpa [updB, upd] using h)
        · exact gd_off (by kernel_rfl) (Want.some_ (g := 15) (v := true) rfl rfl (by kernel_rfl) (by omega) rfl rfl (by kernel_rfl)) (.inr rfl) (fun D u w v h => by simpa [updB, upd] using h)
        · exact gd_off (by kernel_rfl) (Want.some_ (g := 15) (v := true) rfl rfl (by kernel_rfl) (by omega) rfl rfl (by kernel_rfl)) (.inr rfl) (fun D u w v h => by simpa [updB, upd] using h)
        · exact gd_off (by kernel_rfl) (Want.some_ (g := 15) (v := true) rfl rfl (by kernel_rfl) (by omega) rfl rfl (by kernel_rfl)) (.inr rfl) (fun D u w v h => by simpa [updB, upd] using h)
        · exact gd_gen (by kernel_rfl) (Want.none_ rfl) rfl (fun D u w v h => by simpa [updB, upd] using h) (fun D u ρ w kn => by
            have e0 := kn.con 15 29 (c := .bool true) (by kernel_rfl) (by omega) (by kernel_rfl) rfl
            have e1 := kn.con 25 39 (c := undef) (by kernel_rfl) (by omega) (by kernel_rfl) rfl
            simp [execOp, kn.rho.con, e0, e1, go_sem])
      · intro D u w9 hJ hD
        simp only [List.take_succ_cons, List.take_zero, List.drop_succ_cons, List.drop_zero, putAll]
        have hcn := hJ.1
        have x1 := hJ.2
        have e26 : u 26 = .bool true := hcn 26 _ rfl (hD 26 (by omega))
        rw [e26]
        have G9 := Lib.hid x1
        clear hJ hcn x1 e26 hD
        go_simp
        go_wp2_with fail
        go_meet
        exact ⟨true, rfl, (fun e => by cases e), G9.out⟩
    obtain ⟨y, hy⟩ : ∃ y, ps[k]? = some y := ⟨_, List.getElem?_eq_getElem hlt⟩
    have HRR' := HP2.out
    obtain ⟨b, o, rfl, -, -, -⟩ := HRR' (by rw [flat_len _ 4 PolD.cells_len]; omega)
    have HRR := Lib.hid HRR'
    have HY := Lib.hid hy
    clear hy HRR'
    have i1 : (k : Int) < (ps.length : Int) := by omega
    have i2 : (0 : Int) ≤ (k : Int) := by omega
    have i3 : ¬ (k : Int) < 0 := by omega
    obtain ⟨hb, hhb⟩ : ∃ b, b = heldB hs x := ⟨_, rfl⟩
    rw [← hhb] at KH
    clear hhb
    cases hb with
    | true =>
      refine wp_region_gen 27 (JC (some (.int .i64 (now)) :: some (.bool false) :: some (.bool false) :: some (.int .i64 (now)) :: some (.bool false) :: some (.bool false) :: some (.bool false) :: some (.int .i64 ((k : Int))) :: some (.bool false) :: some (.bool false) :: some (.bool false) :: some (.slice B hs.length d) :: some (.agg x.cells.toArray) :: some (.bool true) :: some (.bool true) :: some (.bool true) :: some (undef) :: some (undef) :: some (undef) :: some (undef) :: some (undef) :: some (undef) :: some (undef) :: some (undef) :: some (undef) :: some (undef) :: some (.bool true) :: []) (fun D u wx => W2.grownBy wx none)) (by kernel_rfl) (by kernel_rfl) ?_ ?_ ?_
      · intro u
        exact ⟨(fun j c _ h => by cases h), only_drew (only_refl _ _)⟩
      · intro AA hA
        have hasz : AA.tmps.size = 46 := by rw [hA]; kernel_rfl
        have ea0 : AA.eval (.tmp 0) = .slice (some ⟨b, o, none⟩) (ps.length) (c) := by rw [hA]; kernel_rfl
        have ea1 : AA.eval (.tmp 1) = .slice B hs.length d := by rw [hA]; kernel_rfl
        have ea2 : AA.eval (.tmp 2) = .int .i64 (now) := by rw [hA]; kernel_rfl
        have ea7 : AA.eval (.tmp 7) = .pointer (some ⟨xb, 0, none⟩) := by rw [hA]; kernel_rfl
        have ea10 : AA.eval (.tmp 10) = .int .i64 ((k : Int)) := by rw [hA]; kernel_rfl
        clear hA
        simp only [List.take_succ_cons, List.take_zero]
        refine .cons ?_ (.cons ?_ (.cons ?_ (.cons ?_ (.cons ?_ (.cons ?_ (.cons ?_ (.cons ?_ (.cons ?_ (.cons ?_ (.cons ?_ (.cons ?_ (.cons ?_ (.cons ?_ (.cons ?_ (.cons ?_ (.cons ?_ (.cons ?_ (.cons ?_ (.cons ?_ (.cons ?_ (.cons ?_ (.cons ?_ (.cons ?_ (.cons ?_ (.cons ?_ (.cons ?_ (.nil)))))))))))))))))))))))))))
        · exact gd_gen (by kernel_rfl) (Want.none_ rfl) rfl (fun D u w v h => by simpa [updB, upd] using h) (fun D u ρ w kn => by
            have e0 := kn.own 2 (c := .int .i64 (now)) (by kernel_rfl) ea2
            simp [execOp, kn.rho.con, e0, go_sem])
        · exact gd_gen (by kernel_rfl) (Want.none_ rfl) rfl (fun D u w v h => by simpa [updB, upd] using h) (fun D u ρ w kn => by
            have e0 := kn.con 0 14 (c := .int .i64 (now)) (by kernel_rfl) (by omega) (by kernel_rfl) rfl
            simp [execOp, kn.rho.con, e0, go_sem, h1])
        · exact gd_gen (by kernel_rfl) (Want.none_ rfl) rfl (fun D u w v h => by simpa [updB, upd] using h) (fun D u ρ w kn => by
            have e0 := kn.con 1 15 (c := .bool false) (by kernel_rfl) (by omega) (by kernel_rfl) rfl
            simp [execOp, kn.rho.con, e0, go_sem])
        · exact gd_gen (by kernel_rfl) (Want.some_ (g := 2) (v := false) rfl rfl (by kernel_rfl) (by omega) rfl rfl (by kernel_rfl)) rfl (fun D u w v h => by simpa [updB, upd] using h) (fun D u ρ w kn => by
            have e0 := kn.own 2 (c := .int .i64 (now)) (by kernel_rfl) ea2
            simp [execOp, kn.rho.con, e0, go_sem])
        · exact gd_gen (by kernel_rfl) (Want.some_ (g := 2) (v := false) rfl rfl (by kernel_rfl) (by omega) rfl rfl (by kernel_rfl)) rfl (fun D u w v h => by simpa [updB, upd] using h) (fun D u ρ w kn => by
            have e0 := kn.con 3 17 (c := .int .i64 (now)) (by kernel_rfl) (by omega) (by kernel_rfl) rfl
            simp [execOp, kn.rho.con, e0, go_sem, h2])
        · exact gd_gen (by kernel_rfl) (Want.none_ rfl) rfl (fun D u w v h => by simpa [updB, upd] using h) (fun D u ρ w kn => by
            have e0 := kn.con 2 16 (c := .bool false) (by kernel_rfl) (by omega) (by kernel_rfl) rfl
            have e1 := kn.con 4 18 (c := .bool false) (by kernel_rfl) (by omega) (by kernel_rfl) rfl
            simp [execOp, kn.rho.con, e0, e1, go_sem])
        · exact gd_gen (by kernel_rfl) (Want.none_ rfl) rfl (fun D u w v h => by simpa [updB, upd] using h) (fun D u ρ w kn => by
            have e0 := kn.con 5 19 (c := .bool false) (by kernel_rfl) (by omega) (by kernel_rfl) rfl
            simp [execOp, kn.rho.con, e0, go_sem])
        · exact gd_gen (by kernel_rfl) (Want.some_ (g := 6) (v := false) rfl rfl (by kernel_rfl) (by omega) rfl rfl (by kernel_rfl)) rfl (fun D u w v h => by simpa [updB, upd] using h) (fun D u ρ w kn => by
            have e0 := kn.own 10 (c := .int .i64 ((k : Int))) (by kernel_rfl) ea10
            simp [execOp, kn.rho.con, e0, go_sem])
        · exact gd_gen (by kernel_rfl) (Want.some_ (g := 6) (v := false) rfl rfl (by kernel_rfl) (by omega) rfl rfl (by kernel_rfl)) rfl (fun D u w v h => by simpa [updB, upd] using h) (fun D u ρ w kn => by
            have e0 := kn.con 7 21 (c := .int .i64 ((k : Int))) (by kernel_rfl) (by omega) (by kernel_rfl) rfl
            simp [execOp, kn.rho.con, e0, go_sem, i3])
        · exact gd_gen (by kernel_rfl) (Want.none_ rfl) rfl (fun D u w v h => by simpa [updB, upd] using h) (fun D u ρ w kn => by
            have e0 := kn.con 6 20 (c := .bool false) (by kernel_rfl) (by omega) (by kernel_rfl) rfl
            have e1 := kn.con 8 22 (c := .bool false) (by kernel_rfl) (by omega) (by kernel_rfl) rfl
            simp [execOp, kn.rho.con, e0, e1, go_sem])
        · exact gd_gen (by kernel_rfl) (Want.none_ rfl) rfl (fun D u w v h => by simpa [updB, upd] using h) (fun D u ρ w kn => by
            have e0 := kn.con 9 23 (c := .bool false) (by kernel_rfl) (by omega) (by kernel_rfl) rfl
            simp [execOp, kn.rho.con, e0, go_sem])
        · exact gd_gen (by kernel_rfl) (Want.some_ (g := 10) (v := false) rfl rfl (by kernel_rfl) (by omega) rfl rfl (by kernel_rfl)) rfl (fun D u w v h => by simpa [updB, upd] using h) (fun D u ρ w kn => by
            have e0 := kn.own 1 (c := .slice B hs.length d) (by kernel_rfl) ea1
            simp [execOp, kn.rho.con, e0, go_sem])
        · exact gd_gen (by kernel_rfl) (Want.some_ (g := 10) (v := false) rfl rfl (by kernel_rfl) (by omega) rfl rfl (by kernel_rfl)) rfl (fun D u w v h => by simpa [updB, upd] using h) (fun D u ρ w kn => by
            have e0 := kn.own 7 (c := .pointer (some ⟨xb, 0, none⟩)) (by kernel_rfl) ea7
            exact run_load ρ w rfl e0 (load_evO w xb x (BR.out.grown kn.ext (by simp))))
        · refine gd_call (by kernel_rfl) (Want.some_ (g := 10) (v := false) rfl rfl (by kernel_rfl) (by omega) rfl rfl (by kernel_rfl)) 73 (fun D u ρ wx kn hD => ?_)
          have e0 := kn.con 11 25 (c := .slice B hs.length d) (by kernel_rfl) (by omega) (by kernel_rfl) rfl
          have e1 := kn.con 12 26 (c := .agg x.cells.toArray) (by kernel_rfl) (by omega) (by kernel_rfl) rfl
          refine ⟨#[.slice B hs.length d, .agg x.cells.toArray], ?_, (KH.out wx kn.ext).mono ?_⟩
          · simp only [execOp, resolve, Deferred.ofValue, List.map_toArray, List.map_cons, List.map_nil, e0, e1, kn.rho.con, kn.rho.fn]
            simp [go_sem]
          · rintro e w' ⟨rfl, hg⟩
            exact ⟨_, rfl, (fun c h => by injection h with h; injection h), only_trans kn.ext hg⟩
        · exact gd_gen (by kernel_rfl) (Want.none_ rfl) rfl (fun D u w v h => by simpa [updB, upd] using h) (fun D u ρ w kn => by
            have e0 := kn.con 10 24 (c := .bool false) (by kernel_rfl) (by omega) (by kernel_rfl) rfl
            have e1 := kn.con 13 27 (c := .bool true) (by kernel_rfl) (by omega) (by kernel_rfl) rfl
            simp [execOp, kn.rho.con, e0, e1, go_sem])
        · exact gd_gen (by kernel_rfl) (Want.none_ rfl) rfl (fun D u w v h => by simpa [updB, upd] using h) (fun D u ρ w kn => by
            have e0 := kn.con 14 28 (c := .bool true) (by kernel_rfl) (by omega) (by kernel_rfl) rfl
            simp [execOp, kn.rho.con, e0, go_sem])
        · exact gd_off (by kernel_rfl) (Want.some_ (g := 15) (v := true) rfl rfl (by kernel_rfl) (by omega) rfl rfl (by kernel_rfl)) (.inr rfl) (fun D u w v h => by simpa [updB, upd] using h)
        · exact gd_off (by kernel_rfl) (Want.some_ (g := 15) (v := true) rfl rfl (by kernel_rfl) (by omega) rfl rfl (by kernel_rfl)) (.inr rfl) (fun D u w v h => by simpa [updB, upd] using h)
        · exact gd_off (by kernel_rfl) (Want.some_ (g := 15) (v := true) rfl rfl (by kernel_rfl) (by omega) rfl rfl (by kernel_rfl)) (.inr rfl) (fun D u w v h => by simpa [updB, upd] using h)
        · exact gd_off (by kernel_rfl) (Want.some_ (g := 15) (v := true) rfl rfl (by kernel_rfl) (by omega) rfl rfl (by kernel_rfl)) (.inr rfl) (fun D u w v h => by simpa [updB, upd] using h)
        · exact gd_off (by kernel_rfl) (Want.some_ (g := 15) (v := true) rfl rfl (by kernel_rfl) (by omega) rfl rfl (by kernel_rfl)) (.inr rfl) (fun D u w v h => by simpa [updB, upd] using h)
        · exact gd_off (by kernel_rfl) (Want.some_ (g := 15) (v := true) rfl rfl (by kernel_rfl) (by omega) rfl rfl (by kernel_rfl)) (.inr rfl) (fun D u w v h => by simpa [updB, upd] using h)
        · exact gd_off (by kernel_rfl) (Want.some_ (g := 15) (v := true) rfl rfl (by kernel_rfl) (by omega) rfl rfl (by kernel_rfl)) (.inr rfl) (fun D u w v h => by simpa [updB, upd] using h)
        · exact gd_off (by kernel_rfl) (Want.some_ (g := 15) (v := true) rfl rfl (by kernel_rfl) (by omega) rfl rfl (by kernel_rfl)) (.inr rfl) (fun D u w v h => by simpa [updB, upd] using h)
        · exact gd_off (by kernel_rfl) (Want.some_ (g := 15) (v := true) rfl rfl (by kernel_rfl) (by omega) rfl rfl (by kernel_rfl)) (.inr rfl) (fun D u w v h => by simpa [updB, upd] using h)
        · exact gd_off (by kernel_rfl) (Want.some_ (g := 15) (v := true) rfl rfl (by kernel_rfl) (by omega) rfl rfl (by kernel_rfl)) (.inr rfl) (fun D u w v h => by simpa [updB, upd] using h)
        · exact gd_gen (by kernel_rfl) (Want.none_ rfl) rfl (fun D u w v h => by simpa [updB, upd] using h) (fun D u ρ w kn => by
            have e0 := kn.con 15 29 (c := .bool true) (by kernel_rfl) (by omega) (by kernel_rfl) rfl
            have e1 := kn.con 25 39 (c := undef) (by kernel_rfl) (by omega) (by kernel_rfl) rfl
            simp [execOp, kn.rho.con, e0, e1, go_sem])
      · intro D u w9 hJ hD
        simp only [List.take_succ_cons, List.take_zero, List.drop_succ_cons, List.drop_zero, putAll]
        have hcn := hJ.1
        have x1 := hJ.2
        have e26 : u 26 = .bool true := hcn 26 _ rfl (hD 26 (by omega))
        rw [e26]
        have G9 := Lib.hid x1
        clear hJ hcn x1 e26 hD
        go_simp
        go_wp2_with fail
        go_meet
        exact ⟨true, rfl, (fun e => by cases e), G9.out⟩
    | false =>
      obtain ⟨q, hwq⟩ : ∃ q, IntKind.i64.wrap (now - y.age) = q := ⟨_, rfl⟩
      by_cases h5 : q ≤ x.time
      · refine wp_region_gen 27 (JC (some (.int .i64 (now)) :: some (.bool false) :: some (.bool false) :: some (.int .i64 (now)) :: some (.bool false) :: some (.bool false) :: some (.bool false) :: some (.int .i64 ((k : Int))) :: some (.bool false) :: some (.bool false) :: some (.bool false) :: some (.slice B hs.length d) :: some (.agg x.cells.toArray) :: some (.bool false) :: some (.bool false) :: some (.bool false) :: some (.int .i64 (now)) :: some (.slice (some ⟨b, o, none⟩) (ps.length) (c)) :: some (.int .i64 ((k : Int))) :: some (.pointer (some ⟨b, o + k * 4, none⟩)) :: some (.pointer (some ⟨b, o + k * 4 + 3, none⟩)) :: some (.int .i64 (y.age)) :: some (.int .i64 (q)) :: some (.pointer (some ⟨xb, 5, none⟩)) :: some (.int .i64 (x.time)) :: some (.bool true) :: some (.bool true) :: []) (fun D u wx => W2.grownBy wx none)) (by kernel_rfl) (by kernel_rfl) ?_ ?_ ?_
        · intro u
          exact ⟨(fun j c _ h => by cases h), only_drew (only_refl _ _)⟩
        · intro AA hA
          have hasz : AA.tmps.size = 46 := by rw [hA]; kernel_rfl
          have ea0 : AA.eval (.tmp 0) = .slice (some ⟨b, o, none⟩) (ps.length) (c) := by rw [hA]; kernel_rfl
          have ea1 : AA.eval (.tmp 1) = .slice B hs.length d := by rw [hA]; kernel_rfl
          have ea2 : AA.eval (.tmp 2) = .int .i64 (now) := by rw [hA]; kernel_rfl
          have ea7 : AA.eval (.tmp 7) = .pointer (some ⟨xb, 0, none⟩) := by rw [hA]; kernel_rfl
          have ea10 : AA.eval (.tmp 10) = .int .i64 ((k : Int)) := by rw [hA]; kernel_rfl
          clear hA
          simp only [List.take_succ_cons, List.take_zero]
          refine .cons ?_ (.cons ?_ (.cons ?_ (.cons ?_ (.cons ?_ (.cons ?_ (.cons ?_ (.cons ?_ (.cons ?_ (.cons ?_ (.cons ?_ (.cons ?_ (.cons ?_ (.cons ?_ (.cons ?_ (.cons ?_ (.cons ?_ (.cons ?_ (.cons ?_ (.cons ?_ (.cons ?_ (.cons ?_ (.cons ?_ (.cons ?_ (.cons ?_ (.cons ?_ (.cons ?_ (.nil)))))))))))))))))))))))))))
          · exact gd_gen (by kernel_rfl) (Want.none_ rfl) rfl (fun D u w v h => by simpa [updB, upd] using h) (fun D u ρ w kn => by
              have e0 := kn.own 2 (c := .int .i64 (now)) (by kernel_rfl) ea2
              simp [execOp, kn.rho.con, e0, go_sem])
          · exact gd_gen (by kernel_rfl) (Want.none_ rfl) rfl (fun D u w v h => by simpa [updB, upd] using h) (fun D u ρ w kn => by
              have e0 := kn.con 0 14 (c := .int .i64 (now)) (by kernel_rfl) (by omega) (by kernel_rfl) rfl
              simp [execOp, kn.rho.con, e0, go_sem, h1])
          · exact gd_gen (by kernel_rfl) (Want.none_ rfl) rfl (fun D u w v h => by simpa [updB, upd] using h) (fun D u ρ w kn => by
              have e0 := kn.con 1 15 (c := .bool false) (by kernel_rfl) (by omega) (by kernel_rfl) rfl
              simp [execOp, kn.rho.con, e0, go_sem])
          · exact gd_gen (by kernel_rfl) (Want.some_ (g := 2) (v := false) rfl rfl (by kernel_rfl) (by omega) rfl rfl (by kernel_rfl)) rfl (fun D u w v h => by simpa [updB, upd] using h) (fun D u ρ w kn => by
              have e0 := kn.own 2 (c := .int .i64 (now)) (by kernel_rfl) ea2
              simp [execOp, kn.rho.con, e0, go_sem])
          · exact gd_gen (by kernel_rfl) (Want.some_ (g := 2) (v := false) rfl rfl (by kernel_rfl) (by omega) rfl rfl (by kernel_rfl)) rfl (fun D u w v h => by simpa [updB, upd] using h) (fun D u ρ w kn => by
              have e0 := kn.con 3 17 (c := .int .i64 (now)) (by kernel_rfl) (by omega) (by kernel_rfl) rfl
              simp [execOp, kn.rho.con, e0, go_sem, h2])
          · exact gd_gen (by kernel_rfl) (Want.none_ rfl) rfl (fun D u w v h => by simpa [updB, upd] using h) (fun D u ρ w kn => by
              have e0 := kn.con 2 16 (c := .bool false) (by kernel_rfl) (by omega) (by kernel_rfl) rfl
              have e1 := kn.con 4 18 (c := .bool false) (by kernel_rfl) (by omega) (by kernel_rfl) rfl
              simp [execOp, kn.rho.con, e0, e1, go_sem])
          · exact gd_gen (by kernel_rfl) (Want.none_ rfl) rfl (fun D u w v h => by simpa [updB, upd] using h) (fun D u ρ w kn => by
              have e0 := kn.con 5 19 (c := .bool false) (by kernel_rfl) (by omega) (by kernel_rfl) rfl
              simp [execOp, kn.rho.con, e0, go_sem])
          · exact gd_gen (by kernel_rfl) (Want.some_ (g := 6) (v := false) rfl rfl (by kernel_rfl) (by omega) rfl rfl (by kernel_rfl)) rfl (fun D u w v h => by simpa [updB, upd] using h) (fun D u ρ w kn => by
              have e0 := kn.own 10 (c := .int .i64 ((k : Int))) (by kernel_rfl) ea10
              simp [execOp, kn.rho.con, e0, go_sem])
          · exact gd_gen (by kernel_rfl) (Want.some_ (g := 6) (v := false) rfl rfl (by kernel_rfl) (by omega) rfl rfl (by kernel_rfl)) rfl (fun D u w v h => by simpa [updB, upd] using h) (fun D u ρ w kn => by
              have e0 := kn.con 7 21 (c := .int .i64 ((k : Int))) (by kernel_rfl) (by omega) (by kernel_rfl) rfl
              simp [execOp, kn.rho.con, e0, go_sem, i3])
          · exact gd_gen (by kernel_rfl) (Want.none_ rfl) rfl (fun D u w v h => by simpa [updB, upd] using h) (fun D u ρ w kn => by
              have e0 := kn.con 6 20 (c := .bool false) (by kernel_rfl) (by omega) (by kernel_rfl) rfl
              have e1 := kn.con 8 22 (c := .bool false) (by kernel_rfl) (by omega) (by kernel_rfl) rfl
              simp [execOp, kn.rho.con, e0, e1, go_sem])
          · exact gd_gen (by kernel_rfl) (Want.none_ rfl) rfl (fun D u w v h => by simpa [updB, upd] using h) (fun D u ρ w kn => by
              have e0 := kn.con 9 23 (c := .bool false) (by kernel_rfl) (by omega) (by kernel_rfl) rfl
              simp [execOp, kn.rho.con, e0, go_sem])
          · exact gd_gen (by kernel_rfl) (Want.some_ (g := 10) (v := false) rfl rfl (by kernel_rfl) (by omega) rfl rfl (by kernel_rfl)) rfl (fun D u w v h => by simpa [updB, upd] using h) (fun D u ρ w kn => by
              have e0 := kn.own 1 (c := .slice B hs.length d) (by kernel_rfl) ea1
              simp [execOp, kn.rho.con, e0, go_sem])
          · exact gd_gen (by kernel_rfl) (Want.some_ (g := 10) (v := false) rfl rfl (by kernel_rfl) (by omega) rfl rfl (by kernel_rfl)) rfl (fun D u w v h => by simpa [updB, upd] using h) (fun D u ρ w kn => by
              have e0 := kn.own 7 (c := .pointer (some ⟨xb, 0, none⟩)) (by kernel_rfl) ea7
              exact run_load ρ w rfl e0 (load_evO w xb x (BR.out.grown kn.ext (by simp))))
          · refine gd_call (by kernel_rfl) (Want.some_ (g := 10) (v := false) rfl rfl (by kernel_rfl) (by omega) rfl rfl (by kernel_rfl)) 73 (fun D u ρ wx kn hD => ?_)
            have e0 := kn.con 11 25 (c := .slice B hs.length d) (by kernel_rfl) (by omega) (by kernel_rfl) rfl
            have e1 := kn.con 12 26 (c := .agg x.cells.toArray) (by kernel_rfl) (by omega) (by kernel_rfl) rfl
            refine ⟨#[.slice B hs.length d, .agg x.cells.toArray], ?_, (KH.out wx kn.ext).mono ?_⟩
            · simp only [execOp, resolve, Deferred.ofValue, List.map_toArray, List.map_cons, List.map_nil, e0, e1, kn.rho.con, kn.rho.fn]
              simp [go_sem]
            · rintro e w' ⟨rfl, hg⟩
              exact ⟨_, rfl, (fun c h => by injection h with h; injection h), only_trans kn.ext hg⟩
          · exact gd_gen (by kernel_rfl) (Want.none_ rfl) rfl (fun D u w v h => by simpa [updB, upd] using h) (fun D u ρ w kn => by
              have e0 := kn.con 10 24 (c := .bool false) (by kernel_rfl) (by omega) (by kernel_rfl) rfl
              have e1 := kn.con 13 27 (c := .bool false) (by kernel_rfl) (by omega) (by kernel_rfl) rfl
              simp [execOp, kn.rho.con, e0, e1, go_sem])
          · exact gd_gen (by kernel_rfl) (Want.none_ rfl) rfl (fun D u w v h => by simpa [updB, upd] using h) (fun D u ρ w kn => by
              have e0 := kn.con 14 28 (c := .bool false) (by kernel_rfl) (by omega) (by kernel_rfl) rfl
              simp [execOp, kn.rho.con, e0, go_sem])
          · exact gd_gen (by kernel_rfl) (Want.some_ (g := 15) (v := false) rfl rfl (by kernel_rfl) (by omega) rfl rfl (by kernel_rfl)) rfl (fun D u w v h => by simpa [updB, upd] using h) (fun D u ρ w kn => by
              have e0 := kn.own 2 (c := .int .i64 (now)) (by kernel_rfl) ea2
              simp [execOp, kn.rho.con, e0, go_sem])
          · exact gd_gen (by kernel_rfl) (Want.some_ (g := 15) (v := false) rfl rfl (by kernel_rfl) (by omega) rfl rfl (by kernel_rfl)) rfl (fun D u w v h => by simpa [updB, upd] using h) (fun D u ρ w kn => by
              have e0 := kn.own 0 (c := .slice (some ⟨b, o, none⟩) (ps.length) (c)) (by kernel_rfl) ea0
              simp [execOp, kn.rho.con, e0, go_sem])
          · exact gd_gen (by kernel_rfl) (Want.some_ (g := 15) (v := false) rfl rfl (by kernel_rfl) (by omega) rfl rfl (by kernel_rfl)) rfl (fun D u w v h => by simpa [updB, upd] using h) (fun D u ρ w kn => by
              have e0 := kn.own 10 (c := .int .i64 ((k : Int))) (by kernel_rfl) ea10
              simp [execOp, kn.rho.con, e0, go_sem])
          · exact gd_gen (by kernel_rfl) (Want.some_ (g := 15) (v := false) rfl rfl (by kernel_rfl) (by omega) rfl rfl (by kernel_rfl)) rfl (fun D u w v h => by simpa [updB, upd] using h) (fun D u ρ w kn => by
              have e0 := kn.con 17 31 (c := .slice (some ⟨b, o, none⟩) (ps.length) (c)) (by kernel_rfl) (by omega) (by kernel_rfl) rfl
              have e1 := kn.con 18 32 (c := .int .i64 ((k : Int))) (by kernel_rfl) (by omega) (by kernel_rfl) rfl
              simp [execOp, kn.rho.con, e0, e1, go_sem, i1])
          · exact gd_gen (by kernel_rfl) (Want.some_ (g := 15) (v := false) rfl rfl (by kernel_rfl) (by omega) rfl rfl (by kernel_rfl)) rfl (fun D u w v h => by simpa [updB, upd] using h) (fun D u ρ w kn => by
              have e0 := kn.con 19 33 (c := .pointer (some ⟨b, o + k * 4, none⟩)) (by kernel_rfl) (by omega) (by kernel_rfl) rfl
              simp [execOp, kn.rho.con, e0, go_sem])
          · exact gd_gen (by kernel_rfl) (Want.some_ (g := 15) (v := false) rfl rfl (by kernel_rfl) (by omega) rfl rfl (by kernel_rfl)) rfl (fun D u w v h => by simpa [updB, upd] using h) (fun D u ρ w kn => by
              have e0 := kn.con 20 34 (c := .pointer (some ⟨b, o + k * 4 + 3, none⟩)) (by kernel_rfl) (by omega) (by kernel_rfl) rfl
              have f0 := (show w.cell? ⟨b, o + k * 4 + 3, none⟩ = some (.int .i64 y.age) from (HRR.out.grown kn.ext (by simp)).flatAt PolD.cells_len HY.out 3 (by omega))
              simp [execOp, kn.rho.con, e0, f0, go_sem])
          · exact gd_gen (by kernel_rfl) (Want.some_ (g := 15) (v := false) rfl rfl (by kernel_rfl) (by omega) rfl rfl (by kernel_rfl)) rfl (fun D u w v h => by simpa [updB, upd] using h) (fun D u ρ w kn => by
              have e0 := kn.con 16 30 (c := .int .i64 (now)) (by kernel_rfl) (by omega) (by kernel_rfl) rfl
              have e1 := kn.con 21 35 (c := .int .i64 (y.age)) (by kernel_rfl) (by omega) (by kernel_rfl) rfl
              simp [execOp, kn.rho.con, e0, e1, go_sem, hwq])
          · exact gd_gen (by kernel_rfl) (Want.some_ (g := 15) (v := false) rfl rfl (by kernel_rfl) (by omega) rfl rfl (by kernel_rfl)) rfl (fun D u w v h => by simpa [updB, upd] using h) (fun D u ρ w kn => by
              have e0 := kn.own 7 (c := .pointer (some ⟨xb, 0, none⟩)) (by kernel_rfl) ea7
              simp [execOp, kn.rho.con, e0, go_sem])
          · exact gd_gen (by kernel_rfl) (Want.some_ (g := 15) (v := false) rfl rfl (by kernel_rfl) (by omega) rfl rfl (by kernel_rfl)) rfl (fun D u w v h => by simpa [updB, upd] using h) (fun D u ρ w kn => by
              have e0 := kn.con 23 37 (c := .pointer (some ⟨xb, 5, none⟩)) (by kernel_rfl) (by omega) (by kernel_rfl) rfl
              have f0 := (show w.cell? ⟨xb, 5, none⟩ = some (.int .i64 x.time) from (BR.out.grown kn.ext (by simp)).cell 5)
              simp [execOp, kn.rho.con, e0, f0, go_sem])
          · exact gd_gen (by kernel_rfl) (Want.some_ (g := 15) (v := false) rfl rfl (by kernel_rfl) (by omega) rfl rfl (by kernel_rfl)) rfl (fun D u w v h => by simpa [updB, upd] using h) (fun D u ρ w kn => by
              have e0 := kn.con 22 36 (c := .int .i64 (q)) (by kernel_rfl) (by omega) (by kernel_rfl) rfl
              have e1 := kn.con 24 38 (c := .int .i64 (x.time)) (by kernel_rfl) (by omega) (by kernel_rfl) rfl
              simp [execOp, kn.rho.con, e0, e1, go_sem, h5])
          · exact gd_gen (by kernel_rfl) (Want.none_ rfl) rfl (fun D u w v h => by simpa [updB, upd] using h) (fun D u ρ w kn => by
              have e0 := kn.con 15 29 (c := .bool false) (by kernel_rfl) (by omega) (by kernel_rfl) rfl
              have e1 := kn.con 25 39 (c := .bool true) (by kernel_rfl) (by omega) (by kernel_rfl) rfl
              simp [execOp, kn.rho.con, e0, e1, go_sem])
        · intro D u w9 hJ hD
          simp only [List.take_succ_cons, List.take_zero, List.drop_succ_cons, List.drop_zero, putAll]
          have hcn := hJ.1
          have x1 := hJ.2
          have e26 : u 26 = .bool true := hcn 26 _ rfl (hD 26 (by omega))
          rw [e26]
          have G9 := Lib.hid x1
          clear hJ hcn x1 e26 hD
          go_simp
          go_wp2_with fail
          go_meet
          exact ⟨true, rfl, (fun e => by cases e), G9.out⟩
      · refine wp_region_gen 27 (JC (some (.int .i64 (now)) :: some (.bool false) :: some (.bool false) :: some (.int .i64 (now)) :: some (.bool false) :: some (.bool false) :: some (.bool false) :: some (.int .i64 ((k : Int))) :: some (.bool false) :: some (.bool false) :: some (.bool false) :: some (.slice B hs.length d) :: some (.agg x.cells.toArray) :: some (.bool false) :: some (.bool false) :: some (.bool false) :: some (.int .i64 (now)) :: some (.slice (some ⟨b, o, none⟩) (ps.length) (c)) :: some (.int .i64 ((k : Int))) :: some (.pointer (some ⟨b, o + k * 4, none⟩)) :: some (.pointer (some ⟨b, o + k * 4 + 3, none⟩)) :: some (.int .i64 (y.age)) :: some (.int .i64 (q)) :: some (.pointer (some ⟨xb, 5, none⟩)) :: some (.int .i64 (x.time)) :: some (.bool false) :: some (.bool false) :: []) (fun D u wx => W2.grownBy wx none)) (by kernel_rfl) (by kernel_rfl) ?_ ?_ ?_
        · intro u
          exact ⟨(fun j c _ h => by cases h), only_drew (only_refl _ _)⟩
        · intro AA hA
          have hasz : AA.tmps.size = 46 := by rw [hA]; kernel_rfl
          have ea0 : AA.eval (.tmp 0) = .slice (some ⟨b, o, none⟩) (ps.length) (c) := by rw [hA]; kernel_rfl
          have ea1 : AA.eval (.tmp 1) = .slice B hs.length d := by rw [hA]; kernel_rfl
          have ea2 : AA.eval (.tmp 2) = .int .i64 (now) := by rw [hA]; kernel_rfl
          have ea7 : AA.eval (.tmp 7) = .pointer (some ⟨xb, 0, none⟩) := by rw [hA]; kernel_rfl
          have ea10 : AA.eval (.tmp 10) = .int .i64 ((k : Int)) := by rw [hA]; kernel_rfl
          clear hA
          simp only [List.take_succ_cons, List.take_zero]
          refine .cons ?_ (.cons ?_ (.cons ?_ (.cons ?_ (.cons ?_ (.cons ?_ (.cons ?_ (.cons ?_ (.cons ?_ (.cons ?_ (.cons ?_ (.cons ?_ (.cons ?_ (.cons ?_ (.cons ?_ (.cons ?_ (.cons ?_ (.cons ?_ (.cons ?_ (.cons ?_ (.cons ?_ (.cons ?_ (.cons ?_ (.cons ?_ (.cons ?_ (.cons ?_ (.cons ?_ (.nil)))))))))))))))))))))))))))
          · exact gd_gen (by kernel_rfl) (Want.none_ rfl) rfl (fun D u w v h => by simpa [updB, upd] using h) (fun D u ρ w kn => by
              have e0 := kn.own 2 (c := .int .i64 (now)) (by kernel_rfl) ea2
              simp [execOp, kn.rho.con, e0, go_sem])
          · exact gd_gen (by kernel_rfl) (Want.none_ rfl) rfl (fun D u w v h => by simpa [updB, upd] using h) (fun D u ρ w kn => by
              have e0 := kn.con 0 14 (c := .int .i64 (now)) (by kernel_rfl) (by omega) (by kernel_rfl) rfl
              simp [execOp, kn.rho.con, e0, go_sem, h1])
          · exact gd_gen (by kernel_rfl) (Want.none_ rfl) rfl (fun D u w v h => by simpa [updB, upd] using h) (fun D u ρ w kn => by
              have e0 := kn.con 1 15 (c := .bool false) (by kernel_rfl) (by omega) (by kernel_rfl) rfl
              simp [execOp, kn.rho.con, e0, go_sem])
          · exact gd_gen (by kernel_rfl) (Want.some_ (g := 2) (v := false) rfl rfl (by kernel_rfl) (by omega) rfl rfl (by kernel_rfl)) rfl (fun D u w v h => by simpa [updB, upd] using h) (fun D u ρ w kn => by
              have e0 := kn.own 2 (c := .int .i64 (now)) (by kernel_rfl) ea2
              simp [execOp, kn.rho.con, e0, go_sem])
          · exact gd_gen (by kernel_rfl) (Want.some_ (g := 2) (v := false) rfl rfl (by kernel_rfl) (by omega) rfl rfl (by kernel_rfl)) rfl (fun D u w v h => by simpa [updB, upd] using h) (fun D u ρ w kn => by
              have e0 := kn.con 3 17 (c := .int .i64 (now)) (by kernel_rfl) (by omega) (by kernel_rfl) rfl
              simp [execOp, kn.rho.con, e0, go_sem, h2])
          · exact gd_gen (by kernel_rfl) (Want.none_ rfl) rfl (fun D u w v h => by simpa [updB, upd] using h) (fun D u ρ w kn => by
              have e0 := kn.con 2 16 (c := .bool false) (by kernel_rfl) (by omega) (by kernel_rfl) rfl
              have e1 := kn.con 4 18 (c := .bool false) (by kernel_rfl) (by omega) (by kernel_rfl) rfl
              simp [execOp, kn.rho.con, e0, e1, go_sem])
          · exact gd_gen (by kernel_rfl) (Want.none_ rfl) rfl (fun D u w v h => by simpa [updB, upd] using h) (fun D u ρ w kn => by
              have e0 := kn.con 5 19 (c := .bool false) (by kernel_rfl) (by omega) (by kernel_rfl) rfl
              simp [execOp, kn.rho.con, e0, go_sem])
          · exact gd_gen (by kernel_rfl) (Want.some_ (g := 6) (v := false) rfl rfl (by kernel_rfl) (by omega) rfl rfl (by kernel_rfl)) rfl (fun D u w v h => by simpa [updB, upd] using h) (fun D u ρ w kn => by
              have e0 := kn.own 10 (c := .int .i64 ((k : Int))) (by kernel_rfl) ea10
              simp [execOp, kn.rho.con, e0, go_sem])
          · exact gd_gen (by kernel_rfl) (Want.some_ (g := 6) (v := false) rfl rfl (by kernel_rfl) (by omega) rfl rfl (by kernel_rfl)) rfl (fun D u w v h => by simpa [updB, upd] using h) (fun D u ρ w kn => by
              have e0 := kn.con 7 21 (c := .int .i64 ((k : Int))) (by kernel_rfl) (by omega) (by kernel_rfl) rfl
              simp [execOp, kn.rho.con, e0, go_sem, i3])
          · exact gd_gen (by kernel_rfl) (Want.none_ rfl) rfl (fun D u w v h => by simpa [updB, upd] using h) (fun D u ρ w kn => by
              have e0 := kn.con 6 20 (c := .bool false) (by kernel_rfl) (by omega) (by kernel_rfl) rfl
              have e1 := kn.con 8 22 (c := .bool false) (by kernel_rfl) (by omega) (by kernel_rfl) rfl
              simp [execOp, kn.rho.con, e0, e1, go_sem])
          · exact gd_gen (by kernel_rfl) (Want.none_ rfl) rfl (fun D u w v h => by simpa [updB, upd] using h) (fun D u ρ w kn => by
              have e0 := kn.con 9 23 (c := .bool false) (by kernel_rfl) (by omega) (by kernel_rfl) rfl
              simp [execOp, kn.rho.con, e0, go_sem])
          · exact gd_gen (by kernel_rfl) (Want.some_ (g := 10) (v := false) rfl rfl (by kernel_rfl) (by omega) rfl rfl (by kernel_rfl)) rfl (fun D u w v h => by simpa [updB, upd] using h) (fun D u ρ w kn => by
              have e0 := kn.own 1 (c := .slice B hs.length d) (by kernel_rfl) ea1
              simp [execOp, kn.rho.con, e0, go_sem])
          · exact gd_gen (by kernel_rfl) (Want.some_ (g := 10) (v := false) rfl rfl (by kernel_rfl) (by omega) rfl rfl (by kernel_rfl)) rfl (fun D u w v h => by simpa [updB, upd] using h) (fun D u ρ w kn => by
              have e0 := kn.own 7 (c := .pointer (some ⟨xb, 0, none⟩)) (by kernel_rfl) ea7
              exact run_load ρ w rfl e0 (load_evO w xb x (BR.out.grown kn.ext (by simp))))
          · refine gd_call (by kernel_rfl) (Want.some_ (g := 10) (v := false) rfl rfl (by kernel_rfl) (by omega) rfl rfl (by kernel_rfl)) 73 (fun D u ρ wx kn hD => ?_)
            have e0 := kn.con 11 25 (c := .slice B hs.length d) (by kernel_rfl) (by omega) (by kernel_rfl) rfl
            have e1 := kn.con 12 26 (c := .agg x.cells.toArray) (by kernel_rfl) (by omega) (by kernel_rfl) rfl
            refine ⟨#[.slice B hs.length d, .agg x.cells.toArray], ?_, (KH.out wx kn.ext).mono ?_⟩
            · simp only [execOp, resolve, Deferred.ofValue, List.map_toArray, List.map_cons, List.map_nil, e0, e1, kn.rho.con, kn.rho.fn]
              simp [go_sem]
            · rintro e w' ⟨rfl, hg⟩
              exact ⟨_, rfl, (fun c h => by injection h with h; injection h), only_trans kn.ext hg⟩
          · exact gd_gen (by kernel_rfl) (Want.none_ rfl) rfl (fun D u w v h => by simpa [updB, upd] using h) (fun D u ρ w kn => by
              have e0 := kn.con 10 24 (c := .bool false) (by kernel_rfl) (by omega) (by kernel_rfl) rfl
              have e1 := kn.con 13 27 (c := .bool false) (by kernel_rfl) (by omega) (by kernel_rfl) rfl
              simp [execOp, kn.rho.con, e0, e1, go_sem])
          · exact gd_gen (by kernel_rfl) (Want.none_ rfl) rfl (fun D u w v h => by simpa [updB, upd] using h) (fun D u ρ w kn => by
              have e0 := kn.con 14 28 (c := .bool false) (by kernel_rfl) (by omega) (by kernel_rfl) rfl
              simp [execOp, kn.rho.con, e0, go_sem])
          · exact gd_gen (by kernel_rfl) (Want.some_ (g := 15) (v := false) rfl rfl (by kernel_rfl) (by omega) rfl rfl (by kernel_rfl)) rfl (fun D u w v h => by simpa [updB, upd] using h) (fun D u ρ w kn => by
              have e0 := kn.own 2 (c := .int .i64 (now)) (by kernel_rfl) ea2
              simp [execOp, kn.rho.con, e0, go_sem])
          · exact gd_gen (by kernel_rfl) (Want.some_ (g := 15) (v := false) rfl rfl (by kernel_rfl) (by omega) rfl rfl (by kernel_rfl)) rfl (fun D u w v h => by simpa [updB, upd] using h) (fun D u ρ w kn => by
              have e0 := kn.own 0 (c := .slice (some ⟨b, o, none⟩) (ps.length) (c)) (by kernel_rfl) ea0
              simp [execOp, kn.rho.con, e0, go_sem])
          · exact gd_gen (by kernel_rfl) (Want.some_ (g := 15) (v := false) rfl rfl (by kernel_rfl) (by omega) rfl rfl (by kernel_rfl)) rfl (fun D u w v h => by simpa [updB, upd] using h) (fun D u ρ w kn => by
              have e0 := kn.own 10 (c := .int .i64 ((k : Int))) (by kernel_rfl) ea10
              simp [execOp, kn.rho.con, e0, go_sem])
          · exact gd_gen (by kernel_rfl) (Want.some_ (g := 15) (v := false) rfl rfl (by kernel_rfl) (by omega) rfl rfl (by kernel_rfl)) rfl (fun D u w v h => by simpa [updB, upd] using h) (fun D u ρ w kn => by
              have e0 := kn.con 17 31 (c := .slice (some ⟨b, o, none⟩) (ps.length) (c)) (by kernel_rfl) (by omega) (by kernel_rfl) rfl
              have e1 := kn.con 18 32 (c := .int .i64 ((k : Int))) (by kernel_rfl) (by omega) (by kernel_rfl) rfl
              simp [execOp, kn.rho.con, e0, e1, go_sem, i1])
          · exact gd_gen (by kernel_rfl) (Want.some_ (g := 15) (v := false) rfl rfl (by kernel_rfl) (by omega) rfl rfl (by kernel_rfl)) rfl (fun D u w v h => by simpa [updB, upd] using h) (fun D u ρ w kn => by
              have e0 := kn.con 19 33 (c := .pointer (some ⟨b, o + k * 4, none⟩)) (by kernel_rfl) (by omega) (by kernel_rfl) rfl
              simp [execOp, kn.rho.con, e0, go_sem])
          · exact gd_gen (by kernel_rfl) (Want.some_ (g := 15) (v := false) rfl rfl (by kernel_rfl) (by omega) rfl rfl (by kernel_rfl)) rfl (fun D u w v h => by simpa [updB, upd] using h) (fun D u ρ w kn => by
              have e0 := kn.con 20 34 (c := .pointer (some ⟨b, o + k * 4 + 3, none⟩)) (by kernel_rfl) (by omega) (by kernel_rfl) rfl
              have f0 := (show w.cell? ⟨b, o + k * 4 + 3, none⟩ = some (.int .i64 y.age) from (HRR.out.grown kn.ext (by simp)).flatAt PolD.cells_len HY.out 3 (by omega))
              simp [execOp, kn.rho.con, e0, f0, go_sem])
          · exact gd_gen (by kernel_rfl) (Want.some_ (g := 15) (v := false) rfl rfl (by kernel_rfl) (by omega) rfl rfl (by kernel_rfl)) rfl (fun D u w v h => by simpa [updB, upd] using h) (fun D u ρ w kn => by
              have e0 := kn.con 16 30 (c := .int .i64 (now)) (by kernel_rfl) (by omega) (by kernel_rfl) rfl
              have e1 := kn.con 21 35 (c := .int .i64 (y.age)) (by kernel_rfl) (by omega) (by kernel_rfl) rfl
              simp [execOp, kn.rho.con, e0, e1, go_sem, hwq])
          · exact gd_gen (by kernel_rfl) (Want.some_ (g := 15) (v := false) rfl rfl (by kernel_rfl) (by omega) rfl rfl (by kernel_rfl)) rfl (fun D u w v h => by simpa [updB, upd] using h) (fun D u ρ w kn => by
              have e0 := kn.own 7 (c := .pointer (some ⟨xb, 0, none⟩)) (by kernel_rfl) ea7
              simp [execOp, kn.rho.con, e0, go_sem])
          · exact gd_gen (by kernel_rfl) (Want.some_ (g := 15) (v := false) rfl rfl (by kernel_rfl) (by omega) rfl rfl (by kernel_rfl)) rfl (fun D u w v h => by simpa [updB, upd] using h) (fun D u ρ w kn => by
              have e0 := kn.con 23 37 (c := .pointer (some ⟨xb, 5, none⟩)) (by kernel_rfl) (by omega) (by kernel_rfl) rfl
              have f0 := (show w.cell? ⟨xb, 5, none⟩ = some (.int .i64 x.time) from (BR.out.grown kn.ext (by simp)).cell 5)
              simp [execOp, kn.rho.con, e0, f0, go_sem])
          · exact gd_gen (by kernel_rfl) (Want.some_ (g := 15) (v := false) rfl rfl (by kernel_rfl) (by omega) rfl rfl (by kernel_rfl)) rfl (fun D u w v h => by simpa [updB, upd] using h) (fun D u ρ w kn => by
              have e0 := kn.con 22 36 (c := .int .i64 (q)) (by kernel_rfl) (by omega) (by kernel_rfl) rfl
              have e1 := kn.con 24 38 (c := .int .i64 (x.time)) (by kernel_rfl) (by omega) (by kernel_rfl) rfl
              simp [execOp, kn.rho.con, e0, e1, go_sem, h5])
          · exact gd_gen (by kernel_rfl) (Want.none_ rfl) rfl (fun D u w v h => by simpa [updB, upd] using h) (fun D u ρ w kn => by
              have e0 := kn.con 15 29 (c := .bool false) (by kernel_rfl) (by omega) (by kernel_rfl) rfl
              have e1 := kn.con 25 39 (c := .bool false) (by kernel_rfl) (by omega) (by kernel_rfl) rfl
              simp [execOp, kn.rho.con, e0, e1, go_sem])
        · intro D u w9 hJ hD
          simp only [List.take_succ_cons, List.take_zero, List.drop_succ_cons, List.drop_zero, putAll]
          have hcn := hJ.1
          have x1 := hJ.2
          have e26 : u 26 = .bool false := hcn 26 _ rfl (hD 26 (by omega))
          rw [e26]
          have G9 := Lib.hid x1
          clear hJ hcn x1 e26 hD
          go_simp
          go_wp2_with fail
          go_meet
          exact ⟨false, rfl, (fun _ => ⟨k, hlt, rfl⟩), G9.out⟩
  case rest =>
    obtain ⟨bb, rfl, hbb, hg⟩ := hcut
    have G3 := Lib.hid (only_trans G2.out hg)
    have HP3 := Lib.hid (HP2.out.grown hg (by simp))
    have HBB := Lib.hid hbb
    clear hbb hg KH
    cases bb with
    | true =>
      go_wp2_with fail
      exact bodyPost_ret (v := .tuple #[.string ⟨#[]⟩, .bool false]) (by simp [results, Try.results58, go_sem]) rfl ⟨⟨#[]⟩, false, rfl, G3.out⟩
    | false =>
      obtain ⟨k, hlt, rfl⟩ := HBB.out rfl
      obtain ⟨y, hy⟩ : ∃ y, ps[k]? = some y := ⟨_, List.getElem?_eq_getElem hlt⟩
      have HRR' := HP3.out
      obtain ⟨b, o, rfl, -, -, -⟩ := HRR' (by rw [flat_len _ 4 PolD.cells_len]; omega)
      have d0 : wc.cell? ⟨b, o + k * 4, none⟩ = some (.string y.name) := HRR'.flatAt PolD.cells_len hy 0 (by omega)
      have i1 : (k : Int) < (ps.length : Int) := by omega
      have i2 : (0 : Int) ≤ (k : Int) := by omega
      clear hy HRR' HBB
      go_wp2_with fail
      exact bodyPost_ret (v := .tuple #[.string y.name, .bool true]) (by simp [results, Try.results58, go_sem]) rfl ⟨y.name, true, rfl, G3.out⟩
end Go.Proofs.Ytiogpomgpknjlaa
