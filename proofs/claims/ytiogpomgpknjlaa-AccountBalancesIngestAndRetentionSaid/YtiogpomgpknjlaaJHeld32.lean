/- Held of the reference of chapter 32 (printed by mk42g.py). Conditions: sizes. -/
import Derived.Test.YtiogpomgpknjlaaJLwL42
import Derived.Test.YtiogpomgpknjlaaJGenC
import Derived.Test.YtiogpomgpknjlaaJCloneT
namespace Go.Proofs.Ytiogpomgpknjlaa
open Go.RowKit
set_option linter.unusedVariables false
set_option linter.unusedSimpArgs false

theorem load_evO (w : World) (b : Nat) (x : Ev) (h : Blk w b 75 #[.int .i64 x.host, .int .i64 x.file, .int .i64 x.beg, .int .i64 x.fin, .slice x.la x.lines.length x.lc, .int .i64 x.time, .int .i64 x.weight, .string x.trace, .string x.stream, .slice x.fa x.fields.length x.fc]) :
    (Instr.loadAt 75 (.pointer (some ⟨b, 0, none⟩))).run Try.prog w = .ok (.agg x.cells.toArray) w := by
  have a0 := h.cell 0; have a1 := h.cell 1; have a2 := h.cell 2; have a3 := h.cell 3; have a4 := h.cell 4; have a5 := h.cell 5; have a6 := h.cell 6; have a7 := h.cell 7; have a8 := h.cell 8; have a9 := h.cell 9
  simp at a0 a1 a2 a3 a4 a5 a6 a7 a8 a9
  have hu := Try.underlying75
  simp [go_sem, Ev.cells, a0, a1, a2, a3, a4, a5, a6, a7, a8, a9]
def hdB (h : HoldD) (x : Ev) : Bool := apB h.field h.value x.fields && decide (h.beg ≤ x.time) && decide (x.time < h.fin)
def heldB (hs : List HoldD) (x : Ev) : Bool := hs.any (fun h => hdB h x)
set_option maxHeartbeats 8000000 in
set_option maxRecDepth 100000 in
theorem held32_any {S S2 : Nat → Prop} (A : Option Addr) (hs : List HoldD) (c : Nat) (x : Ev) (w : World) (hr : Rd S w A (hs.flatMap HoldD.cells)) (hl : hs.length ≤ 1000) (h : x.Sub S2 w) (hxl : x.fields.length ≤ 1000000) :
    Calls Try.prog 73 #[.slice A hs.length c, .agg x.cells.toArray] w (BoolQ (heldB hs x) w) := by
  rw [evAgg]
  obtain ⟨xb, hxb⟩ : ∃ b, b = w.heap.size := ⟨_, rfl⟩
  obtain ⟨W1, hW1⟩ : ∃ W, W = w.alloc (.cells #[.int .i64 x.host, .int .i64 x.file, .int .i64 x.beg, .int .i64 x.fin, .slice x.la x.lines.length x.lc, .int .i64 x.time, .int .i64 x.weight, .string x.trace, .string x.stream, .slice x.fa x.fields.length x.fc] 75) := ⟨_, rfl⟩
  have G1 : Hid (w.grownBy W1 none) := Lib.hid (by rw [hW1]; exact only_alloc (only_refl _ _) _)
  have B1 : Hid (Blk W1 xb 75 #[.int .i64 x.host, .int .i64 x.file, .int .i64 x.beg, .int .i64 x.fin, .slice x.la x.lines.length x.lc, .int .i64 x.time, .int .i64 x.weight, .string x.trace, .string x.stream, .slice x.fa x.fields.length x.fc]) := Lib.hid (by rw [hW1, hxb]; exact Blk.new w _ _)
  have HR := Lib.hid (hr.grown G1.out (by simp))
  have HX := Lib.hid (h.grown G1.out (by simp))
  have HW := Lib.hid hW1.symm
  have HXB := Lib.hid hxb
  clear hW1 hxb h hr
  go_enter Try.func73, Try.ntmps73
  go_upto_region 1 with fail
  rw [HW.out, ← HXB.out]
  clear HW
  go_wp2_with fail
  go_loopw [5] (fun vi wr => ∃ k : Nat, vi = .int .i64 k ∧ k ≤ hs.length ∧ heldB hs x = heldB (hs.drop k) x ∧ W1.grownBy wr none) (fun vi _ => hs.length - (intOf vi).toNat)
  case atStart => exact ⟨0, rfl, Nat.zero_le _, rfl, only_refl _ _⟩
  case round =>
    obtain ⟨k, rfl, hk, hHB, hG⟩ := hrel
    have HB := Lib.hid hHB
    have G := Lib.hid hG
    have BR := Lib.hid (B1.out.grown hG (by simp))
    clear hG hHB
    by_cases hlt : k < hs.length
    · obtain ⟨y, hy⟩ : ∃ y, hs[k]? = some y := ⟨_, List.getElem?_eq_getElem hlt⟩
      have hrr := HR.out.grown G.out (by simp)
      obtain ⟨b, o, rfl, -, -, -⟩ := hrr (by rw [flat_len _ 5 HoldD.cells_len]; omega)
      have HRR := Lib.hid hrr
      have HY := Lib.hid hy
      have i1 : (k : Int) < (hs.length : Int) := by omega
      have i2 : (0 : Int) ≤ (k : Int) := by omega
      obtain ⟨bv, hbv⟩ : ∃ b, b = apB y.field y.value x.fields := ⟨_, rfl⟩
      have KA : Hid (∀ W, wr.grownBy W none → Calls Try.prog 95 #[.string y.field, .string y.value, .agg x.cells.toArray] W (BoolQ bv W)) := Lib.hid (fun W hg => by rw [hbv]; exact applies32_any y.field y.value x W (HX.out.grown (only_trans G.out hg) (by simp)) hxl)
      obtain ⟨hb, hhb⟩ : ∃ b, b = hdB y x := ⟨_, rfl⟩
      have HHB : Hid (hb = (bv && decide (y.beg ≤ x.time) && decide (x.time < y.fin))) := Lib.hid (by rw [hhb, hbv]; rfl)
      have HNX : Hid (heldB hs x = (hb || heldB (hs.drop (k + 1)) x)) := Lib.hid (by
        rw [HB.out, hhb, List.drop_eq_getElem_cons hlt]
        rw [List.getElem?_eq_getElem hlt] at hy
        injection hy with hy
        rw [hy]
        simp [heldB])
      clear hy hrr hbv hhb
      go_upto_region 4 with fail
      go_cut [43] (fun v wx => v = .bool hb ∧ wr.grownBy wx none)
      case first =>
        cases bv with
        | false =>
          have HE : Hid (hb = false) := Lib.hid (by rw [HHB.out]; rfl)
          refine wp_region_gen 32 (JC (some (.slice (some ⟨b, o, none⟩) (hs.length) (c)) :: some (.int .i64 ((k : Int))) :: some (.pointer (some ⟨b, o + k * 5, none⟩)) :: some (.pointer (some ⟨b, o + k * 5 + 1, none⟩)) :: some (.string y.field) :: some (.slice (some ⟨b, o, none⟩) (hs.length) (c)) :: some (.int .i64 ((k : Int))) :: some (.pointer (some ⟨b, o + k * 5, none⟩)) :: some (.pointer (some ⟨b, o + k * 5 + 2, none⟩)) :: some (.string y.value) :: some (.agg x.cells.toArray) :: some (.bool false) :: some (.bool false) :: some (undef) :: some (undef) :: some (undef) :: some (undef) :: some (undef) :: some (undef) :: some (undef) :: some (undef) :: some (.bool false) :: some (.bool false) :: some (undef) :: some (undef) :: some (undef) :: some (undef) :: some (undef) :: some (undef) :: some (undef) :: some (undef) :: some (.bool false) :: []) (fun D u wx => wr.grownBy wx none)) (by kernel_rfl) (by kernel_rfl) ?_ ?_ ?_
          · intro u
            exact ⟨(fun j c _ h => by cases h), only_drew (only_refl _ _)⟩
          · intro AA hA
            have hasz : AA.tmps.size = 44 := by rw [hA]; kernel_rfl
            have ea0 : AA.eval (.tmp 0) = .slice (some ⟨b, o, none⟩) (hs.length) (c) := by rw [hA]; kernel_rfl
            have ea3 : AA.eval (.tmp 3) = .pointer (some ⟨xb, 0, none⟩) := by rw [hA]; kernel_rfl
            have ea5 : AA.eval (.tmp 5) = .int .i64 ((k : Int)) := by rw [hA]; kernel_rfl
            clear hA
            simp only [List.take_succ_cons, List.take_zero]
            refine .cons ?_ (.cons ?_ (.cons ?_ (.cons ?_ (.cons ?_ (.cons ?_ (.cons ?_ (.cons ?_ (.cons ?_ (.cons ?_ (.cons ?_ (.cons ?_ (.cons ?_ (.cons ?_ (.cons ?_ (.cons ?_ (.cons ?_ (.cons ?_ (.cons ?_ (.cons ?_ (.cons ?_ (.cons ?_ (.cons ?_ (.cons ?_ (.cons ?_ (.cons ?_ (.cons ?_ (.cons ?_ (.cons ?_ (.cons ?_ (.cons ?_ (.cons ?_ (.nil))))))))))))))))))))))))))))))))
            · exact gd_gen (by kernel_rfl) (Want.none_ rfl) rfl (fun D u w v h => by simpa [updB, upd] using h) (fun D u ρ w kn => by
                have e0 := kn.own 0 (c := .slice (some ⟨b, o, none⟩) (hs.length) (c)) (by kernel_rfl) ea0
                simp [execOp, kn.rho.con, e0, go_sem])
            · exact gd_gen (by kernel_rfl) (Want.none_ rfl) rfl (fun D u w v h => by simpa [updB, upd] using h) (fun D u ρ w kn => by
                have e0 := kn.own 5 (c := .int .i64 ((k : Int))) (by kernel_rfl) ea5
                simp [execOp, kn.rho.con, e0, go_sem])
            · exact gd_gen (by kernel_rfl) (Want.none_ rfl) rfl (fun D u w v h => by simpa [updB, upd] using h) (fun D u ρ w kn => by
                have e0 := kn.con 0 12 (c := .slice (some ⟨b, o, none⟩) (hs.length) (c)) (by kernel_rfl) (by omega) (by kernel_rfl) rfl
                have e1 := kn.con 1 13 (c := .int .i64 ((k : Int))) (by kernel_rfl) (by omega) (by kernel_rfl) rfl
                simp [execOp, kn.rho.con, e0, e1, go_sem, i1])
            · exact gd_gen (by kernel_rfl) (Want.none_ rfl) rfl (fun D u w v h => by simpa [updB, upd] using h) (fun D u ρ w kn => by
                have e0 := kn.con 2 14 (c := .pointer (some ⟨b, o + k * 5, none⟩)) (by kernel_rfl) (by omega) (by kernel_rfl) rfl
                simp [execOp, kn.rho.con, e0, go_sem])
            · exact gd_gen (by kernel_rfl) (Want.none_ rfl) rfl (fun D u w v h => by simpa [updB, upd] using h) (fun D u ρ w kn => by
                have e0 := kn.con 3 15 (c := .pointer (some ⟨b, o + k * 5 + 1, none⟩)) (by kernel_rfl) (by omega) (by kernel_rfl) rfl
                have f0 := (show w.cell? ⟨b, o + k * 5 + 1, none⟩ = some (.string y.field) from (HRR.out.grown kn.ext (by simp)).flatAt HoldD.cells_len HY.out 1 (by omega))
                simp [execOp, kn.rho.con, e0, f0, go_sem])
            · exact gd_gen (by kernel_rfl) (Want.none_ rfl) rfl (fun D u w v h => by simpa [updB, upd] using h) (fun D u ρ w kn => by
                have e0 := kn.own 0 (c := .slice (some ⟨b, o, none⟩) (hs.length) (c)) (by kernel_rfl) ea0
                simp [execOp, kn.rho.con, e0, go_sem])
            · exact gd_gen (by kernel_rfl) (Want.none_ rfl) rfl (fun D u w v h => by simpa [updB, upd] using h) (fun D u ρ w kn => by
                have e0 := kn.own 5 (c := .int .i64 ((k : Int))) (by kernel_rfl) ea5
                simp [execOp, kn.rho.con, e0, go_sem])
            · exact gd_gen (by kernel_rfl) (Want.none_ rfl) rfl (fun D u w v h => by simpa [updB, upd] using h) (fun D u ρ w kn => by
                have e0 := kn.con 5 17 (c := .slice (some ⟨b, o, none⟩) (hs.length) (c)) (by kernel_rfl) (by omega) (by kernel_rfl) rfl
                have e1 := kn.con 6 18 (c := .int .i64 ((k : Int))) (by kernel_rfl) (by omega) (by kernel_rfl) rfl
                simp [execOp, kn.rho.con, e0, e1, go_sem, i1])
            · exact gd_gen (by kernel_rfl) (Want.none_ rfl) rfl (fun D u w v h => by simpa [updB, upd] using h) (fun D u ρ w kn => by
                have e0 := kn.con 7 19 (c := .pointer (some ⟨b, o + k * 5, none⟩)) (by kernel_rfl) (by omega) (by kernel_rfl) rfl
                simp [execOp, kn.rho.con, e0, go_sem])
            · exact gd_gen (by kernel_rfl) (Want.none_ rfl) rfl (fun D u w v h => by simpa [updB, upd] using h) (fun D u ρ w kn => by
                have e0 := kn.con 8 20 (c := .pointer (some ⟨b, o + k * 5 + 2, none⟩)) (by kernel_rfl) (by omega) (by kernel_rfl) rfl
                have f0 := (show w.cell? ⟨b, o + k * 5 + 2, none⟩ = some (.string y.value) from (HRR.out.grown kn.ext (by simp)).flatAt HoldD.cells_len HY.out 2 (by omega))
                simp [execOp, kn.rho.con, e0, f0, go_sem])
            · exact gd_gen (by kernel_rfl) (Want.none_ rfl) rfl (fun D u w v h => by simpa [updB, upd] using h) (fun D u ρ w kn => by
                have e0 := kn.own 3 (c := .pointer (some ⟨xb, 0, none⟩)) (by kernel_rfl) ea3
                exact run_load ρ w rfl e0 (load_evO w xb x (BR.out.grown kn.ext (by simp))))
            · refine gd_call (by kernel_rfl) (Want.none_ rfl) 95 (fun D u ρ wx kn hD => ?_)
              have e0 := kn.con 4 16 (c := .string y.field) (by kernel_rfl) (by omega) (by kernel_rfl) rfl
              have e1 := kn.con 9 21 (c := .string y.value) (by kernel_rfl) (by omega) (by kernel_rfl) rfl
              have e2 := kn.con 10 22 (c := .agg x.cells.toArray) (by kernel_rfl) (by omega) (by kernel_rfl) rfl
              refine ⟨#[.string y.field, .string y.value, .agg x.cells.toArray], ?_, (KA.out wx kn.ext).mono ?_⟩
              · simp only [execOp, resolve, Deferred.ofValue, List.map_toArray, List.map_cons, List.map_nil, e0, e1, e2, kn.rho.con, kn.rho.fn]
                simp [go_sem]
              · rintro e w' ⟨rfl, hg⟩
                exact ⟨_, rfl, (fun c h => by injection h with h; injection h), only_trans kn.ext hg⟩
            · exact gd_gen (by kernel_rfl) (Want.none_ rfl) rfl (fun D u w v h => by simpa [updB, upd] using h) (fun D u ρ w kn => by
                have e0 := kn.con 11 23 (c := .bool false) (by kernel_rfl) (by omega) (by kernel_rfl) rfl
                simp [execOp, kn.rho.con, e0, go_sem])
            · exact gd_off (by kernel_rfl) (Want.some_ (g := 12) (v := false) rfl rfl (by kernel_rfl) (by omega) rfl rfl (by kernel_rfl)) (.inr rfl) (fun D u w v h => by simpa [updB, upd] using h)
            · exact gd_off (by kernel_rfl) (Want.some_ (g := 12) (v := false) rfl rfl (by kernel_rfl) (by omega) rfl rfl (by kernel_rfl)) (.inr rfl) (fun D u w v h => by simpa [updB, upd] using h)
            · exact gd_off (by kernel_rfl) (Want.some_ (g := 12) (v := false) rfl rfl (by kernel_rfl) (by omega) rfl rfl (by kernel_rfl)) (.inr rfl) (fun D u w v h => by simpa [updB, upd] using h)
            · exact gd_off (by kernel_rfl) (Want.some_ (g := 12) (v := false) rfl rfl (by kernel_rfl) (by omega) rfl rfl (by kernel_rfl)) (.inr rfl) (fun D u w v h => by simpa [updB, upd] using h)
            · exact gd_off (by kernel_rfl) (Want.some_ (g := 12) (v := false) rfl rfl (by kernel_rfl) (by omega) rfl rfl (by kernel_rfl)) (.inr rfl) (fun D u w v h => by simpa [updB, upd] using h)
            · exact gd_off (by kernel_rfl) (Want.some_ (g := 12) (v := false) rfl rfl (by kernel_rfl) (by omega) rfl rfl (by kernel_rfl)) (.inr rfl) (fun D u w v h => by simpa [updB, upd] using h)
            · exact gd_off (by kernel_rfl) (Want.some_ (g := 12) (v := false) rfl rfl (by kernel_rfl) (by omega) rfl rfl (by kernel_rfl)) (.inr rfl) (fun D u w v h => by simpa [updB, upd] using h)
            · exact gd_off (by kernel_rfl) (Want.some_ (g := 12) (v := false) rfl rfl (by kernel_rfl) (by omega) rfl rfl (by kernel_rfl)) (.inr rfl) (fun D u w v h => by simpa [updB, upd] using h)
            · exact gd_gen (by kernel_rfl) (Want.none_ rfl) rfl (fun D u w v h => by simpa [updB, upd] using h) (fun D u ρ w kn => by
                have e0 := kn.con 12 24 (c := .bool false) (by kernel_rfl) (by omega) (by kernel_rfl) rfl
                have e1 := kn.con 20 32 (c := undef) (by kernel_rfl) (by omega) (by kernel_rfl) rfl
                simp [execOp, kn.rho.con, e0, e1, go_sem])
            · exact gd_gen (by kernel_rfl) (Want.none_ rfl) rfl (fun D u w v h => by simpa [updB, upd] using h) (fun D u ρ w kn => by
                have e0 := kn.con 21 33 (c := .bool false) (by kernel_rfl) (by omega) (by kernel_rfl) rfl
                simp [execOp, kn.rho.con, e0, go_sem])
            · exact gd_off (by kernel_rfl) (Want.some_ (g := 22) (v := false) rfl rfl (by kernel_rfl) (by omega) rfl rfl (by kernel_rfl)) (.inr rfl) (fun D u w v h => by simpa [updB, upd] using h)
            · exact gd_off (by kernel_rfl) (Want.some_ (g := 22) (v := false) rfl rfl (by kernel_rfl) (by omega) rfl rfl (by kernel_rfl)) (.inr rfl) (fun D u w v h => by simpa [updB, upd] using h)
            · exact gd_off (by kernel_rfl) (Want.some_ (g := 22) (v := false) rfl rfl (by kernel_rfl) (by omega) rfl rfl (by kernel_rfl)) (.inr rfl) (fun D u w v h => by simpa [updB, upd] using h)
            · exact gd_off (by kernel_rfl) (Want.some_ (g := 22) (v := false) rfl rfl (by kernel_rfl) (by omega) rfl rfl (by kernel_rfl)) (.inr rfl) (fun D u w v h => by simpa [updB, upd] using h)
            · exact gd_off (by kernel_rfl) (Want.some_ (g := 22) (v := false) rfl rfl (by kernel_rfl) (by omega) rfl rfl (by kernel_rfl)) (.inr rfl) (fun D u w v h => by simpa [updB, upd] using h)
            · exact gd_off (by kernel_rfl) (Want.some_ (g := 22) (v := false) rfl rfl (by kernel_rfl) (by omega) rfl rfl (by kernel_rfl)) (.inr rfl) (fun D u w v h => by simpa [updB, upd] using h)
            · exact gd_off (by kernel_rfl) (Want.some_ (g := 22) (v := false) rfl rfl (by kernel_rfl) (by omega) rfl rfl (by kernel_rfl)) (.inr rfl) (fun D u w v h => by simpa [updB, upd] using h)
            · exact gd_off (by kernel_rfl) (Want.some_ (g := 22) (v := false) rfl rfl (by kernel_rfl) (by omega) rfl rfl (by kernel_rfl)) (.inr rfl) (fun D u w v h => by simpa [updB, upd] using h)
            · exact gd_gen (by kernel_rfl) (Want.none_ rfl) rfl (fun D u w v h => by simpa [updB, upd] using h) (fun D u ρ w kn => by
                have e0 := kn.con 22 34 (c := .bool false) (by kernel_rfl) (by omega) (by kernel_rfl) rfl
                have e1 := kn.con 30 42 (c := undef) (by kernel_rfl) (by omega) (by kernel_rfl) rfl
                simp [execOp, kn.rho.con, e0, e1, go_sem])
          · intro D u w9 hJ hD
            simp only [List.take_succ_cons, List.take_zero, List.drop_succ_cons, List.drop_zero, putAll]
            have hcn := hJ.1
            have x1 := hJ.2
            have e31 : u 31 = .bool false := hcn 31 _ rfl (hD 31 (by omega))
            rw [e31]
            have G9 := Lib.hid x1
            clear hJ hcn x1 e31 hD
            go_simp
            go_wp2_with fail
            go_meet
            exact ⟨by rw [HE.out], G9.out⟩
        | true =>
          by_cases h1 : y.beg ≤ x.time
          · by_cases h2 : x.time < y.fin
            · have HE : Hid (hb = true) := Lib.hid (by rw [HHB.out]; simp [h1, h2])
              refine wp_region_gen 32 (JC (some (.slice (some ⟨b, o, none⟩) (hs.length) (c)) :: some (.int .i64 ((k : Int))) :: some (.pointer (some ⟨b, o + k * 5, none⟩)) :: some (.pointer (some ⟨b, o + k * 5 + 1, none⟩)) :: some (.string y.field) :: some (.slice (some ⟨b, o, none⟩) (hs.length) (c)) :: some (.int .i64 ((k : Int))) :: some (.pointer (some ⟨b, o + k * 5, none⟩)) :: some (.pointer (some ⟨b, o + k * 5 + 2, none⟩)) :: some (.string y.value) :: some (.agg x.cells.toArray) :: some (.bool true) :: some (.bool true) :: some (.slice (some ⟨b, o, none⟩) (hs.length) (c)) :: some (.int .i64 ((k : Int))) :: some (.pointer (some ⟨b, o + k * 5, none⟩)) :: some (.pointer (some ⟨b, o + k * 5 + 3, none⟩)) :: some (.int .i64 (y.beg)) :: some (.pointer (some ⟨xb, 5, none⟩)) :: some (.int .i64 (x.time)) :: some (.bool true) :: some (.bool true) :: some (.bool true) :: some (.pointer (some ⟨xb, 5, none⟩)) :: some (.int .i64 (x.time)) :: some (.slice (some ⟨b, o, none⟩) (hs.length) (c)) :: some (.int .i64 ((k : Int))) :: some (.pointer (some ⟨b, o + k * 5, none⟩)) :: some (.pointer (some ⟨b, o + k * 5 + 4, none⟩)) :: some (.int .i64 (y.fin)) :: some (.bool true) :: some (.bool true) :: []) (fun D u wx => wr.grownBy wx none)) (by kernel_rfl) (by kernel_rfl) ?_ ?_ ?_
              · intro u
                exact ⟨(fun j c _ h => by cases h), only_drew (only_refl _ _)⟩
              · intro AA hA
                have hasz : AA.tmps.size = 44 := by rw [hA]; kernel_rfl
                have ea0 : AA.eval (.tmp 0) = .slice (some ⟨b, o, none⟩) (hs.length) (c) := by rw [hA]; kernel_rfl
                have ea3 : AA.eval (.tmp 3) = .pointer (some ⟨xb, 0, none⟩) := by rw [hA]; kernel_rfl
                have ea5 : AA.eval (.tmp 5) = .int .i64 ((k : Int)) := by rw [hA]; kernel_rfl
                clear hA
                simp only [List.take_succ_cons, List.take_zero]
                refine .cons ?_ (.cons ?_ (.cons ?_ (.cons ?_ (.cons ?_ (.cons ?_ (.cons ?_ (.cons ?_ (.cons ?_ (.cons ?_ (.cons ?_ (.cons ?_ (.cons ?_ (.cons ?_ (.cons ?_ (.cons ?_ (.cons ?_ (.cons ?_ (.cons ?_ (.cons ?_ (.cons ?_ (.cons ?_ (.cons ?_ (.cons ?_ (.cons ?_ (.cons ?_ (.cons ?_ (.cons ?_ (.cons ?_ (.cons ?_ (.cons ?_ (.cons ?_ (.nil))))))))))))))))))))))))))))))))
                · exact gd_gen (by kernel_rfl) (Want.none_ rfl) rfl (fun D u w v h => by simpa [updB, upd] using h) (fun D u ρ w kn => by
                    have e0 := kn.own 0 (c := .slice (some ⟨b, o, none⟩) (hs.length) (c)) (by kernel_rfl) ea0
                    simp [execOp, kn.rho.con, e0, go_sem])
                · exact gd_gen (by kernel_rfl) (Want.none_ rfl) rfl (fun D u w v h => by simpa [updB, upd] using h) (fun D u ρ w kn => by
                    have e0 := kn.own 5 (c := .int .i64 ((k : Int))) (by kernel_rfl) ea5
                    simp [execOp, kn.rho.con, e0, go_sem])
                · exact gd_gen (by kernel_rfl) (Want.none_ rfl) rfl (fun D u w v h => by simpa [updB, upd] using h) (fun D u ρ w kn => by
                    have e0 := kn.con 0 12 (c := .slice (some ⟨b, o, none⟩) (hs.length) (c)) (by kernel_rfl) (by omega) (by kernel_rfl) rfl
                    have e1 := kn.con 1 13 (c := .int .i64 ((k : Int))) (by kernel_rfl) (by omega) (by kernel_rfl) rfl
                    simp [execOp, kn.rho.con, e0, e1, go_sem, i1])
                · exact gd_gen (by kernel_rfl) (Want.none_ rfl) rfl (fun D u w v h => by simpa [updB, upd] using h) (fun D u ρ w kn => by
                    have e0 := kn.con 2 14 (c := .pointer (some ⟨b, o + k * 5, none⟩)) (by kernel_rfl) (by omega) (by kernel_rfl) rfl
                    simp [execOp, kn.rho.con, e0, go_sem])
                · exact gd_gen (by kernel_rfl) (Want.none_ rfl) rfl (fun D u w v h => by simpa [updB, upd] using h) (fun D u ρ w kn => by
                    have e0 := kn.con 3 15 (c := .pointer (some ⟨b, o + k * 5 + 1, none⟩)) (by kernel_rfl) (by omega) (by kernel_rfl) rfl
                    have f0 := (show w.cell? ⟨b, o + k * 5 + 1, none⟩ = some (.string y.field) from (HRR.out.grown kn.ext (by simp)).flatAt HoldD.cells_len HY.out 1 (by omega))
                    simp [execOp, kn.rho.con, e0, f0, go_sem])
                · exact gd_gen (by kernel_rfl) (Want.none_ rfl) rfl (fun D u w v h => by simpa [updB, upd] using h) (fun D u ρ w kn => by
                    have e0 := kn.own 0 (c := .slice (some ⟨b, o, none⟩) (hs.length) (c)) (by kernel_rfl) ea0
                    simp [execOp, kn.rho.con, e0, go_sem])
                · exact gd_gen (by kernel_rfl) (Want.none_ rfl) rfl (fun D u w v h => by simpa [updB, upd] using h) (fun D u ρ w kn => by
                    have e0 := kn.own 5 (c := .int .i64 ((k : Int))) (by kernel_rfl) ea5
                    simp [execOp, kn.rho.con, e0, go_sem])
                · exact gd_gen (by kernel_rfl) (Want.none_ rfl) rfl (fun D u w v h => by simpa [updB, upd] using h) (fun D u ρ w kn => by
                    have e0 := kn.con 5 17 (c := .slice (some ⟨b, o, none⟩) (hs.length) (c)) (by kernel_rfl) (by omega) (by kernel_rfl) rfl
                    have e1 := kn.con 6 18 (c := .int .i64 ((k : Int))) (by kernel_rfl) (by omega) (by kernel_rfl) rfl
                    simp [execOp, kn.rho.con, e0, e1, go_sem, i1])
                · exact gd_gen (by kernel_rfl) (Want.none_ rfl) rfl (fun D u w v h => by simpa [updB, upd] using h) (fun D u ρ w kn => by
                    have e0 := kn.con 7 19 (c := .pointer (some ⟨b, o + k * 5, none⟩)) (by kernel_rfl) (by omega) (by kernel_rfl) rfl
                    simp [execOp, kn.rho.con, e0, go_sem])
                · exact gd_gen (by kernel_rfl) (Want.none_ rfl) rfl (fun D u w v h => by simpa [updB, upd] using h) (fun D u ρ w kn => by
                    have e0 := kn.con 8 20 (c := .pointer (some ⟨b, o + k * 5 + 2, none⟩)) (by kernel_rfl) (by omega) (by kernel_rfl) rfl
                    have f0 := (show w.cell? ⟨b, o + k * 5 + 2, none⟩ = some (.string y.value) from (HRR.out.grown kn.ext (by simp)).flatAt HoldD.cells_len HY.out 2 (by omega))
                    simp [execOp, kn.rho.con, e0, f0, go_sem])
                · exact gd_gen (by kernel_rfl) (Want.none_ rfl) rfl (fun D u w v h => by simpa [updB, upd] using h) (fun D u ρ w kn => by
                    have e0 := kn.own 3 (c := .pointer (some ⟨xb, 0, none⟩)) (by kernel_rfl) ea3
                    exact run_load ρ w rfl e0 (load_evO w xb x (BR.out.grown kn.ext (by simp))))
                · refine gd_call (by kernel_rfl) (Want.none_ rfl) 95 (fun D u ρ wx kn hD => ?_)
                  have e0 := kn.con 4 16 (c := .string y.field) (by kernel_rfl) (by omega) (by kernel_rfl) rfl
                  have e1 := kn.con 9 21 (c := .string y.value) (by kernel_rfl) (by omega) (by kernel_rfl) rfl
                  have e2 := kn.con 10 22 (c := .agg x.cells.toArray) (by kernel_rfl) (by omega) (by kernel_rfl) rfl
                  refine ⟨#[.string y.field, .string y.value, .agg x.cells.toArray], ?_, (KA.out wx kn.ext).mono ?_⟩
                  · simp only [execOp, resolve, Deferred.ofValue, List.map_toArray, List.map_cons, List.map_nil, e0, e1, e2, kn.rho.con, kn.rho.fn]
                    simp [go_sem]
                  · rintro e w' ⟨rfl, hg⟩
                    exact ⟨_, rfl, (fun c h => by injection h with h; injection h), only_trans kn.ext hg⟩
                · exact gd_gen (by kernel_rfl) (Want.none_ rfl) rfl (fun D u w v h => by simpa [updB, upd] using h) (fun D u ρ w kn => by
                    have e0 := kn.con 11 23 (c := .bool true) (by kernel_rfl) (by omega) (by kernel_rfl) rfl
                    simp [execOp, kn.rho.con, e0, go_sem])
                · exact gd_gen (by kernel_rfl) (Want.some_ (g := 12) (v := true) rfl rfl (by kernel_rfl) (by omega) rfl rfl (by kernel_rfl)) rfl (fun D u w v h => by simpa [updB, upd] using h) (fun D u ρ w kn => by
                    have e0 := kn.own 0 (c := .slice (some ⟨b, o, none⟩) (hs.length) (c)) (by kernel_rfl) ea0
                    simp [execOp, kn.rho.con, e0, go_sem])
                · exact gd_gen (by kernel_rfl) (Want.some_ (g := 12) (v := true) rfl rfl (by kernel_rfl) (by omega) rfl rfl (by kernel_rfl)) rfl (fun D u w v h => by simpa [updB, upd] using h) (fun D u ρ w kn => by
                    have e0 := kn.own 5 (c := .int .i64 ((k : Int))) (by kernel_rfl) ea5
                    simp [execOp, kn.rho.con, e0, go_sem])
                · exact gd_gen (by kernel_rfl) (Want.some_ (g := 12) (v := true) rfl rfl (by kernel_rfl) (by omega) rfl rfl (by kernel_rfl)) rfl (fun D u w v h => by simpa [updB, upd] using h) (fun D u ρ w kn => by
                    have e0 := kn.con 13 25 (c := .slice (some ⟨b, o, none⟩) (hs.length) (c)) (by kernel_rfl) (by omega) (by kernel_rfl) rfl
                    have e1 := kn.con 14 26 (c := .int .i64 ((k : Int))) (by kernel_rfl) (by omega) (by kernel_rfl) rfl
                    simp [execOp, kn.rho.con, e0, e1, go_sem, i1])
                · exact gd_gen (by kernel_rfl) (Want.some_ (g := 12) (v := true) rfl rfl (by kernel_rfl) (by omega) rfl rfl (by kernel_rfl)) rfl (fun D u w v h => by simpa [updB, upd] using h) (fun D u ρ w kn => by
                    have e0 := kn.con 15 27 (c := .pointer (some ⟨b, o + k * 5, none⟩)) (by kernel_rfl) (by omega) (by kernel_rfl) rfl
                    simp [execOp, kn.rho.con, e0, go_sem])
                · exact gd_gen (by kernel_rfl) (Want.some_ (g := 12) (v := true) rfl rfl (by kernel_rfl) (by omega) rfl rfl (by kernel_rfl)) rfl (fun D u w v h => by simpa [updB, upd] using h) (fun D u ρ w kn => by
                    have e0 := kn.con 16 28 (c := .pointer (some ⟨b, o + k * 5 + 3, none⟩)) (by kernel_rfl) (by omega) (by kernel_rfl) rfl
                    have f0 := (show w.cell? ⟨b, o + k * 5 + 3, none⟩ = some (.int .i64 (y.beg)) from (HRR.out.grown kn.ext (by simp)).flatAt HoldD.cells_len HY.out 3 (by omega))
                    simp [execOp, kn.rho.con, e0, f0, go_sem])
                · exact gd_gen (by kernel_rfl) (Want.some_ (g := 12) (v := true) rfl rfl (by kernel_rfl) (by omega) rfl rfl (by kernel_rfl)) rfl (fun D u w v h => by simpa [updB, upd] using h) (fun D u ρ w kn => by
                    have e0 := kn.own 3 (c := .pointer (some ⟨xb, 0, none⟩)) (by kernel_rfl) ea3
                    simp [execOp, kn.rho.con, e0, go_sem])
                · exact gd_gen (by kernel_rfl) (Want.some_ (g := 12) (v := true) rfl rfl (by kernel_rfl) (by omega) rfl rfl (by kernel_rfl)) rfl (fun D u w v h => by simpa [updB, upd] using h) (fun D u ρ w kn => by
                    have e0 := kn.con 18 30 (c := .pointer (some ⟨xb, 5, none⟩)) (by kernel_rfl) (by omega) (by kernel_rfl) rfl
                    have f0 := (show w.cell? ⟨xb, 5, none⟩ = some (.int .i64 x.time) from (BR.out.grown kn.ext (by simp)).cell 5)
                    simp [execOp, kn.rho.con, e0, f0, go_sem])
                · exact gd_gen (by kernel_rfl) (Want.some_ (g := 12) (v := true) rfl rfl (by kernel_rfl) (by omega) rfl rfl (by kernel_rfl)) rfl (fun D u w v h => by simpa [updB, upd] using h) (fun D u ρ w kn => by
                    have e0 := kn.con 17 29 (c := .int .i64 (y.beg)) (by kernel_rfl) (by omega) (by kernel_rfl) rfl
                    have e1 := kn.con 19 31 (c := .int .i64 (x.time)) (by kernel_rfl) (by omega) (by kernel_rfl) rfl
                    simp [execOp, kn.rho.con, e0, e1, go_sem, h1])
                · exact gd_gen (by kernel_rfl) (Want.none_ rfl) rfl (fun D u w v h => by simpa [updB, upd] using h) (fun D u ρ w kn => by
                    have e0 := kn.con 12 24 (c := .bool true) (by kernel_rfl) (by omega) (by kernel_rfl) rfl
                    have e1 := kn.con 20 32 (c := .bool true) (by kernel_rfl) (by omega) (by kernel_rfl) rfl
                    simp [execOp, kn.rho.con, e0, e1, go_sem])
                · exact gd_gen (by kernel_rfl) (Want.none_ rfl) rfl (fun D u w v h => by simpa [updB, upd] using h) (fun D u ρ w kn => by
                    have e0 := kn.con 21 33 (c := .bool true) (by kernel_rfl) (by omega) (by kernel_rfl) rfl
                    simp [execOp, kn.rho.con, e0, go_sem])
                · exact gd_gen (by kernel_rfl) (Want.some_ (g := 22) (v := true) rfl rfl (by kernel_rfl) (by omega) rfl rfl (by kernel_rfl)) rfl (fun D u w v h => by simpa [updB, upd] using h) (fun D u ρ w kn => by
                    have e0 := kn.own 3 (c := .pointer (some ⟨xb, 0, none⟩)) (by kernel_rfl) ea3
                    simp [execOp, kn.rho.con, e0, go_sem])
                · exact gd_gen (by kernel_rfl) (Want.some_ (g := 22) (v := true) rfl rfl (by kernel_rfl) (by omega) rfl rfl (by kernel_rfl)) rfl (fun D u w v h => by simpa [updB, upd] using h) (fun D u ρ w kn => by
                    have e0 := kn.con 23 35 (c := .pointer (some ⟨xb, 5, none⟩)) (by kernel_rfl) (by omega) (by kernel_rfl) rfl
                    have f0 := (show w.cell? ⟨xb, 5, none⟩ = some (.int .i64 x.time) from (BR.out.grown kn.ext (by simp)).cell 5)
                    simp [execOp, kn.rho.con, e0, f0, go_sem])
                · exact gd_gen (by kernel_rfl) (Want.some_ (g := 22) (v := true) rfl rfl (by kernel_rfl) (by omega) rfl rfl (by kernel_rfl)) rfl (fun D u w v h => by simpa [updB, upd] using h) (fun D u ρ w kn => by
                    have e0 := kn.own 0 (c := .slice (some ⟨b, o, none⟩) (hs.length) (c)) (by kernel_rfl) ea0
                    simp [execOp, kn.rho.con, e0, go_sem])
                · exact gd_gen (by kernel_rfl) (Want.some_ (g := 22) (v := true) rfl rfl (by kernel_rfl) (by omega) rfl rfl (by kernel_rfl)) rfl (fun D u w v h => by simpa [updB, upd] using h) (fun D u ρ w kn => by
                    have e0 := kn.own 5 (c := .int .i64 ((k : Int))) (by kernel_rfl) ea5
                    simp [execOp, kn.rho.con, e0, go_sem])
                · exact gd_gen (by kernel_rfl) (Want.some_ (g := 22) (v := true) rfl rfl (by kernel_rfl) (by omega) rfl rfl (by kernel_rfl)) rfl (fun D u w v h => by simpa [updB, upd] using h) (fun D u ρ w kn => by
                    have e0 := kn.con 25 37 (c := .slice (some ⟨b, o, none⟩) (hs.length) (c)) (by kernel_rfl) (by omega) (by kernel_rfl) rfl
                    have e1 := kn.con 26 38 (c := .int .i64 ((k : Int))) (by kernel_rfl) (by omega) (by kernel_rfl) rfl
                    simp [execOp, kn.rho.con, e0, e1, go_sem, i1])
                · exact gd_gen (by kernel_rfl) (Want.some_ (g := 22) (v := true) rfl rfl (by kernel_rfl) (by omega) rfl rfl (by kernel_rfl)) rfl (fun D u w v h => by simpa [updB, upd] using h) (fun D u ρ w kn => by
                    have e0 := kn.con 27 39 (c := .pointer (some ⟨b, o + k * 5, none⟩)) (by kernel_rfl) (by omega) (by kernel_rfl) rfl
                    simp [execOp, kn.rho.con, e0, go_sem])
                · exact gd_gen (by kernel_rfl) (Want.some_ (g := 22) (v := true) rfl rfl (by kernel_rfl) (by omega) rfl rfl (by kernel_rfl)) rfl (fun D u w v h => by simpa [updB, upd] using h) (fun D u ρ w kn => by
                    have e0 := kn.con 28 40 (c := .pointer (some ⟨b, o + k * 5 + 4, none⟩)) (by kernel_rfl) (by omega) (by kernel_rfl) rfl
                    have f0 := (show w.cell? ⟨b, o + k * 5 + 4, none⟩ = some (.int .i64 (y.fin)) from (HRR.out.grown kn.ext (by simp)).flatAt HoldD.cells_len HY.out 4 (by omega))
                    simp [execOp, kn.rho.con, e0, f0, go_sem])
                · exact gd_gen (by kernel_rfl) (Want.some_ (g := 22) (v := true) rfl rfl (by kernel_rfl) (by omega) rfl rfl (by kernel_rfl)) rfl (fun D u w v h => by simpa [updB, upd] using h) (fun D u ρ w kn => by
                    have e0 := kn.con 24 36 (c := .int .i64 (x.time)) (by kernel_rfl) (by omega) (by kernel_rfl) rfl
                    have e1 := kn.con 29 41 (c := .int .i64 (y.fin)) (by kernel_rfl) (by omega) (by kernel_rfl) rfl
                    simp [execOp, kn.rho.con, e0, e1, go_sem, h2])
                · exact gd_gen (by kernel_rfl) (Want.none_ rfl) rfl (fun D u w v h => by simpa [updB, upd] using h) (fun D u ρ w kn => by
                    have e0 := kn.con 22 34 (c := .bool true) (by kernel_rfl) (by omega) (by kernel_rfl) rfl
                    have e1 := kn.con 30 42 (c := .bool true) (by kernel_rfl) (by omega) (by kernel_rfl) rfl
                    simp [execOp, kn.rho.con, e0, e1, go_sem])
              · intro D u w9 hJ hD
                simp only [List.take_succ_cons, List.take_zero, List.drop_succ_cons, List.drop_zero, putAll]
                have hcn := hJ.1
                have x1 := hJ.2
                have e31 : u 31 = .bool true := hcn 31 _ rfl (hD 31 (by omega))
                rw [e31]
                have G9 := Lib.hid x1
                clear hJ hcn x1 e31 hD
                go_simp
                go_wp2_with fail
                go_meet
                exact ⟨by rw [HE.out], G9.out⟩
            · have HE : Hid (hb = false) := Lib.hid (by rw [HHB.out]; simp [h2])
              refine wp_region_gen 32 (JC (some (.slice (some ⟨b, o, none⟩) (hs.length) (c)) :: some (.int .i64 ((k : Int))) :: some (.pointer (some ⟨b, o + k * 5, none⟩)) :: some (.pointer (some ⟨b, o + k * 5 + 1, none⟩)) :: some (.string y.field) :: some (.slice (some ⟨b, o, none⟩) (hs.length) (c)) :: some (.int .i64 ((k : Int))) :: some (.pointer (some ⟨b, o + k * 5, none⟩)) :: some (.pointer (some ⟨b, o + k * 5 + 2, none⟩)) :: some (.string y.value) :: some (.agg x.cells.toArray) :: some (.bool true) :: some (.bool true) :: some (.slice (some ⟨b, o, none⟩) (hs.length) (c)) :: some (.int .i64 ((k : Int))) :: some (.pointer (some ⟨b, o + k * 5, none⟩)) :: some (.pointer (some ⟨b, o + k * 5 + 3, none⟩)) :: some (.int .i64 (y.beg)) :: some (.pointer (some ⟨xb, 5, none⟩)) :: some (.int .i64 (x.time)) :: some (.bool true) :: some (.bool true) :: some (.bool true) :: some (.pointer (some ⟨xb, 5, none⟩)) :: some (.int .i64 (x.time)) :: some (.slice (some ⟨b, o, none⟩) (hs.length) (c)) :: some (.int .i64 ((k : Int))) :: some (.pointer (some ⟨b, o + k * 5, none⟩)) :: some (.pointer (some ⟨b, o + k * 5 + 4, none⟩)) :: some (.int .i64 (y.fin)) :: some (.bool false) :: some (.bool false) :: []) (fun D u wx => wr.grownBy wx none)) (by kernel_rfl) (by kernel_rfl) ?_ ?_ ?_
              · intro u
                exact ⟨(fun j c _ h => by cases h), only_drew (only_refl _ _)⟩
              · intro AA hA
                have hasz : AA.tmps.size = 44 := by rw [hA]; kernel_rfl
                have ea0 : AA.eval (.tmp 0) = .slice (some ⟨b, o, none⟩) (hs.length) (c) := by rw [hA]; kernel_rfl
                have ea3 : AA.eval (.tmp 3) = .pointer (some ⟨xb, 0, none⟩) := by rw [hA]; kernel_rfl
                have ea5 : AA.eval (.tmp 5) = .int .i64 ((k : Int)) := by rw [hA]; kernel_rfl
                clear hA
                simp only [List.take_succ_cons, List.take_zero]
                refine .cons ?_ (.cons ?_ (.cons ?_ (.cons ?_ (.cons ?_ (.cons ?_ (.cons ?_ (.cons ?_ (.cons ?_ (.cons ?_ (.cons ?_ (.cons ?_ (.cons ?_ (.cons ?_ (.cons ?_ (.cons ?_ (.cons ?_ (.cons ?_ (.cons ?_ (.cons ?_ (.cons ?_ (.cons ?_ (.cons ?_ (.cons ?_ (.cons ?_ (.cons ?_ (.cons ?_ (.cons ?_ (.cons ?_ (.cons ?_ (.cons ?_ (.cons ?_ (.nil))))))))))))))))))))))))))))))))
                · exact gd_gen (by kernel_rfl) (Want.none_ rfl) rfl (fun D u w v h => by simpa [updB, upd] using h) (fun D u ρ w kn => by
                    have e0 := kn.own 0 (c := .slice (some ⟨b, o, none⟩) (hs.length) (c)) (by kernel_rfl) ea0
                    simp [execOp, kn.rho.con, e0, go_sem])
                · exact gd_gen (by kernel_rfl) (Want.none_ rfl) rfl (fun D u w v h => by simpa [updB, upd] using h) (fun D u ρ w kn => by
                    have e0 := kn.own 5 (c := .int .i64 ((k : Int))) (by kernel_rfl) ea5
                    simp [execOp, kn.rho.con, e0, go_sem])
                · exact gd_gen (by kernel_rfl) (Want.none_ rfl) rfl (fun D u w v h => by simpa [updB, upd] using h) (fun D u ρ w kn => by
                    have e0 := kn.con 0 12 (c := .slice (some ⟨b, o, none⟩) (hs.length) (c)) (by kernel_rfl) (by omega) (by kernel_rfl) rfl
                    have e1 := kn.con 1 13 (c := .int .i64 ((k : Int))) (by kernel_rfl) (by omega) (by kernel_rfl) rfl
                    simp [execOp, kn.rho.con, e0, e1, go_sem, i1])
                · exact gd_gen (by kernel_rfl) (Want.none_ rfl) rfl (fun D u w v h => by simpa [updB, upd] using h) (fun D u ρ w kn => by
                    have e0 := kn.con 2 14 (c := .pointer (some ⟨b, o + k * 5, none⟩)) (by kernel_rfl) (by omega) (by kernel_rfl) rfl
                    simp [execOp, kn.rho.con, e0, go_sem])
                · exact gd_gen (by kernel_rfl) (Want.none_ rfl) rfl (fun D u w v h => by simpa [updB, upd] using h) (fun D u ρ w kn => by
                    have e0 := kn.con 3 15 (c := .pointer (some ⟨b, o + k * 5 + 1, none⟩)) (by kernel_rfl) (by omega) (by kernel_rfl) rfl
                    have f0 := (show w.cell? ⟨b, o + k * 5 + 1, none⟩ = some (.string y.field) from (HRR.out.grown kn.ext (by simp)).flatAt HoldD.cells_len HY.out 1 (by omega))
                    simp [execOp, kn.rho.con, e0, f0, go_sem])
                · exact gd_gen (by kernel_rfl) (Want.none_ rfl) rfl (fun D u w v h => by simpa [updB, upd] using h) (fun D u ρ w kn => by
                    have e0 := kn.own 0 (c := .slice (some ⟨b, o, none⟩) (hs.length) (c)) (by kernel_rfl) ea0
                    simp [execOp, kn.rho.con, e0, go_sem])
                · exact gd_gen (by kernel_rfl) (Want.none_ rfl) rfl (fun D u w v h => by simpa [updB, upd] using h) (fun D u ρ w kn => by
                    have e0 := kn.own 5 (c := .int .i64 ((k : Int))) (by kernel_rfl) ea5
                    simp [execOp, kn.rho.con, e0, go_sem])
                · exact gd_gen (by kernel_rfl) (Want.none_ rfl) rfl (fun D u w v h => by simpa [updB, upd] using h) (fun D u ρ w kn => by
                    have e0 := kn.con 5 17 (c := .slice (some ⟨b, o, none⟩) (hs.length) (c)) (by kernel_rfl) (by omega) (by kernel_rfl) rfl
                    have e1 := kn.con 6 18 (c := .int .i64 ((k : Int))) (by kernel_rfl) (by omega) (by kernel_rfl) rfl
                    simp [execOp, kn.rho.con, e0, e1, go_sem, i1])
                · exact gd_gen (by kernel_rfl) (Want.none_ rfl) rfl (fun D u w v h => by simpa [updB, upd] using h) (fun D u ρ w kn => by
                    have e0 := kn.con 7 19 (c := .pointer (some ⟨b, o + k * 5, none⟩)) (by kernel_rfl) (by omega) (by kernel_rfl) rfl
                    simp [execOp, kn.rho.con, e0, go_sem])
                · exact gd_gen (by kernel_rfl) (Want.none_ rfl) rfl (fun D u w v h => by simpa [updB, upd] using h) (fun D u ρ w kn => by
                    have e0 := kn.con 8 20 (c := .pointer (some ⟨b, o + k * 5 + 2, none⟩)) (by kernel_rfl) (by omega) (by kernel_rfl) rfl
                    have f0 := (show w.cell? ⟨b, o + k * 5 + 2, none⟩ = some (.string y.value) from (HRR.out.grown kn.ext (by simp)).flatAt HoldD.cells_len HY.out 2 (by omega))
                    simp [execOp, kn.rho.con, e0, f0, go_sem])
                · exact gd_gen (by kernel_rfl) (Want.none_ rfl) rfl (fun D u w v h => by simpa [updB, upd] using h) (fun D u ρ w kn => by
                    have e0 := kn.own 3 (c := .pointer (some ⟨xb, 0, none⟩)) (by kernel_rfl) ea3
                    exact run_load ρ w rfl e0 (load_evO w xb x (BR.out.grown kn.ext (by simp))))
                · refine gd_call (by kernel_rfl) (Want.none_ rfl) 95 (fun D u ρ wx kn hD => ?_)
                  have e0 := kn.con 4 16 (c := .string y.field) (by kernel_rfl) (by omega) (by kernel_rfl) rfl
                  have e1 := kn.con 9 21 (c := .string y.value) (by kernel_rfl) (by omega) (by kernel_rfl) rfl
                  have e2 := kn.con 10 22 (c := .agg x.cells.toArray) (by kernel_rfl) (by omega) (by kernel_rfl) rfl
                  refine ⟨#[.string y.field, .string y.value, .agg x.cells.toArray], ?_, (KA.out wx kn.ext).mono ?_⟩
                  · simp only [execOp, resolve, Deferred.ofValue, List.map_toArray, List.map_cons, List.map_nil, e0, e1, e2, kn.rho.con, kn.rho.fn]
                    simp [go_sem]
                  · rintro e w' ⟨rfl, hg⟩
                    exact ⟨_, rfl, (fun c h => by injection h with h; injection h), only_trans kn.ext hg⟩
                · exact gd_gen (by kernel_rfl) (Want.none_ rfl) rfl (fun D u w v h => by simpa [updB, upd] using h) (fun D u ρ w kn => by
                    have e0 := kn.con 11 23 (c := .bool true) (by kernel_rfl) (by omega) (by kernel_rfl) rfl
                    simp [execOp, kn.rho.con, e0, go_sem])
                · exact gd_gen (by kernel_rfl) (Want.some_ (g := 12) (v := true) rfl rfl (by kernel_rfl) (by omega) rfl rfl (by kernel_rfl)) rfl (fun D u w v h => by simpa [updB, upd] using h) (fun D u ρ w kn => by
                    have e0 := kn.own 0 (c := .slice (some ⟨b, o, none⟩) (hs.length) (c)) (by kernel_rfl) ea0
                    simp [execOp, kn.rho.con, e0, go_sem])
                · exact gd_gen (by kernel_rfl) (Want.some_ (g := 12) (v := true) rfl rfl (by kernel_rfl) (by omega) rfl rfl (by kernel_rfl)) rfl (fun D u w v h => by simpa [updB, upd] using h) (fun D u ρ w kn => by
                    have e0 := kn.own 5 (c := .int .i64 ((k : Int))) (by kernel_rfl) ea5
                    simp [execOp, kn.rho.con, e0, go_sem])
                · exact gd_gen (by kernel_rfl) (Want.some_ (g := 12) (v := true) rfl rfl (by kernel_rfl) (by omega) rfl rfl (by kernel_rfl)) rfl (fun D u w v h => by simpa [updB, upd] using h) (fun D u ρ w kn => by
                    have e0 := kn.con 13 25 (c := .slice (some ⟨b, o, none⟩) (hs.length) (c)) (by kernel_rfl) (by omega) (by kernel_rfl) rfl
                    have e1 := kn.con 14 26 (c := .int .i64 ((k : Int))) (by kernel_rfl) (by omega) (by kernel_rfl) rfl
                    simp [execOp, kn.rho.con, e0, e1, go_sem, i1])
                · exact gd_gen (by kernel_rfl) (Want.some_ (g := 12) (v := true) rfl rfl (by kernel_rfl) (by omega) rfl rfl (by kernel_rfl)) rfl (fun D u w v h => by simpa [updB, upd] using h) (fun D u ρ w kn => by
                    have e0 := kn.con 15 27 (c := .pointer (some ⟨b, o + k * 5, none⟩)) (by kernel_rfl) (by omega) (by kernel_rfl) rfl
                    simp [execOp, kn.rho.con, e0, go_sem])
                · exact gd_gen (by kernel_rfl) (Want.some_ (g := 12) (v := true) rfl rfl (by kernel_rfl) (by omega) rfl rfl (by kernel_rfl)) rfl (fun D u w v h => by simpa [updB, upd] using h) (fun D u ρ w kn => by
                    have e0 := kn.con 16 28 (c := .pointer (some ⟨b, o + k * 5 + 3, none⟩)) (by kernel_rfl) (by omega) (by kernel_rfl) rfl
                    have f0 := (show w.cell? ⟨b, o + k * 5 + 3, none⟩ = some (.int .i64 (y.beg)) from (HRR.out.grown kn.ext (by simp)).flatAt HoldD.cells_len HY.out 3 (by omega))
                    simp [execOp, kn.rho.con, e0, f0, go_sem])
                · exact gd_gen (by kernel_rfl) (Want.some_ (g := 12) (v := true) rfl rfl (by kernel_rfl) (by omega) rfl rfl (by kernel_rfl)) rfl (fun D u w v h => by simpa [updB, upd] using h) (fun D u ρ w kn => by
                    have e0 := kn.own 3 (c := .pointer (some ⟨xb, 0, none⟩)) (by kernel_rfl) ea3
                    simp [execOp, kn.rho.con, e0, go_sem])
                · exact gd_gen (by kernel_rfl) (Want.some_ (g := 12) (v := true) rfl rfl (by kernel_rfl) (by omega) rfl rfl (by kernel_rfl)) rfl (fun D u w v h => by simpa [updB, upd] using h) (fun D u ρ w kn => by
                    have e0 := kn.con 18 30 (c := .pointer (some ⟨xb, 5, none⟩)) (by kernel_rfl) (by omega) (by kernel_rfl) rfl
                    have f0 := (show w.cell? ⟨xb, 5, none⟩ = some (.int .i64 x.time) from (BR.out.grown kn.ext (by simp)).cell 5)
                    simp [execOp, kn.rho.con, e0, f0, go_sem])
                · exact gd_gen (by kernel_rfl) (Want.some_ (g := 12) (v := true) rfl rfl (by kernel_rfl) (by omega) rfl rfl (by kernel_rfl)) rfl (fun D u w v h => by simpa [updB, upd] using h) (fun D u ρ w kn => by
                    have e0 := kn.con 17 29 (c := .int .i64 (y.beg)) (by kernel_rfl) (by omega) (by kernel_rfl) rfl
                    have e1 := kn.con 19 31 (c := .int .i64 (x.time)) (by kernel_rfl) (by omega) (by kernel_rfl) rfl
                    simp [execOp, kn.rho.con, e0, e1, go_sem, h1])
                · exact gd_gen (by kernel_rfl) (Want.none_ rfl) rfl (fun D u w v h => by simpa [updB, upd] using h) (fun D u ρ w kn => by
                    have e0 := kn.con 12 24 (c := .bool true) (by kernel_rfl) (by omega) (by kernel_rfl) rfl
                    have e1 := kn.con 20 32 (c := .bool true) (by kernel_rfl) (by omega) (by kernel_rfl) rfl
                    simp [execOp, kn.rho.con, e0, e1, go_sem])
                · exact gd_gen (by kernel_rfl) (Want.none_ rfl) rfl (fun D u w v h => by simpa [updB, upd] using h) (fun D u ρ w kn => by
                    have e0 := kn.con 21 33 (c := .bool true) (by kernel_rfl) (by omega) (by kernel_rfl) rfl
                    simp [execOp, kn.rho.con, e0, go_sem])
                · exact gd_gen (by kernel_rfl) (Want.some_ (g := 22) (v := true) rfl rfl (by kernel_rfl) (by omega) rfl rfl (by kernel_rfl)) rfl (fun D u w v h => by simpa [updB, upd] using h) (fun D u ρ w kn => by
                    have e0 := kn.own 3 (c := .pointer (some ⟨xb, 0, none⟩)) (by kernel_rfl) ea3
                    simp [execOp, kn.rho.con, e0, go_sem])
                · exact gd_gen (by kernel_rfl) (Want.some_ (g := 22) (v := true) rfl rfl (by kernel_rfl) (by omega) rfl rfl (by kernel_rfl)) rfl (fun D u w v h => by simpa [updB, upd] using h) (fun D u ρ w kn => by
                    have e0 := kn.con 23 35 (c := .pointer (some ⟨xb, 5, none⟩)) (by kernel_rfl) (by omega) (by kernel_rfl) rfl
                    have f0 := (show w.cell? ⟨xb, 5, none⟩ = some (.int .i64 x.time) from (BR.out.grown kn.ext (by simp)).cell 5)
                    simp [execOp, kn.rho.con, e0, f0, go_sem])
                · exact gd_gen (by kernel_rfl) (Want.some_ (g := 22) (v := true) rfl rfl (by kernel_rfl) (by omega) rfl rfl (by kernel_rfl)) rfl (fun D u w v h => by simpa [updB, upd] using h) (fun D u ρ w kn => by
                    have e0 := kn.own 0 (c := .slice (some ⟨b, o, none⟩) (hs.length) (c)) (by kernel_rfl) ea0
                    simp [execOp, kn.rho.con, e0, go_sem])
                · exact gd_gen (by kernel_rfl) (Want.some_ (g := 22) (v := true) rfl rfl (by kernel_rfl) (by omega) rfl rfl (by kernel_rfl)) rfl (fun D u w v h => by simpa [updB, upd] using h) (fun D u ρ w kn => by
                    have e0 := kn.own 5 (c := .int .i64 ((k : Int))) (by kernel_rfl) ea5
                    simp [execOp, kn.rho.con, e0, go_sem])
                · exact gd_gen (by kernel_rfl) (Want.some_ (g := 22) (v := true) rfl rfl (by kernel_rfl) (by omega) rfl rfl (by kernel_rfl)) rfl (fun D u w v h => by simpa [updB, upd] using h) (fun D u ρ w kn => by
                    have e0 := kn.con 25 37 (c := .slice (some ⟨b, o, none⟩) (hs.length) (c)) (by kernel_rfl) (by omega) (by kernel_rfl) rfl
                    have e1 := kn.con 26 38 (c := .int .i64 ((k : Int))) (by kernel_rfl) (by omega) (by kernel_rfl) rfl
                    simp [execOp, kn.rho.con, e0, e1, go_sem, i1])
                · exact gd_gen (by kernel_rfl) (Want.some_ (g := 22) (v := true) rfl rfl (by kernel_rfl) (by omega) rfl rfl (by kernel_rfl)) rfl (fun D u w v h => by simpa [updB, upd] using h) (fun D u ρ w kn => by
                    have e0 := kn.con 27 39 (c := .pointer (some ⟨b, o + k * 5, none⟩)) (by kernel_rfl) (by omega) (by kernel_rfl) rfl
                    simp [execOp, kn.rho.con, e0, go_sem])
                · exact gd_gen (by kernel_rfl) (Want.some_ (g := 22) (v := true) rfl rfl (by kernel_rfl) (by omega) rfl rfl (by kernel_rfl)) rfl (fun D u w v h => by simpa [updB, upd] using h) (fun D u ρ w kn => by
                    have e0 := kn.con 28 40 (c := .pointer (some ⟨b, o + k * 5 + 4, none⟩)) (by kernel_rfl) (by omega) (by kernel_rfl) rfl
                    have f0 := (show w.cell? ⟨b, o + k * 5 + 4, none⟩ = some (.int .i64 (y.fin)) from (HRR.out.grown kn.ext (by simp)).flatAt HoldD.cells_len HY.out 4 (by omega))
                    simp [execOp, kn.rho.con, e0, f0, go_sem])
                · exact gd_gen (by kernel_rfl) (Want.some_ (g := 22) (v := true) rfl rfl (by kernel_rfl) (by omega) rfl rfl (by kernel_rfl)) rfl (fun D u w v h => by simpa [updB, upd] using h) (fun D u ρ w kn => by
                    have e0 := kn.con 24 36 (c := .int .i64 (x.time)) (by kernel_rfl) (by omega) (by kernel_rfl) rfl
                    have e1 := kn.con 29 41 (c := .int .i64 (y.fin)) (by kernel_rfl) (by omega) (by kernel_rfl) rfl
                    simp [execOp, kn.rho.con, e0, e1, go_sem, h2])
                · exact gd_gen (by kernel_rfl) (Want.none_ rfl) rfl (fun D u w v h => by simpa [updB, upd] using h) (fun D u ρ w kn => by
                    have e0 := kn.con 22 34 (c := .bool true) (by kernel_rfl) (by omega) (by kernel_rfl) rfl
                    have e1 := kn.con 30 42 (c := .bool false) (by kernel_rfl) (by omega) (by kernel_rfl) rfl
                    simp [execOp, kn.rho.con, e0, e1, go_sem])
              · intro D u w9 hJ hD
                simp only [List.take_succ_cons, List.take_zero, List.drop_succ_cons, List.drop_zero, putAll]
                have hcn := hJ.1
                have x1 := hJ.2
                have e31 : u 31 = .bool false := hcn 31 _ rfl (hD 31 (by omega))
                rw [e31]
                have G9 := Lib.hid x1
                clear hJ hcn x1 e31 hD
                go_simp
                go_wp2_with fail
                go_meet
                exact ⟨by rw [HE.out], G9.out⟩
          · have HE : Hid (hb = false) := Lib.hid (by rw [HHB.out]; simp [h1])
            refine wp_region_gen 32 (JC (some (.slice (some ⟨b, o, none⟩) (hs.length) (c)) :: some (.int .i64 ((k : Int))) :: some (.pointer (some ⟨b, o + k * 5, none⟩)) :: some (.pointer (some ⟨b, o + k * 5 + 1, none⟩)) :: some (.string y.field) :: some (.slice (some ⟨b, o, none⟩) (hs.length) (c)) :: some (.int .i64 ((k : Int))) :: some (.pointer (some ⟨b, o + k * 5, none⟩)) :: some (.pointer (some ⟨b, o + k * 5 + 2, none⟩)) :: some (.string y.value) :: some (.agg x.cells.toArray) :: some (.bool true) :: some (.bool true) :: some (.slice (some ⟨b, o, none⟩) (hs.length) (c)) :: some (.int .i64 ((k : Int))) :: some (.pointer (some ⟨b, o + k * 5, none⟩)) :: some (.pointer (some ⟨b, o + k * 5 + 3, none⟩)) :: some (.int .i64 (y.beg)) :: some (.pointer (some ⟨xb, 5, none⟩)) :: some (.int .i64 (x.time)) :: some (.bool false) :: some (.bool false) :: some (.bool false) :: some (undef) :: some (undef) :: some (undef) :: some (undef) :: some (undef) :: some (undef) :: some (undef) :: some (undef) :: some (.bool false) :: []) (fun D u wx => wr.grownBy wx none)) (by kernel_rfl) (by kernel_rfl) ?_ ?_ ?_
            · intro u
              exact ⟨(fun j c _ h => by cases h), only_drew (only_refl _ _)⟩
            · intro AA hA
              have hasz : AA.tmps.size = 44 := by rw [hA]; kernel_rfl
              have ea0 : AA.eval (.tmp 0) = .slice (some ⟨b, o, none⟩) (hs.length) (c) := by rw [hA]; kernel_rfl
              have ea3 : AA.eval (.tmp 3) = .pointer (some ⟨xb, 0, none⟩) := by rw [hA]; kernel_rfl
              have ea5 : AA.eval (.tmp 5) = .int .i64 ((k : Int)) := by rw [hA]; kernel_rfl
              clear hA
              simp only [List.take_succ_cons, List.take_zero]
              refine .cons ?_ (.cons ?_ (.cons ?_ (.cons ?_ (.cons ?_ (.cons ?_ (.cons ?_ (.cons ?_ (.cons ?_ (.cons ?_ (.cons ?_ (.cons ?_ (.cons ?_ (.cons ?_ (.cons ?_ (.cons ?_ (.cons ?_ (.cons ?_ (.cons ?_ (.cons ?_ (.cons ?_ (.cons ?_ (.cons ?_ (.cons ?_ (.cons ?_ (.cons ?_ (.cons ?_ (.cons ?_ (.cons ?_ (.cons ?_ (.cons ?_ (.cons ?_ (.nil))))))))))))))))))))))))))))))))
              · exact gd_gen (by kernel_rfl) (Want.none_ rfl) rfl (fun D u w v h => by simpa [updB, upd] using h) (fun D u ρ w kn => by
                  have e0 := kn.own 0 (c := .slice (some ⟨b, o, none⟩) (hs.length) (c)) (by kernel_rfl) ea0
                  simp [execOp, kn.rho.con, e0, go_sem])
              · exact gd_gen (by kernel_rfl) (Want.none_ rfl) rfl (fun D u w v h => by simpa [updB, upd] using h) (fun D u ρ w kn => by
                  have e0 := kn.own 5 (c := .int .i64 ((k : Int))) (by kernel_rfl) ea5
                  simp [execOp, kn.rho.con, e0, go_sem])
              · exact gd_gen (by kernel_rfl) (Want.none_ rfl) rfl (fun D u w v h => by simpa [updB, upd] using h) (fun D u ρ w kn => by
                  have e0 := kn.con 0 12 (c := .slice (some ⟨b, o, none⟩) (hs.length) (c)) (by kernel_rfl) (by omega) (by kernel_rfl) rfl
                  have e1 := kn.con 1 13 (c := .int .i64 ((k : Int))) (by kernel_rfl) (by omega) (by kernel_rfl) rfl
                  simp [execOp, kn.rho.con, e0, e1, go_sem, i1])
              · exact gd_gen (by kernel_rfl) (Want.none_ rfl) rfl (fun D u w v h => by simpa [updB, upd] using h) (fun D u ρ w kn => by
                  have e0 := kn.con 2 14 (c := .pointer (some ⟨b, o + k * 5, none⟩)) (by kernel_rfl) (by omega) (by kernel_rfl) rfl
                  simp [execOp, kn.rho.con, e0, go_sem])
              · exact gd_gen (by kernel_rfl) (Want.none_ rfl) rfl (fun D u w v h => by simpa [updB, upd] using h) (fun D u ρ w kn => by
                  have e0 := kn.con 3 15 (c := .pointer (some ⟨b, o + k * 5 + 1, none⟩)) (by kernel_rfl) (by omega) (by kernel_rfl) rfl
                  have f0 := (show w.cell? ⟨b, o + k * 5 + 1, none⟩ = some (.string y.field) from (HRR.out.grown kn.ext (by simp)).flatAt HoldD.cells_len HY.out 1 (by omega))
                  simp [execOp, kn.rho.con, e0, f0, go_sem])
              · exact gd_gen (by kernel_rfl) (Want.none_ rfl) rfl (fun D u w v h => by simpa [updB, upd] using h) (fun D u ρ w kn => by
                  have e0 := kn.own 0 (c := .slice (some ⟨b, o, none⟩) (hs.length) (c)) (by kernel_rfl) ea0
                  simp [execOp, kn.rho.con, e0, go_sem])
              · exact gd_gen (by kernel_rfl) (Want.none_ rfl) rfl (fun D u w v h => by simpa [updB, upd] using h) (fun D u ρ w kn => by
                  have e0 := kn.own 5 (c := .int .i64 ((k : Int))) (by kernel_rfl) ea5
                  simp [execOp, kn.rho.con, e0, go_sem])
              · exact gd_gen (by kernel_rfl) (Want.none_ rfl) rfl (fun D u w v h => by simpa [updB, upd] using h) (fun D u ρ w kn => by
                  have e0 := kn.con 5 17 (c := .slice (some ⟨b, o, none⟩) (hs.length) (c)) (by kernel_rfl) (by omega) (by kernel_rfl) rfl
                  have e1 := kn.con 6 18 (c := .int .i64 ((k : Int))) (by kernel_rfl) (by omega) (by kernel_rfl) rfl
                  simp [execOp, kn.rho.con, e0, e1, go_sem, i1])
              · exact gd_gen (by kernel_rfl) (Want.none_ rfl) rfl (fun D u w v h => by simpa [updB, upd] using h) (fun D u ρ w kn => by
                  have e0 := kn.con 7 19 (c := .pointer (some ⟨b, o + k * 5, none⟩)) (by kernel_rfl) (by omega) (by kernel_rfl) rfl
                  simp [execOp, kn.rho.con, e0, go_sem])
              · exact gd_gen (by kernel_rfl) (Want.none_ rfl) rfl (fun D u w v h => by simpa [updB, upd] using h) (fun D u ρ w kn => by
                  have e0 := kn.con 8 20 (c := .pointer (some ⟨b, o + k * 5 + 2, none⟩)) (by kernel_rfl) (by omega) (by kernel_rfl) rfl
                  have f0 := (show w.cell? ⟨b, o + k * 5 + 2, none⟩ = some (.string y.value) from (HRR.out.grown kn.ext (by simp)).flatAt HoldD.cells_len HY.out 2 (by omega))
                  simp [execOp, kn.rho.con, e0, f0, go_sem])
              · exact gd_gen (by kernel_rfl) (Want.none_ rfl) rfl (fun D u w v h => by simpa [updB, upd] using h) (fun D u ρ w kn => by
                  have e0 := kn.own 3 (c := .pointer (some ⟨xb, 0, none⟩)) (by kernel_rfl) ea3
                  exact run_load ρ w rfl e0 (load_evO w xb x (BR.out.grown kn.ext (by simp))))
              · refine gd_call (by kernel_rfl) (Want.none_ rfl) 95 (fun D u ρ wx kn hD => ?_)
                have e0 := kn.con 4 16 (c := .string y.field) (by kernel_rfl) (by omega) (by kernel_rfl) rfl
                have e1 := kn.con 9 21 (c := .string y.value) (by kernel_rfl) (by omega) (by kernel_rfl) rfl
                have e2 := kn.con 10 22 (c := .agg x.cells.toArray) (by kernel_rfl) (by omega) (by kernel_rfl) rfl
                refine ⟨#[.string y.field, .string y.value, .agg x.cells.toArray], ?_, (KA.out wx kn.ext).mono ?_⟩
                · simp only [execOp, resolve, Deferred.ofValue, List.map_toArray, List.map_cons, List.map_nil, e0, e1, e2, kn.rho.con, kn.rho.fn]
                  simp [go_sem]
                · rintro e w' ⟨rfl, hg⟩
                  exact ⟨_, rfl, (fun c h => by injection h with h; injection h), only_trans kn.ext hg⟩
              · exact gd_gen (by kernel_rfl) (Want.none_ rfl) rfl (fun D u w v h => by simpa [updB, upd] using h) (fun D u ρ w kn => by
                  have e0 := kn.con 11 23 (c := .bool true) (by kernel_rfl) (by omega) (by kernel_rfl) rfl
                  simp [execOp, kn.rho.con, e0, go_sem])
              · exact gd_gen (by kernel_rfl) (Want.some_ (g := 12) (v := true) rfl rfl (by kernel_rfl) (by omega) rfl rfl (by kernel_rfl)) rfl (fun D u w v h => by simpa [updB, upd] using h) (fun D u ρ w kn => by
                  have e0 := kn.own 0 (c := .slice (some ⟨b, o, none⟩) (hs.length) (c)) (by kernel_rfl) ea0
                  simp [execOp, kn.rho.con, e0, go_sem])
              · exact gd_gen (by kernel_rfl) (Want.some_ (g := 12) (v := true) rfl rfl (by kernel_rfl) (by omega) rfl rfl (by kernel_rfl)) rfl (fun D u w v h => by simpa [updB, upd] using h) (fun D u ρ w kn => by
                  have e0 := kn.own 5 (c := .int .i64 ((k : Int))) (by kernel_rfl) ea5
                  simp [execOp, kn.rho.con, e0, go_sem])
              · exact gd_gen (by kernel_rfl) (Want.some_ (g := 12) (v := true) rfl rfl (by kernel_rfl) (by omega) rfl rfl (by kernel_rfl)) rfl (fun D u w v h => by simpa [updB, upd] using h) (fun D u ρ w kn => by
                  have e0 := kn.con 13 25 (c := .slice (some ⟨b, o, none⟩) (hs.length) (c)) (by kernel_rfl) (by omega) (by kernel_rfl) rfl
                  have e1 := kn.con 14 26 (c := .int .i64 ((k : Int))) (by kernel_rfl) (by omega) (by kernel_rfl) rfl
                  simp [execOp, kn.rho.con, e0, e1, go_sem, i1])
              · exact gd_gen (by kernel_rfl) (Want.some_ (g := 12) (v := true) rfl rfl (by kernel_rfl) (by omega) rfl rfl (by kernel_rfl)) rfl (fun D u w v h => by simpa [updB, upd] using h) (fun D u ρ w kn => by
                  have e0 := kn.con 15 27 (c := .pointer (some ⟨b, o + k * 5, none⟩)) (by kernel_rfl) (by omega) (by kernel_rfl) rfl
                  simp [execOp, kn.rho.con, e0, go_sem])
              · exact gd_gen (by kernel_rfl) (Want.some_ (g := 12) (v := true) rfl rfl (by kernel_rfl) (by omega) rfl rfl (by kernel_rfl)) rfl (fun D u w v h => by simpa [updB, upd] using h) (fun D u ρ w kn => by
                  have e0 := kn.con 16 28 (c := .pointer (some ⟨b, o + k * 5 + 3, none⟩)) (by kernel_rfl) (by omega) (by kernel_rfl) rfl
                  have f0 := (show w.cell? ⟨b, o + k * 5 + 3, none⟩ = some (.int .i64 (y.beg)) from (HRR.out.grown kn.ext (by simp)).flatAt HoldD.cells_len HY.out 3 (by omega))
                  simp [execOp, kn.rho.con, e0, f0, go_sem])
              · exact gd_gen (by kernel_rfl) (Want.some_ (g := 12) (v := true) rfl rfl (by kernel_rfl) (by omega) rfl rfl (by kernel_rfl)) rfl (fun D u w v h => by simpa [updB, upd] using h) (fun D u ρ w kn => by
                  have e0 := kn.own 3 (c := .pointer (some ⟨xb, 0, none⟩)) (by kernel_rfl) ea3
                  simp [execOp, kn.rho.con, e0, go_sem])
              · exact gd_gen (by kernel_rfl) (Want.some_ (g := 12) (v := true) rfl rfl (by kernel_rfl) (by omega) rfl rfl (by kernel_rfl)) rfl (fun D u w v h => by simpa [updB, upd] using h) (fun D u ρ w kn => by
                  have e0 := kn.con 18 30 (c := .pointer (some ⟨xb, 5, none⟩)) (by kernel_rfl) (by omega) (by kernel_rfl) rfl
                  have f0 := (show w.cell? ⟨xb, 5, none⟩ = some (.int .i64 x.time) from (BR.out.grown kn.ext (by simp)).cell 5)
                  simp [execOp, kn.rho.con, e0, f0, go_sem])
              · exact gd_gen (by kernel_rfl) (Want.some_ (g := 12) (v := true) rfl rfl (by kernel_rfl) (by omega) rfl rfl (by kernel_rfl)) rfl (fun D u w v h => by simpa [updB, upd] using h) (fun D u ρ w kn => by
                  have e0 := kn.con 17 29 (c := .int .i64 (y.beg)) (by kernel_rfl) (by omega) (by kernel_rfl) rfl
                  have e1 := kn.con 19 31 (c := .int .i64 (x.time)) (by kernel_rfl) (by omega) (by kernel_rfl) rfl
                  simp [execOp, kn.rho.con, e0, e1, go_sem, h1])
              · exact gd_gen (by kernel_rfl) (Want.none_ rfl) rfl (fun D u w v h => by simpa [updB, upd] using h) (fun D u ρ w kn => by
                  have e0 := kn.con 12 24 (c := .bool true) (by kernel_rfl) (by omega) (by kernel_rfl) rfl
                  have e1 := kn.con 20 32 (c := .bool false) (by kernel_rfl) (by omega) (by kernel_rfl) rfl
                  simp [execOp, kn.rho.con, e0, e1, go_sem])
              · exact gd_gen (by kernel_rfl) (Want.none_ rfl) rfl (fun D u w v h => by simpa [updB, upd] using h) (fun D u ρ w kn => by
                  have e0 := kn.con 21 33 (c := .bool false) (by kernel_rfl) (by omega) (by kernel_rfl) rfl
                  simp [execOp, kn.rho.con, e0, go_sem])
              · exact gd_off (by kernel_rfl) (Want.some_ (g := 22) (v := false) rfl rfl (by kernel_rfl) (by omega) rfl rfl (by kernel_rfl)) (.inr rfl) (fun D u w v h => by simpa [updB, upd] using h)
              · exact gd_off (by kernel_rfl) (Want.some_ (g := 22) (v := false) rfl rfl (by kernel_rfl) (by omega) rfl rfl (by kernel_rfl)) (.inr rfl) (fun D u w v h => by simpa [updB, upd] using h)
              · exact gd_off (by kernel_rfl) (Want.some_ (g := 22) (v := false) rfl rfl (by kernel_rfl) (by omega) rfl rfl (by kernel_rfl)) (.inr rfl) (fun D u w v h => by simpa [updB, upd] using h)
              · exact gd_off (by kernel_rfl) (Want.some_ (g := 22) (v := false) rfl rfl (by kernel_rfl) (by omega) rfl rfl (by kernel_rfl)) (.inr rfl) (fun D u w v h => by simpa [updB, upd] using h)
              · exact gd_off (by kernel_rfl) (Want.some_ (g := 22) (v := false) rfl rfl (by kernel_rfl) (by omega) rfl rfl (by kernel_rfl)) (.inr rfl) (fun D u w v h => by simpa [updB, upd] using h)
              · exact gd_off (by kernel_rfl) (Want.some_ (g := 22) (v := false) rfl rfl (by kernel_rfl) (by omega) rfl rfl (by kernel_rfl)) (.inr rfl) (fun D u w v h => by simpa [updB, upd] using h)
              · exact gd_off (by kernel_rfl) (Want.some_ (g := 22) (v := false) rfl rfl (by kernel_rfl) (by omega) rfl rfl (by kernel_rfl)) (.inr rfl) (fun D u w v h => by simpa [updB, upd] using h)
              · exact gd_off (by kernel_rfl) (Want.some_ (g := 22) (v := false) rfl rfl (by kernel_rfl) (by omega) rfl rfl (by kernel_rfl)) (.inr rfl) (fun D u w v h => by simpa [updB, upd] using h)
              · exact gd_gen (by kernel_rfl) (Want.none_ rfl) rfl (fun D u w v h => by simpa [updB, upd] using h) (fun D u ρ w kn => by
                  have e0 := kn.con 22 34 (c := .bool false) (by kernel_rfl) (by omega) (by kernel_rfl) rfl
                  have e1 := kn.con 30 42 (c := undef) (by kernel_rfl) (by omega) (by kernel_rfl) rfl
                  simp [execOp, kn.rho.con, e0, e1, go_sem])
            · intro D u w9 hJ hD
              simp only [List.take_succ_cons, List.take_zero, List.drop_succ_cons, List.drop_zero, putAll]
              have hcn := hJ.1
              have x1 := hJ.2
              have e31 : u 31 = .bool false := hcn 31 _ rfl (hD 31 (by omega))
              rw [e31]
              have G9 := Lib.hid x1
              clear hJ hcn x1 e31 hD
              go_simp
              go_wp2_with fail
              go_meet
              exact ⟨by rw [HE.out], G9.out⟩
      case rest =>
        obtain ⟨rfl, hg⟩ := hcut
        have G2 := Lib.hid (only_trans G.out hg)
        clear hg KA
        cases hb with
        | true =>
          have HF : Hid (heldB hs x = true) := Lib.hid (by rw [HNX.out]; rfl)
          go_wp2_with fail
          go_ret
          exact ⟨by rw [HF.out]; rfl, only_trans G1.out G2.out⟩
        | false =>
          have HF : Hid (heldB hs x = heldB (hs.drop (k + 1)) x) := Lib.hid (by rw [HNX.out]; rfl)
          go_wp2_with fail
          go_roundw
          case rel => exact ⟨k + 1, by go_num, by omega, HF.out, G2.out⟩
          case measure => simp [intOf]; omega
    · have i1 : ¬ ((k : Int) < (hs.length : Int)) := by omega
      have HF : Hid (heldB hs x = false) := Lib.hid (by rw [HB.out, List.drop_eq_nil_of_le (by omega)]; rfl)
      go_wp2_with fail
      go_ret
      exact ⟨by rw [HF.out]; rfl, only_trans G1.out G.out⟩
end Go.Proofs.Ytiogpomgpknjlaa
