/- Level of the reference of chapter 31. No condition. -/
import Derived.Test.YtphglalphejppaaMLev
import Derived.Test.YtphglalphejppaaGenC
import Derived.Deep.RegionWith
import Derived.StillTailTactics
import Derived.Deep.DeepCutAuto
namespace Go.Proofs.Ytphglalphejppaa
open Go.RowKit
set_option linter.unusedVariables false
set_option linter.unusedSimpArgs false

def RetExt (v : Value) (w : World) (e : Ending) (w' : World) : Prop := e = .returned v ∧ w.grownBy w' none
theorem find_none {w w' : World} {ss : List SegD} {id : Int} {e : Ending} (hF : segF ss id = none) (h : FindPost w ss id e w') : RetExt (.tuple #[.agg #[.int .i64 0, .int .i64 0, .int .i64 0, .int .i64 0, .int .i64 0, .int .i64 0, .int .i64 0], .bool false]) w e w' := by
  obtain ⟨h1, ⟨_, h2⟩ | ⟨s, h2, _⟩⟩ := h
  · exact ⟨h2, h1⟩
  · rw [hF] at h2; cases h2
theorem find_some {w w' : World} {ss : List SegD} {id : Int} {s : SegD} {e : Ending} (hF : segF ss id = some s) (h : FindPost w ss id e w') : RetExt (.tuple #[.agg #[.int .i64 s.id, .int .i64 s.level, .int .i64 s.tier, .int .i64 s.count, .int .i64 s.min, .int .i64 s.max, .int .i64 s.size], .bool true]) w e w' := by
  obtain ⟨h1, ⟨h2, _⟩ | ⟨t, h2, h3⟩⟩ := h
  · rw [hF] at h2; cases h2
  · rw [hF] at h2; injection h2 with h2; rw [← h2] at h3; exact ⟨h3, h1⟩
theorem ncell {W W' : World} (hg : W.grownBy W' none) : (∀ b o, b < W.heap.size → W'.cell? ⟨b, o, none⟩ = W.cell? ⟨b, o, none⟩) ∧ (∀ b o, b < W.heap.size → W'.frozen? ⟨b, o, none⟩ = W.frozen? ⟨b, o, none⟩) :=
  ⟨fun b o hb => World.cell?_of_block (w := W) (a := ⟨b, o, none⟩) (hg.block b hb (by simp)), fun b o hb => World.frozen?_of_block (w := W) (a := ⟨b, o, none⟩) (hg.block b hb (by simp))⟩
theorem sets7 {a w : World} {b : Nat} (h : a.grownBy w none) (hb : a.heap.size ≤ b) (v0 v1 v2 v3 v4 v5 v6 : Value) : a.grownBy (((((((w.setCell ⟨b, 0, none⟩ v0).setCell ⟨b, 1, none⟩ v1).setCell ⟨b, 2, none⟩ v2).setCell ⟨b, 3, none⟩ v3).setCell ⟨b, 4, none⟩ v4).setCell ⟨b, 5, none⟩ v5).setCell ⟨b, 6, none⟩ v6) none := by
  refine only_fresh h (g := b) ?_ hb
  exact only_setCell (only_setCell (only_setCell (only_setCell (only_setCell (only_setCell (only_setCell (only_refl _ _) (p := ⟨b, 0, none⟩) (.inl rfl) v0) (p := ⟨b, 1, none⟩) (.inl rfl) v1) (p := ⟨b, 2, none⟩) (.inl rfl) v2) (p := ⟨b, 3, none⟩) (.inl rfl) v3) (p := ⟨b, 4, none⟩) (.inl rfl) v4) (p := ⟨b, 5, none⟩) (.inl rfl) v5) (p := ⟨b, 6, none⟩) (.inl rfl) v6
theorem load_mani (w : World) (mb : Nat) {num nid jn : Int} {A B C E : Option Addr} {n c nb d nc f ne h : Nat} (hB : Blk w mb 52 #[.int .i64 num, .int .i64 nid, .int .i64 jn, .slice A n c, .slice B nb d, .slice C nc f, .slice E ne h]) :
    (Instr.loadAt 52 (.pointer (some ⟨mb, 0, none⟩))).run Try.prog w = .ok (.agg #[.int .i64 num, .int .i64 nid, .int .i64 jn, .slice A n c, .slice B nb d, .slice C nc f, .slice E ne h]) w := by
  have b0 := hB.cell 0
  have b1 := hB.cell 1
  have b2 := hB.cell 2
  have b3 := hB.cell 3
  have b4 := hB.cell 4
  have b5 := hB.cell 5
  have b6 := hB.cell 6
  simp at b0 b1 b2 b3 b4 b5 b6
  have hu := Try.underlying52
  simp [go_sem, b0, b1, b2, b3, b4, b5, b6]
theorem run_load (ρ : Operand → Value) (w : World) {o : Oper} {t : TypeId} {x : Nat} {p c : Value} (ho : o.op = .load t (.tmp x)) (hx : ρ (.tmp x) = p) (h : (Instr.loadAt t p).run Try.prog w = .ok c w) : (execOp ρ o).run Try.prog w = .ok (.value c) w := by
  simp only [execOp, ho, hx, Sem.run_bind, h, Result.andThen_ok, Sem.run_pure]
theorem store_seg (w : World) (g : Nat) (a0 a1 a2 a3 a4 a5 a6 : Int) {t : TypeId} (h : Blk w g t #[.int .i64 0, .int .i64 0, .int .i64 0, .int .i64 0, .int .i64 0, .int .i64 0, .int .i64 0]) :
    ∃ w', (Instr.storeAt 29 (.pointer (some ⟨g, 0, none⟩)) (.agg #[.int .i64 a0, .int .i64 a1, .int .i64 a2, .int .i64 a3, .int .i64 a4, .int .i64 a5, .int .i64 a6])).run Try.prog w = .ok () w' ∧ Blk w' g t #[.int .i64 a0, .int .i64 a1, .int .i64 a2, .int .i64 a3, .int .i64 a4, .int .i64 a5, .int .i64 a6] ∧ w.grownBy w' (some g) := by
  have q0 := h.cell 0
  have q1 := h.cell 1
  have q2 := h.cell 2
  have q3 := h.cell 3
  have q4 := h.cell 4
  have q5 := h.cell 5
  have q6 := h.cell 6
  have p0 := h.frozen 0
  have p1 := h.frozen 1
  have p2 := h.frozen 2
  have p3 := h.frozen 3
  have p4 := h.frozen 4
  have p5 := h.frozen 5
  have p6 := h.frozen 6
  simp at q0 q1 q2 q3 q4 q5 q6
  have hu := Try.underlying29
  refine ⟨((((((w.setCell ⟨g, 0, none⟩ (.int .i64 a0)).setCell ⟨g, 1, none⟩ (.int .i64 a1)).setCell ⟨g, 2, none⟩ (.int .i64 a2)).setCell ⟨g, 3, none⟩ (.int .i64 a3)).setCell ⟨g, 4, none⟩ (.int .i64 a4)).setCell ⟨g, 5, none⟩ (.int .i64 a5)).setCell ⟨g, 6, none⟩ (.int .i64 a6), ?_, ?_, ?_⟩
  · simp [go_sem, q0, q1, q2, q3, q4, q5, q6, p0, p1, p2, p3, p4, p5, p6]
  · have := ((((((h.set_ 0 (.int .i64 a0)).set_ 1 (.int .i64 a1)).set_ 2 (.int .i64 a2)).set_ 3 (.int .i64 a3)).set_ 4 (.int .i64 a4)).set_ 5 (.int .i64 a5)).set_ 6 (.int .i64 a6)
    simpa using this
  · exact only_setCell (only_setCell (only_setCell (only_setCell (only_setCell (only_setCell (only_setCell (only_refl _ _) (p := ⟨g, 0, none⟩) (.inl rfl) _) (p := ⟨g, 1, none⟩) (.inl rfl) _) (p := ⟨g, 2, none⟩) (.inl rfl) _) (p := ⟨g, 3, none⟩) (.inl rfl) _) (p := ⟨g, 4, none⟩) (.inl rfl) _) (p := ⟨g, 5, none⟩) (.inl rfl) _) (p := ⟨g, 6, none⟩) (.inl rfl) _
theorem alloc_seg (ρ : Operand → Value) (w : World) {o : Oper} (ho : o.op = .alloc 29 := by rfl) : (execOp ρ o).run Try.prog w = .ok (.value (.pointer (some ⟨w.heap.size, 0, none⟩))) (w.alloc (.cells #[.int .i64 0, .int .i64 0, .int .i64 0, .int .i64 0, .int .i64 0, .int .i64 0, .int .i64 0] 29)) := by
  simp only [execOp, ho]
  kernel_rfl
set_option maxHeartbeats 8000000 in
set_option maxRecDepth 100000 in
theorem rlevel_any {S S' : Nat → Prop} (num nid jn : Int) (A : Option Addr) (ss : List SegD) (c : Nat) (B : Option Addr) (nb d : Nat) (C : Option Addr) (nc f : Nat) (E : Option Addr) (ne h : Nat) (I : Option Addr) (ids : List Int) (ci : Nat) (w : World) (hr : Rd S w A (ss.flatMap SegD.cells)) (hi : Rd S' w I (ids.map (.int .i64))) (hl : ss.length ≤ 100000) (hil : ids.length ≤ 100000) (hb : ∀ s ∈ ss, 0 ≤ s.level ∧ s.level ≤ 1000) :
    Calls Try.prog 25 #[.agg #[.int .i64 num, .int .i64 nid, .int .i64 jn, .slice A ss.length c, .slice B nb d, .slice C nc f, .slice E ne h], .slice I ids.length ci] w (LevPost (lvl ss ids) w) := by
  obtain ⟨W1, hW1⟩ : ∃ W1, W1 = w.alloc (.cells #[.int .i64 num, .int .i64 nid, .int .i64 jn, .slice A ss.length c, .slice B nb d, .slice C nc f, .slice E ne h] 52) := ⟨_, rfl⟩
  have G1 : Hid (w.grownBy W1 none) := Lib.hid (by rw [hW1]; exact only_alloc (only_refl _ _) _)
  obtain ⟨mb, hmb⟩ : ∃ b, b = w.heap.size := ⟨_, rfl⟩
  have B1 : Hid (Blk W1 mb 52 #[.int .i64 num, .int .i64 nid, .int .i64 jn, .slice A ss.length c, .slice B nb d, .slice C nc f, .slice E ne h]) := Lib.hid (by rw [hW1, hmb]; exact Blk.new w _ _)
  have HR := Lib.hid (hr.grown G1.out (by simp))
  have HI := Lib.hid (hi.grown G1.out (by simp))
  have HB := Lib.hid hb
  have HW := Lib.hid hW1.symm
  have HMB := Lib.hid hmb
  clear hW1 hmb hr hi hb
  go_enter Try.func25, Try.ntmps25
  go_upto_region 1 with fail
  rw [HW.out, ← HMB.out]
  clear HW
  go_wp2_with fail
  go_loopw [5, 6] (fun vl vi wr => ∃ k : Nat, vi = .int .i64 k ∧ k ≤ ids.length ∧ vl = .int .i64 (lvl ss (ids.take k)) ∧ W1.grownBy wr none) (fun _ vi _ => ids.length - (intOf vi).toNat)
  case atStart => exact ⟨0, rfl, Nat.zero_le _, rfl, only_refl _ _⟩
  case round =>
    obtain ⟨k, rfl, hk, rfl, hG⟩ := hrel
    have G := Lib.hid hG
    have hbd := lvl_bd HB.out (ids.take k)
    obtain ⟨L, hL⟩ : ∃ L, L = lvl ss (ids.take k) := ⟨_, rfl⟩
    rw [← hL] at hbd ⊢
    have HLV := Lib.hid hL
    clear hG hL
    by_cases hkl : k < ids.length
    · obtain ⟨b, o, x, rfl, hc, hx⟩ := (HI.out.grown G.out (by simp)).int_at hkl
      have HX : Hid (ids.take (k + 1) = ids.take k ++ [x]) := Lib.hid (by rw [take_snoc ids 0 hkl, hx.out])
      have hB := B1.out.grown G.out (by simp)
      have b0 := hB.cell 0
      have b1 := hB.cell 1
      have b2 := hB.cell 2
      have b3 := hB.cell 3
      have b4 := hB.cell 4
      have b5 := hB.cell 5
      have b6 := hB.cell 6
      simp at b0 b1 b2 b3 b4 b5 b6
      have KF : Hid (∀ W, W1.grownBy W none → Calls Try.prog 28 #[.agg #[.int .i64 num, .int .i64 nid, .int .i64 jn, .slice A ss.length c, .slice B nb d, .slice C nc f, .slice E ne h], .int .i64 x] W (FindPost W ss x)) := Lib.hid (fun W hW => rfind_any num nid jn A ss c B nb d C nc f E ne h x W (HR.out.grown hW (by simp)) hl)
      have hlm : mb < wr.heap.size := hB.lt
      have hlm2 : mb ≠ wr.heap.size := by omega
      have hbo : b < wr.heap.size := by
        obtain ⟨b', o', e', -, hb', -⟩ := (HI.out.grown G.out (by simp)) (by simp; omega)
        injection e' with e'; injection e' with e1 e2; subst e1; exact hb'
      have hbo2 : b ≠ wr.heap.size := by omega
      have i1 : (k : Int) < (ids.length : Int) := by omega
      have i2 : (0 : Int) ≤ (k : Int) := by omega
      clear hB hx
      have HBM := Lib.hid (B1.out.grown G.out (by simp))
      have hlvb := Lib.hid HB.out
      cases hF : segF ss x with
      | none =>
        have KX : Hid (∀ W, W1.grownBy W none → Calls Try.prog 28 #[.agg #[.int .i64 num, .int .i64 nid, .int .i64 jn, .slice A ss.length c, .slice B nb d, .slice C nc f, .slice E ne h], .int .i64 x] W (RetExt (.tuple #[.agg #[.int .i64 0, .int .i64 0, .int .i64 0, .int .i64 0, .int .i64 0, .int .i64 0, .int .i64 0], .bool false]) W)) := Lib.hid (fun W hW => (KF.out W hW).mono fun e w' he => find_none hF he)
        have HF : Hid (lvl ss (ids.take (k + 1)) = L) := Lib.hid (by rw [HX.out, lvl_snoc, ← HLV.out]; unfold lvl1; rw [hF])
        clear hF KF
        obtain ⟨W0, rfl⟩ : ∃ W0 : World, W0 = wr := ⟨_, rfl⟩
        go_upto_region 5 with fail
        refine wp_region_gen 11 (JC [some (.agg #[.int .i64 num, .int .i64 nid, .int .i64 jn, .slice A ss.length c, .slice B nb d, .slice C nc f, .slice E ne h]), some (.slice (some ⟨b, o, none⟩) ids.length ci), some (.int .i64 ((k : Int))), some (.pointer (some ⟨b, o + k, none⟩)), some (.int .i64 (x)), some (.tuple #[.agg #[.int .i64 0, .int .i64 0, .int .i64 0, .int .i64 0, .int .i64 0, .int .i64 0, .int .i64 0], .bool false]), some (.tuple #[.agg #[.int .i64 0, .int .i64 0, .int .i64 0, .int .i64 0, .int .i64 0, .int .i64 0, .int .i64 0], .bool false]), some (.agg #[.int .i64 0, .int .i64 0, .int .i64 0, .int .i64 0, .int .i64 0, .int .i64 0, .int .i64 0]), some (.bool false), none, none] (fun D u wx => W0.grownBy wx none ∧ (D 9 = true → ∃ gb, u 9 = .pointer (some ⟨gb, 0, none⟩) ∧ W0.heap.size ≤ gb ∧ Blk wx gb 29 (if D 10 = true then #[.int .i64 0, .int .i64 0, .int .i64 0, .int .i64 0, .int .i64 0, .int .i64 0, .int .i64 0] else #[.int .i64 0, .int .i64 0, .int .i64 0, .int .i64 0, .int .i64 0, .int .i64 0, .int .i64 0])) ∧ (D 10 = true → D 9 = true))) (by kernel_rfl) (by kernel_rfl) ?_ ?_ ?_
        · intro u
          exact ⟨(fun j c _ h => by cases h), ⟨only_drew (only_refl _ _), (fun h => by cases h), fun h => by cases h⟩⟩
        · intro AA hA
          have hasz : AA.tmps.size = 31 := by rw [hA]; kernel_rfl
          have ea1 : AA.eval (.tmp 1) = .slice (some ⟨b, o, none⟩) ids.length ci := by rw [hA]; kernel_rfl
          have ea2 : AA.eval (.tmp 2) = .pointer (some ⟨mb, 0, none⟩) := by rw [hA]; kernel_rfl
          have ea6 : AA.eval (.tmp 6) = .int .i64 ((k : Int)) := by rw [hA]; kernel_rfl
          clear hA
          simp only [List.take_succ_cons, List.take_zero]
          refine .cons ?_ (.cons ?_ (.cons ?_ (.cons ?_ (.cons ?_ (.cons ?_ (.cons ?_ (.cons ?_ (.cons ?_ (.cons ?_ (.cons ?_ (.nil)))))))))))
          · exact gd_gen (by kernel_rfl) (Want.none_ rfl) rfl (fun D u w v h => by simpa [updB, upd] using h) (fun D u ρ w kn => by
              have e0 := kn.own 2 (c := .pointer (some ⟨mb, 0, none⟩)) (by kernel_rfl) ea2
              exact run_load ρ w rfl e0 (load_mani w mb (HBM.out.grown kn.ext.1 (by simp))))
          · exact gd_gen (by kernel_rfl) (Want.none_ rfl) rfl (fun D u w v h => by simpa [updB, upd] using h) (fun D u ρ w kn => by
              have e0 := kn.own 1 (c := .slice (some ⟨b, o, none⟩) ids.length ci) (by kernel_rfl) ea1
              simp [execOp, kn.rho.con, e0, go_sem])
          · exact gd_gen (by kernel_rfl) (Want.none_ rfl) rfl (fun D u w v h => by simpa [updB, upd] using h) (fun D u ρ w kn => by
              have e0 := kn.own 6 (c := .int .i64 ((k : Int))) (by kernel_rfl) ea6
              simp [execOp, kn.rho.con, e0, go_sem])
          · exact gd_gen (by kernel_rfl) (Want.none_ rfl) rfl (fun D u w v h => by simpa [updB, upd] using h) (fun D u ρ w kn => by
              have e0 := kn.con 1 17 (c := .slice (some ⟨b, o, none⟩) ids.length ci) (by kernel_rfl) (by omega) (by kernel_rfl) rfl
              have e1 := kn.con 2 18 (c := .int .i64 ((k : Int))) (by kernel_rfl) (by omega) (by kernel_rfl) rfl
              simp [execOp, kn.rho.con, e0, e1, go_sem, hkl])
          · exact gd_gen (by kernel_rfl) (Want.none_ rfl) rfl (fun D u w v h => by simpa [updB, upd] using h) (fun D u ρ w kn => by
              have e0 := kn.con 3 19 (c := .pointer (some ⟨b, o + k, none⟩)) (by kernel_rfl) (by omega) (by kernel_rfl) rfl
              have f0 := ((World.cell?_of_block (w := W0) (a := ⟨b, o + k, none⟩) (kn.ext.1.block b hbo (by simp))).trans hc)
              simp [execOp, kn.rho.con, e0, f0, go_sem])
          · refine gd_call (by kernel_rfl) (Want.none_ rfl) 28 (fun D u ρ wx kn hD => ?_)
            have e0 := kn.con 0 16 (c := .agg #[.int .i64 num, .int .i64 nid, .int .i64 jn, .slice A ss.length c, .slice B nb d, .slice C nc f, .slice E ne h]) (by kernel_rfl) (by omega) (by kernel_rfl) rfl
            have e1 := kn.con 4 20 (c := .int .i64 x) (by kernel_rfl) (by omega) (by kernel_rfl) rfl
            obtain ⟨x1, x2, x3⟩ := kn.ext
            refine ⟨#[.agg #[.int .i64 num, .int .i64 nid, .int .i64 jn, .slice A ss.length c, .slice B nb d, .slice C nc f, .slice E ne h], .int .i64 x], ?_, (KX.out wx (only_trans G.out x1)).mono ?_⟩
            · simp only [execOp, resolve, Deferred.ofValue, List.map_toArray, List.map_cons, List.map_nil, e0, e1, kn.rho.con, kn.rho.fn]
              simp [go_sem]
            · rintro e w' ⟨rfl, hg⟩
              exact ⟨_, rfl, (fun c h => by injection h with h; injection h), only_trans x1 hg, (fun h => by rw [updB_ne D (show (9 : Nat) ≠ 5 by omega)] at h; rw [upd_ne u _ (show (9 : Nat) ≠ 5 by omega)]; obtain ⟨gb, q1, q2, q3⟩ := x2 h; rw [updB_ne D (show (10 : Nat) ≠ 5 by omega)]; exact ⟨gb, q1, q2, q3.grown hg (by simp)⟩), (fun h => by rw [updB_ne D (show (10 : Nat) ≠ 5 by omega)] at h; rw [updB_ne D (show (9 : Nat) ≠ 5 by omega)]; exact x3 h)⟩
          · exact gd_gen (by kernel_rfl) (Want.none_ rfl) rfl (fun D u w v h => by simpa [updB, upd] using h) (fun D u ρ w kn => by
              have e0 := kn.con 5 21 (c := .tuple #[.agg #[.int .i64 0, .int .i64 0, .int .i64 0, .int .i64 0, .int .i64 0, .int .i64 0, .int .i64 0], .bool false]) (by kernel_rfl) (by omega) (by kernel_rfl) rfl
              simp [execOp, kn.rho.con, e0, go_sem])
          · exact gd_gen (by kernel_rfl) (Want.none_ rfl) rfl (fun D u w v h => by simpa [updB, upd] using h) (fun D u ρ w kn => by
              have e0 := kn.con 6 15 (c := .tuple #[.agg #[.int .i64 0, .int .i64 0, .int .i64 0, .int .i64 0, .int .i64 0, .int .i64 0, .int .i64 0], .bool false]) (by kernel_rfl) (by omega) (by kernel_rfl) rfl
              simp [execOp, kn.rho.con, e0, go_sem])
          · exact gd_gen (by kernel_rfl) (Want.none_ rfl) rfl (fun D u w v h => by simpa [updB, upd] using h) (fun D u ρ w kn => by
              have e0 := kn.con 6 15 (c := .tuple #[.agg #[.int .i64 0, .int .i64 0, .int .i64 0, .int .i64 0, .int .i64 0, .int .i64 0, .int .i64 0], .bool false]) (by kernel_rfl) (by omega) (by kernel_rfl) rfl
              simp [execOp, kn.rho.con, e0, go_sem])
          · refine gd_eff (by kernel_rfl) (Want.none_ rfl) (fun D u ρ wx kn hD => ?_)
            obtain ⟨x1, x2, x3⟩ := kn.ext
            have h10 : D 10 = false := by cases h : D 10 with | false => rfl | true => have := x3 h; rw [hD] at this; cases this
            exact ⟨.pointer (some ⟨wx.heap.size, 0, none⟩), wx.alloc (.cells #[.int .i64 0, .int .i64 0, .int .i64 0, .int .i64 0, .int .i64 0, .int .i64 0, .int .i64 0] 29), alloc_seg ρ wx, (fun c h => by cases h), only_alloc x1 _, (fun _ => ⟨wx.heap.size, upd_at _ _ _, x1.size, by rw [updB_ne D (show (10 : Nat) ≠ 9 by omega), h10, if_neg (by simp)]; exact Blk.new _ _ _⟩), (fun h => by rw [updB_ne D (show (10 : Nat) ≠ 9 by omega), h10] at h; cases h)⟩
          · refine gd_skip (by kernel_rfl) (Want.none_ rfl) rfl (fun D u ρ wx kn hD => ?_)
            have e0 := kn.slot 9 7 (by kernel_rfl) (by omega)
            have e1 := kn.con 7 22 (c := .agg #[.int .i64 0, .int .i64 0, .int .i64 0, .int .i64 0, .int .i64 0, .int .i64 0, .int .i64 0]) (by kernel_rfl) (by omega) (by kernel_rfl) rfl
            have d9 := kn.dep 9 (by kernel_rfl)
            obtain ⟨x1, x2, x3⟩ := kn.ext
            obtain ⟨gb, q1, q2, q3⟩ := x2 d9
            rw [hD, if_neg (by simp)] at q3
            obtain ⟨w', z1, z2, z3⟩ := store_seg wx gb (0) (0) (0) (0) (0) (0) (0) q3
            rw [q1] at e0
            exact ⟨w', by simp only [execOp, e0, e1, Sem.run_bind, z1, Result.andThen_ok, Sem.run_pure], only_fresh x1 z3 q2, (fun _ => ⟨gb, by rw [upd_ne u _ (show (9 : Nat) ≠ 10 by omega)]; exact q1, q2, by rw [updB_at, if_pos rfl]; exact z2⟩), (fun _ => by rw [updB_ne D (show (9 : Nat) ≠ 10 by omega)]; exact d9)⟩
        · intro D u w9 hJ hD
          obtain ⟨hcn, x1, x2, -⟩ := hJ
          obtain ⟨gb, hu, hgb, hB⟩ := x2 (hD 9 (by omega))
          rw [hD 10 (by omega), if_pos rfl] at hB
          have e7 : u 7 = .agg #[.int .i64 0, .int .i64 0, .int .i64 0, .int .i64 0, .int .i64 0, .int .i64 0, .int .i64 0] := hcn 7 _ rfl (hD 7 (by omega))
          have e8 : u 8 = .bool false := hcn 8 _ rfl (hD 8 (by omega))
          simp only [List.take_succ_cons, List.take_zero, List.drop_succ_cons, List.drop_zero, putAll]
          rw [hu, e7, e8]
          have q0 := hB.cell 0
          have p0 := hB.frozen 0
          have q1 := hB.cell 1
          have p1 := hB.frozen 1
          have q2 := hB.cell 2
          have p2 := hB.frozen 2
          have q3 := hB.cell 3
          have p3 := hB.frozen 3
          have q4 := hB.cell 4
          have p4 := hB.frozen 4
          have q5 := hB.cell 5
          have p5 := hB.frozen 5
          have q6 := hB.cell 6
          have p6 := hB.frozen 6
          simp at q0 q1 q2 q3 q4 q5 q6
          have G9 := Lib.hid (only_trans G.out x1)
          have hw1 : W1.heap.size ≤ gb := by have := G.out.size; omega
          clear hcn x1 x2 hu e7 e8 hD hB b0 b1 b2 b3 b4 b5 b6 hc
          go_wp2_with fail
          go_roundw
          case rel => exact ⟨k + 1, by go_num, by omega, by rw [HF.out], G9.out⟩
          case measure => simp [intOf]; omega
      | some s =>
        have KX : Hid (∀ W, W1.grownBy W none → Calls Try.prog 28 #[.agg #[.int .i64 num, .int .i64 nid, .int .i64 jn, .slice A ss.length c, .slice B nb d, .slice C nc f, .slice E ne h], .int .i64 x] W (RetExt (.tuple #[.agg #[.int .i64 s.id, .int .i64 s.level, .int .i64 s.tier, .int .i64 s.count, .int .i64 s.min, .int .i64 s.max, .int .i64 s.size], .bool true]) W)) := Lib.hid (fun W hW => (KF.out W hW).mono fun e w' he => find_some hF he)
        have hsl := hlvb.out s (segF_mem hF)
        have HF : Hid (lvl ss (ids.take (k + 1)) = if L < s.level + 1 then s.level + 1 else L) := Lib.hid (by rw [HX.out, lvl_snoc, ← HLV.out]; unfold lvl1; rw [hF])
        clear hF KF
        obtain ⟨W0, rfl⟩ : ∃ W0 : World, W0 = wr := ⟨_, rfl⟩
        go_upto_region 5 with fail
        refine wp_region_gen 11 (JC [some (.agg #[.int .i64 num, .int .i64 nid, .int .i64 jn, .slice A ss.length c, .slice B nb d, .slice C nc f, .slice E ne h]), some (.slice (some ⟨b, o, none⟩) ids.length ci), some (.int .i64 ((k : Int))), some (.pointer (some ⟨b, o + k, none⟩)), some (.int .i64 (x)), some (.tuple #[.agg #[.int .i64 s.id, .int .i64 s.level, .int .i64 s.tier, .int .i64 s.count, .int .i64 s.min, .int .i64 s.max, .int .i64 s.size], .bool true]), some (.tuple #[.agg #[.int .i64 s.id, .int .i64 s.level, .int .i64 s.tier, .int .i64 s.count, .int .i64 s.min, .int .i64 s.max, .int .i64 s.size], .bool true]), some (.agg #[.int .i64 s.id, .int .i64 s.level, .int .i64 s.tier, .int .i64 s.count, .int .i64 s.min, .int .i64 s.max, .int .i64 s.size]), some (.bool true), none, none] (fun D u wx => W0.grownBy wx none ∧ (D 9 = true → ∃ gb, u 9 = .pointer (some ⟨gb, 0, none⟩) ∧ W0.heap.size ≤ gb ∧ Blk wx gb 29 (if D 10 = true then #[.int .i64 s.id, .int .i64 s.level, .int .i64 s.tier, .int .i64 s.count, .int .i64 s.min, .int .i64 s.max, .int .i64 s.size] else #[.int .i64 0, .int .i64 0, .int .i64 0, .int .i64 0, .int .i64 0, .int .i64 0, .int .i64 0])) ∧ (D 10 = true → D 9 = true))) (by kernel_rfl) (by kernel_rfl) ?_ ?_ ?_
        · intro u
          exact ⟨(fun j c _ h => by cases h), ⟨only_drew (only_refl _ _), (fun h => by cases h), fun h => by cases h⟩⟩
        · intro AA hA
          have hasz : AA.tmps.size = 31 := by rw [hA]; kernel_rfl
          have ea1 : AA.eval (.tmp 1) = .slice (some ⟨b, o, none⟩) ids.length ci := by rw [hA]; kernel_rfl
          have ea2 : AA.eval (.tmp 2) = .pointer (some ⟨mb, 0, none⟩) := by rw [hA]; kernel_rfl
          have ea6 : AA.eval (.tmp 6) = .int .i64 ((k : Int)) := by rw [hA]; kernel_rfl
          clear hA
          simp only [List.take_succ_cons, List.take_zero]
          refine .cons ?_ (.cons ?_ (.cons ?_ (.cons ?_ (.cons ?_ (.cons ?_ (.cons ?_ (.cons ?_ (.cons ?_ (.cons ?_ (.cons ?_ (.nil)))))))))))
          · exact gd_gen (by kernel_rfl) (Want.none_ rfl) rfl (fun D u w v h => by simpa [updB, upd] using h) (fun D u ρ w kn => by
              have e0 := kn.own 2 (c := .pointer (some ⟨mb, 0, none⟩)) (by kernel_rfl) ea2
              exact run_load ρ w rfl e0 (load_mani w mb (HBM.out.grown kn.ext.1 (by simp))))
          · exact gd_gen (by kernel_rfl) (Want.none_ rfl) rfl (fun D u w v h => by simpa [updB, upd] using h) (fun D u ρ w kn => by
              have e0 := kn.own 1 (c := .slice (some ⟨b, o, none⟩) ids.length ci) (by kernel_rfl) ea1
              simp [execOp, kn.rho.con, e0, go_sem])
          · exact gd_gen (by kernel_rfl) (Want.none_ rfl) rfl (fun D u w v h => by simpa [updB, upd] using h) (fun D u ρ w kn => by
              have e0 := kn.own 6 (c := .int .i64 ((k : Int))) (by kernel_rfl) ea6
              simp [execOp, kn.rho.con, e0, go_sem])
          · exact gd_gen (by kernel_rfl) (Want.none_ rfl) rfl (fun D u w v h => by simpa [updB, upd] using h) (fun D u ρ w kn => by
              have e0 := kn.con 1 17 (c := .slice (some ⟨b, o, none⟩) ids.length ci) (by kernel_rfl) (by omega) (by kernel_rfl) rfl
              have e1 := kn.con 2 18 (c := .int .i64 ((k : Int))) (by kernel_rfl) (by omega) (by kernel_rfl) rfl
              simp [execOp, kn.rho.con, e0, e1, go_sem, hkl])
          · exact gd_gen (by kernel_rfl) (Want.none_ rfl) rfl (fun D u w v h => by simpa [updB, upd] using h) (fun D u ρ w kn => by
              have e0 := kn.con 3 19 (c := .pointer (some ⟨b, o + k, none⟩)) (by kernel_rfl) (by omega) (by kernel_rfl) rfl
              have f0 := ((World.cell?_of_block (w := W0) (a := ⟨b, o + k, none⟩) (kn.ext.1.block b hbo (by simp))).trans hc)
              simp [execOp, kn.rho.con, e0, f0, go_sem])
          · refine gd_call (by kernel_rfl) (Want.none_ rfl) 28 (fun D u ρ wx kn hD => ?_)
            have e0 := kn.con 0 16 (c := .agg #[.int .i64 num, .int .i64 nid, .int .i64 jn, .slice A ss.length c, .slice B nb d, .slice C nc f, .slice E ne h]) (by kernel_rfl) (by omega) (by kernel_rfl) rfl
            have e1 := kn.con 4 20 (c := .int .i64 x) (by kernel_rfl) (by omega) (by kernel_rfl) rfl
            obtain ⟨x1, x2, x3⟩ := kn.ext
            refine ⟨#[.agg #[.int .i64 num, .int .i64 nid, .int .i64 jn, .slice A ss.length c, .slice B nb d, .slice C nc f, .slice E ne h], .int .i64 x], ?_, (KX.out wx (only_trans G.out x1)).mono ?_⟩
            · simp only [execOp, resolve, Deferred.ofValue, List.map_toArray, List.map_cons, List.map_nil, e0, e1, kn.rho.con, kn.rho.fn]
              simp [go_sem]
            · rintro e w' ⟨rfl, hg⟩
              exact ⟨_, rfl, (fun c h => by injection h with h; injection h), only_trans x1 hg, (fun h => by rw [updB_ne D (show (9 : Nat) ≠ 5 by omega)] at h; rw [upd_ne u _ (show (9 : Nat) ≠ 5 by omega)]; obtain ⟨gb, q1, q2, q3⟩ := x2 h; rw [updB_ne D (show (10 : Nat) ≠ 5 by omega)]; exact ⟨gb, q1, q2, q3.grown hg (by simp)⟩), (fun h => by rw [updB_ne D (show (10 : Nat) ≠ 5 by omega)] at h; rw [updB_ne D (show (9 : Nat) ≠ 5 by omega)]; exact x3 h)⟩
          · exact gd_gen (by kernel_rfl) (Want.none_ rfl) rfl (fun D u w v h => by simpa [updB, upd] using h) (fun D u ρ w kn => by
              have e0 := kn.con 5 21 (c := .tuple #[.agg #[.int .i64 s.id, .int .i64 s.level, .int .i64 s.tier, .int .i64 s.count, .int .i64 s.min, .int .i64 s.max, .int .i64 s.size], .bool true]) (by kernel_rfl) (by omega) (by kernel_rfl) rfl
              simp [execOp, kn.rho.con, e0, go_sem])
          · exact gd_gen (by kernel_rfl) (Want.none_ rfl) rfl (fun D u w v h => by simpa [updB, upd] using h) (fun D u ρ w kn => by
              have e0 := kn.con 6 15 (c := .tuple #[.agg #[.int .i64 s.id, .int .i64 s.level, .int .i64 s.tier, .int .i64 s.count, .int .i64 s.min, .int .i64 s.max, .int .i64 s.size], .bool true]) (by kernel_rfl) (by omega) (by kernel_rfl) rfl
              simp [execOp, kn.rho.con, e0, go_sem])
          · exact gd_gen (by kernel_rfl) (Want.none_ rfl) rfl (fun D u w v h => by simpa [updB, upd] using h) (fun D u ρ w kn => by
              have e0 := kn.con 6 15 (c := .tuple #[.agg #[.int .i64 s.id, .int .i64 s.level, .int .i64 s.tier, .int .i64 s.count, .int .i64 s.min, .int .i64 s.max, .int .i64 s.size], .bool true]) (by kernel_rfl) (by omega) (by kernel_rfl) rfl
              simp [execOp, kn.rho.con, e0, go_sem])
          · refine gd_eff (by kernel_rfl) (Want.none_ rfl) (fun D u ρ wx kn hD => ?_)
            obtain ⟨x1, x2, x3⟩ := kn.ext
            have h10 : D 10 = false := by cases h : D 10 with | false => rfl | true => have := x3 h; rw [hD] at this; cases this
            exact ⟨.pointer (some ⟨wx.heap.size, 0, none⟩), wx.alloc (.cells #[.int .i64 0, .int .i64 0, .int .i64 0, .int .i64 0, .int .i64 0, .int .i64 0, .int .i64 0] 29), alloc_seg ρ wx, (fun c h => by cases h), only_alloc x1 _, (fun _ => ⟨wx.heap.size, upd_at _ _ _, x1.size, by rw [updB_ne D (show (10 : Nat) ≠ 9 by omega), h10, if_neg (by simp)]; exact Blk.new _ _ _⟩), (fun h => by rw [updB_ne D (show (10 : Nat) ≠ 9 by omega), h10] at h; cases h)⟩
          · refine gd_skip (by kernel_rfl) (Want.none_ rfl) rfl (fun D u ρ wx kn hD => ?_)
            have e0 := kn.slot 9 7 (by kernel_rfl) (by omega)
            have e1 := kn.con 7 22 (c := .agg #[.int .i64 s.id, .int .i64 s.level, .int .i64 s.tier, .int .i64 s.count, .int .i64 s.min, .int .i64 s.max, .int .i64 s.size]) (by kernel_rfl) (by omega) (by kernel_rfl) rfl
            have d9 := kn.dep 9 (by kernel_rfl)
            obtain ⟨x1, x2, x3⟩ := kn.ext
            obtain ⟨gb, q1, q2, q3⟩ := x2 d9
            rw [hD, if_neg (by simp)] at q3
            obtain ⟨w', z1, z2, z3⟩ := store_seg wx gb (s.id) (s.level) (s.tier) (s.count) (s.min) (s.max) (s.size) q3
            rw [q1] at e0
            exact ⟨w', by simp only [execOp, e0, e1, Sem.run_bind, z1, Result.andThen_ok, Sem.run_pure], only_fresh x1 z3 q2, (fun _ => ⟨gb, by rw [upd_ne u _ (show (9 : Nat) ≠ 10 by omega)]; exact q1, q2, by rw [updB_at, if_pos rfl]; exact z2⟩), (fun _ => by rw [updB_ne D (show (9 : Nat) ≠ 10 by omega)]; exact d9)⟩
        · intro D u w9 hJ hD
          obtain ⟨hcn, x1, x2, -⟩ := hJ
          obtain ⟨gb, hu, hgb, hB⟩ := x2 (hD 9 (by omega))
          rw [hD 10 (by omega), if_pos rfl] at hB
          have e7 : u 7 = .agg #[.int .i64 s.id, .int .i64 s.level, .int .i64 s.tier, .int .i64 s.count, .int .i64 s.min, .int .i64 s.max, .int .i64 s.size] := hcn 7 _ rfl (hD 7 (by omega))
          have e8 : u 8 = .bool true := hcn 8 _ rfl (hD 8 (by omega))
          simp only [List.take_succ_cons, List.take_zero, List.drop_succ_cons, List.drop_zero, putAll]
          rw [hu, e7, e8]
          have q0 := hB.cell 0
          have p0 := hB.frozen 0
          have q1 := hB.cell 1
          have p1 := hB.frozen 1
          have q2 := hB.cell 2
          have p2 := hB.frozen 2
          have q3 := hB.cell 3
          have p3 := hB.frozen 3
          have q4 := hB.cell 4
          have p4 := hB.frozen 4
          have q5 := hB.cell 5
          have p5 := hB.frozen 5
          have q6 := hB.cell 6
          have p6 := hB.frozen 6
          simp at q0 q1 q2 q3 q4 q5 q6
          have G9 := Lib.hid (only_trans G.out x1)
          have hw1 : W1.heap.size ≤ gb := by have := G.out.size; omega
          clear hcn x1 x2 hu e7 e8 hD hB b0 b1 b2 b3 b4 b5 b6 hc
          have hwl := hsl
          by_cases hlt : L < s.level + 1
          · have HF2 : Hid (lvl ss (ids.take (k + 1)) = s.level + 1) := Lib.hid (by rw [HF.out, if_pos hlt])
            have i3 : ¬ (s.level + 1 ≤ L) := by omega
            have i4 : max L (s.level + 1) = s.level + 1 := by omega
            go_wp2_with fail
            go_roundw
            case rel => exact ⟨k + 1, by go_num, by omega, by rw [HF2.out], G9.out⟩
            case measure => simp [intOf]; omega
          · have HF2 : Hid (lvl ss (ids.take (k + 1)) = L) := Lib.hid (by rw [HF.out, if_neg hlt])
            have i3 : s.level + 1 ≤ L := by omega
            have i4 : max L (s.level + 1) = L := by omega
            go_wp2_with fail
            go_roundw
            case rel => exact ⟨k + 1, by go_num, by omega, by rw [HF2.out], G9.out⟩
            case measure => simp [intOf]; omega
    · have i1 : ¬ ((k : Int) < (ids.length : Int)) := by omega
      have HL2 : Hid (lvl ss ids = L) := Lib.hid (by rw [HLV.out, List.take_of_length_le (by omega)])
      go_wp2_with fail
      go_ret
      exact ⟨ret_int HL2.out.symm, only_trans G1.out G.out⟩
end Go.Proofs.Ytphglalphejppaa
