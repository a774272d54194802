/- (*queue).Push (printed by mkpush.py). No condition. -/
import Derived.Test.YtphglalphejppaaQSwap
namespace Go.Proofs.Ytphglalphejppaa
open Go.RowKit
set_option linter.unusedVariables false
set_option linter.unusedSimpArgs false

theorem blk_not_row {w : World} {g t e z n base : Nat} {cs : Array Value} {v : Value} {xs : List Value} (hB : Blk w g t cs) (h : w.ownsRow base e z v n xs) (hte : t ≠ e) : v.ownBlock ≠ some g := by
  rcases h.2 with ⟨rfl, _⟩ | ⟨g', cap, cur, rfl, _, hh, _⟩
  · simp [Value.ownBlock]
  · intro e1
    have e2 : g' = g := by simpa [Value.ownBlock] using e1
    subst e2
    unfold Blk at hB
    rw [hB] at hh
    injection hh with hh
    injection hh with _ h2 _
    exact hte h2
theorem own_apart {w w' : World} {base e z n g : Nat} {v : Value} {xs : List Value} (h : w.ownsRow base e z v n xs) (hg : w.grownBy w' (some g)) (hne : v.ownBlock ≠ some g) : w'.ownsRow base e z v n xs := h.kept hg (.inr hne)
theorem srcInfo : (Try.prog.info? 76).map (fun i => (i.zero, i.size, i.bytes)) = some (some (.agg #[.slice none 0 0, .int .i64 0]), 2, 32) := by kernel_rfl
/-- what the append has made -/
def AppX (base : Nat) (w : World) (v : Value) (ss : List Src) (s : Src) (v' : Value) (wx : World) : Prop :=
  wx.ownsRow base 76 2 v' (ss.length + 1) (ss.flatMap Src.cells ++ s.cells) ∧ w.drew.grownBy wx v.ownBlock ∧ (v'.ownBlock = v.ownBlock ∨ v'.ownBlock = some (w.heap.size + 1))
theorem load_q (w : World) (g : Nat) (v : Value) (hv : ∃ A l c, v = .slice A l c) (h : w.cell? ⟨g, 0, none⟩ = some v) : (Instr.loadAt 73 (.pointer (some ⟨g, 0, none⟩))).run Try.prog w = .ok v w := by
  obtain ⟨A, l, c, rfl⟩ := hv
  have hu := Try.underlying73
  simp [go_sem, h]
theorem assert_src (w : World) (v : Value) : (Instr.typeAssert (.iface 76 v) 20 76 false).run Try.prog w = .ok v w := by
  have hu := Try.underlying76
  simp [Instr.typeAssert, go_sem]
/-- the queue: a cell that holds a row of the call's own -/
def QSt (base : Nat) (w : World) (gq : Nat) (v : Value) (ss : List Src) : Prop := Blk w gq 73 #[v] ∧ w.ownsRow base 76 2 v ss.length (ss.flatMap Src.cells)
/-- nothing else has turned: the queue's cell, its row apart -/
def Fr2 (w w' : World) (gq : Nat) (r : Option Nat) : Prop := w'.os = w.os ∧ w'.tape = w.tape ∧ w'.output = w.output ∧ w.heap.size ≤ w'.heap.size ∧ ∀ b, b < w.heap.size → b ≠ gq → some b ≠ r → w'.heap[b]? = w.heap[b]?
def PushPost (base : Nat) (w : World) (gq : Nat) (v : Value) (ss : List Src) (e : Ending) (w' : World) : Prop :=
  (∃ x, e = .returned x) ∧ ∃ v', QSt base w' gq v' ss ∧ Fr2 w w' gq v.ownBlock ∧ (v'.ownBlock = v.ownBlock ∨ ∃ b, v'.ownBlock = some b ∧ w.heap.size ≤ b)
set_option maxHeartbeats 2000000 in
set_option maxRecDepth 100000 in
theorem qpush_any (base gq : Nat) (v : Value) (ss : List Src) (s : Src) (w : World) (h : QSt base w gq v ss) (hl : ss.length ≤ 100000) (hbase : base ≤ w.heap.size) :
    Calls Try.prog 110 #[.pointer (some ⟨gq, 0, none⟩), .iface 76 (.agg #[.slice s.A s.rest.length s.c, .int .i64 s.idx])] w (PushPost base w gq v (ss ++ [s])) := by
  have q0 := h.1.cell 0
  have hgq := h.1.lt
  simp at q0
  have HO := Lib.hid (show w.drew.ownsRow base 76 2 v ss.length (ss.flatMap Src.cells) from h.2)
  have HB := Lib.hid h.1
  have hv : ∃ A l c, v = .slice A l c := by obtain ⟨A, c, e, _⟩ := Rd.of_own h.2 (by decide); exact ⟨A, _, c, e⟩
  clear h
  go_enter Try.func110, Try.ntmps110
  go_wp2_with fail
  refine wp_region_gen 8 (JC [some (.pointer (some ⟨gq, 0, none⟩)), some (.pointer (some ⟨gq, 0, none⟩)), some (.pointer (some ⟨gq, 0, none⟩)), some (v), some (.iface 76 (.agg #[.slice s.A s.rest.length s.c, .int .i64 s.idx])), some (.agg #[.slice s.A s.rest.length s.c, .int .i64 s.idx]), none, none] (fun D u wx => (D 7 = true → D 6 = true ∧ D 3 = true) ∧ (D 6 = false → wx = w.drew) ∧ (D 6 = true → D 7 = false → wx = w.drew.alloc (.cells #[.slice s.A s.rest.length s.c, .int .i64 s.idx] 76) ∧ u 6 = .slice (some ⟨w.heap.size, 0, none⟩) 1 1) ∧ (D 7 = true → AppX base w v ss s (u 7) wx))) (by kernel_rfl) (by kernel_rfl) ?_ ?_ ?_
  · intro u
    exact ⟨(fun j c _ h => by cases h), ⟨(fun h => by cases h), (fun _ => rfl), (fun h => by cases h), fun h => by cases h⟩⟩
  · intro AA hA
    have hasz : AA.tmps.size = 13 := by rw [hA]; kernel_rfl
    have ea0 : AA.eval (.tmp 0) = .pointer (some ⟨gq, 0, none⟩) := by rw [hA]; kernel_rfl
    have ea1 : AA.eval (.tmp 1) = .iface 76 (.agg #[.slice s.A s.rest.length s.c, .int .i64 s.idx]) := by rw [hA]; kernel_rfl
    clear hA
    simp only [List.take_succ_cons, List.take_zero]
    refine .cons ?_ (.cons ?_ (.cons ?_ (.cons ?_ (.cons ?_ (.cons ?_ (.cons ?_ (.cons ?_ (.nil))))))))
    · exact gd_gen (by kernel_rfl) (Want.none_ rfl) rfl (fun D u w v h => by simpa [updB, upd] using h) (fun D u ρ w kn => by
        have e0 := kn.own 0 (c := .pointer (some ⟨gq, 0, none⟩)) (by kernel_rfl) ea0
        simp [execOp, kn.rho.con, e0, go_sem])
    · exact gd_gen (by kernel_rfl) (Want.none_ rfl) rfl (fun D u w v h => by simpa [updB, upd] using h) (fun D u ρ w kn => by
        have e0 := kn.own 0 (c := .pointer (some ⟨gq, 0, none⟩)) (by kernel_rfl) ea0
        simp [execOp, kn.rho.con, e0, go_sem])
    · exact gd_gen (by kernel_rfl) (Want.none_ rfl) rfl (fun D u w v h => by simpa [updB, upd] using h) (fun D u ρ w kn => by
        have e0 := kn.con 1 5 (c := .pointer (some ⟨gq, 0, none⟩)) (by kernel_rfl) (by omega) (by kernel_rfl) rfl
        simp [execOp, kn.rho.con, e0, go_sem])
    · refine gd_eff (by kernel_rfl) (Want.none_ rfl) (fun D u ρ wx kn hD => ?_)
      have e0 := kn.con 2 6 (c := .pointer (some ⟨gq, 0, none⟩)) (by kernel_rfl) (by omega) (by kernel_rfl) rfl
      obtain ⟨x1, x2, x3, x4⟩ := kn.ext
      have h7 : D 7 = false := by cases h : D 7 with | false => rfl | true => have := (x1 h).2; rw [hD] at this; cases this
      have hc : wx.cell? ⟨gq, 0, none⟩ = some v := by
        cases h6 : D 6 with
        | false => rw [x2 h6]; exact q0
        | true => rw [(x3 h6 h7).1]; exact (World.cell?_of_block (a := ⟨gq, 0, none⟩) (Below.heap_alloc w.drew _ gq hgq)).trans q0
      refine ⟨v, wx, run_load ρ wx rfl e0 (load_q wx gq v hv hc), (fun c h => by injection h with h; injection h), ?_, ?_, ?_, ?_⟩
      · intro h; rw [updB_ne D (show (7 : Nat) ≠ 3 by omega), h7] at h; cases h
      · intro h; rw [updB_ne D (show (6 : Nat) ≠ 3 by omega)] at h; exact x2 h
      · intro h h'; rw [updB_ne D (show (6 : Nat) ≠ 3 by omega)] at h; rw [upd_ne u _ (show (6 : Nat) ≠ 3 by omega)]; exact x3 h h7
      · intro h; rw [updB_ne D (show (7 : Nat) ≠ 3 by omega), h7] at h; cases h
    · exact gd_gen (by kernel_rfl) (Want.none_ rfl) rfl (fun D u w v h => by simpa [updB, upd] using h) (fun D u ρ w kn => by
        have e0 := kn.own 1 (c := .iface 76 (.agg #[.slice s.A s.rest.length s.c, .int .i64 s.idx])) (by kernel_rfl) ea1
        simp [execOp, kn.rho.con, e0, go_sem])
    · exact gd_gen (by kernel_rfl) (Want.none_ rfl) rfl (fun D u w v h => by simpa [updB, upd] using h) (fun D u ρ w kn => by
        have e0 := kn.con 4 8 (c := .iface 76 (.agg #[.slice s.A s.rest.length s.c, .int .i64 s.idx])) (by kernel_rfl) (by omega) (by kernel_rfl) rfl
        simp [execOp, kn.rho.con, e0, go_sem, assert_src])
    · refine gd_eff (by kernel_rfl) (Want.none_ rfl) (fun D u ρ wx kn hD => ?_)
      have e0 := kn.con 5 9 (c := .agg #[.slice s.A s.rest.length s.c, .int .i64 s.idx]) (by kernel_rfl) (by omega) (by kernel_rfl) rfl
      obtain ⟨x1, x2, x3, x4⟩ := kn.ext
      have h7 : D 7 = false := by cases h : D 7 with | false => rfl | true => have := (x1 h).1; rw [hD] at this; cases this
      have hw := x2 hD
      subst hw
      refine ⟨.slice (some ⟨w.heap.size, 0, none⟩) 1 1, w.drew.alloc (.cells #[.slice s.A s.rest.length s.c, .int .i64 s.idx] 76), by simp [execOp, e0, go_sem], (fun c h => by cases h), ?_, ?_, ?_, ?_⟩
      · intro h; rw [updB_ne D (show (7 : Nat) ≠ 6 by omega), h7] at h; cases h
      · intro h; rw [updB_at] at h; cases h
      · exact fun _ _ => ⟨rfl, upd_at _ _ _⟩
      · intro h; rw [updB_ne D (show (7 : Nat) ≠ 6 by omega), h7] at h; cases h
    · refine gd_eff (by kernel_rfl) (Want.none_ rfl) (fun D u ρ wx kn hD => ?_)
      have e0 := kn.con 3 7 (c := v) (by kernel_rfl) (by omega) (by kernel_rfl) rfl
      have e1 := kn.slot 6 10 (by kernel_rfl) (by omega)
      have d6 := kn.dep 6 (by kernel_rfl)
      have d3 := kn.dep 3 (by kernel_rfl)
      obtain ⟨x1, x2, x3, x4⟩ := kn.ext
      obtain ⟨hw, hu⟩ := x3 d6 hD
      subst hw
      rw [hu] at e1
      obtain ⟨v', w', hr, h1, h2, h3⟩ := run_append1 (P := Try.prog) base 73 73 Try.underlying73 srcInfo rfl (by decide) (v := v) (n := ss.length) (xs := ss.flatMap Src.cells) (w0 := w.drew) (w := w.drew.alloc (.cells #[.slice s.A s.rest.length s.c, .int .i64 s.idx] 76)) (cs := #[.slice s.A s.rest.length s.c, .int .i64 s.idx]) rfl rfl rfl rfl HO.out rfl (by simp [Value.oneCell']) (by decide) (by omega) hbase
      refine ⟨v', w', ?_, (fun c h => by cases h), ?_, ?_, ?_, ?_⟩
      rotate_left
      · intro _; exact ⟨(by rw [updB_ne D (show (6 : Nat) ≠ 7 by omega)]; exact d6), (by rw [updB_ne D (show (3 : Nat) ≠ 7 by omega)]; exact d3)⟩
      · intro h; rw [updB_ne D (show (6 : Nat) ≠ 7 by omega), d6] at h; cases h
      · intro _ h; rw [updB_at] at h; cases h
      · intro _; rw [upd_at]; exact ⟨(by simpa [Src.cells] using h1), h2, h3⟩
      · simp only [execOp, resolve, invoke, builtin, Sem.run_bind, Sem.run_pure, Result.andThen_ok, List.map_toArray, List.map_cons, List.map_nil, e0, e1]
        rw [show (w.drew).heap.size = w.heap.size from rfl] at hr
        simp [hr]
  · intro D u w3 hJ hD
    obtain ⟨hc, -, -, -, x4⟩ := hJ
    obtain ⟨h1, h2, h3⟩ := x4 (hD 7 (by omega))
    have e0 : u 0 = .pointer (some ⟨gq, 0, none⟩) := hc 0 _ rfl (hD 0 (by omega))
    obtain ⟨A7, c7, e7, -, -, -, -⟩ := Rd.of_own h1 (by decide)
    rw [e7] at h1 h3
    simp only [List.take_succ_cons, List.take_zero, List.drop_succ_cons, List.drop_zero, putAll]
    rw [e0, e7]
    have hnr : some gq ≠ v.ownBlock := fun e => blk_not_row HB.out HO.out (by decide) e.symm
    have hb3 := HB.out.drew.grown h2 hnr
    have c0 := hb3.cell 0
    have f0 := hb3.frozen 0
    simp at c0
    have B3 := Lib.hid hb3
    have O3 := Lib.hid h1
    have G3 := Lib.hid h2
    have HN := Lib.hid h3
    obtain ⟨Av, lv, cv, rfl⟩ := hv
    clear hb3 h1 h2 h3 x4 e0 e7 hc hD hnr
    go_wp2_with fail
    go_end0
    have hg : w3.grownBy (w3.setCell ⟨gq, 0, none⟩ (.slice A7 (ss.length + 1) c7)) (some gq) := only_setCell (only_refl _ _) (p := ⟨gq, 0, none⟩) (.inl rfl) _
    have h1' : w3.ownsRow base 76 2 (.slice A7 (ss.length + 1) c7) (ss ++ [s]).length ((ss ++ [s]).flatMap Src.cells) := by simpa using O3.out
    refine ⟨⟨_, rfl⟩, .slice A7 (ss.length + 1) c7, ⟨by simpa using B3.out.set_ 0 (.slice A7 (ss.length + 1) c7), own_apart h1' hg (blk_not_row B3.out h1' (by decide))⟩, ⟨hg.os.trans G3.out.os, hg.tape.trans G3.out.tape, hg.output.trans G3.out.output, Nat.le_trans G3.out.size hg.size, fun b hb h1 h2 => (hg.block b (Nat.lt_of_lt_of_le hb G3.out.size) (fun e => h1 (by injection e))).trans (G3.out.block b hb h2)⟩, ?_⟩
    rcases HN.out with h | h
    · exact .inl h
    · exact .inr ⟨_, h, by omega⟩
end Go.Proofs.Ytphglalphejppaa
