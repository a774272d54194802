/- (queue).Less (printed by mkq.py). No condition. -/
import Derived.Test.YtphglalphejppaaELess
import Derived.Test.YtphglalphejppaaGenC
import Derived.Test.YtphglalphejppaaItemR
namespace Go.Proofs.Ytphglalphejppaa
open Go.RowKit
set_option linter.unusedVariables false
set_option linter.unusedSimpArgs false

theorem cell_gr {w w' : World} (h : w.grownBy w' none) {b o : Nat} (hb : b < w.heap.size) : w'.cell? ⟨b, o, none⟩ = w.cell? ⟨b, o, none⟩ := World.cell?_of_block (a := ⟨b, o, none⟩) (h.block b hb (by simp))
theorem run_load (ρ : Operand → Value) (w : World) {o : Oper} {t : TypeId} {x : Nat} {p c : Value} (ho : o.op = .load t (.tmp x)) (hx : ρ (.tmp x) = p) (h : (Instr.loadAt t p).run Try.prog w = .ok c w) : (execOp ρ o).run Try.prog w = .ok (.value c) w := by
  simp only [execOp, ho, hx, Sem.run_bind, h, Result.andThen_ok, Sem.run_pure]
def zeroRow : Array Value := #[.int .i64 0, .int .i64 0, .int .i64 0, .int .i64 0, .slice none 0 0, .int .i64 0, .int .i64 0, .string ⟨#[]⟩, .string ⟨#[]⟩, .slice none 0 0]
theorem load_evAt (w : World) (b o : Nat) (a : Ev) (h : ∀ m, m < 10 → w.cell? ⟨b, o + m, none⟩ = a.cells[m]?) : (Instr.loadAt 34 (.pointer (some ⟨b, o, none⟩))).run Try.prog w = .ok (.agg a.cells.toArray) w := by
  have c0 := h 0 (by omega)
  have c1 := h 1 (by omega)
  have c2 := h 2 (by omega)
  have c3 := h 3 (by omega)
  have c4 := h 4 (by omega)
  have c5 := h 5 (by omega)
  have c6 := h 6 (by omega)
  have c7 := h 7 (by omega)
  have c8 := h 8 (by omega)
  have c9 := h 9 (by omega)
  simp [Ev.cells] at c0 c1 c2 c3 c4 c5 c6 c7 c8 c9
  have hu := Try.underlying34
  simp [go_sem, c0, c1, c2, c3, c4, c5, c6, c7, c8, c9, Ev.cells]
theorem store_ev (w : World) (g : Nat) (x : Ev) {t : TypeId} {cs : Array Value} (h : Blk w g t cs) (hs : cs.size = 10) :
    ∃ w', (Instr.storeAt 34 (.pointer (some ⟨g, 0, none⟩)) (.agg x.cells.toArray)).run Try.prog w = .ok () w' ∧ Blk w' g t x.cells.toArray ∧ w.grownBy w' (some g) := by
  obtain ⟨l, rfl⟩ : ∃ l : List Value, cs = l.toArray := ⟨cs.toList, by simp⟩
  have hl : l.length = 10 := by simpa using hs
  obtain ⟨v0, v1, v2, v3, v4, v5, v6, v7, v8, v9, rfl⟩ : ∃ v0 v1 v2 v3 v4 v5 v6 v7 v8 v9, l = [v0, v1, v2, v3, v4, v5, v6, v7, v8, v9] := by
    match l, hl with
    | [v0, v1, v2, v3, v4, v5, v6, v7, v8, v9], _ => exact ⟨_, _, _, _, _, _, _, _, _, _, rfl⟩
  have c0 := h.cell 0
  have f0 := h.frozen 0
  have c1 := h.cell 1
  have f1 := h.frozen 1
  have c2 := h.cell 2
  have f2 := h.frozen 2
  have c3 := h.cell 3
  have f3 := h.frozen 3
  have c4 := h.cell 4
  have f4 := h.frozen 4
  have c5 := h.cell 5
  have f5 := h.frozen 5
  have c6 := h.cell 6
  have f6 := h.frozen 6
  have c7 := h.cell 7
  have f7 := h.frozen 7
  have c8 := h.cell 8
  have f8 := h.frozen 8
  have c9 := h.cell 9
  have f9 := h.frozen 9
  simp at c0 c1 c2 c3 c4 c5 c6 c7 c8 c9
  have hu := Try.underlying34
  refine ⟨((((((((((w.setCell ⟨g, 0, none⟩ (.int .i64 x.host)).setCell ⟨g, 1, none⟩ (.int .i64 x.file)).setCell ⟨g, 2, none⟩ (.int .i64 x.beg)).setCell ⟨g, 3, none⟩ (.int .i64 x.fin)).setCell ⟨g, 4, none⟩ (.slice x.la x.lines.length x.lc)).setCell ⟨g, 5, none⟩ (.int .i64 x.time)).setCell ⟨g, 6, none⟩ (.int .i64 x.weight)).setCell ⟨g, 7, none⟩ (.string x.trace)).setCell ⟨g, 8, none⟩ (.string x.stream)).setCell ⟨g, 9, none⟩ (.slice x.fa x.fields.length x.fc)), ?_, ?_, ?_⟩
  · simp [go_sem, Ev.cells, c0, c1, c2, c3, c4, c5, c6, c7, c8, c9, f0, f1, f2, f3, f4, f5, f6, f7, f8, f9]
  · have := ((((((((((h.set_ 0 (.int .i64 x.host)).set_ 1 (.int .i64 x.file)).set_ 2 (.int .i64 x.beg)).set_ 3 (.int .i64 x.fin)).set_ 4 (.slice x.la x.lines.length x.lc)).set_ 5 (.int .i64 x.time)).set_ 6 (.int .i64 x.weight)).set_ 7 (.string x.trace)).set_ 8 (.string x.stream)).set_ 9 (.slice x.fa x.fields.length x.fc))
    simpa [Ev.cells] using this
  · have g0 : w.grownBy _ (some g) := only_setCell (only_refl w (some g)) (p := ⟨g, 0, none⟩) (.inl rfl) (.int .i64 x.host)
    have g1 : w.grownBy _ (some g) := only_setCell g0 (p := ⟨g, 1, none⟩) (.inl rfl) (.int .i64 x.file)
    have g2 : w.grownBy _ (some g) := only_setCell g1 (p := ⟨g, 2, none⟩) (.inl rfl) (.int .i64 x.beg)
    have g3 : w.grownBy _ (some g) := only_setCell g2 (p := ⟨g, 3, none⟩) (.inl rfl) (.int .i64 x.fin)
    have g4 : w.grownBy _ (some g) := only_setCell g3 (p := ⟨g, 4, none⟩) (.inl rfl) (.slice x.la x.lines.length x.lc)
    have g5 : w.grownBy _ (some g) := only_setCell g4 (p := ⟨g, 5, none⟩) (.inl rfl) (.int .i64 x.time)
    have g6 : w.grownBy _ (some g) := only_setCell g5 (p := ⟨g, 6, none⟩) (.inl rfl) (.int .i64 x.weight)
    have g7 : w.grownBy _ (some g) := only_setCell g6 (p := ⟨g, 7, none⟩) (.inl rfl) (.string x.trace)
    have g8 : w.grownBy _ (some g) := only_setCell g7 (p := ⟨g, 8, none⟩) (.inl rfl) (.string x.stream)
    have g9 : w.grownBy _ (some g) := only_setCell g8 (p := ⟨g, 9, none⟩) (.inl rfl) (.slice x.fa x.fields.length x.fc)
    exact g9
theorem alloc_ev (ρ : Operand → Value) (w : World) {o : Oper} (ho : o.op = .alloc 34 := by rfl) : (execOp ρ o).run Try.prog w = .ok (.value (.pointer (some ⟨w.heap.size, 0, none⟩))) (w.alloc (.cells zeroRow 34)) := by
  simp only [execOp, ho]
  kernel_rfl
theorem blk_cells {w : World} {b t : Nat} {a : Ev} (h : Blk w b t a.cells.toArray) : ∀ m, m < 10 → w.cell? ⟨b, 0 + m, none⟩ = a.cells[m]? := fun m _ => by rw [Nat.zero_add, h.cell m]; simp
/-- a box that has been laid: empty till it is filled -/
def BoxI (r t i k : Nat) (z x : Array Value) (D : Nat → Bool) (u : Nat → Value) (w : World) : Prop := D i = true → ∃ b, u i = .pointer (some ⟨b, 0, none⟩) ∧ r ≤ b ∧ Blk w b t (if D k = true then x else z)
theorem BoxI.new {W0 w : World} {t i k : Nat} {z x : Array Value} {D : Nat → Bool} {u : Nat → Value} (h : W0.grownBy w none) (hk : D k = false) (hik : k ≠ i := by omega) : BoxI W0.heap.size t i k z x (updB D i) (upd u i (.pointer (some ⟨w.heap.size, 0, none⟩))) (w.alloc (.cells z t)) := by
  intro _
  refine ⟨w.heap.size, upd_at _ _ _, h.size, ?_⟩
  rw [updB_ne D hik, hk, if_neg (by simp)]
  exact Blk.new w t z
theorem BoxI.kept {r t i k : Nat} {z x : Array Value} {D D' : Nat → Bool} {u u' : Nat → Value} {w w' : World} (h : BoxI r t i k z x D u w) (h1 : D' i = D i) (h2 : D' k = D k) (h3 : u' i = u i) (hb : ∀ b cs, r ≤ b → Blk w b t cs → Blk w' b t cs) : BoxI r t i k z x D' u' w' := by
  intro hi
  rw [h1] at hi
  obtain ⟨b, y1, y2, y3⟩ := h hi
  exact ⟨b, h3.trans y1, y2, by rw [h2]; exact hb b _ y2 y3⟩
theorem BoxI.kept' {r t i k : Nat} {z x : Array Value} {D D' : Nat → Bool} {u u' : Nat → Value} {w w' : World} (h : BoxI r t i k z x D u w) (h1 : D' i = D i) (h2 : D' k = D k) (h3 : u' i = u i) (hb : D i = true → ∀ b cs, r ≤ b → u i = .pointer (some ⟨b, 0, none⟩) → Blk w b t cs → Blk w' b t cs) : BoxI r t i k z x D' u' w' := by
  intro hi
  rw [h1] at hi
  obtain ⟨b, y1, y2, y3⟩ := h hi
  exact ⟨b, h3.trans y1, y2, by rw [h2]; exact hb hi b _ y2 y1 y3⟩

set_option maxHeartbeats 4000000 in
set_option maxRecDepth 100000 in
theorem qless_any (gr off n cq i j bA oA na ca bB oB nb cb : Nat) (a b : Ev) (x y : Int) (w : World) (hi : i < n) (hj : j < n)
    (q0 : w.cell? ⟨gr, off + i * 2, none⟩ = some (.slice (some ⟨bA, oA, none⟩) (na + 1) ca)) (q1 : w.cell? ⟨gr, off + i * 2 + 1, none⟩ = some (.int .i64 x))
    (p0 : w.cell? ⟨gr, off + j * 2, none⟩ = some (.slice (some ⟨bB, oB, none⟩) (nb + 1) cb)) (p1 : w.cell? ⟨gr, off + j * 2 + 1, none⟩ = some (.int .i64 y))
    (ha : ∀ m, m < 10 → w.cell? ⟨bA, oA + m, none⟩ = a.cells[m]?) (hb : ∀ m, m < 10 → w.cell? ⟨bB, oB + m, none⟩ = b.cells[m]?) (hgr : gr < w.heap.size) (hbA : bA < w.heap.size) (hbB : bB < w.heap.size) :
    Calls Try.prog 108 #[.slice (some ⟨gr, off, none⟩) n cq, .int .i64 i, .int .i64 j] w (BoolExt (a.less b || (!b.less a && decide (x < y))) w) := by
  have HA := Lib.hid ha
  have HB := Lib.hid hb
  clear ha hb
  have hiI : (i : Int) < (n : Int) := by omega
  have hjI : (j : Int) < (n : Int) := by omega
  go_enter Try.func108, Try.ntmps108
  go_wp2_with fail
  obtain ⟨W0, hW0⟩ : ∃ W0, W0 = w := ⟨_, rfl⟩
  subst hW0
  refine wp_region_gen 18 (JC [some (.slice (some ⟨gr, off, none⟩) (n) (cq)), some (.int .i64 (i)), some (.pointer (some ⟨gr, off + i * 2, none⟩)), some (.pointer (some ⟨gr, off + i * 2, none⟩)), some (.slice (some ⟨bA, oA, none⟩) (na + 1) (ca)), some (.pointer (some ⟨bA, oA, none⟩)), some (.agg a.cells.toArray), some (.slice (some ⟨gr, off, none⟩) (n) (cq)), some (.int .i64 (j)), some (.pointer (some ⟨gr, off + j * 2, none⟩)), some (.pointer (some ⟨gr, off + j * 2, none⟩)), some (.slice (some ⟨bB, oB, none⟩) (nb + 1) (cb)), some (.pointer (some ⟨bB, oB, none⟩)), some (.agg b.cells.toArray), none, none, none, none] (fun D u w => W0.grownBy w none ∧ (D 16 = true → D 14 = true) ∧ (D 17 = true → D 15 = true) ∧ BoxI W0.heap.size 34 14 16 zeroRow a.cells.toArray D u w ∧ BoxI W0.heap.size 34 15 17 zeroRow b.cells.toArray D u w ∧ (D 14 = true → D 15 = true → u 14 ≠ u 15))) (by kernel_rfl) (by kernel_rfl) ?_ ?_ ?_
  · intro u
    exact ⟨(fun j c _ h => by cases h), ⟨only_drew (only_refl _ _), (fun h => by cases h), (fun h => by cases h), (fun h => by cases h), (fun h => by cases h), fun h => by cases h⟩⟩
  · intro AA hA
    have hasz : AA.tmps.size = 45 := by rw [hA]; kernel_rfl
    have ea0 : AA.eval (.tmp 0) = .slice (some ⟨gr, off, none⟩) (n) (cq) := by rw [hA]; kernel_rfl
    have ea1 : AA.eval (.tmp 1) = .int .i64 (i) := by rw [hA]; kernel_rfl
    have ea2 : AA.eval (.tmp 2) = .int .i64 (j) := by rw [hA]; kernel_rfl
    clear hA
    simp only [List.take_succ_cons, List.take_zero]
    refine .cons ?_ (.cons ?_ (.cons ?_ (.cons ?_ (.cons ?_ (.cons ?_ (.cons ?_ (.cons ?_ (.cons ?_ (.cons ?_ (.cons ?_ (.cons ?_ (.cons ?_ (.cons ?_ (.cons ?_ (.cons ?_ (.cons ?_ (.cons ?_ (.nil))))))))))))))))))
    · exact gd_gen (by kernel_rfl) (Want.none_ rfl) rfl (fun D u w v h => by simpa [updB, upd, BoxI] using h) (fun D u ρ w kn => by
        have e0 := kn.own 0 (c := .slice (some ⟨gr, off, none⟩) (n) (cq)) (by kernel_rfl) ea0
        simp [execOp, kn.rho.con, e0, go_sem])
    · exact gd_gen (by kernel_rfl) (Want.none_ rfl) rfl (fun D u w v h => by simpa [updB, upd, BoxI] using h) (fun D u ρ w kn => by
        have e0 := kn.own 1 (c := .int .i64 (i)) (by kernel_rfl) ea1
        simp [execOp, kn.rho.con, e0, go_sem])
    · exact gd_gen (by kernel_rfl) (Want.none_ rfl) rfl (fun D u w v h => by simpa [updB, upd, BoxI] using h) (fun D u ρ w kn => by
        have e0 := kn.con 0 9 (c := .slice (some ⟨gr, off, none⟩) (n) (cq)) (by kernel_rfl) (by omega) (by kernel_rfl) rfl
        have e1 := kn.con 1 10 (c := .int .i64 (i)) (by kernel_rfl) (by omega) (by kernel_rfl) rfl
        simp [execOp, kn.rho.con, e0, e1, go_sem, hi])
    · exact gd_gen (by kernel_rfl) (Want.none_ rfl) rfl (fun D u w v h => by simpa [updB, upd, BoxI] using h) (fun D u ρ w kn => by
        have e0 := kn.con 2 11 (c := .pointer (some ⟨gr, off + i * 2, none⟩)) (by kernel_rfl) (by omega) (by kernel_rfl) rfl
        simp [execOp, kn.rho.con, e0, go_sem])
    · exact gd_gen (by kernel_rfl) (Want.none_ rfl) rfl (fun D u w v h => by simpa [updB, upd, BoxI] using h) (fun D u ρ w kn => by
        have e0 := kn.con 3 12 (c := .pointer (some ⟨gr, off + i * 2, none⟩)) (by kernel_rfl) (by omega) (by kernel_rfl) rfl
        have f0 := (cell_gr kn.ext.1 hgr).trans q0
        simp [execOp, kn.rho.con, e0, f0, go_sem])
    · exact gd_gen (by kernel_rfl) (Want.none_ rfl) rfl (fun D u w v h => by simpa [updB, upd, BoxI] using h) (fun D u ρ w kn => by
        have e0 := kn.con 4 13 (c := .slice (some ⟨bA, oA, none⟩) (na + 1) (ca)) (by kernel_rfl) (by omega) (by kernel_rfl) rfl
        simp [execOp, kn.rho.con, e0, go_sem])
    · exact gd_gen (by kernel_rfl) (Want.none_ rfl) rfl (fun D u w v h => by simpa [updB, upd, BoxI] using h) (fun D u ρ w kn => by
        have e0 := kn.con 5 14 (c := .pointer (some ⟨bA, oA, none⟩)) (by kernel_rfl) (by omega) (by kernel_rfl) rfl
        exact run_load ρ w rfl e0 (load_evAt w bA oA a (fun m hm => (cell_gr kn.ext.1 hbA).trans (HA.out m hm))))
    · exact gd_gen (by kernel_rfl) (Want.none_ rfl) rfl (fun D u w v h => by simpa [updB, upd, BoxI] using h) (fun D u ρ w kn => by
        have e0 := kn.own 0 (c := .slice (some ⟨gr, off, none⟩) (n) (cq)) (by kernel_rfl) ea0
        simp [execOp, kn.rho.con, e0, go_sem])
    · exact gd_gen (by kernel_rfl) (Want.none_ rfl) rfl (fun D u w v h => by simpa [updB, upd, BoxI] using h) (fun D u ρ w kn => by
        have e0 := kn.own 2 (c := .int .i64 (j)) (by kernel_rfl) ea2
        simp [execOp, kn.rho.con, e0, go_sem])
    · exact gd_gen (by kernel_rfl) (Want.none_ rfl) rfl (fun D u w v h => by simpa [updB, upd, BoxI] using h) (fun D u ρ w kn => by
        have e0 := kn.con 7 16 (c := .slice (some ⟨gr, off, none⟩) (n) (cq)) (by kernel_rfl) (by omega) (by kernel_rfl) rfl
        have e1 := kn.con 8 17 (c := .int .i64 (j)) (by kernel_rfl) (by omega) (by kernel_rfl) rfl
        simp [execOp, kn.rho.con, e0, e1, go_sem, hj])
    · exact gd_gen (by kernel_rfl) (Want.none_ rfl) rfl (fun D u w v h => by simpa [updB, upd, BoxI] using h) (fun D u ρ w kn => by
        have e0 := kn.con 9 18 (c := .pointer (some ⟨gr, off + j * 2, none⟩)) (by kernel_rfl) (by omega) (by kernel_rfl) rfl
        simp [execOp, kn.rho.con, e0, go_sem])
    · exact gd_gen (by kernel_rfl) (Want.none_ rfl) rfl (fun D u w v h => by simpa [updB, upd, BoxI] using h) (fun D u ρ w kn => by
        have e0 := kn.con 10 19 (c := .pointer (some ⟨gr, off + j * 2, none⟩)) (by kernel_rfl) (by omega) (by kernel_rfl) rfl
        have f0 := (cell_gr kn.ext.1 hgr).trans p0
        simp [execOp, kn.rho.con, e0, f0, go_sem])
    · exact gd_gen (by kernel_rfl) (Want.none_ rfl) rfl (fun D u w v h => by simpa [updB, upd, BoxI] using h) (fun D u ρ w kn => by
        have e0 := kn.con 11 20 (c := .slice (some ⟨bB, oB, none⟩) (nb + 1) (cb)) (by kernel_rfl) (by omega) (by kernel_rfl) rfl
        simp [execOp, kn.rho.con, e0, go_sem])
    · exact gd_gen (by kernel_rfl) (Want.none_ rfl) rfl (fun D u w v h => by simpa [updB, upd, BoxI] using h) (fun D u ρ w kn => by
        have e0 := kn.con 12 21 (c := .pointer (some ⟨bB, oB, none⟩)) (by kernel_rfl) (by omega) (by kernel_rfl) rfl
        exact run_load ρ w rfl e0 (load_evAt w bB oB b (fun m hm => (cell_gr kn.ext.1 hbB).trans (HB.out m hm))))
    · refine gd_eff (by kernel_rfl) (Want.none_ rfl) (fun D u ρ w kn hD => ?_)
      obtain ⟨x1, x2, x3, x4, x5, x6⟩ := kn.ext
      refine ⟨.pointer (some ⟨w.heap.size, 0, none⟩), w.alloc (.cells zeroRow 34), alloc_ev ρ w, by intro c h; simp at h, ?_⟩
      have hk : D 16 = false := by cases h : D 16 with | false => rfl | true => exact absurd (x2 h) (by simp [hD])
      have e1 : ∀ m, m ≠ 14 → updB D 14 m = D m := fun m h => updB_ne D h
      have e2 : ∀ m, m ≠ 14 → upd u 14 (.pointer (some ⟨w.heap.size, 0, none⟩)) m = u m := fun m h => upd_ne u _ h
      refine ⟨only_alloc x1 _, fun h => by rw [e1 16 (by omega)] at h; exact updB_at D 14, fun h => by rw [e1 17 (by omega)] at h; rw [e1 15 (by omega)]; exact x3 h, ?_, ?_, ?_⟩
      · exact BoxI.new x1 hk
      · exact x5.kept (e1 15 (by omega)) (e1 17 (by omega)) (e2 15 (by omega)) (fun b cs hb h => h.alloc _)
      · intro h1 h2
        rw [e1 15 (by omega)] at h2; rw [upd_at, e2 15 (by omega)]; obtain ⟨b', y1, y2, y3⟩ := x5 h2; rw [y1]; intro e; injection e with e; injection e with e; injection e with e; have := y3.lt; omega
    · refine gd_eff (by kernel_rfl) (Want.none_ rfl) (fun D u ρ w kn hD => ?_)
      obtain ⟨x1, x2, x3, x4, x5, x6⟩ := kn.ext
      refine ⟨.pointer (some ⟨w.heap.size, 0, none⟩), w.alloc (.cells zeroRow 34), alloc_ev ρ w, by intro c h; simp at h, ?_⟩
      have hk : D 17 = false := by cases h : D 17 with | false => rfl | true => exact absurd (x3 h) (by simp [hD])
      have e1 : ∀ m, m ≠ 15 → updB D 15 m = D m := fun m h => updB_ne D h
      have e2 : ∀ m, m ≠ 15 → upd u 15 (.pointer (some ⟨w.heap.size, 0, none⟩)) m = u m := fun m h => upd_ne u _ h
      refine ⟨only_alloc x1 _, fun h => by rw [e1 16 (by omega)] at h; rw [e1 14 (by omega)]; exact x2 h, fun h => by rw [e1 17 (by omega)] at h; exact updB_at D 15, ?_, ?_, ?_⟩
      · exact x4.kept (e1 14 (by omega)) (e1 16 (by omega)) (e2 14 (by omega)) (fun b cs hb h => h.alloc _)
      · exact BoxI.new x1 hk
      · intro h1 h2
        rw [e1 14 (by omega)] at h1; rw [upd_at, e2 14 (by omega)]; obtain ⟨b', y1, y2, y3⟩ := x4 h1; rw [y1]; intro e; injection e with e; injection e with e; injection e with e; have := y3.lt; omega
    · refine gd_skip (by kernel_rfl) (Want.none_ rfl) rfl (fun D u ρ w kn hD => ?_)
      have e0 := kn.slot 14 7 (by kernel_rfl) (by omega)
      have e1 := kn.con 6 15 (c := .agg a.cells.toArray) (by kernel_rfl) (by omega) (by kernel_rfl) rfl
      have hal := kn.dep 14 (by kernel_rfl)
      obtain ⟨x1, x2, x3, x4, x5, x6⟩ := kn.ext
      obtain ⟨b', y1, y2, y3⟩ := x4 hal
      obtain ⟨w', z1, z2, z3⟩ := store_ev w b' a y3 (by split <;> rfl)
      have f1 : ∀ m, m ≠ 16 → updB D 16 m = D m := fun m h => updB_ne D h
      have f2 : ∀ m, m ≠ 16 → upd u 16 undef m = u m := fun m h => upd_ne u _ h
      refine ⟨w', by rw [y1] at e0; simp only [execOp, e0, e1, Sem.run_bind, z1, Result.andThen_ok, Sem.run_pure], only_fresh x1 z3 y2, fun h => by rw [f1 14 (by omega)]; exact hal, fun h => by rw [f1 17 (by omega)] at h; rw [f1 15 (by omega)]; exact x3 h, ?_, ?_, ?_⟩
      · exact fun _ => ⟨b', by rw [f2 14 (by omega)]; exact y1, y2, by rw [updB_at, if_pos rfl]; exact z2⟩
      · exact x5.kept' (f1 15 (by omega)) (f1 17 (by omega)) (f2 15 (by omega)) (fun h b cs hb hu h9 => h9.grown z3 (by intro e; injection e with e; subst e; exact x6 hal h (y1.trans hu.symm)))
      · intro h1 h2
        rw [f1 14 (by omega)] at h1
        rw [f1 15 (by omega)] at h2
        rw [f2 14 (by omega), f2 15 (by omega)]
        exact x6 h1 h2
    · refine gd_skip (by kernel_rfl) (Want.none_ rfl) rfl (fun D u ρ w kn hD => ?_)
      have e0 := kn.slot 15 8 (by kernel_rfl) (by omega)
      have e1 := kn.con 13 22 (c := .agg b.cells.toArray) (by kernel_rfl) (by omega) (by kernel_rfl) rfl
      have hal := kn.dep 15 (by kernel_rfl)
      obtain ⟨x1, x2, x3, x4, x5, x6⟩ := kn.ext
      obtain ⟨b', y1, y2, y3⟩ := x5 hal
      obtain ⟨w', z1, z2, z3⟩ := store_ev w b' b y3 (by split <;> rfl)
      have f1 : ∀ m, m ≠ 17 → updB D 17 m = D m := fun m h => updB_ne D h
      have f2 : ∀ m, m ≠ 17 → upd u 17 undef m = u m := fun m h => upd_ne u _ h
      refine ⟨w', by rw [y1] at e0; simp only [execOp, e0, e1, Sem.run_bind, z1, Result.andThen_ok, Sem.run_pure], only_fresh x1 z3 y2, fun h => by rw [f1 16 (by omega)] at h; rw [f1 14 (by omega)]; exact x2 h, fun h => by rw [f1 15 (by omega)]; exact hal, ?_, ?_, ?_⟩
      · exact x4.kept' (f1 14 (by omega)) (f1 16 (by omega)) (f2 14 (by omega)) (fun h b cs hb hu h9 => h9.grown z3 (by intro e; injection e with e; subst e; exact x6 h hal (hu.trans y1.symm)))
      · exact fun _ => ⟨b', by rw [f2 15 (by omega)]; exact y1, y2, by rw [updB_at, if_pos rfl]; exact z2⟩
      · intro h1 h2
        rw [f1 14 (by omega)] at h1
        rw [f1 15 (by omega)] at h2
        rw [f2 14 (by omega), f2 15 (by omega)]
        exact x6 h1 h2
  · intro D u w3 hJ hD
    obtain ⟨hc, x1, -, -, x4, x5, -⟩ := hJ
    obtain ⟨b1, y1, y2, y3⟩ := x4 (hD 14 (by omega))
    obtain ⟨b2, z1, z2, z3⟩ := x5 (hD 15 (by omega))
    rw [hD 16 (by omega), if_pos rfl] at y3
    rw [hD 17 (by omega), if_pos rfl] at z3
    simp only [List.take_succ_cons, List.take_zero, List.drop_succ_cons, List.drop_zero, putAll]
    rw [y1, z1]
    have W1 := Lib.hid x1
    have Y1 := Lib.hid y3
    have Y2 := Lib.hid z3
    clear hc x1 x4 x5 y1 z1 y3 z3 hD
    cases hab : a.less b with
    | true =>
      have HL := Lib.hid hab
      clear hab
      go_wp2_with fail
      refine wp_region_gen 22 (JC [some (.agg a.cells.toArray), some (.agg b.cells.toArray), some (.bool true), some (.bool true), some (undef), some (undef), some (undef), some (undef), some (undef), some (undef), some (undef), some (undef), some (undef), some (undef), some (undef), some (undef), some (undef), some (undef), some (undef), some (undef), some (undef), some (.bool true)] (fun D u w => w3.grownBy w none)) (by kernel_rfl) (by kernel_rfl) ?_ ?_ ?_
      · intro u
        exact ⟨(fun j c _ h => by cases h), only_drew (only_refl _ _)⟩
      · intro AA hA
        have hasz : AA.tmps.size = 45 := by rw [hA]; kernel_rfl
        have ea7 : AA.eval (.tmp 7) = .pointer (some ⟨b1, 0, none⟩) := by rw [hA]; kernel_rfl
        have ea8 : AA.eval (.tmp 8) = .pointer (some ⟨b2, 0, none⟩) := by rw [hA]; kernel_rfl
        have ea0 : AA.eval (.tmp 0) = .slice (some ⟨gr, off, none⟩) (n) (cq) := by rw [hA]; kernel_rfl
        have ea1 : AA.eval (.tmp 1) = .int .i64 (i) := by rw [hA]; kernel_rfl
        have ea2 : AA.eval (.tmp 2) = .int .i64 (j) := by rw [hA]; kernel_rfl
        clear hA
        simp only [List.take_succ_cons, List.take_zero]
        refine .cons ?_ (.cons ?_ (.cons ?_ (.cons ?_ (.cons ?_ (.cons ?_ (.cons ?_ (.cons ?_ (.cons ?_ (.cons ?_ (.cons ?_ (.cons ?_ (.cons ?_ (.cons ?_ (.cons ?_ (.cons ?_ (.cons ?_ (.cons ?_ (.cons ?_ (.cons ?_ (.cons ?_ (.cons ?_ (.nil))))))))))))))))))))))
        · exact gd_gen (by kernel_rfl) (Want.none_ rfl) rfl (fun D u w v h => h) (fun D u ρ w kn => by
            have e0 := kn.own 7 (c := .pointer (some ⟨b1, 0, none⟩)) (by kernel_rfl) ea7
            exact run_load ρ w rfl e0 (load_evAt w b1 0 a (blk_cells (Y1.out.grown kn.ext (by simp)))))
        · exact gd_gen (by kernel_rfl) (Want.none_ rfl) rfl (fun D u w v h => h) (fun D u ρ w kn => by
            have e0 := kn.own 8 (c := .pointer (some ⟨b2, 0, none⟩)) (by kernel_rfl) ea8
            exact run_load ρ w rfl e0 (load_evAt w b2 0 b (blk_cells (Y2.out.grown kn.ext (by simp)))))
        · refine gd_call (by kernel_rfl) (Want.none_ rfl) 32 (fun D u ρ w kn hD => ?_)
          have e0 := kn.con 0 23 (c := .agg a.cells.toArray) (by kernel_rfl) (by omega) (by kernel_rfl) rfl
          have e1 := kn.con 1 24 (c := .agg b.cells.toArray) (by kernel_rfl) (by omega) (by kernel_rfl) rfl
          refine ⟨#[.agg a.cells.toArray, .agg b.cells.toArray], ?_, (eless_any a b w).mono ?_⟩
          · simp only [execOp, resolve, Deferred.ofValue, List.map_toArray, List.map_cons, List.map_nil, e0, e1, kn.rho.con, kn.rho.fn]
            simp [go_sem]
          · rintro e w' ⟨rfl, hg⟩
            exact ⟨_, rfl, (fun c h => by injection h with h; injection h with h; rw [← h, HL.out]), only_trans kn.ext hg⟩
        · exact gd_gen (by kernel_rfl) (Want.none_ rfl) rfl (fun D u w v h => h) (fun D u ρ w kn => by
            have e0 := kn.con 2 25 (c := .bool true) (by kernel_rfl) (by omega) (by kernel_rfl) rfl
            simp [execOp, kn.rho.con, e0, go_sem])
        · exact gd_off (by kernel_rfl) (Want.some_ (g := 3) (v := true) rfl rfl (by kernel_rfl) (by omega) rfl rfl (by kernel_rfl)) (.inr rfl) (fun D u w v h => h)
        · exact gd_off (by kernel_rfl) (Want.some_ (g := 3) (v := true) rfl rfl (by kernel_rfl) (by omega) rfl rfl (by kernel_rfl)) (.inr rfl) (fun D u w v h => h)
        · exact gd_off (by kernel_rfl) (Want.some_ (g := 3) (v := true) rfl rfl (by kernel_rfl) (by omega) rfl rfl (by kernel_rfl)) (.inr rfl) (fun D u w v h => h)
        · exact gd_off (by kernel_rfl) (Want.some_ (g := 3) (v := true) rfl rfl (by kernel_rfl) (by omega) rfl rfl (by kernel_rfl)) (.inr rfl) (fun D u w v h => h)
        · exact gd_off (by kernel_rfl) (Want.some_ (g := 3) (v := true) rfl rfl (by kernel_rfl) (by omega) rfl rfl (by kernel_rfl)) (.inr rfl) (fun D u w v h => h)
        · exact gd_off (by kernel_rfl) (Want.undef_ (g := 8) rfl rfl (by kernel_rfl) (by omega) rfl (by kernel_rfl)) (.inr rfl) (fun D u w v h => h)
        · exact gd_off (by kernel_rfl) (Want.undef_ (g := 8) rfl rfl (by kernel_rfl) (by omega) rfl (by kernel_rfl)) (.inr rfl) (fun D u w v h => h)
        · exact gd_off (by kernel_rfl) (Want.undef_ (g := 8) rfl rfl (by kernel_rfl) (by omega) rfl (by kernel_rfl)) (.inr rfl) (fun D u w v h => h)
        · exact gd_off (by kernel_rfl) (Want.undef_ (g := 8) rfl rfl (by kernel_rfl) (by omega) rfl (by kernel_rfl)) (.inr rfl) (fun D u w v h => h)
        · exact gd_off (by kernel_rfl) (Want.undef_ (g := 8) rfl rfl (by kernel_rfl) (by omega) rfl (by kernel_rfl)) (.inr rfl) (fun D u w v h => h)
        · exact gd_off (by kernel_rfl) (Want.undef_ (g := 8) rfl rfl (by kernel_rfl) (by omega) rfl (by kernel_rfl)) (.inr rfl) (fun D u w v h => h)
        · exact gd_off (by kernel_rfl) (Want.undef_ (g := 8) rfl rfl (by kernel_rfl) (by omega) rfl (by kernel_rfl)) (.inr rfl) (fun D u w v h => h)
        · exact gd_off (by kernel_rfl) (Want.undef_ (g := 8) rfl rfl (by kernel_rfl) (by omega) rfl (by kernel_rfl)) (.inr rfl) (fun D u w v h => h)
        · exact gd_off (by kernel_rfl) (Want.undef_ (g := 8) rfl rfl (by kernel_rfl) (by omega) rfl (by kernel_rfl)) (.inr rfl) (fun D u w v h => h)
        · exact gd_off (by kernel_rfl) (Want.undef_ (g := 8) rfl rfl (by kernel_rfl) (by omega) rfl (by kernel_rfl)) (.inr rfl) (fun D u w v h => h)
        · exact gd_off (by kernel_rfl) (Want.undef_ (g := 8) rfl rfl (by kernel_rfl) (by omega) rfl (by kernel_rfl)) (.inr rfl) (fun D u w v h => h)
        · exact gd_off (by kernel_rfl) (Want.some_ (g := 3) (v := true) rfl rfl (by kernel_rfl) (by omega) rfl rfl (by kernel_rfl)) (.inr rfl) (fun D u w v h => h)
        · exact gd_gen (by kernel_rfl) (Want.none_ rfl) rfl (fun D u w v h => h) (fun D u ρ w kn => by
            have e0 := kn.con 3 26 (c := .bool true) (by kernel_rfl) (by omega) (by kernel_rfl) rfl
            have e1 := kn.con 20 43 (c := undef) (by kernel_rfl) (by omega) (by kernel_rfl) rfl
            simp [execOp, kn.rho.con, e0, e1, go_sem])
      · intro D u w4 hJ hD
        obtain ⟨hc, hg4⟩ := hJ
        have e21 : u 21 = .bool true := hc 21 _ rfl (hD 21 (by omega))
        simp only [List.take_succ_cons, List.take_zero, List.drop_succ_cons, List.drop_zero, putAll]
        rw [e21]
        have G4 := Lib.hid (only_trans W1.out hg4)
        clear hc e21 hg4
        go_wp2_with fail
        go_ret
        exact ⟨by rw [HL.out]; rfl, G4.out⟩
    | false =>
      have HL := Lib.hid hab
      clear hab
      cases hba : b.less a with
      | true =>
        have HM := Lib.hid hba
        clear hba
        go_wp2_with fail
        refine wp_region_gen 22 (JC [some (.agg a.cells.toArray), some (.agg b.cells.toArray), some (.bool false), some (.bool false), some (.agg b.cells.toArray), some (.agg a.cells.toArray), some (.bool true), some (.bool false), some (.bool false), some (undef), some (undef), some (undef), some (undef), some (undef), some (undef), some (undef), some (undef), some (undef), some (undef), some (undef), some (.bool false), some (.bool false)] (fun D u w => w3.grownBy w none)) (by kernel_rfl) (by kernel_rfl) ?_ ?_ ?_
        · intro u
          exact ⟨(fun j c _ h => by cases h), only_drew (only_refl _ _)⟩
        · intro AA hA
          have hasz : AA.tmps.size = 45 := by rw [hA]; kernel_rfl
          have ea7 : AA.eval (.tmp 7) = .pointer (some ⟨b1, 0, none⟩) := by rw [hA]; kernel_rfl
          have ea8 : AA.eval (.tmp 8) = .pointer (some ⟨b2, 0, none⟩) := by rw [hA]; kernel_rfl
          have ea0 : AA.eval (.tmp 0) = .slice (some ⟨gr, off, none⟩) (n) (cq) := by rw [hA]; kernel_rfl
          have ea1 : AA.eval (.tmp 1) = .int .i64 (i) := by rw [hA]; kernel_rfl
          have ea2 : AA.eval (.tmp 2) = .int .i64 (j) := by rw [hA]; kernel_rfl
          clear hA
          simp only [List.take_succ_cons, List.take_zero]
          refine .cons ?_ (.cons ?_ (.cons ?_ (.cons ?_ (.cons ?_ (.cons ?_ (.cons ?_ (.cons ?_ (.cons ?_ (.cons ?_ (.cons ?_ (.cons ?_ (.cons ?_ (.cons ?_ (.cons ?_ (.cons ?_ (.cons ?_ (.cons ?_ (.cons ?_ (.cons ?_ (.cons ?_ (.cons ?_ (.nil))))))))))))))))))))))
          · exact gd_gen (by kernel_rfl) (Want.none_ rfl) rfl (fun D u w v h => h) (fun D u ρ w kn => by
              have e0 := kn.own 7 (c := .pointer (some ⟨b1, 0, none⟩)) (by kernel_rfl) ea7
              exact run_load ρ w rfl e0 (load_evAt w b1 0 a (blk_cells (Y1.out.grown kn.ext (by simp)))))
          · exact gd_gen (by kernel_rfl) (Want.none_ rfl) rfl (fun D u w v h => h) (fun D u ρ w kn => by
              have e0 := kn.own 8 (c := .pointer (some ⟨b2, 0, none⟩)) (by kernel_rfl) ea8
              exact run_load ρ w rfl e0 (load_evAt w b2 0 b (blk_cells (Y2.out.grown kn.ext (by simp)))))
          · refine gd_call (by kernel_rfl) (Want.none_ rfl) 32 (fun D u ρ w kn hD => ?_)
            have e0 := kn.con 0 23 (c := .agg a.cells.toArray) (by kernel_rfl) (by omega) (by kernel_rfl) rfl
            have e1 := kn.con 1 24 (c := .agg b.cells.toArray) (by kernel_rfl) (by omega) (by kernel_rfl) rfl
            refine ⟨#[.agg a.cells.toArray, .agg b.cells.toArray], ?_, (eless_any a b w).mono ?_⟩
            · simp only [execOp, resolve, Deferred.ofValue, List.map_toArray, List.map_cons, List.map_nil, e0, e1, kn.rho.con, kn.rho.fn]
              simp [go_sem]
            · rintro e w' ⟨rfl, hg⟩
              exact ⟨_, rfl, (fun c h => by injection h with h; injection h with h; rw [← h, HL.out]), only_trans kn.ext hg⟩
          · exact gd_gen (by kernel_rfl) (Want.none_ rfl) rfl (fun D u w v h => h) (fun D u ρ w kn => by
              have e0 := kn.con 2 25 (c := .bool false) (by kernel_rfl) (by omega) (by kernel_rfl) rfl
              simp [execOp, kn.rho.con, e0, go_sem])
          · exact gd_gen (by kernel_rfl) (Want.some_ (g := 3) (v := false) rfl rfl (by kernel_rfl) (by omega) rfl rfl (by kernel_rfl)) rfl (fun D u w v h => h) (fun D u ρ w kn => by
              have e0 := kn.own 8 (c := .pointer (some ⟨b2, 0, none⟩)) (by kernel_rfl) ea8
              exact run_load ρ w rfl e0 (load_evAt w b2 0 b (blk_cells (Y2.out.grown kn.ext (by simp)))))
          · exact gd_gen (by kernel_rfl) (Want.some_ (g := 3) (v := false) rfl rfl (by kernel_rfl) (by omega) rfl rfl (by kernel_rfl)) rfl (fun D u w v h => h) (fun D u ρ w kn => by
              have e0 := kn.own 7 (c := .pointer (some ⟨b1, 0, none⟩)) (by kernel_rfl) ea7
              exact run_load ρ w rfl e0 (load_evAt w b1 0 a (blk_cells (Y1.out.grown kn.ext (by simp)))))
          · refine gd_call (by kernel_rfl) (Want.some_ (g := 3) (v := false) rfl rfl (by kernel_rfl) (by omega) rfl rfl (by kernel_rfl)) 32 (fun D u ρ w kn hD => ?_)
            have e0 := kn.con 4 27 (c := .agg b.cells.toArray) (by kernel_rfl) (by omega) (by kernel_rfl) rfl
            have e1 := kn.con 5 28 (c := .agg a.cells.toArray) (by kernel_rfl) (by omega) (by kernel_rfl) rfl
            refine ⟨#[.agg b.cells.toArray, .agg a.cells.toArray], ?_, (eless_any b a w).mono ?_⟩
            · simp only [execOp, resolve, Deferred.ofValue, List.map_toArray, List.map_cons, List.map_nil, e0, e1, kn.rho.con, kn.rho.fn]
              simp [go_sem]
            · rintro e w' ⟨rfl, hg⟩
              exact ⟨_, rfl, (fun c h => by injection h with h; injection h with h; rw [← h, HM.out]), only_trans kn.ext hg⟩
          · exact gd_gen (by kernel_rfl) (Want.some_ (g := 3) (v := false) rfl rfl (by kernel_rfl) (by omega) rfl rfl (by kernel_rfl)) rfl (fun D u w v h => h) (fun D u ρ w kn => by
              have e0 := kn.con 6 29 (c := .bool true) (by kernel_rfl) (by omega) (by kernel_rfl) rfl
              simp [execOp, kn.rho.con, e0, go_sem])
          · exact gd_gen (by kernel_rfl) (Want.some_ (g := 3) (v := false) rfl rfl (by kernel_rfl) (by omega) rfl rfl (by kernel_rfl)) rfl (fun D u w v h => h) (fun D u ρ w kn => by
              have e0 := kn.con 7 30 (c := .bool false) (by kernel_rfl) (by omega) (by kernel_rfl) rfl
              simp [execOp, kn.rho.con, e0, go_sem])
          · exact gd_off (by kernel_rfl) (Want.some_ (g := 8) (v := false) rfl rfl (by kernel_rfl) (by omega) rfl rfl (by kernel_rfl)) (.inr rfl) (fun D u w v h => h)
          · exact gd_off (by kernel_rfl) (Want.some_ (g := 8) (v := false) rfl rfl (by kernel_rfl) (by omega) rfl rfl (by kernel_rfl)) (.inr rfl) (fun D u w v h => h)
          · exact gd_off (by kernel_rfl) (Want.some_ (g := 8) (v := false) rfl rfl (by kernel_rfl) (by omega) rfl rfl (by kernel_rfl)) (.inr rfl) (fun D u w v h => h)
          · exact gd_off (by kernel_rfl) (Want.some_ (g := 8) (v := false) rfl rfl (by kernel_rfl) (by omega) rfl rfl (by kernel_rfl)) (.inr rfl) (fun D u w v h => h)
          · exact gd_off (by kernel_rfl) (Want.some_ (g := 8) (v := false) rfl rfl (by kernel_rfl) (by omega) rfl rfl (by kernel_rfl)) (.inr rfl) (fun D u w v h => h)
          · exact gd_off (by kernel_rfl) (Want.some_ (g := 8) (v := false) rfl rfl (by kernel_rfl) (by omega) rfl rfl (by kernel_rfl)) (.inr rfl) (fun D u w v h => h)
          · exact gd_off (by kernel_rfl) (Want.some_ (g := 8) (v := false) rfl rfl (by kernel_rfl) (by omega) rfl rfl (by kernel_rfl)) (.inr rfl) (fun D u w v h => h)
          · exact gd_off (by kernel_rfl) (Want.some_ (g := 8) (v := false) rfl rfl (by kernel_rfl) (by omega) rfl rfl (by kernel_rfl)) (.inr rfl) (fun D u w v h => h)
          · exact gd_off (by kernel_rfl) (Want.some_ (g := 8) (v := false) rfl rfl (by kernel_rfl) (by omega) rfl rfl (by kernel_rfl)) (.inr rfl) (fun D u w v h => h)
          · exact gd_off (by kernel_rfl) (Want.some_ (g := 8) (v := false) rfl rfl (by kernel_rfl) (by omega) rfl rfl (by kernel_rfl)) (.inr rfl) (fun D u w v h => h)
          · exact gd_off (by kernel_rfl) (Want.some_ (g := 8) (v := false) rfl rfl (by kernel_rfl) (by omega) rfl rfl (by kernel_rfl)) (.inr rfl) (fun D u w v h => h)
          · exact gd_gen (by kernel_rfl) (Want.some_ (g := 3) (v := false) rfl rfl (by kernel_rfl) (by omega) rfl rfl (by kernel_rfl)) rfl (fun D u w v h => h) (fun D u ρ w kn => by
              have e0 := kn.con 8 31 (c := .bool false) (by kernel_rfl) (by omega) (by kernel_rfl) rfl
              have e1 := kn.con 19 42 (c := undef) (by kernel_rfl) (by omega) (by kernel_rfl) rfl
              simp [execOp, kn.rho.con, e0, e1, go_sem])
          · exact gd_gen (by kernel_rfl) (Want.none_ rfl) rfl (fun D u w v h => h) (fun D u ρ w kn => by
              have e0 := kn.con 3 26 (c := .bool false) (by kernel_rfl) (by omega) (by kernel_rfl) rfl
              have e1 := kn.con 20 43 (c := .bool false) (by kernel_rfl) (by omega) (by kernel_rfl) rfl
              simp [execOp, kn.rho.con, e0, e1, go_sem])
        · intro D u w4 hJ hD
          obtain ⟨hc, hg4⟩ := hJ
          have e21 : u 21 = .bool false := hc 21 _ rfl (hD 21 (by omega))
          simp only [List.take_succ_cons, List.take_zero, List.drop_succ_cons, List.drop_zero, putAll]
          rw [e21]
          have G4 := Lib.hid (only_trans W1.out hg4)
          clear hc e21 hg4
          go_wp2_with fail
          go_ret
          exact ⟨by rw [HL.out, HM.out]; rfl, G4.out⟩
      | false =>
        have HM := Lib.hid hba
        clear hba
        obtain ⟨v3, hv3⟩ : ∃ v, decide (x < y) = v := ⟨_, rfl⟩
        have HV := Lib.hid hv3
        clear hv3
        go_wp2_with fail
        refine wp_region_gen 22 (JC [some (.agg a.cells.toArray), some (.agg b.cells.toArray), some (.bool false), some (.bool false), some (.agg b.cells.toArray), some (.agg a.cells.toArray), some (.bool false), some (.bool true), some (.bool true), some (.slice (some ⟨gr, off, none⟩) (n) (cq)), some (.int .i64 (i)), some (.pointer (some ⟨gr, off + i * 2, none⟩)), some (.pointer (some ⟨gr, off + i * 2 + 1, none⟩)), some (.int .i64 (x)), some (.slice (some ⟨gr, off, none⟩) (n) (cq)), some (.int .i64 (j)), some (.pointer (some ⟨gr, off + j * 2, none⟩)), some (.pointer (some ⟨gr, off + j * 2 + 1, none⟩)), some (.int .i64 (y)), some (.bool v3), some (.bool v3), some (.bool v3)] (fun D u w => w3.grownBy w none)) (by kernel_rfl) (by kernel_rfl) ?_ ?_ ?_
        · intro u
          exact ⟨(fun j c _ h => by cases h), only_drew (only_refl _ _)⟩
        · intro AA hA
          have hasz : AA.tmps.size = 45 := by rw [hA]; kernel_rfl
          have ea7 : AA.eval (.tmp 7) = .pointer (some ⟨b1, 0, none⟩) := by rw [hA]; kernel_rfl
          have ea8 : AA.eval (.tmp 8) = .pointer (some ⟨b2, 0, none⟩) := by rw [hA]; kernel_rfl
          have ea0 : AA.eval (.tmp 0) = .slice (some ⟨gr, off, none⟩) (n) (cq) := by rw [hA]; kernel_rfl
          have ea1 : AA.eval (.tmp 1) = .int .i64 (i) := by rw [hA]; kernel_rfl
          have ea2 : AA.eval (.tmp 2) = .int .i64 (j) := by rw [hA]; kernel_rfl
          clear hA
          simp only [List.take_succ_cons, List.take_zero]
          refine .cons ?_ (.cons ?_ (.cons ?_ (.cons ?_ (.cons ?_ (.cons ?_ (.cons ?_ (.cons ?_ (.cons ?_ (.cons ?_ (.cons ?_ (.cons ?_ (.cons ?_ (.cons ?_ (.cons ?_ (.cons ?_ (.cons ?_ (.cons ?_ (.cons ?_ (.cons ?_ (.cons ?_ (.cons ?_ (.nil))))))))))))))))))))))
          · exact gd_gen (by kernel_rfl) (Want.none_ rfl) rfl (fun D u w v h => h) (fun D u ρ w kn => by
              have e0 := kn.own 7 (c := .pointer (some ⟨b1, 0, none⟩)) (by kernel_rfl) ea7
              exact run_load ρ w rfl e0 (load_evAt w b1 0 a (blk_cells (Y1.out.grown kn.ext (by simp)))))
          · exact gd_gen (by kernel_rfl) (Want.none_ rfl) rfl (fun D u w v h => h) (fun D u ρ w kn => by
              have e0 := kn.own 8 (c := .pointer (some ⟨b2, 0, none⟩)) (by kernel_rfl) ea8
              exact run_load ρ w rfl e0 (load_evAt w b2 0 b (blk_cells (Y2.out.grown kn.ext (by simp)))))
          · refine gd_call (by kernel_rfl) (Want.none_ rfl) 32 (fun D u ρ w kn hD => ?_)
            have e0 := kn.con 0 23 (c := .agg a.cells.toArray) (by kernel_rfl) (by omega) (by kernel_rfl) rfl
            have e1 := kn.con 1 24 (c := .agg b.cells.toArray) (by kernel_rfl) (by omega) (by kernel_rfl) rfl
            refine ⟨#[.agg a.cells.toArray, .agg b.cells.toArray], ?_, (eless_any a b w).mono ?_⟩
            · simp only [execOp, resolve, Deferred.ofValue, List.map_toArray, List.map_cons, List.map_nil, e0, e1, kn.rho.con, kn.rho.fn]
              simp [go_sem]
            · rintro e w' ⟨rfl, hg⟩
              exact ⟨_, rfl, (fun c h => by injection h with h; injection h with h; rw [← h, HL.out]), only_trans kn.ext hg⟩
          · exact gd_gen (by kernel_rfl) (Want.none_ rfl) rfl (fun D u w v h => h) (fun D u ρ w kn => by
              have e0 := kn.con 2 25 (c := .bool false) (by kernel_rfl) (by omega) (by kernel_rfl) rfl
              simp [execOp, kn.rho.con, e0, go_sem])
          · exact gd_gen (by kernel_rfl) (Want.some_ (g := 3) (v := false) rfl rfl (by kernel_rfl) (by omega) rfl rfl (by kernel_rfl)) rfl (fun D u w v h => h) (fun D u ρ w kn => by
              have e0 := kn.own 8 (c := .pointer (some ⟨b2, 0, none⟩)) (by kernel_rfl) ea8
              exact run_load ρ w rfl e0 (load_evAt w b2 0 b (blk_cells (Y2.out.grown kn.ext (by simp)))))
          · exact gd_gen (by kernel_rfl) (Want.some_ (g := 3) (v := false) rfl rfl (by kernel_rfl) (by omega) rfl rfl (by kernel_rfl)) rfl (fun D u w v h => h) (fun D u ρ w kn => by
              have e0 := kn.own 7 (c := .pointer (some ⟨b1, 0, none⟩)) (by kernel_rfl) ea7
              exact run_load ρ w rfl e0 (load_evAt w b1 0 a (blk_cells (Y1.out.grown kn.ext (by simp)))))
          · refine gd_call (by kernel_rfl) (Want.some_ (g := 3) (v := false) rfl rfl (by kernel_rfl) (by omega) rfl rfl (by kernel_rfl)) 32 (fun D u ρ w kn hD => ?_)
            have e0 := kn.con 4 27 (c := .agg b.cells.toArray) (by kernel_rfl) (by omega) (by kernel_rfl) rfl
            have e1 := kn.con 5 28 (c := .agg a.cells.toArray) (by kernel_rfl) (by omega) (by kernel_rfl) rfl
            refine ⟨#[.agg b.cells.toArray, .agg a.cells.toArray], ?_, (eless_any b a w).mono ?_⟩
            · simp only [execOp, resolve, Deferred.ofValue, List.map_toArray, List.map_cons, List.map_nil, e0, e1, kn.rho.con, kn.rho.fn]
              simp [go_sem]
            · rintro e w' ⟨rfl, hg⟩
              exact ⟨_, rfl, (fun c h => by injection h with h; injection h with h; rw [← h, HM.out]), only_trans kn.ext hg⟩
          · exact gd_gen (by kernel_rfl) (Want.some_ (g := 3) (v := false) rfl rfl (by kernel_rfl) (by omega) rfl rfl (by kernel_rfl)) rfl (fun D u w v h => h) (fun D u ρ w kn => by
              have e0 := kn.con 6 29 (c := .bool false) (by kernel_rfl) (by omega) (by kernel_rfl) rfl
              simp [execOp, kn.rho.con, e0, go_sem])
          · exact gd_gen (by kernel_rfl) (Want.some_ (g := 3) (v := false) rfl rfl (by kernel_rfl) (by omega) rfl rfl (by kernel_rfl)) rfl (fun D u w v h => h) (fun D u ρ w kn => by
              have e0 := kn.con 7 30 (c := .bool true) (by kernel_rfl) (by omega) (by kernel_rfl) rfl
              simp [execOp, kn.rho.con, e0, go_sem])
          · exact gd_gen (by kernel_rfl) (Want.some_ (g := 8) (v := true) rfl rfl (by kernel_rfl) (by omega) rfl rfl (by kernel_rfl)) rfl (fun D u w v h => h) (fun D u ρ w kn => by
              have e0 := kn.own 0 (c := .slice (some ⟨gr, off, none⟩) (n) (cq)) (by kernel_rfl) ea0
              simp [execOp, kn.rho.con, e0, go_sem])
          · exact gd_gen (by kernel_rfl) (Want.some_ (g := 8) (v := true) rfl rfl (by kernel_rfl) (by omega) rfl rfl (by kernel_rfl)) rfl (fun D u w v h => h) (fun D u ρ w kn => by
              have e0 := kn.own 1 (c := .int .i64 (i)) (by kernel_rfl) ea1
              simp [execOp, kn.rho.con, e0, go_sem])
          · exact gd_gen (by kernel_rfl) (Want.some_ (g := 8) (v := true) rfl rfl (by kernel_rfl) (by omega) rfl rfl (by kernel_rfl)) rfl (fun D u w v h => h) (fun D u ρ w kn => by
              have e0 := kn.con 9 32 (c := .slice (some ⟨gr, off, none⟩) (n) (cq)) (by kernel_rfl) (by omega) (by kernel_rfl) rfl
              have e1 := kn.con 10 33 (c := .int .i64 (i)) (by kernel_rfl) (by omega) (by kernel_rfl) rfl
              simp [execOp, kn.rho.con, e0, e1, go_sem, hi])
          · exact gd_gen (by kernel_rfl) (Want.some_ (g := 8) (v := true) rfl rfl (by kernel_rfl) (by omega) rfl rfl (by kernel_rfl)) rfl (fun D u w v h => h) (fun D u ρ w kn => by
              have e0 := kn.con 11 34 (c := .pointer (some ⟨gr, off + i * 2, none⟩)) (by kernel_rfl) (by omega) (by kernel_rfl) rfl
              simp [execOp, kn.rho.con, e0, go_sem])
          · exact gd_gen (by kernel_rfl) (Want.some_ (g := 8) (v := true) rfl rfl (by kernel_rfl) (by omega) rfl rfl (by kernel_rfl)) rfl (fun D u w v h => h) (fun D u ρ w kn => by
              have e0 := kn.con 12 35 (c := .pointer (some ⟨gr, off + i * 2 + 1, none⟩)) (by kernel_rfl) (by omega) (by kernel_rfl) rfl
              have f0 := (cell_gr kn.ext (Nat.lt_of_lt_of_le hgr W1.out.size)).trans ((cell_gr W1.out hgr).trans q1)
              simp [execOp, kn.rho.con, e0, f0, go_sem])
          · exact gd_gen (by kernel_rfl) (Want.some_ (g := 8) (v := true) rfl rfl (by kernel_rfl) (by omega) rfl rfl (by kernel_rfl)) rfl (fun D u w v h => h) (fun D u ρ w kn => by
              have e0 := kn.own 0 (c := .slice (some ⟨gr, off, none⟩) (n) (cq)) (by kernel_rfl) ea0
              simp [execOp, kn.rho.con, e0, go_sem])
          · exact gd_gen (by kernel_rfl) (Want.some_ (g := 8) (v := true) rfl rfl (by kernel_rfl) (by omega) rfl rfl (by kernel_rfl)) rfl (fun D u w v h => h) (fun D u ρ w kn => by
              have e0 := kn.own 2 (c := .int .i64 (j)) (by kernel_rfl) ea2
              simp [execOp, kn.rho.con, e0, go_sem])
          · exact gd_gen (by kernel_rfl) (Want.some_ (g := 8) (v := true) rfl rfl (by kernel_rfl) (by omega) rfl rfl (by kernel_rfl)) rfl (fun D u w v h => h) (fun D u ρ w kn => by
              have e0 := kn.con 14 37 (c := .slice (some ⟨gr, off, none⟩) (n) (cq)) (by kernel_rfl) (by omega) (by kernel_rfl) rfl
              have e1 := kn.con 15 38 (c := .int .i64 (j)) (by kernel_rfl) (by omega) (by kernel_rfl) rfl
              simp [execOp, kn.rho.con, e0, e1, go_sem, hj])
          · exact gd_gen (by kernel_rfl) (Want.some_ (g := 8) (v := true) rfl rfl (by kernel_rfl) (by omega) rfl rfl (by kernel_rfl)) rfl (fun D u w v h => h) (fun D u ρ w kn => by
              have e0 := kn.con 16 39 (c := .pointer (some ⟨gr, off + j * 2, none⟩)) (by kernel_rfl) (by omega) (by kernel_rfl) rfl
              simp [execOp, kn.rho.con, e0, go_sem])
          · exact gd_gen (by kernel_rfl) (Want.some_ (g := 8) (v := true) rfl rfl (by kernel_rfl) (by omega) rfl rfl (by kernel_rfl)) rfl (fun D u w v h => h) (fun D u ρ w kn => by
              have e0 := kn.con 17 40 (c := .pointer (some ⟨gr, off + j * 2 + 1, none⟩)) (by kernel_rfl) (by omega) (by kernel_rfl) rfl
              have f0 := (cell_gr kn.ext (Nat.lt_of_lt_of_le hgr W1.out.size)).trans ((cell_gr W1.out hgr).trans p1)
              simp [execOp, kn.rho.con, e0, f0, go_sem])
          · exact gd_gen (by kernel_rfl) (Want.some_ (g := 8) (v := true) rfl rfl (by kernel_rfl) (by omega) rfl rfl (by kernel_rfl)) rfl (fun D u w v h => h) (fun D u ρ w kn => by
              have e0 := kn.con 13 36 (c := .int .i64 (x)) (by kernel_rfl) (by omega) (by kernel_rfl) rfl
              have e1 := kn.con 18 41 (c := .int .i64 (y)) (by kernel_rfl) (by omega) (by kernel_rfl) rfl
              simp [execOp, kn.rho.con, e0, e1, go_sem, HV.out])
          · exact gd_gen (by kernel_rfl) (Want.some_ (g := 3) (v := false) rfl rfl (by kernel_rfl) (by omega) rfl rfl (by kernel_rfl)) rfl (fun D u w v h => h) (fun D u ρ w kn => by
              have e0 := kn.con 8 31 (c := .bool true) (by kernel_rfl) (by omega) (by kernel_rfl) rfl
              have e1 := kn.con 19 42 (c := .bool v3) (by kernel_rfl) (by omega) (by kernel_rfl) rfl
              simp [execOp, kn.rho.con, e0, e1, go_sem])
          · exact gd_gen (by kernel_rfl) (Want.none_ rfl) rfl (fun D u w v h => h) (fun D u ρ w kn => by
              have e0 := kn.con 3 26 (c := .bool false) (by kernel_rfl) (by omega) (by kernel_rfl) rfl
              have e1 := kn.con 20 43 (c := .bool v3) (by kernel_rfl) (by omega) (by kernel_rfl) rfl
              simp [execOp, kn.rho.con, e0, e1, go_sem])
        · intro D u w4 hJ hD
          obtain ⟨hc, hg4⟩ := hJ
          have e21 : u 21 = .bool v3 := hc 21 _ rfl (hD 21 (by omega))
          simp only [List.take_succ_cons, List.take_zero, List.drop_succ_cons, List.drop_zero, putAll]
          rw [e21]
          have G4 := Lib.hid (only_trans W1.out hg4)
          clear hc e21 hg4
          go_wp2_with fail
          go_ret
          exact ⟨by rw [HL.out, HM.out, HV.out]; rfl, G4.out⟩
end Go.Proofs.Ytphglalphejppaa
