/- An event in memory: loads, stores, boxes for drawn regions (parted from XQLess). No condition. -/
import Derived.Test.YtceebhgbebkafaaGreatDoorGenC
import Derived.Test.YtceebhgbebkafaaGreatDoorItemR
import Derived.Test.YtceebhgbebkafaaGreatDoorLess
namespace Go.Proofs.YtceebhgbebkafaaGreatDoor
open Go.RowKit
set_option linter.unusedVariables false
set_option linter.unusedSimpArgs false

theorem cell_gr {w w' : World} (h : w.grownBy w' none) {b o : Nat} (hb : b < w.heap.size) : w'.cell? ⟨b, o, none⟩ = w.cell? ⟨b, o, none⟩ := World.cell?_of_block (a := ⟨b, o, none⟩) (h.block b hb (by simp))
theorem run_load (ρ : Operand → Value) (w : World) {o : Oper} {t : TypeId} {x : Nat} {p c : Value} (ho : o.op = .load t (.tmp x)) (hx : ρ (.tmp x) = p) (h : (Instr.loadAt t p).run Tryz.prog w = .ok c w) : (execOp ρ o).run Tryz.prog w = .ok (.value c) w := by
  simp only [execOp, ho, hx, Sem.run_bind, h, Result.andThen_ok, Sem.run_pure]
def zeroRow : Array Value := #[.int .i64 0, .int .i64 0, .int .i64 0, .int .i64 0, .slice none 0 0, .int .i64 0, .int .i64 0, .string ⟨#[]⟩, .string ⟨#[]⟩, .slice none 0 0]
theorem load_evAt (w : World) (b o : Nat) (a : Ev) (h : ∀ m, m < 10 → w.cell? ⟨b, o + m, none⟩ = a.cells[m]?) : (Instr.loadAt 35 (.pointer (some ⟨b, o, none⟩))).run Tryz.prog w = .ok (.agg a.cells.toArray) w := by
  have c0 := h 0 (by omega)
  have c1 := h 1 (by omega)
  have c2 := h 2 (by omega)
  have c3 := h 3 (by omega)
  have c4 := h 4 (by omega)
  have c5 := h 5 (by omega)
  have c6 := h 6 (by omega)
  have c7 := h 7 (by omega)
  have c8 := h 8 (by omega)
  have c9 := h 9 (by omega)
  simp [Ev.cells] at c0 c1 c2 c3 c4 c5 c6 c7 c8 c9
  have hu := Tryz.underlying35
  simp [go_sem, c0, c1, c2, c3, c4, c5, c6, c7, c8, c9, Ev.cells]
theorem store_ev (w : World) (g : Nat) (x : Ev) {t : TypeId} {cs : Array Value} (h : Blk w g t cs) (hs : cs.size = 10) :
    ∃ w', (Instr.storeAt 35 (.pointer (some ⟨g, 0, none⟩)) (.agg x.cells.toArray)).run Tryz.prog w = .ok () w' ∧ Blk w' g t x.cells.toArray ∧ w.grownBy w' (some g) := by
  obtain ⟨l, rfl⟩ : ∃ l : List Value, cs = l.toArray := ⟨cs.toList, by simp⟩
  have hl : l.length = 10 := by simpa using hs
  obtain ⟨v0, v1, v2, v3, v4, v5, v6, v7, v8, v9, rfl⟩ : ∃ v0 v1 v2 v3 v4 v5 v6 v7 v8 v9, l = [v0, v1, v2, v3, v4, v5, v6, v7, v8, v9] := by
    match l, hl with
    | [v0, v1, v2, v3, v4, v5, v6, v7, v8, v9], _ => exact ⟨_, _, _, _, _, _, _, _, _, _, rfl⟩
  have c0 := h.cell 0
  have f0 := h.frozen 0
  have c1 := h.cell 1
  have f1 := h.frozen 1
  have c2 := h.cell 2
  have f2 := h.frozen 2
  have c3 := h.cell 3
  have f3 := h.frozen 3
  have c4 := h.cell 4
  have f4 := h.frozen 4
  have c5 := h.cell 5
  have f5 := h.frozen 5
  have c6 := h.cell 6
  have f6 := h.frozen 6
  have c7 := h.cell 7
  have f7 := h.frozen 7
  have c8 := h.cell 8
  have f8 := h.frozen 8
  have c9 := h.cell 9
  have f9 := h.frozen 9
  simp at c0 c1 c2 c3 c4 c5 c6 c7 c8 c9
  have hu := Tryz.underlying35
  refine ⟨((((((((((w.setCell ⟨g, 0, none⟩ (.int .i64 x.host)).setCell ⟨g, 1, none⟩ (.int .i64 x.file)).setCell ⟨g, 2, none⟩ (.int .i64 x.beg)).setCell ⟨g, 3, none⟩ (.int .i64 x.fin)).setCell ⟨g, 4, none⟩ (.slice x.la x.lines.length x.lc)).setCell ⟨g, 5, none⟩ (.int .i64 x.time)).setCell ⟨g, 6, none⟩ (.int .i64 x.weight)).setCell ⟨g, 7, none⟩ (.string x.trace)).setCell ⟨g, 8, none⟩ (.string x.stream)).setCell ⟨g, 9, none⟩ (.slice x.fa x.fields.length x.fc)), ?_, ?_, ?_⟩
  · simp [go_sem, Ev.cells, c0, c1, c2, c3, c4, c5, c6, c7, c8, c9, f0, f1, f2, f3, f4, f5, f6, f7, f8, f9]
  · have := ((((((((((h.set_ 0 (.int .i64 x.host)).set_ 1 (.int .i64 x.file)).set_ 2 (.int .i64 x.beg)).set_ 3 (.int .i64 x.fin)).set_ 4 (.slice x.la x.lines.length x.lc)).set_ 5 (.int .i64 x.time)).set_ 6 (.int .i64 x.weight)).set_ 7 (.string x.trace)).set_ 8 (.string x.stream)).set_ 9 (.slice x.fa x.fields.length x.fc))
    simpa [Ev.cells] using this
  · have g0 : w.grownBy _ (some g) := only_setCell (only_refl w (some g)) (p := ⟨g, 0, none⟩) (.inl rfl) (.int .i64 x.host)
    have g1 : w.grownBy _ (some g) := only_setCell g0 (p := ⟨g, 1, none⟩) (.inl rfl) (.int .i64 x.file)
    have g2 : w.grownBy _ (some g) := only_setCell g1 (p := ⟨g, 2, none⟩) (.inl rfl) (.int .i64 x.beg)
    have g3 : w.grownBy _ (some g) := only_setCell g2 (p := ⟨g, 3, none⟩) (.inl rfl) (.int .i64 x.fin)
    have g4 : w.grownBy _ (some g) := only_setCell g3 (p := ⟨g, 4, none⟩) (.inl rfl) (.slice x.la x.lines.length x.lc)
    have g5 : w.grownBy _ (some g) := only_setCell g4 (p := ⟨g, 5, none⟩) (.inl rfl) (.int .i64 x.time)
    have g6 : w.grownBy _ (some g) := only_setCell g5 (p := ⟨g, 6, none⟩) (.inl rfl) (.int .i64 x.weight)
    have g7 : w.grownBy _ (some g) := only_setCell g6 (p := ⟨g, 7, none⟩) (.inl rfl) (.string x.trace)
    have g8 : w.grownBy _ (some g) := only_setCell g7 (p := ⟨g, 8, none⟩) (.inl rfl) (.string x.stream)
    have g9 : w.grownBy _ (some g) := only_setCell g8 (p := ⟨g, 9, none⟩) (.inl rfl) (.slice x.fa x.fields.length x.fc)
    exact g9
theorem alloc_ev (ρ : Operand → Value) (w : World) {o : Oper} (ho : o.op = .alloc 35 := by rfl) : (execOp ρ o).run Tryz.prog w = .ok (.value (.pointer (some ⟨w.heap.size, 0, none⟩))) (w.alloc (.cells zeroRow 35)) := by
  simp only [execOp, ho]
  kernel_rfl
theorem blk_cells {w : World} {b t : Nat} {a : Ev} (h : Blk w b t a.cells.toArray) : ∀ m, m < 10 → w.cell? ⟨b, 0 + m, none⟩ = a.cells[m]? := fun m _ => by rw [Nat.zero_add, h.cell m]; simp
/-- a box that has been laid: empty till it is filled -/
def BoxI (r t i k : Nat) (z x : Array Value) (D : Nat → Bool) (u : Nat → Value) (w : World) : Prop := D i = true → ∃ b, u i = .pointer (some ⟨b, 0, none⟩) ∧ r ≤ b ∧ Blk w b t (if D k = true then x else z)
theorem BoxI.new {W0 w : World} {t i k : Nat} {z x : Array Value} {D : Nat → Bool} {u : Nat → Value} (h : W0.grownBy w none) (hk : D k = false) (hik : k ≠ i := by omega) : BoxI W0.heap.size t i k z x (updB D i) (upd u i (.pointer (some ⟨w.heap.size, 0, none⟩))) (w.alloc (.cells z t)) := by
  intro _
  refine ⟨w.heap.size, upd_at _ _ _, h.size, ?_⟩
  rw [updB_ne D hik, hk, if_neg (by simp)]
  exact Blk.new w t z
theorem BoxI.kept {r t i k : Nat} {z x : Array Value} {D D' : Nat → Bool} {u u' : Nat → Value} {w w' : World} (h : BoxI r t i k z x D u w) (h1 : D' i = D i) (h2 : D' k = D k) (h3 : u' i = u i) (hb : ∀ b cs, r ≤ b → Blk w b t cs → Blk w' b t cs) : BoxI r t i k z x D' u' w' := by
  intro hi
  rw [h1] at hi
  obtain ⟨b, y1, y2, y3⟩ := h hi
  exact ⟨b, h3.trans y1, y2, by rw [h2]; exact hb b _ y2 y3⟩
theorem BoxI.kept' {r t i k : Nat} {z x : Array Value} {D D' : Nat → Bool} {u u' : Nat → Value} {w w' : World} (h : BoxI r t i k z x D u w) (h1 : D' i = D i) (h2 : D' k = D k) (h3 : u' i = u i) (hb : D i = true → ∀ b cs, r ≤ b → u i = .pointer (some ⟨b, 0, none⟩) → Blk w b t cs → Blk w' b t cs) : BoxI r t i k z x D' u' w' := by
  intro hi
  rw [h1] at hi
  obtain ⟨b, y1, y2, y3⟩ := h hi
  exact ⟨b, h3.trans y1, y2, by rw [h2]; exact hb hi b _ y2 y1 y3⟩

end Go.Proofs.YtceebhgbebkafaaGreatDoor
