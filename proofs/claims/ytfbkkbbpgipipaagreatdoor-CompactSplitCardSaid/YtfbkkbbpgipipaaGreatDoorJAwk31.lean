/- law31: awake (parted from XLaw31A). No condition. -/
import Derived.Test.YtfbkkbbpgipipaaGreatDoorJSplL
import Derived.Test.YtfbkkbbpgipipaaGreatDoorJGenC
import Derived.Test.YtfbkkbbpgipipaaGreatDoorJStepR
import Derived.Test.YtfbkkbbpgipipaaGreatDoorJCloneFd
import Derived.Test.YtfbkkbbpgipipaaGreatDoorJFiles
import Derived.StillTailTactics
namespace Go.Proofs.YtfbkkbbpgipipaaGreatDoor
open Go.RowKit
set_option linter.unusedVariables false
set_option linter.unusedSimpArgs false

def TrueExt (w : World) (e : Ending) (w' : World) : Prop := e = .returned (.bool true) ∧ w.grownBy w' none
def ev7 : Ev := ⟨0, 0, 0, 0, [], 7, 0, ⟨#[]⟩, ⟨#[]⟩, [], none, 0, none, 0⟩
theorem Blk.rdl {w : World} {g : Nat} {t : TypeId} {cs : Array Value} (h : Blk w g t cs) : Rd (fun _ => True) w (some ⟨g, 0, none⟩) cs.toList := fun _ =>
  ⟨g, 0, rfl, trivial, h.lt, fun j u hu => by rw [Nat.zero_add, h.cell j]; simpa using hu⟩
set_option maxHeartbeats 1000000 in
set_option maxRecDepth 100000 in
theorem awake_any (w : World) : Calls Tryz.prog 4 #[] w (TrueExt w) := by
  have hR : Rd (fun _ => True) (w.alloc (.cells ev7.cells.toArray 35)) (some ⟨w.heap.size, 0, none⟩) ([ev7].flatMap Ev.cells) := by
    have := (Blk.new w 35 ev7.cells.toArray).rdl
    simpa using this
  have HC : Hid (Calls Tryz.prog 12 #[.slice (some ⟨w.heap.size, 0, none⟩) 1 1, .int .i64 2, .int .i64 1, .int .i64 9] (w.alloc (.cells ev7.cells.toArray 35)) (InfoPost (w.alloc (.cells ev7.cells.toArray 35)) [ev7] 2 1 9)) := info_any (some ⟨w.heap.size, 0, none⟩) [ev7] 1 2 1 9 _ hR (by simp) (by simp) (by unfold maxLen; omega)
  have hfld : ∀ w : World, (Instr.field 43 (.agg #[.int .i64 0, .int .i64 2, .int .i64 1, .int .i64 1, .int .i64 7, .int .i64 7, .int .i64 9]) 4).run Tryz.prog w = .ok (.int .i64 7) w := fun w => by kernel_rfl
  clear hR
  go_enter Tryz.func4, Tryz.ntmps4
  go_wp2_with fail
  refine HC.out.mono ?_
  rintro e w2 ⟨rfl, hg2⟩
  have hrow : siRow 0 2 1 ([ev7] : List Ev).length (minT [ev7]) (maxT [ev7]) 9 = #[.int .i64 0, .int .i64 2, .int .i64 1, .int .i64 1, .int .i64 7, .int .i64 7, .int .i64 9] := rfl
  rw [hrow]
  have G2 : Hid (w.grownBy w2 none) := only_trans (only_alloc (only_refl _ _) _) hg2
  clear hg2 HC hrow
  go_wp2_with fail
  go_ret
  exact ⟨rfl, G2.out⟩

end Go.Proofs.YtfbkkbbpgipipaaGreatDoor

namespace Go.Proofs.YtfbkkbbpgipipaaGreatDoor
open Go.RowKit
set_option linter.unusedVariables false
set_option linter.unusedSimpArgs false

theorem cell_gr {w w' : World} (h : w.grownBy w' none) {b o : Nat} (hb : b < w.heap.size) : w'.cell? ⟨b, o, none⟩ = w.cell? ⟨b, o, none⟩ := World.cell?_of_block (a := ⟨b, o, none⟩) (h.block b hb (by simp))
theorem run_loadE (ρ : Operand → Value) (w : World) {o : Oper} {t : TypeId} {x : Nat} {p c : Value} (ho : o.op = .load t (.tmp x)) (hx : ρ (.tmp x) = p) (h : (Instr.loadAt t p).run Tryz.prog w = .ok c w) : (execOp ρ o).run Tryz.prog w = .ok (.value c) w := by
  simp only [execOp, ho, hx, Sem.run_bind, h, Result.andThen_ok, Sem.run_pure]
def zeroRow : Array Value := #[.int .i64 0, .int .i64 0, .int .i64 0, .int .i64 0, .slice none 0 0, .int .i64 0, .int .i64 0, .string ⟨#[]⟩, .string ⟨#[]⟩, .slice none 0 0]
theorem load_evAt (w : World) (b o : Nat) (a : Ev) (h : ∀ m, m < 10 → w.cell? ⟨b, o + m, none⟩ = a.cells[m]?) : (Instr.loadAt 35 (.pointer (some ⟨b, o, none⟩))).run Tryz.prog w = .ok (.agg a.cells.toArray) w := by
  have c0 := h 0 (by omega)
  have c1 := h 1 (by omega)
  have c2 := h 2 (by omega)
  have c3 := h 3 (by omega)
  have c4 := h 4 (by omega)
  have c5 := h 5 (by omega)
  have c6 := h 6 (by omega)
  have c7 := h 7 (by omega)
  have c8 := h 8 (by omega)
  have c9 := h 9 (by omega)
  simp [Ev.cells] at c0 c1 c2 c3 c4 c5 c6 c7 c8 c9
  have hu := Tryz.underlying35
  simp [go_sem, c0, c1, c2, c3, c4, c5, c6, c7, c8, c9, Ev.cells]
theorem store_ev (w : World) (g : Nat) (x : Ev) {t : TypeId} {cs : Array Value} (h : Blk w g t cs) (hs : cs.size = 10) :
    ∃ w', (Instr.storeAt 35 (.pointer (some ⟨g, 0, none⟩)) (.agg x.cells.toArray)).run Tryz.prog w = .ok () w' ∧ Blk w' g t x.cells.toArray ∧ w.grownBy w' (some g) := by
  obtain ⟨l, rfl⟩ : ∃ l : List Value, cs = l.toArray := ⟨cs.toList, by simp⟩
  have hl : l.length = 10 := by simpa using hs
  obtain ⟨v0, v1, v2, v3, v4, v5, v6, v7, v8, v9, rfl⟩ : ∃ v0 v1 v2 v3 v4 v5 v6 v7 v8 v9, l = [v0, v1, v2, v3, v4, v5, v6, v7, v8, v9] := by
    match l, hl with
    | [v0, v1, v2, v3, v4, v5, v6, v7, v8, v9], _ => exact ⟨_, _, _, _, _, _, _, _, _, _, rfl⟩
  have c0 := h.cell 0
  have f0 := h.frozen 0
  have c1 := h.cell 1
  have f1 := h.frozen 1
  have c2 := h.cell 2
  have f2 := h.frozen 2
  have c3 := h.cell 3
  have f3 := h.frozen 3
  have c4 := h.cell 4
  have f4 := h.frozen 4
  have c5 := h.cell 5
  have f5 := h.frozen 5
  have c6 := h.cell 6
  have f6 := h.frozen 6
  have c7 := h.cell 7
  have f7 := h.frozen 7
  have c8 := h.cell 8
  have f8 := h.frozen 8
  have c9 := h.cell 9
  have f9 := h.frozen 9
  simp at c0 c1 c2 c3 c4 c5 c6 c7 c8 c9
  have hu := Tryz.underlying35
  refine ⟨((((((((((w.setCell ⟨g, 0, none⟩ (.int .i64 x.host)).setCell ⟨g, 1, none⟩ (.int .i64 x.file)).setCell ⟨g, 2, none⟩ (.int .i64 x.beg)).setCell ⟨g, 3, none⟩ (.int .i64 x.fin)).setCell ⟨g, 4, none⟩ (.slice x.la x.lines.length x.lc)).setCell ⟨g, 5, none⟩ (.int .i64 x.time)).setCell ⟨g, 6, none⟩ (.int .i64 x.weight)).setCell ⟨g, 7, none⟩ (.string x.trace)).setCell ⟨g, 8, none⟩ (.string x.stream)).setCell ⟨g, 9, none⟩ (.slice x.fa x.fields.length x.fc)), ?_, ?_, ?_⟩
  · simp [go_sem, Ev.cells, c0, c1, c2, c3, c4, c5, c6, c7, c8, c9, f0, f1, f2, f3, f4, f5, f6, f7, f8, f9]
  · have := ((((((((((h.set_ 0 (.int .i64 x.host)).set_ 1 (.int .i64 x.file)).set_ 2 (.int .i64 x.beg)).set_ 3 (.int .i64 x.fin)).set_ 4 (.slice x.la x.lines.length x.lc)).set_ 5 (.int .i64 x.time)).set_ 6 (.int .i64 x.weight)).set_ 7 (.string x.trace)).set_ 8 (.string x.stream)).set_ 9 (.slice x.fa x.fields.length x.fc))
    simpa [Ev.cells] using this
  · have g0 : w.grownBy _ (some g) := only_setCell (only_refl w (some g)) (p := ⟨g, 0, none⟩) (.inl rfl) (.int .i64 x.host)
    have g1 : w.grownBy _ (some g) := only_setCell g0 (p := ⟨g, 1, none⟩) (.inl rfl) (.int .i64 x.file)
    have g2 : w.grownBy _ (some g) := only_setCell g1 (p := ⟨g, 2, none⟩) (.inl rfl) (.int .i64 x.beg)
    have g3 : w.grownBy _ (some g) := only_setCell g2 (p := ⟨g, 3, none⟩) (.inl rfl) (.int .i64 x.fin)
    have g4 : w.grownBy _ (some g) := only_setCell g3 (p := ⟨g, 4, none⟩) (.inl rfl) (.slice x.la x.lines.length x.lc)
    have g5 : w.grownBy _ (some g) := only_setCell g4 (p := ⟨g, 5, none⟩) (.inl rfl) (.int .i64 x.time)
    have g6 : w.grownBy _ (some g) := only_setCell g5 (p := ⟨g, 6, none⟩) (.inl rfl) (.int .i64 x.weight)
    have g7 : w.grownBy _ (some g) := only_setCell g6 (p := ⟨g, 7, none⟩) (.inl rfl) (.string x.trace)
    have g8 : w.grownBy _ (some g) := only_setCell g7 (p := ⟨g, 8, none⟩) (.inl rfl) (.string x.stream)
    have g9 : w.grownBy _ (some g) := only_setCell g8 (p := ⟨g, 9, none⟩) (.inl rfl) (.slice x.fa x.fields.length x.fc)
    exact g9
theorem alloc_ev (ρ : Operand → Value) (w : World) {o : Oper} (ho : o.op = .alloc 35 := by rfl) : (execOp ρ o).run Tryz.prog w = .ok (.value (.pointer (some ⟨w.heap.size, 0, none⟩))) (w.alloc (.cells zeroRow 35)) := by
  simp only [execOp, ho]
  kernel_rfl
theorem blk_cells {w : World} {b t : Nat} {a : Ev} (h : Blk w b t a.cells.toArray) : ∀ m, m < 10 → w.cell? ⟨b, 0 + m, none⟩ = a.cells[m]? := fun m _ => by rw [Nat.zero_add, h.cell m]; simp
/-- a box that has been laid: empty till it is filled -/
def BoxI (r t i k : Nat) (z x : Array Value) (D : Nat → Bool) (u : Nat → Value) (w : World) : Prop := D i = true → ∃ b, u i = .pointer (some ⟨b, 0, none⟩) ∧ r ≤ b ∧ Blk w b t (if D k = true then x else z)
theorem BoxI.new {W0 w : World} {t i k : Nat} {z x : Array Value} {D : Nat → Bool} {u : Nat → Value} (h : W0.grownBy w none) (hk : D k = false) (hik : k ≠ i := by omega) : BoxI W0.heap.size t i k z x (updB D i) (upd u i (.pointer (some ⟨w.heap.size, 0, none⟩))) (w.alloc (.cells z t)) := by
  intro _
  refine ⟨w.heap.size, upd_at _ _ _, h.size, ?_⟩
  rw [updB_ne D hik, hk, if_neg (by simp)]
  exact Blk.new w t z
theorem BoxI.kept {r t i k : Nat} {z x : Array Value} {D D' : Nat → Bool} {u u' : Nat → Value} {w w' : World} (h : BoxI r t i k z x D u w) (h1 : D' i = D i) (h2 : D' k = D k) (h3 : u' i = u i) (hb : ∀ b cs, r ≤ b → Blk w b t cs → Blk w' b t cs) : BoxI r t i k z x D' u' w' := by
  intro hi
  rw [h1] at hi
  obtain ⟨b, y1, y2, y3⟩ := h hi
  exact ⟨b, h3.trans y1, y2, by rw [h2]; exact hb b _ y2 y3⟩
theorem BoxI.kept' {r t i k : Nat} {z x : Array Value} {D D' : Nat → Bool} {u u' : Nat → Value} {w w' : World} (h : BoxI r t i k z x D u w) (h1 : D' i = D i) (h2 : D' k = D k) (h3 : u' i = u i) (hb : D i = true → ∀ b cs, r ≤ b → u i = .pointer (some ⟨b, 0, none⟩) → Blk w b t cs → Blk w' b t cs) : BoxI r t i k z x D' u' w' := by
  intro hi
  rw [h1] at hi
  obtain ⟨b, y1, y2, y3⟩ := h hi
  exact ⟨b, h3.trans y1, y2, by rw [h2]; exact hb hi b _ y2 y1 y3⟩

end Go.Proofs.YtfbkkbbpgipipaaGreatDoor
namespace Go.Proofs.YtfbkkbbpgipipaaGreatDoor
open Go.RowKit
set_option linter.unusedVariables false
set_option linter.unusedSimpArgs false

def QuietVE (v : Value) (w : World) (e : Ending) (w' : World) : Prop := e = .returned v ∧ ∃ n, w' = w.drewN n
theorem Rd.flat_cell {α : Type} {f : α → List Value} {z : Nat} (hf : ∀ x, (f x).length = z) {S : Nat → Prop} {w : World} {b off : Nat} {l : List α} (h : Rd S w (some ⟨b, off, none⟩) (l.flatMap f)) {i : Nat} {x : α} (hx : l[i]? = some x) (j : Nat) (hj : j < z) : w.cell? ⟨b, off + i * z + j, none⟩ = (f x)[j]? := by
  obtain ⟨hi, hxi⟩ := List.getElem?_eq_some_iff.1 hx
  rw [Nat.add_assoc]
  obtain ⟨b', off', e, _, _, hc⟩ := h (by rw [flat_len _ z hf]; exact Nat.mul_pos (by omega) (by omega))
  injection e with e
  injection e with e1 e2
  subst e1 e2
  have h1 := flat_at f z hf l i j hi hj
  rw [hxi] at h1
  have h2 : (f x)[j]? = some ((f x)[j]'(by rw [hf]; exact hj)) := List.getElem?_eq_getElem _
  rw [h2]
  exact hc _ _ (h1.trans h2)
set_option maxHeartbeats 1000000 in
theorem samelines_true {S S' : Nat → Prop} (A B : Option Addr) (ls : List LineD) (c d : Nat) (w : World) (ha : Rd S w A (ls.flatMap LineD.cells)) (hb : Rd S' w B (ls.flatMap LineD.cells)) (hl : ls.length ≤ 10000000) :
    Calls Tryz.prog 53 #[.slice A ls.length c, .slice B ls.length d] w (QuietVE (.bool true) w) := by
  have HA := Lib.hid ha
  have HB := Lib.hid hb
  clear ha hb
  have t1 : ((ls.length : Int) != (ls.length : Int)) = false := by simp
  go_enter Tryz.func53, Tryz.ntmps53
  go_wp2
  go_loopw [5] (fun i wr => ∃ k : Nat, k ≤ ls.length ∧ i = .int .i64 k ∧ ∃ q, wr = w.drewN q) (fun i _ => ls.length - (intOf i).toNat)
  case atStart => exact ⟨0, Nat.zero_le _, rfl, 0, rfl⟩
  case round =>
    obtain ⟨k, hk, rfl, q, rfl⟩ := hrel
    by_cases hlt : k < ls.length
    · obtain ⟨x, hx⟩ : ∃ x, ls[k]? = some x := ⟨_, List.getElem?_eq_getElem hlt⟩
      obtain ⟨ba, oa, rfl, -, -, -⟩ := HA.out (by rw [flat_len _ 3 LineD.cells_len]; omega)
      obtain ⟨bb, ob, rfl, -, -, -⟩ := HB.out (by rw [flat_len _ 3 LineD.cells_len]; omega)
      have a0 : w.cell? ⟨ba, oa + k * 3, none⟩ = some (.int .i64 x.off) := HA.out.flat_cell LineD.cells_len hx 0 (by omega)
      have a1 : w.cell? ⟨ba, oa + k * 3 + 1, none⟩ = some (.int .i64 x.len) := HA.out.flat_cell LineD.cells_len hx 1 (by omega)
      have a2 : w.cell? ⟨ba, oa + k * 3 + 2, none⟩ = some (.string x.text) := HA.out.flat_cell LineD.cells_len hx 2 (by omega)
      have b0 : w.cell? ⟨bb, ob + k * 3, none⟩ = some (.int .i64 x.off) := HB.out.flat_cell LineD.cells_len hx 0 (by omega)
      have b1 : w.cell? ⟨bb, ob + k * 3 + 1, none⟩ = some (.int .i64 x.len) := HB.out.flat_cell LineD.cells_len hx 1 (by omega)
      have b2 : w.cell? ⟨bb, ob + k * 3 + 2, none⟩ = some (.string x.text) := HB.out.flat_cell LineD.cells_len hx 2 (by omega)
      have i1 : (k : Int) < (ls.length : Int) := by omega
      clear hx
      go_wp2
      go_quiet (fail)
      go_wp2
      go_roundw
      case rel => exact ⟨k + 1, by omega, by go_num, _, rfl⟩
      case measure => simp [intOf]; omega
    · have i1 : ¬ ((k : Int) < (ls.length : Int)) := by omega
      go_wp2
      go_ret
      exact ⟨rfl, _, rfl⟩
set_option maxHeartbeats 1000000 in
theorem samefields_true {S S' : Nat → Prop} (A B : Option Addr) (ls : List FieldD) (c d : Nat) (w : World) (ha : Rd S w A (ls.flatMap FieldD.cells)) (hb : Rd S' w B (ls.flatMap FieldD.cells)) (hl : ls.length ≤ 10000000) :
    Calls Tryz.prog 33 #[.slice A ls.length c, .slice B ls.length d] w (QuietVE (.bool true) w) := by
  have HA := Lib.hid ha
  have HB := Lib.hid hb
  clear ha hb
  have t1 : ((ls.length : Int) != (ls.length : Int)) = false := by simp
  go_enter Tryz.func33, Tryz.ntmps33
  go_wp2
  go_loopw [5] (fun i wr => ∃ k : Nat, k ≤ ls.length ∧ i = .int .i64 k ∧ ∃ q, wr = w.drewN q) (fun i _ => ls.length - (intOf i).toNat)
  case atStart => exact ⟨0, Nat.zero_le _, rfl, 0, rfl⟩
  case round =>
    obtain ⟨k, hk, rfl, q, rfl⟩ := hrel
    by_cases hlt : k < ls.length
    · obtain ⟨x, hx⟩ : ∃ x, ls[k]? = some x := ⟨_, List.getElem?_eq_getElem hlt⟩
      obtain ⟨ba, oa, rfl, -, -, -⟩ := HA.out (by rw [flat_len _ 2 FieldD.cells_len]; omega)
      obtain ⟨bb, ob, rfl, -, -, -⟩ := HB.out (by rw [flat_len _ 2 FieldD.cells_len]; omega)
      have a0 : w.cell? ⟨ba, oa + k * 2, none⟩ = some (.string x.name) := HA.out.flat_cell FieldD.cells_len hx 0 (by omega)
      have a1 : w.cell? ⟨ba, oa + k * 2 + 1, none⟩ = some (.string x.value) := HA.out.flat_cell FieldD.cells_len hx 1 (by omega)
      have b0 : w.cell? ⟨bb, ob + k * 2, none⟩ = some (.string x.name) := HB.out.flat_cell FieldD.cells_len hx 0 (by omega)
      have b1 : w.cell? ⟨bb, ob + k * 2 + 1, none⟩ = some (.string x.value) := HB.out.flat_cell FieldD.cells_len hx 1 (by omega)
      have i1 : (k : Int) < (ls.length : Int) := by omega
      clear hx
      go_wp2
      go_quiet (fail)
      go_wp2
      go_roundw
      case rel => exact ⟨k + 1, by omega, by go_num, _, rfl⟩
      case measure => simp [intOf]; omega
    · have i1 : ¬ ((k : Int) < (ls.length : Int)) := by omega
      go_wp2
      go_ret
      exact ⟨rfl, _, rfl⟩
end Go.Proofs.YtfbkkbbpgipipaaGreatDoor
namespace Go.Proofs.YtfbkkbbpgipipaaGreatDoor
open Go.RowKit
set_option linter.unusedVariables false
set_option linter.unusedSimpArgs false

/-- the same event at other places -/
def Ev.moved (a : Ev) (la : Option Addr) (lc : Nat) (fa : Option Addr) (fc : Nat) : Ev := { a with la := la, lc := lc, fa := fa, fc := fc }
theorem itBlk {w : World} {g t : Nat} {x : It} (h : Blk w g t x.cells.toArray) {m : Nat} (hm : m < 10) : w.cell? ⟨g, 1 + m, none⟩ = x.ev.cells[m]? := by
  rw [h.cell (1 + m)]
  show (It.cells x).toArray[1 + m]? = _
  simp [It.cells, Nat.add_comm 1 m]
set_option maxHeartbeats 4000000 in
set_option maxRecDepth 100000 in
theorem same_true {S S' : Nat → Prop} (a : Ev) (la : Option Addr) (lc : Nat) (fa : Option Addr) (fc : Nat) (w : World) (ha : a.Sub S w) (hb : (a.moved la lc fa fc).Sub S' w) (h1 : a.lines.length ≤ 100000) (h2 : a.fields.length ≤ 100000) :
    Calls Tryz.prog 28 #[.agg (It.mk ⟨#[]⟩ a).cells.toArray, .agg (It.mk ⟨#[]⟩ (a.moved la lc fa fc)).cells.toArray] w (BoolExt true w) := by
  obtain ⟨b, hb0⟩ : ∃ b, b = a.moved la lc fa fc := ⟨_, rfl⟩
  rw [← hb0] at hb ⊢
  have e0 : b.host = a.host := by rw [hb0]; rfl
  have e1 : b.file = a.file := by rw [hb0]; rfl
  have e2 : b.beg = a.beg := by rw [hb0]; rfl
  have e3 : b.fin = a.fin := by rw [hb0]; rfl
  have e4 : b.lines = a.lines := by rw [hb0]; rfl
  have e5 : b.time = a.time := by rw [hb0]; rfl
  have e6 : b.weight = a.weight := by rw [hb0]; rfl
  have e7 : b.trace = a.trace := by rw [hb0]; rfl
  have e8 : b.stream = a.stream := by rw [hb0]; rfl
  have e9 : b.fields = a.fields := by rw [hb0]; rfl
  have E := Lib.hid (And.intro e0 (And.intro e1 (And.intro e2 (And.intro e3 (And.intro e4 (And.intro e5 (And.intro e6 (And.intro e7 (And.intro e8 e9)))))))))
  have SA := Lib.hid ha
  have SB := Lib.hid hb
  clear hb0 e0 e1 e2 e3 e4 e5 e6 e7 e8 e9 ha hb
  obtain ⟨g1, hg1⟩ : ∃ g, g = w.heap.size := ⟨_, rfl⟩
  obtain ⟨g2, hg2⟩ : ∃ g, g = w.heap.size + 1 := ⟨_, rfl⟩
  obtain ⟨W, hW⟩ : ∃ W, W = (w.alloc (.cells (It.mk ⟨#[]⟩ a).cells.toArray 51)).alloc (.cells (It.mk ⟨#[]⟩ b).cells.toArray 51) := ⟨_, rfl⟩
  have B1 : Hid (Blk W g1 51 (It.mk ⟨#[]⟩ a).cells.toArray) := Lib.hid (by rw [hW, hg1]; exact (Blk.new w _ _).alloc _)
  have B2 : Hid (Blk W g2 51 (It.mk ⟨#[]⟩ b).cells.toArray) := Lib.hid (by rw [hW, hg2]; have := Blk.new (w.alloc (.cells (It.mk ⟨#[]⟩ a).cells.toArray 51)) 51 (It.mk ⟨#[]⟩ b).cells.toArray; simpa using this)
  have GW : Hid (w.grownBy W none) := Lib.hid (by rw [hW]; exact only_alloc (only_alloc (only_refl _ _) _) _)
  have HW : Hid ((w.alloc (.cells (It.mk ⟨#[]⟩ a).cells.toArray 51)).alloc (.cells (It.mk ⟨#[]⟩ b).cells.toArray 51) = W) := Lib.hid hW.symm
  have HG1 := Lib.hid hg1
  have HG2 := Lib.hid hg2
  clear hW hg1 hg2
  simp only [It.cells, Ev.cells] at HW ⊢
  go_enter Tryz.func28, Tryz.ntmps28
  go_upto_region 1 with fail
  rw [HW.out]
  rw [← HG2.out, ← HG1.out]
  clear HW
  obtain ⟨W0, hW0⟩ : ∃ W0, W0 = W := ⟨_, rfl⟩
  subst hW0
  refine wp_region_gen 8 (JC [some (.pointer (some ⟨g1, 1, none⟩)), some (.agg a.cells.toArray), some (.pointer (some ⟨g2, 1, none⟩)), some (.agg b.cells.toArray), none, none, none, none] (fun D u w => W0.grownBy w none ∧ (D 6 = true → D 4 = true) ∧ (D 7 = true → D 5 = true) ∧ BoxI W0.heap.size 35 4 6 zeroRow a.cells.toArray D u w ∧ BoxI W0.heap.size 35 5 7 zeroRow b.cells.toArray D u w ∧ (D 4 = true → D 5 = true → u 4 ≠ u 5))) (by kernel_rfl) (by kernel_rfl) ?_ ?_ ?_
  · intro u
    exact ⟨(fun j c _ h => by cases h), ⟨only_drew (only_refl _ _), (fun h => by cases h), (fun h => by cases h), (fun h => by cases h), (fun h => by cases h), fun h => by cases h⟩⟩
  · intro AA hA
    have hasz : AA.tmps.size = 86 := by rw [hA]; kernel_rfl
    have ea2 : AA.eval (.tmp 2) = .pointer (some ⟨g1, 0, none⟩) := by rw [hA]; kernel_rfl
    have ea3 : AA.eval (.tmp 3) = .pointer (some ⟨g2, 0, none⟩) := by rw [hA]; kernel_rfl
    clear hA
    simp only [List.take_succ_cons, List.take_zero]
    refine .cons ?_ (.cons ?_ (.cons ?_ (.cons ?_ (.cons ?_ (.cons ?_ (.cons ?_ (.cons ?_ (.nil))))))))
    · exact gd_gen (by kernel_rfl) (Want.none_ rfl) rfl (fun D u w v h => by simpa [updB, upd, BoxI] using h) (fun D u ρ w kn => by
        have e0 := kn.own 2 (c := .pointer (some ⟨g1, 0, none⟩)) (by kernel_rfl) ea2
        simp [execOp, kn.rho.con, e0, go_sem])
    · exact gd_gen (by kernel_rfl) (Want.none_ rfl) rfl (fun D u w v h => by simpa [updB, upd, BoxI] using h) (fun D u ρ w kn => by
        have e0 := kn.con 0 7 (c := .pointer (some ⟨g1, 1, none⟩)) (by kernel_rfl) (by omega) (by kernel_rfl) rfl
        exact run_loadE ρ w rfl e0 (load_evAt w g1 1 a (fun m hm => (cell_gr kn.ext.1 B1.out.lt).trans (itBlk B1.out hm))))
    · exact gd_gen (by kernel_rfl) (Want.none_ rfl) rfl (fun D u w v h => by simpa [updB, upd, BoxI] using h) (fun D u ρ w kn => by
        have e0 := kn.own 3 (c := .pointer (some ⟨g2, 0, none⟩)) (by kernel_rfl) ea3
        simp [execOp, kn.rho.con, e0, go_sem])
    · exact gd_gen (by kernel_rfl) (Want.none_ rfl) rfl (fun D u w v h => by simpa [updB, upd, BoxI] using h) (fun D u ρ w kn => by
        have e0 := kn.con 2 9 (c := .pointer (some ⟨g2, 1, none⟩)) (by kernel_rfl) (by omega) (by kernel_rfl) rfl
        exact run_loadE ρ w rfl e0 (load_evAt w g2 1 b (fun m hm => (cell_gr kn.ext.1 B2.out.lt).trans (itBlk B2.out hm))))
    · refine gd_eff (by kernel_rfl) (Want.none_ rfl) (fun D u ρ w kn hD => ?_)
      obtain ⟨x1, x2, x3, x4, x5, x6⟩ := kn.ext
      refine ⟨.pointer (some ⟨w.heap.size, 0, none⟩), w.alloc (.cells zeroRow 35), alloc_ev ρ w, by intro c h; simp at h, ?_⟩
      have hk : D 6 = false := by cases h : D 6 with | false => rfl | true => exact absurd (x2 h) (by simp [hD])
      have e1 : ∀ m, m ≠ 4 → updB D 4 m = D m := fun m h => updB_ne D h
      have e2 : ∀ m, m ≠ 4 → upd u 4 (.pointer (some ⟨w.heap.size, 0, none⟩)) m = u m := fun m h => upd_ne u _ h
      refine ⟨only_alloc x1 _, fun h => by rw [e1 6 (by omega)] at h; exact updB_at D 4, fun h => by rw [e1 7 (by omega)] at h; rw [e1 5 (by omega)]; exact x3 h, ?_, ?_, ?_⟩
      · exact BoxI.new x1 hk
      · exact x5.kept (e1 5 (by omega)) (e1 7 (by omega)) (e2 5 (by omega)) (fun b cs hb h => h.alloc _)
      · intro h1 h2
        rw [e1 5 (by omega)] at h2; rw [upd_at, e2 5 (by omega)]; obtain ⟨b', y1, y2, y3⟩ := x5 h2; rw [y1]; intro e; injection e with e; injection e with e; injection e with e; have := y3.lt; omega
    · refine gd_eff (by kernel_rfl) (Want.none_ rfl) (fun D u ρ w kn hD => ?_)
      obtain ⟨x1, x2, x3, x4, x5, x6⟩ := kn.ext
      refine ⟨.pointer (some ⟨w.heap.size, 0, none⟩), w.alloc (.cells zeroRow 35), alloc_ev ρ w, by intro c h; simp at h, ?_⟩
      have hk : D 7 = false := by cases h : D 7 with | false => rfl | true => exact absurd (x3 h) (by simp [hD])
      have e1 : ∀ m, m ≠ 5 → updB D 5 m = D m := fun m h => updB_ne D h
      have e2 : ∀ m, m ≠ 5 → upd u 5 (.pointer (some ⟨w.heap.size, 0, none⟩)) m = u m := fun m h => upd_ne u _ h
      refine ⟨only_alloc x1 _, fun h => by rw [e1 6 (by omega)] at h; rw [e1 4 (by omega)]; exact x2 h, fun h => by rw [e1 7 (by omega)] at h; exact updB_at D 5, ?_, ?_, ?_⟩
      · exact x4.kept (e1 4 (by omega)) (e1 6 (by omega)) (e2 4 (by omega)) (fun b cs hb h => h.alloc _)
      · exact BoxI.new x1 hk
      · intro h1 h2
        rw [e1 4 (by omega)] at h1; rw [upd_at, e2 4 (by omega)]; obtain ⟨b', y1, y2, y3⟩ := x4 h1; rw [y1]; intro e; injection e with e; injection e with e; injection e with e; have := y3.lt; omega
    · refine gd_skip (by kernel_rfl) (Want.none_ rfl) rfl (fun D u ρ w kn hD => ?_)
      have e0 := kn.slot 4 5 (by kernel_rfl) (by omega)
      have e1 := kn.con 1 8 (c := .agg a.cells.toArray) (by kernel_rfl) (by omega) (by kernel_rfl) rfl
      have hal := kn.dep 4 (by kernel_rfl)
      obtain ⟨x1, x2, x3, x4, x5, x6⟩ := kn.ext
      obtain ⟨b', y1, y2, y3⟩ := x4 hal
      obtain ⟨w', z1, z2, z3⟩ := store_ev w b' a y3 (by split <;> rfl)
      have f1 : ∀ m, m ≠ 6 → updB D 6 m = D m := fun m h => updB_ne D h
      have f2 : ∀ m, m ≠ 6 → upd u 6 undef m = u m := fun m h => upd_ne u _ h
      refine ⟨w', by rw [y1] at e0; simp only [execOp, e0, e1, Sem.run_bind, z1, Result.andThen_ok, Sem.run_pure], only_fresh x1 z3 y2, fun h => by rw [f1 4 (by omega)]; exact hal, fun h => by rw [f1 7 (by omega)] at h; rw [f1 5 (by omega)]; exact x3 h, ?_, ?_, ?_⟩
      · exact fun _ => ⟨b', by rw [f2 4 (by omega)]; exact y1, y2, by rw [updB_at, if_pos rfl]; exact z2⟩
      · exact x5.kept' (f1 5 (by omega)) (f1 7 (by omega)) (f2 5 (by omega)) (fun h b cs hb hu h9 => h9.grown z3 (by intro e; injection e with e; subst e; exact x6 hal h (y1.trans hu.symm)))
      · intro h1 h2
        rw [f1 4 (by omega)] at h1
        rw [f1 5 (by omega)] at h2
        rw [f2 4 (by omega), f2 5 (by omega)]
        exact x6 h1 h2
    · refine gd_skip (by kernel_rfl) (Want.none_ rfl) rfl (fun D u ρ w kn hD => ?_)
      have e0 := kn.slot 5 6 (by kernel_rfl) (by omega)
      have e1 := kn.con 3 10 (c := .agg b.cells.toArray) (by kernel_rfl) (by omega) (by kernel_rfl) rfl
      have hal := kn.dep 5 (by kernel_rfl)
      obtain ⟨x1, x2, x3, x4, x5, x6⟩ := kn.ext
      obtain ⟨b', y1, y2, y3⟩ := x5 hal
      obtain ⟨w', z1, z2, z3⟩ := store_ev w b' b y3 (by split <;> rfl)
      have f1 : ∀ m, m ≠ 7 → updB D 7 m = D m := fun m h => updB_ne D h
      have f2 : ∀ m, m ≠ 7 → upd u 7 undef m = u m := fun m h => upd_ne u _ h
      refine ⟨w', by rw [y1] at e0; simp only [execOp, e0, e1, Sem.run_bind, z1, Result.andThen_ok, Sem.run_pure], only_fresh x1 z3 y2, fun h => by rw [f1 6 (by omega)] at h; rw [f1 4 (by omega)]; exact x2 h, fun h => by rw [f1 5 (by omega)]; exact hal, ?_, ?_, ?_⟩
      · exact x4.kept' (f1 4 (by omega)) (f1 6 (by omega)) (f2 4 (by omega)) (fun h b cs hb hu h9 => h9.grown z3 (by intro e; injection e with e; subst e; exact x6 h hal (hu.trans y1.symm)))
      · exact fun _ => ⟨b', by rw [f2 5 (by omega)]; exact y1, y2, by rw [updB_at, if_pos rfl]; exact z2⟩
      · intro h1 h2
        rw [f1 4 (by omega)] at h1
        rw [f1 5 (by omega)] at h2
        rw [f2 4 (by omega), f2 5 (by omega)]
        exact x6 h1 h2
  · intro D u w3 hJ hD
    obtain ⟨hc, x1, -, -, x4, x5, -⟩ := hJ
    obtain ⟨b1, y1, y2, y3⟩ := x4 (hD 4 (by omega))
    obtain ⟨b2, z1, z2, z3⟩ := x5 (hD 5 (by omega))
    rw [hD 6 (by omega), if_pos rfl] at y3
    rw [hD 7 (by omega), if_pos rfl] at z3
    simp only [List.take_succ_cons, List.take_zero, List.drop_succ_cons, List.drop_zero, putAll]
    rw [y1, z1]
    have W1 := Lib.hid x1
    have Y1 := Lib.hid y3
    have Y2 := Lib.hid z3
    have r1 := (B1.out.grown x1 (by simp)).cell 0
    have r2 := (B2.out.grown x1 (by simp)).cell 0
    simp [It.cells] at r1 r2
    have S1 : Hid (a.Sub S w3) := Lib.hid (SA.out.grown (only_trans GW.out x1) (by simp))
    have S2 : Hid (b.Sub S' w3) := Lib.hid (SB.out.grown (only_trans GW.out x1) (by simp))
    clear hc x1 x4 x5 y1 z1 y3 z3 hD
    obtain ⟨d0, d1, d2, d3, d4, d5, d6, d7, d8, d9⟩ := Y1.out.load10
    obtain ⟨e0, e1, e2, e3, e4, e5, e6, e7, e8, e9⟩ := Y2.out.load10
    obtain ⟨E0, E1, E2, E3, E4, E5, E6, E7, E8, E9⟩ := E.out
    rw [E0] at e0
    rw [E1] at e1
    rw [E2] at e2
    rw [E3] at e3
    rw [E4] at e4
    rw [E5] at e5
    rw [E6] at e6
    rw [E7] at e7
    rw [E8] at e8
    rw [E9] at e9
    have KL : Hid (∀ n, Calls Tryz.prog 53 #[.slice a.la a.lines.length a.lc, .slice b.la a.lines.length b.lc] (w3.drewN n) (QuietVE (.bool true) (w3.drewN n))) := Lib.hid (fun n => samelines_true a.la b.la a.lines a.lc b.lc _ (S1.out.1.drewN n) (by have := S2.out.1.drewN n; rw [E4] at this; exact this) (by omega))
    have KF : Hid (∀ n, Calls Tryz.prog 33 #[.slice a.fa a.fields.length a.fc, .slice b.fa a.fields.length b.fc] (w3.drewN n) (QuietVE (.bool true) (w3.drewN n))) := Lib.hid (fun n => samefields_true a.fa b.fa a.fields a.fc b.fc _ (S1.out.2.1.drewN n) (by have := S2.out.2.1.drewN n; rw [E9] at this; exact this) (by omega))
    clear E0 E1 E2 E3 E4 E5 E6 E7 E8 E9
    go_wp2_with (first | (go_at_call 53; refine (KL.out 0).mono ?_; rintro e w4 ⟨rfl, n4, rfl⟩) | (go_at_call 33; refine (KF.out n4).mono ?_; rintro e w5 ⟨rfl, n5, rfl⟩))
    go_ret
    exact ⟨rfl, only_drewN (only_trans GW.out W1.out) _⟩
set_option maxHeartbeats 1000000 in
set_option maxRecDepth 100000 in
theorem sameevent_true {S S' : Nat → Prop} (a : Ev) (la : Option Addr) (lc : Nat) (fa : Option Addr) (fc : Nat) (w : World) (ha : a.Sub S w) (hb : (a.moved la lc fa fc).Sub S' w) (h1 : a.lines.length ≤ 100000) (h2 : a.fields.length ≤ 100000) :
    Calls Tryz.prog 18 #[.agg a.cells.toArray, .agg (a.moved la lc fa fc).cells.toArray] w (BoolExt true w) := by
  obtain ⟨W, hW⟩ : ∃ W, W = (w.alloc (.cells a.cells.toArray 35)).alloc (.cells (a.moved la lc fa fc).cells.toArray 35) := ⟨_, rfl⟩
  have GW : Hid (w.grownBy W none) := Lib.hid (by rw [hW]; exact only_alloc (only_alloc (only_refl _ _) _) _)
  have B1 : Hid (Blk W w.heap.size 35 a.cells.toArray) := Lib.hid (by rw [hW]; exact (Blk.new w _ _).alloc _)
  have B2 : Hid (Blk W (w.heap.size + 1) 35 (a.moved la lc fa fc).cells.toArray) := Lib.hid (by rw [hW]; have := Blk.new (w.alloc (.cells a.cells.toArray 35)) 35 (a.moved la lc fa fc).cells.toArray; simpa using this)
  have HW : Hid ((w.alloc (.cells a.cells.toArray 35)).alloc (.cells (a.moved la lc fa fc).cells.toArray 35) = W) := Lib.hid hW.symm
  have K : Hid (Calls Tryz.prog 28 #[.agg (It.mk ⟨#[]⟩ a).cells.toArray, .agg (It.mk ⟨#[]⟩ (a.moved la lc fa fc)).cells.toArray] W (BoolExt true W)) := Lib.hid (same_true a la lc fa fc W (ha.grown GW.out (by simp)) (hb.grown GW.out (by simp)) h1 h2)
  clear hW ha hb
  have c1 := B1.out.load10
  have c2 := B2.out.load10
  simp only [Ev.cells, Ev.moved] at HW c2 ⊢
  obtain ⟨d0, d1, d2, d3, d4, d5, d6, d7, d8, d9⟩ := c1
  obtain ⟨e0, e1, e2, e3, e4, e5, e6, e7, e8, e9⟩ := c2
  go_enter Tryz.func18, Tryz.ntmps18
  go_upto_region 1 with fail
  rw [HW.out]
  clear HW
  go_wp2_with fail
  refine K.out.mono ?_
  rintro e w2 ⟨rfl, hg2⟩
  clear d0 d1 d2 d3 d4 d5 d6 d7 d8 d9 e0 e1 e2 e3 e4 e5 e6 e7 e8 e9
  go_wp2_with fail
  go_ret
  exact ⟨rfl, only_trans GW.out hg2⟩
/-- the same event, perhaps elsewhere -/
def EvEq (a b : Ev) : Prop := ∃ la lc fa fc, b = a.moved la lc fa fc
theorem EvEq.refl (a : Ev) : EvEq a a := ⟨a.la, a.lc, a.fa, a.fc, rfl⟩
def EvsEq (a b : List Ev) : Prop := a.length = b.length ∧ ∀ (i : Nat) (x y : Ev), a[i]? = some x → b[i]? = some y → EvEq x y
theorem EvsEq.refl (a : List Ev) : EvsEq a a := ⟨rfl, fun i x y hx hy => by rw [hx] at hy; injection hy with hy; rw [← hy]; exact EvEq.refl x⟩
/-- events of bounded parts -/
def Bdd (l : List Ev) : Prop := ∀ e ∈ l, e.lines.length ≤ 100000 ∧ e.fields.length ≤ 100000
set_option maxHeartbeats 2000000 in
set_option maxRecDepth 100000 in
theorem sameevents_true {S S' : Nat → Prop} (A B : Option Addr) (es fs : List Ev) (c d : Nat) (w : World) (ha : Evs S w A es) (hb : Evs S' w B fs) (hq : EvsEq es fs) (hd : Bdd es) (hl : es.length ≤ 100000) :
    Calls Tryz.prog 10 #[.slice A es.length c, .slice B fs.length d] w (BoolExt true w) := by
  have hlen : fs.length = es.length := hq.1.symm
  rw [hlen]
  have HL := Lib.hid hlen
  have HA := Lib.hid ha
  have HB := Lib.hid hb
  have HQ := Lib.hid hq
  have HD := Lib.hid hd
  clear ha hb hq hd hlen
  have t1 : ((es.length : Int) != (es.length : Int)) = false := by simp
  go_enter Tryz.func10, Tryz.ntmps10
  go_wp2_with fail
  go_loopw [5] (fun i wr => ∃ k : Nat, k ≤ es.length ∧ i = .int .i64 k ∧ w.grownBy wr none) (fun i _ => es.length - (intOf i).toNat)
  case atStart => exact ⟨0, Nat.zero_le _, rfl, only_refl _ _⟩
  case round =>
    obtain ⟨k, hk, rfl, hG⟩ := hrel
    have G := Lib.hid hG
    clear hG
    by_cases hlt : k < es.length
    · obtain ⟨ba, oa, rfl, -, -, -⟩ := HA.out.1 (by rw [flat_len _ 10 Ev.cells_len]; omega)
      obtain ⟨bb, ob, rfl, -, -, -⟩ := HB.out.1 (by rw [flat_len _ 10 Ev.cells_len, HL.out]; omega)
      have hr := HA.out.1.grown G.out (by simp)
      have hr2 := HB.out.1.grown G.out (by simp)
      obtain ⟨x, hx⟩ : ∃ x, es[k] = x := ⟨_, rfl⟩
      have hlt2 : k < fs.length := by rw [HL.out]; exact hlt
      obtain ⟨y, hy⟩ : ∃ y, fs[k] = y := ⟨_, rfl⟩
      obtain ⟨d0, d1, d2, d3, d4, d5, d6, d7, d8, d9⟩ := Evs.load10 hr hlt hx
      obtain ⟨e0, e1, e2, e3, e4, e5, e6, e7, e8, e9⟩ := Evs.load10 hr2 hlt2 hy
      have hxm : x ∈ es := by rw [← hx]; exact List.getElem_mem _
      have hym : y ∈ fs := by rw [← hy]; exact List.getElem_mem _
      obtain ⟨la, lc, fa, fc, hxy⟩ := HQ.out.2 k x y (by rw [← hx]; exact List.getElem?_eq_getElem _) (by rw [← hy]; exact List.getElem?_eq_getElem _)
      have K : Hid (Calls Tryz.prog 18 #[.agg x.cells.toArray, .agg y.cells.toArray] wr.drew (BoolExt true wr.drew)) := Lib.hid (by
        have hs2 := (HB.out.2 y hym).grown G.out (by simp)
        rw [hxy] at hs2 ⊢
        exact sameevent_true (S := S) (S' := S') x la lc fa fc wr.drew ((HA.out.2 x hxm).grown (only_drew G.out) (by simp)) hs2 (HD.out x hxm).1 (HD.out x hxm).2)
      clear hr hr2 hx hy hxm hym hxy hlt2
      have i1 : (k : Int) < (es.length : Int) := by omega
      have n1 : (0 : Int) ≤ (k : Int) := by omega
      go_upto_region 6 with fail
      go_still_tail 8, (by kernel_rfl)
      change wpList _ _ _ _ _ wr.drew
      clear d0 d1 d2 d3 d4 d5 d6 d7 d8 d9 e0 e1 e2 e3 e4 e5 e6 e7 e8 e9 n1
      go_wp2_with (go_at_call 18; refine K.out.mono ?_; rintro e w2 ⟨rfl, hg2⟩)
      have G2 : Hid (w.grownBy w2 none) := Lib.hid (only_trans (only_drew G.out) hg2)
      clear hg2
      go_roundw
      case rel => exact ⟨k + 1, by omega, by go_num, G2.out⟩
      case measure => simp [intOf]; omega
    · have i1 : ¬ ((k : Int) < (es.length : Int)) := by omega
      go_wp2_with fail
      go_ret
      exact ⟨rfl, G.out⟩
end Go.Proofs.YtfbkkbbpgipipaaGreatDoor
