/- One event of a row of events. No condition. -/
import Derived.Test.YtfkgcighooijhaaGreatDoorInsert
import Derived.Test.YtfkgcighooijhaaGreatDoorEv
namespace Go.Proofs.YtfkgcighooijhaaGreatDoor
open Go.RowKit
set_option linter.unusedVariables false
set_option linter.unusedSimpArgs false

theorem ev_in {S : Nat → Prop} {w : World} {A : Option Addr} {es : List Ev} (h : Rd S w A (es.flatMap Ev.cells)) {i : Nat} {y : Ev} (hy : es[i]? = some y) :
    ∃ b off, A = some ⟨b, off, none⟩ ∧ b < w.heap.size ∧ w.cell? ⟨b, off + i * 10, none⟩ = some (.int .i64 y.host) ∧ w.cell? ⟨b, off + i * 10 + 1, none⟩ = some (.int .i64 y.file) ∧ w.cell? ⟨b, off + i * 10 + 2, none⟩ = some (.int .i64 y.beg) ∧
    w.cell? ⟨b, off + i * 10 + 3, none⟩ = some (.int .i64 y.fin) ∧ w.cell? ⟨b, off + i * 10 + 4, none⟩ = some (.slice y.la y.lines.length y.lc) ∧ w.cell? ⟨b, off + i * 10 + 5, none⟩ = some (.int .i64 y.time) ∧
    w.cell? ⟨b, off + i * 10 + 6, none⟩ = some (.int .i64 y.weight) ∧ w.cell? ⟨b, off + i * 10 + 7, none⟩ = some (.string y.trace) ∧ w.cell? ⟨b, off + i * 10 + 8, none⟩ = some (.string y.stream) ∧ w.cell? ⟨b, off + i * 10 + 9, none⟩ = some (.slice y.fa y.fields.length y.fc) := by
  obtain ⟨hi, hyi⟩ := List.getElem?_eq_some_iff.1 hy
  obtain ⟨b, off, rfl, _, hlt, _⟩ := h (by rw [flat_len _ 10 Ev.cells_len]; omega)
  exact ⟨b, off, rfl, hlt, Evs.load10 h hi hyi⟩
theorem box5 {W w' : World} {N : Nat} {a b : ByteArray} {x y : Int} {v : Value} {T : TypeId} (h : Blk W N T #[.int .i64 x, .string a, .string b, .int .i64 y, v]) (hg : W.grownBy w' none) :
    w'.cell? ⟨N, 0, none⟩ = some (.int .i64 x) ∧ w'.cell? ⟨N, 1, none⟩ = some (.string a) ∧ w'.cell? ⟨N, 2, none⟩ = some (.string b) ∧ w'.cell? ⟨N, 3, none⟩ = some (.int .i64 y) ∧ w'.cell? ⟨N, 4, none⟩ = some v := by
  have h := h.grown hg (by simp)
  exact ⟨h.cell 0, h.cell 1, h.cell 2, h.cell 3, h.cell 4⟩
end Go.Proofs.YtfkgcighooijhaaGreatDoor
namespace Go.Proofs.YtfkgcighooijhaaGreatDoor
open Go.RowKit
set_option linter.unusedVariables false
set_option linter.unusedSimpArgs false

theorem fld_in {S : Nat → Prop} {w : World} {fa : Option Addr} {xs : List FieldD} (h : Rd S w fa (xs.flatMap FieldD.cells)) {i : Nat} {y : FieldD} (hy : xs[i]? = some y) :
    ∃ b off, fa = some ⟨b, off, none⟩ ∧ b < w.heap.size ∧ w.cell? ⟨b, off + i * 2, none⟩ = some (.string y.name) ∧ w.cell? ⟨b, off + i * 2 + 1, none⟩ = some (.string y.value) := by
  obtain ⟨hi, hyi⟩ := List.getElem?_eq_some_iff.1 hy
  obtain ⟨b, off, rfl, _, hlt, hc⟩ := h (by rw [flat_len _ 2 FieldD.cells_len]; omega)
  have key : ∀ j, j < 2 → w.cell? ⟨b, off + i * 2 + j, none⟩ = y.cells[j]? := by
    intro j hj
    have h1 := flat_at FieldD.cells 2 FieldD.cells_len xs i j hi hj
    rw [hyi] at h1
    have hlt : j < y.cells.length := by rw [FieldD.cells_len]; exact hj
    rw [List.getElem?_eq_getElem hlt] at h1 ⊢
    rw [Nat.add_assoc]
    exact hc _ _ h1
  exact ⟨b, off, rfl, hlt, key 0 (by omega), key 1 (by omega)⟩
end Go.Proofs.YtfkgcighooijhaaGreatDoor
