/- Words for drawn regions under wp_region_gen. No condition. -/
import Derived.Test.YtfkgcighooijhaaGreatDoorJGen
import Derived.Test.YtfkgcighooijhaaGreatDoorBase
namespace Go.Proofs.YtfkgcighooijhaaGreatDoor
open Go.RowKit
set_option linter.unusedVariables false
set_option linter.unusedSimpArgs false

theorem cellG {w w' : World} (h : w.grownBy w' none) {b o : Nat} (hb : b < w.heap.size) : w'.cell? ⟨b, o, none⟩ = w.cell? ⟨b, o, none⟩ := World.cell?_of_block (a := ⟨b, o, none⟩) (h.block b hb (by simp))
theorem run_load (ρ : Operand → Value) (w : World) {o : Oper} {t : TypeId} {x : Nat} {p c : Value} (ho : o.op = .load t (.tmp x)) (hx : ρ (.tmp x) = p) (h : (Instr.loadAt t p).run Tryz.prog w = .ok c w) : (execOp ρ o).run Tryz.prog w = .ok (.value c) w := by
  simp only [execOp, ho, hx, Sem.run_bind, h, Result.andThen_ok, Sem.run_pure]
/-- a fresh slice of strings: what a call of Clone or Distinct has given back -/
def FreshS (base : Nat) (ss : List Value) (n : Nat) (e : TypeId) (w : World) (v : Value) : Prop := ∃ A c, v = .slice A n c ∧ n ≤ c ∧ c ≤ maxLen ∧ w.ownsRow base e 1 (.slice A n c) n ss
theorem FreshS.grown {base n : Nat} {ss : List Value} {e : TypeId} {w w' : World} {v : Value} (h : FreshS base ss n e w v) (hg : w.grownBy w' none) : FreshS base ss n e w' v := by
  obtain ⟨A, c, h1, h2, h3, h4⟩ := h
  exact ⟨A, c, h1, h2, h3, own_ext h4 hg⟩
theorem FreshS.of {base b0 n : Nat} {ss : List Value} {e : TypeId} {w : World} {A : Option Addr} {c : Nat} (h : w.ownsRow b0 e 1 (.slice A n c) n ss) (hb : base ≤ b0) : FreshS base ss n e w (.slice A n c) := by
  obtain ⟨A', c', e1, h2, h3, -, -⟩ := Rd.of_own h (by decide)
  injection e1 with e1 e2 e3
  subst e1 e3
  exact ⟨A, c, rfl, h2, h3, ⟨h.1, h.2.imp id fun ⟨g, cap, cur, h1, h2, h3⟩ => ⟨g, cap, cur, h1, Nat.le_trans hb h2, h3⟩⟩⟩
theorem rd_ownG {w : World} {base e n z : Nat} {A : Option Addr} {c : Nat} {xs : List Value} (h : w.ownsRow base e z (.slice A n c) n xs) (hz : 0 < z := by decide) : Rd (base ≤ ·) w A xs := by
  obtain ⟨A', c', e1, _, _, _, hr⟩ := Rd.of_own h hz
  injection e1 with e1
  rw [e1]; exact hr
section
variable {Q : Exit → Act → World → Prop} {ops : Array Oper} {hd : List Oper} {a : Act} {cs : List (Option Value)} {X : (Nat → Bool) → (Nat → Value) → World → Prop} {i : Nat} {o : Oper}
/-- a call of a function that is known only when it comes up -/
theorem gd_callE (hap : dstApart hd = true) (hw : Want ops hd a cs i o true) (h : ∀ D u ρ w, KG ops hd a cs X i D u ρ w → D i = false → ∃ f args, (execOp ρ o).run Tryz.prog w = .ok (.enter f args) w ∧ Calls Tryz.prog f args w (fun e w' => ∃ v, e = .returned v ∧ (∀ c, cs[i]? = some (some c) → v = c) ∧ X (updB D i) (upd u i v) w')) : GenOk Tryz.prog Q ops hd a (JC cs X) i o := by
  refine ⟨?_⟩
  rintro D u w ⟨hi, hx⟩ hdep hnot K hK
  rw [if_pos (hw.is hap hi hdep)]
  unfold Oper.wp
  obtain ⟨f, args, h0, h⟩ := h D u _ w ⟨Rho.mk_ hap u, hi, hx, hdep⟩ hnot
  rw [h0]
  simp only [Oper.upon]
  refine h.mono ?_
  rintro e w' ⟨v, rfl, h2, h3⟩
  exact hK v w' (jc_set hi h2 h3)
end
theorem rd_notB {w : World} {base e n z pb : Nat} {A : Option Addr} {c : Nat} {xs : List Value} (h : w.ownsRow base e z (.slice A n c) n xs) (hp : Value.ownBlock (.slice A n c) ≠ some pb) (hz : 0 < z := by decide) : Rd (fun b => base ≤ b ∧ b ≠ pb) w A xs := by
  intro hn
  obtain ⟨b, o, e1, h1, h2, h3⟩ := rd_ownG h hz hn
  refine ⟨b, o, e1, ⟨h1, fun e2 => hp ?_⟩, h2, h3⟩
  rcases h.2 with ⟨e3, _⟩ | ⟨g, cap, cur, e3, _⟩
  · injection e3 with e3; rw [e3] at e1; cases e1
  · injection e3 with e3 _ _
    rw [e3] at e1
    injection e1 with e1
    injection e1 with e1 _
    rw [e3, e1, e2]; rfl
end Go.Proofs.YtfkgcighooijhaaGreatDoor

namespace Go.Proofs.YtfkgcighooijhaaGreatDoor
open Go.RowKit
set_option linter.unusedVariables false
set_option linter.unusedSimpArgs false

theorem blk_norow {w : World} {g t e z n base : Nat} {cs : Array Value} {v : Value} {xs : List Value} (hB : Blk w g t cs) (h : w.ownsRow base e z v n xs) (hte : t ≠ e) : v.ownBlock ≠ some g := by
  rcases h.2 with ⟨rfl, _⟩ | ⟨g', cap, cur, rfl, _, hh, _⟩
  · simp [Value.ownBlock]
  · intro e1
    have e2 : g' = g := by simpa [Value.ownBlock] using e1
    subst e2
    unfold Blk at hB
    rw [hB] at hh
    injection hh with hh
    injection hh with _ h2 _
    exact hte h2
theorem own_off {w w' : World} {base e z n g : Nat} {v : Value} {xs : List Value} (h : w.ownsRow base e z v n xs) (hg : w.grownBy w' (some g)) (hne : v.ownBlock ≠ some g) : w'.ownsRow base e z v n xs := h.kept hg (.inr hne)
theorem own_putk {w : World} {base e size g n c k : Nat} {xs : List Value} {u : Value} (h : w.ownsRow base e size (.slice (some ⟨g, 0, none⟩) n c) n xs) (hk : k < n * size) : (w.setCell ⟨g, k, none⟩ u).ownsRow base e size (.slice (some ⟨g, 0, none⟩) n c) n (xs.set k u) := by
  obtain ⟨hl, h2⟩ := h
  refine ⟨by simpa using hl, ?_⟩
  rcases h2 with ⟨h3, _⟩ | ⟨g', cap, cur, h3, h4, h5, h6, h7, h8, h9⟩
  · cases h3
  · injection h3 with e1 e2 e3
    injection e1 with e1
    injection e1 with e1
    subst e1 e3
    refine .inr ⟨g, c, cur.setIfInBounds k u, rfl, h4, ?_, h6, h7, by simpa using h8, ?_⟩
    · simp [World.setCell, Array.getElem?_modify, h5]
    · rw [Array.toList_setIfInBounds, List.take_set, h9]
end Go.Proofs.YtfkgcighooijhaaGreatDoor

namespace Go.Proofs.YtfkgcighooijhaaGreatDoor
open Go.RowKit
set_option linter.unusedVariables false
set_option linter.unusedSimpArgs false

/-- all blocks that were there are as they were, those of B apart -/
def FrN (B : Nat → Prop) (W w : World) : Prop := w.os = W.os ∧ w.tape = W.tape ∧ w.output = W.output ∧ W.heap.size ≤ w.heap.size ∧ ∀ i, i < W.heap.size → ¬ B i → w.heap[i]? = W.heap[i]?
theorem FrN.refl (B : Nat → Prop) (w : World) : FrN B w w := ⟨rfl, rfl, rfl, Nat.le_refl _, fun _ _ _ => rfl⟩
theorem FrN.drew {B : Nat → Prop} {W w : World} (h : FrN B W w) : FrN B W w.drew := h
theorem FrN.grow {B : Nat → Prop} {W w w' : World} {row : Option Nat} (h : FrN B W w) (hg : w.grownBy w' row) (hr : ∀ g, row = some g → B g ∨ W.heap.size ≤ g) : FrN B W w' :=
  ⟨hg.os.trans h.1, hg.tape.trans h.2.1, hg.output.trans h.2.2.1, Nat.le_trans h.2.2.2.1 hg.size, fun i hi hB => (hg.block i (Nat.lt_of_lt_of_le hi h.2.2.2.1) (fun e => by rcases hr i e.symm with h1 | h1; exact hB h1; omega)).trans (h.2.2.2.2 i hi hB)⟩
theorem FrN.alloc {B : Nat → Prop} {W w : World} (h : FrN B W w) (o : Obj) : FrN B W (w.alloc o) := h.grow (World.grownBy_alloc w o none) (by simp)
theorem FrN.set_ {B : Nat → Prop} {W w : World} (h : FrN B W w) {p : Addr} (hp : B p.block ∨ W.heap.size ≤ p.block) (v : Value) : FrN B W (w.setCell p v) :=
  ⟨h.1, h.2.1, h.2.2.1, by simpa [World.setCell] using h.2.2.2.1, fun i hi hB => (Below.heap_setCell w p v i (by rintro rfl; rcases hp with h1 | h1; exact hB h1; omega)).trans (h.2.2.2.2 i hi hB)⟩
theorem FrN.mono {B B' : Nat → Prop} {W w : World} (h : FrN B W w) (hB : ∀ i, B i → B' i) : FrN B' W w := ⟨h.1, h.2.1, h.2.2.1, h.2.2.2.1, fun i hi h1 => h.2.2.2.2 i hi (fun h2 => h1 (hB i h2))⟩
theorem FrN.trans {B B' : Nat → Prop} {W w w' : World} (h : FrN B W w) (k : FrN B' w w') (hB : ∀ i, B' i → B i ∨ W.heap.size ≤ i) : FrN B W w' :=
  ⟨k.1.trans h.1, k.2.1.trans h.2.1, k.2.2.1.trans h.2.2.1, Nat.le_trans h.2.2.2.1 k.2.2.2.1, fun i hi h1 => (k.2.2.2.2 i (Nat.lt_of_lt_of_le hi h.2.2.2.1) (fun h2 => by rcases hB i h2 with h3 | h3; exact h1 h3; omega)).trans (h.2.2.2.2 i hi h1)⟩
theorem FrN.cell {B : Nat → Prop} {W w : World} (h : FrN B W w) {b o : Nat} (hb : b < W.heap.size) (hB : ¬ B b) : w.cell? ⟨b, o, none⟩ = W.cell? ⟨b, o, none⟩ := World.cell?_of_block (a := ⟨b, o, none⟩) (h.2.2.2.2 b hb hB)
theorem FrN.blk {B : Nat → Prop} {W w : World} (h : FrN B W w) {b t : Nat} {cs : Array Value} (hb : Blk W b t cs) (hB : ¬ B b) : Blk w b t cs := (h.2.2.2.2 b hb.lt hB).trans hb
theorem FrN.rd {B S : Nat → Prop} {W w : World} {A : Option Addr} {xs : List Value} (h : FrN B W w) (hr : Rd S W A xs) (hB : ∀ b, S b → ¬ B b) : Rd S w A xs := hr.keep (fun b hb hlt => h.2.2.2.2 b hlt (hB b hb)) h.2.2.2.1
theorem FrN.none_ {B : Nat → Prop} {W w a : World} (h : FrN B W w) (k : a.grownBy W none) (hB : ∀ i, B i → a.heap.size ≤ i) : a.grownBy w none :=
  ⟨h.1.trans k.os, h.2.1.trans k.tape, h.2.2.1.trans k.output, Nat.le_trans k.size h.2.2.2.1, fun i hi _ => (h.2.2.2.2 i (Nat.lt_of_lt_of_le hi k.size) (fun h2 => by have := hB i h2; omega)).trans (k.block i hi (by simp))⟩
/-- the block of a row has this element type -/
def RowT (w : World) (row : Option Nat) (e : TypeId) : Prop := ∀ g, row = some g → ∃ cs, w.heap[g]? = some (.cells cs e (0, 0))
theorem own_rowT {w : World} {base e z n : Nat} {v : Value} {xs : List Value} (h : w.ownsRow base e z v n xs) : RowT w v.ownBlock e := by
  intro g hg
  rcases h.2 with ⟨rfl, _⟩ | ⟨g', cap, cur, rfl, _, hh, _⟩
  · simp [Value.ownBlock] at hg
  · have e2 : g' = g := by simpa [Value.ownBlock] using hg
    subst e2
    exact ⟨cur, hh⟩
theorem rowT_blk {w : World} {row : Option Nat} {e t b : Nat} {cs : Array Value} (h : RowT w row e) (hB : Blk w b t cs) (hne : t ≠ e) : some b ≠ row := by
  intro e1
  obtain ⟨cs', h2⟩ := h b e1.symm
  unfold Blk at hB
  rw [hB] at h2
  injection h2 with h2
  injection h2 with _ h3 _
  exact hne h3
theorem own_rowK {w w' : World} {base e z n e' : Nat} {v : Value} {xs : List Value} {row : Option Nat} (h : w.ownsRow base e z v n xs) (hg : w.grownBy w' row) (hr : RowT w row e') (hne : e ≠ e') : w'.ownsRow base e z v n xs :=
  h.kept hg (by
    cases hv : v.ownBlock with
    | none => exact .inl rfl
    | some k =>
      refine .inr (fun e1 => ?_)
      obtain ⟨cs, h1⟩ := own_rowT h k hv
      obtain ⟨cs', h2⟩ := hr k e1.symm
      rw [h1] at h2
      injection h2 with h2
      injection h2 with _ h3 _
      exact hne h3)
/-- a row to which op 'ap' appends the one element that op 'al' lays -/
structure AppI (W : World) (base al ap : Nat) (v : Value) (e : TypeId) (n : Nat) (xs : List Value) (el : Value) (D : Nat → Bool) (u : Nat → Value) (w : World) : Prop where
  dep : D ap = true → D al = true
  before : D ap = false → w.ownsRow base e 1 v n xs ∧ (D al = true → ∃ b, u al = .slice (some ⟨b, 0, none⟩) 1 1 ∧ W.heap.size ≤ b ∧ Blk w b e #[el])
  after : D ap = true → w.ownsRow base e 1 (u ap) (n + 1) (xs ++ [el]) ∧ ∀ g, (u ap).ownBlock = some g → v.ownBlock = some g ∨ W.heap.size ≤ g
section
variable {W : World} {base al ap : Nat} {v : Value} {e : TypeId} {n : Nat} {xs : List Value} {el : Value} {D : Nat → Bool} {u : Nat → Value} {w w' : World}
theorem AppI.start (h : w.ownsRow base e 1 v n xs) : AppI W base al ap v e n xs el (fun _ => false) u w := ⟨(fun h => by cases h), fun _ => ⟨h, fun h => by cases h⟩, fun h => by cases h⟩
theorem AppI.other (h : AppI W base al ap v e n xs el D u w) {i : Nat} (x : Value) (h1 : i ≠ al) (h2 : i ≠ ap) : AppI W base al ap v e n xs el (updB D i) (upd u i x) w := by
  have a1 := updB_ne D (Ne.symm h1); have a2 := updB_ne D (Ne.symm h2)
  have b1 := upd_ne u x (Ne.symm h1); have b2 := upd_ne u x (Ne.symm h2)
  exact ⟨by rw [a1, a2]; exact h.dep, by rw [a1, a2, b1]; exact h.before, by rw [a2, b2]; exact h.after⟩
theorem AppI.grow (h : AppI W base al ap v e n xs el D u w) {row : Option Nat} {e' : TypeId} (hg : w.grownBy w' row) (hr : RowT w row e') (hne : e ≠ e') : AppI W base al ap v e n xs el D u w' := by
  refine ⟨h.dep, fun h0 => ?_, fun h0 => ?_⟩
  · obtain ⟨h1, h2⟩ := h.before h0
    refine ⟨own_rowK h1 hg hr hne, fun h3 => ?_⟩
    obtain ⟨b, e1, e2, e3⟩ := h2 h3
    exact ⟨b, e1, e2, e3.grown hg (rowT_blk hr e3 hne)⟩
  · obtain ⟨h1, h2⟩ := h.after h0
    exact ⟨own_rowK h1 hg hr hne, h2⟩
theorem AppI.ext (h : AppI W base al ap v e n xs el D u w) (hg : w.grownBy w' none) : AppI W base al ap v e n xs el D u w' := by
  refine ⟨h.dep, fun h0 => ?_, fun h0 => ?_⟩
  · obtain ⟨h1, h2⟩ := h.before h0
    refine ⟨own_ext h1 hg, fun h3 => ?_⟩
    obtain ⟨b, e1, e2, e3⟩ := h2 h3
    exact ⟨b, e1, e2, e3.grown hg (by simp)⟩
  · obtain ⟨h1, h2⟩ := h.after h0
    exact ⟨own_ext h1 hg, h2⟩
theorem AppI.not_yet (h : AppI W base al ap v e n xs el D u w) (h0 : D al = false) : D ap = false := by
  cases h1 : D ap with
  | false => rfl
  | true => rw [h.dep h1] at h0; cases h0
theorem AppI.laid (h : AppI W base al ap v e n xs el D u w) (hne : al ≠ ap) (h0 : D al = false) (hs : W.heap.size ≤ w.heap.size) :
    AppI W base al ap v e n xs el (updB D al) (upd u al (.slice (some ⟨w.heap.size, 0, none⟩) 1 1)) (w.alloc (.cells #[el] e)) := by
  have a1 := updB_ne D (Ne.symm hne)
  have hap := h.not_yet h0
  refine ⟨fun _ => updB_at D al, fun _ => ⟨(h.before hap).1.alloc _, fun _ => ⟨w.heap.size, by rw [upd_at], hs, Blk.new _ _ _⟩⟩, fun h1 => ?_⟩
  rw [a1, hap] at h1; cases h1
theorem AppI.done (h : AppI W base al ap v e n xs el D u w) (hne : al ≠ ap) (h0 : D ap = false) (h1 : D al = true) {v' : Value} (hs : W.heap.size ≤ w.heap.size)
    (ho : w'.ownsRow base e 1 v' (n + 1) (xs ++ [el])) (hb : v'.ownBlock = v.ownBlock ∨ v'.ownBlock = some w.heap.size) :
    AppI W base al ap v e n xs el (updB D ap) (upd u ap v') w' := by
  refine ⟨fun _ => by rw [updB_ne D hne]; exact h1, fun h2 => ?_, fun _ => ?_⟩
  · rw [updB_at] at h2; cases h2
  · rw [upd_at]
    refine ⟨ho, fun g hg => ?_⟩
    rcases hb with hb | hb
    · exact .inl (by rw [← hb]; exact hg)
    · rw [hb] at hg; injection hg with hg; exact .inr (by omega)
/-- the append runs -/
theorem AppI.run {z : Value} {bytes : Nat} (h : AppI W base al ap v e n xs el D u w) (h0 : D ap = false) (h1 : D al = true) (t ty : TypeId) (ht : Tryz.prog.underlying t = some (.slice e)) (hi : (Tryz.prog.info? e).map (fun i => (i.zero, i.size, i.bytes)) = some (some z, 1, bytes)) (hzs : z.cells.size = 1)
    (h1c : el.oneCell' = true) (hb : bytes ≤ 1000) (hn : n ≤ 1000000) (hbase : base ≤ w.heap.size) :
    ∃ v' w', (Builtin.append_ #[t, t] ty #[v, u al]).run Tryz.prog w = .ok v' w' ∧ w'.ownsRow base e 1 v' (n + 1) (xs ++ [el]) ∧ w.grownBy w' v.ownBlock ∧ (v'.ownBlock = v.ownBlock ∨ v'.ownBlock = some w.heap.size) := by
  obtain ⟨ho, h2⟩ := h.before h0
  obtain ⟨b, e1, e2, e3⟩ := h2 h1
  rw [e1]
  exact run_appendN base t ty ht hi hzs (by decide) ho (S := fun _ => True) (some ⟨b, 0, none⟩) 1 1 (news := [el]) (fun _ => ⟨b, 0, rfl, trivial, e3.lt, fun j x hx => by rw [Nat.zero_add, e3.cell j]; simpa using hx⟩) rfl (by intro x hx; rw [List.mem_singleton.1 hx]; exact h1c) hb (by omega) hbase
end
theorem exec_append {ρ : Operand → Value} {w w' : World} {o : Oper} {s x : Operand} {t : TypeId} (ho : o.op = .call { callee := .builtin .append, args := #[s, x], argTypes := #[t, t] }) {v y v' : Value} (hs : ρ s = v) (hx : ρ x = y) (hrun : (Builtin.append_ #[t, t] o.type #[v, y]).run Tryz.prog w = .ok v' w') : (execOp ρ o).run Tryz.prog w = .ok (.value v') w' := by
  simp only [execOp, ho, resolve, invoke, builtin, Sem.run_bind, Sem.run_pure, Result.andThen_ok, List.map_toArray, List.map_cons, List.map_nil, hs, hx, hrun]
end Go.Proofs.YtfkgcighooijhaaGreatDoor
