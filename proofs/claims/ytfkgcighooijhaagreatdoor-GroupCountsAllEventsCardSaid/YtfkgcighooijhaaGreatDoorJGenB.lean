/- Words for drawn regions under wp_region_gen. No condition. -/
import Derived.Test.YtfkgcighooijhaaGreatDoorJCloneS
import Derived.Test.YtfkgcighooijhaaGreatDoorBase
import Derived.Test.YtfkgcighooijhaaGreatDoorJGrpE
namespace Go.Proofs.YtfkgcighooijhaaGreatDoor
open Go.RowKit
set_option linter.unusedVariables false
set_option linter.unusedSimpArgs false

theorem cellG {w w' : World} (h : w.grownBy w' none) {b o : Nat} (hb : b < w.heap.size) : w'.cell? ⟨b, o, none⟩ = w.cell? ⟨b, o, none⟩ := World.cell?_of_block (a := ⟨b, o, none⟩) (h.block b hb (by simp))
theorem run_load (ρ : Operand → Value) (w : World) {o : Oper} {t : TypeId} {x : Nat} {p c : Value} (ho : o.op = .load t (.tmp x)) (hx : ρ (.tmp x) = p) (h : (Instr.loadAt t p).run Tryz.prog w = .ok c w) : (execOp ρ o).run Tryz.prog w = .ok (.value c) w := by
  simp only [execOp, ho, hx, Sem.run_bind, h, Result.andThen_ok, Sem.run_pure]
/-- a fresh slice of strings: what a call of Clone or Distinct has given back -/
def FreshS (base : Nat) (ss : List Value) (n : Nat) (e : TypeId) (w : World) (v : Value) : Prop := ∃ A c, v = .slice A n c ∧ n ≤ c ∧ c ≤ maxLen ∧ w.ownsRow base e 1 (.slice A n c) n ss
theorem FreshS.grown {base n : Nat} {ss : List Value} {e : TypeId} {w w' : World} {v : Value} (h : FreshS base ss n e w v) (hg : w.grownBy w' none) : FreshS base ss n e w' v := by
  obtain ⟨A, c, h1, h2, h3, h4⟩ := h
  exact ⟨A, c, h1, h2, h3, own_ext h4 hg⟩
theorem FreshS.of {base b0 n : Nat} {ss : List Value} {e : TypeId} {w : World} {A : Option Addr} {c : Nat} (h : w.ownsRow b0 e 1 (.slice A n c) n ss) (hb : base ≤ b0) : FreshS base ss n e w (.slice A n c) := by
  obtain ⟨A', c', e1, h2, h3, -, -⟩ := Rd.of_own h (by decide)
  injection e1 with e1 e2 e3
  subst e1 e3
  exact ⟨A, c, rfl, h2, h3, ⟨h.1, h.2.imp id fun ⟨g, cap, cur, h1, h2, h3⟩ => ⟨g, cap, cur, h1, Nat.le_trans hb h2, h3⟩⟩⟩
theorem rd_ownG {w : World} {base e n z : Nat} {A : Option Addr} {c : Nat} {xs : List Value} (h : w.ownsRow base e z (.slice A n c) n xs) (hz : 0 < z := by decide) : Rd (base ≤ ·) w A xs := by
  obtain ⟨A', c', e1, _, _, _, hr⟩ := Rd.of_own h hz
  injection e1 with e1
  rw [e1]; exact hr
section
variable {Q : Exit → Act → World → Prop} {ops : Array Oper} {hd : List Oper} {a : Act} {cs : List (Option Value)} {X : (Nat → Bool) → (Nat → Value) → World → Prop} {i : Nat} {o : Oper}
/-- a call of a function that is known only when it comes up -/
theorem gd_callE (hap : dstApart hd = true) (hw : Want ops hd a cs i o true) (h : ∀ D u ρ w, KG ops hd a cs X i D u ρ w → D i = false → ∃ f args, (execOp ρ o).run Tryz.prog w = .ok (.enter f args) w ∧ Calls Tryz.prog f args w (fun e w' => ∃ v, e = .returned v ∧ (∀ c, cs[i]? = some (some c) → v = c) ∧ X (updB D i) (upd u i v) w')) : GenOk Tryz.prog Q ops hd a (JC cs X) i o := by
  refine ⟨?_⟩
  rintro D u w ⟨hi, hx⟩ hdep hnot K hK
  rw [if_pos (hw.is hap hi hdep)]
  unfold Oper.wp
  obtain ⟨f, args, h0, h⟩ := h D u _ w ⟨Rho.mk_ hap u, hi, hx, hdep⟩ hnot
  rw [h0]
  simp only [Oper.upon]
  refine h.mono ?_
  rintro e w' ⟨v, rfl, h2, h3⟩
  exact hK v w' (jc_set hi h2 h3)
end
theorem rd_notB {w : World} {base e n z pb : Nat} {A : Option Addr} {c : Nat} {xs : List Value} (h : w.ownsRow base e z (.slice A n c) n xs) (hp : Value.ownBlock (.slice A n c) ≠ some pb) (hz : 0 < z := by decide) : Rd (fun b => base ≤ b ∧ b ≠ pb) w A xs := by
  intro hn
  obtain ⟨b, o, e1, h1, h2, h3⟩ := rd_ownG h hz hn
  refine ⟨b, o, e1, ⟨h1, fun e2 => hp ?_⟩, h2, h3⟩
  rcases h.2 with ⟨e3, _⟩ | ⟨g, cap, cur, e3, _⟩
  · injection e3 with e3; rw [e3] at e1; cases e1
  · injection e3 with e3 _ _
    rw [e3] at e1
    injection e1 with e1
    injection e1 with e1 _
    rw [e3, e1, e2]; rfl
end Go.Proofs.YtfkgcighooijhaaGreatDoor

namespace Go.Proofs.YtfkgcighooijhaaGreatDoor
open Go.RowKit
set_option linter.unusedVariables false
set_option linter.unusedSimpArgs false

theorem blk_norow {w : World} {g t e z n base : Nat} {cs : Array Value} {v : Value} {xs : List Value} (hB : Blk w g t cs) (h : w.ownsRow base e z v n xs) (hte : t ≠ e) : v.ownBlock ≠ some g := by
  rcases h.2 with ⟨rfl, _⟩ | ⟨g', cap, cur, rfl, _, hh, _⟩
  · simp [Value.ownBlock]
  · intro e1
    have e2 : g' = g := by simpa [Value.ownBlock] using e1
    subst e2
    unfold Blk at hB
    rw [hB] at hh
    injection hh with hh
    injection hh with _ h2 _
    exact hte h2
theorem own_off {w w' : World} {base e z n g : Nat} {v : Value} {xs : List Value} (h : w.ownsRow base e z v n xs) (hg : w.grownBy w' (some g)) (hne : v.ownBlock ≠ some g) : w'.ownsRow base e z v n xs := h.kept hg (.inr hne)
theorem own_putk {w : World} {base e size g n c k : Nat} {xs : List Value} {u : Value} (h : w.ownsRow base e size (.slice (some ⟨g, 0, none⟩) n c) n xs) (hk : k < n * size) : (w.setCell ⟨g, k, none⟩ u).ownsRow base e size (.slice (some ⟨g, 0, none⟩) n c) n (xs.set k u) := by
  obtain ⟨hl, h2⟩ := h
  refine ⟨by simpa using hl, ?_⟩
  rcases h2 with ⟨h3, _⟩ | ⟨g', cap, cur, h3, h4, h5, h6, h7, h8, h9⟩
  · cases h3
  · injection h3 with e1 e2 e3
    injection e1 with e1
    injection e1 with e1
    subst e1 e3
    refine .inr ⟨g, c, cur.setIfInBounds k u, rfl, h4, ?_, h6, h7, by simpa using h8, ?_⟩
    · simp [World.setCell, Array.getElem?_modify, h5]
    · rw [Array.toList_setIfInBounds, List.take_set, h9]
end Go.Proofs.YtfkgcighooijhaaGreatDoor

namespace Go.Proofs.YtfkgcighooijhaaGreatDoor
open Go.RowKit
set_option linter.unusedVariables false
set_option linter.unusedSimpArgs false

/-- all blocks that were there are as they were, those of B apart -/
def FrN (B : Nat → Prop) (W w : World) : Prop := w.os = W.os ∧ w.tape = W.tape ∧ w.output = W.output ∧ W.heap.size ≤ w.heap.size ∧ ∀ i, i < W.heap.size → ¬ B i → w.heap[i]? = W.heap[i]?
theorem FrN.refl (B : Nat → Prop) (w : World) : FrN B w w := ⟨rfl, rfl, rfl, Nat.le_refl _, fun _ _ _ => rfl⟩
theorem FrN.drew {B : Nat → Prop} {W w : World} (h : FrN B W w) : FrN B W w.drew := h
theorem FrN.grow {B : Nat → Prop} {W w w' : World} {row : Option Nat} (h : FrN B W w) (hg : w.grownBy w' row) (hr : ∀ g, row = some g → B g ∨ W.heap.size ≤ g) : FrN B W w' :=
  ⟨hg.os.trans h.1, hg.tape.trans h.2.1, hg.output.trans h.2.2.1, Nat.le_trans h.2.2.2.1 hg.size, fun i hi hB => (hg.block i (Nat.lt_of_lt_of_le hi h.2.2.2.1) (fun e => by rcases hr i e.symm with h1 | h1; exact hB h1; omega)).trans (h.2.2.2.2 i hi hB)⟩
theorem FrN.alloc {B : Nat → Prop} {W w : World} (h : FrN B W w) (o : Obj) : FrN B W (w.alloc o) := h.grow (World.grownBy_alloc w o none) (by simp)
theorem FrN.set_ {B : Nat → Prop} {W w : World} (h : FrN B W w) {p : Addr} (hp : B p.block ∨ W.heap.size ≤ p.block) (v : Value) : FrN B W (w.setCell p v) :=
  ⟨h.1, h.2.1, h.2.2.1, by simpa [World.setCell] using h.2.2.2.1, fun i hi hB => (Below.heap_setCell w p v i (by rintro rfl; rcases hp with h1 | h1; exact hB h1; omega)).trans (h.2.2.2.2 i hi hB)⟩
theorem FrN.mono {B B' : Nat → Prop} {W w : World} (h : FrN B W w) (hB : ∀ i, B i → B' i) : FrN B' W w := ⟨h.1, h.2.1, h.2.2.1, h.2.2.2.1, fun i hi h1 => h.2.2.2.2 i hi (fun h2 => h1 (hB i h2))⟩
theorem FrN.trans {B B' : Nat → Prop} {W w w' : World} (h : FrN B W w) (k : FrN B' w w') (hB : ∀ i, B' i → B i ∨ W.heap.size ≤ i) : FrN B W w' :=
  ⟨k.1.trans h.1, k.2.1.trans h.2.1, k.2.2.1.trans h.2.2.1, Nat.le_trans h.2.2.2.1 k.2.2.2.1, fun i hi h1 => (k.2.2.2.2 i (Nat.lt_of_lt_of_le hi h.2.2.2.1) (fun h2 => by rcases hB i h2 with h3 | h3; exact h1 h3; omega)).trans (h.2.2.2.2 i hi h1)⟩
theorem FrN.cell {B : Nat → Prop} {W w : World} (h : FrN B W w) {b o : Nat} (hb : b < W.heap.size) (hB : ¬ B b) : w.cell? ⟨b, o, none⟩ = W.cell? ⟨b, o, none⟩ := World.cell?_of_block (a := ⟨b, o, none⟩) (h.2.2.2.2 b hb hB)
theorem FrN.blk {B : Nat → Prop} {W w : World} (h : FrN B W w) {b t : Nat} {cs : Array Value} (hb : Blk W b t cs) (hB : ¬ B b) : Blk w b t cs := (h.2.2.2.2 b hb.lt hB).trans hb
theorem FrN.rd {B S : Nat → Prop} {W w : World} {A : Option Addr} {xs : List Value} (h : FrN B W w) (hr : Rd S W A xs) (hB : ∀ b, S b → ¬ B b) : Rd S w A xs := hr.keep (fun b hb hlt => h.2.2.2.2 b hlt (hB b hb)) h.2.2.2.1
theorem FrN.none_ {B : Nat → Prop} {W w a : World} (h : FrN B W w) (k : a.grownBy W none) (hB : ∀ i, B i → a.heap.size ≤ i) : a.grownBy w none :=
  ⟨h.1.trans k.os, h.2.1.trans k.tape, h.2.2.1.trans k.output, Nat.le_trans k.size h.2.2.2.1, fun i hi _ => (h.2.2.2.2 i (Nat.lt_of_lt_of_le hi k.size) (fun h2 => by have := hB i h2; omega)).trans (k.block i hi (by simp))⟩
/-- the block of a row has this element type -/
def RowT (w : World) (row : Option Nat) (e : TypeId) : Prop := ∀ g, row = some g → ∃ cs, w.heap[g]? = some (.cells cs e (0, 0))
theorem own_rowT {w : World} {base e z n : Nat} {v : Value} {xs : List Value} (h : w.ownsRow base e z v n xs) : RowT w v.ownBlock e := by
  intro g hg
  rcases h.2 with ⟨rfl, _⟩ | ⟨g', cap, cur, rfl, _, hh, _⟩
  · simp [Value.ownBlock] at hg
  · have e2 : g' = g := by simpa [Value.ownBlock] using hg
    subst e2
    exact ⟨cur, hh⟩
theorem rowT_blk {w : World} {row : Option Nat} {e t b : Nat} {cs : Array Value} (h : RowT w row e) (hB : Blk w b t cs) (hne : t ≠ e) : some b ≠ row := by
  intro e1
  obtain ⟨cs', h2⟩ := h b e1.symm
  unfold Blk at hB
  rw [hB] at h2
  injection h2 with h2
  injection h2 with _ h3 _
  exact hne h3
theorem own_rowK {w w' : World} {base e z n e' : Nat} {v : Value} {xs : List Value} {row : Option Nat} (h : w.ownsRow base e z v n xs) (hg : w.grownBy w' row) (hr : RowT w row e') (hne : e ≠ e') : w'.ownsRow base e z v n xs :=
  h.kept hg (by
    cases hv : v.ownBlock with
    | none => exact .inl rfl
    | some k =>
      refine .inr (fun e1 => ?_)
      obtain ⟨cs, h1⟩ := own_rowT h k hv
      obtain ⟨cs', h2⟩ := hr k e1.symm
      rw [h1] at h2
      injection h2 with h2
      injection h2 with _ h3 _
      exact hne h3)
/-- a row to which op 'ap' appends the one element that op 'al' lays -/
structure AppI (W : World) (base al ap : Nat) (v : Value) (e : TypeId) (n : Nat) (xs : List Value) (el : Value) (D : Nat → Bool) (u : Nat → Value) (w : World) : Prop where
  dep : D ap = true → D al = true
  before : D ap = false → w.ownsRow base e 1 v n xs ∧ (D al = true → ∃ b, u al = .slice (some ⟨b, 0, none⟩) 1 1 ∧ W.heap.size ≤ b ∧ Blk w b e #[el])
  after : D ap = true → w.ownsRow base e 1 (u ap) (n + 1) (xs ++ [el]) ∧ ∀ g, (u ap).ownBlock = some g → v.ownBlock = some g ∨ W.heap.size ≤ g
section
variable {W : World} {base al ap : Nat} {v : Value} {e : TypeId} {n : Nat} {xs : List Value} {el : Value} {D : Nat → Bool} {u : Nat → Value} {w w' : World}
theorem AppI.start (h : w.ownsRow base e 1 v n xs) : AppI W base al ap v e n xs el (fun _ => false) u w := ⟨(fun h => by cases h), fun _ => ⟨h, fun h => by cases h⟩, fun h => by cases h⟩
theorem AppI.other (h : AppI W base al ap v e n xs el D u w) {i : Nat} (x : Value) (h1 : i ≠ al) (h2 : i ≠ ap) : AppI W base al ap v e n xs el (updB D i) (upd u i x) w := by
  have a1 := updB_ne D (Ne.symm h1); have a2 := updB_ne D (Ne.symm h2)
  have b1 := upd_ne u x (Ne.symm h1); have b2 := upd_ne u x (Ne.symm h2)
  exact ⟨by rw [a1, a2]; exact h.dep, by rw [a1, a2, b1]; exact h.before, by rw [a2, b2]; exact h.after⟩
theorem AppI.grow (h : AppI W base al ap v e n xs el D u w) {row : Option Nat} {e' : TypeId} (hg : w.grownBy w' row) (hr : RowT w row e') (hne : e ≠ e') : AppI W base al ap v e n xs el D u w' := by
  refine ⟨h.dep, fun h0 => ?_, fun h0 => ?_⟩
  · obtain ⟨h1, h2⟩ := h.before h0
    refine ⟨own_rowK h1 hg hr hne, fun h3 => ?_⟩
    obtain ⟨b, e1, e2, e3⟩ := h2 h3
    exact ⟨b, e1, e2, e3.grown hg (rowT_blk hr e3 hne)⟩
  · obtain ⟨h1, h2⟩ := h.after h0
    exact ⟨own_rowK h1 hg hr hne, h2⟩
theorem AppI.ext (h : AppI W base al ap v e n xs el D u w) (hg : w.grownBy w' none) : AppI W base al ap v e n xs el D u w' := by
  refine ⟨h.dep, fun h0 => ?_, fun h0 => ?_⟩
  · obtain ⟨h1, h2⟩ := h.before h0
    refine ⟨own_ext h1 hg, fun h3 => ?_⟩
    obtain ⟨b, e1, e2, e3⟩ := h2 h3
    exact ⟨b, e1, e2, e3.grown hg (by simp)⟩
  · obtain ⟨h1, h2⟩ := h.after h0
    exact ⟨own_ext h1 hg, h2⟩
theorem AppI.not_yet (h : AppI W base al ap v e n xs el D u w) (h0 : D al = false) : D ap = false := by
  cases h1 : D ap with
  | false => rfl
  | true => rw [h.dep h1] at h0; cases h0
theorem AppI.laid (h : AppI W base al ap v e n xs el D u w) (hne : al ≠ ap) (h0 : D al = false) (hs : W.heap.size ≤ w.heap.size) :
    AppI W base al ap v e n xs el (updB D al) (upd u al (.slice (some ⟨w.heap.size, 0, none⟩) 1 1)) (w.alloc (.cells #[el] e)) := by
  have a1 := updB_ne D (Ne.symm hne)
  have hap := h.not_yet h0
  refine ⟨fun _ => updB_at D al, fun _ => ⟨(h.before hap).1.alloc _, fun _ => ⟨w.heap.size, by rw [upd_at], hs, Blk.new _ _ _⟩⟩, fun h1 => ?_⟩
  rw [a1, hap] at h1; cases h1
theorem AppI.done (h : AppI W base al ap v e n xs el D u w) (hne : al ≠ ap) (h0 : D ap = false) (h1 : D al = true) {v' : Value} (hs : W.heap.size ≤ w.heap.size)
    (ho : w'.ownsRow base e 1 v' (n + 1) (xs ++ [el])) (hb : v'.ownBlock = v.ownBlock ∨ v'.ownBlock = some w.heap.size) :
    AppI W base al ap v e n xs el (updB D ap) (upd u ap v') w' := by
  refine ⟨fun _ => by rw [updB_ne D hne]; exact h1, fun h2 => ?_, fun _ => ?_⟩
  · rw [updB_at] at h2; cases h2
  · rw [upd_at]
    refine ⟨ho, fun g hg => ?_⟩
    rcases hb with hb | hb
    · exact .inl (by rw [← hb]; exact hg)
    · rw [hb] at hg; injection hg with hg; exact .inr (by omega)
/-- the append runs -/
theorem AppI.run {z : Value} {bytes : Nat} (h : AppI W base al ap v e n xs el D u w) (h0 : D ap = false) (h1 : D al = true) (t ty : TypeId) (ht : Tryz.prog.underlying t = some (.slice e)) (hi : (Tryz.prog.info? e).map (fun i => (i.zero, i.size, i.bytes)) = some (some z, 1, bytes)) (hzs : z.cells.size = 1)
    (h1c : el.oneCell' = true) (hb : bytes ≤ 1000) (hn : n ≤ 1000000) (hbase : base ≤ w.heap.size) :
    ∃ v' w', (Builtin.append_ #[t, t] ty #[v, u al]).run Tryz.prog w = .ok v' w' ∧ w'.ownsRow base e 1 v' (n + 1) (xs ++ [el]) ∧ w.grownBy w' v.ownBlock ∧ (v'.ownBlock = v.ownBlock ∨ v'.ownBlock = some w.heap.size) := by
  obtain ⟨ho, h2⟩ := h.before h0
  obtain ⟨b, e1, e2, e3⟩ := h2 h1
  rw [e1]
  exact run_appendN base t ty ht hi hzs (by decide) ho (S := fun _ => True) (some ⟨b, 0, none⟩) 1 1 (news := [el]) (fun _ => ⟨b, 0, rfl, trivial, e3.lt, fun j x hx => by rw [Nat.zero_add, e3.cell j]; simpa using hx⟩) rfl (by intro x hx; rw [List.mem_singleton.1 hx]; exact h1c) hb (by omega) hbase
end
theorem exec_append {ρ : Operand → Value} {w w' : World} {o : Oper} {s x : Operand} {t : TypeId} (ho : o.op = .call { callee := .builtin .append, args := #[s, x], argTypes := #[t, t] }) {v y v' : Value} (hs : ρ s = v) (hx : ρ x = y) (hrun : (Builtin.append_ #[t, t] o.type #[v, y]).run Tryz.prog w = .ok v' w') : (execOp ρ o).run Tryz.prog w = .ok (.value v') w' := by
  simp only [execOp, ho, resolve, invoke, builtin, Sem.run_bind, Sem.run_pure, Result.andThen_ok, List.map_toArray, List.map_cons, List.map_nil, hs, hx, hrun]
end Go.Proofs.YtfkgcighooijhaaGreatDoor

namespace Go.Proofs.YtfkgcighooijhaaGreatDoor
open Go.RowKit
set_option linter.unusedVariables false
set_option linter.unusedSimpArgs false

/-- a partial that is being made: its rows are the call's own -/
structure POwn (w : World) (base pb : Nat) (key : Value) (cs : List CM) (vT vS vV : Value) : Prop where
  blk : Blk w pb 69 #[key, vT, vS, vV]
  t : w.ownsRow base 3 1 vT cs.length (tOf cs)
  s : w.ownsRow base 4 1 vS cs.length (sOf cs)
  v : w.ownsRow base 24 1 vV cs.length (vOf cs)
/-- the blocks of such a partial -/
def PB (pb : Nat) (vT vS vV : Value) (i : Nat) : Prop := i = pb ∨ Value.ownBlock vT = some i ∨ Value.ownBlock vS = some i ∨ Value.ownBlock vV = some i
def Newer (w : World) (v v' : Value) : Prop := ∀ g, Value.ownBlock v' = some g → Value.ownBlock v = some g ∨ w.heap.size ≤ g
def PutPost (w : World) (base pb : Nat) (key : Value) (cs : List CM) (vT vS vV : Value) (c : CM) (e : Ending) (w' : World) : Prop :=
  e = .returned (.tuple #[]) ∧ ∃ vT' vS' vV', POwn w' base pb key (cs ++ [c]) vT' vS' vV' ∧ FrN (PB pb vT vS vV) w w' ∧ Newer w vT vT' ∧ Newer w vS vS' ∧ Newer w vV vV'
theorem tOf_snoc (cs : List CM) (c : CM) : tOf (cs ++ [c]) = tOf cs ++ [.int .i64 c.t] := by simp [tOf]
theorem sOf_snoc (cs : List CM) (c : CM) : sOf (cs ++ [c]) = sOf cs ++ [.bool c.s] := by simp [sOf]
theorem vOf_snoc (cs : List CM) (c : CM) : vOf (cs ++ [c]) = vOf cs ++ [c.v.val] := by simp [vOf]
set_option maxHeartbeats 8000000 in
set_option maxRecDepth 100000 in
theorem put_any (base pb : Nat) (key : Value) (cs : List CM) (vT vS vV : Value) (c : CM) (w : World) (h : POwn w base pb key cs vT vS vV) (hnn : cs.length ≤ 1000000) (hbase0 : base ≤ w.heap.size) :
    Calls Tryz.prog 51 #[.pointer (some ⟨pb, 0, none⟩), .agg c.cells.toArray] w (PutPost w base pb key cs vT vS vV c) := by
  obtain ⟨hB, hT, hS, hV⟩ := h
  obtain ⟨xt, xs, xl, xa, xc⟩ := c
  show Calls _ _ #[_, .agg #[.int .i64 xt, .bool xs, .slice xa xl.length xc]] w _
  obtain ⟨cb, hcbd⟩ : ∃ cb, cb = w.heap.size := ⟨_, rfl⟩
  obtain ⟨W0, hW0⟩ : ∃ W, W = w.alloc (.cells #[.int .i64 xt, .bool xs, .slice xa xl.length xc] 91) := ⟨_, rfl⟩
  have hC : Blk W0 cb 91 #[.int .i64 xt, .bool xs, .slice xa xl.length xc] := by rw [hW0, hcbd]; exact Blk.new _ _ _
  have hB0 : Blk W0 pb 69 #[key, vT, vS, vV] := by rw [hW0]; exact hB.alloc _
  have own0 := Lib.hid (show W0.ownsRow base 3 1 vT cs.length (tOf cs) by rw [hW0]; exact hT.alloc _)
  have oS0 := Lib.hid (show W0.ownsRow base 4 1 vS cs.length (sOf cs) by rw [hW0]; exact hS.alloc _)
  have oV0 := Lib.hid (show W0.ownsRow base 24 1 vV cs.length (vOf cs) by rw [hW0]; exact hV.alloc _)
  have F0 : Hid (FrN (PB pb vT vS vV) w W0) := Lib.hid (by rw [hW0]; exact (FrN.refl _ _).alloc _)
  have HCB := Lib.hid hcbd
  have BP := Lib.hid hB0
  have BC := Lib.hid hC
  have HW := Lib.hid hW0
  have hpbc : pb < cb := by rw [hcbd]; exact hB.lt
  have hbase : base ≤ W0.heap.size := by rw [hW0]; simp; omega
  clear hB hT hS hV hcbd
  go_enter Tryz.func51, Tryz.ntmps51
  go_upto_region 1 with fail
  rw [← hW0]
  clear hW0
  rw [show w.heap.size = cb from HCB.out.symm]
  have hpb : pb < W0.heap.size := BP.out.lt
  have hcb : cb < W0.heap.size := BC.out.lt
  have hnp : ¬ (Value.ownBlock vT = some pb) := blk_norow BP.out own0.out (by decide)
  have hnc : ¬ (Value.ownBlock vT = some cb) := blk_norow BC.out own0.out (by decide)
  have p1 := BP.out.cell 1
  have c0 := BC.out.cell 0
  simp at p1 c0
  refine wp_region_gen 9 (JC [some (.pointer (some ⟨pb, 0, none⟩)), some (.pointer (some ⟨pb, 0, none⟩)), some (.pointer (some ⟨pb, 0, none⟩)), some (.pointer (some ⟨pb, 1, none⟩)), some (vT), some (.pointer (some ⟨cb, 0, none⟩)), some (.int .i64 xt), none, none] (fun D u w => FrN (fun i => Value.ownBlock vT = some i) W0 w ∧ AppI W0 base 7 8 vT 3 cs.length (tOf cs) (.int .i64 xt) D u w)) (by kernel_rfl) (by kernel_rfl) ?_ ?_ ?_
  · intro u
    exact ⟨(fun j c _ h => by cases h), FrN.refl _ _, AppI.start own0.out⟩
  · intro AA hA
    have hasz : AA.tmps.size = 37 := by rw [hA]; kernel_rfl
    have ea0 : AA.eval (.tmp 0) = .pointer (some ⟨pb, 0, none⟩) := by rw [hA]; kernel_rfl
    have ea3 : AA.eval (.tmp 3) = .pointer (some ⟨cb, 0, none⟩) := by rw [hA]; kernel_rfl
    clear hA
    simp only [List.take_succ_cons, List.take_zero]
    refine .cons ?_ (.cons ?_ (.cons ?_ (.cons ?_ (.cons ?_ (.cons ?_ (.cons ?_ (.cons ?_ (.cons ?_ (.nil)))))))))
    · exact gd_gen (by kernel_rfl) (Want.none_ rfl) rfl (fun D u w v h => ⟨h.1, h.2.other v (by omega) (by omega)⟩) (fun D u ρ w kn => by
        have e0 := kn.own 0 (c := .pointer (some ⟨pb, 0, none⟩)) (by kernel_rfl) ea0
        simp [execOp, kn.rho.con, e0, go_sem])
    · exact gd_gen (by kernel_rfl) (Want.none_ rfl) rfl (fun D u w v h => ⟨h.1, h.2.other v (by omega) (by omega)⟩) (fun D u ρ w kn => by
        have e0 := kn.own 0 (c := .pointer (some ⟨pb, 0, none⟩)) (by kernel_rfl) ea0
        simp [execOp, kn.rho.con, e0, go_sem])
    · exact gd_gen (by kernel_rfl) (Want.none_ rfl) rfl (fun D u w v h => ⟨h.1, h.2.other v (by omega) (by omega)⟩) (fun D u ρ w kn => by
        have e0 := kn.con 1 5 (c := .pointer (some ⟨pb, 0, none⟩)) (by kernel_rfl) (by omega) (by kernel_rfl) rfl
        simp [execOp, kn.rho.con, e0, go_sem])
    · exact gd_gen (by kernel_rfl) (Want.none_ rfl) rfl (fun D u w v h => ⟨h.1, h.2.other v (by omega) (by omega)⟩) (fun D u ρ w kn => by
        have e0 := kn.con 2 6 (c := .pointer (some ⟨pb, 0, none⟩)) (by kernel_rfl) (by omega) (by kernel_rfl) rfl
        simp [execOp, kn.rho.con, e0, go_sem])
    · exact gd_gen (by kernel_rfl) (Want.none_ rfl) rfl (fun D u w v h => ⟨h.1, h.2.other v (by omega) (by omega)⟩) (fun D u ρ w kn => by
        have e0 := kn.con 3 7 (c := .pointer (some ⟨pb, 1, none⟩)) (by kernel_rfl) (by omega) (by kernel_rfl) rfl
        have f0 := (kn.ext.1.cell hpb hnp).trans p1
        simp [execOp, kn.rho.con, e0, f0, go_sem])
    · exact gd_gen (by kernel_rfl) (Want.none_ rfl) rfl (fun D u w v h => ⟨h.1, h.2.other v (by omega) (by omega)⟩) (fun D u ρ w kn => by
        have e0 := kn.own 3 (c := .pointer (some ⟨cb, 0, none⟩)) (by kernel_rfl) ea3
        simp [execOp, kn.rho.con, e0, go_sem])
    · exact gd_gen (by kernel_rfl) (Want.none_ rfl) rfl (fun D u w v h => ⟨h.1, h.2.other v (by omega) (by omega)⟩) (fun D u ρ w kn => by
        have e0 := kn.con 5 9 (c := .pointer (some ⟨cb, 0, none⟩)) (by kernel_rfl) (by omega) (by kernel_rfl) rfl
        have f0 := (kn.ext.1.cell hcb hnc).trans c0
        simp [execOp, kn.rho.con, e0, f0, go_sem])
    · refine gd_eff (by kernel_rfl) (Want.none_ rfl) (fun D u ρ w kn hD => ?_)
      have e0 := kn.con 6 10 (c := .int .i64 xt) (by kernel_rfl) (by omega) (by kernel_rfl) rfl
      obtain ⟨x1, x2⟩ := kn.ext
      exact ⟨.slice (some ⟨w.heap.size, 0, none⟩) 1 1, w.alloc (.cells #[.int .i64 xt] 3), by simp [execOp, kn.rho.con, e0, go_sem], (fun c h => by injection h with h; cases h), x1.alloc _, x2.laid (by omega) hD x1.2.2.2.1⟩
    · refine gd_eff (by kernel_rfl) (Want.none_ rfl) (fun D u ρ w kn hD => ?_)
      have e0 := kn.con 4 8 (c := vT) (by kernel_rfl) (by omega) (by kernel_rfl) rfl
      have e1 := kn.slot 7 11 (by kernel_rfl) (by omega)
      have h1 := kn.dep 7 (by kernel_rfl)
      obtain ⟨x1, x2⟩ := kn.ext
      obtain ⟨v', w', hr, ho, hg, hb⟩ := x2.run hD h1 47 47 Tryz.underlying47 intInfo37 rfl rfl (by decide) hnn (Nat.le_trans hbase x1.2.2.2.1)
      exact ⟨v', w', exec_append rfl e0 e1 hr, (fun c h => by injection h with h; cases h), x1.grow hg (fun g hg => .inl (hg)), x2.done (by omega) hD h1 x1.2.2.2.1 ho hb⟩
  · intro D u w3 hJ hD
    obtain ⟨hc, x1, x2⟩ := hJ
    obtain ⟨ho, hnew⟩ := x2.after (hD 8 (by omega))
    obtain ⟨A0, C0, hv2, -, -, -, -⟩ := Rd.of_own ho (by decide)
    have e0 : u 0 = .pointer (some ⟨pb, 0, none⟩) := hc 0 _ rfl (hD 0 (by omega))
    simp only [List.take_succ_cons, List.take_zero, List.drop_succ_cons, List.drop_zero, putAll]
    rw [hv2] at ho hnew ⊢
    rw [e0]
    have hB3 := x1.blk BP.out hnp
    have hC3 := x1.blk BC.out hnc
    have q1 := hB3.cell 1
    have f1 := hB3.frozen 1
    simp at q1
    obtain ⟨W1, hW1⟩ : ∃ W, W = w3.setCell ⟨pb, 1, none⟩ (.slice A0 (cs.length + 1) C0) := ⟨_, rfl⟩
    have hgS : w3.grownBy W1 (some pb) := by rw [hW1]; exact only_setCell (only_refl _ _) (.inl rfl) _
    have BP1 : Hid (Blk W1 pb 69 #[key, (.slice A0 (cs.length + 1) C0), vS, vV]) := Lib.hid (by rw [hW1]; simpa using hB3.set_ 1 (.slice A0 (cs.length + 1) C0))
    have BC1 : Hid (Blk W1 cb 91 #[.int .i64 xt, .bool xs, .slice xa xl.length xc]) := Lib.hid (hC3.grown hgS (by intro e; injection e; omega))
    have oN1 : Hid (W1.ownsRow base 3 1 (.slice A0 (cs.length + 1) C0) (cs.length + 1) (tOf cs ++ [.int .i64 xt])) := Lib.hid (own_off ho hgS (blk_norow hB3 ho (by decide)))
    have NW1 : Hid (∀ g, Value.ownBlock (.slice A0 (cs.length + 1) C0) = some g → Value.ownBlock vT = some g ∨ W0.heap.size ≤ g) := Lib.hid hnew
    have KEEP : Hid (∀ (b' : Nat) (e' : TypeId) (m : Nat) (ys : List Value) (z : Value), W0.ownsRow b' e' 1 z m ys → e' ≠ 3 → e' ≠ 69 → W1.ownsRow b' e' 1 z m ys) := Lib.hid (fun b' e' m ys z hz h1 h2 => by
      have k1 : w3.ownsRow b' e' 1 z m ys := by
        obtain ⟨hl, hx⟩ := hz
        refine ⟨hl, ?_⟩
        rcases hx with hx | ⟨g, cap, cur, y1, y2, y3, y4⟩
        · exact .inl hx
        · refine .inr ⟨g, cap, cur, y1, y2, (x1.2.2.2.2 g (Array.getElem?_eq_some_iff.1 y3).1 (fun hB => ?_)).trans y3, y4⟩
          obtain ⟨cs', h3⟩ := own_rowT own0.out g hB
          rw [y3] at h3
          injection h3 with h3
          injection h3 with _ h3 _
          exact h1 h3
      exact own_off k1 hgS (blk_norow (BP.out |> fun hb => x1.blk hb hnp) k1 (fun e => h2 e.symm)))
    have F1 : Hid (FrN (PB pb vT vS vV) w W1) := Lib.hid (F0.out.trans (B' := fun i => Value.ownBlock vT = some i ∨ i = pb) ((x1.mono (fun i hi => .inl hi)).grow hgS (fun g hg => .inl (.inr (by injection hg with hg; exact hg.symm)))) (fun i hi => by rcases hi with hi | hi; exact .inl (.inr (.inl hi)); exact .inl (.inl hi)))
    have hs1 : W0.heap.size ≤ W1.heap.size := Nat.le_trans x1.2.2.2.1 hgS.size
    have oS1 := Lib.hid (KEEP.out _ _ _ _ _ oS0.out (by decide) (by decide))
    have oV1 := Lib.hid (KEEP.out _ _ _ _ _ oV0.out (by decide) (by decide))
    have hbase' : base ≤ W1.heap.size := Nat.le_trans hbase hs1
    clear hc hD ho hnew e0 hv2 x1 x2 hB3 hC3 hgS KEEP hpb hcb hnp hnc p1 c0 hbase
    have hbase := hbase'
    clear hbase'
    go_upto_region 2 with fail
    rw [← hW1]
    clear hW1 q1 f1
    have own1 := oS1
    have hpb : pb < W1.heap.size := BP1.out.lt
    have hcb : cb < W1.heap.size := BC1.out.lt
    have hnp : ¬ (Value.ownBlock vS = some pb) := blk_norow BP1.out own1.out (by decide)
    have hnc : ¬ (Value.ownBlock vS = some cb) := blk_norow BC1.out own1.out (by decide)
    have p2 := BP1.out.cell 2
    have c1 := BC1.out.cell 1
    simp at p2 c1
    refine wp_region_gen 9 (JC [some (.pointer (some ⟨pb, 0, none⟩)), some (.pointer (some ⟨pb, 0, none⟩)), some (.pointer (some ⟨pb, 0, none⟩)), some (.pointer (some ⟨pb, 2, none⟩)), some (vS), some (.pointer (some ⟨cb, 1, none⟩)), some (.bool xs), none, none] (fun D u w => FrN (fun i => Value.ownBlock vS = some i) W1 w ∧ AppI W1 base 7 8 vS 4 cs.length (sOf cs) (.bool xs) D u w)) (by kernel_rfl) (by kernel_rfl) ?_ ?_ ?_
    · intro u
      exact ⟨(fun j c _ h => by cases h), FrN.refl _ _, AppI.start own1.out⟩
    · intro AA hA
      have hasz : AA.tmps.size = 37 := by rw [hA]; kernel_rfl
      have ea0 : AA.eval (.tmp 0) = .pointer (some ⟨pb, 0, none⟩) := by rw [hA]; kernel_rfl
      have ea3 : AA.eval (.tmp 3) = .pointer (some ⟨cb, 0, none⟩) := by rw [hA]; kernel_rfl
      clear hA
      simp only [List.take_succ_cons, List.take_zero]
      refine .cons ?_ (.cons ?_ (.cons ?_ (.cons ?_ (.cons ?_ (.cons ?_ (.cons ?_ (.cons ?_ (.cons ?_ (.nil)))))))))
      · exact gd_gen (by kernel_rfl) (Want.none_ rfl) rfl (fun D u w v h => ⟨h.1, h.2.other v (by omega) (by omega)⟩) (fun D u ρ w kn => by
          have e0 := kn.own 0 (c := .pointer (some ⟨pb, 0, none⟩)) (by kernel_rfl) ea0
          simp [execOp, kn.rho.con, e0, go_sem])
      · exact gd_gen (by kernel_rfl) (Want.none_ rfl) rfl (fun D u w v h => ⟨h.1, h.2.other v (by omega) (by omega)⟩) (fun D u ρ w kn => by
          have e0 := kn.own 0 (c := .pointer (some ⟨pb, 0, none⟩)) (by kernel_rfl) ea0
          simp [execOp, kn.rho.con, e0, go_sem])
      · exact gd_gen (by kernel_rfl) (Want.none_ rfl) rfl (fun D u w v h => ⟨h.1, h.2.other v (by omega) (by omega)⟩) (fun D u ρ w kn => by
          have e0 := kn.con 1 16 (c := .pointer (some ⟨pb, 0, none⟩)) (by kernel_rfl) (by omega) (by kernel_rfl) rfl
          simp [execOp, kn.rho.con, e0, go_sem])
      · exact gd_gen (by kernel_rfl) (Want.none_ rfl) rfl (fun D u w v h => ⟨h.1, h.2.other v (by omega) (by omega)⟩) (fun D u ρ w kn => by
          have e0 := kn.con 2 17 (c := .pointer (some ⟨pb, 0, none⟩)) (by kernel_rfl) (by omega) (by kernel_rfl) rfl
          simp [execOp, kn.rho.con, e0, go_sem])
      · exact gd_gen (by kernel_rfl) (Want.none_ rfl) rfl (fun D u w v h => ⟨h.1, h.2.other v (by omega) (by omega)⟩) (fun D u ρ w kn => by
          have e0 := kn.con 3 18 (c := .pointer (some ⟨pb, 2, none⟩)) (by kernel_rfl) (by omega) (by kernel_rfl) rfl
          have f0 := (kn.ext.1.cell hpb hnp).trans p2
          simp [execOp, kn.rho.con, e0, f0, go_sem])
      · exact gd_gen (by kernel_rfl) (Want.none_ rfl) rfl (fun D u w v h => ⟨h.1, h.2.other v (by omega) (by omega)⟩) (fun D u ρ w kn => by
          have e0 := kn.own 3 (c := .pointer (some ⟨cb, 0, none⟩)) (by kernel_rfl) ea3
          simp [execOp, kn.rho.con, e0, go_sem])
      · exact gd_gen (by kernel_rfl) (Want.none_ rfl) rfl (fun D u w v h => ⟨h.1, h.2.other v (by omega) (by omega)⟩) (fun D u ρ w kn => by
          have e0 := kn.con 5 20 (c := .pointer (some ⟨cb, 1, none⟩)) (by kernel_rfl) (by omega) (by kernel_rfl) rfl
          have f0 := (kn.ext.1.cell hcb hnc).trans c1
          simp [execOp, kn.rho.con, e0, f0, go_sem])
      · refine gd_eff (by kernel_rfl) (Want.none_ rfl) (fun D u ρ w kn hD => ?_)
        have e0 := kn.con 6 21 (c := .bool xs) (by kernel_rfl) (by omega) (by kernel_rfl) rfl
        obtain ⟨x1, x2⟩ := kn.ext
        exact ⟨.slice (some ⟨w.heap.size, 0, none⟩) 1 1, w.alloc (.cells #[.bool xs] 4), by simp [execOp, kn.rho.con, e0, go_sem], (fun c h => by injection h with h; cases h), x1.alloc _, x2.laid (by omega) hD x1.2.2.2.1⟩
      · refine gd_eff (by kernel_rfl) (Want.none_ rfl) (fun D u ρ w kn hD => ?_)
        have e0 := kn.con 4 19 (c := vS) (by kernel_rfl) (by omega) (by kernel_rfl) rfl
        have e1 := kn.slot 7 22 (by kernel_rfl) (by omega)
        have h1 := kn.dep 7 (by kernel_rfl)
        obtain ⟨x1, x2⟩ := kn.ext
        obtain ⟨v', w', hr, ho, hg, hb⟩ := x2.run hD h1 66 66 Tryz.underlying66 boolInfo37 rfl rfl (by decide) hnn (Nat.le_trans hbase x1.2.2.2.1)
        exact ⟨v', w', exec_append rfl e0 e1 hr, (fun c h => by injection h with h; cases h), x1.grow hg (fun g hg => .inl (hg)), x2.done (by omega) hD h1 x1.2.2.2.1 ho hb⟩
    · intro D u w3 hJ hD
      obtain ⟨hc, x1, x2⟩ := hJ
      obtain ⟨ho, hnew⟩ := x2.after (hD 8 (by omega))
      obtain ⟨A1, C1, hv2, -, -, -, -⟩ := Rd.of_own ho (by decide)
      have e0 : u 0 = .pointer (some ⟨pb, 0, none⟩) := hc 0 _ rfl (hD 0 (by omega))
      simp only [List.take_succ_cons, List.take_zero, List.drop_succ_cons, List.drop_zero, putAll]
      rw [hv2] at ho hnew ⊢
      rw [e0]
      have hB3 := x1.blk BP1.out hnp
      have hC3 := x1.blk BC1.out hnc
      have q2 := hB3.cell 2
      have f2 := hB3.frozen 2
      simp at q2
      obtain ⟨W2, hW2⟩ : ∃ W, W = w3.setCell ⟨pb, 2, none⟩ (.slice A1 (cs.length + 1) C1) := ⟨_, rfl⟩
      have hgS : w3.grownBy W2 (some pb) := by rw [hW2]; exact only_setCell (only_refl _ _) (.inl rfl) _
      have BP2 : Hid (Blk W2 pb 69 #[key, (.slice A0 (cs.length + 1) C0), (.slice A1 (cs.length + 1) C1), vV]) := Lib.hid (by rw [hW2]; simpa using hB3.set_ 2 (.slice A1 (cs.length + 1) C1))
      have BC2 : Hid (Blk W2 cb 91 #[.int .i64 xt, .bool xs, .slice xa xl.length xc]) := Lib.hid (hC3.grown hgS (by intro e; injection e; omega))
      have oN2 : Hid (W2.ownsRow base 4 1 (.slice A1 (cs.length + 1) C1) (cs.length + 1) (sOf cs ++ [.bool xs])) := Lib.hid (own_off ho hgS (blk_norow hB3 ho (by decide)))
      have NW2 : Hid (∀ g, Value.ownBlock (.slice A1 (cs.length + 1) C1) = some g → Value.ownBlock vS = some g ∨ W1.heap.size ≤ g) := Lib.hid hnew
      have KEEP : Hid (∀ (b' : Nat) (e' : TypeId) (m : Nat) (ys : List Value) (z : Value), W1.ownsRow b' e' 1 z m ys → e' ≠ 4 → e' ≠ 69 → W2.ownsRow b' e' 1 z m ys) := Lib.hid (fun b' e' m ys z hz h1 h2 => by
        have k1 : w3.ownsRow b' e' 1 z m ys := by
          obtain ⟨hl, hx⟩ := hz
          refine ⟨hl, ?_⟩
          rcases hx with hx | ⟨g, cap, cur, y1, y2, y3, y4⟩
          · exact .inl hx
          · refine .inr ⟨g, cap, cur, y1, y2, (x1.2.2.2.2 g (Array.getElem?_eq_some_iff.1 y3).1 (fun hB => ?_)).trans y3, y4⟩
            obtain ⟨cs', h3⟩ := own_rowT own1.out g hB
            rw [y3] at h3
            injection h3 with h3
            injection h3 with _ h3 _
            exact h1 h3
        exact own_off k1 hgS (blk_norow (BP1.out |> fun hb => x1.blk hb hnp) k1 (fun e => h2 e.symm)))
      have F2 : Hid (FrN (PB pb vT vS vV) w W2) := Lib.hid (F1.out.trans (B' := fun i => Value.ownBlock vS = some i ∨ i = pb) ((x1.mono (fun i hi => .inl hi)).grow hgS (fun g hg => .inl (.inr (by injection hg with hg; exact hg.symm)))) (fun i hi => by rcases hi with hi | hi; exact .inl (.inr (.inr (.inl hi))); exact .inl (.inl hi)))
      have hs2 : W1.heap.size ≤ W2.heap.size := Nat.le_trans x1.2.2.2.1 hgS.size
      have oV2 := Lib.hid (KEEP.out _ _ _ _ _ oV1.out (by decide) (by decide))
      have oT2 := Lib.hid (KEEP.out _ _ _ _ _ oN1.out (by decide) (by decide))
      have hbase' : base ≤ W2.heap.size := Nat.le_trans hbase hs2
      clear hc hD ho hnew e0 hv2 x1 x2 hB3 hC3 hgS KEEP hpb hcb hnp hnc p2 c1 hbase
      have hbase := hbase'
      clear hbase'
      go_upto_region 3 with fail
      rw [← hW2]
      clear hW2 q2 f2
      have own2 := oV2
      have hpb : pb < W2.heap.size := BP2.out.lt
      have hcb : cb < W2.heap.size := BC2.out.lt
      have hnp : ¬ (Value.ownBlock vV = some pb) := blk_norow BP2.out own2.out (by decide)
      have hnc : ¬ (Value.ownBlock vV = some cb) := blk_norow BC2.out own2.out (by decide)
      have p3 := BP2.out.cell 3
      have c2 := BC2.out.cell 2
      simp at p3 c2
      refine wp_region_gen 9 (JC [some (.pointer (some ⟨pb, 0, none⟩)), some (.pointer (some ⟨pb, 0, none⟩)), some (.pointer (some ⟨pb, 0, none⟩)), some (.pointer (some ⟨pb, 3, none⟩)), some (vV), some (.pointer (some ⟨cb, 2, none⟩)), some (.slice xa xl.length xc), none, none] (fun D u w => FrN (fun i => Value.ownBlock vV = some i) W2 w ∧ AppI W2 base 7 8 vV 24 cs.length (vOf cs) (.slice xa xl.length xc) D u w)) (by kernel_rfl) (by kernel_rfl) ?_ ?_ ?_
      · intro u
        exact ⟨(fun j c _ h => by cases h), FrN.refl _ _, AppI.start own2.out⟩
      · intro AA hA
        have hasz : AA.tmps.size = 37 := by rw [hA]; kernel_rfl
        have ea0 : AA.eval (.tmp 0) = .pointer (some ⟨pb, 0, none⟩) := by rw [hA]; kernel_rfl
        have ea3 : AA.eval (.tmp 3) = .pointer (some ⟨cb, 0, none⟩) := by rw [hA]; kernel_rfl
        clear hA
        simp only [List.take_succ_cons, List.take_zero]
        refine .cons ?_ (.cons ?_ (.cons ?_ (.cons ?_ (.cons ?_ (.cons ?_ (.cons ?_ (.cons ?_ (.cons ?_ (.nil)))))))))
        · exact gd_gen (by kernel_rfl) (Want.none_ rfl) rfl (fun D u w v h => ⟨h.1, h.2.other v (by omega) (by omega)⟩) (fun D u ρ w kn => by
            have e0 := kn.own 0 (c := .pointer (some ⟨pb, 0, none⟩)) (by kernel_rfl) ea0
            simp [execOp, kn.rho.con, e0, go_sem])
        · exact gd_gen (by kernel_rfl) (Want.none_ rfl) rfl (fun D u w v h => ⟨h.1, h.2.other v (by omega) (by omega)⟩) (fun D u ρ w kn => by
            have e0 := kn.own 0 (c := .pointer (some ⟨pb, 0, none⟩)) (by kernel_rfl) ea0
            simp [execOp, kn.rho.con, e0, go_sem])
        · exact gd_gen (by kernel_rfl) (Want.none_ rfl) rfl (fun D u w v h => ⟨h.1, h.2.other v (by omega) (by omega)⟩) (fun D u ρ w kn => by
            have e0 := kn.con 1 27 (c := .pointer (some ⟨pb, 0, none⟩)) (by kernel_rfl) (by omega) (by kernel_rfl) rfl
            simp [execOp, kn.rho.con, e0, go_sem])
        · exact gd_gen (by kernel_rfl) (Want.none_ rfl) rfl (fun D u w v h => ⟨h.1, h.2.other v (by omega) (by omega)⟩) (fun D u ρ w kn => by
            have e0 := kn.con 2 28 (c := .pointer (some ⟨pb, 0, none⟩)) (by kernel_rfl) (by omega) (by kernel_rfl) rfl
            simp [execOp, kn.rho.con, e0, go_sem])
        · exact gd_gen (by kernel_rfl) (Want.none_ rfl) rfl (fun D u w v h => ⟨h.1, h.2.other v (by omega) (by omega)⟩) (fun D u ρ w kn => by
            have e0 := kn.con 3 29 (c := .pointer (some ⟨pb, 3, none⟩)) (by kernel_rfl) (by omega) (by kernel_rfl) rfl
            have f0 := (kn.ext.1.cell hpb hnp).trans p3
            simp [execOp, kn.rho.con, e0, f0, go_sem])
        · exact gd_gen (by kernel_rfl) (Want.none_ rfl) rfl (fun D u w v h => ⟨h.1, h.2.other v (by omega) (by omega)⟩) (fun D u ρ w kn => by
            have e0 := kn.own 3 (c := .pointer (some ⟨cb, 0, none⟩)) (by kernel_rfl) ea3
            simp [execOp, kn.rho.con, e0, go_sem])
        · exact gd_gen (by kernel_rfl) (Want.none_ rfl) rfl (fun D u w v h => ⟨h.1, h.2.other v (by omega) (by omega)⟩) (fun D u ρ w kn => by
            have e0 := kn.con 5 31 (c := .pointer (some ⟨cb, 2, none⟩)) (by kernel_rfl) (by omega) (by kernel_rfl) rfl
            have f0 := (kn.ext.1.cell hcb hnc).trans c2
            simp [execOp, kn.rho.con, e0, f0, go_sem])
        · refine gd_eff (by kernel_rfl) (Want.none_ rfl) (fun D u ρ w kn hD => ?_)
          have e0 := kn.con 6 32 (c := .slice xa xl.length xc) (by kernel_rfl) (by omega) (by kernel_rfl) rfl
          obtain ⟨x1, x2⟩ := kn.ext
          exact ⟨.slice (some ⟨w.heap.size, 0, none⟩) 1 1, w.alloc (.cells #[.slice xa xl.length xc] 24), by simp [execOp, kn.rho.con, e0, go_sem], (fun c h => by injection h with h; cases h), x1.alloc _, x2.laid (by omega) hD x1.2.2.2.1⟩
        · refine gd_eff (by kernel_rfl) (Want.none_ rfl) (fun D u ρ w kn hD => ?_)
          have e0 := kn.con 4 30 (c := vV) (by kernel_rfl) (by omega) (by kernel_rfl) rfl
          have e1 := kn.slot 7 33 (by kernel_rfl) (by omega)
          have h1 := kn.dep 7 (by kernel_rfl)
          obtain ⟨x1, x2⟩ := kn.ext
          obtain ⟨v', w', hr, ho, hg, hb⟩ := x2.run hD h1 67 67 Tryz.underlying67 strsInfo37 rfl rfl (by decide) hnn (Nat.le_trans hbase x1.2.2.2.1)
          exact ⟨v', w', exec_append rfl e0 e1 hr, (fun c h => by injection h with h; cases h), x1.grow hg (fun g hg => .inl (hg)), x2.done (by omega) hD h1 x1.2.2.2.1 ho hb⟩
      · intro D u w3 hJ hD
        obtain ⟨hc, x1, x2⟩ := hJ
        obtain ⟨ho, hnew⟩ := x2.after (hD 8 (by omega))
        obtain ⟨A2, C2, hv2, -, -, -, -⟩ := Rd.of_own ho (by decide)
        have e0 : u 0 = .pointer (some ⟨pb, 0, none⟩) := hc 0 _ rfl (hD 0 (by omega))
        simp only [List.take_succ_cons, List.take_zero, List.drop_succ_cons, List.drop_zero, putAll]
        rw [hv2] at ho hnew ⊢
        rw [e0]
        have hB3 := x1.blk BP2.out hnp
        have hC3 := x1.blk BC2.out hnc
        have q3 := hB3.cell 3
        have f3 := hB3.frozen 3
        simp at q3
        obtain ⟨W3, hW3⟩ : ∃ W, W = w3.setCell ⟨pb, 3, none⟩ (.slice A2 (cs.length + 1) C2) := ⟨_, rfl⟩
        have hgS : w3.grownBy W3 (some pb) := by rw [hW3]; exact only_setCell (only_refl _ _) (.inl rfl) _
        have BP3 : Hid (Blk W3 pb 69 #[key, (.slice A0 (cs.length + 1) C0), (.slice A1 (cs.length + 1) C1), (.slice A2 (cs.length + 1) C2)]) := Lib.hid (by rw [hW3]; simpa using hB3.set_ 3 (.slice A2 (cs.length + 1) C2))
        have BC3 : Hid (Blk W3 cb 91 #[.int .i64 xt, .bool xs, .slice xa xl.length xc]) := Lib.hid (hC3.grown hgS (by intro e; injection e; omega))
        have oN3 : Hid (W3.ownsRow base 24 1 (.slice A2 (cs.length + 1) C2) (cs.length + 1) (vOf cs ++ [.slice xa xl.length xc])) := Lib.hid (own_off ho hgS (blk_norow hB3 ho (by decide)))
        have NW3 : Hid (∀ g, Value.ownBlock (.slice A2 (cs.length + 1) C2) = some g → Value.ownBlock vV = some g ∨ W2.heap.size ≤ g) := Lib.hid hnew
        have KEEP : Hid (∀ (b' : Nat) (e' : TypeId) (m : Nat) (ys : List Value) (z : Value), W2.ownsRow b' e' 1 z m ys → e' ≠ 24 → e' ≠ 69 → W3.ownsRow b' e' 1 z m ys) := Lib.hid (fun b' e' m ys z hz h1 h2 => by
          have k1 : w3.ownsRow b' e' 1 z m ys := by
            obtain ⟨hl, hx⟩ := hz
            refine ⟨hl, ?_⟩
            rcases hx with hx | ⟨g, cap, cur, y1, y2, y3, y4⟩
            · exact .inl hx
            · refine .inr ⟨g, cap, cur, y1, y2, (x1.2.2.2.2 g (Array.getElem?_eq_some_iff.1 y3).1 (fun hB => ?_)).trans y3, y4⟩
              obtain ⟨cs', h3⟩ := own_rowT own2.out g hB
              rw [y3] at h3
              injection h3 with h3
              injection h3 with _ h3 _
              exact h1 h3
          exact own_off k1 hgS (blk_norow (BP2.out |> fun hb => x1.blk hb hnp) k1 (fun e => h2 e.symm)))
        have F3 : Hid (FrN (PB pb vT vS vV) w W3) := Lib.hid (F2.out.trans (B' := fun i => Value.ownBlock vV = some i ∨ i = pb) ((x1.mono (fun i hi => .inl hi)).grow hgS (fun g hg => .inl (.inr (by injection hg with hg; exact hg.symm)))) (fun i hi => by rcases hi with hi | hi; exact .inl (.inr (.inr (.inr hi))); exact .inl (.inl hi)))
        have hs3 : W2.heap.size ≤ W3.heap.size := Nat.le_trans x1.2.2.2.1 hgS.size
        have oT3 := Lib.hid (KEEP.out _ _ _ _ _ oT2.out (by decide) (by decide))
        have oS3 := Lib.hid (KEEP.out _ _ _ _ _ oN2.out (by decide) (by decide))
        clear hc hD ho hnew e0 hv2 x1 x2 hB3 hC3 hgS KEEP hpb hcb hnp hnc p3 c2
        go_wp2_with fail
        rw [← hW3]
        exact bodyPost_ret (v := .tuple #[]) (by simp [results, Tryz.results51, go_sem]) rfl ⟨rfl, .slice A0 (cs.length + 1) C0, .slice A1 (cs.length + 1) C1, .slice A2 (cs.length + 1) C2, ⟨BP3.out, by rw [tOf_snoc]; simpa using oT3.out, by rw [sOf_snoc]; simpa using oS3.out, by rw [vOf_snoc]; simpa [StrR.val] using oN3.out⟩, F3.out, fun g hg => (NW1.out g hg).imp id (fun h => by have := F0.out.2.2.2.1; omega), fun g hg => (NW2.out g hg).imp id (fun h => by have := F0.out.2.2.2.1; omega), fun g hg => (NW3.out g hg).imp id (fun h => by have := F0.out.2.2.2.1; omega)⟩
end Go.Proofs.YtfkgcighooijhaaGreatDoor
