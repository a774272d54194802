/- Appends of one element in a drawn region: what holds of a row while the region is at work. No condition. -/
import Derived.Test.YtganfhmjklcchaaGreatJGenC
import Derived.Test.YtganfhmjklcchaaGreatJInv
import Derived.Test.YtganfhmjklcchaaGreatJSegS
import Derived.Deep.DeepCutAuto
namespace Go.Proofs.YtganfhmjklcchaaGreat
open Go.RowKit
set_option linter.unusedVariables false
set_option linter.unusedSimpArgs false

/-- all blocks that were there are as they were, those of B apart -/
def FrN (B : Nat → Prop) (W w : World) : Prop := w.os = W.os ∧ w.tape = W.tape ∧ w.output = W.output ∧ W.heap.size ≤ w.heap.size ∧ ∀ i, i < W.heap.size → ¬ B i → w.heap[i]? = W.heap[i]?
theorem FrN.refl (B : Nat → Prop) (w : World) : FrN B w w := ⟨rfl, rfl, rfl, Nat.le_refl _, fun _ _ _ => rfl⟩
theorem FrN.drew {B : Nat → Prop} {W w : World} (h : FrN B W w) : FrN B W w.drew := h
theorem FrN.grow {B : Nat → Prop} {W w w' : World} {row : Option Nat} (h : FrN B W w) (hg : w.grownBy w' row) (hr : ∀ g, row = some g → B g ∨ W.heap.size ≤ g) : FrN B W w' :=
  ⟨hg.os.trans h.1, hg.tape.trans h.2.1, hg.output.trans h.2.2.1, Nat.le_trans h.2.2.2.1 hg.size, fun i hi hB => (hg.block i (Nat.lt_of_lt_of_le hi h.2.2.2.1) (fun e => by rcases hr i e.symm with h1 | h1; exact hB h1; omega)).trans (h.2.2.2.2 i hi hB)⟩
theorem FrN.alloc {B : Nat → Prop} {W w : World} (h : FrN B W w) (o : Obj) : FrN B W (w.alloc o) := h.grow (World.grownBy_alloc w o none) (by simp)
theorem FrN.set_ {B : Nat → Prop} {W w : World} (h : FrN B W w) {p : Addr} (hp : B p.block ∨ W.heap.size ≤ p.block) (v : Value) : FrN B W (w.setCell p v) :=
  ⟨h.1, h.2.1, h.2.2.1, by simpa [World.setCell] using h.2.2.2.1, fun i hi hB => (Below.heap_setCell w p v i (by rintro rfl; rcases hp with h1 | h1; exact hB h1; omega)).trans (h.2.2.2.2 i hi hB)⟩
theorem FrN.mono {B B' : Nat → Prop} {W w : World} (h : FrN B W w) (hB : ∀ i, B i → B' i) : FrN B' W w := ⟨h.1, h.2.1, h.2.2.1, h.2.2.2.1, fun i hi h1 => h.2.2.2.2 i hi (fun h2 => h1 (hB i h2))⟩
theorem FrN.trans {B B' : Nat → Prop} {W w w' : World} (h : FrN B W w) (k : FrN B' w w') (hB : ∀ i, B' i → B i ∨ W.heap.size ≤ i) : FrN B W w' :=
  ⟨k.1.trans h.1, k.2.1.trans h.2.1, k.2.2.1.trans h.2.2.1, Nat.le_trans h.2.2.2.1 k.2.2.2.1, fun i hi h1 => (k.2.2.2.2 i (Nat.lt_of_lt_of_le hi h.2.2.2.1) (fun h2 => by rcases hB i h2 with h3 | h3; exact h1 h3; omega)).trans (h.2.2.2.2 i hi h1)⟩
theorem FrN.cell {B : Nat → Prop} {W w : World} (h : FrN B W w) {b o : Nat} (hb : b < W.heap.size) (hB : ¬ B b) : w.cell? ⟨b, o, none⟩ = W.cell? ⟨b, o, none⟩ := World.cell?_of_block (a := ⟨b, o, none⟩) (h.2.2.2.2 b hb hB)
theorem FrN.blk {B : Nat → Prop} {W w : World} (h : FrN B W w) {b t : Nat} {cs : Array Value} (hb : Blk W b t cs) (hB : ¬ B b) : Blk w b t cs := (h.2.2.2.2 b hb.lt hB).trans hb
theorem FrN.rd {B S : Nat → Prop} {W w : World} {A : Option Addr} {xs : List Value} (h : FrN B W w) (hr : Rd S W A xs) (hB : ∀ b, S b → ¬ B b) : Rd S w A xs := hr.keep (fun b hb hlt => h.2.2.2.2 b hlt (hB b hb)) h.2.2.2.1
theorem FrN.none_ {B : Nat → Prop} {W w a : World} (h : FrN B W w) (k : a.grownBy W none) (hB : ∀ i, B i → a.heap.size ≤ i) : a.grownBy w none :=
  ⟨h.1.trans k.os, h.2.1.trans k.tape, h.2.2.1.trans k.output, Nat.le_trans k.size h.2.2.2.1, fun i hi _ => (h.2.2.2.2 i (Nat.lt_of_lt_of_le hi k.size) (fun h2 => by have := hB i h2; omega)).trans (k.block i hi (by simp))⟩
/-- the block of a row has this element type -/
def RowT (w : World) (row : Option Nat) (e : TypeId) : Prop := ∀ g, row = some g → ∃ cs, w.heap[g]? = some (.cells cs e (0, 0))
theorem own_rowT {w : World} {base e z n : Nat} {v : Value} {xs : List Value} (h : w.ownsRow base e z v n xs) : RowT w v.ownBlock e := by
  intro g hg
  rcases h.2 with ⟨rfl, _⟩ | ⟨g', cap, cur, rfl, _, hh, _⟩
  · simp [Value.ownBlock] at hg
  · have e2 : g' = g := by simpa [Value.ownBlock] using hg
    subst e2
    exact ⟨cur, hh⟩
theorem rowT_blk {w : World} {row : Option Nat} {e t b : Nat} {cs : Array Value} (h : RowT w row e) (hB : Blk w b t cs) (hne : t ≠ e) : some b ≠ row := by
  intro e1
  obtain ⟨cs', h2⟩ := h b e1.symm
  unfold Blk at hB
  rw [hB] at h2
  injection h2 with h2
  injection h2 with _ h3 _
  exact hne h3
theorem own_rowK {w w' : World} {base e z n e' : Nat} {v : Value} {xs : List Value} {row : Option Nat} (h : w.ownsRow base e z v n xs) (hg : w.grownBy w' row) (hr : RowT w row e') (hne : e ≠ e') : w'.ownsRow base e z v n xs :=
  h.kept hg (by
    cases hv : v.ownBlock with
    | none => exact .inl rfl
    | some k =>
      refine .inr (fun e1 => ?_)
      obtain ⟨cs, h1⟩ := own_rowT h k hv
      obtain ⟨cs', h2⟩ := hr k e1.symm
      rw [h1] at h2
      injection h2 with h2
      injection h2 with _ h3 _
      exact hne h3)
/-- a row to which op 'ap' appends the one element that op 'al' lays -/
structure AppI (W : World) (base al ap : Nat) (v : Value) (e : TypeId) (n : Nat) (xs : List Value) (el : Value) (D : Nat → Bool) (u : Nat → Value) (w : World) : Prop where
  dep : D ap = true → D al = true
  before : D ap = false → w.ownsRow base e 1 v n xs ∧ (D al = true → ∃ b, u al = .slice (some ⟨b, 0, none⟩) 1 1 ∧ W.heap.size ≤ b ∧ Blk w b e #[el])
  after : D ap = true → w.ownsRow base e 1 (u ap) (n + 1) (xs ++ [el]) ∧ ∀ g, (u ap).ownBlock = some g → v.ownBlock = some g ∨ W.heap.size ≤ g
section
variable {W : World} {base al ap : Nat} {v : Value} {e : TypeId} {n : Nat} {xs : List Value} {el : Value} {D : Nat → Bool} {u : Nat → Value} {w w' : World}
theorem AppI.start (h : w.ownsRow base e 1 v n xs) : AppI W base al ap v e n xs el (fun _ => false) u w := ⟨(fun h => by cases h), fun _ => ⟨h, fun h => by cases h⟩, fun h => by cases h⟩
theorem AppI.other (h : AppI W base al ap v e n xs el D u w) {i : Nat} (x : Value) (h1 : i ≠ al) (h2 : i ≠ ap) : AppI W base al ap v e n xs el (updB D i) (upd u i x) w := by
  have a1 := updB_ne D (Ne.symm h1); have a2 := updB_ne D (Ne.symm h2)
  have b1 := upd_ne u x (Ne.symm h1); have b2 := upd_ne u x (Ne.symm h2)
  exact ⟨by rw [a1, a2]; exact h.dep, by rw [a1, a2, b1]; exact h.before, by rw [a2, b2]; exact h.after⟩
theorem AppI.grow (h : AppI W base al ap v e n xs el D u w) {row : Option Nat} {e' : TypeId} (hg : w.grownBy w' row) (hr : RowT w row e') (hne : e ≠ e') : AppI W base al ap v e n xs el D u w' := by
  refine ⟨h.dep, fun h0 => ?_, fun h0 => ?_⟩
  · obtain ⟨h1, h2⟩ := h.before h0
    refine ⟨own_rowK h1 hg hr hne, fun h3 => ?_⟩
    obtain ⟨b, e1, e2, e3⟩ := h2 h3
    exact ⟨b, e1, e2, e3.grown hg (rowT_blk hr e3 hne)⟩
  · obtain ⟨h1, h2⟩ := h.after h0
    exact ⟨own_rowK h1 hg hr hne, h2⟩
theorem AppI.ext (h : AppI W base al ap v e n xs el D u w) (hg : w.grownBy w' none) : AppI W base al ap v e n xs el D u w' := by
  refine ⟨h.dep, fun h0 => ?_, fun h0 => ?_⟩
  · obtain ⟨h1, h2⟩ := h.before h0
    refine ⟨own_ext h1 hg, fun h3 => ?_⟩
    obtain ⟨b, e1, e2, e3⟩ := h2 h3
    exact ⟨b, e1, e2, e3.grown hg (by simp)⟩
  · obtain ⟨h1, h2⟩ := h.after h0
    exact ⟨own_ext h1 hg, h2⟩
theorem AppI.not_yet (h : AppI W base al ap v e n xs el D u w) (h0 : D al = false) : D ap = false := by
  cases h1 : D ap with
  | false => rfl
  | true => rw [h.dep h1] at h0; cases h0
theorem AppI.laid (h : AppI W base al ap v e n xs el D u w) (hne : al ≠ ap) (h0 : D al = false) (hs : W.heap.size ≤ w.heap.size) :
    AppI W base al ap v e n xs el (updB D al) (upd u al (.slice (some ⟨w.heap.size, 0, none⟩) 1 1)) (w.alloc (.cells #[el] e)) := by
  have a1 := updB_ne D (Ne.symm hne)
  have hap := h.not_yet h0
  refine ⟨fun _ => updB_at D al, fun _ => ⟨(h.before hap).1.alloc _, fun _ => ⟨w.heap.size, by rw [upd_at], hs, Blk.new _ _ _⟩⟩, fun h1 => ?_⟩
  rw [a1, hap] at h1; cases h1
theorem AppI.done (h : AppI W base al ap v e n xs el D u w) (hne : al ≠ ap) (h0 : D ap = false) (h1 : D al = true) {v' : Value} (hs : W.heap.size ≤ w.heap.size)
    (ho : w'.ownsRow base e 1 v' (n + 1) (xs ++ [el])) (hb : v'.ownBlock = v.ownBlock ∨ v'.ownBlock = some w.heap.size) :
    AppI W base al ap v e n xs el (updB D ap) (upd u ap v') w' := by
  refine ⟨fun _ => by rw [updB_ne D hne]; exact h1, fun h2 => ?_, fun _ => ?_⟩
  · rw [updB_at] at h2; cases h2
  · rw [upd_at]
    refine ⟨ho, fun g hg => ?_⟩
    rcases hb with hb | hb
    · exact .inl (by rw [← hb]; exact hg)
    · rw [hb] at hg; injection hg with hg; exact .inr (by omega)
/-- the append runs -/
theorem AppI.run {z : Value} {bytes : Nat} (h : AppI W base al ap v e n xs el D u w) (h0 : D ap = false) (h1 : D al = true) (t ty : TypeId) (ht : Tryz.prog.underlying t = some (.slice e)) (hi : (Tryz.prog.info? e).map (fun i => (i.zero, i.size, i.bytes)) = some (some z, 1, bytes)) (hzs : z.cells.size = 1)
    (h1c : el.oneCell' = true) (hb : bytes ≤ 1000) (hn : n ≤ 1000000) (hbase : base ≤ w.heap.size) :
    ∃ v' w', (Builtin.append_ #[t, t] ty #[v, u al]).run Tryz.prog w = .ok v' w' ∧ w'.ownsRow base e 1 v' (n + 1) (xs ++ [el]) ∧ w.grownBy w' v.ownBlock ∧ (v'.ownBlock = v.ownBlock ∨ v'.ownBlock = some w.heap.size) := by
  obtain ⟨ho, h2⟩ := h.before h0
  obtain ⟨b, e1, e2, e3⟩ := h2 h1
  rw [e1]
  exact run_appendN base t ty ht hi hzs (by decide) ho (S := fun _ => True) (some ⟨b, 0, none⟩) 1 1 (news := [el]) (fun _ => ⟨b, 0, rfl, trivial, e3.lt, fun j x hx => by rw [Nat.zero_add, e3.cell j]; simpa using hx⟩) rfl (by intro x hx; rw [List.mem_singleton.1 hx]; exact h1c) hb (by omega) hbase
end
theorem exec_append {ρ : Operand → Value} {w w' : World} {o : Oper} {s x : Operand} {t : TypeId} (ho : o.op = .call { callee := .builtin .append, args := #[s, x], argTypes := #[t, t] }) {v y v' : Value} (hs : ρ s = v) (hx : ρ x = y) (hrun : (Builtin.append_ #[t, t] o.type #[v, y]).run Tryz.prog w = .ok v' w') : (execOp ρ o).run Tryz.prog w = .ok (.value v') w' := by
  simp only [execOp, ho, resolve, invoke, builtin, Sem.run_bind, Sem.run_pure, Result.andThen_ok, List.map_toArray, List.map_cons, List.map_nil, hs, hx, hrun]
end Go.Proofs.YtganfhmjklcchaaGreat

namespace Go.Proofs.YtganfhmjklcchaaGreat
open Go.RowKit
set_option linter.unusedVariables false
set_option linter.unusedSimpArgs false

theorem AppI.growA {W : World} {base al ap : Nat} {v : Value} {e : TypeId} {n : Nat} {xs : List Value} {el : Value} {D : Nat → Bool} {u : Nat → Value} {w w' : World} (h : AppI W base al ap v e n xs el D u w) {row : Option Nat} (hg : w.grownBy w' row) (hr : ∀ g, row = some g → g < W.heap.size ∧ v.ownBlock ≠ some g) : AppI W base al ap v e n xs el D u w' := by
  refine ⟨h.dep, fun h0 => ?_, fun h0 => ?_⟩
  · obtain ⟨h1, h2⟩ := h.before h0
    refine ⟨h1.kept hg (by
      cases hv : v.ownBlock with
      | none => exact .inl rfl
      | some k => exact .inr (fun e1 => (hr k e1.symm).2 hv)), fun h3 => ?_⟩
    obtain ⟨b, e1, e2, e3⟩ := h2 h3
    exact ⟨b, e1, e2, e3.grown hg (fun e4 => by have := (hr b e4.symm).1; omega)⟩
  · obtain ⟨h1, h2⟩ := h.after h0
    refine ⟨h1.kept hg ?_, h2⟩
    cases hv : (u ap).ownBlock with
    | none => exact .inl rfl
    | some k =>
      refine .inr (fun e1 => ?_)
      obtain ⟨q1, q2⟩ := hr k e1.symm
      rcases h2 k hv with h3 | h3
      · exact q2 h3
      · omega
theorem app_apt {W w : World} {base al ap : Nat} {v : Value} {e : TypeId} {n : Nat} {xs : List Value} {el : Value} {D : Nat → Bool} {u : Nat → Value} {v0 v' : Value} (h : AppI W base al ap v e n xs el D u w) (hD : D ap = true) (hA : Apt v0 v) (hlt : ∀ g, v0.ownBlock = some g → g < W.heap.size) (hb : v'.ownBlock = v0.ownBlock ∨ v'.ownBlock = some w.heap.size) : Apt v' (u ap) := by
  intro g h1 h2
  obtain ⟨ho, hn⟩ := h.after hD
  have h3 := (World.ownsRow.lt ho g h2).2
  rcases hb with e | e
  · rw [e] at h1
    rcases hn g h2 with h4 | h4
    · exact hA g h1 h4
    · have := hlt g h1; omega
  · rw [e] at h1; injection h1 with h1; omega
theorem own_stay {w w' : World} {base e size n : Nat} {v : Value} {xs : List Value} (h : w.ownsRow base e size v n xs) (hk : ∀ g, v.ownBlock = some g → w'.heap[g]? = w.heap[g]?) : w'.ownsRow base e size v n xs := by
  obtain ⟨hl, h2⟩ := h
  refine ⟨hl, ?_⟩
  rcases h2 with h2 | ⟨g, cap, cur, rfl, h3, h4, h5⟩
  · exact .inl h2
  · exact .inr ⟨g, cap, cur, rfl, h3, (hk g rfl).trans h4, h5⟩
def RB3 (vo vl vs : Value) (i : Nat) : Prop := Value.ownBlock vo = some i ∨ Value.ownBlock vl = some i ∨ Value.ownBlock vs = some i
structure Sep3 (W : World) (vo vl vs : Value) : Prop where
  lo : ∀ g, Value.ownBlock vo = some g → g < W.heap.size
  ll : ∀ g, Value.ownBlock vl = some g → g < W.heap.size
  ls : ∀ g, Value.ownBlock vs = some g → g < W.heap.size
  ol : Apt vo vl
  os : Apt vo vs
  sl : Apt vl vs
structure App3 (W : World) (base : Nat) (vo vl vs : Value) (n : Nat) (xo xl xs : List Value) (eo el es : Value) (D : Nat → Bool) (u : Nat → Value) (w : World) : Prop where
  fr : FrN (RB3 vo vl vs) W w
  o : AppI W base 3 4 vo 3 n xo eo D u w
  l : AppI W base 8 9 vl 3 n xl el D u w
  s : AppI W base 14 15 vs 3 n xs es D u w
  p1 : D 4 = true → D 9 = true → Apt (u 4) (u 9)
  p2 : D 4 = true → D 15 = true → Apt (u 4) (u 15)
  p3 : D 9 = true → D 15 = true → Apt (u 9) (u 15)
section
variable {W : World} {base : Nat} {vo vl vs : Value} {n : Nat} {xo xl xs : List Value} {eo el es : Value} {D : Nat → Bool} {u : Nat → Value} {w w' : World}
theorem App3.start (h1 : W.ownsRow base 3 1 vo n xo) (h2 : W.ownsRow base 3 1 vl n xl) (h3 : W.ownsRow base 3 1 vs n xs) : App3 W base vo vl vs n xo xl xs eo el es (fun _ => false) u W.drew :=
  ⟨FrN.refl _ _, AppI.start (own_drew h1), AppI.start (own_drew h2), AppI.start (own_drew h3), (fun h => by cases h), (fun h => by cases h), (fun h => by cases h)⟩
theorem apt_upd {i a b : Nat} {x : Value} (h : D a = true → D b = true → Apt (u a) (u b)) (ha : i ≠ a) (hb : i ≠ b) : updB D i a = true → updB D i b = true → Apt (upd u i x a) (upd u i x b) := by
  rw [updB_ne D (Ne.symm ha), updB_ne D (Ne.symm hb), upd_ne u x (Ne.symm ha), upd_ne u x (Ne.symm hb)]; exact h
theorem App3.other (h : App3 W base vo vl vs n xo xl xs eo el es D u w) {i : Nat} (x : Value) (h3 : i ≠ 3) (h4 : i ≠ 4) (h8 : i ≠ 8) (h9 : i ≠ 9) (h14 : i ≠ 14) (h15 : i ≠ 15) : App3 W base vo vl vs n xo xl xs eo el es (updB D i) (upd u i x) w :=
  ⟨h.fr, h.o.other x h3 h4, h.l.other x h8 h9, h.s.other x h14 h15, apt_upd h.p1 h4 h9, apt_upd h.p2 h4 h15, apt_upd h.p3 h9 h15⟩
theorem App3.lay1 (h : App3 W base vo vl vs n xo xl xs eo el es D u w) (h0 : D 3 = false) : App3 W base vo vl vs n xo xl xs eo el es (updB D 3) (upd u 3 (.slice (some ⟨w.heap.size, 0, none⟩) 1 1)) (w.alloc (.cells #[eo] 3)) :=
  ⟨h.fr.alloc _, h.o.laid (by decide) h0 h.fr.2.2.2.1, (h.l.other _ (by decide) (by decide)).ext (World.grownBy_alloc w _ none), (h.s.other _ (by decide) (by decide)).ext (World.grownBy_alloc w _ none), apt_upd h.p1 (by decide) (by decide), apt_upd h.p2 (by decide) (by decide), apt_upd h.p3 (by decide) (by decide)⟩
theorem App3.lay2 (h : App3 W base vo vl vs n xo xl xs eo el es D u w) (h0 : D 8 = false) : App3 W base vo vl vs n xo xl xs eo el es (updB D 8) (upd u 8 (.slice (some ⟨w.heap.size, 0, none⟩) 1 1)) (w.alloc (.cells #[el] 3)) :=
  ⟨h.fr.alloc _, (h.o.other _ (by decide) (by decide)).ext (World.grownBy_alloc w _ none), h.l.laid (by decide) h0 h.fr.2.2.2.1, (h.s.other _ (by decide) (by decide)).ext (World.grownBy_alloc w _ none), apt_upd h.p1 (by decide) (by decide), apt_upd h.p2 (by decide) (by decide), apt_upd h.p3 (by decide) (by decide)⟩
theorem App3.lay3 (h : App3 W base vo vl vs n xo xl xs eo el es D u w) (h0 : D 14 = false) : App3 W base vo vl vs n xo xl xs eo el es (updB D 14) (upd u 14 (.slice (some ⟨w.heap.size, 0, none⟩) 1 1)) (w.alloc (.cells #[es] 3)) :=
  ⟨h.fr.alloc _, (h.o.other _ (by decide) (by decide)).ext (World.grownBy_alloc w _ none), (h.l.other _ (by decide) (by decide)).ext (World.grownBy_alloc w _ none), h.s.laid (by decide) h0 h.fr.2.2.2.1, apt_upd h.p1 (by decide) (by decide), apt_upd h.p2 (by decide) (by decide), apt_upd h.p3 (by decide) (by decide)⟩
theorem App3.put1 (h : App3 W base vo vl vs n xo xl xs eo el es D u w) (hS : Sep3 W vo vl vs) (h0 : D 4 = false) (h1 : D 3 = true) {v' : Value} (ho : w'.ownsRow base 3 1 v' (n + 1) (xo ++ [eo])) (hg : w.grownBy w' (Value.ownBlock vo)) (hb : v'.ownBlock = Value.ownBlock vo ∨ v'.ownBlock = some w.heap.size) :
    App3 W base vo vl vs n xo xl xs eo el es (updB D 4) (upd u 4 v') w' := by
  have a9 := updB_ne D (show (9 : Nat) ≠ 4 by decide); have a15 := updB_ne D (show (15 : Nat) ≠ 4 by decide)
  have b9 := upd_ne u v' (show (9 : Nat) ≠ 4 by decide); have b15 := upd_ne u v' (show (15 : Nat) ≠ 4 by decide)
  refine ⟨h.fr.grow hg (fun g e => .inl (.inl e)), h.o.done (by decide) h0 h1 h.fr.2.2.2.1 ho hb, (h.l.other _ (by decide) (by decide)).growA hg (fun g e => ⟨hS.lo g e, fun e2 => hS.ol g e e2⟩), (h.s.other _ (by decide) (by decide)).growA hg (fun g e => ⟨hS.lo g e, fun e2 => hS.os g e e2⟩), fun _ h2 => ?_, fun _ h2 => ?_, apt_upd h.p3 (by decide) (by decide)⟩
  · rw [a9] at h2; rw [upd_at, b9]; exact app_apt h.l h2 hS.ol hS.lo hb
  · rw [a15] at h2; rw [upd_at, b15]; exact app_apt h.s h2 hS.os hS.lo hb
theorem App3.put2 (h : App3 W base vo vl vs n xo xl xs eo el es D u w) (hS : Sep3 W vo vl vs) (h0 : D 9 = false) (h1 : D 8 = true) {v' : Value} (ho : w'.ownsRow base 3 1 v' (n + 1) (xl ++ [el])) (hg : w.grownBy w' (Value.ownBlock vl)) (hb : v'.ownBlock = Value.ownBlock vl ∨ v'.ownBlock = some w.heap.size) :
    App3 W base vo vl vs n xo xl xs eo el es (updB D 9) (upd u 9 v') w' := by
  have a4 := updB_ne D (show (4 : Nat) ≠ 9 by decide); have a15 := updB_ne D (show (15 : Nat) ≠ 9 by decide)
  have b4 := upd_ne u v' (show (4 : Nat) ≠ 9 by decide); have b15 := upd_ne u v' (show (15 : Nat) ≠ 9 by decide)
  refine ⟨h.fr.grow hg (fun g e => .inl (.inr (.inl e))), (h.o.other _ (by decide) (by decide)).growA hg (fun g e => ⟨hS.ll g e, fun e2 => hS.ol g e2 e⟩), h.l.done (by decide) h0 h1 h.fr.2.2.2.1 ho hb, (h.s.other _ (by decide) (by decide)).growA hg (fun g e => ⟨hS.ll g e, fun e2 => hS.sl g e e2⟩), fun h2 _ => ?_, apt_upd h.p2 (by decide) (by decide), fun _ h2 => ?_⟩
  · rw [a4] at h2; rw [upd_at, b4]; exact (app_apt h.o h2 hS.ol.symm hS.ll hb).symm
  · rw [a15] at h2; rw [upd_at, b15]; exact app_apt h.s h2 hS.sl hS.ll hb
theorem App3.put3 (h : App3 W base vo vl vs n xo xl xs eo el es D u w) (hS : Sep3 W vo vl vs) (h0 : D 15 = false) (h1 : D 14 = true) {v' : Value} (ho : w'.ownsRow base 3 1 v' (n + 1) (xs ++ [es])) (hg : w.grownBy w' (Value.ownBlock vs)) (hb : v'.ownBlock = Value.ownBlock vs ∨ v'.ownBlock = some w.heap.size) :
    App3 W base vo vl vs n xo xl xs eo el es (updB D 15) (upd u 15 v') w' := by
  have a4 := updB_ne D (show (4 : Nat) ≠ 15 by decide); have a9 := updB_ne D (show (9 : Nat) ≠ 15 by decide)
  have b4 := upd_ne u v' (show (4 : Nat) ≠ 15 by decide); have b9 := upd_ne u v' (show (9 : Nat) ≠ 15 by decide)
  refine ⟨h.fr.grow hg (fun g e => .inl (.inr (.inr e))), (h.o.other _ (by decide) (by decide)).growA hg (fun g e => ⟨hS.ls g e, fun e2 => hS.os g e2 e⟩), (h.l.other _ (by decide) (by decide)).growA hg (fun g e => ⟨hS.ls g e, fun e2 => hS.sl g e2 e⟩), h.s.done (by decide) h0 h1 h.fr.2.2.2.1 ho hb, apt_upd h.p1 (by decide) (by decide), fun h2 _ => ?_, fun h2 _ => ?_⟩
  · rw [a4] at h2; rw [upd_at, b4]; exact (app_apt h.o h2 hS.os.symm hS.ls hb).symm
  · rw [a9] at h2; rw [upd_at, b9]; exact (app_apt h.l h2 hS.sl.symm hS.ls hb).symm
end
/-- the rows of the lines of events -/
structure Lns (base : Nat) (w : World) (vc vo vl vs vt : Value) (cs : List Int) (L : List LineD) (T : List Int) : Prop where
  c : w.ownsRow base 3 1 vc cs.length (cs.map (.int .i64))
  o : w.ownsRow base 3 1 vo L.length (L.map (fun x => .int .i64 x.off))
  l : w.ownsRow base 3 1 vl L.length (L.map (fun x => .int .i64 x.len))
  s : w.ownsRow base 3 1 vs L.length (L.map (fun x => .int .i64 (x.text.size : Nat)))
  t : Byts base w vt T
  co : Apt vc vo
  cl : Apt vc vl
  cs_ : Apt vc vs
  ol : Apt vo vl
  os : Apt vo vs
  sl : Apt vl vs
section
variable {base : Nat} {w w' : World} {vc vo vl vs vt v' : Value} {cs : List Int} {L : List LineD} {T : List Int}
theorem apt_nil {v : Value} : Apt v (.slice none 0 0) := fun g _ h => by simp [Value.ownBlock] at h
theorem Lns.nil : Lns base w (.slice none 0 0) (.slice none 0 0) (.slice none 0 0) (.slice none 0 0) (.slice none 0 0) [] [] [] :=
  ⟨World.ownsRow_nil _ _ _ _, World.ownsRow_nil _ _ _ _, World.ownsRow_nil _ _ _ _, World.ownsRow_nil _ _ _ _, Byts.nil _ _, apt_nil, apt_nil, apt_nil, apt_nil, apt_nil, apt_nil⟩
theorem Lns.ext (h : Lns base w vc vo vl vs vt cs L T) (hg : w.grownBy w' none) : Lns base w' vc vo vl vs vt cs L T :=
  ⟨own_ext h.c hg, own_ext h.o hg, own_ext h.l hg, own_ext h.s hg, own_ext h.t hg, h.co, h.cl, h.cs_, h.ol, h.os, h.sl⟩
theorem own_lt {e z n : Nat} {v : Value} {xs : List Value} (h : w.ownsRow base e z v n xs) : ∀ g, v.ownBlock = some g → g < w.heap.size := fun g e => (World.ownsRow.lt h g e).2
theorem Lns.cnt (h : Lns base w vc vo vl vs vt cs L T) {m : Int} (ho : w'.ownsRow base 3 1 v' (cs.length + 1) (cs.map (.int .i64) ++ [.int .i64 m])) (hg : w.grownBy w' vc.ownBlock) (hb : v'.ownBlock = vc.ownBlock ∨ v'.ownBlock = some (w.heap.size + 1)) :
    Lns base w' v' vo vl vs vt (cs ++ [m]) L T := by
  have hO : Onto w vc v' w' := onto_ap hg hb
  exact ⟨by rw [List.length_append, List.map_append]; exact ho, h.co.symm.keep h.o hg, h.cl.symm.keep h.l hg, h.cs_.symm.keep h.s hg, own_rowK h.t hg (own_rowT h.c) (by decide), (h.co.symm.onto hO (own_lt h.o)).symm, (h.cl.symm.onto hO (own_lt h.l)).symm, (h.cs_.symm.onto hO (own_lt h.s)).symm, h.ol, h.os, h.sl⟩
theorem Lns.txt (h : Lns base w vc vo vl vs vt cs L T) {T' : List Int} (ho : Byts base w' v' T') (hg : w.grownBy w' vt.ownBlock) : Lns base w' vc vo vl vs v' cs L T' :=
  ⟨own_rowK h.c hg (own_rowT h.t) (by decide), own_rowK h.o hg (own_rowT h.t) (by decide), own_rowK h.l hg (own_rowT h.t) (by decide), own_rowK h.s hg (own_rowT h.t) (by decide), ho, h.co, h.cl, h.cs_, h.ol, h.os, h.sl⟩
theorem Lns.sep (h : Lns base w vc vo vl vs vt cs L T) : Sep3 w vo vl vs := ⟨own_lt h.o, own_lt h.l, own_lt h.s, h.ol, h.os, h.sl⟩
/-- behind the region of three appends -/
theorem Lns.three (h : Lns base w vc vo vl vs vt cs L T) {x : LineD} {D : Nat → Bool} {u : Nat → Value} (k : App3 w base vo vl vs L.length (L.map (fun x => .int .i64 x.off)) (L.map (fun x => .int .i64 x.len)) (L.map (fun x => .int .i64 (x.text.size : Nat))) (.int .i64 x.off) (.int .i64 x.len) (.int .i64 (x.text.size : Nat)) D u w')
    (h4 : D 4 = true) (h9 : D 9 = true) (h15 : D 15 = true) : Lns base w' vc (u 4) (u 9) (u 15) vt cs (L ++ [x]) T := by
  obtain ⟨o1, o2⟩ := k.o.after h4
  obtain ⟨l1, l2⟩ := k.l.after h9
  obtain ⟨s1, s2⟩ := k.s.after h15
  have far : ∀ {v v2 : Value}, Apt vc v → (∀ g, v2.ownBlock = some g → v.ownBlock = some g ∨ w.heap.size ≤ g) → Apt vc v2 := by
    intro v v2 hA hn g e1 e2
    rcases hn g e2 with h1 | h1
    · exact hA g e1 h1
    · have := own_lt h.c g e1; omega
  refine ⟨?_, by rw [List.length_append, List.map_append]; exact o1, by rw [List.length_append, List.map_append]; exact l1, by rw [List.length_append, List.map_append]; exact s1, ?_, far h.co o2, far h.cl l2, far h.cs_ s2, k.p1 h4 h9, k.p2 h4 h15, k.p3 h9 h15⟩
  · refine own_stay h.c (fun g e => k.fr.2.2.2.2 g (own_lt h.c g e) ?_)
    rintro (h1 | h1 | h1)
    · exact h.co g e h1
    · exact h.cl g e h1
    · exact h.cs_ g e h1
  · refine own_stay h.t (fun g e => k.fr.2.2.2.2 g (own_lt h.t g e) ?_)
    obtain ⟨c0, hc0⟩ := own_rowT h.t g e
    rintro (h1 | h1 | h1)
    · obtain ⟨c1, hc1⟩ := own_rowT h.o g h1; rw [hc0] at hc1; injection hc1 with hc1; injection hc1 with _ hc1 _; exact absurd hc1 (by decide)
    · obtain ⟨c1, hc1⟩ := own_rowT h.l g h1; rw [hc0] at hc1; injection hc1 with hc1; injection hc1 with _ hc1 _; exact absurd hc1 (by decide)
    · obtain ⟨c1, hc1⟩ := own_rowT h.s g h1; rw [hc0] at hc1; injection hc1 with hc1; injection hc1 with _ hc1 _; exact absurd hc1 (by decide)
end
end Go.Proofs.YtganfhmjklcchaaGreat

namespace Go.Proofs.YtganfhmjklcchaaGreat
open Go.RowKit
set_option linter.unusedVariables false
set_option linter.unusedSimpArgs false

def lnsL (es : List Ev) : List LineD := es.flatMap (·.lines)
def cntL (es : List Ev) : List Int := es.map (fun e => (e.lines.length : Int))
def txtL (L : List LineD) : List Int := L.flatMap (fun x => bts x.text)
def linesX (es : List Ev) : List Int := blkP (colX (cntL es)) ++ blkP (colX ((lnsL es).map (·.off))) ++ blkP (colX ((lnsL es).map (·.len))) ++ blkP (colX ((lnsL es).map (fun x => (x.text.size : Int)))) ++ txtL (lnsL es)
/-- the lines of an event are small numbers -/
def EvL (e : Ev) : Prop := EvS e ∧ ∀ x ∈ e.lines, I64 x.off ∧ I64 x.len
theorem lnsL_len {es : List Ev} (h : ∀ e ∈ es, EvL e) (hl : es.length ≤ 40) : (lnsL es).length ≤ 120 := by
  have := flat_le (fun e : Ev => e.lines) 3 es (fun e he => (h e he).1.1)
  unfold lnsL
  omega
theorem lnsL_mem {es : List Ev} (h : ∀ e ∈ es, EvL e) : ∀ x ∈ lnsL es, x.text.size ≤ 59 ∧ I64 x.off ∧ I64 x.len := fun x hx => by
  obtain ⟨e, he, hx⟩ := List.mem_flatMap.1 hx
  exact ⟨(h e he).1.2.1 x hx, (h e he).2 x hx⟩
theorem txtL_len : ∀ (L : List LineD), (∀ x ∈ L, x.text.size ≤ 59) → (txtL L).length ≤ 59 * L.length
  | [], _ => Nat.le_refl _
  | x :: L, h => by
    have h1 := h x (List.mem_cons_self ..)
    have h2 := txtL_len L (fun y hy => h y (List.mem_cons_of_mem _ hy))
    unfold txtL at h2 ⊢
    rw [List.flatMap_cons, List.length_append, bts_length, List.length_cons]
    omega
theorem txtL_snoc (L : List LineD) (x : LineD) : txtL (L ++ [x]) = txtL L ++ bts x.text := by unfold txtL; rw [List.flatMap_append]; simp
theorem i64_small {n : Nat} (h : n ≤ 1000000) : I64 (n : Int) := by unfold I64; constructor <;> omega
set_option maxHeartbeats 16000000 in
set_option maxRecDepth 100000 in
theorem lines_any {S : Nat → Prop} (A : Option Addr) (es : List Ev) (c : Nat) (w : World) (hev : Evs S w A es) (hel : es.length ≤ 40) (hs : ∀ e ∈ es, EvL e) :
    Calls Tryz.prog 73 #[.slice A es.length c] w (NewB w (linesX es)) := by
  have HEV := Lib.hid hev
  have HLE := Lib.hid (fun k => lnsL_len (es := es.take k) (fun e he => hs e (List.mem_of_mem_take he)) (by rw [List.length_take]; omega))
  have HLM := Lib.hid (lnsL_mem hs)
  have HL3 : Hid (∀ e ∈ es, e.lines.length ≤ 3) := Lib.hid (fun e he => (hs e he).1.1)
  have HN1 : Hid (∀ (k : Nat) (y : Ev), es[k]? = some y → cntL (es.take (k + 1)) = cntL (es.take k) ++ [(y.lines.length : Int)]) := Lib.hid (fun k y hy => by
    obtain ⟨h1, h2⟩ := List.getElem?_eq_some_iff.1 hy
    unfold cntL
    rw [List.take_succ_eq_append_getElem h1, h2, List.map_append]
    rfl)
  have HN2 : Hid (∀ (k : Nat) (y : Ev), es[k]? = some y → lnsL (es.take (k + 1)) = lnsL (es.take k) ++ y.lines) := Lib.hid (fun k y hy => flat_snoc (fun e : Ev => e.lines) hy)
  have HX : Hid (linesX es = blkP (colX (cntL es)) ++ blkP (colX ((lnsL es).map (·.off))) ++ blkP (colX ((lnsL es).map (·.len))) ++ blkP (colX ((lnsL es).map (fun x => (x.text.size : Int)))) ++ txtL (lnsL es)) := Lib.hid rfl
  have HCL : Hid ((cntL es).length = es.length) := Lib.hid (by unfold cntL; rw [List.length_map])
  have HCM : Hid (∀ x ∈ cntL es, I64 x) := Lib.hid (fun x hx => by
    obtain ⟨e, he, rfl⟩ := List.mem_map.1 hx
    have := (hs e he).1.1
    exact i64_small (by omega))
  have HTL : Hid (∀ L : List LineD, (∀ x ∈ L, x.text.size ≤ 59) → (txtL L).length ≤ 59 * L.length) := Lib.hid txtL_len
  have HMK : Hid (∀ k, ∀ x ∈ lnsL (es.take k), x.text.size ≤ 59) := Lib.hid (fun k x hx => (lnsL_mem (fun e he => hs e (List.mem_of_mem_take he)) x hx).1)
  obtain ⟨R, hR⟩ : ∃ r, r = linesX es := ⟨_, rfl⟩
  rw [← hR] at HX ⊢
  clear hev hs hR
  go_enter Tryz.func73, Tryz.ntmps73
  go_wp2_with fail
  go_loopw [3, 4, 5, 6, 7, 8] (fun v3 v4 v5 v6 v7 vi wr => ∃ (k : Nat) (L : List LineD) (T cs : List Int), vi = .int .i64 k ∧ k ≤ es.length ∧ Hid (lnsL (es.take k) = L) ∧ Hid (txtL L = T) ∧ Hid (cntL (es.take k) = cs) ∧ Lns w.heap.size wr v3 v4 v5 v6 v7 cs L T ∧ w.grownBy wr none) (fun _ _ _ _ _ vi _ => es.length - (intOf vi).toNat)
  case atStart => exact ⟨0, [], [], [], rfl, Nat.zero_le _, Lib.hid rfl, Lib.hid rfl, Lib.hid rfl, Lns.nil, only_refl _ _⟩
  case round =>
    obtain ⟨k, L, T, cs, rfl, hk, HL, HT, HC, hN, hG⟩ := hrel
    have LN := Lib.hid hN
    have G := Lib.hid hG
    have hbase : w.heap.size ≤ wr.heap.size := hG.size
    have hcl : cs.length ≤ 40 := by rw [← HC.out]; unfold cntL; rw [List.length_map, List.length_take]; omega
    have hLl0 : L.length ≤ 120 := by rw [← HL.out]; exact HLE.out k
    obtain ⟨vC, hvC⟩ : ∃ v, v = u3 := ⟨_, rfl⟩
    obtain ⟨vO, hvO⟩ : ∃ v, v = u4 := ⟨_, rfl⟩
    obtain ⟨vL, hvL⟩ : ∃ v, v = u5 := ⟨_, rfl⟩
    obtain ⟨vS, hvS⟩ : ∃ v, v = u6 := ⟨_, rfl⟩
    obtain ⟨vT, hvT⟩ : ∃ v, v = u7 := ⟨_, rfl⟩
    rw [← hvC, ← hvO, ← hvL, ← hvS, ← hvT] at LN
    rw [← hvC, ← hvO, ← hvL, ← hvS, ← hvT]
    clear hN hG hvC hvO hvL hvS hvT
    by_cases hlt : k < es.length
    · obtain ⟨y, hy⟩ : ∃ y, es[k]? = some y := ⟨_, List.getElem?_eq_getElem hlt⟩
      have HY := Lib.hid hy
      obtain ⟨kb, ko, eE, hkw, -, -, -, -, z4, -, -, -, -, -⟩ := ev_in (HEV.out.1.grown G.out (by simp)) hy
      subst eE
      have HS1 := Lib.hid (HN1.out k y hy)
      have HS2 := Lib.hid (HN2.out k y hy)
      have hyl : y.lines.length ≤ 3 := HL3.out y (List.mem_of_getElem? hy)
      have HYS := Lib.hid ((HEV.out.2 y (List.mem_of_getElem? hy)).1)
      have i1 : (k : Int) < (es.length : Int) := by omega
      clear hy
      go_wp2_with (at_builtin; go_must (refine wpList_append1 rfl _ _ 38 rfl w.heap.size Tryz.underlying38 intInfoS rfl (by decide) (v := vC) (by rfl) (w0 := wr) (cs := #[.int .i64 (y.lines.length : Nat)]) LN.out.c (by rfl) rfl (by simp [Value.oneCell']) (by decide) (by omega) (by omega) ?_); intro v5 w5 hown5 hg5 hob5)
      have LN5 := Lib.hid (LN.out.cnt hown5 hg5 hob5)
      have G5 : Hid (w.grownBy w5 none) := Lib.hid (only_own G.out hg5 LN.out.c (Nat.le_refl _))
      clear hown5 hg5 hob5 LN
      go_wp2_with fail
      obtain ⟨wo, rfl⟩ : ∃ wo : World, wo = wr := ⟨_, rfl⟩
      go_loopw [4, 5, 6, 7, 9] (fun v4 v5' v6 v7 vj wr => ∃ (j : Nat) (L' : List LineD) (T' : List Int), vj = .int .i64 j ∧ j ≤ y.lines.length ∧ Hid (L ++ y.lines.take j = L') ∧ Hid (txtL L' = T') ∧ Lns w.heap.size wr v5 v4 v5' v6 v7 (cs ++ [(y.lines.length : Int)]) L' T' ∧ w.grownBy wr none) (fun _ _ _ _ vj _ => y.lines.length - (intOf vj).toNat)
      case atStart => exact ⟨0, L, T, rfl, Nat.zero_le _, Lib.hid (by simp), HT, LN5.out, G5.out⟩
      case round =>
        clear HT hLl0 hbase LN5 G5
        obtain ⟨j, L', T', rfl, hj, HL', HT', hN', hG'⟩ := hrel
        have LN := Lib.hid hN'
        have G2 := Lib.hid hG'
        have hb2 : w.heap.size ≤ wr.heap.size := hG'.size
        have hLe : L'.length = L.length + j := by rw [← HL'.out, List.length_append, List.length_take]; omega
        have hL0 : L.length ≤ 120 := by rw [← HL.out]; exact HLE.out k
        have hLl : L'.length ≤ 1000000 := by omega
        have HTLn : Hid (T'.length ≤ 59 * L'.length) := Lib.hid (by
          rw [← HT'.out]
          refine HTL.out _ (fun x hx => ?_)
          rw [← HL'.out] at hx
          rcases List.mem_append.1 hx with hx | hx
          · rw [← HL.out] at hx; exact HMK.out k x hx
          · exact (HLM.out x (List.mem_flatMap.2 ⟨y, List.mem_of_getElem? HY.out, List.mem_of_mem_take hx⟩)).1)
        obtain ⟨kb', ko', eE', hkw', -, -, -, -, z4, -, -, -, -, -⟩ := ev_in (HEV.out.1.grown G2.out (by simp)) HY.out
        injection eE' with eE'
        injection eE' with e1 e2
        subst e1 e2
        obtain ⟨vO, hvO⟩ : ∃ v, v = u4 := ⟨_, rfl⟩
        obtain ⟨vL, hvL⟩ : ∃ v, v = u5 := ⟨_, rfl⟩
        obtain ⟨vS, hvS⟩ : ∃ v, v = u6 := ⟨_, rfl⟩
        obtain ⟨vT, hvT⟩ : ∃ v, v = u7 := ⟨_, rfl⟩
        rw [← hvO, ← hvL, ← hvS, ← hvT] at LN
        rw [← hvO, ← hvL, ← hvS, ← hvT]
        clear hN' hG' hvO hvL hvS hvT hLe
        by_cases hlt2 : j < y.lines.length
        · obtain ⟨x, hx⟩ : ∃ x, y.lines[j]? = some x := ⟨_, List.getElem?_eq_getElem hlt2⟩
          have hrr := HYS.out.grown G2.out (by simp)
          obtain ⟨lb, lo, ela, hlb, -, -⟩ := hrr (by rw [flat_len _ 3 LineD.cells_len]; omega)
          rw [ela] at hrr z4
          have d0 : wr.cell? ⟨lb, lo + j * 3, none⟩ = some (.int .i64 x.off) := hrr.flatAt LineD.cells_len hx 0 (by omega)
          have d1 : wr.cell? ⟨lb, lo + j * 3 + 1, none⟩ = some (.int .i64 x.len) := hrr.flatAt LineD.cells_len hx 1 (by omega)
          have d2 : wr.cell? ⟨lb, lo + j * 3 + 2, none⟩ = some (.string x.text) := hrr.flatAt LineD.cells_len hx 2 (by omega)
          have HNX : Hid (L ++ y.lines.take (j + 1) = L' ++ [x]) := Lib.hid (by
            obtain ⟨h2, h3⟩ := List.getElem?_eq_some_iff.1 hx
            rw [List.take_succ_eq_append_getElem h2, h3, ← List.append_assoc, HL'.out])
          have HTX : Hid (txtL (L' ++ [x]) = T' ++ bts x.text) := Lib.hid (by rw [txtL_snoc, HT'.out])
          have hxz : x.text.size ≤ 59 := (HLM.out x (List.mem_flatMap.2 ⟨y, List.mem_of_getElem? HY.out, List.mem_of_getElem? hx⟩)).1
          have i2 : (j : Int) < (y.lines.length : Int) := by omega
          clear hx hrr ela HL' HT'
          go_upto_region 11 with fail
          obtain ⟨xb, hxbd⟩ : ∃ b, b = wr.heap.size := ⟨_, rfl⟩
          obtain ⟨W, hW⟩ : ∃ W, W = wr.alloc (.cells #[.int .i64 x.off, .int .i64 x.len, .string x.text] 146) := ⟨_, rfl⟩
          have hBW : Blk W xb 146 #[.int .i64 x.off, .int .i64 x.len, .string x.text] := by rw [hW, hxbd]; exact Blk.new _ _ _
          have hgW : wr.grownBy W none := by rw [hW]; exact only_alloc (only_refl _ _) _
          rw [← hxbd, ← hW]
          have LN1 := Lib.hid (LN.out.ext hgW)
          have GW := Lib.hid (only_trans G2.out hgW)
          have HSEP := Lib.hid LN1.out.sep
          have hbW : w.heap.size ≤ W.heap.size := GW.out.size
          have hxb : xb < W.heap.size := hBW.lt
          have x0 := hBW.cell 0; have x1 := hBW.cell 1; have x2 := hBW.cell 2
          simp at x0 x1 x2
          have hxn : ¬ RB3 vO vL vS xb := by
            rintro (h | h | h)
            · exact blk_norow hBW LN1.out.o (by decide) h
            · exact blk_norow hBW LN1.out.l (by decide) h
            · exact blk_norow hBW LN1.out.s (by decide) h
          obtain ⟨L, rfl⟩ : ∃ L'', L'' = L' := ⟨_, rfl⟩
          clear hW hxbd hBW hgW LN z4 d0 d1 d2
          have HE : Hid (∀ (w3 : World) (D : Nat → Bool) (u : Nat → Value), App3 W w.heap.size vO vL vS L.length (L.map (fun x => .int .i64 x.off)) (L.map (fun x => .int .i64 x.len)) (L.map (fun x => .int .i64 (x.text.size : Nat))) (.int .i64 x.off) (.int .i64 x.len) (.int .i64 (x.text.size : Nat)) D u w3 → w3.cell? ⟨xb, 2, none⟩ = some (.string x.text) ∧ w.grownBy w3 none) := Lib.hid (fun w3 D u hX => ⟨(hX.fr.cell hxb hxn).trans x2, hX.fr.none_ GW.out (fun i hi => by
            rcases hi with h | h | h
            · exact (World.ownsRow.lt LN1.out.o i h).1
            · exact (World.ownsRow.lt LN1.out.l i h).1
            · exact (World.ownsRow.lt LN1.out.s i h).1)⟩)
          refine wp_region_gen 16 (JC [some (vO), some (.pointer (some ⟨xb, 0, none⟩)), some (.int .i64 (x.off)), none, none, some (vL), some (.pointer (some ⟨xb, 1, none⟩)), some (.int .i64 (x.len)), none, none, some (vS), some (.pointer (some ⟨xb, 2, none⟩)), some (.string (x.text)), some (.int .i64 ((x.text.size : Nat))), none, none] (App3 W w.heap.size vO vL vS L.length (L.map (fun x => .int .i64 x.off)) (L.map (fun x => .int .i64 x.len)) (L.map (fun x => .int .i64 (x.text.size : Nat))) (.int .i64 x.off) (.int .i64 x.len) (.int .i64 (x.text.size : Nat)))) (by kernel_rfl) (by kernel_rfl) ?_ ?_ ?_
          · intro u
            exact ⟨(fun j c _ h => by cases h), App3.start LN1.out.o LN1.out.l LN1.out.s⟩
          · intro AA hA
            have hasz : AA.tmps.size = 80 := by rw [hA]; kernel_rfl
            have ea4 : AA.eval (.tmp 4) = vO := by rw [hA]; kernel_rfl
            have ea5 : AA.eval (.tmp 5) = vL := by rw [hA]; kernel_rfl
            have ea6 : AA.eval (.tmp 6) = vS := by rw [hA]; kernel_rfl
            have ea10 : AA.eval (.tmp 10) = .pointer (some ⟨xb, 0, none⟩) := by rw [hA]; kernel_rfl
            clear hA
            simp only [List.take_succ_cons, List.take_zero]
            refine .cons ?_ (.cons ?_ (.cons ?_ (.cons ?_ (.cons ?_ (.cons ?_ (.cons ?_ (.cons ?_ (.cons ?_ (.cons ?_ (.cons ?_ (.cons ?_ (.cons ?_ (.cons ?_ (.cons ?_ (.cons ?_ (.nil))))))))))))))))
            · exact gd_gen (by kernel_rfl) (Want.none_ rfl) rfl (fun D u w v h => h.other v (by decide) (by decide) (by decide) (by decide) (by decide) (by decide)) (fun D u ρ w kn => by
                have e0 := kn.own 4 (c := vO) (by kernel_rfl) ea4
                simp [execOp, kn.rho.con, e0, go_sem])
            · exact gd_gen (by kernel_rfl) (Want.none_ rfl) rfl (fun D u w v h => h.other v (by decide) (by decide) (by decide) (by decide) (by decide) (by decide)) (fun D u ρ w kn => by
                have e0 := kn.own 10 (c := .pointer (some ⟨xb, 0, none⟩)) (by kernel_rfl) ea10
                simp [execOp, kn.rho.con, e0, go_sem])
            · exact gd_gen (by kernel_rfl) (Want.none_ rfl) rfl (fun D u w v h => h.other v (by decide) (by decide) (by decide) (by decide) (by decide) (by decide)) (fun D u ρ w kn => by
                have e0 := kn.con 1 46 (c := .pointer (some ⟨xb, 0, none⟩)) (by kernel_rfl) (by omega) (by kernel_rfl) rfl
                have f0 := (kn.ext.fr.cell hxb hxn).trans x0
                simp [execOp, kn.rho.con, e0, f0, go_sem])
            · refine gd_eff (by kernel_rfl) (Want.none_ rfl) (fun D u ρ w kn hD => ?_)
              have e0 := kn.con 2 47 (c := .int .i64 x.off) (by kernel_rfl) (by omega) (by kernel_rfl) rfl
              exact ⟨.slice (some ⟨w.heap.size, 0, none⟩) 1 1, w.alloc (.cells #[.int .i64 x.off] 3), by simp [execOp, kn.rho.con, e0, go_sem], (fun c h => by injection h with h; cases h), kn.ext.lay1 hD⟩
            · refine gd_eff (by kernel_rfl) (Want.none_ rfl) (fun D u ρ w kn hD => ?_)
              have e0 := kn.con 0 45 (c := vO) (by kernel_rfl) (by omega) (by kernel_rfl) rfl
              have e1 := kn.slot 3 48 (by kernel_rfl) (by omega)
              have d0 := kn.dep 3 (by kernel_rfl)
              obtain ⟨v', w', hr, ho, hg, hb⟩ := kn.ext.o.run hD d0 38 38 Tryz.underlying38 intInfoS rfl rfl (by decide) hLl (Nat.le_trans hbW kn.ext.fr.2.2.2.1)
              exact ⟨v', w', exec_append rfl e0 e1 hr, (fun c h => by injection h with h; cases h), kn.ext.put1 HSEP.out hD d0 ho hg hb⟩
            · exact gd_gen (by kernel_rfl) (Want.none_ rfl) rfl (fun D u w v h => h.other v (by decide) (by decide) (by decide) (by decide) (by decide) (by decide)) (fun D u ρ w kn => by
                have e0 := kn.own 5 (c := vL) (by kernel_rfl) ea5
                simp [execOp, kn.rho.con, e0, go_sem])
            · exact gd_gen (by kernel_rfl) (Want.none_ rfl) rfl (fun D u w v h => h.other v (by decide) (by decide) (by decide) (by decide) (by decide) (by decide)) (fun D u ρ w kn => by
                have e0 := kn.own 10 (c := .pointer (some ⟨xb, 0, none⟩)) (by kernel_rfl) ea10
                simp [execOp, kn.rho.con, e0, go_sem])
            · exact gd_gen (by kernel_rfl) (Want.none_ rfl) rfl (fun D u w v h => h.other v (by decide) (by decide) (by decide) (by decide) (by decide) (by decide)) (fun D u ρ w kn => by
                have e0 := kn.con 6 51 (c := .pointer (some ⟨xb, 1, none⟩)) (by kernel_rfl) (by omega) (by kernel_rfl) rfl
                have f0 := (kn.ext.fr.cell hxb hxn).trans x1
                simp [execOp, kn.rho.con, e0, f0, go_sem])
            · refine gd_eff (by kernel_rfl) (Want.none_ rfl) (fun D u ρ w kn hD => ?_)
              have e0 := kn.con 7 52 (c := .int .i64 x.len) (by kernel_rfl) (by omega) (by kernel_rfl) rfl
              exact ⟨.slice (some ⟨w.heap.size, 0, none⟩) 1 1, w.alloc (.cells #[.int .i64 x.len] 3), by simp [execOp, kn.rho.con, e0, go_sem], (fun c h => by injection h with h; cases h), kn.ext.lay2 hD⟩
            · refine gd_eff (by kernel_rfl) (Want.none_ rfl) (fun D u ρ w kn hD => ?_)
              have e0 := kn.con 5 50 (c := vL) (by kernel_rfl) (by omega) (by kernel_rfl) rfl
              have e1 := kn.slot 8 53 (by kernel_rfl) (by omega)
              have d0 := kn.dep 8 (by kernel_rfl)
              obtain ⟨v', w', hr, ho, hg, hb⟩ := kn.ext.l.run hD d0 38 38 Tryz.underlying38 intInfoS rfl rfl (by decide) hLl (Nat.le_trans hbW kn.ext.fr.2.2.2.1)
              exact ⟨v', w', exec_append rfl e0 e1 hr, (fun c h => by injection h with h; cases h), kn.ext.put2 HSEP.out hD d0 ho hg hb⟩
            · exact gd_gen (by kernel_rfl) (Want.none_ rfl) rfl (fun D u w v h => h.other v (by decide) (by decide) (by decide) (by decide) (by decide) (by decide)) (fun D u ρ w kn => by
                have e0 := kn.own 6 (c := vS) (by kernel_rfl) ea6
                simp [execOp, kn.rho.con, e0, go_sem])
            · exact gd_gen (by kernel_rfl) (Want.none_ rfl) rfl (fun D u w v h => h.other v (by decide) (by decide) (by decide) (by decide) (by decide) (by decide)) (fun D u ρ w kn => by
                have e0 := kn.own 10 (c := .pointer (some ⟨xb, 0, none⟩)) (by kernel_rfl) ea10
                simp [execOp, kn.rho.con, e0, go_sem])
            · exact gd_gen (by kernel_rfl) (Want.none_ rfl) rfl (fun D u w v h => h.other v (by decide) (by decide) (by decide) (by decide) (by decide) (by decide)) (fun D u ρ w kn => by
                have e0 := kn.con 11 56 (c := .pointer (some ⟨xb, 2, none⟩)) (by kernel_rfl) (by omega) (by kernel_rfl) rfl
                have f0 := (kn.ext.fr.cell hxb hxn).trans x2
                simp [execOp, kn.rho.con, e0, f0, go_sem])
            · exact gd_gen (by kernel_rfl) (Want.none_ rfl) rfl (fun D u w v h => h.other v (by decide) (by decide) (by decide) (by decide) (by decide) (by decide)) (fun D u ρ w kn => by
                have e0 := kn.con 12 57 (c := .string (x.text)) (by kernel_rfl) (by omega) (by kernel_rfl) rfl
                simp [execOp, kn.rho.con, e0, go_sem])
            · refine gd_eff (by kernel_rfl) (Want.none_ rfl) (fun D u ρ w kn hD => ?_)
              have e0 := kn.con 13 58 (c := .int .i64 (x.text.size : Nat)) (by kernel_rfl) (by omega) (by kernel_rfl) rfl
              exact ⟨.slice (some ⟨w.heap.size, 0, none⟩) 1 1, w.alloc (.cells #[.int .i64 (x.text.size : Nat)] 3), by simp [execOp, kn.rho.con, e0, go_sem], (fun c h => by injection h with h; cases h), kn.ext.lay3 hD⟩
            · refine gd_eff (by kernel_rfl) (Want.none_ rfl) (fun D u ρ w kn hD => ?_)
              have e0 := kn.con 10 55 (c := vS) (by kernel_rfl) (by omega) (by kernel_rfl) rfl
              have e1 := kn.slot 14 59 (by kernel_rfl) (by omega)
              have d0 := kn.dep 14 (by kernel_rfl)
              obtain ⟨v', w', hr, ho, hg, hb⟩ := kn.ext.s.run hD d0 38 38 Tryz.underlying38 intInfoS rfl rfl (by decide) hLl (Nat.le_trans hbW kn.ext.fr.2.2.2.1)
              exact ⟨v', w', exec_append rfl e0 e1 hr, (fun c h => by injection h with h; cases h), kn.ext.put3 HSEP.out hD d0 ho hg hb⟩
          · intro D u w3 hJ hD
            obtain ⟨-, hX⟩ := hJ
            have LN3 := Lib.hid (LN1.out.three hX (hD 4 (by omega)) (hD 9 (by omega)) (hD 15 (by omega)))
            obtain ⟨y2, hg3⟩ := HE.out w3 D u hX
            have G3 := Lib.hid hg3
            have hb3 := hg3.size
            obtain ⟨v4', h4⟩ : ∃ v, v = u 4 := ⟨_, rfl⟩
            obtain ⟨v9', h9⟩ : ∃ v, v = u 9 := ⟨_, rfl⟩
            obtain ⟨v15', h15⟩ : ∃ v, v = u 15 := ⟨_, rfl⟩
            rw [← h4, ← h9, ← h15] at LN3
            simp only [List.take_succ_cons, List.take_zero, List.drop_succ_cons, List.drop_zero, putAll]
            rw [← h4, ← h9, ← h15]
            clear hX hD hg3 h4 h9 h15 HE hxn x0 x1 x2 LN1 HSEP GW hbW hxb
            go_wp2_with (at_builtin; go_must (refine wpList_appendS rfl _ _ 22 9 rfl w.heap.size Tryz.underlying22 Tryz.underlying9 byteInfo (v := vT) (by rfl) LN3.out.t x.text (by rfl) (by have := HTLn.out; omega) hb3 ?_); intro v6 w6 hB6 hg6)
            have LN6 := Lib.hid (LN3.out.txt hB6 hg6)
            have G6 : Hid (w.grownBy w6 none) := Lib.hid (only_own G3.out hg6 LN3.out.t (Nat.le_refl _))
            clear hB6 hg6
            go_wp2_with fail
            go_roundw
            case rel => exact ⟨j + 1, L ++ [x], T' ++ bts x.text, by go_num, by omega, HNX, HTX, LN6.out, G6.out⟩
            case measure => simp [intOf]; omega
        · have hjE : j = y.lines.length := by omega
          have HLL : Hid (lnsL (es.take (k + 1)) = L') := Lib.hid (by rw [HS2.out, HL.out, ← HL'.out, List.take_of_length_le (by omega)])
          have HCC : Hid (cntL (es.take (k + 1)) = cs ++ [(y.lines.length : Int)]) := Lib.hid (by rw [HS1.out, HC.out])
          have i2 : ¬ (j : Int) < (y.lines.length : Int) := by omega
          clear hjE
          go_wp2_with fail
          go_roundw
          case rel => exact ⟨k + 1, L', T', cs ++ [(y.lines.length : Int)], by go_num, by omega, HLL, HT', HCC, LN.out, G2.out⟩
          case measure => simp [intOf]; omega
    · have hkE : k = es.length := by omega
      have i1 : ¬ (k : Int) < (es.length : Int) := by omega
      have HkE := Lib.hid hkE
      clear hkE
      have HLf : Hid (lnsL es = L) := Lib.hid (by have h := HL.out; rw [List.take_of_length_le (by have := HkE.out; omega)] at h; exact h)
      have HCf : Hid (cntL es = cs) := Lib.hid (by have h := HC.out; rw [List.take_of_length_le (by have := HkE.out; omega)] at h; exact h)
      obtain ⟨w0, hw0⟩ : ∃ w0 : World, w0 = wr := ⟨_, rfl⟩
      rw [← hw0] at LN G hbase ⊢
      clear hw0
      obtain ⟨A1, c1, hv1, -, -, -, r1⟩ := Rd.of_own LN.out.c (by decide)
      obtain ⟨A2, c2, hv2, -, -, -, r2⟩ := Rd.of_own LN.out.o (by decide)
      obtain ⟨A3, c3, hv3, -, -, -, r3⟩ := Rd.of_own LN.out.l (by decide)
      obtain ⟨A4, c4, hv4, -, -, -, r4⟩ := Rd.of_own LN.out.s (by decide)
      obtain ⟨A5, c5, hv5, -, -, -, r5⟩ := Rd.of_own LN.out.t (by decide)
      have HIM : Hid (∀ x ∈ L, x.text.size ≤ 59 ∧ I64 x.off ∧ I64 x.len) := Lib.hid (by rw [← HLf.out]; exact HLM.out)
      have hmo : ∀ v ∈ L.map (·.off), I64 v := fun v hv => by obtain ⟨x, hx, rfl⟩ := List.mem_map.1 hv; exact (HIM.out x hx).2.1
      have hml : ∀ v ∈ L.map (·.len), I64 v := fun v hv => by obtain ⟨x, hx, rfl⟩ := List.mem_map.1 hv; exact (HIM.out x hx).2.2
      have hms : ∀ v ∈ L.map (fun x => (x.text.size : Int)), I64 v := fun v hv => by obtain ⟨x, hx, rfl⟩ := List.mem_map.1 hv; have := (HIM.out x hx).1; exact i64_small (by omega)
      have hmc : ∀ v ∈ cs, I64 v := by rw [← HCf.out]; exact HCM.out
      have K1 : Hid (∀ w', w0.grownBy w' none → Calls Tryz.prog 78 #[.slice A1 cs.length c1] w' (NewB w' (colX cs))) := Lib.hid (fun w' hg => column_any A1 cs c1 w' ((r1.mono (fun _ _ _ => trivial)).grown hg (by simp)) (by omega) hmc)
      have K2 : Hid (∀ w', w0.grownBy w' none → Calls Tryz.prog 78 #[.slice A2 L.length c2] w' (NewB w' (colX (L.map (·.off))))) := Lib.hid (fun w' hg => by
        have h := column_any A2 (L.map (·.off)) c2 w' (by rw [List.map_map]; exact (r2.mono (fun _ _ _ => trivial)).grown hg (by simp)) (by rw [List.length_map]; omega) hmo
        rw [List.length_map] at h; exact h)
      have K3 : Hid (∀ w', w0.grownBy w' none → Calls Tryz.prog 78 #[.slice A3 L.length c3] w' (NewB w' (colX (L.map (·.len))))) := Lib.hid (fun w' hg => by
        have h := column_any A3 (L.map (·.len)) c3 w' (by rw [List.map_map]; exact (r3.mono (fun _ _ _ => trivial)).grown hg (by simp)) (by rw [List.length_map]; omega) hml
        rw [List.length_map] at h; exact h)
      have K4 : Hid (∀ w', w0.grownBy w' none → Calls Tryz.prog 78 #[.slice A4 L.length c4] w' (NewB w' (colX (L.map (fun x => (x.text.size : Int)))))) := Lib.hid (fun w' hg => by
        have h := column_any A4 (L.map (fun x => (x.text.size : Int))) c4 w' (by rw [List.map_map]; exact (r4.mono (fun _ _ _ => trivial)).grown hg (by simp)) (by rw [List.length_map]; omega) hms
        rw [List.length_map] at h; exact h)
      have RT : Hid (Rd (fun b => b < w0.heap.size) w0 A5 (T.map (.int .u8))) := Lib.hid (r5.mono (fun b _ h => h))
      have HC1 : Hid ((colX cs).length ≤ 2000) := Lib.hid (by have := colX_len hmc (by omega); omega)
      have HC2 : Hid ((colX (L.map (·.off))).length ≤ 2000) := Lib.hid (by have h := colX_len hmo (by rw [List.length_map]; omega); rw [List.length_map] at h; omega)
      have HC3 : Hid ((colX (L.map (·.len))).length ≤ 2000) := Lib.hid (by have h := colX_len hml (by rw [List.length_map]; omega); rw [List.length_map] at h; omega)
      have HC4 : Hid ((colX (L.map (fun x => (x.text.size : Int)))).length ≤ 2000) := Lib.hid (by have h := colX_len hms (by rw [List.length_map]; omega); rw [List.length_map] at h; omega)
      have HTLn : Hid (T.length ≤ 59 * L.length) := Lib.hid (by rw [← HT.out]; exact HTL.out L (fun x hx => (HIM.out x hx).1))
      have HE : Hid (R = blkP (colX cs) ++ blkP (colX (L.map (·.off))) ++ blkP (colX (L.map (·.len))) ++ blkP (colX (L.map (fun x => (x.text.size : Int)))) ++ T) := Lib.hid (by rw [HX.out, HLf.out, HCf.out, HT.out])
      obtain ⟨C1, h1⟩ : ∃ C, C = colX cs := ⟨_, rfl⟩
      obtain ⟨C2, h2⟩ : ∃ C, C = colX (L.map (·.off)) := ⟨_, rfl⟩
      obtain ⟨C3, h3⟩ : ∃ C, C = colX (L.map (·.len)) := ⟨_, rfl⟩
      obtain ⟨C4, h4⟩ : ∃ C, C = colX (L.map (fun x => (x.text.size : Int))) := ⟨_, rfl⟩
      rw [← h1, ← h2, ← h3, ← h4] at HE
      rw [← h1] at K1 HC1
      rw [← h2] at K2 HC2
      rw [← h3] at K3 HC3
      rw [← h4] at K4 HC4
      have HB1 : Hid ((blkP C1).length ≤ 2010) := Lib.hid (by have := HC1.out; have := blkP_len (b := C1) (by omega); omega)
      have HB2 : Hid ((blkP C2).length ≤ 2010) := Lib.hid (by have := HC2.out; have := blkP_len (b := C2) (by omega); omega)
      have HB3 : Hid ((blkP C3).length ≤ 2010) := Lib.hid (by have := HC3.out; have := blkP_len (b := C3) (by omega); omega)
      have HB4 : Hid ((blkP C4).length ≤ 2010) := Lib.hid (by have := HC4.out; have := blkP_len (b := C4) (by omega); omega)
      rw [hv1, hv2, hv3, hv4, hv5]
      clear hv1 hv2 hv3 hv4 hv5 r1 r2 r3 r4 r5 hmo hml hms hmc h1 h2 h3 h4 LN HL HT HC HX
      have B0 : Hid (Byts w0.heap.size w0 (.slice none 0 0) []) := Lib.hid (Byts.nil _ _)
      have G0 : Hid (w0.grownBy w0 none) := Lib.hid (only_refl _ _)
      go_wp2_with fail
      refine (K1.out _ G0.out).mono ?_
      intro e wa hN
      obtain ⟨AC, cC, rfl, -, -, b3, hg⟩ := hN.row
      have GA0 := Lib.hid (only_trans G0.out hg)
      have BA0 : Hid (Byts w0.heap.size wa (.slice none 0 0) ([])) := Lib.hid (own_ext B0.out hg)
      have RC := Lib.hid b3
      have HNE : Hid (∀ b, w0.heap.size ≤ b → some b ≠ Value.ownBlock (.slice none 0 0)) := Lib.hid (fun b hb e => by have := Byts.below B0.out b e.symm; omega)
      have hza := GA0.out.size
      clear b3 hg hN
      go_wp2_with fail
      refine (putblock_any w0.heap.size (.slice none 0 0) ([]) AC C1 cC wa BA0.out RC.out HNE.out (by simp only [List.length_append, List.length_nil]; have := HB1.out; have := HB2.out; have := HB3.out; omega) (by have := HC1.out; omega) hza).mono ?_
      rintro e w1 ⟨v1, rfl, hB, hO⟩
      have B1 := Lib.hid hB
      have G1 : Hid (w0.grownBy w1 none) := BA0.out.only hO GA0.out (Nat.le_refl _)
      have hz1 := G1.out.size
      clear hB hO BA0 GA0 RC HNE hza B0
      go_wp2_with fail
      refine (K2.out _ G1.out).mono ?_
      intro e wa hN
      obtain ⟨AC, cC, rfl, -, -, b3, hg⟩ := hN.row
      have GA1 := Lib.hid (only_trans G1.out hg)
      have BA1 : Hid (Byts w0.heap.size wa v1 ([] ++ blkP C1)) := Lib.hid (own_ext B1.out hg)
      have RC := Lib.hid b3
      have HNE : Hid (∀ b, w1.heap.size ≤ b → some b ≠ Value.ownBlock v1) := Lib.hid (fun b hb e => by have := Byts.below B1.out b e.symm; omega)
      have hza := GA1.out.size
      clear b3 hg hN
      go_wp2_with fail
      refine (putblock_any w0.heap.size v1 ([] ++ blkP C1) AC C2 cC wa BA1.out RC.out HNE.out (by simp only [List.length_append, List.length_nil]; have := HB1.out; have := HB2.out; have := HB3.out; omega) (by have := HC2.out; omega) hza).mono ?_
      rintro e w2 ⟨v2, rfl, hB, hO⟩
      have B2 := Lib.hid hB
      have G2 : Hid (w0.grownBy w2 none) := BA1.out.only hO GA1.out (Nat.le_refl _)
      have hz2 := G2.out.size
      clear hB hO BA1 GA1 RC HNE hza B1
      go_wp2_with fail
      refine (K3.out _ G2.out).mono ?_
      intro e wa hN
      obtain ⟨AC, cC, rfl, -, -, b3, hg⟩ := hN.row
      have GA2 := Lib.hid (only_trans G2.out hg)
      have BA2 : Hid (Byts w0.heap.size wa v2 ([] ++ blkP C1 ++ blkP C2)) := Lib.hid (own_ext B2.out hg)
      have RC := Lib.hid b3
      have HNE : Hid (∀ b, w2.heap.size ≤ b → some b ≠ Value.ownBlock v2) := Lib.hid (fun b hb e => by have := Byts.below B2.out b e.symm; omega)
      have hza := GA2.out.size
      clear b3 hg hN
      go_wp2_with fail
      refine (putblock_any w0.heap.size v2 ([] ++ blkP C1 ++ blkP C2) AC C3 cC wa BA2.out RC.out HNE.out (by simp only [List.length_append, List.length_nil]; have := HB1.out; have := HB2.out; have := HB3.out; omega) (by have := HC3.out; omega) hza).mono ?_
      rintro e w3 ⟨v3, rfl, hB, hO⟩
      have B3 := Lib.hid hB
      have G3 : Hid (w0.grownBy w3 none) := BA2.out.only hO GA2.out (Nat.le_refl _)
      have hz3 := G3.out.size
      clear hB hO BA2 GA2 RC HNE hza B2
      go_wp2_with fail
      refine (K4.out _ G3.out).mono ?_
      intro e wa hN
      obtain ⟨AC, cC, rfl, -, -, b3, hg⟩ := hN.row
      have GA3 := Lib.hid (only_trans G3.out hg)
      have BA3 : Hid (Byts w0.heap.size wa v3 ([] ++ blkP C1 ++ blkP C2 ++ blkP C3)) := Lib.hid (own_ext B3.out hg)
      have RC := Lib.hid b3
      have HNE : Hid (∀ b, w3.heap.size ≤ b → some b ≠ Value.ownBlock v3) := Lib.hid (fun b hb e => by have := Byts.below B3.out b e.symm; omega)
      have hza := GA3.out.size
      clear b3 hg hN
      go_wp2_with fail
      refine (putblock_any w0.heap.size v3 ([] ++ blkP C1 ++ blkP C2 ++ blkP C3) AC C4 cC wa BA3.out RC.out HNE.out (by simp only [List.length_append, List.length_nil]; have := HB1.out; have := HB2.out; have := HB3.out; omega) (by have := HC4.out; omega) hza).mono ?_
      rintro e w4 ⟨v4, rfl, hB, hO⟩
      have B4 := Lib.hid hB
      have G4 : Hid (w0.grownBy w4 none) := BA3.out.only hO GA3.out (Nat.le_refl _)
      have hz4 := G4.out.size
      clear hB hO BA3 GA3 RC HNE hza B3
      have RT4 := Lib.hid (RT.out.grown G4.out (by simp))
      go_wp2_with (at_builtin; go_must (refine wpList_appendN rfl _ _ 22 rfl w0.heap.size Tryz.underlying22 byteInfo rfl (by decide) (v := v4) (by rfl) B4.out A5 T.length c5 (by rfl) RT4.out (by simp) (byte_ones _) (by decide) (by simp only [List.length_append, List.length_nil]; have := HB1.out; have := HB2.out; have := HB3.out; have := HB4.out; have := HTLn.out; omega) hz4 ?_); intro v9 w9 hown9 hg9 hob9)
      have B9 : Hid (Byts w0.heap.size w9 v9 R) := Lib.hid (by
        rw [HE.out]
        have h9 := hown9
        simp only [List.nil_append] at h9
        unfold Byts
        rw [List.length_append, List.map_append]
        exact h9)
      have G9 : Hid (w.grownBy w9 none) := Lib.hid (only_own (only_trans G.out G4.out) hg9 B4.out hbase)
      clear hown9 hg9 hob9
      go_wp2_with fail
      go_ret
      exact ⟨v9, rfl, B9.out.base hbase, G9.out⟩
end Go.Proofs.YtganfhmjklcchaaGreat
