/- Words for memory that all texts of this seat share: slices that read as lists, blocks known whole, frames. No condition. -/
import Derived.Test.YtfbkkbbpgipipaaGreatDoorProg
import Derived.WalkKit
import Derived.WalkSpells
import Derived.WalkLawsBesides
import Derived.Deep.QuietTactic
import Derived.BigQuiet
import Derived.Lib.Hide
import Derived.Outline
import Derived.Deep.AppendLies
import Derived.Maps.AppendAt
import Derived.OwnWalk
import Derived.KernelRfl
import Derived.Lib.Bytealg
import Derived.Laws.Externs
namespace Go.Proofs.YtfbkkbbpgipipaaGreatDoor
open Go.RowKit
set_option linter.unusedVariables false
set_option linter.unusedSimpArgs false

theorem ret_int {k : IntKind} {a b : Int} (h : a = b) : Ending.returned (.int k a) = .returned (.int k b) := by rw [h]

theorem getD_lt {α : Type} (l : List α) (d : α) {k : Nat} (h : k < l.length) : l.getD k d = l[k] := by
  rw [List.getD_eq_getElem?_getD, List.getElem?_eq_getElem h]; rfl
theorem getD_mem {α : Type} (l : List α) (d : α) {k : Nat} (h : k < l.length) : l.getD k d ∈ l := by
  rw [getD_lt l d h]; exact List.getElem_mem h
theorem take_snoc {α : Type} (l : List α) (d : α) {k : Nat} (h : k < l.length) : l.take (k + 1) = l.take k ++ [l.getD k d] := by
  rw [getD_lt l d h]; exact List.take_succ_eq_append_getElem h

/-- block g is just these cells of this element type, none frozen -/
def Blk (w : World) (g : Nat) (t : TypeId) (cs : Array Value) : Prop := w.heap[g]? = some (.cells cs t (0, 0))
section
variable {w w' : World} {g : Nat} {t : TypeId} {cs : Array Value}
theorem Blk.lt (h : Blk w g t cs) : g < w.heap.size := by
  rcases Nat.lt_or_ge g w.heap.size with hlt | hge
  · exact hlt
  · unfold Blk at h; rw [Array.getElem?_eq_none hge] at h; cases h
theorem Blk.cell (h : Blk w g t cs) (i : Nat) : w.cell? ⟨g, i, none⟩ = cs[i]? := cell_of_row w g i cs t (0, 0) h
theorem Blk.frozen (h : Blk w g t cs) (i : Nat) : w.frozen? ⟨g, i, none⟩ = false := by
  unfold Blk at h
  simp [World.frozen?, h]
theorem Blk.new (w : World) (t : TypeId) (cs : Array Value) : Blk (w.alloc (.cells cs t)) w.heap.size t cs := heap_alloc_new w _
theorem Blk.drew (h : Blk w g t cs) : Blk w.drew g t cs := h
theorem Blk.drewN (h : Blk w g t cs) (n : Nat) : Blk (w.drewN n) g t cs := h
theorem Blk.alloc (h : Blk w g t cs) (o : Obj) : Blk (w.alloc o) g t cs := (Below.heap_alloc w o g h.lt).trans h
theorem Blk.set_ (h : Blk w g t cs) (i : Nat) (u : Value) : Blk (w.setCell ⟨g, i, none⟩ u) g t (cs.setIfInBounds i u) := by
  unfold Blk at h ⊢
  simp [World.setCell, Array.getElem?_modify, h]
theorem Blk.grown {row : Option Nat} (h : Blk w g t cs) (hb : w.grownBy w' row) (hg : some g ≠ row) : Blk w' g t cs := (hb.block g h.lt hg).trans h
end

/-- frames: only the block 'row', and what is new, has turned -/
theorem only_refl (w : World) (row : Option Nat) : w.grownBy w row := ⟨rfl, rfl, rfl, Nat.le_refl _, fun _ _ _ => rfl⟩
theorem only_drew {a w : World} {row : Option Nat} (h : a.grownBy w row) : a.grownBy w.drew row := ⟨h.os, h.tape, h.output, h.size, h.block⟩
theorem only_drewN {a w : World} {row : Option Nat} (h : a.grownBy w row) (n : Nat) : a.grownBy (w.drewN n) row := ⟨h.os, h.tape, h.output, h.size, h.block⟩
theorem only_alloc {a w : World} {row : Option Nat} (h : a.grownBy w row) (o : Obj) : a.grownBy (w.alloc o) row :=
  ⟨h.os, h.tape, h.output, Nat.le_trans h.size (by simp), fun i hi hne => (Below.heap_alloc w o i (Nat.lt_of_lt_of_le hi h.size)).trans (h.block i hi hne)⟩
theorem only_setCell {a w : World} {g : Nat} (h : a.grownBy w (some g)) {p : Addr} (hp : p.block = g ∨ a.heap.size ≤ p.block) (u : Value) : a.grownBy (w.setCell p u) (some g) :=
  ⟨h.os, h.tape, h.output, by simpa [World.setCell] using h.size, fun i hi hne => (Below.heap_setCell w p u i (by
    rintro rfl
    rcases hp with hp | hp
    · exact hne (by rw [hp])
    · omega)).trans (h.block i hi hne)⟩
theorem only_trans {a b c : World} {row : Option Nat} (h : a.grownBy b row) (k : b.grownBy c row) : a.grownBy c row :=
  ⟨k.os.trans h.os, k.tape.trans h.tape, k.output.trans h.output, Nat.le_trans h.size k.size, fun i hi hne => (k.block i (Nat.lt_of_lt_of_le hi h.size) hne).trans (h.block i hi hne)⟩
theorem only_of_none {a w : World} (h : a.grownBy w none) (row : Option Nat) : a.grownBy w row := ⟨h.os, h.tape, h.output, h.size, fun i hi _ => h.block i hi (by simp)⟩
theorem only_fresh {a b c : World} {g : Nat} {row : Option Nat} (h : a.grownBy b row) (k : b.grownBy c (some g)) (hg : a.heap.size ≤ g) : a.grownBy c row :=
  ⟨k.os.trans h.os, k.tape.trans h.tape, k.output.trans h.output, Nat.le_trans h.size k.size, fun i hi hne => (k.block i (Nat.lt_of_lt_of_le hi h.size) (fun e => by injection e; omega)).trans (h.block i hi hne)⟩

theorem block_of_add (a : Addr) (n : Nat) : (a.add n).block = a.block := by unfold Addr.add; split <;> rfl
theorem add_of_add (a : Addr) (i j : Nat) : (a.add i).add j = a.add (i + j) := by
  unfold Addr.add
  by_cases hi : i = 0 <;> by_cases hj : j = 0 <;> simp [hi, hj, Nat.add_assoc]

/-- the slice '.slice A n c' holds the cells xs; its block (if it has elements) is one of S -/
def Rd (S : Nat → Prop) (w : World) (A : Option Addr) (xs : List Value) : Prop :=
  0 < xs.length → ∃ b off, A = some ⟨b, off, none⟩ ∧ S b ∧ b < w.heap.size ∧ ∀ j u, xs[j]? = some u → w.cell? ⟨b, off + j, none⟩ = some u
section
variable {S S' : Nat → Prop} {w w' : World} {A : Option Addr} {xs : List Value}
theorem Rd.nil : Rd S w A [] := fun h => absurd h (by simp)
theorem Rd.keep (h : Rd S w A xs) (hk : ∀ b, S b → b < w.heap.size → w'.heap[b]? = w.heap[b]?) (hs : w.heap.size ≤ w'.heap.size) : Rd S w' A xs := fun hn => by
  obtain ⟨b, off, e, hb, hlt, hc⟩ := h hn
  exact ⟨b, off, e, hb, Nat.lt_of_lt_of_le hlt hs, fun j u hu => (World.cell?_of_block (w := w) (a := ⟨b, off + j, none⟩) (hk b hb hlt)).trans (hc j u hu)⟩
theorem Rd.mono (h : Rd S w A xs) (hS : ∀ b, S b → b < w.heap.size → S' b) : Rd S' w A xs := fun hn => by
  obtain ⟨b, off, e, hb, hlt, hc⟩ := h hn
  exact ⟨b, off, e, hS b hb hlt, hlt, hc⟩
theorem Rd.grown {row : Option Nat} (h : Rd S w A xs) (hg : w.grownBy w' row) (hr : ∀ b, S b → some b ≠ row) : Rd S w' A xs :=
  h.keep (fun b hb hlt => hg.block b hlt (hr b hb)) hg.size
theorem Rd.drewN (h : Rd S w A xs) (n : Nat) : Rd S (w.drewN n) A xs := h
theorem Rd.take (h : Rd S w A xs) (n : Nat) : Rd S w A (xs.take n) := fun hn => by
  obtain ⟨b, off, e, hb, hlt, hc⟩ := h (by simp at hn; omega)
  exact ⟨b, off, e, hb, hlt, fun j u hu => hc j u (by rw [List.getElem?_take] at hu; split at hu; exact hu; cases hu)⟩
theorem Rd.alloc (h : Rd S w A xs) (o : Obj) : Rd S (w.alloc o) A xs := h.keep (fun b _ hlt => Below.heap_alloc w o b hlt) (by simp)
theorem Rd.alloc_map {α : Type} {f : α → Value} {l : List α} {n : Nat} (h : Rd S w A ((l.map f).take n)) (o : Obj) : Rd S (w.alloc o) A ((l.take n).map f) := by
  rw [List.map_take]; exact h.alloc o
theorem Rd.int_at {k : Nat} {vs : List Int} {kd : IntKind} (h : Rd S w A (vs.map (.int kd))) (hk : k < vs.length) :
    ∃ b off x, A = some ⟨b, off, none⟩ ∧ w.cell? ⟨b, off + k, none⟩ = some (.int kd x) ∧ Hid (vs.getD k 0 = x) := by
  obtain ⟨b, off, e, _, _, hc⟩ := h (by simp; omega)
  exact ⟨b, off, vs.getD k 0, e, hc k _ (by simp [hk]), rfl⟩
theorem Rd.int_at' {b off k : Nat} {vs : List Int} {kd : IntKind} (h : Rd S w (some ⟨b, off, none⟩) (vs.map (.int kd))) (hk : k < vs.length) :
    ∃ x, w.cell? ⟨b, off + k, none⟩ = some (.int kd x) ∧ Hid (vs.getD k 0 = x) := by
  obtain ⟨b', off', e, _, _, hc⟩ := h (by simp; omega)
  injection e with e
  injection e with e1 e2
  subst e1 e2
  exact ⟨vs.getD k 0, hc k _ (by simp [hk]), rfl⟩
theorem Rd.at_ {k : Nat} (h : Rd S w A xs) (hk : k < xs.length) : ∃ b off, A = some ⟨b, off, none⟩ ∧ w.cell? ⟨b, off + k, none⟩ = some (xs[k]'hk) := by
  obtain ⟨b, off, e, _, _, hc⟩ := h (by omega)
  exact ⟨b, off, e, hc k _ (List.getElem?_eq_getElem hk)⟩
end

theorem Rd.of_own {w : World} {base e n : Nat} {v : Value} {xs : List Value} {size : Nat} (h : w.ownsRow base e size v n xs) (hs : 0 < size) :
    ∃ A c, v = .slice A n c ∧ n ≤ c ∧ c ≤ maxLen ∧ xs.length = n * size ∧ Rd (base ≤ ·) w A xs := by
  obtain ⟨hl, h2⟩ := h
  rcases h2 with ⟨rfl, rfl⟩ | ⟨g, cap, cur, rfl, hg, hh, hc, hm, hcs, ht⟩
  · exact ⟨none, 0, rfl, Nat.le_refl _, Nat.zero_le _, hl, fun h => by rw [hl] at h; omega⟩
  · refine ⟨_, cap, rfl, hc, hm, hl, fun _ => ⟨g, 0, rfl, hg, (Array.getElem?_eq_some_iff.1 hh).1, fun j u hu => ?_⟩⟩
    rw [Nat.zero_add, cell_of_row w g j cur e (0, 0) hh]
    rw [← ht, List.getElem?_take] at hu
    split at hu
    · simpa using hu
    · cases hu

theorem own_only {w w' : World} {base e size n g : Nat} {v : Value} {xs : List Value} (h : w.ownsRow base e size v n xs) (hg : w.grownBy w' (some g)) (hlt : g < base) : w'.ownsRow base e size v n xs :=
  h.kept hg (by
    cases hv : v.ownBlock with
    | none => exact .inl rfl
    | some k => exact .inr (by have := (h.lt k hv).1; intro e; injection e; omega))
theorem own_ext {w w' : World} {base e size n : Nat} {v : Value} {xs : List Value} (h : w.ownsRow base e size v n xs) (hg : w.grownBy w' none) : w'.ownsRow base e size v n xs :=
  h.kept hg (by cases hv : v.ownBlock <;> simp)
theorem own_drew {w : World} {base e size n : Nat} {v : Value} {xs : List Value} (h : w.ownsRow base e size v n xs) : w.drew.ownsRow base e size v n xs := h
theorem own_drewN {w : World} {base e size n : Nat} {v : Value} {xs : List Value} (h : w.ownsRow base e size v n xs) (k : Nat) : (w.drewN k).ownsRow base e size v n xs := h

/-- the length in a slot: for a measure -/
def lenOf : Value → Nat | .slice _ n _ => n | _ => 0
theorem lenOf_own {w : World} {base e size n : Nat} {v : Value} {xs : List Value} (h : w.ownsRow base e size v n xs) : lenOf v = n := by
  rcases h.2 with ⟨rfl, rfl⟩ | ⟨g, cap, cur, rfl, _⟩ <;> rfl
theorem mem_snoc {α : Type} {P : α → Prop} {l : List α} {x : α} (h : ∀ y ∈ l, P y) (hx : P x) : ∀ y ∈ l ++ [x], P y := by
  intro y hy
  rcases List.mem_append.1 hy with hy | hy
  · exact h y hy
  · rw [List.mem_singleton.1 hy]; exact hx
theorem only_own {a w w' : World} {base e size n : Nat} {v : Value} {xs : List Value} {row : Option Nat} (h : a.grownBy w row) (hg : w.grownBy w' v.ownBlock) (ho : w.ownsRow base e size v n xs) (hb : a.heap.size ≤ base) : a.grownBy w' row := by
  cases hv : v.ownBlock with
  | none => rw [hv] at hg; exact only_trans h (only_of_none hg row)
  | some k => rw [hv] at hg; exact only_fresh h hg (Nat.le_trans hb (ho.lt k hv).1)
theorem own_snoc_int {w : World} {base e : Nat} {v : Value} {kd : IntKind} {vs : List Int} {x : Int} (h : w.ownsRow base e 1 v (vs.length + 1) (vs.map (.int kd) ++ #[Value.int kd x].toList)) :
    w.ownsRow base e 1 v (vs ++ [x]).length ((vs ++ [x]).map (.int kd)) := by simpa using h

/-- append of one element that has just been laid in a block of its own -/
theorem wpList_append1 {P : Program} {ops : Array Oper} {rest : List Oper} {o : Oper} {a : Act} {Q : Exit → Act → World → Prop} (hgd : o.guard = none) (s x : Operand) (t : TypeId)
    (ho : o.op = .call { callee := .builtin .append, args := #[s, x], argTypes := #[t, t] })
    (base : Nat) {e : TypeId} {z : Value} {size bytes : Nat} (ht : P.underlying t = some (.slice e)) (hi : (P.info? e).map (fun i => (i.zero, i.size, i.bytes)) = some (some z, size, bytes)) (hzs : z.cells.size = size) (hsz : 0 < size)
    {v : Value} {n : Nat} {xs : List Value} (hs : a.eval s = v) {w0 : World} {cs : Array Value} (hown : w0.ownsRow base e size v n xs)
    (hx : a.eval x = .slice (some ⟨w0.heap.size, 0, none⟩) 1 1) (hl : cs.size = size) (h1 : ∀ u ∈ cs.toList, u.oneCell' = true)
    (hb : bytes ≤ 1000) (hn : n ≤ 10000000) (hbase : base ≤ w0.heap.size)
    (h : ∀ v' w', w'.ownsRow base e size v' (n + 1) (xs ++ cs.toList) → w0.grownBy w' v.ownBlock → (v'.ownBlock = v.ownBlock ∨ v'.ownBlock = some (w0.heap.size + 1)) → wpList P ops Q rest (a.put o.dst v') w') : wpList P ops Q (o :: rest) a (w0.alloc (.cells cs e)) := by
  obtain ⟨i0, hi0, hz0, hz1, hz2⟩ := info_parts hi
  refine wpList_append_own_at _ hgd s x t ho base e i0 z size bytes ht hi0 hz0 hz1 hz2 hzs hsz v n xs hs (hown.alloc _) ⟨w0.heap.size, 0, none⟩ 1 1 cs.toList hx (by simp [hl]) (fun j u hu => ?_) h1 (by unfold maxLen; omega) ?_ (by simp; omega) ?_
  · have hadd : (⟨w0.heap.size, 0, none⟩ : Addr).add j = ⟨w0.heap.size, j, none⟩ := by unfold Addr.add; split <;> simp_all
    rw [hadd, (Blk.new w0 e cs).cell j]
    simpa using hu
  · have : (n + 1) * bytes ≤ 10000001 * 1000 := Nat.mul_le_mul (by omega) hb
    omega
  · intro v' w' h2 h3 _ h5
    refine h v' w' h2 (only_trans (World.grownBy_alloc w0 _ _) h3) ?_
    simpa using h5

theorem run_append1 {P : Program} (base : Nat) (t ty : TypeId) {e : TypeId} {z : Value} {size bytes : Nat} (ht : P.underlying t = some (.slice e)) (hi : (P.info? e).map (fun i => (i.zero, i.size, i.bytes)) = some (some z, size, bytes)) (hzs : z.cells.size = size) (hsz : 0 < size)
    {v : Value} {n : Nat} {xs : List Value} {w0 w : World} {cs : Array Value} (hw : w.heap = (w0.alloc (.cells cs e)).heap) (hw1 : w.os = w0.os) (hw2 : w.tape = w0.tape) (hw3 : w.output = w0.output) (hown : w0.ownsRow base e size v n xs) (hl : cs.size = size) (h1 : ∀ u ∈ cs.toList, u.oneCell' = true)
    (hb : bytes ≤ 1000) (hn : n ≤ 10000000) (hbase : base ≤ w0.heap.size) :
    ∃ v' w', (Builtin.append_ #[t, t] ty #[v, .slice (some ⟨w0.heap.size, 0, none⟩) 1 1]).run P w = .ok v' w' ∧ w'.ownsRow base e size v' (n + 1) (xs ++ cs.toList) ∧ w0.grownBy w' v.ownBlock ∧ (v'.ownBlock = v.ownBlock ∨ v'.ownBlock = some (w0.heap.size + 1)) := by
  obtain ⟨i0, hi0, hz0, hz1, hz2⟩ := info_parts hi
  have ho : w.ownsRow base e size v n xs := by
    have h0 := hown.alloc (.cells cs e)
    unfold World.ownsRow at h0 ⊢
    rw [hw]
    exact h0
  have hB : Blk w w0.heap.size e cs := by unfold Blk; rw [hw]; exact Blk.new w0 e cs
  have hsz0 : w.heap.size = w0.heap.size + 1 := by rw [hw]; simp
  obtain ⟨v', w', hr, h2, h3, _, h5⟩ := run_append_own_at (P := P) w base t ty e i0 z size bytes ht hi0 hz0 hz1 hz2 hzs hsz v n xs ho ⟨w0.heap.size, 0, none⟩ 1 1 cs.toList (by simp [hl]) (fun j u hu => by
    have hadd : (⟨w0.heap.size, 0, none⟩ : Addr).add j = ⟨w0.heap.size, j, none⟩ := by unfold Addr.add; split <;> simp_all
    rw [hadd, hB.cell j]
    simpa using hu) h1 (by unfold maxLen; omega) (by
    have : (n + 1) * bytes ≤ 10000001 * 1000 := Nat.mul_le_mul (by omega) hb
    omega) (by omega)
  refine ⟨v', w', hr, h2, ⟨h3.os.trans hw1, h3.tape.trans hw2, h3.output.trans hw3, by have := h3.size; omega, fun k hk hne => (h3.block k (by omega) hne).trans ?_⟩, by rw [← hsz0]; exact h5⟩
  rw [hw]
  exact Below.heap_alloc w0 _ k hk
/-- the same as one step of a region that draws -/
theorem step_append1 {P : Program} {ops : Array Oper} {o : Oper} {a : Act} {w : World} {K : Act → World → Prop} {Q : Exit → Act → World → Prop} {E : Prop} (hgd : o.guard = none) (s x : Operand) (t : TypeId)
    (ho : o.op = .call { callee := .builtin .append, args := #[s, x], argTypes := #[t, t] })
    (base : Nat) {e : TypeId} {z : Value} {size bytes : Nat} (ht : P.underlying t = some (.slice e)) (hi : (P.info? e).map (fun i => (i.zero, i.size, i.bytes)) = some (some z, size, bytes)) (hzs : z.cells.size = size) (hsz : 0 < size)
    {v : Value} {n : Nat} {xs : List Value} (hs : a.eval s = v) {w0 : World} {cs : Array Value} (hw : w.heap = (w0.alloc (.cells cs e)).heap) (hw1 : w.os = w0.os) (hw2 : w.tape = w0.tape) (hw3 : w.output = w0.output) (hown : w0.ownsRow base e size v n xs)
    (hx : a.eval x = .slice (some ⟨w0.heap.size, 0, none⟩) 1 1) (hl : cs.size = size) (h1 : ∀ u ∈ cs.toList, u.oneCell' = true)
    (hb : bytes ≤ 1000) (hn : n ≤ 10000000) (hbase : base ≤ w0.heap.size)
    (h : ∀ v' w', w'.ownsRow base e size v' (n + 1) (xs ++ cs.toList) → w0.grownBy w' v.ownBlock → (v'.ownBlock = v.ownBlock ∨ v'.ownBlock = some (w0.heap.size + 1)) → K (a.put o.dst v') w') :
    if Region.wanted o (yielded ops a.tmps) = true then Oper.wp P o a w K Q else E := by
  have hwt : Region.wanted o (yielded ops a.tmps) = true := by simp [Region.wanted, hgd]
  rw [if_pos hwt]
  obtain ⟨v', w', hrun, h2, h3, h4⟩ := run_append1 (P := P) base t o.type ht hi hzs hsz (v := v) (w := w) hw hw1 hw2 hw3 hown hl h1 hb hn hbase
  unfold Oper.wp execOp
  simp only [ho, resolve, invoke, builtin, Sem.run_bind, Sem.run_pure, Result.andThen_ok, List.map_toArray, List.map_cons, List.map_nil, hs, hx, hrun]
  exact h v' w' h2 h3 h4

/-- append of the elements of a slice, nil, empty or not, onto a row of the call's own -/
theorem run_appendN {P : Program} (base : Nat) (t ty : TypeId) {e : TypeId} {z : Value} {size bytes : Nat} (ht : P.underlying t = some (.slice e)) (hi : (P.info? e).map (fun i => (i.zero, i.size, i.bytes)) = some (some z, size, bytes)) (hzs : z.cells.size = size) (hsz : 0 < size)
    {v : Value} {n : Nat} {xs : List Value} {w : World} (hown : w.ownsRow base e size v n xs) {S : Nat → Prop} (A : Option Addr) (m c : Nat) {news : List Value} (hr : Rd S w A news) (hl : news.length = m * size) (h1 : ∀ u ∈ news, u.oneCell' = true)
    (hb : bytes ≤ 1000) (hn : n + m ≤ 10000000) (hbase : base ≤ w.heap.size) :
    ∃ v' w', (Builtin.append_ #[t, t] ty #[v, .slice A m c]).run P w = .ok v' w' ∧ w'.ownsRow base e size v' (n + m) (xs ++ news) ∧ w.grownBy w' v.ownBlock ∧ (v'.ownBlock = v.ownBlock ∨ v'.ownBlock = some w.heap.size) := by
  obtain ⟨i0, hi0, hz0, hz1, hz2⟩ := info_parts hi
  rcases A with _ | ad
  · have hm : news = [] := by
      rcases Nat.eq_zero_or_pos news.length with h0 | h0
      · exact List.eq_nil_of_length_eq_zero h0
      · obtain ⟨b, off, h, _⟩ := hr h0
        cases h
    subst hm
    have hm : m = 0 := by
      rcases Nat.eq_zero_or_pos m with h0 | h0
      · exact h0
      · have := Nat.mul_pos h0 hsz
        simp at hl; omega
    subst hm
    refine ⟨v, w, ?_, by simpa using hown, only_refl _ _, .inl rfl⟩
    rcases hown.2 with ⟨rfl, rfl⟩ | ⟨g, cap, cur, rfl, _, _, hnc, _⟩
    · simp [Builtin.append_, run_underlying ht, sizeOf, typeInfo, hi0, Builtin.lenOf, Builtin.firstCells]
    · simp [Builtin.append_, run_underlying ht, sizeOf, typeInfo, hi0, Builtin.lenOf, Builtin.firstCells, hnc, storeCells]
  · have hcells : ∀ j u, news[j]? = some u → w.cell? (ad.add j) = some u := by
      intro j u hu
      obtain ⟨b, off, h, _, _, hc⟩ := hr (by
        rcases Nat.eq_zero_or_pos news.length with h0 | h0
        · rw [List.eq_nil_of_length_eq_zero h0] at hu; simp at hu
        · exact h0)
      injection h with h
      subst h
      have hadd : (⟨b, off, none⟩ : Addr).add j = ⟨b, off + j, none⟩ := by unfold Addr.add; split <;> simp_all
      rw [hadd]
      exact hc j u hu
    obtain ⟨v', w', hrun, h2, h3, _, h5⟩ := run_append_own_at (P := P) w base t ty e i0 z size bytes ht hi0 hz0 hz1 hz2 hzs hsz v n xs hown ad m c news hl hcells h1 (by unfold maxLen; omega) (by
      have : (n + m) * bytes ≤ 10000000 * 1000 := Nat.mul_le_mul hn hb
      omega) hbase
    exact ⟨v', w', hrun, h2, h3, h5⟩
theorem wp_appendN {P : Program} {o : Oper} {a : Act} {w : World} {K : Act → World → Prop} {Q : Exit → Act → World → Prop} (s x : Operand) (t : TypeId)
    (ho : o.op = .call { callee := .builtin .append, args := #[s, x], argTypes := #[t, t] })
    (base : Nat) {e : TypeId} {z : Value} {size bytes : Nat} (ht : P.underlying t = some (.slice e)) (hi : (P.info? e).map (fun i => (i.zero, i.size, i.bytes)) = some (some z, size, bytes)) (hzs : z.cells.size = size) (hsz : 0 < size)
    {v : Value} {n : Nat} {xs : List Value} (hs : a.eval s = v) (hown : w.ownsRow base e size v n xs) {S : Nat → Prop} (A : Option Addr) (m c : Nat) {news : List Value} (hx : a.eval x = .slice A m c) (hr : Rd S w A news) (hl : news.length = m * size) (h1 : ∀ u ∈ news, u.oneCell' = true)
    (hb : bytes ≤ 1000) (hn : n + m ≤ 10000000) (hbase : base ≤ w.heap.size)
    (h : ∀ v' w', w'.ownsRow base e size v' (n + m) (xs ++ news) → w.grownBy w' v.ownBlock → (v'.ownBlock = v.ownBlock ∨ v'.ownBlock = some w.heap.size) → K (a.put o.dst v') w') : o.wp P a w K Q := by
  obtain ⟨v', w', hrun, h2, h3, h4⟩ := run_appendN (P := P) base t o.type ht hi hzs hsz hown A m c hr hl h1 hb hn hbase
  unfold Oper.wp execOp
  simp only [ho, resolve, invoke, builtin, Sem.run_bind, Sem.run_pure, Result.andThen_ok, List.map_toArray, List.map_cons, List.map_nil, hs, hx, hrun]
  exact h v' w' h2 h3 h4
theorem wpList_appendN {P : Program} {ops : Array Oper} {rest : List Oper} {o : Oper} {a : Act} {w : World} {Q : Exit → Act → World → Prop} (hgd : o.guard = none) (s x : Operand) (t : TypeId)
    (ho : o.op = .call { callee := .builtin .append, args := #[s, x], argTypes := #[t, t] })
    (base : Nat) {e : TypeId} {z : Value} {size bytes : Nat} (ht : P.underlying t = some (.slice e)) (hi : (P.info? e).map (fun i => (i.zero, i.size, i.bytes)) = some (some z, size, bytes)) (hzs : z.cells.size = size) (hsz : 0 < size)
    {v : Value} {n : Nat} {xs : List Value} (hs : a.eval s = v) (hown : w.ownsRow base e size v n xs) {S : Nat → Prop} (A : Option Addr) (m c : Nat) {news : List Value} (hx : a.eval x = .slice A m c) (hr : Rd S w A news) (hl : news.length = m * size) (h1 : ∀ u ∈ news, u.oneCell' = true)
    (hb : bytes ≤ 1000) (hn : n + m ≤ 10000000) (hbase : base ≤ w.heap.size)
    (h : ∀ v' w', w'.ownsRow base e size v' (n + m) (xs ++ news) → w.grownBy w' v.ownBlock → (v'.ownBlock = v.ownBlock ∨ v'.ownBlock = some w.heap.size) → wpList P ops Q rest (a.put o.dst v') w') : wpList P ops Q (o :: rest) a w :=
  wpList_plain hgd fun K hK => wp_appendN s x t ho base ht hi hzs hsz hs hown A m c hx hr hl h1 hb hn hbase fun v' w' h2 h3 h4 => hK _ _ (h v' w' h2 h3 h4)
theorem step_appendN {P : Program} {ops : Array Oper} {o : Oper} {a : Act} {w : World} {K : Act → World → Prop} {Q : Exit → Act → World → Prop} {E : Prop} (hgd : o.guard = none) (s x : Operand) (t : TypeId)
    (ho : o.op = .call { callee := .builtin .append, args := #[s, x], argTypes := #[t, t] })
    (base : Nat) {e : TypeId} {z : Value} {size bytes : Nat} (ht : P.underlying t = some (.slice e)) (hi : (P.info? e).map (fun i => (i.zero, i.size, i.bytes)) = some (some z, size, bytes)) (hzs : z.cells.size = size) (hsz : 0 < size)
    {v : Value} {n : Nat} {xs : List Value} (hs : a.eval s = v) (hown : w.ownsRow base e size v n xs) {S : Nat → Prop} (A : Option Addr) (m c : Nat) {news : List Value} (hx : a.eval x = .slice A m c) (hr : Rd S w A news) (hl : news.length = m * size) (h1 : ∀ u ∈ news, u.oneCell' = true)
    (hb : bytes ≤ 1000) (hn : n + m ≤ 10000000) (hbase : base ≤ w.heap.size)
    (h : ∀ v' w', w'.ownsRow base e size v' (n + m) (xs ++ news) → w.grownBy w' v.ownBlock → (v'.ownBlock = v.ownBlock ∨ v'.ownBlock = some w.heap.size) → K (a.put o.dst v') w') :
    if Region.wanted o (yielded ops a.tmps) = true then Oper.wp P o a w K Q else E := by
  have hwt : Region.wanted o (yielded ops a.tmps) = true := by simp [Region.wanted, hgd]
  rw [if_pos hwt]
  exact wp_appendN s x t ho base ht hi hzs hsz hs hown A m c hx hr hl h1 hb hn hbase h
/-- a cut of a slice, as the model writes it -/
theorem Rd.drop {S : Nat → Prop} {w : World} {A : Option Addr} {xs : List Value} (h : Rd S w A xs) (k : Nat) : Rd S w (A.map (·.add k)) (xs.drop k) := fun hn => by
  have hn' : k < xs.length := by simp at hn; omega
  obtain ⟨b, off, rfl, hb, hlt, hc⟩ := h (by omega)
  refine ⟨b, off + k, ?_, hb, hlt, fun j u hu => ?_⟩
  · show some (Addr.add _ _) = _; unfold Addr.add; split <;> simp_all
  · rw [List.getElem?_drop] at hu; rw [Nat.add_assoc]; exact hc _ _ hu
theorem Rd.cut {S : Nat → Prop} {w : World} {A : Option Addr} {xs : List Value} {cap n size k : Nat} (h : Rd S w A xs) (hl : xs.length = n * size) (hn : n ≤ cap) (hk : k ≤ n) : Rd S w (if cap = k then A else A.map (·.add (k * size))) (xs.drop (k * size)) := by
  split
  · have : n = k := by omega
    subst this
    rw [List.drop_of_length_le (by omega)]
    exact Rd.nil
  · exact h.drop _

/-- behind a call that may turn block g alone: cells and marks of the others are as they were -/
theorem ocell {W w' : World} {g : Nat} (hg : W.grownBy w' (some g)) : (∀ b o, b < W.heap.size → b ≠ g → w'.cell? ⟨b, o, none⟩ = W.cell? ⟨b, o, none⟩) ∧ (∀ b o, b < W.heap.size → b ≠ g → w'.frozen? ⟨b, o, none⟩ = W.frozen? ⟨b, o, none⟩) :=
  ⟨fun b o hb hne => World.cell?_of_block (w := W) (a := ⟨b, o, none⟩) (hg.block b hb (by simpa using hne)), fun b o hb hne => World.frozen?_of_block (w := W) (a := ⟨b, o, none⟩) (hg.block b hb (by simpa using hne))⟩

/-- from the row that a given statement tells of a slice of integers to Rd -/
theorem rd_of_row {k : IntKind} {w : World} {a : Option Addr} {len cap : Nat} {zs : List Int}
    (h : (a = none ∧ len = 0 ∧ cap = 0 ∧ zs = []) ∨
      ∃ x, a = some x ∧ len ≤ cap ∧ cap ≤ maxLen ∧ zs.length = cap ∧ (∀ i, i < zs.length → w.cell? (x.add i) = some (.int k (zs.getD i 0))) ∧ ∀ n ∈ zs, (Lit.int k n).wf = true) :
    Rd (fun _ => True) w a ((zs.take len).map (.int k)) ∧ (zs.take len).length = len ∧ len ≤ cap ∧ cap ≤ maxLen ∧ ∀ n ∈ zs.take len, (Lit.int k n).wf = true := by
  rcases h with ⟨rfl, rfl, rfl, rfl⟩ | ⟨x, rfl, hl, hm, hz, hc, hw⟩
  · exact ⟨Rd.nil, rfl, Nat.le_refl _, Nat.zero_le _, by simp⟩
  · refine ⟨fun hn => ?_, by simp; omega, hl, hm, fun n hn => hw n (List.mem_of_mem_take hn)⟩
    have hlen : 0 < zs.length := by simp at hn; omega
    obtain ⟨b, off, spot⟩ := x
    have h0 := hc 0 hlen
    cases spot with
    | some y =>
      exfalso
      simp only [Addr.add, World.cell?] at h0
      simp at h0
      split at h0
      · exact absurd h0 (by simp)
      · exact absurd h0 (by simp)
    | none =>
      refine ⟨b, off, rfl, trivial, World.block_lt_of_cell? w _ h0, fun j u hu => ?_⟩
      rw [List.getElem?_map, List.getElem?_take] at hu
      split at hu
      · rename_i hj
        by_cases hjz : j < zs.length
        · have h1 := hc j hjz
          have hadd : (⟨b, off, none⟩ : Addr).add j = ⟨b, off + j, none⟩ := by unfold Addr.add; split <;> simp_all
          rw [hadd] at h1
          rw [h1, ← hu, getD_lt zs 0 hjz, List.getElem?_eq_getElem hjz]
          rfl
        · rw [List.getElem?_eq_none (by omega)] at hu
          cases hu
      · cases hu
theorem below_of_only {w w' : World} (h : w.grownBy w' none) : Below w.heap.size w w' := ⟨h.os, h.tape, h.output, h.size, fun k hk => h.block k hk (by simp)⟩
theorem wf_u8 {n : Int} (h : (Lit.int .u8 n).wf = true) : 0 ≤ n ∧ n ≤ 255 := by simpa [Lit.wf, IntKind.min, IntKind.max, IntKind.signed, IntKind.bits] using h
theorem wf_i64 {n : Int} (h : (Lit.int .i64 n).wf = true) : -9223372036854775808 ≤ n ∧ n ≤ 9223372036854775807 := by simpa [Lit.wf, IntKind.min, IntKind.max, IntKind.signed, IntKind.bits] using h
end Go.Proofs.YtfbkkbbpgipipaaGreatDoor

namespace Go.Proofs.YtfbkkbbpgipipaaGreatDoor
open Go.RowKit
set_option linter.unusedVariables false
set_option linter.unusedSimpArgs false

def CmpQ (a b : ByteArray) (w : World) (e : Ending) (w' : World) : Prop := e = .returned (.int .i64 (Lib.compareBytes a.data.toList b.data.toList)) ∧ w' = w
set_option maxHeartbeats 1000000 in
set_option maxRecDepth 100000 in
theorem bcmp_any (a b : ByteArray) (w : World) : Calls Tryz.prog 75 #[.string a, .string b] w (CmpQ a b w) := by
  go_enter Tryz.func75, Tryz.ntmps75
  go_wp2_with fail
  rw [run_callFunc_extern Tryz.func84 (by kernel_rfl) (by kernel_rfl) (by kernel_rfl) (e := Extern.BytealgCompare.compare) (by kernel_rfl), Lib.run_compareString a b w]
  simp only [Result.andThen]
  rw [Oper.upon_value]
  go_wp2
  go_ret
  exact ⟨rfl, rfl⟩
set_option maxHeartbeats 1000000 in
set_option maxRecDepth 100000 in
theorem scmp_any (a b : ByteArray) (w : World) : Calls Tryz.prog 63 #[.string a, .string b] w (CmpQ a b w) := by
  have hc := Lib.hid (bcmp_any a b w)
  go_enter Tryz.func63, Tryz.ntmps63
  go_wp2_with fail
  refine hc.out.mono ?_
  rintro e w1 ⟨rfl, rfl⟩
  go_wp2_with fail
  go_ret
  exact ⟨rfl, rfl⟩
def FCmpQ (a b : ByteArray) (w : World) (e : Ending) (w' : World) : Prop := e = .returned (.int .i64 (Lib.compareBytes a.data.toList b.data.toList)) ∧ w.grownBy w' none
set_option maxHeartbeats 1000000 in
set_option maxRecDepth 100000 in
/-- the closure that compares the names of two fields -/
theorem fcmp_any (a b c d : ByteArray) (w : World) : Calls Tryz.prog 62 #[.agg #[.string a, .string b], .agg #[.string c, .string d]] w (FCmpQ a c w) := by
  have G1 : Hid (w.grownBy ((w.alloc (.cells #[.string a, .string b] 69)).alloc (.cells #[.string c, .string d] 69)) none) := Lib.hid (only_alloc (only_alloc (only_refl _ _) _) _)
  go_enter Tryz.func62, Tryz.ntmps62
  go_wp2_with fail
  refine (scmp_any a c _).mono ?_
  rintro e w1 ⟨rfl, rfl⟩
  go_wp2_with fail
  go_ret
  exact ⟨rfl, G1.out⟩
theorem cmp_gt : ∀ (a b : List UInt8), b < a → Lib.compareBytes a b = 1 := by
  intro a
  induction a with
  | nil => intro b h; cases b <;> simp at h
  | cons x a ih =>
    intro b h
    cases b with
    | nil => rfl
    | cons y b =>
      rw [List.cons_lt_cons_iff] at h
      unfold Lib.compareBytes
      rcases h with h | ⟨rfl, h⟩
      · have h1 : ¬ x < y := fun h2 => by
          have := UInt8.lt_iff_toNat_lt.1 h
          have := UInt8.lt_iff_toNat_lt.1 h2
          omega
        rw [if_neg h1, if_pos h]
      · have h1 : ¬ y < y := fun h2 => by
          have := UInt8.lt_iff_toNat_lt.1 h2
          omega
        rw [if_neg h1, if_neg h1]
        exact ih b h
end Go.Proofs.YtfbkkbbpgipipaaGreatDoor

namespace Go.Proofs.YtfbkkbbpgipipaaGreatDoor
open Go.RowKit
set_option linter.unusedVariables false
set_option linter.unusedSimpArgs false

/-- the codes l lie before the block g, which holds the struct; k of them have been taken -/
def CodesAt (w : World) (g : Nat) (l : List Int) (k : Nat) : Prop :=
  ∃ A c, Blk w g 46 #[.slice A l.length c, .int .i64 (k : Int)] ∧ Rd (· < g) w A (l.map (.int .u8)) ∧ k ≤ l.length ∧ l.length ≤ 100000 ∧ ∀ x ∈ l, 0 ≤ x ∧ x ≤ 255

set_option maxHeartbeats 400000 in
theorem left_any (g : Nat) (l : List Int) (k : Nat) (w : World) (h : CodesAt w g l k) :
    Calls Tryz.prog 15 #[.pointer (some ⟨g, 0, none⟩)] w fun e w' => e = .returned (.bool (decide (k < l.length))) ∧ ∃ n, w' = w.drewN n := by
  obtain ⟨A, c, hb, -, hk, hl, -⟩ := h
  have c0 := hb.cell 0
  have c1 := hb.cell 1
  simp at c0 c1
  go_enter Tryz.func15, Tryz.ntmps15
  go_wp2
  go_quiet (fail)
  go_wp2
  go_ret
  exact ⟨by simp, _, rfl⟩

theorem CodesAt.drewN {w : World} {g : Nat} {l : List Int} {k : Nat} (h : CodesAt w g l k) (n : Nat) : CodesAt (w.drewN n) g l k := h
theorem CodesAt.drew {w : World} {g : Nat} {l : List Int} {k : Nat} (h : CodesAt w g l k) : CodesAt w.drew g l k := h
theorem CodesAt.set_ {w : World} {g : Nat} {l : List Int} {k : Nat} (h : CodesAt w g l k) (hk : k < l.length) : CodesAt (w.setCell ⟨g, 1, none⟩ (.int .i64 ((k : Int) + 1))) g l (k + 1) := by
  obtain ⟨A, c, hb, hr, _, hl, hx⟩ := h
  refine ⟨A, c, by simpa using hb.set_ 1 (.int .i64 ((k : Int) + 1)), hr.keep (fun b hb _ => Below.heap_setCell _ _ _ _ (by simp; omega)) (by simp [World.setCell]), hk, hl, hx⟩

def nextV (l : List Int) (k : Nat) (n : Int) : Int := if k < l.length ∧ 1 ≤ n then l.getD k 0 * n / 256 else 0
def nextK (l : List Int) (k : Nat) (n : Int) : Nat := if k < l.length ∧ 1 ≤ n then k + 1 else k
def NextPost (w : World) (g : Nat) (l : List Int) (k : Nat) (n : Int) (e : Ending) (w' : World) : Prop :=
  e = .returned (.int .i64 (nextV l k n)) ∧ CodesAt w' g l (nextK l k n) ∧ w.grownBy w' (some g)

set_option maxHeartbeats 400000 in
theorem next_any (g : Nat) (l : List Int) (k : Nat) (n : Int) (w : World) (h : CodesAt w g l k) (hn : n ≤ 1000000) :
    Calls Tryz.prog 7 #[.pointer (some ⟨g, 0, none⟩), .int .i64 n] w (NextPost w g l k n) := by
  have H := Lib.hid h
  obtain ⟨A, c, hb, hr, hk, hl, hx⟩ := h
  have c0 := hb.cell 0
  have c1 := hb.cell 1
  have f1 := hb.frozen 1
  simp at c0 c1
  by_cases h1 : k < l.length
  · by_cases h2 : 1 ≤ n
    · have hv : nextV l k n = l[k] * n / 256 := by simp [nextV, h1, h2]
      have hv2 : nextK l k n = k + 1 := by simp [nextK, h1, h2]
      have hb' := hx (l[k]) (List.getElem_mem h1)
      obtain ⟨b, off, rfl, hc⟩ := hr.at_ (k := k) (by simpa using h1)
      simp at hc
      have HV := Lib.hid hv
      have HV2 := Lib.hid hv2
      have hm1 : 0 ≤ l[k] * n := Int.mul_nonneg hb'.1 (by omega)
      have hm2 : l[k] * n ≤ 255 * 1000000 := Int.mul_le_mul hb'.2 hn (by omega) (by omega)
      clear hv hv2 hr hx hb
      have hd : decide (n < 1) = false := by simp; omega
      go_enter Tryz.func7, Tryz.ntmps7
      go_wp2_with (go_at_call 15; refine (left_any g l k _ H.out).mono ?_; rintro e w' ⟨rfl, nq, rfl⟩)
      go_quiet (fail)
      go_wp2
      go_ret
      refine ⟨ret_int HV.out.symm, ?_, ?_⟩
      · rw [HV2.out]; exact CodesAt.drewN (H.out.set_ h1) _
      · exact only_drewN (only_setCell (only_refl _ _) (.inl rfl) _) _
    · have hv : nextV l k n = 0 := by simp [nextV, h2]
      have hv2 : nextK l k n = k := by simp [nextK, h2]
      have HV := Lib.hid hv
      have HV2 := Lib.hid hv2
      clear hv hv2 hr hx hb
      have hd : decide (n < 1) = true := by simp; omega
      go_enter Tryz.func7, Tryz.ntmps7
      go_wp2_with (go_at_call 15; refine (left_any g l k _ H.out).mono ?_; rintro e w' ⟨rfl, nq, rfl⟩)
      go_ret
      exact ⟨ret_int HV.out.symm, by rw [HV2.out]; exact CodesAt.drewN H.out _, only_drewN (only_refl _ _) _⟩
  · have hv : nextV l k n = 0 := by simp [nextV, h1]
    have hv2 : nextK l k n = k := by simp [nextK, h1]
    have HV := Lib.hid hv
    have HV2 := Lib.hid hv2
    clear hv hv2 hr hx hb
    go_enter Tryz.func7, Tryz.ntmps7
    go_wp2_with (go_at_call 15; refine (left_any g l k _ H.out).mono ?_; rintro e w' ⟨rfl, nq, rfl⟩)
    go_ret
    exact ⟨ret_int HV.out.symm, by rw [HV2.out]; exact CodesAt.drewN H.out _, only_drewN (only_refl _ _) _⟩

def NewPost (w : World) (l : List Int) (e : Ending) (w' : World) : Prop :=
  e = .returned (.pointer (some ⟨w.heap.size, 0, none⟩)) ∧ CodesAt w' w.heap.size l 0 ∧ w.grownBy w' none ∧ w.heap.size < w'.heap.size

set_option maxHeartbeats 400000 in
theorem new_any (A : Option Addr) (l : List Int) (c : Nat) (m : Nat) (w : World) (h : Rd (fun _ => True) w A (l.map (.int .u8))) (hc : l.length ≤ c) (hcm : c ≤ maxLen) (hm : m ≤ 100000) (hx : ∀ x ∈ l, 0 ≤ x ∧ x ≤ 255) :
    Calls Tryz.prog 5 #[.slice A l.length c, .int .i64 (m : Int)] w (NewPost w (l.take m)) := by
  unfold maxLen at hcm
  have H := Lib.hid h
  have HX := Lib.hid hx
  clear h hx
  go_enter Tryz.func5, Tryz.ntmps5
  go_wp2
  all_goals go_ret
  all_goals refine ⟨rfl, ⟨A, c, ?_, ?_, Nat.zero_le _, by simp; omega, fun x hx => HX.out x (List.mem_of_mem_take hx)⟩, only_alloc (only_refl _ _) _, by simp⟩
  all_goals first | exact (Rd.mono (H.out.take m) (fun _ _ h => h)).alloc_map _ | skip
  · rw [List.length_take, Nat.min_eq_left (by omega)]; exact Blk.new _ _ _
  · rw [List.length_take, Nat.min_eq_right (by omega)]; exact Blk.new _ _ _

theorem CodesAt.grown {w w' : World} {g : Nat} {l : List Int} {k : Nat} {row : Option Nat} (h : CodesAt w g l k) (hg : w.grownBy w' row) (hr : ∀ b, b ≤ g → some b ≠ row) : CodesAt w' g l k := by
  obtain ⟨A, c, hb, hrd, h2⟩ := h
  exact ⟨A, c, hb.grown hg (hr g (Nat.le_refl _)), hrd.grown hg (fun b hb => hr b (Nat.le_of_lt hb)), h2⟩
theorem CodesAt.alloc {w : World} {g : Nat} {l : List Int} {k : Nat} (h : CodesAt w g l k) (o : Obj) : CodesAt (w.alloc o) g l k := h.grown (World.grownBy_alloc w o none) (by simp)
theorem CodesAt.lt {w : World} {g : Nat} {l : List Int} {k : Nat} (h : CodesAt w g l k) : g < w.heap.size := by
  obtain ⟨A, c, hb, _⟩ := h
  exact hb.lt
theorem nextV_nonneg {l : List Int} (hx : ∀ x ∈ l, 0 ≤ x ∧ x ≤ 255) (k : Nat) (n : Int) : 0 ≤ nextV l k n := by
  unfold nextV
  split
  · rename_i h
    have := hx (l.getD k 0) (getD_mem l 0 h.1)
    have : 0 ≤ l.getD k 0 * n := Int.mul_nonneg this.1 (by omega)
    omega
  · omega
theorem nextV_lt {l : List Int} (hx : ∀ x ∈ l, 0 ≤ x ∧ x ≤ 255) (k : Nat) (n : Int) (hn : 1 ≤ n) : nextV l k n < n := by
  unfold nextV
  split
  · rename_i h
    have := hx (l.getD k 0) (getD_mem l 0 h.1)
    have : l.getD k 0 * n ≤ 255 * n := Int.mul_le_mul_of_nonneg_right this.2 (by omega)
    omega
  · omega
/-- a choice, of which only its range is told -/
def DrawnPost (w : World) (g : Nat) (l : List Int) (P : Int → Prop) (e : Ending) (w' : World) : Prop :=
  ∃ (v : Int) (k : Nat), e = .returned (.int .i64 v) ∧ P v ∧ CodesAt w' g l k ∧ w.grownBy w' (some g)
theorem next_some (g : Nat) (l : List Int) (k : Nat) (n : Int) (w : World) (h : CodesAt w g l k) (h1 : 1 ≤ n) (hn : n ≤ 1000000) :
    Calls Tryz.prog 7 #[.pointer (some ⟨g, 0, none⟩), .int .i64 n] w (DrawnPost w g l (fun v => 0 ≤ v ∧ v < n)) :=
  (next_any g l k n w h hn).mono fun e w' ⟨he, hc, hg⟩ => ⟨_, _, he, by
    obtain ⟨A, c, _, _, _, _, hx⟩ := h
    exact ⟨nextV_nonneg hx k n, nextV_lt hx k n h1⟩, hc, hg⟩

/-- tables of constants -/
def isStr (m : Nat) : Value → Bool | .string s => decide (s.size ≤ m) | _ => false
def isInt (p : Int → Bool) : Value → Bool | .int .i64 n => p n | _ => false
theorem tab_str {cs : Array Value} {m : Nat} (h : cs.toList.all (isStr m) = true) {j : Nat} (hj : j < cs.size) : ∃ s, cs[j]? = some (.string s) ∧ s.size ≤ m := by
  have h1 := List.all_eq_true.1 h cs[j] (by rw [Array.mem_toList_iff]; exact Array.getElem_mem hj)
  rw [Array.getElem?_eq_getElem hj]
  revert h1
  cases hv : cs[j] with
  | string s => intro h1; exact ⟨_, rfl, by simpa [isStr] using h1⟩
  | _ => intro h1; simp [isStr] at h1
theorem tab_int {cs : Array Value} {p : Int → Bool} (h : cs.toList.all (isInt p) = true) {j : Nat} (hj : j < cs.size) : ∃ n, cs[j]? = some (.int .i64 n) ∧ p n = true := by
  have h1 := List.all_eq_true.1 h cs[j] (by rw [Array.mem_toList_iff]; exact Array.getElem_mem hj)
  rw [Array.getElem?_eq_getElem hj]
  revert h1
  cases hv : cs[j] with
  | int k n =>
    cases k with
    | i64 => intro h1; exact ⟨_, rfl, by simpa [isInt] using h1⟩
    | _ => intro h1; simp [isInt] at h1
  | _ => intro h1; simp [isInt] at h1

theorem Blk.str_at {w : World} {g t m : Nat} {cs : Array Value} (hB : Blk w g t cs) (h : cs.toList.all (isStr m) = true) {j : Nat} (hj : j < cs.size) : ∃ s, w.cell? ⟨g, j, none⟩ = some (.string s) ∧ Hid (s.size ≤ m) := by
  obtain ⟨s, hs, hm⟩ := tab_str h hj
  exact ⟨s, (hB.cell j).trans hs, hm⟩
theorem Blk.int_at {w : World} {g t : Nat} {p : Int → Bool} {cs : Array Value} (hB : Blk w g t cs) (h : cs.toList.all (isInt p) = true) {j : Nat} (hj : j < cs.size) : ∃ n, w.cell? ⟨g, j, none⟩ = some (.int .i64 n) ∧ Hid (p n = true) := by
  obtain ⟨s, hs, hm⟩ := tab_int h hj
  exact ⟨s, (hB.cell j).trans hs, hm⟩

def StrPost (w : World) (g : Nat) (l : List Int) (n : Nat) (e : Ending) (w' : World) : Prop :=
  ∃ (s : ByteArray) (k : Nat), e = .returned (.string s) ∧ s.size ≤ n ∧ CodesAt w' g l k ∧ w.grownBy w' (some g)
end Go.Proofs.YtfbkkbbpgipipaaGreatDoor

namespace Go.Proofs.YtfbkkbbpgipipaaGreatDoor
open Go.RowKit
set_option linter.unusedVariables false
set_option linter.unusedSimpArgs false

theorem flat_at {α : Type} (f : α → List Value) (z : Nat) (hf : ∀ x, (f x).length = z) (l : List α) : ∀ (i j : Nat) (hi : i < l.length), j < z → (l.flatMap f)[i * z + j]? = (f l[i])[j]? := by
  induction l with
  | nil => intro i j hi; simp at hi
  | cons x l ih =>
    intro i j hi hj
    rw [List.flatMap_cons]
    cases i with
    | zero => rw [List.getElem?_append_left (by rw [hf]; omega)]; simp
    | succ i =>
      rw [List.getElem?_append_right (by rw [hf, Nat.add_mul]; omega), hf]
      have : (i + 1) * z + j - z = i * z + j := by rw [Nat.add_mul]; omega
      rw [this]
      exact ih i j (by simpa using hi) hj
theorem flat_len {α : Type} (f : α → List Value) (z : Nat) (hf : ∀ x, (f x).length = z) (l : List α) : (l.flatMap f).length = l.length * z := by
  induction l with
  | nil => simp
  | cons x l ih => rw [List.flatMap_cons, List.length_append, hf, ih, List.length_cons, Nat.add_mul]; omega
theorem flat_take {α : Type} {f : α → List Value} {z : Nat} (hf : ∀ x, (f x).length = z) (l : List α) (n : Nat) : (l.take n).flatMap f = (l.flatMap f).take (n * z) := by
  induction l generalizing n with
  | nil => simp
  | cons x l ih =>
    cases n with
    | zero => simp
    | succ n =>
      have h1 : (f x).take ((n + 1) * z) = f x := List.take_of_length_le (by rw [hf, Nat.add_mul]; omega)
      have h2 : (n + 1) * z - (f x).length = n * z := by rw [hf, Nat.add_mul]; omega
      rw [List.take_succ_cons, List.flatMap_cons, List.flatMap_cons, ih, List.take_append, h1, h2]
theorem flat_drop {α : Type} {f : α → List Value} {z : Nat} (hf : ∀ x, (f x).length = z) (l : List α) (n : Nat) : (l.drop n).flatMap f = (l.flatMap f).drop (n * z) := by
  induction l generalizing n with
  | nil => simp
  | cons x l ih =>
    cases n with
    | zero => simp
    | succ n =>
      have h1 : (f x).drop ((n + 1) * z) = [] := List.drop_of_length_le (by rw [hf, Nat.add_mul]; omega)
      have h2 : (n + 1) * z - (f x).length = n * z := by rw [hf, Nat.add_mul]; omega
      rw [List.drop_succ_cons, List.flatMap_cons, ih, List.drop_append, h1, h2, List.nil_append]
theorem flat_set {α : Type} {f : α → List Value} {z : Nat} (hf : ∀ x, (f x).length = z) (l : List α) : ∀ (i j : Nat) (hi : i < l.length) (y : α) (u : Value), j < z → (f l[i]).set j u = f y → (l.flatMap f).set (i * z + j) u = (l.set i y).flatMap f := by
  induction l with
  | nil => intro i j hi; simp at hi
  | cons x l ih =>
    intro i j hi y u hj h
    cases i with
    | zero =>
      simp only [List.getElem_cons_zero] at h
      rw [List.flatMap_cons, List.set_cons_zero, List.flatMap_cons, List.set_append, if_pos (by rw [hf]; omega)]
      rw [Nat.zero_mul, Nat.zero_add, h]
    | succ i =>
      rw [List.flatMap_cons, List.set_cons_succ, List.flatMap_cons, List.set_append, if_neg (by rw [hf, Nat.add_mul]; omega)]
      have e : (i + 1) * z + j - (f x).length = i * z + j := by rw [hf, Nat.add_mul]; omega
      rw [e, ih i j (by simpa using hi) y u hj (by simpa using h)]
theorem flat_one {α : Type} {f : α → List Value} (h : ∀ x, ∀ u ∈ f x, u.oneCell' = true) (l : List α) : ∀ u ∈ l.flatMap f, u.oneCell' = true := by
  intro u hu
  obtain ⟨x, _, hx⟩ := List.mem_flatMap.1 hu
  exact h x u hx
/-- append of one element that has just been laid in block H -/
theorem wpList_append1h {P : Program} {ops : Array Oper} {rest : List Oper} {o : Oper} {a : Act} {Q : Exit → Act → World → Prop} (hgd : o.guard = none) (s x : Operand) (t : TypeId)
    (ho : o.op = .call { callee := .builtin .append, args := #[s, x], argTypes := #[t, t] })
    (base : Nat) {e : TypeId} {z : Value} {size bytes : Nat} (ht : P.underlying t = some (.slice e)) (hi : (P.info? e).map (fun i => (i.zero, i.size, i.bytes)) = some (some z, size, bytes)) (hzs : z.cells.size = size) (hsz : 0 < size)
    {v : Value} {n : Nat} {xs : List Value} (hs : a.eval s = v) {w0 : World} {cs : Array Value} (hown : w0.ownsRow base e size v n xs) (H : Nat) (hH : w0.heap.size = H)
    (hx : a.eval x = .slice (some ⟨H, 0, none⟩) 1 1) (hl : cs.size = size) (h1 : ∀ u ∈ cs.toList, u.oneCell' = true)
    (hb : bytes ≤ 1000) (hn : n ≤ 10000000) (hbase : base ≤ H)
    (h : ∀ v' w', w'.ownsRow base e size v' (n + 1) (xs ++ cs.toList) → w0.grownBy w' v.ownBlock → (v'.ownBlock = v.ownBlock ∨ v'.ownBlock = some (H + 1)) → wpList P ops Q rest (a.put o.dst v') w') : wpList P ops Q (o :: rest) a (w0.alloc (.cells cs e)) := by
  subst hH
  exact wpList_append1 hgd s x t ho base ht hi hzs hsz hs hown hx hl h1 hb hn hbase h
end Go.Proofs.YtfbkkbbpgipipaaGreatDoor
