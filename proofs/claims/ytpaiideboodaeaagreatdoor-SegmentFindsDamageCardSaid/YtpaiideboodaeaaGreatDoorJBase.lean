/- Words for memory that all texts of this seat share: slices that read as lists, blocks known whole, frames. No condition. -/
import Derived.Test.YtpaiideboodaeaaGreatDoorProg
import Derived.WalkKit
import Derived.WalkSpells
import Derived.WalkLawsBesides
import Derived.Deep.QuietTactic
import Derived.BigQuiet
import Derived.Lib.Hide
import Derived.Outline
import Derived.Deep.AppendLies
import Derived.Maps.AppendAt
import Derived.OwnWalk
import Derived.KernelRfl
import Derived.Lib.ConvBytes
import Derived.Shelf.Bytes.SlEqualAll
import Derived.Lib.ItoaLen
import Derived.Lib.AppendStr
import Derived.IntWalk
import Derived.Deep.DeepCutAuto
namespace Go.Proofs.YtpaiideboodaeaaGreatDoor
open Go.RowKit
set_option linter.unusedVariables false
set_option linter.unusedSimpArgs false

theorem ret_int {k : IntKind} {a b : Int} (h : a = b) : Ending.returned (.int k a) = .returned (.int k b) := by rw [h]

theorem getD_lt {α : Type} (l : List α) (d : α) {k : Nat} (h : k < l.length) : l.getD k d = l[k] := by
  rw [List.getD_eq_getElem?_getD, List.getElem?_eq_getElem h]; rfl
theorem getD_mem {α : Type} (l : List α) (d : α) {k : Nat} (h : k < l.length) : l.getD k d ∈ l := by
  rw [getD_lt l d h]; exact List.getElem_mem h
theorem take_snoc {α : Type} (l : List α) (d : α) {k : Nat} (h : k < l.length) : l.take (k + 1) = l.take k ++ [l.getD k d] := by
  rw [getD_lt l d h]; exact List.take_succ_eq_append_getElem h

/-- block g is just these cells of this element type, none frozen -/
def Blk (w : World) (g : Nat) (t : TypeId) (cs : Array Value) : Prop := w.heap[g]? = some (.cells cs t (0, 0))
section
variable {w w' : World} {g : Nat} {t : TypeId} {cs : Array Value}
theorem Blk.lt (h : Blk w g t cs) : g < w.heap.size := by
  rcases Nat.lt_or_ge g w.heap.size with hlt | hge
  · exact hlt
  · unfold Blk at h; rw [Array.getElem?_eq_none hge] at h; cases h
theorem Blk.cell (h : Blk w g t cs) (i : Nat) : w.cell? ⟨g, i, none⟩ = cs[i]? := cell_of_row w g i cs t (0, 0) h
theorem Blk.frozen (h : Blk w g t cs) (i : Nat) : w.frozen? ⟨g, i, none⟩ = false := by
  unfold Blk at h
  simp [World.frozen?, h]
theorem Blk.new (w : World) (t : TypeId) (cs : Array Value) : Blk (w.alloc (.cells cs t)) w.heap.size t cs := heap_alloc_new w _
theorem Blk.drew (h : Blk w g t cs) : Blk w.drew g t cs := h
theorem Blk.drewN (h : Blk w g t cs) (n : Nat) : Blk (w.drewN n) g t cs := h
theorem Blk.alloc (h : Blk w g t cs) (o : Obj) : Blk (w.alloc o) g t cs := (Below.heap_alloc w o g h.lt).trans h
theorem Blk.set_ (h : Blk w g t cs) (i : Nat) (u : Value) : Blk (w.setCell ⟨g, i, none⟩ u) g t (cs.setIfInBounds i u) := by
  unfold Blk at h ⊢
  simp [World.setCell, Array.getElem?_modify, h]
theorem Blk.grown {row : Option Nat} (h : Blk w g t cs) (hb : w.grownBy w' row) (hg : some g ≠ row) : Blk w' g t cs := (hb.block g h.lt hg).trans h
end

/-- frames: only the block 'row', and what is new, has turned -/
theorem only_refl (w : World) (row : Option Nat) : w.grownBy w row := ⟨rfl, rfl, rfl, Nat.le_refl _, fun _ _ _ => rfl⟩
theorem only_drew {a w : World} {row : Option Nat} (h : a.grownBy w row) : a.grownBy w.drew row := ⟨h.os, h.tape, h.output, h.size, h.block⟩
theorem only_drewN {a w : World} {row : Option Nat} (h : a.grownBy w row) (n : Nat) : a.grownBy (w.drewN n) row := ⟨h.os, h.tape, h.output, h.size, h.block⟩
theorem only_alloc {a w : World} {row : Option Nat} (h : a.grownBy w row) (o : Obj) : a.grownBy (w.alloc o) row :=
  ⟨h.os, h.tape, h.output, Nat.le_trans h.size (by simp), fun i hi hne => (Below.heap_alloc w o i (Nat.lt_of_lt_of_le hi h.size)).trans (h.block i hi hne)⟩
theorem only_setCell {a w : World} {g : Nat} (h : a.grownBy w (some g)) {p : Addr} (hp : p.block = g ∨ a.heap.size ≤ p.block) (u : Value) : a.grownBy (w.setCell p u) (some g) :=
  ⟨h.os, h.tape, h.output, by simpa [World.setCell] using h.size, fun i hi hne => (Below.heap_setCell w p u i (by
    rintro rfl
    rcases hp with hp | hp
    · exact hne (by rw [hp])
    · omega)).trans (h.block i hi hne)⟩
theorem only_trans {a b c : World} {row : Option Nat} (h : a.grownBy b row) (k : b.grownBy c row) : a.grownBy c row :=
  ⟨k.os.trans h.os, k.tape.trans h.tape, k.output.trans h.output, Nat.le_trans h.size k.size, fun i hi hne => (k.block i (Nat.lt_of_lt_of_le hi h.size) hne).trans (h.block i hi hne)⟩
theorem only_of_none {a w : World} (h : a.grownBy w none) (row : Option Nat) : a.grownBy w row := ⟨h.os, h.tape, h.output, h.size, fun i hi _ => h.block i hi (by simp)⟩
theorem only_fresh {a b c : World} {g : Nat} {row : Option Nat} (h : a.grownBy b row) (k : b.grownBy c (some g)) (hg : a.heap.size ≤ g) : a.grownBy c row :=
  ⟨k.os.trans h.os, k.tape.trans h.tape, k.output.trans h.output, Nat.le_trans h.size k.size, fun i hi hne => (k.block i (Nat.lt_of_lt_of_le hi h.size) (fun e => by injection e; omega)).trans (h.block i hi hne)⟩

theorem block_of_add (a : Addr) (n : Nat) : (a.add n).block = a.block := by unfold Addr.add; split <;> rfl
theorem add_of_add (a : Addr) (i j : Nat) : (a.add i).add j = a.add (i + j) := by
  unfold Addr.add
  by_cases hi : i = 0 <;> by_cases hj : j = 0 <;> simp [hi, hj, Nat.add_assoc]

/-- the slice '.slice A n c' holds the cells xs; its block (if it has elements) is one of S -/
def Rd (S : Nat → Prop) (w : World) (A : Option Addr) (xs : List Value) : Prop :=
  0 < xs.length → ∃ b off, A = some ⟨b, off, none⟩ ∧ S b ∧ b < w.heap.size ∧ ∀ j u, xs[j]? = some u → w.cell? ⟨b, off + j, none⟩ = some u
section
variable {S S' : Nat → Prop} {w w' : World} {A : Option Addr} {xs : List Value}
theorem Rd.nil : Rd S w A [] := fun h => absurd h (by simp)
theorem Rd.keep (h : Rd S w A xs) (hk : ∀ b, S b → b < w.heap.size → w'.heap[b]? = w.heap[b]?) (hs : w.heap.size ≤ w'.heap.size) : Rd S w' A xs := fun hn => by
  obtain ⟨b, off, e, hb, hlt, hc⟩ := h hn
  exact ⟨b, off, e, hb, Nat.lt_of_lt_of_le hlt hs, fun j u hu => (World.cell?_of_block (w := w) (a := ⟨b, off + j, none⟩) (hk b hb hlt)).trans (hc j u hu)⟩
theorem Rd.mono (h : Rd S w A xs) (hS : ∀ b, S b → b < w.heap.size → S' b) : Rd S' w A xs := fun hn => by
  obtain ⟨b, off, e, hb, hlt, hc⟩ := h hn
  exact ⟨b, off, e, hS b hb hlt, hlt, hc⟩
theorem Rd.grown {row : Option Nat} (h : Rd S w A xs) (hg : w.grownBy w' row) (hr : ∀ b, S b → some b ≠ row) : Rd S w' A xs :=
  h.keep (fun b hb hlt => hg.block b hlt (hr b hb)) hg.size
theorem Rd.drewN (h : Rd S w A xs) (n : Nat) : Rd S (w.drewN n) A xs := h
theorem Rd.take (h : Rd S w A xs) (n : Nat) : Rd S w A (xs.take n) := fun hn => by
  obtain ⟨b, off, e, hb, hlt, hc⟩ := h (by simp at hn; omega)
  exact ⟨b, off, e, hb, hlt, fun j u hu => hc j u (by rw [List.getElem?_take] at hu; split at hu; exact hu; cases hu)⟩
theorem Rd.alloc (h : Rd S w A xs) (o : Obj) : Rd S (w.alloc o) A xs := h.keep (fun b _ hlt => Below.heap_alloc w o b hlt) (by simp)
theorem Rd.alloc_map {α : Type} {f : α → Value} {l : List α} {n : Nat} (h : Rd S w A ((l.map f).take n)) (o : Obj) : Rd S (w.alloc o) A ((l.take n).map f) := by
  rw [List.map_take]; exact h.alloc o
theorem Rd.int_at {k : Nat} {vs : List Int} {kd : IntKind} (h : Rd S w A (vs.map (.int kd))) (hk : k < vs.length) :
    ∃ b off x, A = some ⟨b, off, none⟩ ∧ w.cell? ⟨b, off + k, none⟩ = some (.int kd x) ∧ Hid (vs.getD k 0 = x) := by
  obtain ⟨b, off, e, _, _, hc⟩ := h (by simp; omega)
  exact ⟨b, off, vs.getD k 0, e, hc k _ (by simp [hk]), rfl⟩
theorem Rd.int_at' {b off k : Nat} {vs : List Int} {kd : IntKind} (h : Rd S w (some ⟨b, off, none⟩) (vs.map (.int kd))) (hk : k < vs.length) :
    ∃ x, w.cell? ⟨b, off + k, none⟩ = some (.int kd x) ∧ Hid (vs.getD k 0 = x) := by
  obtain ⟨b', off', e, _, _, hc⟩ := h (by simp; omega)
  injection e with e
  injection e with e1 e2
  subst e1 e2
  exact ⟨vs.getD k 0, hc k _ (by simp [hk]), rfl⟩
theorem Rd.at_ {k : Nat} (h : Rd S w A xs) (hk : k < xs.length) : ∃ b off, A = some ⟨b, off, none⟩ ∧ w.cell? ⟨b, off + k, none⟩ = some (xs[k]'hk) := by
  obtain ⟨b, off, e, _, _, hc⟩ := h (by omega)
  exact ⟨b, off, e, hc k _ (List.getElem?_eq_getElem hk)⟩
end

theorem Rd.of_own {w : World} {base e n : Nat} {v : Value} {xs : List Value} {size : Nat} (h : w.ownsRow base e size v n xs) (hs : 0 < size) :
    ∃ A c, v = .slice A n c ∧ n ≤ c ∧ c ≤ maxLen ∧ xs.length = n * size ∧ Rd (base ≤ ·) w A xs := by
  obtain ⟨hl, h2⟩ := h
  rcases h2 with ⟨rfl, rfl⟩ | ⟨g, cap, cur, rfl, hg, hh, hc, hm, hcs, ht⟩
  · exact ⟨none, 0, rfl, Nat.le_refl _, Nat.zero_le _, hl, fun h => by rw [hl] at h; omega⟩
  · refine ⟨_, cap, rfl, hc, hm, hl, fun _ => ⟨g, 0, rfl, hg, (Array.getElem?_eq_some_iff.1 hh).1, fun j u hu => ?_⟩⟩
    rw [Nat.zero_add, cell_of_row w g j cur e (0, 0) hh]
    rw [← ht, List.getElem?_take] at hu
    split at hu
    · simpa using hu
    · cases hu

theorem own_only {w w' : World} {base e size n g : Nat} {v : Value} {xs : List Value} (h : w.ownsRow base e size v n xs) (hg : w.grownBy w' (some g)) (hlt : g < base) : w'.ownsRow base e size v n xs :=
  h.kept hg (by
    cases hv : v.ownBlock with
    | none => exact .inl rfl
    | some k => exact .inr (by have := (h.lt k hv).1; intro e; injection e; omega))
theorem own_ext {w w' : World} {base e size n : Nat} {v : Value} {xs : List Value} (h : w.ownsRow base e size v n xs) (hg : w.grownBy w' none) : w'.ownsRow base e size v n xs :=
  h.kept hg (by cases hv : v.ownBlock <;> simp)
theorem own_drew {w : World} {base e size n : Nat} {v : Value} {xs : List Value} (h : w.ownsRow base e size v n xs) : w.drew.ownsRow base e size v n xs := h
theorem own_drewN {w : World} {base e size n : Nat} {v : Value} {xs : List Value} (h : w.ownsRow base e size v n xs) (k : Nat) : (w.drewN k).ownsRow base e size v n xs := h

/-- the length in a slot: for a measure -/
def lenOf : Value → Nat | .slice _ n _ => n | _ => 0
theorem lenOf_own {w : World} {base e size n : Nat} {v : Value} {xs : List Value} (h : w.ownsRow base e size v n xs) : lenOf v = n := by
  rcases h.2 with ⟨rfl, rfl⟩ | ⟨g, cap, cur, rfl, _⟩ <;> rfl
theorem mem_snoc {α : Type} {P : α → Prop} {l : List α} {x : α} (h : ∀ y ∈ l, P y) (hx : P x) : ∀ y ∈ l ++ [x], P y := by
  intro y hy
  rcases List.mem_append.1 hy with hy | hy
  · exact h y hy
  · rw [List.mem_singleton.1 hy]; exact hx
theorem only_own {a w w' : World} {base e size n : Nat} {v : Value} {xs : List Value} {row : Option Nat} (h : a.grownBy w row) (hg : w.grownBy w' v.ownBlock) (ho : w.ownsRow base e size v n xs) (hb : a.heap.size ≤ base) : a.grownBy w' row := by
  cases hv : v.ownBlock with
  | none => rw [hv] at hg; exact only_trans h (only_of_none hg row)
  | some k => rw [hv] at hg; exact only_fresh h hg (Nat.le_trans hb (ho.lt k hv).1)
theorem own_snoc_int {w : World} {base e : Nat} {v : Value} {kd : IntKind} {vs : List Int} {x : Int} (h : w.ownsRow base e 1 v (vs.length + 1) (vs.map (.int kd) ++ #[Value.int kd x].toList)) :
    w.ownsRow base e 1 v (vs ++ [x]).length ((vs ++ [x]).map (.int kd)) := by simpa using h

/-- append of one element that has just been laid in a block of its own -/
theorem wpList_append1 {P : Program} {ops : Array Oper} {rest : List Oper} {o : Oper} {a : Act} {Q : Exit → Act → World → Prop} (hgd : o.guard = none) (s x : Operand) (t : TypeId)
    (ho : o.op = .call { callee := .builtin .append, args := #[s, x], argTypes := #[t, t] })
    (base : Nat) {e : TypeId} {z : Value} {size bytes : Nat} (ht : P.underlying t = some (.slice e)) (hi : (P.info? e).map (fun i => (i.zero, i.size, i.bytes)) = some (some z, size, bytes)) (hzs : z.cells.size = size) (hsz : 0 < size)
    {v : Value} {n : Nat} {xs : List Value} (hs : a.eval s = v) {w0 : World} {cs : Array Value} (hown : w0.ownsRow base e size v n xs)
    (hx : a.eval x = .slice (some ⟨w0.heap.size, 0, none⟩) 1 1) (hl : cs.size = size) (h1 : ∀ u ∈ cs.toList, u.oneCell' = true)
    (hb : bytes ≤ 1000) (hn : n ≤ 10000000) (hbase : base ≤ w0.heap.size)
    (h : ∀ v' w', w'.ownsRow base e size v' (n + 1) (xs ++ cs.toList) → w0.grownBy w' v.ownBlock → (v'.ownBlock = v.ownBlock ∨ v'.ownBlock = some (w0.heap.size + 1)) → wpList P ops Q rest (a.put o.dst v') w') : wpList P ops Q (o :: rest) a (w0.alloc (.cells cs e)) := by
  obtain ⟨i0, hi0, hz0, hz1, hz2⟩ := info_parts hi
  refine wpList_append_own_at _ hgd s x t ho base e i0 z size bytes ht hi0 hz0 hz1 hz2 hzs hsz v n xs hs (hown.alloc _) ⟨w0.heap.size, 0, none⟩ 1 1 cs.toList hx (by simp [hl]) (fun j u hu => ?_) h1 (by unfold maxLen; omega) ?_ (by simp; omega) ?_
  · have hadd : (⟨w0.heap.size, 0, none⟩ : Addr).add j = ⟨w0.heap.size, j, none⟩ := by unfold Addr.add; split <;> simp_all
    rw [hadd, (Blk.new w0 e cs).cell j]
    simpa using hu
  · have : (n + 1) * bytes ≤ 10000001 * 1000 := Nat.mul_le_mul (by omega) hb
    omega
  · intro v' w' h2 h3 _ h5
    refine h v' w' h2 (only_trans (World.grownBy_alloc w0 _ _) h3) ?_
    simpa using h5

theorem run_append1 {P : Program} (base : Nat) (t ty : TypeId) {e : TypeId} {z : Value} {size bytes : Nat} (ht : P.underlying t = some (.slice e)) (hi : (P.info? e).map (fun i => (i.zero, i.size, i.bytes)) = some (some z, size, bytes)) (hzs : z.cells.size = size) (hsz : 0 < size)
    {v : Value} {n : Nat} {xs : List Value} {w0 w : World} {cs : Array Value} (hw : w.heap = (w0.alloc (.cells cs e)).heap) (hw1 : w.os = w0.os) (hw2 : w.tape = w0.tape) (hw3 : w.output = w0.output) (hown : w0.ownsRow base e size v n xs) (hl : cs.size = size) (h1 : ∀ u ∈ cs.toList, u.oneCell' = true)
    (hb : bytes ≤ 1000) (hn : n ≤ 10000000) (hbase : base ≤ w0.heap.size) :
    ∃ v' w', (Builtin.append_ #[t, t] ty #[v, .slice (some ⟨w0.heap.size, 0, none⟩) 1 1]).run P w = .ok v' w' ∧ w'.ownsRow base e size v' (n + 1) (xs ++ cs.toList) ∧ w0.grownBy w' v.ownBlock ∧ (v'.ownBlock = v.ownBlock ∨ v'.ownBlock = some (w0.heap.size + 1)) := by
  obtain ⟨i0, hi0, hz0, hz1, hz2⟩ := info_parts hi
  have ho : w.ownsRow base e size v n xs := by
    have h0 := hown.alloc (.cells cs e)
    unfold World.ownsRow at h0 ⊢
    rw [hw]
    exact h0
  have hB : Blk w w0.heap.size e cs := by unfold Blk; rw [hw]; exact Blk.new w0 e cs
  have hsz0 : w.heap.size = w0.heap.size + 1 := by rw [hw]; simp
  obtain ⟨v', w', hr, h2, h3, _, h5⟩ := run_append_own_at (P := P) w base t ty e i0 z size bytes ht hi0 hz0 hz1 hz2 hzs hsz v n xs ho ⟨w0.heap.size, 0, none⟩ 1 1 cs.toList (by simp [hl]) (fun j u hu => by
    have hadd : (⟨w0.heap.size, 0, none⟩ : Addr).add j = ⟨w0.heap.size, j, none⟩ := by unfold Addr.add; split <;> simp_all
    rw [hadd, hB.cell j]
    simpa using hu) h1 (by unfold maxLen; omega) (by
    have : (n + 1) * bytes ≤ 10000001 * 1000 := Nat.mul_le_mul (by omega) hb
    omega) (by omega)
  refine ⟨v', w', hr, h2, ⟨h3.os.trans hw1, h3.tape.trans hw2, h3.output.trans hw3, by have := h3.size; omega, fun k hk hne => (h3.block k (by omega) hne).trans ?_⟩, by rw [← hsz0]; exact h5⟩
  rw [hw]
  exact Below.heap_alloc w0 _ k hk
/-- the same as one step of a region that draws -/
theorem step_append1 {P : Program} {ops : Array Oper} {o : Oper} {a : Act} {w : World} {K : Act → World → Prop} {Q : Exit → Act → World → Prop} {E : Prop} (hgd : o.guard = none) (s x : Operand) (t : TypeId)
    (ho : o.op = .call { callee := .builtin .append, args := #[s, x], argTypes := #[t, t] })
    (base : Nat) {e : TypeId} {z : Value} {size bytes : Nat} (ht : P.underlying t = some (.slice e)) (hi : (P.info? e).map (fun i => (i.zero, i.size, i.bytes)) = some (some z, size, bytes)) (hzs : z.cells.size = size) (hsz : 0 < size)
    {v : Value} {n : Nat} {xs : List Value} (hs : a.eval s = v) {w0 : World} {cs : Array Value} (hw : w.heap = (w0.alloc (.cells cs e)).heap) (hw1 : w.os = w0.os) (hw2 : w.tape = w0.tape) (hw3 : w.output = w0.output) (hown : w0.ownsRow base e size v n xs)
    (hx : a.eval x = .slice (some ⟨w0.heap.size, 0, none⟩) 1 1) (hl : cs.size = size) (h1 : ∀ u ∈ cs.toList, u.oneCell' = true)
    (hb : bytes ≤ 1000) (hn : n ≤ 10000000) (hbase : base ≤ w0.heap.size)
    (h : ∀ v' w', w'.ownsRow base e size v' (n + 1) (xs ++ cs.toList) → w0.grownBy w' v.ownBlock → (v'.ownBlock = v.ownBlock ∨ v'.ownBlock = some (w0.heap.size + 1)) → K (a.put o.dst v') w') :
    if Region.wanted o (yielded ops a.tmps) = true then Oper.wp P o a w K Q else E := by
  have hwt : Region.wanted o (yielded ops a.tmps) = true := by simp [Region.wanted, hgd]
  rw [if_pos hwt]
  obtain ⟨v', w', hrun, h2, h3, h4⟩ := run_append1 (P := P) base t o.type ht hi hzs hsz (v := v) (w := w) hw hw1 hw2 hw3 hown hl h1 hb hn hbase
  unfold Oper.wp execOp
  simp only [ho, resolve, invoke, builtin, Sem.run_bind, Sem.run_pure, Result.andThen_ok, List.map_toArray, List.map_cons, List.map_nil, hs, hx, hrun]
  exact h v' w' h2 h3 h4

/-- append of the elements of a slice, nil, empty or not, onto a row of the call's own -/
theorem run_appendN {P : Program} (base : Nat) (t ty : TypeId) {e : TypeId} {z : Value} {size bytes : Nat} (ht : P.underlying t = some (.slice e)) (hi : (P.info? e).map (fun i => (i.zero, i.size, i.bytes)) = some (some z, size, bytes)) (hzs : z.cells.size = size) (hsz : 0 < size)
    {v : Value} {n : Nat} {xs : List Value} {w : World} (hown : w.ownsRow base e size v n xs) {S : Nat → Prop} (A : Option Addr) (m c : Nat) {news : List Value} (hr : Rd S w A news) (hl : news.length = m * size) (h1 : ∀ u ∈ news, u.oneCell' = true)
    (hb : bytes ≤ 1000) (hn : n + m ≤ 10000000) (hbase : base ≤ w.heap.size) :
    ∃ v' w', (Builtin.append_ #[t, t] ty #[v, .slice A m c]).run P w = .ok v' w' ∧ w'.ownsRow base e size v' (n + m) (xs ++ news) ∧ w.grownBy w' v.ownBlock ∧ (v'.ownBlock = v.ownBlock ∨ v'.ownBlock = some w.heap.size) := by
  obtain ⟨i0, hi0, hz0, hz1, hz2⟩ := info_parts hi
  rcases A with _ | ad
  · have hm : news = [] := by
      rcases Nat.eq_zero_or_pos news.length with h0 | h0
      · exact List.eq_nil_of_length_eq_zero h0
      · obtain ⟨b, off, h, _⟩ := hr h0
        cases h
    subst hm
    have hm : m = 0 := by
      rcases Nat.eq_zero_or_pos m with h0 | h0
      · exact h0
      · have := Nat.mul_pos h0 hsz
        simp at hl; omega
    subst hm
    refine ⟨v, w, ?_, by simpa using hown, only_refl _ _, .inl rfl⟩
    rcases hown.2 with ⟨rfl, rfl⟩ | ⟨g, cap, cur, rfl, _, _, hnc, _⟩
    · simp [Builtin.append_, run_underlying ht, sizeOf, typeInfo, hi0, Builtin.lenOf, Builtin.firstCells]
    · simp [Builtin.append_, run_underlying ht, sizeOf, typeInfo, hi0, Builtin.lenOf, Builtin.firstCells, hnc, storeCells]
  · have hcells : ∀ j u, news[j]? = some u → w.cell? (ad.add j) = some u := by
      intro j u hu
      obtain ⟨b, off, h, _, _, hc⟩ := hr (by
        rcases Nat.eq_zero_or_pos news.length with h0 | h0
        · rw [List.eq_nil_of_length_eq_zero h0] at hu; simp at hu
        · exact h0)
      injection h with h
      subst h
      have hadd : (⟨b, off, none⟩ : Addr).add j = ⟨b, off + j, none⟩ := by unfold Addr.add; split <;> simp_all
      rw [hadd]
      exact hc j u hu
    obtain ⟨v', w', hrun, h2, h3, _, h5⟩ := run_append_own_at (P := P) w base t ty e i0 z size bytes ht hi0 hz0 hz1 hz2 hzs hsz v n xs hown ad m c news hl hcells h1 (by unfold maxLen; omega) (by
      have : (n + m) * bytes ≤ 10000000 * 1000 := Nat.mul_le_mul hn hb
      omega) hbase
    exact ⟨v', w', hrun, h2, h3, h5⟩
theorem wp_appendN {P : Program} {o : Oper} {a : Act} {w : World} {K : Act → World → Prop} {Q : Exit → Act → World → Prop} (s x : Operand) (t : TypeId)
    (ho : o.op = .call { callee := .builtin .append, args := #[s, x], argTypes := #[t, t] })
    (base : Nat) {e : TypeId} {z : Value} {size bytes : Nat} (ht : P.underlying t = some (.slice e)) (hi : (P.info? e).map (fun i => (i.zero, i.size, i.bytes)) = some (some z, size, bytes)) (hzs : z.cells.size = size) (hsz : 0 < size)
    {v : Value} {n : Nat} {xs : List Value} (hs : a.eval s = v) (hown : w.ownsRow base e size v n xs) {S : Nat → Prop} (A : Option Addr) (m c : Nat) {news : List Value} (hx : a.eval x = .slice A m c) (hr : Rd S w A news) (hl : news.length = m * size) (h1 : ∀ u ∈ news, u.oneCell' = true)
    (hb : bytes ≤ 1000) (hn : n + m ≤ 10000000) (hbase : base ≤ w.heap.size)
    (h : ∀ v' w', w'.ownsRow base e size v' (n + m) (xs ++ news) → w.grownBy w' v.ownBlock → (v'.ownBlock = v.ownBlock ∨ v'.ownBlock = some w.heap.size) → K (a.put o.dst v') w') : o.wp P a w K Q := by
  obtain ⟨v', w', hrun, h2, h3, h4⟩ := run_appendN (P := P) base t o.type ht hi hzs hsz hown A m c hr hl h1 hb hn hbase
  unfold Oper.wp execOp
  simp only [ho, resolve, invoke, builtin, Sem.run_bind, Sem.run_pure, Result.andThen_ok, List.map_toArray, List.map_cons, List.map_nil, hs, hx, hrun]
  exact h v' w' h2 h3 h4
theorem wpList_appendN {P : Program} {ops : Array Oper} {rest : List Oper} {o : Oper} {a : Act} {w : World} {Q : Exit → Act → World → Prop} (hgd : o.guard = none) (s x : Operand) (t : TypeId)
    (ho : o.op = .call { callee := .builtin .append, args := #[s, x], argTypes := #[t, t] })
    (base : Nat) {e : TypeId} {z : Value} {size bytes : Nat} (ht : P.underlying t = some (.slice e)) (hi : (P.info? e).map (fun i => (i.zero, i.size, i.bytes)) = some (some z, size, bytes)) (hzs : z.cells.size = size) (hsz : 0 < size)
    {v : Value} {n : Nat} {xs : List Value} (hs : a.eval s = v) (hown : w.ownsRow base e size v n xs) {S : Nat → Prop} (A : Option Addr) (m c : Nat) {news : List Value} (hx : a.eval x = .slice A m c) (hr : Rd S w A news) (hl : news.length = m * size) (h1 : ∀ u ∈ news, u.oneCell' = true)
    (hb : bytes ≤ 1000) (hn : n + m ≤ 10000000) (hbase : base ≤ w.heap.size)
    (h : ∀ v' w', w'.ownsRow base e size v' (n + m) (xs ++ news) → w.grownBy w' v.ownBlock → (v'.ownBlock = v.ownBlock ∨ v'.ownBlock = some w.heap.size) → wpList P ops Q rest (a.put o.dst v') w') : wpList P ops Q (o :: rest) a w :=
  wpList_plain hgd fun K hK => wp_appendN s x t ho base ht hi hzs hsz hs hown A m c hx hr hl h1 hb hn hbase fun v' w' h2 h3 h4 => hK _ _ (h v' w' h2 h3 h4)
theorem step_appendN {P : Program} {ops : Array Oper} {o : Oper} {a : Act} {w : World} {K : Act → World → Prop} {Q : Exit → Act → World → Prop} {E : Prop} (hgd : o.guard = none) (s x : Operand) (t : TypeId)
    (ho : o.op = .call { callee := .builtin .append, args := #[s, x], argTypes := #[t, t] })
    (base : Nat) {e : TypeId} {z : Value} {size bytes : Nat} (ht : P.underlying t = some (.slice e)) (hi : (P.info? e).map (fun i => (i.zero, i.size, i.bytes)) = some (some z, size, bytes)) (hzs : z.cells.size = size) (hsz : 0 < size)
    {v : Value} {n : Nat} {xs : List Value} (hs : a.eval s = v) (hown : w.ownsRow base e size v n xs) {S : Nat → Prop} (A : Option Addr) (m c : Nat) {news : List Value} (hx : a.eval x = .slice A m c) (hr : Rd S w A news) (hl : news.length = m * size) (h1 : ∀ u ∈ news, u.oneCell' = true)
    (hb : bytes ≤ 1000) (hn : n + m ≤ 10000000) (hbase : base ≤ w.heap.size)
    (h : ∀ v' w', w'.ownsRow base e size v' (n + m) (xs ++ news) → w.grownBy w' v.ownBlock → (v'.ownBlock = v.ownBlock ∨ v'.ownBlock = some w.heap.size) → K (a.put o.dst v') w') :
    if Region.wanted o (yielded ops a.tmps) = true then Oper.wp P o a w K Q else E := by
  have hwt : Region.wanted o (yielded ops a.tmps) = true := by simp [Region.wanted, hgd]
  rw [if_pos hwt]
  exact wp_appendN s x t ho base ht hi hzs hsz hs hown A m c hx hr hl h1 hb hn hbase h
/-- a cut of a slice, as the model writes it -/
theorem Rd.drop {S : Nat → Prop} {w : World} {A : Option Addr} {xs : List Value} (h : Rd S w A xs) (k : Nat) : Rd S w (A.map (·.add k)) (xs.drop k) := fun hn => by
  have hn' : k < xs.length := by simp at hn; omega
  obtain ⟨b, off, rfl, hb, hlt, hc⟩ := h (by omega)
  refine ⟨b, off + k, ?_, hb, hlt, fun j u hu => ?_⟩
  · show some (Addr.add _ _) = _; unfold Addr.add; split <;> simp_all
  · rw [List.getElem?_drop] at hu; rw [Nat.add_assoc]; exact hc _ _ hu
theorem Rd.cut {S : Nat → Prop} {w : World} {A : Option Addr} {xs : List Value} {cap n size k : Nat} (h : Rd S w A xs) (hl : xs.length = n * size) (hn : n ≤ cap) (hk : k ≤ n) : Rd S w (if cap = k then A else A.map (·.add (k * size))) (xs.drop (k * size)) := by
  split
  · have : n = k := by omega
    subst this
    rw [List.drop_of_length_le (by omega)]
    exact Rd.nil
  · exact h.drop _

/-- behind a call that may turn block g alone: cells and marks of the others are as they were -/
theorem ocell {W w' : World} {g : Nat} (hg : W.grownBy w' (some g)) : (∀ b o, b < W.heap.size → b ≠ g → w'.cell? ⟨b, o, none⟩ = W.cell? ⟨b, o, none⟩) ∧ (∀ b o, b < W.heap.size → b ≠ g → w'.frozen? ⟨b, o, none⟩ = W.frozen? ⟨b, o, none⟩) :=
  ⟨fun b o hb hne => World.cell?_of_block (w := W) (a := ⟨b, o, none⟩) (hg.block b hb (by simpa using hne)), fun b o hb hne => World.frozen?_of_block (w := W) (a := ⟨b, o, none⟩) (hg.block b hb (by simpa using hne))⟩

/-- from the row that a given statement tells of a slice of integers to Rd -/
theorem rd_of_row {k : IntKind} {w : World} {a : Option Addr} {len cap : Nat} {zs : List Int}
    (h : (a = none ∧ len = 0 ∧ cap = 0 ∧ zs = []) ∨
      ∃ x, a = some x ∧ len ≤ cap ∧ cap ≤ maxLen ∧ zs.length = cap ∧ (∀ i, i < zs.length → w.cell? (x.add i) = some (.int k (zs.getD i 0))) ∧ ∀ n ∈ zs, (Lit.int k n).wf = true) :
    Rd (fun _ => True) w a ((zs.take len).map (.int k)) ∧ (zs.take len).length = len ∧ len ≤ cap ∧ cap ≤ maxLen ∧ ∀ n ∈ zs.take len, (Lit.int k n).wf = true := by
  rcases h with ⟨rfl, rfl, rfl, rfl⟩ | ⟨x, rfl, hl, hm, hz, hc, hw⟩
  · exact ⟨Rd.nil, rfl, Nat.le_refl _, Nat.zero_le _, by simp⟩
  · refine ⟨fun hn => ?_, by simp; omega, hl, hm, fun n hn => hw n (List.mem_of_mem_take hn)⟩
    have hlen : 0 < zs.length := by simp at hn; omega
    obtain ⟨b, off, spot⟩ := x
    have h0 := hc 0 hlen
    cases spot with
    | some y =>
      exfalso
      simp only [Addr.add, World.cell?] at h0
      simp at h0
      split at h0
      · exact absurd h0 (by simp)
      · exact absurd h0 (by simp)
    | none =>
      refine ⟨b, off, rfl, trivial, World.block_lt_of_cell? w _ h0, fun j u hu => ?_⟩
      rw [List.getElem?_map, List.getElem?_take] at hu
      split at hu
      · rename_i hj
        by_cases hjz : j < zs.length
        · have h1 := hc j hjz
          have hadd : (⟨b, off, none⟩ : Addr).add j = ⟨b, off + j, none⟩ := by unfold Addr.add; split <;> simp_all
          rw [hadd] at h1
          rw [h1, ← hu, getD_lt zs 0 hjz, List.getElem?_eq_getElem hjz]
          rfl
        · rw [List.getElem?_eq_none (by omega)] at hu
          cases hu
      · cases hu
theorem below_of_only {w w' : World} (h : w.grownBy w' none) : Below w.heap.size w w' := ⟨h.os, h.tape, h.output, h.size, fun k hk => h.block k hk (by simp)⟩
theorem wf_u8 {n : Int} (h : (Lit.int .u8 n).wf = true) : 0 ≤ n ∧ n ≤ 255 := by simpa [Lit.wf, IntKind.min, IntKind.max, IntKind.signed, IntKind.bits] using h
theorem wf_i64 {n : Int} (h : (Lit.int .i64 n).wf = true) : -9223372036854775808 ≤ n ∧ n ≤ 9223372036854775807 := by simpa [Lit.wf, IntKind.min, IntKind.max, IntKind.signed, IntKind.bits] using h
end Go.Proofs.YtpaiideboodaeaaGreatDoor

namespace Go.Proofs.YtpaiideboodaeaaGreatDoor
open Go.RowKit
set_option linter.unusedVariables false
set_option linter.unusedSimpArgs false

theorem u8Info27 : (Tryz.prog.info? 5).map (fun i => (i.zero, i.size, i.bytes)) = some (some (.int .u8 0), 1, 1) := by kernel_rfl
theorem bytesin_rd {S : Nat → Prop} {w : World} {A : Option Addr} {bs : List Int} (h : Rd S w A (bs.map (.int .u8))) : Lib.BytesIn w A bs.length bs := by
  intro h0
  obtain ⟨b, o, rfl, -, -, hc⟩ := h (by simpa using h0)
  refine ⟨b, o, rfl, fun j hj => ?_⟩
  exact hc j _ (by rw [List.getElem?_map, List.getElem?_eq_getElem hj, List.getD_eq_getElem?_getD, List.getElem?_eq_getElem hj]; rfl)
def natB (l : List UInt8) : List Int := l.map (fun b => (b.toNat : Int))
theorem dig_toNat {d : Nat} (h : d < 10) : ((UInt8.ofNat (48 + d)).toNat : Int) = 48 + d := by
  have : (UInt8.ofNat (48 + d)).toNat = 48 + d := by simp [UInt8.toNat_ofNat]; omega
  rw [this]; omega
theorem nDigits_le : ∀ (k u : Nat), 1 ≤ k → u < 10 ^ k → Lib.nDigits u ≤ k
  | 0, _, h, _ => by omega
  | k + 1, u, _, h => by
    by_cases h10 : u < 10
    · rw [Lib.nDigits_small h10]; omega
    · rw [Lib.nDigits_big h10]
      by_cases hk : k = 0
      · subst hk; simp at h; omega
      · have := nDigits_le k (u / 10) (by omega) (by rw [Nat.pow_succ] at h; omega)
        omega
end Go.Proofs.YtpaiideboodaeaaGreatDoor

namespace Go.Proofs.YtpaiideboodaeaaGreatDoor
open Go.RowKit
set_option linter.unusedVariables false
set_option linter.unusedSimpArgs false

theorem byteInfo : (Tryz.prog.info? 5).map (fun i => (i.zero, i.size, i.bytes)) = some (some (.int .u8 0), 1, 1) := by kernel_rfl

/-- the row v has grown to v' -/
def Onto (w : World) (v v' : Value) (w' : World) : Prop := w.grownBy w' v.ownBlock ∧ (v'.ownBlock = v.ownBlock ∨ ∃ k, w.heap.size ≤ k ∧ v'.ownBlock = some k)
theorem Onto.refl (w : World) (v : Value) : Onto w v v w := ⟨only_refl _ _, .inl rfl⟩
theorem Onto.trans {w w1 w2 : World} {v v1 v2 : Value} (h : Onto w v v1 w1) (k : Onto w1 v1 v2 w2) : Onto w v v2 w2 := by
  obtain ⟨hg, ho⟩ := h
  obtain ⟨kg, ko⟩ := k
  have hz := hg.size
  refine ⟨?_, ?_⟩
  · rcases ho with e | ⟨j, hj, e⟩
    · rw [e] at kg; exact only_trans hg kg
    · rw [e] at kg; exact only_fresh hg kg hj
  · rcases ko with e | ⟨j, hj, e⟩
    · rw [e]; exact ho
    · exact .inr ⟨j, by omega, e⟩
theorem Onto.drewN {w w1 : World} {v v1 : Value} (h : Onto w v v1 w1) (n : Nat) : Onto w v v1 (w1.drewN n) := ⟨only_drewN h.1 n, h.2⟩
theorem Onto.drew {w w1 : World} {v v1 : Value} (h : Onto w v v1 w1) : Onto w v v1 w1.drew := ⟨only_drew h.1, h.2⟩
/-- a frame over a row of the call's own -/
theorem Onto.only {a w w' : World} {base e size n : Nat} {v v' : Value} {xs : List Value} {row : Option Nat} (k : Onto w v v' w') (h : a.grownBy w row) (ho : w.ownsRow base e size v n xs) (hb : a.heap.size ≤ base) : a.grownBy w' row := only_own h k.1 ho hb
theorem onto_ap {w0 w1 : World} {v v' : Value} (hg : w0.grownBy w1 v.ownBlock) (hob : v'.ownBlock = v.ownBlock ∨ v'.ownBlock = some (w0.heap.size + 1)) : Onto w0 v v' w1 :=
  ⟨hg, hob.elim .inl fun h => .inr ⟨_, by omega, h⟩⟩
theorem Rd.onto {S : Nat → Prop} {w w' : World} {v v' : Value} {A : Option Addr} {xs : List Value} (h : Rd S w A xs) (k : Onto w v v' w') (hne : ∀ b, S b → some b ≠ v.ownBlock) : Rd S w' A xs := h.grown k.1 hne
/-- what was apart from the old row is apart from the grown one -/
theorem Onto.ne {S : Nat → Prop} {w w' : World} {v v' : Value} (k : Onto w v v' w') (hS : ∀ b, S b → b < w.heap.size) (hne : ∀ b, S b → some b ≠ v.ownBlock) : ∀ b, S b → some b ≠ v'.ownBlock := fun b hb e => by
  rcases k.2 with h | ⟨j, hj, h⟩
  · rw [h] at e; exact hne b hb e
  · rw [h] at e; injection e with e; have := hS b hb; omega
/-- bytes in a row that this call or its caller made -/
def Byts (base : Nat) (w : World) (v : Value) (xs : List Int) : Prop := w.ownsRow base 5 1 v xs.length (xs.map (.int .u8))
theorem Byts.snoc {base : Nat} {w : World} {v : Value} {xs : List Int} {x : Int} (h : w.ownsRow base 5 1 v (xs.length + 1) (xs.map (.int .u8) ++ #[Value.int .u8 x].toList)) : Byts base w v (xs ++ [x]) := own_snoc_int h
def bts (s : ByteArray) : List Int := s.data.toList.map (fun b => (b.toNat : Int))
theorem bts_len (s : ByteArray) : (bts s).length = s.size := by simp [bts]
theorem bts_cells (s : ByteArray) : (bts s).map (.int .u8) = Lib.strCells s := by simp [bts, Lib.strCells]
theorem Byts.str {base : Nat} {w : World} {v : Value} {xs : List Int} {s : ByteArray} (h : w.ownsRow base 5 1 v (xs.length + s.size) (xs.map (.int .u8) ++ Lib.strCells s)) : Byts base w v (xs ++ bts s) := by
  unfold Byts; rw [List.map_append, bts_cells, List.length_append, bts_len]; exact h
theorem Byts.drewN {base : Nat} {w : World} {v : Value} {xs : List Int} (h : Byts base w v xs) (n : Nat) : Byts base (w.drewN n) v xs := h
theorem Byts.rd {base : Nat} {w : World} {v : Value} {xs : List Int} (h : Byts base w v xs) : ∃ A c, v = .slice A xs.length c ∧ xs.length ≤ c ∧ c ≤ maxLen ∧ Rd (base ≤ ·) w A (xs.map (.int .u8)) := by
  obtain ⟨A, c, h1, h2, h3, _, h4⟩ := Rd.of_own h (by decide)
  exact ⟨A, c, h1, h2, h3, h4⟩
theorem Byts.nil (base : Nat) (w : World) : Byts base w (.slice none 0 0) [] := World.ownsRow_nil _ _ _ _
theorem Byts.only {a w w' : World} {base : Nat} {v v' : Value} {xs : List Int} {row : Option Nat} (h : Byts base w v xs) (k : Onto w v v' w') (hg : a.grownBy w row) (hb : a.heap.size ≤ base) : a.grownBy w' row := only_own hg k.1 h hb
def VPost (base : Nat) (w : World) (v : Value) (xs : List Int) (e : Ending) (w' : World) : Prop := ∃ v', e = .returned v' ∧ Byts base w' v' xs ∧ Onto w v v' w'

/-- a number in base 128 -/
def vint (n : Nat) : List Int := if n < 128 then [(n : Int)] else ((n % 128 + 128 : Nat) : Int) :: vint (n / 128)
theorem vint_lt {n : Nat} (h : n < 128) : vint n = [(n : Int)] := by rw [vint, if_pos h]
theorem vint_ge {n : Nat} (h : ¬ n < 128) : vint n = ((n % 128 + 128 : Nat) : Int) :: vint (n / 128) := by rw [vint, if_neg h]
theorem vint_len (n : Nat) : (vint n).length ≤ n + 1 := by
  fun_induction vint n with
  | case1 n h => simp
  | case2 n h ih => simp; omega
theorem wpList_appendS {P : Program} {ops : Array Oper} {rest : List Oper} {o : Oper} {a : Act} {w : World} {Q : Exit → Act → World → Prop} (hgd : o.guard = none) (sl x : Operand) (t u : TypeId)
    (ho : o.op = .call { callee := .builtin .append, args := #[sl, x], argTypes := #[t, u] })
    (base : Nat) (ht : P.underlying t = some (.slice 5)) (hu : P.underlying u = some .string) (hi : (P.info? 5).map (fun i => (i.zero, i.size, i.bytes)) = some (some (.int .u8 0), 1, 1))
    {v : Value} {xs : List Int} (hs : a.eval sl = v) (hown : Byts base w v xs) (s : ByteArray) (hx : a.eval x = .string s)
    (hn : xs.length + s.size ≤ 100000000000) (hbase : base ≤ w.heap.size)
    (h : ∀ v' w', Byts base w' v' (xs ++ bts s) → w.grownBy w' v.ownBlock → wpList P ops Q rest (a.put o.dst v') w') : wpList P ops Q (o :: rest) a w := by
  obtain ⟨i0, hi0, hz0, hz1, hz2⟩ := info_parts hi
  exact Lib.wpList_append_own_string w hgd sl x t u ho base _ i0 ht hu hi0 hz0 hz1 hz2 v _ _ hs hown s hx (by unfold maxLen; omega) (by omega) hbase fun v' w' h1 h2 _ => h v' w' (Byts.str h1) h2
theorem bts_at (s : ByteArray) {k : Nat} (h : k < s.size) : (bts s)[k]? = some ((s[k]'h).toNat : Int) := by
  unfold bts
  rw [List.getElem?_map, Array.getElem?_toList, Array.getElem?_eq_getElem (by simpa using h)]
  rfl
theorem bts_length (s : ByteArray) : (bts s).length = s.size := by unfold bts; simp
end Go.Proofs.YtpaiideboodaeaaGreatDoor

namespace Go.Proofs.YtpaiideboodaeaaGreatDoor
open Go.RowKit
set_option linter.unusedVariables false
set_option linter.unusedSimpArgs false

/-- a letter in lower case -/
def lowI (c : Int) : Option Int := if 65 ≤ c ∧ c ≤ 90 then some (c + 32) else if (97 ≤ c ∧ c ≤ 122) ∨ (48 ≤ c ∧ c ≤ 57) ∨ c = 95 then some c else none
def flushW (cur : List Int) (out : List ByteArray) : List ByteArray := if 0 < cur.length ∧ cur.length ≤ 40 then out ++ [strOfNums cur] else out
def stepW (st : List Int × List ByteArray) (c : Int) : List Int × List ByteArray := match lowI c with
  | some d => (st.1 ++ [d], st.2)
  | none => ([], flushW st.1 st.2)
def wst (cs : List Int) : List Int × List ByteArray := cs.foldl stepW ([], [])
/-- all words, one after the other -/
def rawW (cs : List Int) : List ByteArray := flushW (wst cs).1 (wst cs).2
theorem wst_snoc (cs : List Int) (c : Int) : wst (cs ++ [c]) = stepW (wst cs) c := by unfold wst; rw [List.foldl_append]; rfl
theorem wst_len : ∀ (n : Nat) (cs : List Int), cs.length ≤ n → (wst cs).1.length ≤ cs.length ∧ (wst cs).2.length ≤ cs.length := by
  intro n
  induction n with
  | zero => intro cs h; have : cs = [] := List.eq_nil_of_length_eq_zero (by omega); subst this; simp [wst]
  | succ n ih =>
    intro cs h
    rcases List.eq_nil_or_concat cs with rfl | ⟨l, c, rfl⟩
    · simp [wst]
    · have e : l.concat c = l ++ [c] := List.concat_eq_append
      rw [e] at h ⊢
      rw [wst_snoc]
      have hl : l.length ≤ n := by simp at h; omega
      obtain ⟨h1, h2⟩ := ih l hl
      unfold stepW
      cases lowI c with
      | some d =>
        show ((wst l).1 ++ [d]).length ≤ _ ∧ (wst l).2.length ≤ _
        simp only [List.length_append, List.length_singleton]
        omega
      | none =>
        show ([] : List Int).length ≤ _ ∧ (flushW (wst l).1 (wst l).2).length ≤ _
        unfold flushW
        simp only [List.length_append, List.length_singleton, List.length_nil]
        split
        · rw [List.length_append, List.length_singleton]; omega
        · omega
theorem rawW_len (cs : List Int) : (rawW cs).length ≤ cs.length + 1 := by
  have h := wst_len cs.length cs (Nat.le_refl _)
  unfold rawW flushW
  split
  · rw [List.length_append, List.length_singleton]; omega
  · omega
theorem lowI_in {c d : Int} (h : lowI c = some d) : 0 ≤ d ∧ d ≤ 255 ∧ d ≠ 0 := by
  unfold lowI at h
  split at h
  · injection h; omega
  · split at h
    · injection h; omega
    · cases h
theorem wst_bytes : ∀ (cs : List Int), ∀ x ∈ (wst cs).1, 0 ≤ x ∧ x ≤ 255 := by
  intro cs
  have key : ∀ (n : Nat) (cs : List Int), cs.length ≤ n → ∀ x ∈ (wst cs).1, 0 ≤ x ∧ x ≤ 255 := by
    intro n
    induction n with
    | zero => intro cs h; have : cs = [] := List.eq_nil_of_length_eq_zero (by omega); subst this; simp [wst]
    | succ n ih =>
      intro cs h
      rcases List.eq_nil_or_concat cs with rfl | ⟨l, c, rfl⟩
      · simp [wst]
      · rw [show l.concat c = l ++ [c] from List.concat_eq_append, wst_snoc]
        have hl : l.length ≤ n := by simp at h; omega
        unfold stepW
        cases hc : lowI c with
        | some d =>
          intro x hx
          rcases List.mem_append.1 hx with hx | hx
          · exact ih l hl x hx
          · rw [List.mem_singleton.1 hx]; have := lowI_in hc; omega
        | none => intro x hx; cases hx
  exact key cs.length cs (Nat.le_refl _)
end Go.Proofs.YtpaiideboodaeaaGreatDoor
namespace Go.Proofs.YtpaiideboodaeaaGreatDoor
open Go.RowKit
set_option linter.unusedVariables false
set_option linter.unusedSimpArgs false

def LowP (c : Int) (w : World) (e : Ending) (w' : World) : Prop := e = .returned (.tuple #[.int .u8 ((lowI c).getD 0), .bool (lowI c).isSome]) ∧ w' = w
def LetP (c : Int) (w : World) (e : Ending) (w' : World) : Prop := e = .returned (.int .u8 ((lowI c).getD 0)) ∧ w' = w
theorem lowI_up {c : Int} (h1 : 65 ≤ c) (h2 : c ≤ 90) : lowI c = some (c + 32) := by unfold lowI; rw [if_pos ⟨h1, h2⟩]
theorem lowI_lo {c : Int} (h : (97 ≤ c ∧ c ≤ 122) ∨ (48 ≤ c ∧ c ≤ 57) ∨ c = 95) : lowI c = some c := by unfold lowI; rw [if_neg (by omega), if_pos h]
theorem lowI_no {c : Int} (h1 : ¬ (65 ≤ c ∧ c ≤ 90)) (h : ¬ ((97 ≤ c ∧ c ≤ 122) ∨ (48 ≤ c ∧ c ≤ 57) ∨ c = 95)) : lowI c = none := by unfold lowI; rw [if_neg h1, if_neg h]
theorem nine (c : Int) : c ≤ 47 ∨ (48 ≤ c ∧ c ≤ 57) ∨ (58 ≤ c ∧ c ≤ 64) ∨ (65 ≤ c ∧ c ≤ 90) ∨ (91 ≤ c ∧ c ≤ 94) ∨ c = 95 ∨ c = 96 ∨ (97 ≤ c ∧ c ≤ 122) ∨ 123 ≤ c := by omega
set_option maxHeartbeats 2000000 in
set_option maxRecDepth 100000 in
theorem letter_any (c : Int) (w : World) (h0 : 0 ≤ c) (h255 : c ≤ 255) : Calls Tryz.prog 69 #[.int .u8 c] w (LetP c w) := by
  rcases nine c with h | ⟨h, h'⟩ | ⟨h, h'⟩ | ⟨h, h'⟩ | ⟨h, h'⟩ | h | h | ⟨h, h'⟩ | h
  · have HV := Lib.hid (lowI_no (c := c) (by omega) (by omega))
    have a1 : ¬ (65 ≤ c) := by omega
    have a2 : ¬ (97 ≤ c) := by omega
    have a3 : ¬ (48 ≤ c) := by omega
    have a4 : (c == 95) = false := by simp; omega
    go_enter Tryz.func69, Tryz.ntmps69
    go_wp2
    go_ret
    exact ⟨by rw [HV.out]; rfl, rfl⟩
  · have HV := Lib.hid (lowI_lo (c := c) (by omega))
    have a2 : ¬ (97 ≤ c) := by omega
    go_enter Tryz.func69, Tryz.ntmps69
    go_wp2
    go_ret
    exact ⟨by rw [HV.out]; rfl, rfl⟩
  · have HV := Lib.hid (lowI_no (c := c) (by omega) (by omega))
    have a1 : ¬ (65 ≤ c) := by omega
    have a2 : ¬ (97 ≤ c) := by omega
    have a3 : (48 ≤ c) := by omega
    have a5 : ¬ (c ≤ 57) := by omega
    have a4 : (c == 95) = false := by simp; omega
    go_enter Tryz.func69, Tryz.ntmps69
    go_wp2
    go_ret
    exact ⟨by rw [HV.out]; rfl, rfl⟩
  · have HV := Lib.hid (lowI_up (c := c) h h')
    have hw2 : IntKind.u8.wrap (c + 32) = c + 32 := IntWalk.u8_in _ (by omega)
    have a2 : ¬ (97 ≤ c) := by omega
    have a3 : (48 ≤ c) := by omega
    have a5 : ¬ (c ≤ 57) := by omega
    have a4 : (c == 95) = false := by simp; omega
    go_enter Tryz.func69, Tryz.ntmps69
    go_wp2
    go_ret
    exact ⟨by rw [HV.out]; rfl, rfl⟩
  · have HV := Lib.hid (lowI_no (c := c) (by omega) (by omega))
    have a1 : (65 ≤ c) := by omega
    have a6 : ¬ (c ≤ 90) := by omega
    have a2 : ¬ (97 ≤ c) := by omega
    have a3 : (48 ≤ c) := by omega
    have a5 : ¬ (c ≤ 57) := by omega
    have a4 : (c == 95) = false := by simp; omega
    go_enter Tryz.func69, Tryz.ntmps69
    go_wp2
    go_ret
    exact ⟨by rw [HV.out]; rfl, rfl⟩
  · subst h
    go_enter Tryz.func69, Tryz.ntmps69
    go_wp2
    go_ret
    exact ⟨rfl, rfl⟩
  · subst h
    go_enter Tryz.func69, Tryz.ntmps69
    go_wp2
    go_ret
    exact ⟨rfl, rfl⟩
  · have HV := Lib.hid (lowI_lo (c := c) (by omega))
    go_enter Tryz.func69, Tryz.ntmps69
    go_wp2
    go_ret
    exact ⟨by rw [HV.out]; rfl, rfl⟩
  · have HV := Lib.hid (lowI_no (c := c) (by omega) (by omega))
    have a1 : (65 ≤ c) := by omega
    have a6 : ¬ (c ≤ 90) := by omega
    have a2 : (97 ≤ c) := by omega
    have a7 : ¬ (c ≤ 122) := by omega
    have a3 : (48 ≤ c) := by omega
    have a5 : ¬ (c ≤ 57) := by omega
    have a4 : (c == 95) = false := by simp; omega
    go_enter Tryz.func69, Tryz.ntmps69
    go_wp2
    go_ret
    exact ⟨by rw [HV.out]; rfl, rfl⟩
end Go.Proofs.YtpaiideboodaeaaGreatDoor
