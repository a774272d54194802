/- The two statements of Item that draw their order, by an invariant. No condition. -/
import Derived.Test.YtpaiideboodaeaaGreatDoorJInsert
import Derived.Test.YtpaiideboodaeaaGreatDoorJFlat
namespace Go.Proofs.YtpaiideboodaeaaGreatDoor
open Go.RowKit
set_option linter.unusedVariables false
set_option linter.unusedSimpArgs false

/-- from block r on nothing has turned -/
def Rab (r : Nat) (w w' : World) : Prop := w.heap.size ≤ w'.heap.size ∧ ∀ b, r ≤ b → b < w.heap.size → w'.heap[b]? = w.heap[b]?
theorem Rab.refl (r : Nat) (w : World) : Rab r w w := ⟨Nat.le_refl _, fun _ _ _ => rfl⟩
theorem Rab.alloc (r : Nat) (w : World) (o : Obj) : Rab r w (w.alloc o) := ⟨by simp, fun b _ hb => Below.heap_alloc w o b hb⟩
theorem Rab.of {r g : Nat} {w w' : World} (h : w.grownBy w' (some g)) (hg : g < r) : Rab r w w' := ⟨h.size, fun b hb hlt => h.block b hlt (by intro e; injection e; omega)⟩
theorem Rab.set_ {r : Nat} (w : World) (p : Addr) (v : Value) (hp : p.block < r) : Rab r w (w.setCell p v) := ⟨by simp [World.setCell], fun b hb _ => Below.heap_setCell w p v b (by omega)⟩
theorem Rab.blk {r g t : Nat} {w w' : World} {cs : Array Value} (h : Rab r w w') (hB : Blk w g t cs) (hg : r ≤ g) : Blk w' g t cs := (h.2 g hg hB.lt).trans hB

/-- a slice literal of the call's own -/
def IsRow0 (r t : Nat) (cs : Array Value) (v : Value) (w : World) : Prop := ∃ b, v = .slice (some ⟨b, 0, none⟩) cs.size cs.size ∧ r ≤ b ∧ Blk w b t cs
def IsAt0 (r t : Nat) (cs : Array Value) (v : Value) (w : World) : Prop := ∃ b j, v = .pointer (some ⟨b, j, none⟩) ∧ j < cs.size ∧ r ≤ b ∧ Blk w b t cs
def IsIdx (n : Nat) (v : Value) (_ : World) : Prop := ∃ j : Nat, j < n ∧ v = .int .i64 j
def IsStr0 (n m : Nat) (v : Value) (_ : World) : Prop := ∃ s : ByteArray, v = .string s ∧ n ≤ s.size ∧ s.size ≤ m
theorem St.row {r t : Nat} {cs : Array Value} : St (Rab r) (IsRow0 r t cs) := fun v w w' h ⟨b, h1, h2, h3⟩ => ⟨b, h1, h2, h.blk h3 h2⟩
theorem St.at_ {r t : Nat} {cs : Array Value} : St (Rab r) (IsAt0 r t cs) := fun v w w' h ⟨b, j, h1, h2, h3, h4⟩ => ⟨b, j, h1, h2, h3, h.blk h4 h3⟩
theorem St.idx {R : World → World → Prop} {n : Nat} : St R (IsIdx n) := fun v w w' _ h => h
theorem St.str {R : World → World → Prop} {n m : Nat} : St R (IsStr0 n m) := fun v w w' _ h => h

section
variable {Q : Exit → Act → World → Prop} {ops : Array Oper} {hd : List Oper} {a : Act} {G : World → Prop} {φs : List (Value → World → Prop)} {i : Nat} {o : Oper} {r : Nat}
theorem st_rowlit (hg : o.guard = none) (hap : dstApart hd = true) {t e : TypeId} {cs : Array Value} {parts : Array (Nat × Operand)} (ho : o.op = .buildSlice t cs.size parts)
    (hr : ∀ (ρ : Operand → Value) (w : World), (∀ v, ρ (.const v) = v) → (Instr.buildSlice t cs.size (parts.map fun (i, x) => (i, ρ x))).run Tryz.prog w = .ok (.slice (some ⟨w.heap.size, 0, none⟩) cs.size cs.size) (w.alloc (.cells cs e)))
    (hG : ∀ w o, G w → G (w.alloc o)) (hgr : ∀ w, G w → r ≤ w.heap.size) (hp : phi φs i = IsRow0 r e cs) : StepOk Tryz.prog Q ops hd a (Rab r) G φs i o :=
  .run hg hap fun u ρ w k => ⟨.slice (some ⟨w.heap.size, 0, none⟩) cs.size cs.size, w.alloc (.cells cs e), by simp only [execOp, ho, Sem.run_bind, hr ρ w k.rho.con, Result.andThen_ok, Sem.run_pure], hG _ _ k.good, Rab.alloc _ _ _, by rw [hp]; exact ⟨w.heap.size, rfl, hgr w k.good, Blk.new w e cs⟩⟩
theorem st_ix (hg : o.guard = none) (hap : dstApart hd = true) {t e : TypeId} {cs : Array Value} {x y : Nat} (ho : o.op = .indexAddr t (.tmp x) (.tmp y)) (ht : Tryz.prog.underlying t = some (.slice e)) (hz : (Tryz.prog.info? e).map (·.size) = some 1)
    (jx jy : Nat) (hx : isDst hd jx x = true) (hy : isDst hd jy y = true) (hxs : x < a.tmps.size) (hys : y < a.tmps.size)
    (wx : Region.waitsFor .any ops i jx = true) (wy : Region.waitsFor .any ops i jy = true) (px : phi φs jx = IsRow0 r e cs) (py : phi φs jy = IsIdx cs.size) (hp : phi φs i = IsAt0 r e cs) : StepOk Tryz.prog Q ops hd a (Rab r) G φs i o :=
  .run hg hap fun u ρ w k => by
    have h1 := k.dep jx wx
    have h2 := k.dep jy wy
    rw [px] at h1
    rw [py] at h2
    obtain ⟨b, e1, hb, hB⟩ := h1
    obtain ⟨j, hj, e2⟩ := h2
    have r1 := (k.rho.at_ jx x hx hxs).trans e1
    have r2 := (k.rho.at_ jy y hy hys).trans e2
    refine ⟨.pointer (some ⟨b, j, none⟩), w, ?_, k.good, Rab.refl _ _, by rw [hp]; exact ⟨b, j, rfl, hj, hb, hB⟩⟩
    have hji : ((j : Int) < (cs.size : Int)) := by omega
    have hj0 : (0 : Int) ≤ (j : Int) := by omega
    obtain ⟨ie, hie, hs1⟩ : ∃ ie, Tryz.prog.info? e = some ie ∧ ie.size = 1 := by
      cases hi : Tryz.prog.info? e with
      | none => rw [hi] at hz; cases hz
      | some ie => rw [hi] at hz; exact ⟨ie, rfl, by simpa using hz⟩
    have hadd : (⟨b, 0, none⟩ : Addr).add j = ⟨b, j, none⟩ := by unfold Addr.add; split <;> simp_all
    simp only [execOp, ho, r1, r2]
    simp [Instr.indexAt, run_underlying ht, asIntOf, hji, sizeOf, typeInfo, hie, hs1, hadd]
    intro h; omega
theorem st_ld (hg : o.guard = none) (hap : dstApart hd = true) {t e : TypeId} {cs : Array Value} {x n m : Nat} (ho : o.op = .load t (.tmp x)) (ht : Tryz.prog.underlying t = some .string) (jx : Nat) (hx : isDst hd jx x = true) (hxs : x < a.tmps.size)
    (wx : Region.waitsFor .any ops i jx = true) (px : phi φs jx = IsAt0 r e cs) (hcs : ∀ j, j < cs.size → ∃ s, cs[j]? = some (.string s) ∧ n ≤ s.size ∧ s.size ≤ m) (hp : phi φs i = IsStr0 n m)
    (hrun : ∀ (w : World) (p : Addr) (s : ByteArray), w.cell? p = some (.string s) → (Instr.loadAt t (.pointer (some p))).run Tryz.prog w = .ok (.string s) w) : StepOk Tryz.prog Q ops hd a (Rab r) G φs i o :=
  .run hg hap fun u ρ w k => by
    have h1 := k.dep jx wx
    rw [px] at h1
    obtain ⟨b, j, e1, hj, hb, hB⟩ := h1
    have r1 := (k.rho.at_ jx x hx hxs).trans e1
    obtain ⟨s, hs, h2⟩ := hcs j hj
    refine ⟨.string s, w, ?_, k.good, Rab.refl _ _, by rw [hp]; exact ⟨s, rfl, h2⟩⟩
    have hc := (hB.cell j).trans hs
    simp only [execOp, ho, r1, Sem.run_bind, hrun w _ s hc, Result.andThen_ok, Sem.run_pure]
theorem load_str (w : World) (p : Addr) (s : ByteArray) (h : w.cell? p = some (.string s)) : (Instr.loadAt 9 (.pointer (some p))).run Tryz.prog w = .ok (.string s) w := by
  have := Tryz.underlying9
  simp [go_sem, h]
theorem st_copy (hg : o.guard = none) (hap : dstApart hd = true) {x : Nat} {c : Value} (ho : o.op = .move (.tmp x)) (hx : hd.all (fun o => o.dst != some x) = true) (hc : a.eval (.tmp x) = c) (hp : phi φs i = fun v _ => v = c) : StepOk Tryz.prog Q ops hd a (Rab r) G φs i o :=
  .move hg hap (.tmp x) ho (Rab.refl r) fun u ρ w k => by rw [hp]; exact (k.rho.other x hx).trans hc
theorem st_next (hg : o.guard = none) (hap : dstApart hd = true) {g : Nat} {l : List Int} {x n : Nat} {ts : Array TypeId} (ho : o.op = .call { callee := .value (.func 45), args := #[.tmp x, .const (.int .i64 n)], argTypes := ts }) (jx : Nat) (hx : isDst hd jx x = true) (hxs : x < a.tmps.size)
    (wx : Region.waitsFor .any ops i jx = true) (px : phi φs jx = fun v _ => v = .pointer (some ⟨g, 0, none⟩)) (h1 : 1 ≤ n) (h2 : n ≤ 1000000) (hG : ∀ w, G w → ∃ k, CodesAt w g l k) (hG2 : ∀ w w' k, G w → CodesAt w' g l k → w.grownBy w' (some g) → G w') (hgr : g < r) (hp : phi φs i = IsIdx n) : StepOk Tryz.prog Q ops hd a (Rab r) G φs i o :=
  .call hg hap 45 fun u ρ w k => by
    have e1 := k.dep jx wx
    rw [px] at e1
    have r1 := (k.rho.at_ jx x hx hxs).trans e1
    obtain ⟨kk, hC⟩ := hG w k.good
    refine ⟨#[.pointer (some ⟨g, 0, none⟩), .int .i64 n], ?_, (next_some g l kk n w hC (by omega) (by omega)).mono ?_⟩
    · simp only [execOp, ho, resolve, Deferred.ofValue, List.map_toArray, List.map_cons, List.map_nil, r1, k.rho.con, k.rho.fn]
      simp [go_sem]
    · rintro e w' ⟨v, k2, rfl, hv, hC2, hgg⟩
      obtain ⟨j, rfl⟩ := Int.eq_ofNat_of_zero_le hv.1
      exact ⟨_, rfl, hG2 w w' k2 k.good hC2 hgg, Rab.of hgg hgr, by rw [hp]; exact ⟨j, by omega, rfl⟩⟩
theorem st_fa (hg : o.guard = none) (hap : dstApart hd = true) {x f : Nat} {t : TypeId} {p q : Addr} (ho : o.op = .fieldAddr t (.tmp x) f) (hx : hd.all (fun o => o.dst != some x) = true) (hc : a.eval (.tmp x) = .pointer (some p)) (hr : ∀ w : World, (Instr.fieldAt t (.pointer (some p)) f).run Tryz.prog w = .ok (.pointer (some q)) w) (hp : phi φs i = fun v _ => v = .pointer (some q)) : StepOk Tryz.prog Q ops hd a (Rab r) G φs i o :=
  .run hg hap fun u ρ w k => ⟨.pointer (some q), w, by simp only [execOp, ho, (k.rho.other x hx).trans hc, Sem.run_bind, hr, Result.andThen_ok, Sem.run_pure], k.good, Rab.refl _ _, by rw [hp]⟩
theorem st_store (hg : o.guard = none) (hap : dstApart hd = true) {x y n m : Nat} {t : TypeId} {q : Addr} (ho : o.op = .store t (.tmp x) (.tmp y)) (jx jy : Nat) (hx : isDst hd jx x = true) (hy : isDst hd jy y = true) (hxs : x < a.tmps.size) (hys : y < a.tmps.size)
    (wx : Region.waitsFor .any ops i jx = true) (wy : Region.waitsFor .any ops i jy = true) (px : phi φs jx = fun v _ => v = .pointer (some q)) (py : phi φs jy = IsStr0 n m) (hq : q.block < r)
    (hr : ∀ (w : World) (s : ByteArray), G w → (Instr.storeAt t (.pointer (some q)) (.string s)).run Tryz.prog w = .ok () (w.setCell q (.string s))) (hG : ∀ w s, G w → n ≤ ByteArray.size s → ByteArray.size s ≤ m → G (w.setCell q (.string s))) (hp : phi φs i = fun _ _ => True) : StepOk Tryz.prog Q ops hd a (Rab r) G φs i o :=
  .skip hg hap fun u ρ w k => by
    have e1 := k.dep jx wx
    have e2 := k.dep jy wy
    rw [px] at e1
    rw [py] at e2
    obtain ⟨s, e2, h1, h2⟩ := e2
    exact ⟨w.setCell q (.string s), by simp only [execOp, ho, (k.rho.at_ jx x hx hxs).trans e1, (k.rho.at_ jy y hy hys).trans e2, Sem.run_bind, hr w s k.good, Result.andThen_ok, Sem.run_pure], hG w s k.good h1 h2, Rab.set_ w q _ hq, by rw [hp]; trivial⟩
theorem lit_str4 (a b c d : ByteArray) (ρ : Operand → Value) (w : World) (h : ∀ v, ρ (.const v) = v) : (Instr.buildSlice 39 4 ((#[(0, .const (.string a)), (1, .const (.string b)), (2, .const (.string c)), (3, .const (.string d))] : Array (Nat × Operand)).map fun (i, x) => (i, ρ x))).run Tryz.prog w = .ok (.slice (some ⟨w.heap.size, 0, none⟩) 4 4) (w.alloc (.cells #[.string a, .string b, .string c, .string d] 9)) := by
  simp only [List.map_toArray, List.map_cons, List.map_nil, h]
  kernel_rfl
theorem lit_str3 (a b c : ByteArray) (ρ : Operand → Value) (w : World) (h : ∀ v, ρ (.const v) = v) : (Instr.buildSlice 39 3 ((#[(0, .const (.string a)), (1, .const (.string b)), (2, .const (.string c))] : Array (Nat × Operand)).map fun (i, x) => (i, ρ x))).run Tryz.prog w = .ok (.slice (some ⟨w.heap.size, 0, none⟩) 3 3) (w.alloc (.cells #[.string a, .string b, .string c] 9)) := by
  simp only [List.map_toArray, List.map_cons, List.map_nil, h]
  kernel_rfl
theorem lit_str2 (a b : ByteArray) (ρ : Operand → Value) (w : World) (h : ∀ v, ρ (.const v) = v) : (Instr.buildSlice 39 2 ((#[(0, .const (.string a)), (1, .const (.string b))] : Array (Nat × Operand)).map fun (i, x) => (i, ρ x))).run Tryz.prog w = .ok (.slice (some ⟨w.heap.size, 0, none⟩) 2 2) (w.alloc (.cells #[.string a, .string b] 9)) := by
  simp only [List.map_toArray, List.map_cons, List.map_nil, h]
  kernel_rfl
theorem st_load (hg : o.guard = none) (hap : dstApart hd = true) {x : Nat} {t : TypeId} {p : Addr} {c : Value} (ho : o.op = .load t (.tmp x)) (hx : hd.all (fun o => o.dst != some x) = true) (hc : a.eval (.tmp x) = .pointer (some p)) (hr : ∀ w, G w → (Instr.loadAt t (.pointer (some p))).run Tryz.prog w = .ok c w) (hp : phi φs i = fun v _ => v = c) : StepOk Tryz.prog Q ops hd a (Rab r) G φs i o :=
  .run hg hap fun u ρ w k => ⟨c, w, by simp only [execOp, ho, (k.rho.other x hx).trans hc, Sem.run_bind, hr w k.good, Result.andThen_ok, Sem.run_pure], k.good, Rab.refl _ _, by rw [hp]⟩
theorem store_str (w : World) (g i : Nat) (s : ByteArray) {t : TypeId} {cs : Array Value} (h : Blk w g t cs) (hi : i < cs.size) : (Instr.storeAt 9 (.pointer (some ⟨g, i, none⟩)) (.string s)).run Tryz.prog w = .ok () (w.setCell ⟨g, i, none⟩ (.string s)) := by
  have c0 := h.cell i
  have f0 := h.frozen i
  rw [Array.getElem?_eq_getElem hi] at c0
  have hu := Tryz.underlying9
  simp [go_sem, c0, f0]
theorem strSize : (Tryz.prog.info? 9).map (·.size) = some 1 := by kernel_rfl
end
end Go.Proofs.YtpaiideboodaeaaGreatDoor

namespace Go.Proofs.YtpaiideboodaeaaGreatDoor
open Go.RowKit
set_option linter.unusedVariables false
set_option linter.unusedSimpArgs false

theorem load_ev (w : World) (g : Nat) (v0 v1 v2 v3 v5 v6 : Int) (s7 s8 : ByteArray) (A4 A9 : Option Addr) (n4 c4 n9 c9 : Nat) (h : Blk w g 44 #[.int .i64 v0, .int .i64 v1, .int .i64 v2, .int .i64 v3, .slice A4 n4 c4, .int .i64 v5, .int .i64 v6, .string s7, .string s8, .slice A9 n9 c9]) :
    (Instr.loadAt 44 (.pointer (some ⟨g, 0, none⟩))).run Tryz.prog w = .ok (.agg #[.int .i64 v0, .int .i64 v1, .int .i64 v2, .int .i64 v3, .slice A4 n4 c4, .int .i64 v5, .int .i64 v6, .string s7, .string s8, .slice A9 n9 c9]) w := by
  have c0 := h.cell 0
  have c1 := h.cell 1
  have c2 := h.cell 2
  have c3 := h.cell 3
  have c4 := h.cell 4
  have c5 := h.cell 5
  have c6 := h.cell 6
  have c7 := h.cell 7
  have c8 := h.cell 8
  have c9 := h.cell 9
  simp at c0 c1 c2 c3 c4 c5 c6 c7 c8 c9
  have hu := Tryz.underlying44
  simp [go_sem, c0, c1, c2, c3, c4, c5, c6, c7, c8, c9]
theorem fa_ev7 (w : World) (g : Nat) : (Instr.fieldAt 44 (.pointer (some ⟨g, 0, none⟩)) 7).run Tryz.prog w = .ok (.pointer (some ⟨g, 7, none⟩)) w := by
  simp [go_sem]
end Go.Proofs.YtpaiideboodaeaaGreatDoor
