/- Steps of a drawn region under an invariant, each for one known value; a tally stored. No condition. -/
import Derived.Test.YtiogpomgpknjlaaJTal
import Derived.Test.YtiogpomgpknjlaaJCloneT
namespace Go.Proofs.Ytiogpomgpknjlaa
open Go.RowKit
set_option linter.unusedVariables false
set_option linter.unusedSimpArgs false

section
variable {Q : Exit → Act → World → Prop} {ops : Array Oper} {hd : List Oper} {a : Act} {R : World → World → Prop} {G : World → Prop} {φs : List (Value → World → Prop)} {i : Nat} {o : Oper}
/-- the value is known whatever came before: it reads the frame alone -/
theorem sd_copy (hg : o.guard = none) (hap : dstApart hd = true) (hR : ∀ w, R w w) {x : Nat} {c : Value} (ho : o.op = .move (.tmp x)) (hx : hd.all (fun o => o.dst != some x) = true) (hc : a.eval (.tmp x) = c) (hp : phi φs i = fun v _ => v = c) : StepOk Try.prog Q ops hd a R G φs i o :=
  .move hg hap (.tmp x) ho hR fun u ρ w k => by rw [hp]; exact (k.rho.other x hx).trans hc
/-- it reads one slot of the frame -/
theorem sd_own (hg : o.guard = none) (hap : dstApart hd = true) (hR : ∀ w, R w w) {x : Nat} {c1 c2 : Value} (hx : hd.all (fun o => o.dst != some x) = true) (hc : a.eval (.tmp x) = c1)
    (hr : ∀ (ρ : Operand → Value) (w : World), (∀ v, ρ (.const v) = v) → ρ (.tmp x) = c1 → G w → (execOp ρ o).run Try.prog w = .ok (.value c2) w) (hp : phi φs i = fun v _ => v = c2) : StepOk Try.prog Q ops hd a R G φs i o :=
  .run hg hap fun u ρ w k => ⟨c2, w, hr ρ w k.rho.con ((k.rho.other x hx).trans hc) k.good, k.good, hR w, by rw [hp]⟩
/-- it reads one slot that the region has written -/
theorem sd_one (hg : o.guard = none) (hap : dstApart hd = true) (hR : ∀ w, R w w) {x : Nat} {c1 c2 : Value} (jx : Nat) (hx : isDst hd jx x = true) (hxs : x < a.tmps.size) (wx : Region.waitsFor .any ops i jx = true) (px : phi φs jx = fun v _ => v = c1)
    (hr : ∀ (ρ : Operand → Value) (w : World), (∀ v, ρ (.const v) = v) → ρ (.tmp x) = c1 → G w → (execOp ρ o).run Try.prog w = .ok (.value c2) w) (hp : phi φs i = fun v _ => v = c2) : StepOk Try.prog Q ops hd a R G φs i o :=
  .run hg hap fun u ρ w k => by
    have e1 := k.dep jx wx
    rw [px] at e1
    exact ⟨c2, w, hr ρ w k.rho.con ((k.rho.at_ jx x hx hxs).trans e1) k.good, k.good, hR w, by rw [hp]⟩
/-- it reads two -/
theorem sd_two (hg : o.guard = none) (hap : dstApart hd = true) (hR : ∀ w, R w w) {x y : Nat} {c1 c2 c3 : Value} (jx jy : Nat) (hx : isDst hd jx x = true) (hy : isDst hd jy y = true) (hxs : x < a.tmps.size) (hys : y < a.tmps.size) (wx : Region.waitsFor .any ops i jx = true) (wy : Region.waitsFor .any ops i jy = true) (px : phi φs jx = fun v _ => v = c1) (py : phi φs jy = fun v _ => v = c2)
    (hr : ∀ (ρ : Operand → Value) (w : World), (∀ v, ρ (.const v) = v) → ρ (.tmp x) = c1 → ρ (.tmp y) = c2 → G w → (execOp ρ o).run Try.prog w = .ok (.value c3) w) (hp : phi φs i = fun v _ => v = c3) : StepOk Try.prog Q ops hd a R G φs i o :=
  .run hg hap fun u ρ w k => by
    have e1 := k.dep jx wx
    have e2 := k.dep jy wy
    rw [px] at e1
    rw [py] at e2
    exact ⟨c3, w, hr ρ w k.rho.con ((k.rho.at_ jx x hx hxs).trans e1) ((k.rho.at_ jy y hy hys).trans e2) k.good, k.good, hR w, by rw [hp]⟩
/-- a store of one slot that the region has written, to an address that lies in the frame -/
theorem sd_store (hg : o.guard = none) (hap : dstApart hd = true) {x y : Nat} {t : TypeId} {c1 c2 : Value} (ho : o.op = .store t (.tmp x) (.tmp y)) (hx : hd.all (fun o => o.dst != some x) = true) (hc : a.eval (.tmp x) = c1) (jy : Nat) (hy : isDst hd jy y = true) (hys : y < a.tmps.size) (wy : Region.waitsFor .any ops i jy = true) (py : phi φs jy = fun v _ => v = c2)
    (hr : ∀ (w : World), G w → ∃ w', (Instr.storeAt t c1 c2).run Try.prog w = .ok () w' ∧ G w' ∧ R w w' ∧ phi φs i undef w') : StepOk Try.prog Q ops hd a R G φs i o :=
  .skip hg hap fun u ρ w k => by
    have e2 := k.dep jy wy
    rw [py] at e2
    obtain ⟨w', h1, h2⟩ := hr w k.good
    exact ⟨w', by simp only [execOp, ho, (k.rho.other x hx).trans hc, (k.rho.at_ jy y hy hys).trans e2, Sem.run_bind, h1, Result.andThen_ok, Sem.run_pure], h2⟩
end

section
variable {Q : Exit → Act → World → Prop} {ops : Array Oper} {hd : List Oper} {a : Act} {R : World → World → Prop} {G : World → Prop} {φs : List (Value → World → Prop)} {i : Nat} {o : Oper} {u : Nat → Value} {ρ : Operand → Value} {w : World}
theorem Known.con (k : Known ops hd a G φs i u ρ w) (j x : Nat) {c : Value} (hx : isDst hd j x = true) (hxs : x < a.tmps.size) (wx : Region.waitsFor .any ops i j = true) (px : phi φs j = fun v _ => v = c) : ρ (.tmp x) = c := by
  have e1 := k.dep j wx
  rw [px] at e1
  exact (k.rho.at_ j x hx hxs).trans e1
theorem Known.own (k : Known ops hd a G φs i u ρ w) (x : Nat) {c : Value} (hx : hd.all (fun o => o.dst != some x) = true) (hc : a.eval (.tmp x) = c) : ρ (.tmp x) = c := (k.rho.other x hx).trans hc
/-- a step whose value is known and that leaves the world -/
theorem sd_gen (hg : o.guard = none) (hap : dstApart hd = true) (hR : ∀ w, R w w) {c : Value} (h : ∀ u ρ w, Known ops hd a G φs i u ρ w → (execOp ρ o).run Try.prog w = .ok (.value c) w) (hp : phi φs i = fun v _ => v = c) : StepOk Try.prog Q ops hd a R G φs i o :=
  .run hg hap fun u ρ w k => ⟨c, w, h u ρ w k, k.good, hR w, by rw [hp]⟩
/-- a new row of m elements -/
def IsNew (r t m : Nat) (cs : Array Value) (v : Value) (w : World) : Prop := ∃ b, v = .slice (some ⟨b, 0, none⟩) m m ∧ r ≤ b ∧ Blk w b t cs
theorem St.new_ {r t m : Nat} {cs : Array Value} : St (Rab r) (IsNew r t m cs) := fun v w w' h ⟨b, h1, h2, h3⟩ => ⟨b, h1, h2, h.blk h3 h2⟩
theorem sd_row (hg : o.guard = none) (hap : dstApart hd = true) {r e m : Nat} {cs : Array Value} (h : ∀ u ρ w, Known ops hd a G φs i u ρ w → (execOp ρ o).run Try.prog w = .ok (.value (.slice (some ⟨w.heap.size, 0, none⟩) m m)) (w.alloc (.cells cs e)))
    (hG : ∀ w o, G w → G (w.alloc o)) (hgr : ∀ w, G w → r ≤ w.heap.size) (hp : phi φs i = IsNew r e m cs) : StepOk Try.prog Q ops hd a (Rab r) G φs i o :=
  .run hg hap fun u ρ w k => ⟨_, _, h u ρ w k, hG _ _ k.good, Rab.alloc _ _ _, by rw [hp]; exact ⟨w.heap.size, rfl, hgr w k.good, Blk.new w e cs⟩⟩
end
theorem load_tal (w : World) (b o : Nat) (x : Tal) (h0 : w.cell? ⟨b, o, none⟩ = some (.int .i64 x.host)) (h1 : w.cell? ⟨b, o + 1, none⟩ = some (.string x.rule)) (h2 : w.cell? ⟨b, o + 2, none⟩ = some (.int .i64 x.lines)) :
    (Instr.loadAt 62 (.pointer (some ⟨b, o, none⟩))).run Try.prog w = .ok (.agg #[.int .i64 x.host, .string x.rule, .int .i64 x.lines]) w := by
  have hu := Try.underlying62
  simp [go_sem, h0, h1, h2]
theorem store_tal (w : World) (g : Nat) (x : Tal) {t : TypeId} {v0 v1 v2 : Value} (h : Blk w g t #[v0, v1, v2]) :
    ∃ w', (Instr.storeAt 62 (.pointer (some ⟨g, 0, none⟩)) (.agg #[.int .i64 x.host, .string x.rule, .int .i64 x.lines])).run Try.prog w = .ok () w' ∧ Blk w' g t x.cells.toArray ∧ w.grownBy w' (some g) ∧ w'.heap.size = w.heap.size := by
  have c0 := h.cell 0
  have c1 := h.cell 1
  have c2 := h.cell 2
  have f0 := h.frozen 0
  have f1 := h.frozen 1
  have f2 := h.frozen 2
  simp at c0 c1 c2
  have hu := Try.underlying62
  refine ⟨((w.setCell ⟨g, 0, none⟩ (.int .i64 x.host)).setCell ⟨g, 1, none⟩ (.string x.rule)).setCell ⟨g, 2, none⟩ (.int .i64 x.lines), ?_, ?_, ?_, by simp [World.setCell]⟩
  · simp [go_sem, c0, c1, c2, f0, f1, f2]
  · have := ((h.set_ 0 (.int .i64 x.host)).set_ 1 (.string x.rule)).set_ 2 (.int .i64 x.lines)
    simpa [Tal.cells] using this
  · have g1 : w.grownBy (w.setCell ⟨g, 0, none⟩ (.int .i64 x.host)) (some g) := only_setCell (only_refl _ _) (p := ⟨g, 0, none⟩) (.inl rfl) _
    have g2 := only_setCell g1 (p := ⟨g, 1, none⟩) (.inl rfl) (.string x.rule)
    exact only_setCell g2 (p := ⟨g, 2, none⟩) (.inl rfl) (.int .i64 x.lines)
end Go.Proofs.Ytiogpomgpknjlaa
