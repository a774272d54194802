/- Steps of a drawn region under wp_region_gen: known values, guards. No condition. -/
import Derived.Test.YtpaiideboodaeaaGreatDoorJFilB
import Derived.Test.YtpaiideboodaeaaGreatDoorJBase
import Derived.Test.YtpaiideboodaeaaGreatDoorJSegG
namespace Go.Proofs.YtpaiideboodaeaaGreatDoor
open Go.RowKit
set_option linter.unusedVariables false
set_option linter.unusedSimpArgs false

theorem wanted_at {ops : Array Oper} {hd : List Oper} {a : Act} {u : Nat → Value} {o : Oper} {g t : Nat} {b v : Bool} (hg : o.guard = some (g, b)) (hop : ((ops[g]?).bind (·.dst)) = some t) (hap : dstApart hd = true) (hx : isDst hd g t = true) (ht : t < a.tmps.size) (hv : u g = .bool v) :
    Region.wanted o (yielded ops (putAll u 0 hd a).tmps) = (v == b) := by
  have h1 := putAll_at u hd 0 g a t hap hx ht
  rw [Nat.zero_add, hv] at h1
  have hsz := putAll_size u hd 0 a
  have h2 : (putAll u 0 hd a).tmps[t]? = some (.bool v) := by
    have h3 : (putAll u 0 hd a).eval (.tmp t) = (putAll u 0 hd a).tmps.getD t undef := rfl
    rw [h3] at h1
    have hlt : t < (putAll u 0 hd a).tmps.size := by omega
    simp only [Array.getD, hlt, dif_pos] at h1
    rw [Array.getElem?_eq_getElem hlt]
    exact congrArg some h1
  unfold Region.wanted yielded
  rw [hg]
  simp only [hop, Option.bind_some, h2]
  cases v <;> cases b <;> rfl
theorem wanted_not {ops : Array Oper} {hd : List Oper} {a : Act} {u : Nat → Value} {o : Oper} {g t : Nat} {b : Bool} (hg : o.guard = some (g, b)) (hop : ((ops[g]?).bind (·.dst)) = some t) (hap : dstApart hd = true) (hx : isDst hd g t = true) (ht : t < a.tmps.size) (hv : u g = undef) :
    Region.wanted o (yielded ops (putAll u 0 hd a).tmps) = false := by
  have h1 := putAll_at u hd 0 g a t hap hx ht
  rw [Nat.zero_add, hv] at h1
  have hsz := putAll_size u hd 0 a
  have h2 : (putAll u 0 hd a).tmps[t]? = some undef := by
    have h3 : (putAll u 0 hd a).eval (.tmp t) = (putAll u 0 hd a).tmps.getD t undef := rfl
    rw [h3] at h1
    have hlt : t < (putAll u 0 hd a).tmps.size := by omega
    simp only [Array.getD, hlt, dif_pos] at h1
    rw [Array.getElem?_eq_getElem hlt]
    exact congrArg some h1
  unfold Region.wanted yielded
  rw [hg]
  simp only [hop, Option.bind_some, h2]
  rfl
/-- the known values, and what else holds -/
def JC (cs : List (Option Value)) (X : (Nat → Bool) → (Nat → Value) → World → Prop) (D : Nat → Bool) (u : Nat → Value) (w : World) : Prop := (∀ j c, cs[j]? = some (some c) → D j = true → u j = c) ∧ X D u w
/-- the other part does not ask about operation i -/
def Deaf (X : (Nat → Bool) → (Nat → Value) → World → Prop) (i : Nat) : Prop := ∀ D u w v, X D u w → X (updB D i) (upd u i v) w
structure KG (ops : Array Oper) (hd : List Oper) (a : Act) (cs : List (Option Value)) (X : (Nat → Bool) → (Nat → Value) → World → Prop) (i : Nat) (D : Nat → Bool) (u : Nat → Value) (ρ : Operand → Value) (w : World) : Prop where
  rho : Rho hd a u ρ
  inv : ∀ j c, cs[j]? = some (some c) → D j = true → u j = c
  ext : X D u w
  dep : ∀ j, Region.waitsFor .any ops i j = true → D j = true
section
variable {Q : Exit → Act → World → Prop} {ops : Array Oper} {hd : List Oper} {a : Act} {cs : List (Option Value)} {X : (Nat → Bool) → (Nat → Value) → World → Prop} {i : Nat} {o : Oper} {D : Nat → Bool} {u : Nat → Value} {ρ : Operand → Value} {w : World}
theorem KG.con (k : KG ops hd a cs X i D u ρ w) (j x : Nat) {c : Value} (hx : isDst hd j x = true) (hxs : x < a.tmps.size) (wx : Region.waitsFor .any ops i j = true) (hc : cs[j]? = some (some c)) : ρ (.tmp x) = c :=
  (k.rho.at_ j x hx hxs).trans (k.inv j c hc (k.dep j wx))
theorem KG.slot (k : KG ops hd a cs X i D u ρ w) (j x : Nat) (hx : isDst hd j x = true) (hxs : x < a.tmps.size) : ρ (.tmp x) = u j := k.rho.at_ j x hx hxs
theorem KG.own (k : KG ops hd a cs X i D u ρ w) (x : Nat) {c : Value} (hx : hd.all (fun o => o.dst != some x) = true) (hc : a.eval (.tmp x) = c) : ρ (.tmp x) = c := (k.rho.other x hx).trans hc
theorem jc_set {v : Value} {w' : World} (h : ∀ j c, cs[j]? = some (some c) → D j = true → u j = c) (hc : ∀ c, cs[i]? = some (some c) → v = c) (hX : X (updB D i) (upd u i v) w') : JC cs X (updB D i) (upd u i v) w' := by
  refine ⟨fun j c hj hD => ?_, hX⟩
  by_cases e : j = i
  · subst e; rw [upd_at]; exact hc c hj
  · rw [upd_ne _ _ e]; rw [updB_ne _ e] at hD; exact h j c hj hD
/-- whether the operation is carried out, as known ahead: no guard, or a guard of known value -/
def Want (ops : Array Oper) (hd : List Oper) (a : Act) (cs : List (Option Value)) (i : Nat) (o : Oper) (b : Bool) : Prop :=
  (o.guard = none ∧ b = true) ∨ ∃ g b0 v t, o.guard = some (g, b0) ∧ ((ops[g]?).bind (·.dst)) = some t ∧ isDst hd g t = true ∧ t < a.tmps.size ∧ ((cs[g]? = some (some (.bool v)) ∧ (v == b0) = b) ∨ (cs[g]? = some (some undef) ∧ b = false)) ∧ Region.waitsFor .any ops i g = true
theorem Want.none_ (h : o.guard = none) : Want ops hd a cs i o true := .inl ⟨h, rfl⟩
theorem Want.some_ {g : Nat} {b0 v b : Bool} {t : Nat} (h1 : o.guard = some (g, b0)) (h2 : ((ops[g]?).bind (·.dst)) = some t) (h3 : isDst hd g t = true) (h4 : t < a.tmps.size) (h5 : cs[g]? = some (some (.bool v))) (h6 : (v == b0) = b) (h7 : Region.waitsFor .any ops i g = true) : Want ops hd a cs i o b := .inr ⟨g, b0, v, t, h1, h2, h3, h4, .inl ⟨h5, h6⟩, h7⟩
theorem Want.undef_ {g : Nat} {b0 : Bool} {t : Nat} (h1 : o.guard = some (g, b0)) (h2 : ((ops[g]?).bind (·.dst)) = some t) (h3 : isDst hd g t = true) (h4 : t < a.tmps.size) (h5 : cs[g]? = some (some undef)) (h7 : Region.waitsFor .any ops i g = true) : Want ops hd a cs i o false := .inr ⟨g, b0, false, t, h1, h2, h3, h4, .inr ⟨h5, rfl⟩, h7⟩
theorem Want.is {b : Bool} (h : Want ops hd a cs i o b) (hap : dstApart hd = true) (hi : ∀ j c, cs[j]? = some (some c) → D j = true → u j = c) (hd' : ∀ j, Region.waitsFor .any ops i j = true → D j = true) : Region.wanted o (yielded ops (putAll u 0 hd a).tmps) = b := by
  rcases h with ⟨h1, h2⟩ | ⟨g, b0, v, t, h1, h2, h3, h4, ⟨h5, h6⟩ | ⟨h5, rfl⟩, h7⟩
  · subst h2; simp [Region.wanted, h1]
  · rw [wanted_at h1 h2 hap h3 h4 (hi g _ h5 (hd' g h7)), h6]
  · exact wanted_not h1 h2 hap h3 h4 (hi g _ h5 (hd' g h7))
/-- an operation of a known value that leaves the world -/
theorem gd_gen (hap : dstApart hd = true) (hw : Want ops hd a cs i o true) {c : Value} (hc : cs[i]? = some (some c)) (hX : Deaf X i) (h : ∀ D u ρ w, KG ops hd a cs X i D u ρ w → (execOp ρ o).run Tryz.prog w = .ok (.value c) w) : GenOk Tryz.prog Q ops hd a (JC cs X) i o := by
  refine ⟨?_⟩
  rintro D u w ⟨hi, hx⟩ hdep hnot K hK
  rw [if_pos (hw.is hap hi hdep)]
  unfold Oper.wp
  rw [h D u _ w ⟨Rho.mk_ hap u, hi, hx, hdep⟩]
  simp only [Oper.upon]
  exact hK c w (jc_set hi (fun c' h' => by rw [hc] at h'; injection h' with h'; injection h') (hX D u w c hx))
/-- an operation that is not carried out -/
theorem gd_off (hap : dstApart hd = true) (hw : Want ops hd a cs i o false) (hc : cs[i]? = some none ∨ cs[i]? = some (some undef)) (hX : Deaf X i) : GenOk Tryz.prog Q ops hd a (JC cs X) i o := by
  refine ⟨?_⟩
  rintro D u w ⟨hi, hx⟩ hdep hnot K hK
  rw [if_neg (by rw [hw.is hap hi hdep]; simp)]
  have h1 := hK undef w (jc_set hi (fun c' h' => by rcases hc with hc | hc <;> rw [hc] at h' <;> injection h' with h'; cases h'; injection h') (hX D u w undef hx))
  exact h1
/-- an operation with a value that turns the world -/
theorem gd_eff (hap : dstApart hd = true) (hw : Want ops hd a cs i o true) (h : ∀ D u ρ w, KG ops hd a cs X i D u ρ w → D i = false → ∃ v w', (execOp ρ o).run Tryz.prog w = .ok (.value v) w' ∧ (∀ c, cs[i]? = some (some c) → v = c) ∧ X (updB D i) (upd u i v) w') : GenOk Tryz.prog Q ops hd a (JC cs X) i o := by
  refine ⟨?_⟩
  rintro D u w ⟨hi, hx⟩ hdep hnot K hK
  rw [if_pos (hw.is hap hi hdep)]
  obtain ⟨v, w', h1, h2, h3⟩ := h D u _ w ⟨Rho.mk_ hap u, hi, hx, hdep⟩ hnot
  unfold Oper.wp
  rw [h1]
  simp only [Oper.upon]
  exact hK v w' (jc_set hi h2 h3)
/-- an operation without a value -/
theorem gd_skip (hap : dstApart hd = true) (hw : Want ops hd a cs i o true) (hc : cs[i]? = some none) (h : ∀ D u ρ w, KG ops hd a cs X i D u ρ w → D i = false → ∃ w', (execOp ρ o).run Tryz.prog w = .ok .skip w' ∧ X (updB D i) (upd u i undef) w') : GenOk Tryz.prog Q ops hd a (JC cs X) i o := by
  refine ⟨?_⟩
  rintro D u w ⟨hi, hx⟩ hdep hnot K hK
  rw [if_pos (hw.is hap hi hdep)]
  obtain ⟨w', h1, h3⟩ := h D u _ w ⟨Rho.mk_ hap u, hi, hx, hdep⟩ hnot
  unfold Oper.wp
  rw [h1]
  simp only [Oper.upon]
  exact hK undef w' (jc_set hi (fun c h' => by rw [hc] at h'; injection h' with h'; cases h') h3)
/-- a call -/
theorem gd_call (hap : dstApart hd = true) (hw : Want ops hd a cs i o true) (f : FuncId) (h : ∀ D u ρ w, KG ops hd a cs X i D u ρ w → D i = false → ∃ args, (execOp ρ o).run Tryz.prog w = .ok (.enter f args) w ∧ Calls Tryz.prog f args w (fun e w' => ∃ v, e = .returned v ∧ (∀ c, cs[i]? = some (some c) → v = c) ∧ X (updB D i) (upd u i v) w')) : GenOk Tryz.prog Q ops hd a (JC cs X) i o := by
  refine ⟨?_⟩
  rintro D u w ⟨hi, hx⟩ hdep hnot K hK
  rw [if_pos (hw.is hap hi hdep)]
  unfold Oper.wp
  obtain ⟨args, h0, h⟩ := h D u _ w ⟨Rho.mk_ hap u, hi, hx, hdep⟩ hnot
  rw [h0]
  simp only [Oper.upon]
  refine h.mono ?_
  rintro e w' ⟨v, rfl, h2, h3⟩
  exact hK v w' (jc_set hi h2 h3)
end
end Go.Proofs.YtpaiideboodaeaaGreatDoor

namespace Go.Proofs.YtpaiideboodaeaaGreatDoor
open Go.RowKit
set_option linter.unusedVariables false
set_option linter.unusedSimpArgs false

theorem cellG {w w' : World} (h : w.grownBy w' none) {b o : Nat} (hb : b < w.heap.size) : w'.cell? ⟨b, o, none⟩ = w.cell? ⟨b, o, none⟩ := World.cell?_of_block (a := ⟨b, o, none⟩) (h.block b hb (by simp))
theorem run_load (ρ : Operand → Value) (w : World) {o : Oper} {t : TypeId} {x : Nat} {p c : Value} (ho : o.op = .load t (.tmp x)) (hx : ρ (.tmp x) = p) (h : (Instr.loadAt t p).run Tryz.prog w = .ok c w) : (execOp ρ o).run Tryz.prog w = .ok (.value c) w := by
  simp only [execOp, ho, hx, Sem.run_bind, h, Result.andThen_ok, Sem.run_pure]
/-- a fresh slice of strings: what a call of Clone or Distinct has given back -/
def FreshS (base : Nat) (ss : List Value) (n : Nat) (e : TypeId) (w : World) (v : Value) : Prop := ∃ A c, v = .slice A n c ∧ n ≤ c ∧ c ≤ maxLen ∧ w.ownsRow base e 1 (.slice A n c) n ss
theorem FreshS.grown {base n : Nat} {ss : List Value} {e : TypeId} {w w' : World} {v : Value} (h : FreshS base ss n e w v) (hg : w.grownBy w' none) : FreshS base ss n e w' v := by
  obtain ⟨A, c, h1, h2, h3, h4⟩ := h
  exact ⟨A, c, h1, h2, h3, own_ext h4 hg⟩
theorem FreshS.of {base b0 n : Nat} {ss : List Value} {e : TypeId} {w : World} {A : Option Addr} {c : Nat} (h : w.ownsRow b0 e 1 (.slice A n c) n ss) (hb : base ≤ b0) : FreshS base ss n e w (.slice A n c) := by
  obtain ⟨A', c', e1, h2, h3, -, -⟩ := Rd.of_own h (by decide)
  injection e1 with e1 e2 e3
  subst e1 e3
  exact ⟨A, c, rfl, h2, h3, ⟨h.1, h.2.imp id fun ⟨g, cap, cur, h1, h2, h3⟩ => ⟨g, cap, cur, h1, Nat.le_trans hb h2, h3⟩⟩⟩
theorem rd_ownG {w : World} {base e n z : Nat} {A : Option Addr} {c : Nat} {xs : List Value} (h : w.ownsRow base e z (.slice A n c) n xs) (hz : 0 < z := by decide) : Rd (base ≤ ·) w A xs := by
  obtain ⟨A', c', e1, _, _, _, hr⟩ := Rd.of_own h hz
  injection e1 with e1
  rw [e1]; exact hr
section
variable {Q : Exit → Act → World → Prop} {ops : Array Oper} {hd : List Oper} {a : Act} {cs : List (Option Value)} {X : (Nat → Bool) → (Nat → Value) → World → Prop} {i : Nat} {o : Oper}
/-- a call of a function that is known only when it comes up -/
theorem gd_callE (hap : dstApart hd = true) (hw : Want ops hd a cs i o true) (h : ∀ D u ρ w, KG ops hd a cs X i D u ρ w → D i = false → ∃ f args, (execOp ρ o).run Tryz.prog w = .ok (.enter f args) w ∧ Calls Tryz.prog f args w (fun e w' => ∃ v, e = .returned v ∧ (∀ c, cs[i]? = some (some c) → v = c) ∧ X (updB D i) (upd u i v) w')) : GenOk Tryz.prog Q ops hd a (JC cs X) i o := by
  refine ⟨?_⟩
  rintro D u w ⟨hi, hx⟩ hdep hnot K hK
  rw [if_pos (hw.is hap hi hdep)]
  unfold Oper.wp
  obtain ⟨f, args, h0, h⟩ := h D u _ w ⟨Rho.mk_ hap u, hi, hx, hdep⟩ hnot
  rw [h0]
  simp only [Oper.upon]
  refine h.mono ?_
  rintro e w' ⟨v, rfl, h2, h3⟩
  exact hK v w' (jc_set hi h2 h3)
end
theorem rd_notB {w : World} {base e n z pb : Nat} {A : Option Addr} {c : Nat} {xs : List Value} (h : w.ownsRow base e z (.slice A n c) n xs) (hp : Value.ownBlock (.slice A n c) ≠ some pb) (hz : 0 < z := by decide) : Rd (fun b => base ≤ b ∧ b ≠ pb) w A xs := by
  intro hn
  obtain ⟨b, o, e1, h1, h2, h3⟩ := rd_ownG h hz hn
  refine ⟨b, o, e1, ⟨h1, fun e2 => hp ?_⟩, h2, h3⟩
  rcases h.2 with ⟨e3, _⟩ | ⟨g, cap, cur, e3, _⟩
  · injection e3 with e3; rw [e3] at e1; cases e1
  · injection e3 with e3 _ _
    rw [e3] at e1
    injection e1 with e1
    injection e1 with e1 _
    rw [e3, e1, e2]; rfl
end Go.Proofs.YtpaiideboodaeaaGreatDoor

namespace Go.Proofs.YtpaiideboodaeaaGreatDoor
open Go.RowKit
set_option linter.unusedVariables false
set_option linter.unusedSimpArgs false

theorem blk_norow {w : World} {g t e z n base : Nat} {cs : Array Value} {v : Value} {xs : List Value} (hB : Blk w g t cs) (h : w.ownsRow base e z v n xs) (hte : t ≠ e) : v.ownBlock ≠ some g := by
  rcases h.2 with ⟨rfl, _⟩ | ⟨g', cap, cur, rfl, _, hh, _⟩
  · simp [Value.ownBlock]
  · intro e1
    have e2 : g' = g := by simpa [Value.ownBlock] using e1
    subst e2
    unfold Blk at hB
    rw [hB] at hh
    injection hh with hh
    injection hh with _ h2 _
    exact hte h2
theorem own_off {w w' : World} {base e z n g : Nat} {v : Value} {xs : List Value} (h : w.ownsRow base e z v n xs) (hg : w.grownBy w' (some g)) (hne : v.ownBlock ≠ some g) : w'.ownsRow base e z v n xs := h.kept hg (.inr hne)
theorem own_putk {w : World} {base e size g n c k : Nat} {xs : List Value} {u : Value} (h : w.ownsRow base e size (.slice (some ⟨g, 0, none⟩) n c) n xs) (hk : k < n * size) : (w.setCell ⟨g, k, none⟩ u).ownsRow base e size (.slice (some ⟨g, 0, none⟩) n c) n (xs.set k u) := by
  obtain ⟨hl, h2⟩ := h
  refine ⟨by simpa using hl, ?_⟩
  rcases h2 with ⟨h3, _⟩ | ⟨g', cap, cur, h3, h4, h5, h6, h7, h8, h9⟩
  · cases h3
  · injection h3 with e1 e2 e3
    injection e1 with e1
    injection e1 with e1
    subst e1 e3
    refine .inr ⟨g, c, cur.setIfInBounds k u, rfl, h4, ?_, h6, h7, by simpa using h8, ?_⟩
    · simp [World.setCell, Array.getElem?_modify, h5]
    · rw [Array.toList_setIfInBounds, List.take_set, h9]
end Go.Proofs.YtpaiideboodaeaaGreatDoor

namespace Go.Proofs.YtpaiideboodaeaaGreatDoor
open Go.RowKit
set_option linter.unusedVariables false
set_option linter.unusedSimpArgs false

/-- all blocks that were there are as they were, those of B apart -/
def FrN (B : Nat → Prop) (W w : World) : Prop := w.os = W.os ∧ w.tape = W.tape ∧ w.output = W.output ∧ W.heap.size ≤ w.heap.size ∧ ∀ i, i < W.heap.size → ¬ B i → w.heap[i]? = W.heap[i]?
theorem FrN.refl (B : Nat → Prop) (w : World) : FrN B w w := ⟨rfl, rfl, rfl, Nat.le_refl _, fun _ _ _ => rfl⟩
theorem FrN.drew {B : Nat → Prop} {W w : World} (h : FrN B W w) : FrN B W w.drew := h
theorem FrN.grow {B : Nat → Prop} {W w w' : World} {row : Option Nat} (h : FrN B W w) (hg : w.grownBy w' row) (hr : ∀ g, row = some g → B g ∨ W.heap.size ≤ g) : FrN B W w' :=
  ⟨hg.os.trans h.1, hg.tape.trans h.2.1, hg.output.trans h.2.2.1, Nat.le_trans h.2.2.2.1 hg.size, fun i hi hB => (hg.block i (Nat.lt_of_lt_of_le hi h.2.2.2.1) (fun e => by rcases hr i e.symm with h1 | h1; exact hB h1; omega)).trans (h.2.2.2.2 i hi hB)⟩
theorem FrN.alloc {B : Nat → Prop} {W w : World} (h : FrN B W w) (o : Obj) : FrN B W (w.alloc o) := h.grow (World.grownBy_alloc w o none) (by simp)
theorem FrN.set_ {B : Nat → Prop} {W w : World} (h : FrN B W w) {p : Addr} (hp : B p.block ∨ W.heap.size ≤ p.block) (v : Value) : FrN B W (w.setCell p v) :=
  ⟨h.1, h.2.1, h.2.2.1, by simpa [World.setCell] using h.2.2.2.1, fun i hi hB => (Below.heap_setCell w p v i (by rintro rfl; rcases hp with h1 | h1; exact hB h1; omega)).trans (h.2.2.2.2 i hi hB)⟩
theorem FrN.mono {B B' : Nat → Prop} {W w : World} (h : FrN B W w) (hB : ∀ i, B i → B' i) : FrN B' W w := ⟨h.1, h.2.1, h.2.2.1, h.2.2.2.1, fun i hi h1 => h.2.2.2.2 i hi (fun h2 => h1 (hB i h2))⟩
theorem FrN.trans {B B' : Nat → Prop} {W w w' : World} (h : FrN B W w) (k : FrN B' w w') (hB : ∀ i, B' i → B i ∨ W.heap.size ≤ i) : FrN B W w' :=
  ⟨k.1.trans h.1, k.2.1.trans h.2.1, k.2.2.1.trans h.2.2.1, Nat.le_trans h.2.2.2.1 k.2.2.2.1, fun i hi h1 => (k.2.2.2.2 i (Nat.lt_of_lt_of_le hi h.2.2.2.1) (fun h2 => by rcases hB i h2 with h3 | h3; exact h1 h3; omega)).trans (h.2.2.2.2 i hi h1)⟩
theorem FrN.cell {B : Nat → Prop} {W w : World} (h : FrN B W w) {b o : Nat} (hb : b < W.heap.size) (hB : ¬ B b) : w.cell? ⟨b, o, none⟩ = W.cell? ⟨b, o, none⟩ := World.cell?_of_block (a := ⟨b, o, none⟩) (h.2.2.2.2 b hb hB)
theorem FrN.blk {B : Nat → Prop} {W w : World} (h : FrN B W w) {b t : Nat} {cs : Array Value} (hb : Blk W b t cs) (hB : ¬ B b) : Blk w b t cs := (h.2.2.2.2 b hb.lt hB).trans hb
theorem FrN.rd {B S : Nat → Prop} {W w : World} {A : Option Addr} {xs : List Value} (h : FrN B W w) (hr : Rd S W A xs) (hB : ∀ b, S b → ¬ B b) : Rd S w A xs := hr.keep (fun b hb hlt => h.2.2.2.2 b hlt (hB b hb)) h.2.2.2.1
theorem FrN.none_ {B : Nat → Prop} {W w a : World} (h : FrN B W w) (k : a.grownBy W none) (hB : ∀ i, B i → a.heap.size ≤ i) : a.grownBy w none :=
  ⟨h.1.trans k.os, h.2.1.trans k.tape, h.2.2.1.trans k.output, Nat.le_trans k.size h.2.2.2.1, fun i hi _ => (h.2.2.2.2 i (Nat.lt_of_lt_of_le hi k.size) (fun h2 => by have := hB i h2; omega)).trans (k.block i hi (by simp))⟩
/-- the block of a row has this element type -/
def RowT (w : World) (row : Option Nat) (e : TypeId) : Prop := ∀ g, row = some g → ∃ cs, w.heap[g]? = some (.cells cs e (0, 0))
theorem own_rowT {w : World} {base e z n : Nat} {v : Value} {xs : List Value} (h : w.ownsRow base e z v n xs) : RowT w v.ownBlock e := by
  intro g hg
  rcases h.2 with ⟨rfl, _⟩ | ⟨g', cap, cur, rfl, _, hh, _⟩
  · simp [Value.ownBlock] at hg
  · have e2 : g' = g := by simpa [Value.ownBlock] using hg
    subst e2
    exact ⟨cur, hh⟩
theorem rowT_blk {w : World} {row : Option Nat} {e t b : Nat} {cs : Array Value} (h : RowT w row e) (hB : Blk w b t cs) (hne : t ≠ e) : some b ≠ row := by
  intro e1
  obtain ⟨cs', h2⟩ := h b e1.symm
  unfold Blk at hB
  rw [hB] at h2
  injection h2 with h2
  injection h2 with _ h3 _
  exact hne h3
theorem own_rowK {w w' : World} {base e z n e' : Nat} {v : Value} {xs : List Value} {row : Option Nat} (h : w.ownsRow base e z v n xs) (hg : w.grownBy w' row) (hr : RowT w row e') (hne : e ≠ e') : w'.ownsRow base e z v n xs :=
  h.kept hg (by
    cases hv : v.ownBlock with
    | none => exact .inl rfl
    | some k =>
      refine .inr (fun e1 => ?_)
      obtain ⟨cs, h1⟩ := own_rowT h k hv
      obtain ⟨cs', h2⟩ := hr k e1.symm
      rw [h1] at h2
      injection h2 with h2
      injection h2 with _ h3 _
      exact hne h3)
/-- a row to which op 'ap' appends the one element that op 'al' lays -/
structure AppI (W : World) (base al ap : Nat) (v : Value) (e : TypeId) (n : Nat) (xs : List Value) (el : Value) (D : Nat → Bool) (u : Nat → Value) (w : World) : Prop where
  dep : D ap = true → D al = true
  before : D ap = false → w.ownsRow base e 1 v n xs ∧ (D al = true → ∃ b, u al = .slice (some ⟨b, 0, none⟩) 1 1 ∧ W.heap.size ≤ b ∧ Blk w b e #[el])
  after : D ap = true → w.ownsRow base e 1 (u ap) (n + 1) (xs ++ [el]) ∧ ∀ g, (u ap).ownBlock = some g → v.ownBlock = some g ∨ W.heap.size ≤ g
section
variable {W : World} {base al ap : Nat} {v : Value} {e : TypeId} {n : Nat} {xs : List Value} {el : Value} {D : Nat → Bool} {u : Nat → Value} {w w' : World}
theorem AppI.start (h : w.ownsRow base e 1 v n xs) : AppI W base al ap v e n xs el (fun _ => false) u w := ⟨(fun h => by cases h), fun _ => ⟨h, fun h => by cases h⟩, fun h => by cases h⟩
theorem AppI.other (h : AppI W base al ap v e n xs el D u w) {i : Nat} (x : Value) (h1 : i ≠ al) (h2 : i ≠ ap) : AppI W base al ap v e n xs el (updB D i) (upd u i x) w := by
  have a1 := updB_ne D (Ne.symm h1); have a2 := updB_ne D (Ne.symm h2)
  have b1 := upd_ne u x (Ne.symm h1); have b2 := upd_ne u x (Ne.symm h2)
  exact ⟨by rw [a1, a2]; exact h.dep, by rw [a1, a2, b1]; exact h.before, by rw [a2, b2]; exact h.after⟩
theorem AppI.grow (h : AppI W base al ap v e n xs el D u w) {row : Option Nat} {e' : TypeId} (hg : w.grownBy w' row) (hr : RowT w row e') (hne : e ≠ e') : AppI W base al ap v e n xs el D u w' := by
  refine ⟨h.dep, fun h0 => ?_, fun h0 => ?_⟩
  · obtain ⟨h1, h2⟩ := h.before h0
    refine ⟨own_rowK h1 hg hr hne, fun h3 => ?_⟩
    obtain ⟨b, e1, e2, e3⟩ := h2 h3
    exact ⟨b, e1, e2, e3.grown hg (rowT_blk hr e3 hne)⟩
  · obtain ⟨h1, h2⟩ := h.after h0
    exact ⟨own_rowK h1 hg hr hne, h2⟩
theorem AppI.ext (h : AppI W base al ap v e n xs el D u w) (hg : w.grownBy w' none) : AppI W base al ap v e n xs el D u w' := by
  refine ⟨h.dep, fun h0 => ?_, fun h0 => ?_⟩
  · obtain ⟨h1, h2⟩ := h.before h0
    refine ⟨own_ext h1 hg, fun h3 => ?_⟩
    obtain ⟨b, e1, e2, e3⟩ := h2 h3
    exact ⟨b, e1, e2, e3.grown hg (by simp)⟩
  · obtain ⟨h1, h2⟩ := h.after h0
    exact ⟨own_ext h1 hg, h2⟩
theorem AppI.not_yet (h : AppI W base al ap v e n xs el D u w) (h0 : D al = false) : D ap = false := by
  cases h1 : D ap with
  | false => rfl
  | true => rw [h.dep h1] at h0; cases h0
theorem AppI.laid (h : AppI W base al ap v e n xs el D u w) (hne : al ≠ ap) (h0 : D al = false) (hs : W.heap.size ≤ w.heap.size) :
    AppI W base al ap v e n xs el (updB D al) (upd u al (.slice (some ⟨w.heap.size, 0, none⟩) 1 1)) (w.alloc (.cells #[el] e)) := by
  have a1 := updB_ne D (Ne.symm hne)
  have hap := h.not_yet h0
  refine ⟨fun _ => updB_at D al, fun _ => ⟨(h.before hap).1.alloc _, fun _ => ⟨w.heap.size, by rw [upd_at], hs, Blk.new _ _ _⟩⟩, fun h1 => ?_⟩
  rw [a1, hap] at h1; cases h1
theorem AppI.done (h : AppI W base al ap v e n xs el D u w) (hne : al ≠ ap) (h0 : D ap = false) (h1 : D al = true) {v' : Value} (hs : W.heap.size ≤ w.heap.size)
    (ho : w'.ownsRow base e 1 v' (n + 1) (xs ++ [el])) (hb : v'.ownBlock = v.ownBlock ∨ v'.ownBlock = some w.heap.size) :
    AppI W base al ap v e n xs el (updB D ap) (upd u ap v') w' := by
  refine ⟨fun _ => by rw [updB_ne D hne]; exact h1, fun h2 => ?_, fun _ => ?_⟩
  · rw [updB_at] at h2; cases h2
  · rw [upd_at]
    refine ⟨ho, fun g hg => ?_⟩
    rcases hb with hb | hb
    · exact .inl (by rw [← hb]; exact hg)
    · rw [hb] at hg; injection hg with hg; exact .inr (by omega)
/-- the append runs -/
theorem AppI.run {z : Value} {bytes : Nat} (h : AppI W base al ap v e n xs el D u w) (h0 : D ap = false) (h1 : D al = true) (t ty : TypeId) (ht : Tryz.prog.underlying t = some (.slice e)) (hi : (Tryz.prog.info? e).map (fun i => (i.zero, i.size, i.bytes)) = some (some z, 1, bytes)) (hzs : z.cells.size = 1)
    (h1c : el.oneCell' = true) (hb : bytes ≤ 1000) (hn : n ≤ 1000000) (hbase : base ≤ w.heap.size) :
    ∃ v' w', (Builtin.append_ #[t, t] ty #[v, u al]).run Tryz.prog w = .ok v' w' ∧ w'.ownsRow base e 1 v' (n + 1) (xs ++ [el]) ∧ w.grownBy w' v.ownBlock ∧ (v'.ownBlock = v.ownBlock ∨ v'.ownBlock = some w.heap.size) := by
  obtain ⟨ho, h2⟩ := h.before h0
  obtain ⟨b, e1, e2, e3⟩ := h2 h1
  rw [e1]
  exact run_appendN base t ty ht hi hzs (by decide) ho (S := fun _ => True) (some ⟨b, 0, none⟩) 1 1 (news := [el]) (fun _ => ⟨b, 0, rfl, trivial, e3.lt, fun j x hx => by rw [Nat.zero_add, e3.cell j]; simpa using hx⟩) rfl (by intro x hx; rw [List.mem_singleton.1 hx]; exact h1c) hb (by omega) hbase
end
theorem exec_append {ρ : Operand → Value} {w w' : World} {o : Oper} {s x : Operand} {t : TypeId} (ho : o.op = .call { callee := .builtin .append, args := #[s, x], argTypes := #[t, t] }) {v y v' : Value} (hs : ρ s = v) (hx : ρ x = y) (hrun : (Builtin.append_ #[t, t] o.type #[v, y]).run Tryz.prog w = .ok v' w') : (execOp ρ o).run Tryz.prog w = .ok (.value v') w' := by
  simp only [execOp, ho, resolve, invoke, builtin, Sem.run_bind, Sem.run_pure, Result.andThen_ok, List.map_toArray, List.map_cons, List.map_nil, hs, hx, hrun]
end Go.Proofs.YtpaiideboodaeaaGreatDoor

namespace Go.Proofs.YtpaiideboodaeaaGreatDoor
open Go.RowKit
set_option linter.unusedVariables false
set_option linter.unusedSimpArgs false

theorem AppI.growA {W : World} {base al ap : Nat} {v : Value} {e : TypeId} {n : Nat} {xs : List Value} {el : Value} {D : Nat → Bool} {u : Nat → Value} {w w' : World} (h : AppI W base al ap v e n xs el D u w) {row : Option Nat} (hg : w.grownBy w' row) (hr : ∀ g, row = some g → g < W.heap.size ∧ v.ownBlock ≠ some g) : AppI W base al ap v e n xs el D u w' := by
  refine ⟨h.dep, fun h0 => ?_, fun h0 => ?_⟩
  · obtain ⟨h1, h2⟩ := h.before h0
    refine ⟨h1.kept hg (by
      cases hv : v.ownBlock with
      | none => exact .inl rfl
      | some k => exact .inr (fun e1 => (hr k e1.symm).2 hv)), fun h3 => ?_⟩
    obtain ⟨b, e1, e2, e3⟩ := h2 h3
    exact ⟨b, e1, e2, e3.grown hg (fun e4 => by have := (hr b e4.symm).1; omega)⟩
  · obtain ⟨h1, h2⟩ := h.after h0
    refine ⟨h1.kept hg ?_, h2⟩
    cases hv : (u ap).ownBlock with
    | none => exact .inl rfl
    | some k =>
      refine .inr (fun e1 => ?_)
      obtain ⟨q1, q2⟩ := hr k e1.symm
      rcases h2 k hv with h3 | h3
      · exact q2 h3
      · omega
theorem app_apt {W w : World} {base al ap : Nat} {v : Value} {e : TypeId} {n : Nat} {xs : List Value} {el : Value} {D : Nat → Bool} {u : Nat → Value} {v0 v' : Value} (h : AppI W base al ap v e n xs el D u w) (hD : D ap = true) (hA : Apt v0 v) (hlt : ∀ g, v0.ownBlock = some g → g < W.heap.size) (hb : v'.ownBlock = v0.ownBlock ∨ v'.ownBlock = some w.heap.size) : Apt v' (u ap) := by
  intro g h1 h2
  obtain ⟨ho, hn⟩ := h.after hD
  have h3 := (World.ownsRow.lt ho g h2).2
  rcases hb with e | e
  · rw [e] at h1
    rcases hn g h2 with h4 | h4
    · exact hA g h1 h4
    · have := hlt g h1; omega
  · rw [e] at h1; injection h1 with h1; omega
theorem own_stay {w w' : World} {base e size n : Nat} {v : Value} {xs : List Value} (h : w.ownsRow base e size v n xs) (hk : ∀ g, v.ownBlock = some g → w'.heap[g]? = w.heap[g]?) : w'.ownsRow base e size v n xs := by
  obtain ⟨hl, h2⟩ := h
  refine ⟨hl, ?_⟩
  rcases h2 with h2 | ⟨g, cap, cur, rfl, h3, h4, h5⟩
  · exact .inl h2
  · exact .inr ⟨g, cap, cur, rfl, h3, (hk g rfl).trans h4, h5⟩
def RB3 (vo vl vs : Value) (i : Nat) : Prop := Value.ownBlock vo = some i ∨ Value.ownBlock vl = some i ∨ Value.ownBlock vs = some i
structure Sep3 (W : World) (vo vl vs : Value) : Prop where
  lo : ∀ g, Value.ownBlock vo = some g → g < W.heap.size
  ll : ∀ g, Value.ownBlock vl = some g → g < W.heap.size
  ls : ∀ g, Value.ownBlock vs = some g → g < W.heap.size
  ol : Apt vo vl
  os : Apt vo vs
  sl : Apt vl vs
structure App3 (W : World) (base : Nat) (vo vl vs : Value) (n : Nat) (xo xl xs : List Value) (eo el es : Value) (D : Nat → Bool) (u : Nat → Value) (w : World) : Prop where
  fr : FrN (RB3 vo vl vs) W w
  o : AppI W base 3 4 vo 3 n xo eo D u w
  l : AppI W base 8 9 vl 3 n xl el D u w
  s : AppI W base 14 15 vs 3 n xs es D u w
  p1 : D 4 = true → D 9 = true → Apt (u 4) (u 9)
  p2 : D 4 = true → D 15 = true → Apt (u 4) (u 15)
  p3 : D 9 = true → D 15 = true → Apt (u 9) (u 15)
section
variable {W : World} {base : Nat} {vo vl vs : Value} {n : Nat} {xo xl xs : List Value} {eo el es : Value} {D : Nat → Bool} {u : Nat → Value} {w w' : World}
theorem App3.start (h1 : W.ownsRow base 3 1 vo n xo) (h2 : W.ownsRow base 3 1 vl n xl) (h3 : W.ownsRow base 3 1 vs n xs) : App3 W base vo vl vs n xo xl xs eo el es (fun _ => false) u W.drew :=
  ⟨FrN.refl _ _, AppI.start (own_drew h1), AppI.start (own_drew h2), AppI.start (own_drew h3), (fun h => by cases h), (fun h => by cases h), (fun h => by cases h)⟩
theorem apt_upd {i a b : Nat} {x : Value} (h : D a = true → D b = true → Apt (u a) (u b)) (ha : i ≠ a) (hb : i ≠ b) : updB D i a = true → updB D i b = true → Apt (upd u i x a) (upd u i x b) := by
  rw [updB_ne D (Ne.symm ha), updB_ne D (Ne.symm hb), upd_ne u x (Ne.symm ha), upd_ne u x (Ne.symm hb)]; exact h
theorem App3.other (h : App3 W base vo vl vs n xo xl xs eo el es D u w) {i : Nat} (x : Value) (h3 : i ≠ 3) (h4 : i ≠ 4) (h8 : i ≠ 8) (h9 : i ≠ 9) (h14 : i ≠ 14) (h15 : i ≠ 15) : App3 W base vo vl vs n xo xl xs eo el es (updB D i) (upd u i x) w :=
  ⟨h.fr, h.o.other x h3 h4, h.l.other x h8 h9, h.s.other x h14 h15, apt_upd h.p1 h4 h9, apt_upd h.p2 h4 h15, apt_upd h.p3 h9 h15⟩
theorem App3.lay1 (h : App3 W base vo vl vs n xo xl xs eo el es D u w) (h0 : D 3 = false) : App3 W base vo vl vs n xo xl xs eo el es (updB D 3) (upd u 3 (.slice (some ⟨w.heap.size, 0, none⟩) 1 1)) (w.alloc (.cells #[eo] 3)) :=
  ⟨h.fr.alloc _, h.o.laid (by decide) h0 h.fr.2.2.2.1, (h.l.other _ (by decide) (by decide)).ext (World.grownBy_alloc w _ none), (h.s.other _ (by decide) (by decide)).ext (World.grownBy_alloc w _ none), apt_upd h.p1 (by decide) (by decide), apt_upd h.p2 (by decide) (by decide), apt_upd h.p3 (by decide) (by decide)⟩
theorem App3.lay2 (h : App3 W base vo vl vs n xo xl xs eo el es D u w) (h0 : D 8 = false) : App3 W base vo vl vs n xo xl xs eo el es (updB D 8) (upd u 8 (.slice (some ⟨w.heap.size, 0, none⟩) 1 1)) (w.alloc (.cells #[el] 3)) :=
  ⟨h.fr.alloc _, (h.o.other _ (by decide) (by decide)).ext (World.grownBy_alloc w _ none), h.l.laid (by decide) h0 h.fr.2.2.2.1, (h.s.other _ (by decide) (by decide)).ext (World.grownBy_alloc w _ none), apt_upd h.p1 (by decide) (by decide), apt_upd h.p2 (by decide) (by decide), apt_upd h.p3 (by decide) (by decide)⟩
theorem App3.lay3 (h : App3 W base vo vl vs n xo xl xs eo el es D u w) (h0 : D 14 = false) : App3 W base vo vl vs n xo xl xs eo el es (updB D 14) (upd u 14 (.slice (some ⟨w.heap.size, 0, none⟩) 1 1)) (w.alloc (.cells #[es] 3)) :=
  ⟨h.fr.alloc _, (h.o.other _ (by decide) (by decide)).ext (World.grownBy_alloc w _ none), (h.l.other _ (by decide) (by decide)).ext (World.grownBy_alloc w _ none), h.s.laid (by decide) h0 h.fr.2.2.2.1, apt_upd h.p1 (by decide) (by decide), apt_upd h.p2 (by decide) (by decide), apt_upd h.p3 (by decide) (by decide)⟩
theorem App3.put1 (h : App3 W base vo vl vs n xo xl xs eo el es D u w) (hS : Sep3 W vo vl vs) (h0 : D 4 = false) (h1 : D 3 = true) {v' : Value} (ho : w'.ownsRow base 3 1 v' (n + 1) (xo ++ [eo])) (hg : w.grownBy w' (Value.ownBlock vo)) (hb : v'.ownBlock = Value.ownBlock vo ∨ v'.ownBlock = some w.heap.size) :
    App3 W base vo vl vs n xo xl xs eo el es (updB D 4) (upd u 4 v') w' := by
  have a9 := updB_ne D (show (9 : Nat) ≠ 4 by decide); have a15 := updB_ne D (show (15 : Nat) ≠ 4 by decide)
  have b9 := upd_ne u v' (show (9 : Nat) ≠ 4 by decide); have b15 := upd_ne u v' (show (15 : Nat) ≠ 4 by decide)
  refine ⟨h.fr.grow hg (fun g e => .inl (.inl e)), h.o.done (by decide) h0 h1 h.fr.2.2.2.1 ho hb, (h.l.other _ (by decide) (by decide)).growA hg (fun g e => ⟨hS.lo g e, fun e2 => hS.ol g e e2⟩), (h.s.other _ (by decide) (by decide)).growA hg (fun g e => ⟨hS.lo g e, fun e2 => hS.os g e e2⟩), fun _ h2 => ?_, fun _ h2 => ?_, apt_upd h.p3 (by decide) (by decide)⟩
  · rw [a9] at h2; rw [upd_at, b9]; exact app_apt h.l h2 hS.ol hS.lo hb
  · rw [a15] at h2; rw [upd_at, b15]; exact app_apt h.s h2 hS.os hS.lo hb
theorem App3.put2 (h : App3 W base vo vl vs n xo xl xs eo el es D u w) (hS : Sep3 W vo vl vs) (h0 : D 9 = false) (h1 : D 8 = true) {v' : Value} (ho : w'.ownsRow base 3 1 v' (n + 1) (xl ++ [el])) (hg : w.grownBy w' (Value.ownBlock vl)) (hb : v'.ownBlock = Value.ownBlock vl ∨ v'.ownBlock = some w.heap.size) :
    App3 W base vo vl vs n xo xl xs eo el es (updB D 9) (upd u 9 v') w' := by
  have a4 := updB_ne D (show (4 : Nat) ≠ 9 by decide); have a15 := updB_ne D (show (15 : Nat) ≠ 9 by decide)
  have b4 := upd_ne u v' (show (4 : Nat) ≠ 9 by decide); have b15 := upd_ne u v' (show (15 : Nat) ≠ 9 by decide)
  refine ⟨h.fr.grow hg (fun g e => .inl (.inr (.inl e))), (h.o.other _ (by decide) (by decide)).growA hg (fun g e => ⟨hS.ll g e, fun e2 => hS.ol g e2 e⟩), h.l.done (by decide) h0 h1 h.fr.2.2.2.1 ho hb, (h.s.other _ (by decide) (by decide)).growA hg (fun g e => ⟨hS.ll g e, fun e2 => hS.sl g e e2⟩), fun h2 _ => ?_, apt_upd h.p2 (by decide) (by decide), fun _ h2 => ?_⟩
  · rw [a4] at h2; rw [upd_at, b4]; exact (app_apt h.o h2 hS.ol.symm hS.ll hb).symm
  · rw [a15] at h2; rw [upd_at, b15]; exact app_apt h.s h2 hS.sl hS.ll hb
theorem App3.put3 (h : App3 W base vo vl vs n xo xl xs eo el es D u w) (hS : Sep3 W vo vl vs) (h0 : D 15 = false) (h1 : D 14 = true) {v' : Value} (ho : w'.ownsRow base 3 1 v' (n + 1) (xs ++ [es])) (hg : w.grownBy w' (Value.ownBlock vs)) (hb : v'.ownBlock = Value.ownBlock vs ∨ v'.ownBlock = some w.heap.size) :
    App3 W base vo vl vs n xo xl xs eo el es (updB D 15) (upd u 15 v') w' := by
  have a4 := updB_ne D (show (4 : Nat) ≠ 15 by decide); have a9 := updB_ne D (show (9 : Nat) ≠ 15 by decide)
  have b4 := upd_ne u v' (show (4 : Nat) ≠ 15 by decide); have b9 := upd_ne u v' (show (9 : Nat) ≠ 15 by decide)
  refine ⟨h.fr.grow hg (fun g e => .inl (.inr (.inr e))), (h.o.other _ (by decide) (by decide)).growA hg (fun g e => ⟨hS.ls g e, fun e2 => hS.os g e2 e⟩), (h.l.other _ (by decide) (by decide)).growA hg (fun g e => ⟨hS.ls g e, fun e2 => hS.sl g e2 e⟩), h.s.done (by decide) h0 h1 h.fr.2.2.2.1 ho hb, apt_upd h.p1 (by decide) (by decide), fun h2 _ => ?_, fun h2 _ => ?_⟩
  · rw [a4] at h2; rw [upd_at, b4]; exact (app_apt h.o h2 hS.os.symm hS.ls hb).symm
  · rw [a9] at h2; rw [upd_at, b9]; exact (app_apt h.l h2 hS.sl.symm hS.ls hb).symm
end
/-- the rows of the lines of events -/
structure Lns (base : Nat) (w : World) (vc vo vl vs vt : Value) (cs : List Int) (L : List LineD) (T : List Int) : Prop where
  c : w.ownsRow base 3 1 vc cs.length (cs.map (.int .i64))
  o : w.ownsRow base 3 1 vo L.length (L.map (fun x => .int .i64 x.off))
  l : w.ownsRow base 3 1 vl L.length (L.map (fun x => .int .i64 x.len))
  s : w.ownsRow base 3 1 vs L.length (L.map (fun x => .int .i64 (x.text.size : Nat)))
  t : Byts base w vt T
  co : Apt vc vo
  cl : Apt vc vl
  cs_ : Apt vc vs
  ol : Apt vo vl
  os : Apt vo vs
  sl : Apt vl vs
section
variable {base : Nat} {w w' : World} {vc vo vl vs vt v' : Value} {cs : List Int} {L : List LineD} {T : List Int}
theorem apt_nil {v : Value} : Apt v (.slice none 0 0) := fun g _ h => by simp [Value.ownBlock] at h
theorem Lns.nil : Lns base w (.slice none 0 0) (.slice none 0 0) (.slice none 0 0) (.slice none 0 0) (.slice none 0 0) [] [] [] :=
  ⟨World.ownsRow_nil _ _ _ _, World.ownsRow_nil _ _ _ _, World.ownsRow_nil _ _ _ _, World.ownsRow_nil _ _ _ _, Byts.nil _ _, apt_nil, apt_nil, apt_nil, apt_nil, apt_nil, apt_nil⟩
theorem Lns.ext (h : Lns base w vc vo vl vs vt cs L T) (hg : w.grownBy w' none) : Lns base w' vc vo vl vs vt cs L T :=
  ⟨own_ext h.c hg, own_ext h.o hg, own_ext h.l hg, own_ext h.s hg, own_ext h.t hg, h.co, h.cl, h.cs_, h.ol, h.os, h.sl⟩
theorem own_lt {e z n : Nat} {v : Value} {xs : List Value} (h : w.ownsRow base e z v n xs) : ∀ g, v.ownBlock = some g → g < w.heap.size := fun g e => (World.ownsRow.lt h g e).2
theorem Lns.cnt (h : Lns base w vc vo vl vs vt cs L T) {m : Int} (ho : w'.ownsRow base 3 1 v' (cs.length + 1) (cs.map (.int .i64) ++ [.int .i64 m])) (hg : w.grownBy w' vc.ownBlock) (hb : v'.ownBlock = vc.ownBlock ∨ v'.ownBlock = some (w.heap.size + 1)) :
    Lns base w' v' vo vl vs vt (cs ++ [m]) L T := by
  have hO : Onto w vc v' w' := onto_ap hg hb
  exact ⟨by rw [List.length_append, List.map_append]; exact ho, h.co.symm.keep h.o hg, h.cl.symm.keep h.l hg, h.cs_.symm.keep h.s hg, own_rowK h.t hg (own_rowT h.c) (by decide), (h.co.symm.onto hO (own_lt h.o)).symm, (h.cl.symm.onto hO (own_lt h.l)).symm, (h.cs_.symm.onto hO (own_lt h.s)).symm, h.ol, h.os, h.sl⟩
theorem Lns.txt (h : Lns base w vc vo vl vs vt cs L T) {T' : List Int} (ho : Byts base w' v' T') (hg : w.grownBy w' vt.ownBlock) : Lns base w' vc vo vl vs v' cs L T' :=
  ⟨own_rowK h.c hg (own_rowT h.t) (by decide), own_rowK h.o hg (own_rowT h.t) (by decide), own_rowK h.l hg (own_rowT h.t) (by decide), own_rowK h.s hg (own_rowT h.t) (by decide), ho, h.co, h.cl, h.cs_, h.ol, h.os, h.sl⟩
theorem Lns.sep (h : Lns base w vc vo vl vs vt cs L T) : Sep3 w vo vl vs := ⟨own_lt h.o, own_lt h.l, own_lt h.s, h.ol, h.os, h.sl⟩
/-- behind the region of three appends -/
theorem Lns.three (h : Lns base w vc vo vl vs vt cs L T) {x : LineD} {D : Nat → Bool} {u : Nat → Value} (k : App3 w base vo vl vs L.length (L.map (fun x => .int .i64 x.off)) (L.map (fun x => .int .i64 x.len)) (L.map (fun x => .int .i64 (x.text.size : Nat))) (.int .i64 x.off) (.int .i64 x.len) (.int .i64 (x.text.size : Nat)) D u w')
    (h4 : D 4 = true) (h9 : D 9 = true) (h15 : D 15 = true) : Lns base w' vc (u 4) (u 9) (u 15) vt cs (L ++ [x]) T := by
  obtain ⟨o1, o2⟩ := k.o.after h4
  obtain ⟨l1, l2⟩ := k.l.after h9
  obtain ⟨s1, s2⟩ := k.s.after h15
  have far : ∀ {v v2 : Value}, Apt vc v → (∀ g, v2.ownBlock = some g → v.ownBlock = some g ∨ w.heap.size ≤ g) → Apt vc v2 := by
    intro v v2 hA hn g e1 e2
    rcases hn g e2 with h1 | h1
    · exact hA g e1 h1
    · have := own_lt h.c g e1; omega
  refine ⟨?_, by rw [List.length_append, List.map_append]; exact o1, by rw [List.length_append, List.map_append]; exact l1, by rw [List.length_append, List.map_append]; exact s1, ?_, far h.co o2, far h.cl l2, far h.cs_ s2, k.p1 h4 h9, k.p2 h4 h15, k.p3 h9 h15⟩
  · refine own_stay h.c (fun g e => k.fr.2.2.2.2 g (own_lt h.c g e) ?_)
    rintro (h1 | h1 | h1)
    · exact h.co g e h1
    · exact h.cl g e h1
    · exact h.cs_ g e h1
  · refine own_stay h.t (fun g e => k.fr.2.2.2.2 g (own_lt h.t g e) ?_)
    obtain ⟨c0, hc0⟩ := own_rowT h.t g e
    rintro (h1 | h1 | h1)
    · obtain ⟨c1, hc1⟩ := own_rowT h.o g h1; rw [hc0] at hc1; injection hc1 with hc1; injection hc1 with _ hc1 _; exact absurd hc1 (by decide)
    · obtain ⟨c1, hc1⟩ := own_rowT h.l g h1; rw [hc0] at hc1; injection hc1 with hc1; injection hc1 with _ hc1 _; exact absurd hc1 (by decide)
    · obtain ⟨c1, hc1⟩ := own_rowT h.s g h1; rw [hc0] at hc1; injection hc1 with hc1; injection hc1 with _ hc1 _; exact absurd hc1 (by decide)
end
end Go.Proofs.YtpaiideboodaeaaGreatDoor
