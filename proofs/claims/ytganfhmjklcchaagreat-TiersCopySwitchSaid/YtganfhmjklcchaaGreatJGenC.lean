/- Steps of a drawn region under wp_region_gen: known values, guards. No condition. -/
import Derived.Test.YtganfhmjklcchaaGreatJInv
import Derived.Test.YtganfhmjklcchaaGreatJBase
import Derived.StillTailTactics
namespace Go.Proofs.YtganfhmjklcchaaGreat
open Go.RowKit
set_option linter.unusedVariables false
set_option linter.unusedSimpArgs false

theorem wanted_at {ops : Array Oper} {hd : List Oper} {a : Act} {u : Nat → Value} {o : Oper} {g t : Nat} {b v : Bool} (hg : o.guard = some (g, b)) (hop : ((ops[g]?).bind (·.dst)) = some t) (hap : dstApart hd = true) (hx : isDst hd g t = true) (ht : t < a.tmps.size) (hv : u g = .bool v) :
    Region.wanted o (yielded ops (putAll u 0 hd a).tmps) = (v == b) := by
  have h1 := putAll_at u hd 0 g a t hap hx ht
  rw [Nat.zero_add, hv] at h1
  have hsz := putAll_size u hd 0 a
  have h2 : (putAll u 0 hd a).tmps[t]? = some (.bool v) := by
    have h3 : (putAll u 0 hd a).eval (.tmp t) = (putAll u 0 hd a).tmps.getD t undef := rfl
    rw [h3] at h1
    have hlt : t < (putAll u 0 hd a).tmps.size := by omega
    simp only [Array.getD, hlt, dif_pos] at h1
    rw [Array.getElem?_eq_getElem hlt]
    exact congrArg some h1
  unfold Region.wanted yielded
  rw [hg]
  simp only [hop, Option.bind_some, h2]
  cases v <;> cases b <;> rfl
theorem wanted_not {ops : Array Oper} {hd : List Oper} {a : Act} {u : Nat → Value} {o : Oper} {g t : Nat} {b : Bool} (hg : o.guard = some (g, b)) (hop : ((ops[g]?).bind (·.dst)) = some t) (hap : dstApart hd = true) (hx : isDst hd g t = true) (ht : t < a.tmps.size) (hv : u g = undef) :
    Region.wanted o (yielded ops (putAll u 0 hd a).tmps) = false := by
  have h1 := putAll_at u hd 0 g a t hap hx ht
  rw [Nat.zero_add, hv] at h1
  have hsz := putAll_size u hd 0 a
  have h2 : (putAll u 0 hd a).tmps[t]? = some undef := by
    have h3 : (putAll u 0 hd a).eval (.tmp t) = (putAll u 0 hd a).tmps.getD t undef := rfl
    rw [h3] at h1
    have hlt : t < (putAll u 0 hd a).tmps.size := by omega
    simp only [Array.getD, hlt, dif_pos] at h1
    rw [Array.getElem?_eq_getElem hlt]
    exact congrArg some h1
  unfold Region.wanted yielded
  rw [hg]
  simp only [hop, Option.bind_some, h2]
  rfl
/-- the known values, and what else holds -/
def JC (cs : List (Option Value)) (X : (Nat → Bool) → (Nat → Value) → World → Prop) (D : Nat → Bool) (u : Nat → Value) (w : World) : Prop := (∀ j c, cs[j]? = some (some c) → D j = true → u j = c) ∧ X D u w
/-- the other part does not ask about operation i -/
def Deaf (X : (Nat → Bool) → (Nat → Value) → World → Prop) (i : Nat) : Prop := ∀ D u w v, X D u w → X (updB D i) (upd u i v) w
structure KG (ops : Array Oper) (hd : List Oper) (a : Act) (cs : List (Option Value)) (X : (Nat → Bool) → (Nat → Value) → World → Prop) (i : Nat) (D : Nat → Bool) (u : Nat → Value) (ρ : Operand → Value) (w : World) : Prop where
  rho : Rho hd a u ρ
  inv : ∀ j c, cs[j]? = some (some c) → D j = true → u j = c
  ext : X D u w
  dep : ∀ j, Region.waitsFor .any ops i j = true → D j = true
section
variable {Q : Exit → Act → World → Prop} {ops : Array Oper} {hd : List Oper} {a : Act} {cs : List (Option Value)} {X : (Nat → Bool) → (Nat → Value) → World → Prop} {i : Nat} {o : Oper} {D : Nat → Bool} {u : Nat → Value} {ρ : Operand → Value} {w : World}
theorem KG.con (k : KG ops hd a cs X i D u ρ w) (j x : Nat) {c : Value} (hx : isDst hd j x = true) (hxs : x < a.tmps.size) (wx : Region.waitsFor .any ops i j = true) (hc : cs[j]? = some (some c)) : ρ (.tmp x) = c :=
  (k.rho.at_ j x hx hxs).trans (k.inv j c hc (k.dep j wx))
theorem KG.slot (k : KG ops hd a cs X i D u ρ w) (j x : Nat) (hx : isDst hd j x = true) (hxs : x < a.tmps.size) : ρ (.tmp x) = u j := k.rho.at_ j x hx hxs
theorem KG.own (k : KG ops hd a cs X i D u ρ w) (x : Nat) {c : Value} (hx : hd.all (fun o => o.dst != some x) = true) (hc : a.eval (.tmp x) = c) : ρ (.tmp x) = c := (k.rho.other x hx).trans hc
theorem jc_set {v : Value} {w' : World} (h : ∀ j c, cs[j]? = some (some c) → D j = true → u j = c) (hc : ∀ c, cs[i]? = some (some c) → v = c) (hX : X (updB D i) (upd u i v) w') : JC cs X (updB D i) (upd u i v) w' := by
  refine ⟨fun j c hj hD => ?_, hX⟩
  by_cases e : j = i
  · subst e; rw [upd_at]; exact hc c hj
  · rw [upd_ne _ _ e]; rw [updB_ne _ e] at hD; exact h j c hj hD
/-- whether the operation is carried out, as known ahead: no guard, or a guard of known value -/
def Want (ops : Array Oper) (hd : List Oper) (a : Act) (cs : List (Option Value)) (i : Nat) (o : Oper) (b : Bool) : Prop :=
  (o.guard = none ∧ b = true) ∨ ∃ g b0 v t, o.guard = some (g, b0) ∧ ((ops[g]?).bind (·.dst)) = some t ∧ isDst hd g t = true ∧ t < a.tmps.size ∧ ((cs[g]? = some (some (.bool v)) ∧ (v == b0) = b) ∨ (cs[g]? = some (some undef) ∧ b = false)) ∧ Region.waitsFor .any ops i g = true
theorem Want.none_ (h : o.guard = none) : Want ops hd a cs i o true := .inl ⟨h, rfl⟩
theorem Want.some_ {g : Nat} {b0 v b : Bool} {t : Nat} (h1 : o.guard = some (g, b0)) (h2 : ((ops[g]?).bind (·.dst)) = some t) (h3 : isDst hd g t = true) (h4 : t < a.tmps.size) (h5 : cs[g]? = some (some (.bool v))) (h6 : (v == b0) = b) (h7 : Region.waitsFor .any ops i g = true) : Want ops hd a cs i o b := .inr ⟨g, b0, v, t, h1, h2, h3, h4, .inl ⟨h5, h6⟩, h7⟩
theorem Want.undef_ {g : Nat} {b0 : Bool} {t : Nat} (h1 : o.guard = some (g, b0)) (h2 : ((ops[g]?).bind (·.dst)) = some t) (h3 : isDst hd g t = true) (h4 : t < a.tmps.size) (h5 : cs[g]? = some (some undef)) (h7 : Region.waitsFor .any ops i g = true) : Want ops hd a cs i o false := .inr ⟨g, b0, false, t, h1, h2, h3, h4, .inr ⟨h5, rfl⟩, h7⟩
theorem Want.is {b : Bool} (h : Want ops hd a cs i o b) (hap : dstApart hd = true) (hi : ∀ j c, cs[j]? = some (some c) → D j = true → u j = c) (hd' : ∀ j, Region.waitsFor .any ops i j = true → D j = true) : Region.wanted o (yielded ops (putAll u 0 hd a).tmps) = b := by
  rcases h with ⟨h1, h2⟩ | ⟨g, b0, v, t, h1, h2, h3, h4, ⟨h5, h6⟩ | ⟨h5, rfl⟩, h7⟩
  · subst h2; simp [Region.wanted, h1]
  · rw [wanted_at h1 h2 hap h3 h4 (hi g _ h5 (hd' g h7)), h6]
  · exact wanted_not h1 h2 hap h3 h4 (hi g _ h5 (hd' g h7))
/-- an operation of a known value that leaves the world -/
theorem gd_gen (hap : dstApart hd = true) (hw : Want ops hd a cs i o true) {c : Value} (hc : cs[i]? = some (some c)) (hX : Deaf X i) (h : ∀ D u ρ w, KG ops hd a cs X i D u ρ w → (execOp ρ o).run Tryz.prog w = .ok (.value c) w) : GenOk Tryz.prog Q ops hd a (JC cs X) i o := by
  refine ⟨?_⟩
  rintro D u w ⟨hi, hx⟩ hdep hnot K hK
  rw [if_pos (hw.is hap hi hdep)]
  unfold Oper.wp
  rw [h D u _ w ⟨Rho.mk_ hap u, hi, hx, hdep⟩]
  simp only [Oper.upon]
  exact hK c w (jc_set hi (fun c' h' => by rw [hc] at h'; injection h' with h'; injection h') (hX D u w c hx))
/-- an operation that is not carried out -/
theorem gd_off (hap : dstApart hd = true) (hw : Want ops hd a cs i o false) (hc : cs[i]? = some none ∨ cs[i]? = some (some undef)) (hX : Deaf X i) : GenOk Tryz.prog Q ops hd a (JC cs X) i o := by
  refine ⟨?_⟩
  rintro D u w ⟨hi, hx⟩ hdep hnot K hK
  rw [if_neg (by rw [hw.is hap hi hdep]; simp)]
  have h1 := hK undef w (jc_set hi (fun c' h' => by rcases hc with hc | hc <;> rw [hc] at h' <;> injection h' with h'; cases h'; injection h') (hX D u w undef hx))
  exact h1
/-- an operation with a value that turns the world -/
theorem gd_eff (hap : dstApart hd = true) (hw : Want ops hd a cs i o true) (h : ∀ D u ρ w, KG ops hd a cs X i D u ρ w → D i = false → ∃ v w', (execOp ρ o).run Tryz.prog w = .ok (.value v) w' ∧ (∀ c, cs[i]? = some (some c) → v = c) ∧ X (updB D i) (upd u i v) w') : GenOk Tryz.prog Q ops hd a (JC cs X) i o := by
  refine ⟨?_⟩
  rintro D u w ⟨hi, hx⟩ hdep hnot K hK
  rw [if_pos (hw.is hap hi hdep)]
  obtain ⟨v, w', h1, h2, h3⟩ := h D u _ w ⟨Rho.mk_ hap u, hi, hx, hdep⟩ hnot
  unfold Oper.wp
  rw [h1]
  simp only [Oper.upon]
  exact hK v w' (jc_set hi h2 h3)
/-- an operation without a value -/
theorem gd_skip (hap : dstApart hd = true) (hw : Want ops hd a cs i o true) (hc : cs[i]? = some none) (h : ∀ D u ρ w, KG ops hd a cs X i D u ρ w → D i = false → ∃ w', (execOp ρ o).run Tryz.prog w = .ok .skip w' ∧ X (updB D i) (upd u i undef) w') : GenOk Tryz.prog Q ops hd a (JC cs X) i o := by
  refine ⟨?_⟩
  rintro D u w ⟨hi, hx⟩ hdep hnot K hK
  rw [if_pos (hw.is hap hi hdep)]
  obtain ⟨w', h1, h3⟩ := h D u _ w ⟨Rho.mk_ hap u, hi, hx, hdep⟩ hnot
  unfold Oper.wp
  rw [h1]
  simp only [Oper.upon]
  exact hK undef w' (jc_set hi (fun c h' => by rw [hc] at h'; injection h' with h'; cases h') h3)
/-- a call -/
theorem gd_call (hap : dstApart hd = true) (hw : Want ops hd a cs i o true) (f : FuncId) (h : ∀ D u ρ w, KG ops hd a cs X i D u ρ w → D i = false → ∃ args, (execOp ρ o).run Tryz.prog w = .ok (.enter f args) w ∧ Calls Tryz.prog f args w (fun e w' => ∃ v, e = .returned v ∧ (∀ c, cs[i]? = some (some c) → v = c) ∧ X (updB D i) (upd u i v) w')) : GenOk Tryz.prog Q ops hd a (JC cs X) i o := by
  refine ⟨?_⟩
  rintro D u w ⟨hi, hx⟩ hdep hnot K hK
  rw [if_pos (hw.is hap hi hdep)]
  unfold Oper.wp
  obtain ⟨args, h0, h⟩ := h D u _ w ⟨Rho.mk_ hap u, hi, hx, hdep⟩ hnot
  rw [h0]
  simp only [Oper.upon]
  refine h.mono ?_
  rintro e w' ⟨v, rfl, h2, h3⟩
  exact hK v w' (jc_set hi h2 h3)
end
end Go.Proofs.YtganfhmjklcchaaGreat

namespace Go.Proofs.YtganfhmjklcchaaGreat
open Go.RowKit
set_option linter.unusedVariables false
set_option linter.unusedSimpArgs false

theorem cellG {w w' : World} (h : w.grownBy w' none) {b o : Nat} (hb : b < w.heap.size) : w'.cell? ⟨b, o, none⟩ = w.cell? ⟨b, o, none⟩ := World.cell?_of_block (a := ⟨b, o, none⟩) (h.block b hb (by simp))
theorem run_load (ρ : Operand → Value) (w : World) {o : Oper} {t : TypeId} {x : Nat} {p c : Value} (ho : o.op = .load t (.tmp x)) (hx : ρ (.tmp x) = p) (h : (Instr.loadAt t p).run Tryz.prog w = .ok c w) : (execOp ρ o).run Tryz.prog w = .ok (.value c) w := by
  simp only [execOp, ho, hx, Sem.run_bind, h, Result.andThen_ok, Sem.run_pure]
/-- a fresh slice of strings: what a call of Clone or Distinct has given back -/
def FreshS (base : Nat) (ss : List Value) (n : Nat) (e : TypeId) (w : World) (v : Value) : Prop := ∃ A c, v = .slice A n c ∧ n ≤ c ∧ c ≤ maxLen ∧ w.ownsRow base e 1 (.slice A n c) n ss
theorem FreshS.grown {base n : Nat} {ss : List Value} {e : TypeId} {w w' : World} {v : Value} (h : FreshS base ss n e w v) (hg : w.grownBy w' none) : FreshS base ss n e w' v := by
  obtain ⟨A, c, h1, h2, h3, h4⟩ := h
  exact ⟨A, c, h1, h2, h3, own_ext h4 hg⟩
theorem FreshS.of {base b0 n : Nat} {ss : List Value} {e : TypeId} {w : World} {A : Option Addr} {c : Nat} (h : w.ownsRow b0 e 1 (.slice A n c) n ss) (hb : base ≤ b0) : FreshS base ss n e w (.slice A n c) := by
  obtain ⟨A', c', e1, h2, h3, -, -⟩ := Rd.of_own h (by decide)
  injection e1 with e1 e2 e3
  subst e1 e3
  exact ⟨A, c, rfl, h2, h3, ⟨h.1, h.2.imp id fun ⟨g, cap, cur, h1, h2, h3⟩ => ⟨g, cap, cur, h1, Nat.le_trans hb h2, h3⟩⟩⟩
theorem rd_ownG {w : World} {base e n z : Nat} {A : Option Addr} {c : Nat} {xs : List Value} (h : w.ownsRow base e z (.slice A n c) n xs) (hz : 0 < z := by decide) : Rd (base ≤ ·) w A xs := by
  obtain ⟨A', c', e1, _, _, _, hr⟩ := Rd.of_own h hz
  injection e1 with e1
  rw [e1]; exact hr
section
variable {Q : Exit → Act → World → Prop} {ops : Array Oper} {hd : List Oper} {a : Act} {cs : List (Option Value)} {X : (Nat → Bool) → (Nat → Value) → World → Prop} {i : Nat} {o : Oper}
/-- a call of a function that is known only when it comes up -/
theorem gd_callE (hap : dstApart hd = true) (hw : Want ops hd a cs i o true) (h : ∀ D u ρ w, KG ops hd a cs X i D u ρ w → D i = false → ∃ f args, (execOp ρ o).run Tryz.prog w = .ok (.enter f args) w ∧ Calls Tryz.prog f args w (fun e w' => ∃ v, e = .returned v ∧ (∀ c, cs[i]? = some (some c) → v = c) ∧ X (updB D i) (upd u i v) w')) : GenOk Tryz.prog Q ops hd a (JC cs X) i o := by
  refine ⟨?_⟩
  rintro D u w ⟨hi, hx⟩ hdep hnot K hK
  rw [if_pos (hw.is hap hi hdep)]
  unfold Oper.wp
  obtain ⟨f, args, h0, h⟩ := h D u _ w ⟨Rho.mk_ hap u, hi, hx, hdep⟩ hnot
  rw [h0]
  simp only [Oper.upon]
  refine h.mono ?_
  rintro e w' ⟨v, rfl, h2, h3⟩
  exact hK v w' (jc_set hi h2 h3)
end
theorem rd_notB {w : World} {base e n z pb : Nat} {A : Option Addr} {c : Nat} {xs : List Value} (h : w.ownsRow base e z (.slice A n c) n xs) (hp : Value.ownBlock (.slice A n c) ≠ some pb) (hz : 0 < z := by decide) : Rd (fun b => base ≤ b ∧ b ≠ pb) w A xs := by
  intro hn
  obtain ⟨b, o, e1, h1, h2, h3⟩ := rd_ownG h hz hn
  refine ⟨b, o, e1, ⟨h1, fun e2 => hp ?_⟩, h2, h3⟩
  rcases h.2 with ⟨e3, _⟩ | ⟨g, cap, cur, e3, _⟩
  · injection e3 with e3; rw [e3] at e1; cases e1
  · injection e3 with e3 _ _
    rw [e3] at e1
    injection e1 with e1
    injection e1 with e1 _
    rw [e3, e1, e2]; rfl
end Go.Proofs.YtganfhmjklcchaaGreat

namespace Go.Proofs.YtganfhmjklcchaaGreat
open Go.RowKit
set_option linter.unusedVariables false
set_option linter.unusedSimpArgs false

theorem Rd.flatAt {α : Type} {f : α → List Value} {z : Nat} (hf : ∀ x, (f x).length = z) {S : Nat → Prop} {w : World} {b off : Nat} {l : List α} (h : Rd S w (some ⟨b, off, none⟩) (l.flatMap f)) {i : Nat} {x : α} (hx : l[i]? = some x) (j : Nat) (hj : j < z) : w.cell? ⟨b, off + i * z + j, none⟩ = (f x)[j]? := by
  obtain ⟨hi, hxi⟩ := List.getElem?_eq_some_iff.1 hx
  rw [Nat.add_assoc]
  obtain ⟨b', off', e, _, _, hc⟩ := h (by rw [flat_len _ z hf]; exact Nat.mul_pos (by omega) (by omega))
  injection e with e
  injection e with e1 e2
  subst e1 e2
  have h1 := flat_at f z hf l i j hi hj
  rw [hxi] at h1
  have h2 : (f x)[j]? = some ((f x)[j]'(by rw [hf]; exact hj)) := List.getElem?_eq_getElem _
  rw [h2]
  exact hc _ _ (h1.trans h2)
end Go.Proofs.YtganfhmjklcchaaGreat

namespace Go.Proofs.YtganfhmjklcchaaGreat
open Go.RowKit
set_option linter.unusedVariables false
set_option linter.unusedSimpArgs false
theorem Rd.dropG {S : Nat → Prop} {w : World} {b off : Nat} {xs : List Value} (h : Rd S w (some ⟨b, off, none⟩) xs) (m : Nat) : Rd S w (some ⟨b, off + m, none⟩) (xs.drop m) := by
  have := h.drop m
  have hadd : (⟨b, off, none⟩ : Addr).add m = ⟨b, off + m, none⟩ := by unfold Addr.add; split <;> simp_all
  rw [Option.map_some, hadd] at this
  exact this
def tailG (off z c : Nat) : Nat := if c = 1 then off else off + z
theorem run_tailG (ρ : Operand → Value) (w : World) {o : Oper} {t e : TypeId} {z x b off n c : Nat} (ho : o.op = .slice t (.tmp x) (some (.const (.int .i64 1))) none none) (ht : Tryz.prog.underlying t = some (.slice e)) (hz : (Tryz.prog.info? e).map (·.size) = some z)
    (hc : ∀ v, ρ (.const v) = v) (hx : ρ (.tmp x) = .slice (some ⟨b, off, none⟩) (n + 1) c) (h1 : n + 1 ≤ c) : (execOp ρ o).run Tryz.prog w = .ok (.value (.slice (some ⟨b, tailG off z c, none⟩) n (c - 1))) w := by
  obtain ⟨i, hi, hiz⟩ : ∃ i, Tryz.prog.info? e = some i ∧ i.size = z := by
    cases h : Tryz.prog.info? e with
    | none => rw [h] at hz; cases hz
    | some i => rw [h] at hz; exact ⟨i, rfl, by simpa using hz⟩
  have hs : (sizeOf e).run Tryz.prog w = .ok z w := by simp [sizeOf, typeInfo, hi, hiz, Sem.run_bind, go_sem]
  have e3 : (1 : Int) ≤ (n : Int) + 1 := by omega
  by_cases h : c = 1
  · subst h
    obtain rfl : n = 0 := by omega
    simp [execOp, ho, hc, hx, go_sem, tailG, ht, hs]
  · have e0 : (0 : Int) ≤ (c : Int) - 1 := by omega
    have e1 : (1 : Int) ≤ (c : Int) := by omega
    have e2 : (n : Int) + 1 ≤ (c : Int) := by omega
    simp [execOp, ho, hc, hx, go_sem, tailG, ht, hs, h, e0, e1, e2, e3]
theorem wpList_tailG {ops : Array Oper} {rest : List Oper} {o : Oper} {a : Act} {w : World} {Q : Exit → Act → World → Prop} (hgd : o.guard = none) {t e : TypeId} {z x b off n c : Nat} (ho : o.op = .slice t (.tmp x) (some (.const (.int .i64 1))) none none) (ht : Tryz.prog.underlying t = some (.slice e)) (hz : (Tryz.prog.info? e).map (·.size) = some z)
    (hx : a.eval (.tmp x) = .slice (some ⟨b, off, none⟩) (n + 1) c) (h1 : n + 1 ≤ c) (h : wpList Tryz.prog ops Q rest (a.put o.dst (.slice (some ⟨b, tailG off z c, none⟩) n (c - 1))) w) : wpList Tryz.prog ops Q (o :: rest) a w :=
  wpList_plain hgd fun K hK => by
    unfold Oper.wp
    rw [run_tailG a.eval w ho ht hz (fun v => rfl) hx h1]
    exact hK _ _ h
theorem Rd.tailG_ {S : Nat → Prop} {w : World} {b off z n c : Nat} {x xs : List Value} (h : Rd S w (some ⟨b, off, none⟩) (x ++ xs)) (hx : x.length = z) (hl : xs.length = n * z) (h1 : n + 1 ≤ c) : Rd S w (some ⟨b, tailG off z c, none⟩) xs := by
  unfold tailG
  split
  · obtain rfl : n = 0 := by omega
    intro h0; rw [hl] at h0; omega
  · have := h.dropG z
    rw [List.drop_left' hx] at this
    exact this
theorem wpStill_tailG {ops : Array Oper} {rest : List Oper} {o : Oper} {a : Act} {w : World} {Q : Act → Prop} (hgd : o.guard = none) {t e : TypeId} {z x b off n c : Nat} (ho : o.op = .slice t (.tmp x) (some (.const (.int .i64 1))) none none) (ht : Tryz.prog.underlying t = some (.slice e)) (hz : (Tryz.prog.info? e).map (·.size) = some z)
    (hx : a.eval (.tmp x) = .slice (some ⟨b, off, none⟩) (n + 1) c) (h1 : n + 1 ≤ c) (h : wpStill Tryz.prog ops w Q rest (a.put o.dst (.slice (some ⟨b, tailG off z c, none⟩) n (c - 1)))) : wpStill Tryz.prog ops w Q (o :: rest) a :=
  wpStill_step fun K hK => by
    rw [if_pos (by simp [Region.wanted, hgd])]
    unfold Oper.still
    rw [run_tailG a.eval w ho ht hz (fun v => rfl) hx h1, Oper.stillUpon_value]
    exact hK _ h
end Go.Proofs.YtganfhmjklcchaaGreat

namespace Go.Proofs.YtganfhmjklcchaaGreat
open Go.RowKit
set_option linter.unusedVariables false
set_option linter.unusedSimpArgs false

def cutG (off z c k : Nat) : Nat := if c = k then off else off + k * z
theorem run_cutG (ρ : Operand → Value) (w : World) {o : Oper} {t e : TypeId} {z x y b off n c k : Nat} (ho : o.op = .slice t (.tmp x) (some (.tmp y)) none none) (ht : Tryz.prog.underlying t = some (.slice e)) (hz : (Tryz.prog.info? e).map (·.size) = some z)
    (hx : ρ (.tmp x) = .slice (some ⟨b, off, none⟩) n c) (hy : ρ (.tmp y) = .int .i64 k) (h1 : n ≤ c) (hk : k ≤ n) : (execOp ρ o).run Tryz.prog w = .ok (.value (.slice (some ⟨b, cutG off z c k, none⟩) (n - k) (c - k))) w := by
  obtain ⟨i, hi, hiz⟩ : ∃ i, Tryz.prog.info? e = some i ∧ i.size = z := by
    cases h : Tryz.prog.info? e with
    | none => rw [h] at hz; cases hz
    | some i => rw [h] at hz; exact ⟨i, rfl, by simpa using hz⟩
  have hs : (sizeOf e).run Tryz.prog w = .ok z w := by simp [sizeOf, typeInfo, hi, hiz, Sem.run_bind, go_sem]
  have e3 : (k : Int) ≤ (n : Int) := by omega
  have e2 : (n : Int) ≤ (c : Int) := by omega
  have e4 : (k : Int) ≤ (c : Int) := by omega
  have e5 : (0 : Int) ≤ (k : Int) := by omega
  have e6 : ((n : Int) - (k : Int)).toNat = n - k := by omega
  have e7 : ((c : Int) - (k : Int)).toNat = c - k := by omega
  by_cases h : c = k
  · subst h
    obtain rfl : n = c := by omega
    simp [execOp, ho, hx, hy, go_sem, cutG, ht, hs]
  · have e0 : ¬ ((c : Int) - (k : Int) = 0) := by omega
    have e8 : ¬ (c - k = 0) := by omega
    have e9 : ¬ ((c : Int) = (k : Int)) := by omega
    simp [execOp, ho, hx, hy, go_sem, cutG, ht, hs, h, e0, e2, e3, e4, e5, e6, e7, e8, e9]
theorem wpList_cutG {ops : Array Oper} {rest : List Oper} {o : Oper} {a : Act} {w : World} {Q : Exit → Act → World → Prop} (hgd : o.guard = none) {t e : TypeId} {z x y b off n c k : Nat} (ho : o.op = .slice t (.tmp x) (some (.tmp y)) none none) (ht : Tryz.prog.underlying t = some (.slice e)) (hz : (Tryz.prog.info? e).map (·.size) = some z)
    (hx : a.eval (.tmp x) = .slice (some ⟨b, off, none⟩) n c) (hy : a.eval (.tmp y) = .int .i64 k) (h1 : n ≤ c) (hk : k ≤ n) (h : wpList Tryz.prog ops Q rest (a.put o.dst (.slice (some ⟨b, cutG off z c k, none⟩) (n - k) (c - k))) w) : wpList Tryz.prog ops Q (o :: rest) a w :=
  wpList_plain hgd fun K hK => by
    unfold Oper.wp
    rw [run_cutG a.eval w ho ht hz hx hy h1 hk]
    exact hK _ _ h
theorem wpStill_cutG {ops : Array Oper} {rest : List Oper} {o : Oper} {a : Act} {w : World} {Q : Act → Prop} (hgd : o.guard = none) {t e : TypeId} {z x y b off n c k : Nat} (ho : o.op = .slice t (.tmp x) (some (.tmp y)) none none) (ht : Tryz.prog.underlying t = some (.slice e)) (hz : (Tryz.prog.info? e).map (·.size) = some z)
    (hx : a.eval (.tmp x) = .slice (some ⟨b, off, none⟩) n c) (hy : a.eval (.tmp y) = .int .i64 k) (h1 : n ≤ c) (hk : k ≤ n) (h : wpStill Tryz.prog ops w Q rest (a.put o.dst (.slice (some ⟨b, cutG off z c k, none⟩) (n - k) (c - k)))) : wpStill Tryz.prog ops w Q (o :: rest) a :=
  wpStill_step fun K hK => by
    rw [if_pos (by simp [Region.wanted, hgd])]
    unfold Oper.still
    rw [run_cutG a.eval w ho ht hz hx hy h1 hk, Oper.stillUpon_value]
    exact hK _ h
theorem Rd.cutG_ {S : Nat → Prop} {w : World} {b off z n c k : Nat} {xs : List Value} (h : Rd S w (some ⟨b, off, none⟩) xs) (hl : xs.length = n * z) (h1 : n ≤ c) (hk : k ≤ n) : Rd S w (some ⟨b, cutG off z c k, none⟩) (xs.drop (k * z)) := by
  unfold cutG
  split
  · obtain rfl : n = k := by omega
    intro h0; rw [List.length_drop, hl] at h0; omega
  · exact h.dropG (k * z)
end Go.Proofs.YtganfhmjklcchaaGreat
