/- A drawn region by one invariant that knows which operations are done: the more general law. No condition. -/
import Derived.Test.YtfkgcighooijhaaGreatDoorInv
import Derived.Test.YtfkgcighooijhaaGreatDoorBase
namespace Go.Proofs.YtfkgcighooijhaaGreatDoor
set_option linter.unusedVariables false
set_option linter.unusedSimpArgs false

def updB (D : Nat → Bool) (i : Nat) : Nat → Bool := fun j => if j = i then true else D j
theorem updB_at (D : Nat → Bool) (i : Nat) : updB D i i = true := by simp [updB]
theorem updB_ne (D : Nat → Bool) {i j : Nat} (h : j ≠ i) : updB D i j = D j := by simp [updB, h]
theorem upd_at (u : Nat → Value) (i : Nat) (v : Value) : upd u i v i = v := by simp [upd]
theorem upd_ne (u : Nat → Value) {i j : Nat} (v : Value) (h : j ≠ i) : upd u i v j = u j := by simp [upd, h]
section
variable {P : Program} {Q : Exit → Act → World → Prop}
/-- what one operation owes: the invariant with it done -/
structure GenOk (P : Program) (Q : Exit → Act → World → Prop) (ops : Array Oper) (hd : List Oper) (a : Act) (J : (Nat → Bool) → (Nat → Value) → World → Prop) (i : Nat) (o : Oper) : Prop where
  step : ∀ (D : Nat → Bool) (u : Nat → Value) (w : World), J D u w → (∀ j, Region.waitsFor .any ops i j = true → D j = true) → D i = false → ∀ K : Act → World → Prop,
    (∀ v w', J (updB D i) (upd u i v) w' → K ((putAll u 0 hd a).put o.dst v) w') →
    if Region.wanted o (yielded ops (putAll u 0 hd a).tmps) = true then o.wp P (putAll u 0 hd a) w K Q else K ((putAll u 0 hd a).put o.dst undef) w
def GensOk (P : Program) (Q : Exit → Act → World → Prop) (ops : Array Oper) (hd : List Oper) (a : Act) (J : (Nat → Bool) → (Nat → Value) → World → Prop) : Nat → List Oper → Prop
  | _, [] => True
  | k, o :: l => GenOk P Q ops hd a J k o ∧ GensOk P Q ops hd a J (k + 1) l
theorem GensOk.at {ops : Array Oper} {hd : List Oper} {a : Act} {J : (Nat → Bool) → (Nat → Value) → World → Prop} : ∀ (l : List Oper) (k i : Nat) (o : Oper), GensOk P Q ops hd a J k l → l[i]? = some o → GenOk P Q ops hd a J (k + i) o
  | [], k, i, o, _, h => by simp at h
  | o' :: l, k, 0, o, hs, h => by simp at h; subst h; exact hs.1
  | o' :: l, k, i + 1, o, hs, h => by rw [show k + (i + 1) = k + 1 + i by omega]; exact GensOk.at l (k + 1) i o hs.2 (by simpa using h)
theorem GensOk.nil {ops : Array Oper} {hd : List Oper} {a : Act} {J : (Nat → Bool) → (Nat → Value) → World → Prop} {k : Nat} : GensOk P Q ops hd a J k [] := trivial
theorem GensOk.cons {ops : Array Oper} {hd : List Oper} {a : Act} {J : (Nat → Bool) → (Nat → Value) → World → Prop} {k : Nat} {o : Oper} {l : List Oper} (h1 : GenOk P Q ops hd a J k o) (h2 : GensOk P Q ops hd a J (k + 1) l) : GensOk P Q ops hd a J k (o :: l) := ⟨h1, h2⟩
def doneOf (L : Array Bool) : Nat → Bool := fun j => L.getD j false
theorem doneOf_set {L : Array Bool} {i : Nat} (hi : i < L.size) : doneOf (L.setIfInBounds i true) = updB (doneOf L) i := by
  funext j
  unfold doneOf updB
  by_cases e : j = i
  · subst e; simp [hi]
  · rw [if_neg e, getD_set_ne false (Ne.symm e)]
structure GenAt (ops : Array Oper) (n : Nat) (hd : List Oper) (a0 : Act) (J : (Nat → Bool) → (Nat → Value) → World → Prop) (L : Array Bool) (a : Act) (w : World) : Prop where
  head : HeadInv .any ops n L
  vals : ∃ u, a = putAll u 0 hd a0 ∧ J (doneOf L) u w

theorem wpAny_of_gen {l : List Oper} {n : Nat} {a0 : Act} {J : (Nat → Bool) → (Nat → Value) → World → Prop}
    (hn : n ≤ l.length) (hw : n = l.length ∨ (Region.sinkB .any l.toArray n = true ∧ Region.chainB .any l.toArray n = true)) (hseq : Region.seqB .any l.toArray (l.length - n) n (headDone n (l.length - n)) = true) (hap : dstApart (l.take n) = true) (hback : backB l.toArray = true)
    (hs : GensOk P Q l.toArray (l.take n) a0 J 0 (l.take n))
    (hend : ∀ D u w, J D u w → (∀ j, j < n → D j = true) → wpList P l.toArray Q (l.drop n) (putAll u 0 (l.take n) a0) w) :
    ∀ (f : Nat) (L : Array Bool) (a : Act) (w : World), openN L n = f → GenAt l.toArray n (l.take n) a0 J L a w → wpAny P .any l.toArray Q (f + (l.length - n)) L a w := by
  intro f
  induction f using Nat.strongRecOn with
  | _ f ih =>
    intro L a w hf hI
    obtain ⟨u, rfl, hJ⟩ := hI.vals
    cases hall : (List.range n).all (fun i => L.getD i false) with
    | true =>
      have hl : ∀ i, i < n → L.getD i false = true := fun i hi => List.all_eq_true.1 hall i (List.mem_range.2 hi)
      have hL := all_listed (by simpa using hn) hI.head hl
      have h0 : f = 0 := by
        rw [← hf]; unfold openN
        rw [List.length_eq_zero_iff, List.filter_eq_nil_iff]
        intro i hi
        have h1 := hl i (List.mem_range.1 hi)
        have hs : i < L.size := by rw [hI.head.size]; have := List.mem_range.1 hi; simp; omega
        simp [hs] at h1 ⊢
        exact h1
      subst h0
      rw [Nat.zero_add]
      have hdl : (l.drop n).length = l.length - n := by simp
      have hL' : L = headDone n (l.length - n) := by simpa using hL
      have := wpAny_of_seq (md := .any) (Q' := Q) (l.drop n) n L (putAll u 0 (l.take n) a0) w (fun j => by simp [List.getElem?_drop]) (by rw [hdl, hL']; exact hseq) (hend (doneOf L) u w hJ hl)
      rw [hdl] at this
      exact this
    | false =>
      obtain ⟨i0, hi0, hu0⟩ : ∃ i, i < n ∧ L.getD i true = false := by
        have : ¬ ∀ i ∈ List.range n, L.getD i false = true := fun h => by rw [List.all_eq_true.2 h] at hall; cases hall
        by_cases h : ∃ i, i < n ∧ L.getD i true = false
        · exact h
        · exfalso
          apply this
          intro i hi
          cases hb : L.getD i false with
          | true => rfl
          | false => exact absurd ⟨i, List.mem_range.1 hi, getD_in (by rw [hI.head.size]; have := List.mem_range.1 hi; simp; omega) hb⟩ h
      have hf1 : 1 ≤ f := by have := openN_set hi0 hu0; omega
      obtain ⟨f, rfl⟩ : ∃ f', f = f' + 1 := ⟨f - 1, by omega⟩
      rw [show f + 1 + (l.length - n) = (f + (l.length - n)) + 1 by omega]
      have hstep : ∀ i ∈ Region.ready .any l.toArray L, i < n := by
        intro i hi
        rcases Nat.lt_or_ge i n with h | h
        · exact h
        · exfalso
          rcases hw with hw | ⟨hs1, hc1⟩
          · obtain ⟨_, o, ho, _⟩ := mem_ready.1 hi
            have := (Array.getElem?_eq_some_iff.1 ho).1
            simp at this; omega
          · rcases Nat.lt_or_ge n l.length with hn' | hn'
            · exact tail_waits hs1 hc1 (by simpa using hn') hI.head _ i0 rfl hi0 hu0 i h hi
            · obtain ⟨_, o, ho, _⟩ := mem_ready.1 hi
              have := (Array.getElem?_eq_some_iff.1 ho).1
              simp at this; omega
      have hne : Region.ready .any l.toArray L ≠ [] := ready_ne hback i0 (by simp; omega) hu0
      refine ⟨fun h => absurd h hne, fun i hi => ?_⟩
      have hin := hstep i hi
      obtain ⟨hun, o, ho, hall2⟩ := mem_ready.1 hi
      have hol : l[i]? = some o := by simpa using ho
      have hot : (l.take n)[i]? = some o := by rw [List.getElem?_take, if_pos hin]; exact hol
      have hk := GensOk.at (l.take n) 0 i o hs hot
      rw [Nat.zero_add] at hk
      have hiL : i < L.size := by rw [hI.head.size]; have := (List.getElem?_eq_some_iff.1 hol).1; simpa using this
      have hdep : ∀ j, Region.waitsFor .any l.toArray i j = true → doneOf L j = true := by
        intro j hj
        obtain ⟨oj, hoj, e, he, hb, hon⟩ := Region.waitsFor_spec hj
        have : oj = o := Option.some.inj (hoj.symm.trans ho)
        subst this
        unfold doneOf
        rw [← hon]; exact hall2 e he hb
      have hnot : doneOf L i = false := by
        unfold doneOf
        cases h3 : L.getD i false with
        | false => rfl
        | true => simp [hiL] at h3 hun; rw [h3] at hun; cases hun
      have hk2 := hk.step (doneOf L) u w hJ hdep hnot (wpAny P .any l.toArray Q (f + (l.length - n)) (L.setIfInBounds i true)) (fun v w' hJ' => by
        have hop := openN_set hin hun
        rw [putAll_set u (l.take n) 0 i a0 o v hap hot, Nat.zero_add]
        obtain ⟨d, hd⟩ : ∃ d, f = openN (L.setIfInBounds i true) n + d := ⟨f - openN (L.setIfInBounds i true) n, by omega⟩
        have h1 := ih (openN (L.setIfInBounds i true) n) (by omega) (L.setIfInBounds i true) (putAll (upd u i v) 0 (l.take n) a0) w' rfl ⟨hI.head.set hi hin, upd u i v, rfl, by rw [doneOf_set hiL]; exact hJ'⟩
        rw [hd, Nat.add_right_comm]
        exact wpAny_more d _ _ _ _ h1)
      unfold wpOp
      simp only [ho]
      split
      · rename_i hwt; rw [if_pos hwt] at hk2; exact .inl hk2
      · rename_i hwt; rw [if_neg hwt] at hk2; exact hk2

/-- **the law** -/
theorem wp_region_gen {id : Nat} {l : List Oper} {a : Act} {w : World} (n : Nat) (J : (Nat → Bool) → (Nat → Value) → World → Prop)
    (hm : P.follows .mixedOrders = true) (hB : headB l n = true) (hJ : ∀ u, J (fun _ => false) u w.drew)
    (hs : ∀ A, A = a → GensOk P Q l.toArray (l.take n) A J 0 (l.take n))
    (hend : ∀ D u w', J D u w' → (∀ j, j < n → D j = true) → wpList P l.toArray Q (l.drop n) (putAll u 0 (l.take n) a) w') : (Code.region id l.toArray true).wp P Q a w := by
  simp only [headB, Bool.and_eq_true, Bool.or_eq_true, decide_eq_true_eq] at hB
  obtain ⟨⟨⟨⟨hn, hw⟩, hseq⟩, hap⟩, hback⟩ := hB
  refine wp_region_any hm ?_
  obtain ⟨u, hu⟩ := putAll_id (l.take n) 0 a
  have inv0 : HeadInv .any l.toArray n (Array.replicate l.toArray.size false) :=
    ⟨by simp, fun j oj _ hl => (by rw [getD_replicate_false] at hl; cases hl), fun t _ ht => getD_in (by simpa using ht) (getD_replicate_false _ _)⟩
  have hle : openN (Array.replicate l.toArray.size false) n ≤ n := by
    unfold openN
    have := List.length_filter_le (fun i => !(Array.replicate l.toArray.size false).getD i true) (List.range n)
    simpa using this
  have hd0 : doneOf (Array.replicate l.toArray.size false) = fun _ => false := by funext j; exact getD_replicate_false _ _
  have := wpAny_of_gen hn hw hseq hap hback (hs a rfl) hend _ (Array.replicate l.toArray.size false) a w.drew rfl ⟨inv0, u, hu.symm, by rw [hd0]; exact hJ u⟩
  obtain ⟨d, hd⟩ : ∃ d, l.toArray.size = openN (Array.replicate l.toArray.size false) n + (l.length - n) + d := ⟨l.length - (openN (Array.replicate l.toArray.size false) n + (l.length - n)), by simp; simp at hle; omega⟩
  have h2 := wpAny_more d _ _ _ _ this
  rw [← hd] at h2
  exact h2
end
section
variable {P : Program} {Q : Exit → Act → World → Prop} {ops : Array Oper} {hd : List Oper} {a : Act} {J : (Nat → Bool) → (Nat → Value) → World → Prop} {i : Nat} {o : Oper}
/-- an operation that runs to a value -/
theorem GenOk.run (hg : o.guard = none) (hap : dstApart hd = true) (h : ∀ D u ρ w, Rho hd a u ρ → J D u w → (∀ j, Region.waitsFor .any ops i j = true → D j = true) → D i = false → ∃ v w', (execOp ρ o).run P w = .ok (.value v) w' ∧ J (updB D i) (upd u i v) w') : GenOk P Q ops hd a J i o := by
  refine ⟨?_⟩
  intro D u w hJ hdep hnot K hK
  have hwt : Region.wanted o (yielded ops (putAll u 0 hd a).tmps) = true := by simp [Region.wanted, hg]
  rw [if_pos hwt]
  obtain ⟨v, w', hr, h1⟩ := h D u _ w (Rho.mk_ hap u) hJ hdep hnot
  unfold Oper.wp
  rw [hr]
  simp only [Oper.upon]
  exact hK v w' h1
/-- an operation that has no value -/
theorem GenOk.skip (hg : o.guard = none) (hap : dstApart hd = true) (h : ∀ D u ρ w, Rho hd a u ρ → J D u w → (∀ j, Region.waitsFor .any ops i j = true → D j = true) → D i = false → ∃ w', (execOp ρ o).run P w = .ok .skip w' ∧ J (updB D i) (upd u i undef) w') : GenOk P Q ops hd a J i o := by
  refine ⟨?_⟩
  intro D u w hJ hdep hnot K hK
  have hwt : Region.wanted o (yielded ops (putAll u 0 hd a).tmps) = true := by simp [Region.wanted, hg]
  rw [if_pos hwt]
  obtain ⟨w', hr, h1⟩ := h D u _ w (Rho.mk_ hap u) hJ hdep hnot
  unfold Oper.wp
  rw [hr]
  simp only [Oper.upon]
  exact hK undef w' h1
/-- a call -/
theorem GenOk.call (hg : o.guard = none) (hap : dstApart hd = true) (f : FuncId)
    (h : ∀ D u ρ w, Rho hd a u ρ → J D u w → (∀ j, Region.waitsFor .any ops i j = true → D j = true) → D i = false → ∃ args, (execOp ρ o).run P w = .ok (.enter f args) w ∧ Calls P f args w (fun e w' => ∃ v, e = .returned v ∧ J (updB D i) (upd u i v) w')) : GenOk P Q ops hd a J i o := by
  refine ⟨?_⟩
  intro D u w hJ hdep hnot K hK
  have hwt : Region.wanted o (yielded ops (putAll u 0 hd a).tmps) = true := by simp [Region.wanted, hg]
  rw [if_pos hwt]
  unfold Oper.wp
  obtain ⟨args, h0, h⟩ := h D u _ w (Rho.mk_ hap u) hJ hdep hnot
  rw [h0]
  simp only [Oper.upon]
  refine h.mono ?_
  rintro e w' ⟨v, rfl, h1⟩
  exact hK v w' h1
end
end Go.Proofs.YtfkgcighooijhaaGreatDoor

namespace Go.Proofs.YtfkgcighooijhaaGreatDoor
open Go.RowKit
set_option linter.unusedVariables false
set_option linter.unusedSimpArgs false

theorem wanted_at {ops : Array Oper} {hd : List Oper} {a : Act} {u : Nat → Value} {o : Oper} {g t : Nat} {b v : Bool} (hg : o.guard = some (g, b)) (hop : ((ops[g]?).bind (·.dst)) = some t) (hap : dstApart hd = true) (hx : isDst hd g t = true) (ht : t < a.tmps.size) (hv : u g = .bool v) :
    Region.wanted o (yielded ops (putAll u 0 hd a).tmps) = (v == b) := by
  have h1 := putAll_at u hd 0 g a t hap hx ht
  rw [Nat.zero_add, hv] at h1
  have hsz := putAll_size u hd 0 a
  have h2 : (putAll u 0 hd a).tmps[t]? = some (.bool v) := by
    have h3 : (putAll u 0 hd a).eval (.tmp t) = (putAll u 0 hd a).tmps.getD t undef := rfl
    rw [h3] at h1
    have hlt : t < (putAll u 0 hd a).tmps.size := by omega
    simp only [Array.getD, hlt, dif_pos] at h1
    rw [Array.getElem?_eq_getElem hlt]
    exact congrArg some h1
  unfold Region.wanted yielded
  rw [hg]
  simp only [hop, Option.bind_some, h2]
  cases v <;> cases b <;> rfl
theorem wanted_not {ops : Array Oper} {hd : List Oper} {a : Act} {u : Nat → Value} {o : Oper} {g t : Nat} {b : Bool} (hg : o.guard = some (g, b)) (hop : ((ops[g]?).bind (·.dst)) = some t) (hap : dstApart hd = true) (hx : isDst hd g t = true) (ht : t < a.tmps.size) (hv : u g = undef) :
    Region.wanted o (yielded ops (putAll u 0 hd a).tmps) = false := by
  have h1 := putAll_at u hd 0 g a t hap hx ht
  rw [Nat.zero_add, hv] at h1
  have hsz := putAll_size u hd 0 a
  have h2 : (putAll u 0 hd a).tmps[t]? = some undef := by
    have h3 : (putAll u 0 hd a).eval (.tmp t) = (putAll u 0 hd a).tmps.getD t undef := rfl
    rw [h3] at h1
    have hlt : t < (putAll u 0 hd a).tmps.size := by omega
    simp only [Array.getD, hlt, dif_pos] at h1
    rw [Array.getElem?_eq_getElem hlt]
    exact congrArg some h1
  unfold Region.wanted yielded
  rw [hg]
  simp only [hop, Option.bind_some, h2]
  rfl
/-- the known values, and what else holds -/
def JC (cs : List (Option Value)) (X : (Nat → Bool) → (Nat → Value) → World → Prop) (D : Nat → Bool) (u : Nat → Value) (w : World) : Prop := (∀ j c, cs[j]? = some (some c) → D j = true → u j = c) ∧ X D u w
/-- the other part does not ask about operation i -/
def Deaf (X : (Nat → Bool) → (Nat → Value) → World → Prop) (i : Nat) : Prop := ∀ D u w v, X D u w → X (updB D i) (upd u i v) w
structure KG (ops : Array Oper) (hd : List Oper) (a : Act) (cs : List (Option Value)) (X : (Nat → Bool) → (Nat → Value) → World → Prop) (i : Nat) (D : Nat → Bool) (u : Nat → Value) (ρ : Operand → Value) (w : World) : Prop where
  rho : Rho hd a u ρ
  inv : ∀ j c, cs[j]? = some (some c) → D j = true → u j = c
  ext : X D u w
  dep : ∀ j, Region.waitsFor .any ops i j = true → D j = true
section
variable {Q : Exit → Act → World → Prop} {ops : Array Oper} {hd : List Oper} {a : Act} {cs : List (Option Value)} {X : (Nat → Bool) → (Nat → Value) → World → Prop} {i : Nat} {o : Oper} {D : Nat → Bool} {u : Nat → Value} {ρ : Operand → Value} {w : World}
theorem KG.con (k : KG ops hd a cs X i D u ρ w) (j x : Nat) {c : Value} (hx : isDst hd j x = true) (hxs : x < a.tmps.size) (wx : Region.waitsFor .any ops i j = true) (hc : cs[j]? = some (some c)) : ρ (.tmp x) = c :=
  (k.rho.at_ j x hx hxs).trans (k.inv j c hc (k.dep j wx))
theorem KG.slot (k : KG ops hd a cs X i D u ρ w) (j x : Nat) (hx : isDst hd j x = true) (hxs : x < a.tmps.size) : ρ (.tmp x) = u j := k.rho.at_ j x hx hxs
theorem KG.own (k : KG ops hd a cs X i D u ρ w) (x : Nat) {c : Value} (hx : hd.all (fun o => o.dst != some x) = true) (hc : a.eval (.tmp x) = c) : ρ (.tmp x) = c := (k.rho.other x hx).trans hc
theorem jc_set {v : Value} {w' : World} (h : ∀ j c, cs[j]? = some (some c) → D j = true → u j = c) (hc : ∀ c, cs[i]? = some (some c) → v = c) (hX : X (updB D i) (upd u i v) w') : JC cs X (updB D i) (upd u i v) w' := by
  refine ⟨fun j c hj hD => ?_, hX⟩
  by_cases e : j = i
  · subst e; rw [upd_at]; exact hc c hj
  · rw [upd_ne _ _ e]; rw [updB_ne _ e] at hD; exact h j c hj hD
/-- whether the operation is carried out, as known ahead: no guard, or a guard of known value -/
def Want (ops : Array Oper) (hd : List Oper) (a : Act) (cs : List (Option Value)) (i : Nat) (o : Oper) (b : Bool) : Prop :=
  (o.guard = none ∧ b = true) ∨ ∃ g b0 v t, o.guard = some (g, b0) ∧ ((ops[g]?).bind (·.dst)) = some t ∧ isDst hd g t = true ∧ t < a.tmps.size ∧ ((cs[g]? = some (some (.bool v)) ∧ (v == b0) = b) ∨ (cs[g]? = some (some undef) ∧ b = false)) ∧ Region.waitsFor .any ops i g = true
theorem Want.none_ (h : o.guard = none) : Want ops hd a cs i o true := .inl ⟨h, rfl⟩
theorem Want.some_ {g : Nat} {b0 v b : Bool} {t : Nat} (h1 : o.guard = some (g, b0)) (h2 : ((ops[g]?).bind (·.dst)) = some t) (h3 : isDst hd g t = true) (h4 : t < a.tmps.size) (h5 : cs[g]? = some (some (.bool v))) (h6 : (v == b0) = b) (h7 : Region.waitsFor .any ops i g = true) : Want ops hd a cs i o b := .inr ⟨g, b0, v, t, h1, h2, h3, h4, .inl ⟨h5, h6⟩, h7⟩
theorem Want.undef_ {g : Nat} {b0 : Bool} {t : Nat} (h1 : o.guard = some (g, b0)) (h2 : ((ops[g]?).bind (·.dst)) = some t) (h3 : isDst hd g t = true) (h4 : t < a.tmps.size) (h5 : cs[g]? = some (some undef)) (h7 : Region.waitsFor .any ops i g = true) : Want ops hd a cs i o false := .inr ⟨g, b0, false, t, h1, h2, h3, h4, .inr ⟨h5, rfl⟩, h7⟩
theorem Want.is {b : Bool} (h : Want ops hd a cs i o b) (hap : dstApart hd = true) (hi : ∀ j c, cs[j]? = some (some c) → D j = true → u j = c) (hd' : ∀ j, Region.waitsFor .any ops i j = true → D j = true) : Region.wanted o (yielded ops (putAll u 0 hd a).tmps) = b := by
  rcases h with ⟨h1, h2⟩ | ⟨g, b0, v, t, h1, h2, h3, h4, ⟨h5, h6⟩ | ⟨h5, rfl⟩, h7⟩
  · subst h2; simp [Region.wanted, h1]
  · rw [wanted_at h1 h2 hap h3 h4 (hi g _ h5 (hd' g h7)), h6]
  · exact wanted_not h1 h2 hap h3 h4 (hi g _ h5 (hd' g h7))
/-- an operation of a known value that leaves the world -/
theorem gd_gen (hap : dstApart hd = true) (hw : Want ops hd a cs i o true) {c : Value} (hc : cs[i]? = some (some c)) (hX : Deaf X i) (h : ∀ D u ρ w, KG ops hd a cs X i D u ρ w → (execOp ρ o).run Tryz.prog w = .ok (.value c) w) : GenOk Tryz.prog Q ops hd a (JC cs X) i o := by
  refine ⟨?_⟩
  rintro D u w ⟨hi, hx⟩ hdep hnot K hK
  rw [if_pos (hw.is hap hi hdep)]
  unfold Oper.wp
  rw [h D u _ w ⟨Rho.mk_ hap u, hi, hx, hdep⟩]
  simp only [Oper.upon]
  exact hK c w (jc_set hi (fun c' h' => by rw [hc] at h'; injection h' with h'; injection h') (hX D u w c hx))
/-- an operation that is not carried out -/
theorem gd_off (hap : dstApart hd = true) (hw : Want ops hd a cs i o false) (hc : cs[i]? = some none ∨ cs[i]? = some (some undef)) (hX : Deaf X i) : GenOk Tryz.prog Q ops hd a (JC cs X) i o := by
  refine ⟨?_⟩
  rintro D u w ⟨hi, hx⟩ hdep hnot K hK
  rw [if_neg (by rw [hw.is hap hi hdep]; simp)]
  have h1 := hK undef w (jc_set hi (fun c' h' => by rcases hc with hc | hc <;> rw [hc] at h' <;> injection h' with h'; cases h'; injection h') (hX D u w undef hx))
  exact h1
/-- an operation with a value that turns the world -/
theorem gd_eff (hap : dstApart hd = true) (hw : Want ops hd a cs i o true) (h : ∀ D u ρ w, KG ops hd a cs X i D u ρ w → D i = false → ∃ v w', (execOp ρ o).run Tryz.prog w = .ok (.value v) w' ∧ (∀ c, cs[i]? = some (some c) → v = c) ∧ X (updB D i) (upd u i v) w') : GenOk Tryz.prog Q ops hd a (JC cs X) i o := by
  refine ⟨?_⟩
  rintro D u w ⟨hi, hx⟩ hdep hnot K hK
  rw [if_pos (hw.is hap hi hdep)]
  obtain ⟨v, w', h1, h2, h3⟩ := h D u _ w ⟨Rho.mk_ hap u, hi, hx, hdep⟩ hnot
  unfold Oper.wp
  rw [h1]
  simp only [Oper.upon]
  exact hK v w' (jc_set hi h2 h3)
/-- an operation without a value -/
theorem gd_skip (hap : dstApart hd = true) (hw : Want ops hd a cs i o true) (hc : cs[i]? = some none) (h : ∀ D u ρ w, KG ops hd a cs X i D u ρ w → D i = false → ∃ w', (execOp ρ o).run Tryz.prog w = .ok .skip w' ∧ X (updB D i) (upd u i undef) w') : GenOk Tryz.prog Q ops hd a (JC cs X) i o := by
  refine ⟨?_⟩
  rintro D u w ⟨hi, hx⟩ hdep hnot K hK
  rw [if_pos (hw.is hap hi hdep)]
  obtain ⟨w', h1, h3⟩ := h D u _ w ⟨Rho.mk_ hap u, hi, hx, hdep⟩ hnot
  unfold Oper.wp
  rw [h1]
  simp only [Oper.upon]
  exact hK undef w' (jc_set hi (fun c h' => by rw [hc] at h'; injection h' with h'; cases h') h3)
/-- a call -/
theorem gd_call (hap : dstApart hd = true) (hw : Want ops hd a cs i o true) (f : FuncId) (h : ∀ D u ρ w, KG ops hd a cs X i D u ρ w → D i = false → ∃ args, (execOp ρ o).run Tryz.prog w = .ok (.enter f args) w ∧ Calls Tryz.prog f args w (fun e w' => ∃ v, e = .returned v ∧ (∀ c, cs[i]? = some (some c) → v = c) ∧ X (updB D i) (upd u i v) w')) : GenOk Tryz.prog Q ops hd a (JC cs X) i o := by
  refine ⟨?_⟩
  rintro D u w ⟨hi, hx⟩ hdep hnot K hK
  rw [if_pos (hw.is hap hi hdep)]
  unfold Oper.wp
  obtain ⟨args, h0, h⟩ := h D u _ w ⟨Rho.mk_ hap u, hi, hx, hdep⟩ hnot
  rw [h0]
  simp only [Oper.upon]
  refine h.mono ?_
  rintro e w' ⟨v, rfl, h2, h3⟩
  exact hK v w' (jc_set hi h2 h3)
end
end Go.Proofs.YtfkgcighooijhaaGreatDoor
