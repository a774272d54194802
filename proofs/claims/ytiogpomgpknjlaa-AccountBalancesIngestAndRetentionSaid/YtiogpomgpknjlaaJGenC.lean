/- Steps of a drawn region under wp_region_gen: known values, guards. No condition. -/
import Derived.Test.YtiogpomgpknjlaaJCmpI
import Derived.Test.YtiogpomgpknjlaaJBase
namespace Go.Proofs.Ytiogpomgpknjlaa
open Go.RowKit
set_option linter.unusedVariables false
set_option linter.unusedSimpArgs false

theorem wanted_at {ops : Array Oper} {hd : List Oper} {a : Act} {u : Nat → Value} {o : Oper} {g t : Nat} {b v : Bool} (hg : o.guard = some (g, b)) (hop : ((ops[g]?).bind (·.dst)) = some t) (hap : dstApart hd = true) (hx : isDst hd g t = true) (ht : t < a.tmps.size) (hv : u g = .bool v) :
    Region.wanted o (yielded ops (putAll u 0 hd a).tmps) = (v == b) := by
  have h1 := putAll_at u hd 0 g a t hap hx ht
  rw [Nat.zero_add, hv] at h1
  have hsz := putAll_size u hd 0 a
  have h2 : (putAll u 0 hd a).tmps[t]? = some (.bool v) := by
    have h3 : (putAll u 0 hd a).eval (.tmp t) = (putAll u 0 hd a).tmps.getD t undef := rfl
    rw [h3] at h1
    have hlt : t < (putAll u 0 hd a).tmps.size := by omega
    simp only [Array.getD, hlt, dif_pos] at h1
    rw [Array.getElem?_eq_getElem hlt]
    exact congrArg some h1
  unfold Region.wanted yielded
  rw [hg]
  simp only [hop, Option.bind_some, h2]
  cases v <;> cases b <;> rfl
theorem wanted_not {ops : Array Oper} {hd : List Oper} {a : Act} {u : Nat → Value} {o : Oper} {g t : Nat} {b : Bool} (hg : o.guard = some (g, b)) (hop : ((ops[g]?).bind (·.dst)) = some t) (hap : dstApart hd = true) (hx : isDst hd g t = true) (ht : t < a.tmps.size) (hv : u g = undef) :
    Region.wanted o (yielded ops (putAll u 0 hd a).tmps) = false := by
  have h1 := putAll_at u hd 0 g a t hap hx ht
  rw [Nat.zero_add, hv] at h1
  have hsz := putAll_size u hd 0 a
  have h2 : (putAll u 0 hd a).tmps[t]? = some undef := by
    have h3 : (putAll u 0 hd a).eval (.tmp t) = (putAll u 0 hd a).tmps.getD t undef := rfl
    rw [h3] at h1
    have hlt : t < (putAll u 0 hd a).tmps.size := by omega
    simp only [Array.getD, hlt, dif_pos] at h1
    rw [Array.getElem?_eq_getElem hlt]
    exact congrArg some h1
  unfold Region.wanted yielded
  rw [hg]
  simp only [hop, Option.bind_some, h2]
  rfl
/-- the known values, and what else holds -/
def JC (cs : List (Option Value)) (X : (Nat → Bool) → (Nat → Value) → World → Prop) (D : Nat → Bool) (u : Nat → Value) (w : World) : Prop := (∀ j c, cs[j]? = some (some c) → D j = true → u j = c) ∧ X D u w
/-- the other part does not ask about operation i -/
def Deaf (X : (Nat → Bool) → (Nat → Value) → World → Prop) (i : Nat) : Prop := ∀ D u w v, X D u w → X (updB D i) (upd u i v) w
structure KG (ops : Array Oper) (hd : List Oper) (a : Act) (cs : List (Option Value)) (X : (Nat → Bool) → (Nat → Value) → World → Prop) (i : Nat) (D : Nat → Bool) (u : Nat → Value) (ρ : Operand → Value) (w : World) : Prop where
  rho : Rho hd a u ρ
  inv : ∀ j c, cs[j]? = some (some c) → D j = true → u j = c
  ext : X D u w
  dep : ∀ j, Region.waitsFor .any ops i j = true → D j = true
section
variable {Q : Exit → Act → World → Prop} {ops : Array Oper} {hd : List Oper} {a : Act} {cs : List (Option Value)} {X : (Nat → Bool) → (Nat → Value) → World → Prop} {i : Nat} {o : Oper} {D : Nat → Bool} {u : Nat → Value} {ρ : Operand → Value} {w : World}
theorem KG.con (k : KG ops hd a cs X i D u ρ w) (j x : Nat) {c : Value} (hx : isDst hd j x = true) (hxs : x < a.tmps.size) (wx : Region.waitsFor .any ops i j = true) (hc : cs[j]? = some (some c)) : ρ (.tmp x) = c :=
  (k.rho.at_ j x hx hxs).trans (k.inv j c hc (k.dep j wx))
theorem KG.slot (k : KG ops hd a cs X i D u ρ w) (j x : Nat) (hx : isDst hd j x = true) (hxs : x < a.tmps.size) : ρ (.tmp x) = u j := k.rho.at_ j x hx hxs
theorem KG.own (k : KG ops hd a cs X i D u ρ w) (x : Nat) {c : Value} (hx : hd.all (fun o => o.dst != some x) = true) (hc : a.eval (.tmp x) = c) : ρ (.tmp x) = c := (k.rho.other x hx).trans hc
theorem jc_set {v : Value} {w' : World} (h : ∀ j c, cs[j]? = some (some c) → D j = true → u j = c) (hc : ∀ c, cs[i]? = some (some c) → v = c) (hX : X (updB D i) (upd u i v) w') : JC cs X (updB D i) (upd u i v) w' := by
  refine ⟨fun j c hj hD => ?_, hX⟩
  by_cases e : j = i
  · subst e; rw [upd_at]; exact hc c hj
  · rw [upd_ne _ _ e]; rw [updB_ne _ e] at hD; exact h j c hj hD
/-- whether the operation is carried out, as known ahead: no guard, or a guard of known value -/
def Want (ops : Array Oper) (hd : List Oper) (a : Act) (cs : List (Option Value)) (i : Nat) (o : Oper) (b : Bool) : Prop :=
  (o.guard = none ∧ b = true) ∨ ∃ g b0 v t, o.guard = some (g, b0) ∧ ((ops[g]?).bind (·.dst)) = some t ∧ isDst hd g t = true ∧ t < a.tmps.size ∧ ((cs[g]? = some (some (.bool v)) ∧ (v == b0) = b) ∨ (cs[g]? = some (some undef) ∧ b = false)) ∧ Region.waitsFor .any ops i g = true
theorem Want.none_ (h : o.guard = none) : Want ops hd a cs i o true := .inl ⟨h, rfl⟩
theorem Want.some_ {g : Nat} {b0 v b : Bool} {t : Nat} (h1 : o.guard = some (g, b0)) (h2 : ((ops[g]?).bind (·.dst)) = some t) (h3 : isDst hd g t = true) (h4 : t < a.tmps.size) (h5 : cs[g]? = some (some (.bool v))) (h6 : (v == b0) = b) (h7 : Region.waitsFor .any ops i g = true) : Want ops hd a cs i o b := .inr ⟨g, b0, v, t, h1, h2, h3, h4, .inl ⟨h5, h6⟩, h7⟩
theorem Want.undef_ {g : Nat} {b0 : Bool} {t : Nat} (h1 : o.guard = some (g, b0)) (h2 : ((ops[g]?).bind (·.dst)) = some t) (h3 : isDst hd g t = true) (h4 : t < a.tmps.size) (h5 : cs[g]? = some (some undef)) (h7 : Region.waitsFor .any ops i g = true) : Want ops hd a cs i o false := .inr ⟨g, b0, false, t, h1, h2, h3, h4, .inr ⟨h5, rfl⟩, h7⟩
theorem Want.is {b : Bool} (h : Want ops hd a cs i o b) (hap : dstApart hd = true) (hi : ∀ j c, cs[j]? = some (some c) → D j = true → u j = c) (hd' : ∀ j, Region.waitsFor .any ops i j = true → D j = true) : Region.wanted o (yielded ops (putAll u 0 hd a).tmps) = b := by
  rcases h with ⟨h1, h2⟩ | ⟨g, b0, v, t, h1, h2, h3, h4, ⟨h5, h6⟩ | ⟨h5, rfl⟩, h7⟩
  · subst h2; simp [Region.wanted, h1]
  · rw [wanted_at h1 h2 hap h3 h4 (hi g _ h5 (hd' g h7)), h6]
  · exact wanted_not h1 h2 hap h3 h4 (hi g _ h5 (hd' g h7))
/-- an operation of a known value that leaves the world -/
theorem gd_gen (hap : dstApart hd = true) (hw : Want ops hd a cs i o true) {c : Value} (hc : cs[i]? = some (some c)) (hX : Deaf X i) (h : ∀ D u ρ w, KG ops hd a cs X i D u ρ w → (execOp ρ o).run Try.prog w = .ok (.value c) w) : GenOk Try.prog Q ops hd a (JC cs X) i o := by
  refine ⟨?_⟩
  rintro D u w ⟨hi, hx⟩ hdep hnot K hK
  rw [if_pos (hw.is hap hi hdep)]
  unfold Oper.wp
  rw [h D u _ w ⟨Rho.mk_ hap u, hi, hx, hdep⟩]
  simp only [Oper.upon]
  exact hK c w (jc_set hi (fun c' h' => by rw [hc] at h'; injection h' with h'; injection h') (hX D u w c hx))
/-- an operation that is not carried out -/
theorem gd_off (hap : dstApart hd = true) (hw : Want ops hd a cs i o false) (hc : cs[i]? = some none ∨ cs[i]? = some (some undef)) (hX : Deaf X i) : GenOk Try.prog Q ops hd a (JC cs X) i o := by
  refine ⟨?_⟩
  rintro D u w ⟨hi, hx⟩ hdep hnot K hK
  rw [if_neg (by rw [hw.is hap hi hdep]; simp)]
  have h1 := hK undef w (jc_set hi (fun c' h' => by rcases hc with hc | hc <;> rw [hc] at h' <;> injection h' with h'; cases h'; injection h') (hX D u w undef hx))
  exact h1
/-- an operation with a value that turns the world -/
theorem gd_eff (hap : dstApart hd = true) (hw : Want ops hd a cs i o true) (h : ∀ D u ρ w, KG ops hd a cs X i D u ρ w → D i = false → ∃ v w', (execOp ρ o).run Try.prog w = .ok (.value v) w' ∧ (∀ c, cs[i]? = some (some c) → v = c) ∧ X (updB D i) (upd u i v) w') : GenOk Try.prog Q ops hd a (JC cs X) i o := by
  refine ⟨?_⟩
  rintro D u w ⟨hi, hx⟩ hdep hnot K hK
  rw [if_pos (hw.is hap hi hdep)]
  obtain ⟨v, w', h1, h2, h3⟩ := h D u _ w ⟨Rho.mk_ hap u, hi, hx, hdep⟩ hnot
  unfold Oper.wp
  rw [h1]
  simp only [Oper.upon]
  exact hK v w' (jc_set hi h2 h3)
/-- an operation without a value -/
theorem gd_skip (hap : dstApart hd = true) (hw : Want ops hd a cs i o true) (hc : cs[i]? = some none) (h : ∀ D u ρ w, KG ops hd a cs X i D u ρ w → D i = false → ∃ w', (execOp ρ o).run Try.prog w = .ok .skip w' ∧ X (updB D i) (upd u i undef) w') : GenOk Try.prog Q ops hd a (JC cs X) i o := by
  refine ⟨?_⟩
  rintro D u w ⟨hi, hx⟩ hdep hnot K hK
  rw [if_pos (hw.is hap hi hdep)]
  obtain ⟨w', h1, h3⟩ := h D u _ w ⟨Rho.mk_ hap u, hi, hx, hdep⟩ hnot
  unfold Oper.wp
  rw [h1]
  simp only [Oper.upon]
  exact hK undef w' (jc_set hi (fun c h' => by rw [hc] at h'; injection h' with h'; cases h') h3)
/-- a call -/
theorem gd_call (hap : dstApart hd = true) (hw : Want ops hd a cs i o true) (f : FuncId) (h : ∀ D u ρ w, KG ops hd a cs X i D u ρ w → D i = false → ∃ args, (execOp ρ o).run Try.prog w = .ok (.enter f args) w ∧ Calls Try.prog f args w (fun e w' => ∃ v, e = .returned v ∧ (∀ c, cs[i]? = some (some c) → v = c) ∧ X (updB D i) (upd u i v) w')) : GenOk Try.prog Q ops hd a (JC cs X) i o := by
  refine ⟨?_⟩
  rintro D u w ⟨hi, hx⟩ hdep hnot K hK
  rw [if_pos (hw.is hap hi hdep)]
  unfold Oper.wp
  obtain ⟨args, h0, h⟩ := h D u _ w ⟨Rho.mk_ hap u, hi, hx, hdep⟩ hnot
  rw [h0]
  simp only [Oper.upon]
  refine h.mono ?_
  rintro e w' ⟨v, rfl, h2, h3⟩
  exact hK v w' (jc_set hi h2 h3)
end
end Go.Proofs.Ytiogpomgpknjlaa

namespace Go.Proofs.Ytiogpomgpknjlaa
open Go.RowKit
set_option linter.unusedVariables false
set_option linter.unusedSimpArgs false

def cmpS (a b : ByteArray) : Int := if sl a b = true then -1 else if sl b a = true then 1 else 0
set_option maxHeartbeats 1000000 in
theorem cmpS_any (a b : ByteArray) (w : World) : Calls Try.prog 34 #[.string a, .string b] w (fun e w' => e = .returned (.int .i64 (cmpS a b)) ∧ w' = w) := by
  cases h1 : sl a b with
  | true =>
    have hv : cmpS a b = -1 := by simp [cmpS, h1]
    rw [hv]
    have d1 : Op.bytesLess a.toList b.toList = true := h1
    clear hv h1
    go_enter Try.func34, Try.ntmps34
    go_wp2
    go_ret
    exact ⟨rfl, rfl⟩
  | false =>
    have d1 : Op.bytesLess a.toList b.toList = false := h1
    cases h2 : sl b a with
    | true =>
      have hv : cmpS a b = 1 := by simp [cmpS, h1, h2]
      rw [hv]
      have d2 : Op.bytesLess b.toList a.toList = true := h2
      have d3 : (a.toList == b.toList) = false := by rw [beq_eq_false_iff_ne]; intro e; rw [toList_inj e, sl_irrefl] at h2; cases h2
      clear hv h1 h2
      go_enter Try.func34, Try.ntmps34
      go_wp2
      go_ret
      exact ⟨rfl, rfl⟩
    | false =>
      have hv : cmpS a b = 0 := by simp [cmpS, h1, h2]
      rw [hv]
      have d2 : Op.bytesLess b.toList a.toList = false := h2
      have d3 : (a.toList == b.toList) = true := by rw [sl_tri h1 h2]; simp
      clear hv h1 h2
      go_enter Try.func34, Try.ntmps34
      go_wp2
      go_ret
      exact ⟨rfl, rfl⟩
end Go.Proofs.Ytiogpomgpknjlaa
