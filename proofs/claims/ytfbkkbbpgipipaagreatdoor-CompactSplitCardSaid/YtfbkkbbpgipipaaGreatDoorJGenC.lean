/- Steps of a drawn region under wp_region_gen: known values, guards. No condition. -/
import Derived.Test.YtfbkkbbpgipipaaGreatDoorJInv
import Derived.Test.YtfbkkbbpgipipaaGreatDoorJBase
import Derived.Test.YtfbkkbbpgipipaaGreatDoorJEv
import Derived.Deep.DeepCutAuto
import Derived.Lib.ConvBytes
import Derived.Deep.RegionLaw
import Derived.Deep.DeepMust
namespace Go.Proofs.YtfbkkbbpgipipaaGreatDoor
open Go.RowKit
set_option linter.unusedVariables false
set_option linter.unusedSimpArgs false

theorem wanted_at {ops : Array Oper} {hd : List Oper} {a : Act} {u : Nat → Value} {o : Oper} {g t : Nat} {b v : Bool} (hg : o.guard = some (g, b)) (hop : ((ops[g]?).bind (·.dst)) = some t) (hap : dstApart hd = true) (hx : isDst hd g t = true) (ht : t < a.tmps.size) (hv : u g = .bool v) :
    Region.wanted o (yielded ops (putAll u 0 hd a).tmps) = (v == b) := by
  have h1 := putAll_at u hd 0 g a t hap hx ht
  rw [Nat.zero_add, hv] at h1
  have hsz := putAll_size u hd 0 a
  have h2 : (putAll u 0 hd a).tmps[t]? = some (.bool v) := by
    have h3 : (putAll u 0 hd a).eval (.tmp t) = (putAll u 0 hd a).tmps.getD t undef := rfl
    rw [h3] at h1
    have hlt : t < (putAll u 0 hd a).tmps.size := by omega
    simp only [Array.getD, hlt, dif_pos] at h1
    rw [Array.getElem?_eq_getElem hlt]
    exact congrArg some h1
  unfold Region.wanted yielded
  rw [hg]
  simp only [hop, Option.bind_some, h2]
  cases v <;> cases b <;> rfl
theorem wanted_not {ops : Array Oper} {hd : List Oper} {a : Act} {u : Nat → Value} {o : Oper} {g t : Nat} {b : Bool} (hg : o.guard = some (g, b)) (hop : ((ops[g]?).bind (·.dst)) = some t) (hap : dstApart hd = true) (hx : isDst hd g t = true) (ht : t < a.tmps.size) (hv : u g = undef) :
    Region.wanted o (yielded ops (putAll u 0 hd a).tmps) = false := by
  have h1 := putAll_at u hd 0 g a t hap hx ht
  rw [Nat.zero_add, hv] at h1
  have hsz := putAll_size u hd 0 a
  have h2 : (putAll u 0 hd a).tmps[t]? = some undef := by
    have h3 : (putAll u 0 hd a).eval (.tmp t) = (putAll u 0 hd a).tmps.getD t undef := rfl
    rw [h3] at h1
    have hlt : t < (putAll u 0 hd a).tmps.size := by omega
    simp only [Array.getD, hlt, dif_pos] at h1
    rw [Array.getElem?_eq_getElem hlt]
    exact congrArg some h1
  unfold Region.wanted yielded
  rw [hg]
  simp only [hop, Option.bind_some, h2]
  rfl
/-- the known values, and what else holds -/
def JC (cs : List (Option Value)) (X : (Nat → Bool) → (Nat → Value) → World → Prop) (D : Nat → Bool) (u : Nat → Value) (w : World) : Prop := (∀ j c, cs[j]? = some (some c) → D j = true → u j = c) ∧ X D u w
/-- the other part does not ask about operation i -/
def Deaf (X : (Nat → Bool) → (Nat → Value) → World → Prop) (i : Nat) : Prop := ∀ D u w v, X D u w → X (updB D i) (upd u i v) w
structure KG (ops : Array Oper) (hd : List Oper) (a : Act) (cs : List (Option Value)) (X : (Nat → Bool) → (Nat → Value) → World → Prop) (i : Nat) (D : Nat → Bool) (u : Nat → Value) (ρ : Operand → Value) (w : World) : Prop where
  rho : Rho hd a u ρ
  inv : ∀ j c, cs[j]? = some (some c) → D j = true → u j = c
  ext : X D u w
  dep : ∀ j, Region.waitsFor .any ops i j = true → D j = true
section
variable {Q : Exit → Act → World → Prop} {ops : Array Oper} {hd : List Oper} {a : Act} {cs : List (Option Value)} {X : (Nat → Bool) → (Nat → Value) → World → Prop} {i : Nat} {o : Oper} {D : Nat → Bool} {u : Nat → Value} {ρ : Operand → Value} {w : World}
theorem KG.con (k : KG ops hd a cs X i D u ρ w) (j x : Nat) {c : Value} (hx : isDst hd j x = true) (hxs : x < a.tmps.size) (wx : Region.waitsFor .any ops i j = true) (hc : cs[j]? = some (some c)) : ρ (.tmp x) = c :=
  (k.rho.at_ j x hx hxs).trans (k.inv j c hc (k.dep j wx))
theorem KG.slot (k : KG ops hd a cs X i D u ρ w) (j x : Nat) (hx : isDst hd j x = true) (hxs : x < a.tmps.size) : ρ (.tmp x) = u j := k.rho.at_ j x hx hxs
theorem KG.own (k : KG ops hd a cs X i D u ρ w) (x : Nat) {c : Value} (hx : hd.all (fun o => o.dst != some x) = true) (hc : a.eval (.tmp x) = c) : ρ (.tmp x) = c := (k.rho.other x hx).trans hc
theorem jc_set {v : Value} {w' : World} (h : ∀ j c, cs[j]? = some (some c) → D j = true → u j = c) (hc : ∀ c, cs[i]? = some (some c) → v = c) (hX : X (updB D i) (upd u i v) w') : JC cs X (updB D i) (upd u i v) w' := by
  refine ⟨fun j c hj hD => ?_, hX⟩
  by_cases e : j = i
  · subst e; rw [upd_at]; exact hc c hj
  · rw [upd_ne _ _ e]; rw [updB_ne _ e] at hD; exact h j c hj hD
/-- whether the operation is carried out, as known ahead: no guard, or a guard of known value -/
def Want (ops : Array Oper) (hd : List Oper) (a : Act) (cs : List (Option Value)) (i : Nat) (o : Oper) (b : Bool) : Prop :=
  (o.guard = none ∧ b = true) ∨ ∃ g b0 v t, o.guard = some (g, b0) ∧ ((ops[g]?).bind (·.dst)) = some t ∧ isDst hd g t = true ∧ t < a.tmps.size ∧ ((cs[g]? = some (some (.bool v)) ∧ (v == b0) = b) ∨ (cs[g]? = some (some undef) ∧ b = false)) ∧ Region.waitsFor .any ops i g = true
theorem Want.none_ (h : o.guard = none) : Want ops hd a cs i o true := .inl ⟨h, rfl⟩
theorem Want.some_ {g : Nat} {b0 v b : Bool} {t : Nat} (h1 : o.guard = some (g, b0)) (h2 : ((ops[g]?).bind (·.dst)) = some t) (h3 : isDst hd g t = true) (h4 : t < a.tmps.size) (h5 : cs[g]? = some (some (.bool v))) (h6 : (v == b0) = b) (h7 : Region.waitsFor .any ops i g = true) : Want ops hd a cs i o b := .inr ⟨g, b0, v, t, h1, h2, h3, h4, .inl ⟨h5, h6⟩, h7⟩
theorem Want.undef_ {g : Nat} {b0 : Bool} {t : Nat} (h1 : o.guard = some (g, b0)) (h2 : ((ops[g]?).bind (·.dst)) = some t) (h3 : isDst hd g t = true) (h4 : t < a.tmps.size) (h5 : cs[g]? = some (some undef)) (h7 : Region.waitsFor .any ops i g = true) : Want ops hd a cs i o false := .inr ⟨g, b0, false, t, h1, h2, h3, h4, .inr ⟨h5, rfl⟩, h7⟩
theorem Want.is {b : Bool} (h : Want ops hd a cs i o b) (hap : dstApart hd = true) (hi : ∀ j c, cs[j]? = some (some c) → D j = true → u j = c) (hd' : ∀ j, Region.waitsFor .any ops i j = true → D j = true) : Region.wanted o (yielded ops (putAll u 0 hd a).tmps) = b := by
  rcases h with ⟨h1, h2⟩ | ⟨g, b0, v, t, h1, h2, h3, h4, ⟨h5, h6⟩ | ⟨h5, rfl⟩, h7⟩
  · subst h2; simp [Region.wanted, h1]
  · rw [wanted_at h1 h2 hap h3 h4 (hi g _ h5 (hd' g h7)), h6]
  · exact wanted_not h1 h2 hap h3 h4 (hi g _ h5 (hd' g h7))
/-- an operation of a known value that leaves the world -/
theorem gd_gen (hap : dstApart hd = true) (hw : Want ops hd a cs i o true) {c : Value} (hc : cs[i]? = some (some c)) (hX : Deaf X i) (h : ∀ D u ρ w, KG ops hd a cs X i D u ρ w → (execOp ρ o).run Tryz.prog w = .ok (.value c) w) : GenOk Tryz.prog Q ops hd a (JC cs X) i o := by
  refine ⟨?_⟩
  rintro D u w ⟨hi, hx⟩ hdep hnot K hK
  rw [if_pos (hw.is hap hi hdep)]
  unfold Oper.wp
  rw [h D u _ w ⟨Rho.mk_ hap u, hi, hx, hdep⟩]
  simp only [Oper.upon]
  exact hK c w (jc_set hi (fun c' h' => by rw [hc] at h'; injection h' with h'; injection h') (hX D u w c hx))
/-- an operation that is not carried out -/
theorem gd_off (hap : dstApart hd = true) (hw : Want ops hd a cs i o false) (hc : cs[i]? = some none ∨ cs[i]? = some (some undef)) (hX : Deaf X i) : GenOk Tryz.prog Q ops hd a (JC cs X) i o := by
  refine ⟨?_⟩
  rintro D u w ⟨hi, hx⟩ hdep hnot K hK
  rw [if_neg (by rw [hw.is hap hi hdep]; simp)]
  have h1 := hK undef w (jc_set hi (fun c' h' => by rcases hc with hc | hc <;> rw [hc] at h' <;> injection h' with h'; cases h'; injection h') (hX D u w undef hx))
  exact h1
/-- an operation with a value that turns the world -/
theorem gd_eff (hap : dstApart hd = true) (hw : Want ops hd a cs i o true) (h : ∀ D u ρ w, KG ops hd a cs X i D u ρ w → D i = false → ∃ v w', (execOp ρ o).run Tryz.prog w = .ok (.value v) w' ∧ (∀ c, cs[i]? = some (some c) → v = c) ∧ X (updB D i) (upd u i v) w') : GenOk Tryz.prog Q ops hd a (JC cs X) i o := by
  refine ⟨?_⟩
  rintro D u w ⟨hi, hx⟩ hdep hnot K hK
  rw [if_pos (hw.is hap hi hdep)]
  obtain ⟨v, w', h1, h2, h3⟩ := h D u _ w ⟨Rho.mk_ hap u, hi, hx, hdep⟩ hnot
  unfold Oper.wp
  rw [h1]
  simp only [Oper.upon]
  exact hK v w' (jc_set hi h2 h3)
/-- an operation without a value -/
theorem gd_skip (hap : dstApart hd = true) (hw : Want ops hd a cs i o true) (hc : cs[i]? = some none) (h : ∀ D u ρ w, KG ops hd a cs X i D u ρ w → D i = false → ∃ w', (execOp ρ o).run Tryz.prog w = .ok .skip w' ∧ X (updB D i) (upd u i undef) w') : GenOk Tryz.prog Q ops hd a (JC cs X) i o := by
  refine ⟨?_⟩
  rintro D u w ⟨hi, hx⟩ hdep hnot K hK
  rw [if_pos (hw.is hap hi hdep)]
  obtain ⟨w', h1, h3⟩ := h D u _ w ⟨Rho.mk_ hap u, hi, hx, hdep⟩ hnot
  unfold Oper.wp
  rw [h1]
  simp only [Oper.upon]
  exact hK undef w' (jc_set hi (fun c h' => by rw [hc] at h'; injection h' with h'; cases h') h3)
/-- a call -/
theorem gd_call (hap : dstApart hd = true) (hw : Want ops hd a cs i o true) (f : FuncId) (h : ∀ D u ρ w, KG ops hd a cs X i D u ρ w → D i = false → ∃ args, (execOp ρ o).run Tryz.prog w = .ok (.enter f args) w ∧ Calls Tryz.prog f args w (fun e w' => ∃ v, e = .returned v ∧ (∀ c, cs[i]? = some (some c) → v = c) ∧ X (updB D i) (upd u i v) w')) : GenOk Tryz.prog Q ops hd a (JC cs X) i o := by
  refine ⟨?_⟩
  rintro D u w ⟨hi, hx⟩ hdep hnot K hK
  rw [if_pos (hw.is hap hi hdep)]
  unfold Oper.wp
  obtain ⟨args, h0, h⟩ := h D u _ w ⟨Rho.mk_ hap u, hi, hx, hdep⟩ hnot
  rw [h0]
  simp only [Oper.upon]
  refine h.mono ?_
  rintro e w' ⟨v, rfl, h2, h3⟩
  exact hK v w' (jc_set hi h2 h3)
end
end Go.Proofs.YtfbkkbbpgipipaaGreatDoor

namespace Go.Proofs.YtfbkkbbpgipipaaGreatDoor
open Go.RowKit
set_option linter.unusedVariables false
set_option linter.unusedSimpArgs false

theorem cellG {w w' : World} (h : w.grownBy w' none) {b o : Nat} (hb : b < w.heap.size) : w'.cell? ⟨b, o, none⟩ = w.cell? ⟨b, o, none⟩ := World.cell?_of_block (a := ⟨b, o, none⟩) (h.block b hb (by simp))
theorem run_load (ρ : Operand → Value) (w : World) {o : Oper} {t : TypeId} {x : Nat} {p c : Value} (ho : o.op = .load t (.tmp x)) (hx : ρ (.tmp x) = p) (h : (Instr.loadAt t p).run Tryz.prog w = .ok c w) : (execOp ρ o).run Tryz.prog w = .ok (.value c) w := by
  simp only [execOp, ho, hx, Sem.run_bind, h, Result.andThen_ok, Sem.run_pure]
/-- a fresh slice of strings: what a call of Clone or Distinct has given back -/
def FreshS (base : Nat) (ss : List Value) (n : Nat) (e : TypeId) (w : World) (v : Value) : Prop := ∃ A c, v = .slice A n c ∧ n ≤ c ∧ c ≤ maxLen ∧ w.ownsRow base e 1 (.slice A n c) n ss
theorem FreshS.grown {base n : Nat} {ss : List Value} {e : TypeId} {w w' : World} {v : Value} (h : FreshS base ss n e w v) (hg : w.grownBy w' none) : FreshS base ss n e w' v := by
  obtain ⟨A, c, h1, h2, h3, h4⟩ := h
  exact ⟨A, c, h1, h2, h3, own_ext h4 hg⟩
theorem FreshS.of {base b0 n : Nat} {ss : List Value} {e : TypeId} {w : World} {A : Option Addr} {c : Nat} (h : w.ownsRow b0 e 1 (.slice A n c) n ss) (hb : base ≤ b0) : FreshS base ss n e w (.slice A n c) := by
  obtain ⟨A', c', e1, h2, h3, -, -⟩ := Rd.of_own h (by decide)
  injection e1 with e1 e2 e3
  subst e1 e3
  exact ⟨A, c, rfl, h2, h3, ⟨h.1, h.2.imp id fun ⟨g, cap, cur, h1, h2, h3⟩ => ⟨g, cap, cur, h1, Nat.le_trans hb h2, h3⟩⟩⟩
theorem rd_ownG {w : World} {base e n z : Nat} {A : Option Addr} {c : Nat} {xs : List Value} (h : w.ownsRow base e z (.slice A n c) n xs) (hz : 0 < z := by decide) : Rd (base ≤ ·) w A xs := by
  obtain ⟨A', c', e1, _, _, _, hr⟩ := Rd.of_own h hz
  injection e1 with e1
  rw [e1]; exact hr
section
variable {Q : Exit → Act → World → Prop} {ops : Array Oper} {hd : List Oper} {a : Act} {cs : List (Option Value)} {X : (Nat → Bool) → (Nat → Value) → World → Prop} {i : Nat} {o : Oper}
/-- a call of a function that is known only when it comes up -/
theorem gd_callE (hap : dstApart hd = true) (hw : Want ops hd a cs i o true) (h : ∀ D u ρ w, KG ops hd a cs X i D u ρ w → D i = false → ∃ f args, (execOp ρ o).run Tryz.prog w = .ok (.enter f args) w ∧ Calls Tryz.prog f args w (fun e w' => ∃ v, e = .returned v ∧ (∀ c, cs[i]? = some (some c) → v = c) ∧ X (updB D i) (upd u i v) w')) : GenOk Tryz.prog Q ops hd a (JC cs X) i o := by
  refine ⟨?_⟩
  rintro D u w ⟨hi, hx⟩ hdep hnot K hK
  rw [if_pos (hw.is hap hi hdep)]
  unfold Oper.wp
  obtain ⟨f, args, h0, h⟩ := h D u _ w ⟨Rho.mk_ hap u, hi, hx, hdep⟩ hnot
  rw [h0]
  simp only [Oper.upon]
  refine h.mono ?_
  rintro e w' ⟨v, rfl, h2, h3⟩
  exact hK v w' (jc_set hi h2 h3)
end
theorem rd_notB {w : World} {base e n z pb : Nat} {A : Option Addr} {c : Nat} {xs : List Value} (h : w.ownsRow base e z (.slice A n c) n xs) (hp : Value.ownBlock (.slice A n c) ≠ some pb) (hz : 0 < z := by decide) : Rd (fun b => base ≤ b ∧ b ≠ pb) w A xs := by
  intro hn
  obtain ⟨b, o, e1, h1, h2, h3⟩ := rd_ownG h hz hn
  refine ⟨b, o, e1, ⟨h1, fun e2 => hp ?_⟩, h2, h3⟩
  rcases h.2 with ⟨e3, _⟩ | ⟨g, cap, cur, e3, _⟩
  · injection e3 with e3; rw [e3] at e1; cases e1
  · injection e3 with e3 _ _
    rw [e3] at e1
    injection e1 with e1
    injection e1 with e1 _
    rw [e3, e1, e2]; rfl
end Go.Proofs.YtfbkkbbpgipipaaGreatDoor

namespace Go.Proofs.YtfbkkbbpgipipaaGreatDoor
open Go.RowKit
set_option linter.unusedVariables false
set_option linter.unusedSimpArgs false

theorem load_fd (w : World) (b o : Nat) (s v : ByteArray) (h0 : w.cell? ⟨b, o, none⟩ = some (.string s)) (h1 : w.cell? ⟨b, o + 1, none⟩ = some (.string v)) :
    (Instr.loadAt 69 (.pointer (some ⟨b, o, none⟩))).run Tryz.prog w = .ok (.agg #[.string s, .string v]) w := by
  have hu := Tryz.underlying69
  simp [go_sem, h0, h1]
def QuietV (w : World) (e : Ending) (w' : World) : Prop := e = .returned (.tuple #[]) ∧ w.grownBy w' none
set_option maxHeartbeats 4000000 in
set_option maxRecDepth 100000 in
theorem insc_any {S : Nat → Prop} (fb fo : Nat) (fs : List FieldD) (c : Nat) (w : World) (hr : Rd S w (some ⟨fb, fo, none⟩) (fs.flatMap FieldD.cells)) (hl : fs.length ≤ 1000) (hs : (fs.map FieldD.name).Pairwise (fun a b => a.data.toList < b.data.toList)) :
    Calls Tryz.prog 82 #[.slice (some ⟨fb, fo, none⟩) fs.length c, .int .i64 0, .int .i64 fs.length, .func (.func 62) #[] #[]] w (QuietV w) := by
  have HR := Lib.hid hr
  have HS := Lib.hid hs
  clear hr hs
  go_enter Tryz.func82, Tryz.ntmps82
  go_wp2_with fail
  go_loopw [8] (fun vi wr => ∃ i : Nat, vi = .int .i64 i ∧ 1 ≤ i ∧ i ≤ fs.length + 1 ∧ w.grownBy wr none) (fun vi _ => fs.length + 1 - (intOf vi).toNat)
  case atStart => exact ⟨1, rfl, by omega, by omega, only_refl _ _⟩
  case round =>
    obtain ⟨i, rfl, hi1, hi, hG⟩ := hrel
    have G := Lib.hid hG
    clear hG
    by_cases hlt : i < fs.length
    · have k1 : (i : Int) < (fs.length : Int) := by omega
      go_wp2_with fail
      obtain ⟨wo, rfl⟩ : ∃ x, x = wr := ⟨_, rfl⟩
      go_loopw [9] (fun vj wq => vj = .int .i64 (i : Int) ∧ wq = wo) (fun _ _ => 0)
      case atStart => exact ⟨rfl, rfl⟩
      case round =>
        obtain ⟨rfl, rfl⟩ := hrel
        obtain ⟨x, hx⟩ : ∃ x, fs[i]? = some x := ⟨_, List.getElem?_eq_getElem hlt⟩
        obtain ⟨j, hj⟩ : ∃ j, i = j + 1 := ⟨i - 1, by omega⟩
        obtain ⟨y, hy⟩ : ∃ y, fs[j]? = some y := ⟨_, List.getElem?_eq_getElem (by omega)⟩
        have HX := Lib.hid hx
        have HY := Lib.hid hy
        have hxy : y.name.data.toList < x.name.data.toList := by
          obtain ⟨q1, q2⟩ := List.getElem?_eq_some_iff.1 hx
          obtain ⟨q3, q4⟩ := List.getElem?_eq_some_iff.1 hy
          have := List.pairwise_iff_getElem.1 HS.out j i (by simpa using q3) (by simpa using q1) (by omega)
          simpa [q2, q4] using this
        have HCG : Hid (Lib.compareBytes x.name.data.toList y.name.data.toList = 1) := Lib.hid (cmp_gt _ _ hxy)
        have KB : Hid (∀ W, Calls Tryz.prog 62 #[.agg #[.string x.name, .string x.value], .agg #[.string y.name, .string y.value]] W (FCmpQ x.name y.name W)) := Lib.hid (fun W => fcmp_any x.name x.value y.name y.value W)
        have HRR := Lib.hid (HR.out.grown G.out (by simp))
        have hi0 : 0 < i := by omega
        have i1 : (0 : Int) ≤ (i : Int) := by omega
        have i2 : (i : Int) < (fs.length : Int) := by omega
        have j1 : (0 : Int) ≤ (j : Int) := by omega
        have j2 : (j : Int) < (fs.length : Int) := by omega
        have hwj : IntKind.i64.wrap ((i : Int) - 1) = (j : Int) := by rw [show (i : Int) - 1 = (j : Int) by omega]; exact IntWalk.i64_in _ (by omega)
        clear hx hy hxy hj
        go_upto_region 4 with fail
        refine wp_region_gen 17 (JC [some (.int .i64 ((i : Int))), some (.int .i64 (0)), some (.bool true), some (.bool true), some (.func (.func 62) #[] #[]), some (.slice (some ⟨fb, fo, none⟩) fs.length c), some (.int .i64 ((i : Int))), some (.pointer (some ⟨fb, fo + i * 2, none⟩)), some (.agg #[.string x.name, .string x.value]), some (.slice (some ⟨fb, fo, none⟩) fs.length c), some (.int .i64 ((i : Int))), some (.int .i64 ((j : Int))), some (.pointer (some ⟨fb, fo + j * 2, none⟩)), some (.agg #[.string y.name, .string y.value]), some (.int .i64 (1)), some (.bool false), some (.bool false)] (fun D u wx => wr.grownBy wx none)) (by kernel_rfl) (by kernel_rfl) ?_ ?_ ?_
        · intro u
          exact ⟨(fun j c _ h => by cases h), only_drew (only_refl _ _)⟩
        · intro AA hA
          have hasz : AA.tmps.size = 53 := by rw [hA]; kernel_rfl
          have ea0 : AA.eval (.tmp 0) = .slice (some ⟨fb, fo, none⟩) fs.length c := by rw [hA]; kernel_rfl
          have ea1 : AA.eval (.tmp 1) = .int .i64 (0) := by rw [hA]; kernel_rfl
          have ea3 : AA.eval (.tmp 3) = .func (.func 62) #[] #[] := by rw [hA]; kernel_rfl
          have ea9 : AA.eval (.tmp 9) = .int .i64 ((i : Int)) := by rw [hA]; kernel_rfl
          clear hA
          simp only [List.take_succ_cons, List.take_zero]
          refine .cons ?_ (.cons ?_ (.cons ?_ (.cons ?_ (.cons ?_ (.cons ?_ (.cons ?_ (.cons ?_ (.cons ?_ (.cons ?_ (.cons ?_ (.cons ?_ (.cons ?_ (.cons ?_ (.cons ?_ (.cons ?_ (.cons ?_ (.nil)))))))))))))))))
          · exact gd_gen (by kernel_rfl) (Want.none_ rfl) rfl (fun D u w v h => by simpa [updB, upd] using h) (fun D u ρ w kn => by
              have e0 := kn.own 9 (c := .int .i64 ((i : Int))) (by kernel_rfl) ea9
              simp [execOp, kn.rho.con, e0, go_sem])
          · exact gd_gen (by kernel_rfl) (Want.none_ rfl) rfl (fun D u w v h => by simpa [updB, upd] using h) (fun D u ρ w kn => by
              have e0 := kn.own 1 (c := .int .i64 (0)) (by kernel_rfl) ea1
              simp [execOp, kn.rho.con, e0, go_sem])
          · exact gd_gen (by kernel_rfl) (Want.none_ rfl) rfl (fun D u w v h => by simpa [updB, upd] using h) (fun D u ρ w kn => by
              have e0 := kn.con 0 18 (c := .int .i64 ((i : Int))) (by kernel_rfl) (by omega) (by kernel_rfl) rfl
              have e1 := kn.con 1 19 (c := .int .i64 (0)) (by kernel_rfl) (by omega) (by kernel_rfl) rfl
              simp [execOp, kn.rho.con, e0, e1, go_sem, hi0])
          · exact gd_gen (by kernel_rfl) (Want.none_ rfl) rfl (fun D u w v h => by simpa [updB, upd] using h) (fun D u ρ w kn => by
              have e0 := kn.con 2 20 (c := .bool true) (by kernel_rfl) (by omega) (by kernel_rfl) rfl
              simp [execOp, kn.rho.con, e0, go_sem])
          · exact gd_gen (by kernel_rfl) (Want.some_ (g := 3) (v := true) rfl rfl (by kernel_rfl) (by omega) rfl rfl (by kernel_rfl)) rfl (fun D u w v h => by simpa [updB, upd] using h) (fun D u ρ w kn => by
              have e0 := kn.own 3 (c := .func (.func 62) #[] #[]) (by kernel_rfl) ea3
              simp [execOp, kn.rho.con, e0, go_sem])
          · exact gd_gen (by kernel_rfl) (Want.some_ (g := 3) (v := true) rfl rfl (by kernel_rfl) (by omega) rfl rfl (by kernel_rfl)) rfl (fun D u w v h => by simpa [updB, upd] using h) (fun D u ρ w kn => by
              have e0 := kn.own 0 (c := .slice (some ⟨fb, fo, none⟩) fs.length c) (by kernel_rfl) ea0
              simp [execOp, kn.rho.con, e0, go_sem])
          · exact gd_gen (by kernel_rfl) (Want.some_ (g := 3) (v := true) rfl rfl (by kernel_rfl) (by omega) rfl rfl (by kernel_rfl)) rfl (fun D u w v h => by simpa [updB, upd] using h) (fun D u ρ w kn => by
              have e0 := kn.own 9 (c := .int .i64 ((i : Int))) (by kernel_rfl) ea9
              simp [execOp, kn.rho.con, e0, go_sem])
          · exact gd_gen (by kernel_rfl) (Want.some_ (g := 3) (v := true) rfl rfl (by kernel_rfl) (by omega) rfl rfl (by kernel_rfl)) rfl (fun D u w v h => by simpa [updB, upd] using h) (fun D u ρ w kn => by
              have e0 := kn.con 5 23 (c := .slice (some ⟨fb, fo, none⟩) fs.length c) (by kernel_rfl) (by omega) (by kernel_rfl) rfl
              have e1 := kn.con 6 24 (c := .int .i64 ((i : Int))) (by kernel_rfl) (by omega) (by kernel_rfl) rfl
              simp [execOp, kn.rho.con, e0, e1, go_sem, i1, i2])
          · exact gd_gen (by kernel_rfl) (Want.some_ (g := 3) (v := true) rfl rfl (by kernel_rfl) (by omega) rfl rfl (by kernel_rfl)) rfl (fun D u w v h => by simpa [updB, upd] using h) (fun D u ρ w kn => by
              have e0 := kn.con 7 25 (c := .pointer (some ⟨fb, fo + i * 2, none⟩)) (by kernel_rfl) (by omega) (by kernel_rfl) rfl
              exact run_load ρ w rfl e0 (load_fd w fb (fo + i * 2) _ _ (show w.cell? ⟨fb, fo + i * 2, none⟩ = some (.string x.name) from (HRR.out.grown kn.ext (by simp)).flatAt FieldD.cells_len HX.out 0 (by omega)) (show w.cell? ⟨fb, fo + i * 2 + 1, none⟩ = some (.string x.value) from (HRR.out.grown kn.ext (by simp)).flatAt FieldD.cells_len HX.out 1 (by omega))))
          · exact gd_gen (by kernel_rfl) (Want.some_ (g := 3) (v := true) rfl rfl (by kernel_rfl) (by omega) rfl rfl (by kernel_rfl)) rfl (fun D u w v h => by simpa [updB, upd] using h) (fun D u ρ w kn => by
              have e0 := kn.own 0 (c := .slice (some ⟨fb, fo, none⟩) fs.length c) (by kernel_rfl) ea0
              simp [execOp, kn.rho.con, e0, go_sem])
          · exact gd_gen (by kernel_rfl) (Want.some_ (g := 3) (v := true) rfl rfl (by kernel_rfl) (by omega) rfl rfl (by kernel_rfl)) rfl (fun D u w v h => by simpa [updB, upd] using h) (fun D u ρ w kn => by
              have e0 := kn.own 9 (c := .int .i64 ((i : Int))) (by kernel_rfl) ea9
              simp [execOp, kn.rho.con, e0, go_sem])
          · exact gd_gen (by kernel_rfl) (Want.some_ (g := 3) (v := true) rfl rfl (by kernel_rfl) (by omega) rfl rfl (by kernel_rfl)) rfl (fun D u w v h => by simpa [updB, upd] using h) (fun D u ρ w kn => by
              have e0 := kn.con 10 28 (c := .int .i64 ((i : Int))) (by kernel_rfl) (by omega) (by kernel_rfl) rfl
              simp [execOp, kn.rho.con, e0, go_sem, hwj])
          · exact gd_gen (by kernel_rfl) (Want.some_ (g := 3) (v := true) rfl rfl (by kernel_rfl) (by omega) rfl rfl (by kernel_rfl)) rfl (fun D u w v h => by simpa [updB, upd] using h) (fun D u ρ w kn => by
              have e0 := kn.con 9 27 (c := .slice (some ⟨fb, fo, none⟩) fs.length c) (by kernel_rfl) (by omega) (by kernel_rfl) rfl
              have e1 := kn.con 11 29 (c := .int .i64 ((j : Int))) (by kernel_rfl) (by omega) (by kernel_rfl) rfl
              simp [execOp, kn.rho.con, e0, e1, go_sem, j1, j2])
          · exact gd_gen (by kernel_rfl) (Want.some_ (g := 3) (v := true) rfl rfl (by kernel_rfl) (by omega) rfl rfl (by kernel_rfl)) rfl (fun D u w v h => by simpa [updB, upd] using h) (fun D u ρ w kn => by
              have e0 := kn.con 12 30 (c := .pointer (some ⟨fb, fo + j * 2, none⟩)) (by kernel_rfl) (by omega) (by kernel_rfl) rfl
              exact run_load ρ w rfl e0 (load_fd w fb (fo + j * 2) _ _ (show w.cell? ⟨fb, fo + j * 2, none⟩ = some (.string y.name) from (HRR.out.grown kn.ext (by simp)).flatAt FieldD.cells_len HY.out 0 (by omega)) (show w.cell? ⟨fb, fo + j * 2 + 1, none⟩ = some (.string y.value) from (HRR.out.grown kn.ext (by simp)).flatAt FieldD.cells_len HY.out 1 (by omega))))
          · refine gd_call (by kernel_rfl) (Want.some_ (g := 3) (v := true) rfl rfl (by kernel_rfl) (by omega) rfl rfl (by kernel_rfl)) 62 (fun D u ρ wx kn hD => ?_)
            have e0 := kn.con 4 22 (c := .func (.func 62) #[] #[]) (by kernel_rfl) (by omega) (by kernel_rfl) rfl
            have e1 := kn.con 8 26 (c := .agg #[.string x.name, .string x.value]) (by kernel_rfl) (by omega) (by kernel_rfl) rfl
            have e2 := kn.con 13 31 (c := .agg #[.string y.name, .string y.value]) (by kernel_rfl) (by omega) (by kernel_rfl) rfl
            refine ⟨#[.agg #[.string x.name, .string x.value], .agg #[.string y.name, .string y.value]], ?_, (KB.out wx).mono ?_⟩
            · simp only [execOp, resolve, Deferred.ofValue, List.map_toArray, List.map_cons, List.map_nil, e0, e1, e2, kn.rho.con, kn.rho.fn]
              simp [go_sem]
            · rintro e w' ⟨rfl, hg⟩
              rw [HCG.out]
              exact ⟨_, rfl, (fun c h => by injection h with h; injection h), only_trans kn.ext hg⟩
          · exact gd_gen (by kernel_rfl) (Want.some_ (g := 3) (v := true) rfl rfl (by kernel_rfl) (by omega) rfl rfl (by kernel_rfl)) rfl (fun D u w v h => by simpa [updB, upd] using h) (fun D u ρ w kn => by
              have e0 := kn.con 14 32 (c := .int .i64 (1)) (by kernel_rfl) (by omega) (by kernel_rfl) rfl
              simp [execOp, kn.rho.con, e0, go_sem])
          · exact gd_gen (by kernel_rfl) (Want.none_ rfl) rfl (fun D u w v h => by simpa [updB, upd] using h) (fun D u ρ w kn => by
              have e0 := kn.con 3 21 (c := .bool true) (by kernel_rfl) (by omega) (by kernel_rfl) rfl
              have e1 := kn.con 15 33 (c := .bool false) (by kernel_rfl) (by omega) (by kernel_rfl) rfl
              simp [execOp, kn.rho.con, e0, e1, go_sem])
        · intro D u w9 hJ hD
          simp only [List.take_succ_cons, List.take_zero, List.drop_succ_cons, List.drop_zero, putAll]
          have hcn := hJ.1
          have x1 := hJ.2
          have e16 : u 16 = .bool false := hcn 16 _ rfl (hD 16 (by omega))
          rw [e16]
          have G9 := Lib.hid (only_trans G.out x1)
          clear hJ hcn x1 e16 hD
          go_simp
          go_wp2_with fail
          go_roundw
          case rel => exact ⟨i + 1, by go_num, by omega, by omega, G9.out⟩
          case measure => simp [intOf]; omega
    · have k1 : ¬ ((i : Int) < (fs.length : Int)) := by omega
      go_wp2_with fail
      exact bodyPost_ret (v := .tuple #[]) (by simp [results, Tryz.results82, go_sem]) rfl ⟨rfl, G.out⟩
end Go.Proofs.YtfbkkbbpgipipaaGreatDoor

namespace Go.Proofs.YtfbkkbbpgipipaaGreatDoor
open Go.RowKit
set_option linter.unusedVariables false
set_option linter.unusedSimpArgs false

/-- the table of kinds says 'letter' at the small letters -/
def Kinds (w : World) : Prop := 0 < w.heap.size ∧ ∀ c : Nat, 97 ≤ c → c ≤ 122 → w.cell? ⟨0, c, none⟩ = some (.int .u8 2)
theorem Kinds.grown {w w' : World} {row : Option Nat} (h : Kinds w) (hg : w.grownBy w' row) (hr : some 0 ≠ row) : Kinds w' :=
  ⟨Nat.lt_of_lt_of_le h.1 hg.size, fun c h1 h2 => (hg.cell_far ⟨0, c, none⟩ h.1 hr).trans (h.2 c h1 h2)⟩
def StayA (b : Bool) (w : World) (e : Ending) (w' : World) : Prop := e = .returned (.bool b) ∧ w' = w
set_option maxHeartbeats 1000000 in
set_option maxRecDepth 100000 in
theorem aletter_any (c : Nat) (h1 : 97 ≤ c) (h2 : c ≤ 122) (w : World) (hK : Kinds w) : Calls Tryz.prog 72 #[.int .u8 (c : Int)] w (StayA true w) := by
  have hc := hK.2 c h1 h2
  have i1 : (0 : Int) ≤ (c : Int) := by omega
  have i2 : (c : Int) < 256 := by omega
  go_enter Tryz.func72, Tryz.ntmps72
  go_wp2_with fail
  go_ret
  exact ⟨rfl, rfl⟩
set_option maxHeartbeats 1000000 in
set_option maxRecDepth 100000 in
theorem aword_any (c : Nat) (h1 : 97 ≤ c) (h2 : c ≤ 122) (w : World) (hK : Kinds w) : Calls Tryz.prog 73 #[.int .u8 (c : Int)] w (StayA true w) := by
  have hc := hK.2 c h1 h2
  have i1 : (0 : Int) ≤ (c : Int) := by omega
  have i2 : (c : Int) < 256 := by omega
  go_enter Tryz.func73, Tryz.ntmps73
  go_wp2_with fail
  go_ret
  exact ⟨rfl, rfl⟩
/-- a name of small letters -/
def LowNm (s : ByteArray) : Prop := 1 ≤ s.size ∧ s.size ≤ 32 ∧ ∀ (k : Nat) (h : k < s.size), 97 ≤ (s[k]'h).toNat ∧ (s[k]'h).toNat ≤ 122
def OkQ (w : World) (e : Ending) (w' : World) : Prop := e = .returned (.bool true) ∧ w.grownBy w' none
set_option maxHeartbeats 2000000 in
set_option maxRecDepth 100000 in
theorem pname_any (s : ByteArray) (hs : LowNm s) (w : World) (hK : Kinds w) : Calls Tryz.prog 59 #[.string s] w (OkQ w) := by
  obtain ⟨h1, h2, h3⟩ := hs
  have H3 := Lib.hid h3
  have HK := Lib.hid hK
  have h0 : 0 < s.size := by omega
  have i00 : ¬ (s.size : Int) < 1 := by omega
  have i1 : ¬ (32 : Int) < (s.size : Int) := by omega
  have i2 : ¬ 32 < s.size := by omega
  have K0 := Lib.hid (aletter_any (s[0]'h0).toNat (h3 0 h0).1 (h3 0 h0).2 w hK)
  have KW : Hid (∀ (k : Nat) (h : k < s.size) (W : World), w.grownBy W none → Calls Tryz.prog 73 #[.int .u8 ((s[k]'h).toNat : Int)] W (StayA true W)) := Lib.hid (fun k h W hg => aword_any _ (h3 k h).1 (h3 k h).2 W (hK.grown hg (by simp)))
  have e0 : s.toList.isEmpty = false := by
    rw [ByteArray.toList_eq]
    cases h5 : s.data.toList with
    | nil => have : s.size = 0 := by rw [← ByteArray.size_data, ← Array.length_toList, h5]; rfl
             omega
    | cons a l => rfl
  clear h3 hK
  go_enter Tryz.func59, Tryz.ntmps59
  go_wp2_with fail
  refine K0.out.mono ?_
  rintro e w1 ⟨rfl, rfl⟩
  obtain ⟨w, rfl⟩ : ∃ x, x = w1 := ⟨_, rfl⟩
  have hcv := Lib.run_convert_string_bytes (P := Tryz.prog) w 9 22 5 s Tryz.underlying9 Tryz.underlying22 Tryz.underlying5
  obtain ⟨W2, hW2⟩ : ∃ W, W = Lib.bytesWorld w 5 s := ⟨_, rfl⟩
  have HB : Hid (∀ j (h : j < s.size), W2.cell? ⟨w.heap.size, j, none⟩ = some (.int .u8 ((s[j]'h).toNat : Int))) := Lib.hid (fun j h => by
    rw [hW2, Lib.bytesWorld_cell w 5 s j h]
    have hj : j < s.data.toList.length := by rw [Array.length_toList]; exact h
    have : s.data.toList.getD j 0 = s[j]'h := by
      rw [List.getD_eq_getElem?_getD, List.getElem?_eq_getElem hj]
      simp
      rfl
    rw [this])
  have G2 : Hid (w.grownBy W2 none) := Lib.hid (by
    rw [hW2]
    exact ⟨rfl, rfl, rfl, by rw [Lib.bytesWorld_size]; omega, fun i hi _ => Lib.bytesWorld_at_old w 5 s i hi⟩)
  obtain ⟨sb, hsb⟩ : ∃ b, b = w.heap.size := ⟨_, rfl⟩
  have HW := Lib.hid hW2.symm
  have HSB := Lib.hid hsb
  rw [← hsb] at HB
  clear hW2 hsb K0
  go_upto_region 4 with fail
  rw [HW.out, ← HSB.out]
  clear hcv HW
  go_wp2_with fail
  go_loopw [26] (fun vi wr => ∃ k : Nat, vi = .int .i64 k ∧ k ≤ s.size ∧ wr = W2) (fun vi _ => s.size - (intOf vi).toNat)
  case atStart => exact ⟨0, rfl, Nat.zero_le _, rfl⟩
  case round =>
    obtain ⟨k, rfl, hk, rfl⟩ := hrel
    by_cases hlt : k < s.size
    · have j1 : (k : Int) < (s.size : Int) := by omega
      have j2 : (0 : Int) ≤ (k : Int) := by omega
      have hc := HB.out k hlt
      have KK := Lib.hid (KW.out k hlt _ G2.out)
      go_wp2_with fail
      refine KK.out.mono ?_
      rintro e w1 ⟨rfl, rfl⟩
      go_wp2_with fail
      go_roundw
      case rel => exact ⟨k + 1, by go_num, by omega, trivial⟩
      case measure => simp [intOf]; omega
    · have j1 : ¬ (k : Int) < (s.size : Int) := by omega
      go_wp2_with fail
      go_ret
      exact ⟨rfl, G2.out⟩
end Go.Proofs.YtfbkkbbpgipipaaGreatDoor

namespace Go.Proofs.YtfbkkbbpgipipaaGreatDoor
open Go.RowKit
set_option linter.unusedVariables false
set_option linter.unusedSimpArgs false

set_option maxHeartbeats 800000 in
theorem time_some (g : Nat) (l : List Int) (k : Nat) (w : World) (h : CodesAt w g l k) :
    Calls Tryz.prog 38 #[.pointer (some ⟨g, 0, none⟩)] w (DrawnPost w g l (fun v => 0 ≤ v ∧ v ≤ 253402300799999)) := by
  go_enter Tryz.func38, Tryz.ntmps38
  go_wp2_with fail
  refine (next_some g l k 4 _ h (by omega) (by omega)).mono ?_
  rintro e w1 ⟨v, k1, rfl, hv, h1, hg1⟩
  by_cases h0 : v = 0
  · have hb : (v == 0) = true := by simp [h0]
    clear h0
    go_wp2_with fail
    refine (next_some g l k1 40 _ h1 (by omega) (by omega)).mono ?_
    rintro e w2 ⟨v2, k2, rfl, hv2, h2, hg2⟩
    go_wp2
    go_ret
    exact ⟨_, k2, rfl, by simp; omega, h2, only_trans hg1 hg2⟩
  · have hb : (v == 0) = false := by simp [h0]
    by_cases h1' : v = 1
    · have hb : (v == 1) = true := by simp [h1']
      clear h0 h1'
      go_wp2_with fail
      refine (next_some g l k1 3 _ h1 (by omega) (by omega)).mono ?_
      rintro e w2 ⟨v2, k2, rfl, hv2, h2, hg2⟩
      go_wp2
      go_ret
      exact ⟨_, k2, rfl, by simp; omega, h2, only_trans hg1 hg2⟩
    · have hb : (v == 1) = false := by simp [h1']
      clear h0 h1'
      go_wp2_with fail
      refine (next_some g l k1 60 _ h1 (by omega) (by omega)).mono ?_
      rintro e w2 ⟨v2, k2, rfl, hv2, h2, hg2⟩
      go_wp2
      go_ret
      exact ⟨_, k2, rfl, by simp; omega, h2, only_trans hg1 hg2⟩
end Go.Proofs.YtfbkkbbpgipipaaGreatDoor

namespace Go.Proofs.YtfbkkbbpgipipaaGreatDoor
open Go.RowKit
set_option linter.unusedVariables false
set_option linter.unusedSimpArgs false

set_option maxHeartbeats 800000 in
theorem value_some (g : Nat) (l : List Int) (k : Nat) (w : World) (h : CodesAt w g l k) :
    Calls Tryz.prog 58 #[.pointer (some ⟨g, 0, none⟩)] w (StrPost w g l 20) := by
  go_enter Tryz.func58, Tryz.ntmps58
  go_wp2_with fail
  refine (next_some g l k 11 _ (h.grown (World.grownBy_alloc _ _ none) (by simp)) (by omega) (by omega)).mono ?_
  rintro e w2 ⟨v2, k2, rfl, hv2, h2, hg2⟩
  obtain ⟨j, rfl⟩ := Int.eq_ofNat_of_zero_le hv2.1
  have hj : j < 11 := by omega
  have hlt := h.lt
  have hB := (Blk.new w _ _).grown hg2 (by simp; omega)
  obtain ⟨x, hc, HX⟩ := hB.str_at (m := 20) (by rfl) (j := j) hj
  have G2 := Lib.hid hg2
  have C2 := Lib.hid h2
  clear hg2 h2 hB
  go_wp2
  go_ret
  exact ⟨x, k2, rfl, by have := HX.out; simpa using this, C2.out, only_trans (only_alloc (only_refl _ _) _) G2.out⟩

def IsWeight (v : Int) : Prop := v = 1 ∨ v = 2 ∨ v = 5 ∨ v = 10 ∨ v = 5040

set_option maxHeartbeats 800000 in
theorem weight_some (g : Nat) (l : List Int) (k : Nat) (w : World) (h : CodesAt w g l k) :
    Calls Tryz.prog 39 #[.pointer (some ⟨g, 0, none⟩)] w (DrawnPost w g l IsWeight) := by
  go_enter Tryz.func39, Tryz.ntmps39
  go_wp2_with fail
  refine (next_some g l k 6 _ (h.grown (World.grownBy_alloc _ _ none) (by simp)) (by omega) (by omega)).mono ?_
  rintro e w2 ⟨v2, k2, rfl, hv2, h2, hg2⟩
  obtain ⟨j, rfl⟩ := Int.eq_ofNat_of_zero_le hv2.1
  have hj : j < 6 := by omega
  have hlt := h.lt
  have hB := (Blk.new w _ _).grown hg2 (by simp; omega)
  obtain ⟨x, hc, HX⟩ := hB.int_at (p := fun v => v == 1 || v == 2 || v == 5 || v == 10 || v == 5040) (by rfl) (j := j) hj
  have G2 := Lib.hid hg2
  have C2 := Lib.hid h2
  clear hg2 h2 hB
  go_wp2
  go_ret
  exact ⟨x, k2, rfl, by have := HX.out; simpa [IsWeight, or_assoc] using this, C2.out, only_trans (only_alloc (only_refl _ _) _) G2.out⟩

end Go.Proofs.YtfbkkbbpgipipaaGreatDoor

namespace Go.Proofs.YtfbkkbbpgipipaaGreatDoor
open Go.RowKit
set_option linter.unusedVariables false
set_option linter.unusedSimpArgs false

theorem fieldInfo : (Tryz.prog.info? 69).map (fun i => (i.zero, i.size, i.bytes)) = some (some (.agg #[.string ⟨#[]⟩, .string ⟨#[]⟩]), 2, 32) := by kernel_rfl
def nameTab : List ByteArray := [⟨#[99, 111, 100, 101]⟩, ⟨#[108, 101, 118, 101, 108]⟩, ⟨#[109, 115]⟩, ⟨#[117, 115, 101, 114]⟩]
def FieldsOk (n : Nat) (fs : List FieldD) : Prop := (fs.map FieldD.name).Sublist (nameTab.take n) ∧ ∀ f ∈ fs, f.value.size ≤ 20
theorem FieldsOk.skip {n : Nat} {fs : List FieldD} (h : FieldsOk n fs) : FieldsOk (n + 1) fs :=
  ⟨h.1.trans (List.take_sublist_take_left (by omega)), h.2⟩
theorem FieldsOk.snoc {n : Nat} {fs : List FieldD} (h : FieldsOk n fs) (hn : n < 4) {f : FieldD} (h1 : nameTab[n]? = some f.name) (h2 : f.value.size ≤ 20) : FieldsOk (n + 1) (fs ++ [f]) := by
  refine ⟨?_, mem_snoc h.2 h2⟩
  have : nameTab.take (n + 1) = nameTab.take n ++ [f.name] := by rw [List.take_add_one, h1]; rfl
  rw [this, List.map_append]
  exact h.1.append (List.Sublist.refl _)
def FieldsPost (w : World) (g : Nat) (l : List Int) (e : Ending) (w' : World) : Prop :=
  ∃ (A : Option Addr) (c : Nat) (fs : List FieldD) (k : Nat), e = .returned (.slice A fs.length c) ∧ FieldsOk 4 fs ∧ fs.length ≤ c ∧ c ≤ maxLen ∧ Rd (w.heap.size ≤ ·) w' A (fs.flatMap FieldD.cells) ∧ CodesAt w' g l k ∧ w.grownBy w' (some g)

set_option maxHeartbeats 1600000 in
set_option maxRecDepth 100000 in
theorem fields_some (g : Nat) (l : List Int) (k : Nat) (w : World) (h : CodesAt w g l k) :
    Calls Tryz.prog 40 #[.pointer (some ⟨g, 0, none⟩)] w (FieldsPost w g l) := by
  have hlt0 := h.lt
  go_enter Tryz.func40, Tryz.ntmps40
  go_wp2_with fail
  obtain ⟨W, hW⟩ : ∃ W, W = w.alloc (Obj.cells (nameTab.map Value.string).toArray 9) := ⟨_, rfl⟩
  have hW2 : w.alloc (Obj.cells #[Value.string ⟨#[99, 111, 100, 101]⟩, Value.string ⟨#[108, 101, 118, 101, 108]⟩, Value.string ⟨#[109, 115]⟩, Value.string ⟨#[117, 115, 101, 114]⟩] 9) = W := hW.symm
  rw [hW2]
  have HC : Hid (CodesAt W g l k) := hW ▸ h.alloc _
  have HB : Hid (Blk W w.heap.size 9 (nameTab.map Value.string).toArray) := hW ▸ Blk.new w _ _
  have HG : Hid (w.grownBy W (some g)) := hW ▸ only_alloc (only_refl _ _) _
  clear hW hW2 h
  obtain ⟨tb, htb⟩ : ∃ tb, tb = w.heap.size := ⟨_, rfl⟩
  rw [← htb] at HB hlt0 ⊢
  have HTB := Lib.hid htb
  clear htb
  go_loopw [3, 5] (fun v i wr => ∃ (n k : Nat) (fs : List FieldD), n ≤ 4 ∧ fs.length ≤ n ∧ i = .int .i64 n ∧ FieldsOk n fs ∧ wr.ownsRow (tb + 1) 69 2 v fs.length (fs.flatMap FieldD.cells) ∧ CodesAt wr g l k ∧ Blk wr tb 9 (nameTab.map Value.string).toArray ∧ w.grownBy wr (some g)) (fun _ i _ => 4 - (intOf i).toNat)
  case atStart => exact ⟨0, k, [], by omega, by simp, rfl, ⟨by simp, by simp⟩, World.ownsRow_nil _ _ _ _, HC.out, HB.out, HG.out⟩
  case round =>
    obtain ⟨n, k, fs, hn, hfn, rfl, hok, hown, hC, hB, hG⟩ := hrel
    have G := Lib.hid hG
    have OK := Lib.hid hok
    have hlt := hB.lt
    clear hG hok HC HB HG
    by_cases hn4 : n < 4
    · go_wp2_with fail
      refine (next_some g l k 3 _ hC (by omega) (by omega)).mono ?_
      rintro e w2 ⟨v2, k2, rfl, hv2, h2, hg2⟩
      have hown2 := own_only hown hg2 (by omega)
      have hB2 := hB.grown hg2 (by simp; omega)
      have G2 : Hid (w.grownBy w2 (some g)) := only_trans G.out hg2
      have hlt2 := hB2.lt
      clear hC hB hown hg2 G hlt
      by_cases hv : v2 = 1
      · have hb1 : (v2 == 1) = true := by simp [hv]
        obtain ⟨nm, hnm⟩ : ∃ nm, nameTab[n]? = some nm := ⟨_, List.getElem?_eq_getElem (show n < nameTab.length from hn4)⟩
        have hcell := hB2.cell n
        have hcell' : w2.cell? ⟨tb, n, none⟩ = some (.string nm) := by rw [hcell]; simp [hnm]
        have HNM := Lib.hid hnm
        have HB2 := Lib.hid hB2
        clear hcell hnm hv hB2
        go_wp2_with fail
        go_region_law (first
          | (have htok := hown5; go_must (refine step_append1 rfl _ _ 33 rfl (tb + 1) Tryz.underlying33 fieldInfo rfl (by decide) (v := _) (by rfl) (w0 := w5) (cs := #[.string nm, .string s5]) (by rfl) (by rfl) (by rfl) (by rfl) hown5 (by rfl) rfl (by simp [Value.oneCell']) (by decide) (by omega) (by omega) ?_); intro v9 w9 hown9 hg9 hob9)
          | (go_simp; go_at_call 58; refine (value_some g l k2 _ (by exact h2.drew)).mono ?_; rintro e w5 ⟨s5, k5, rfl, hs5, hC5, hg5⟩; have hown5 := own_only (own_drew hown2) hg5 (by omega); have hlt5 := hC5.lt; have hz5 : w2.heap.size ≤ w5.heap.size := hg5.size; have hcell5 : w5.cell? ⟨tb, n, none⟩ = some (.string nm) := hg5.cell (show w2.drew.cell? _ = _ from hcell') (by simp; omega)))
        all_goals
          have hC9 := hC5.grown hg9 (fun b hb e => by have := (hown5.lt b e.symm).1; omega)
          have hB9 := (HB2.out.drew.grown hg5 (by simp; omega)).grown hg9 (fun e => by have := (hown5.lt _ e.symm).1; omega)
          have G9 : Hid (w.grownBy w9 (some g)) := only_own (only_trans (only_drew G2.out) hg5) hg9 hown5 (by have := HTB.out; omega)
          have hown9' : w9.ownsRow (tb + 1) 69 2 v9 (fs ++ [FieldD.mk nm s5]).length ((fs ++ [FieldD.mk nm s5]).flatMap FieldD.cells) := by simpa [FieldD.cells] using hown9
          clear hown9 hg9 hob9 hown5 hC5 hg5 hcell5 hown2 h2
          go_wp2_with fail
          go_roundw
          case rel => exact ⟨n + 1, k5, fs ++ [FieldD.mk nm s5], by omega, by simp; omega, by go_num, OK.out.snoc hn4 HNM.out hs5, hown9', hC9, hB9, G9.out⟩
          case measure => simp [intOf]; omega
      · have hb1 : (v2 == 1) = false := by simp [hv]
        go_wp2_with fail
        go_roundw
        case rel => exact ⟨n + 1, k2, fs, by omega, by omega, by go_num, OK.out.skip, hown2, h2, hB2, G2.out⟩
        case measure => simp [intOf]; omega
    · obtain rfl : n = 4 := by omega
      obtain ⟨A, cc, rfl, hnc, hcm, -, hrd⟩ := Rd.of_own hown (by decide)
      have HR := Lib.hid hrd
      clear hrd
      go_wp2_with fail
      go_ret
      exact ⟨A, cc, fs, k, rfl, OK.out, hnc, hcm, HR.out.mono (fun b hb _ => by have := HTB.out; omega), hC, G.out⟩
end Go.Proofs.YtfbkkbbpgipipaaGreatDoor
