/- Strings as plain data: their order, prefixes; slices of strings. No condition. -/
import Derived.Test.YtpaiideboodaeaaGreatDoorJBase
import Derived.Lib.Strings
import Derived.Deep.RegionLaw
import Derived.Deep.DeepMust
import Derived.Deep.RegionWith
namespace Go.Proofs.YtpaiideboodaeaaGreatDoor
open Go.RowKit
set_option linter.unusedVariables false
set_option linter.unusedSimpArgs false

theorem bl_irrefl : ∀ x : List UInt8, Op.bytesLess x x = false
  | [] => rfl
  | a :: x => by simp [Op.bytesLess, bl_irrefl x]
theorem bl_trans : ∀ x y z : List UInt8, Op.bytesLess x y = true → Op.bytesLess y z = true → Op.bytesLess x z = true
  | _, [], _, h, _ => by simp [Op.bytesLess] at h
  | _, _ :: _, [], _, h => by simp [Op.bytesLess] at h
  | [], _ :: _, _ :: _, _, _ => rfl
  | a :: x, b :: y, c :: z, h1, h2 => by
    simp only [Op.bytesLess, Bool.or_eq_true, decide_eq_true_eq, Bool.and_eq_true, beq_iff_eq] at h1 h2 ⊢
    rcases h1 with h1 | ⟨rfl, h1⟩
    · rcases h2 with h2 | ⟨rfl, h2⟩
      · exact .inl (UInt8.lt_trans h1 h2)
      · exact .inl h1
    · rcases h2 with h2 | ⟨rfl, h2⟩
      · exact .inl h2
      · exact .inr ⟨rfl, bl_trans x y z h1 h2⟩
theorem bl_tri : ∀ x y : List UInt8, Op.bytesLess x y = false → Op.bytesLess y x = false → x = y
  | [], [], _, _ => rfl
  | [], _ :: _, h, _ => by simp [Op.bytesLess] at h
  | _ :: _, [], _, h => by simp [Op.bytesLess] at h
  | a :: x, b :: y, h1, h2 => by
    simp only [Op.bytesLess, Bool.or_eq_false_iff, decide_eq_false_iff_not, Bool.and_eq_false_iff, beq_eq_false_iff_ne] at h1 h2
    have hab : a = b := by
      have h3 := h1.1
      have h4 := h2.1
      exact UInt8.le_antisymm (UInt8.not_lt.1 h4) (UInt8.not_lt.1 h3)
    subst hab
    have e1 : Op.bytesLess x y = false := by rcases h1.2 with h | h; exact absurd rfl h; exact h
    have e2 : Op.bytesLess y x = false := by rcases h2.2 with h | h; exact absurd rfl h; exact h
    rw [bl_tri x y e1 e2]
theorem bl_asymm (x y : List UInt8) (h : Op.bytesLess x y = true) : Op.bytesLess y x = false := by
  cases h' : Op.bytesLess y x with
  | false => rfl
  | true => have := bl_trans x y x h h'; rw [bl_irrefl] at this; cases this

/-- the order of strings -/
def sl (a b : ByteArray) : Bool := Op.bytesLess a.toList b.toList
theorem toList_inj {a b : ByteArray} (h : a.toList = b.toList) : a = b := by
  rw [ByteArray.toList_eq, ByteArray.toList_eq] at h
  cases a with | mk a => cases b with | mk b => cases a with | mk a => cases b with | mk b => simp at h; rw [h]
theorem sl_irrefl (a : ByteArray) : sl a a = false := bl_irrefl _
theorem sl_trans {a b c : ByteArray} (h1 : sl a b = true) (h2 : sl b c = true) : sl a c = true := bl_trans _ _ _ h1 h2
theorem sl_tri {a b : ByteArray} (h1 : sl a b = false) (h2 : sl b a = false) : a = b := toList_inj (bl_tri _ _ h1 h2)
theorem sl_asymm {a b : ByteArray} (h : sl a b = true) : sl b a = false := bl_asymm _ _ h
/-- not greater, then less: less -/
theorem sl_of_ge {a b c : ByteArray} (h1 : sl b a = false) (h2 : sl b c = true) : sl a c = true := by
  cases h : sl a b with
  | true => exact sl_trans h h2
  | false => rw [sl_tri h h1]; exact h2
theorem sl_lt_of_le {a b c : ByteArray} (h1 : sl a b = true) (h2 : sl c b = false) : sl a c = true := by
  cases h : sl b c with
  | true => exact sl_trans h1 h
  | false => rw [← sl_tri h h2]; exact h1

theorem Rd.str_at {S : Nat → Prop} {w : World} {A : Option Addr} {k : Nat} {vs : List ByteArray} (h : Rd S w A (vs.map .string)) (hk : k < vs.length) :
    ∃ b off x, A = some ⟨b, off, none⟩ ∧ w.cell? ⟨b, off + k, none⟩ = some (.string x) ∧ Hid (vs[k]? = some x) := by
  obtain ⟨b, off, e, _, _, hc⟩ := h (by simp; omega)
  exact ⟨b, off, vs[k], e, hc k _ (by simp [hk]), List.getElem?_eq_getElem hk⟩
theorem Rd.str_at' {S : Nat → Prop} {w : World} {b off k : Nat} {vs : List ByteArray} (h : Rd S w (some ⟨b, off, none⟩) (vs.map .string)) (hk : k < vs.length) :
    ∃ x, w.cell? ⟨b, off + k, none⟩ = some (.string x) ∧ Hid (vs[k]? = some x) := by
  obtain ⟨b', off', e, _, _, hc⟩ := h (by simp; omega)
  injection e with e
  injection e with e1 e2
  subst e1 e2
  exact ⟨vs[k], hc k _ (by simp [hk]), List.getElem?_eq_getElem hk⟩
/-- a result and a world that has only drawn -/
def Quiet (v : Value) (w : World) (e : Ending) (w' : World) : Prop := e = .returned v ∧ ∃ n, w' = w.drewN n
theorem quiet_of {P : Program} {f : FuncId} {args : Array Value} {w : World} {a n : Nat} {v : Value}
    (h : Calls P f args (w.drewN (a + n)) (Quiet v (w.drewN (a + n)))) :
    Calls P f args (w.drewN (a + n)) fun e w'' => e = .returned v ∧ ∃ m, w'' = w.drewN (a + m) :=
  h.mono fun _ _ ⟨he, m, hm⟩ => ⟨he, n + m, by rw [hm, World.drewN_drewN, Nat.add_assoc]⟩
theorem quiet_of0 {P : Program} {f : FuncId} {args : Array Value} {w : World} {n : Nat} {v : Value}
    (h : Calls P f args (w.drewN n) (Quiet v (w.drewN n))) :
    Calls P f args (w.drewN n) fun e w'' => e = .returned v ∧ ∃ m, w'' = w.drewN m :=
  h.mono fun _ _ ⟨he, m, hm⟩ => ⟨he, n + m, by rw [hm, World.drewN_drewN]⟩
theorem strInfo : (Tryz.prog.info? 9).map (fun i => (i.zero, i.size, i.bytes)) = some (some (.string ⟨#[]⟩), 1, 16) := by kernel_rfl
theorem own_dn {w : World} {base base' : Nat} {e : TypeId} {size : Nat} {v : Value} {n : Nat} {xs : List Value} (h : w.ownsRow base e size v n xs) (hb : base' ≤ base) : w.ownsRow base' e size v n xs :=
  ⟨h.1, h.2.imp id fun ⟨g, cap, cur, h1, h2, h3⟩ => ⟨g, cap, cur, h1, Nat.le_trans hb h2, h3⟩⟩
theorem bts_size (nm : ByteArray) : nm.toList.length = nm.size := by rw [ByteArray.toList_eq]; rfl
end Go.Proofs.YtpaiideboodaeaaGreatDoor

namespace Go.Proofs.YtpaiideboodaeaaGreatDoor
open Go.RowKit
set_option linter.unusedVariables false
set_option linter.unusedSimpArgs false

theorem intInfo : (Tryz.prog.info? 3).map (fun i => (i.zero, i.size, i.bytes)) = some (some (.int .i64 0), 1, 8) := by kernel_rfl
theorem own_ne {w : World} {b1 b2 e1 e2 s1 s2 n1 n2 : Nat} {v1 v2 : Value} {x1 x2 : List Value} (h1 : w.ownsRow b1 e1 s1 v1 n1 x1) (h2 : w.ownsRow b2 e2 s2 v2 n2 x2) (hne : e1 ≠ e2) : v1.ownBlock = none ∨ v1.ownBlock ≠ v2.ownBlock := by
  rcases h1.2 with ⟨rfl, _⟩ | ⟨g1, c1, cur1, rfl, _, hh1, _⟩
  · exact .inl rfl
  · right
    rcases h2.2 with ⟨rfl, _⟩ | ⟨g2, c2, cur2, rfl, _, hh2, _⟩
    · simp [Value.ownBlock]
    · simp only [Value.ownBlock]
      intro e
      injection e with e
      subst e
      rw [hh1] at hh2
      injection hh2 with hh2
      injection hh2 with _ ht
      exact hne ht
theorem own_new {w : World} {b1 e1 s1 n1 : Nat} {v1 v2 v2' : Value} {x1 : List Value} {k : Nat} (h1 : w.ownsRow b1 e1 s1 v1 n1 x1) (hne : v1.ownBlock = none ∨ v1.ownBlock ≠ v2.ownBlock) (hob : v2'.ownBlock = v2.ownBlock ∨ v2'.ownBlock = some k) (hk : w.heap.size ≤ k) : v1.ownBlock = none ∨ v1.ownBlock ≠ v2'.ownBlock := by
  rcases hne with h | h
  · exact .inl h
  · rcases hob with h' | h'
    · exact .inr (by rw [h']; exact h)
    · cases hv : v1.ownBlock with
      | none => exact .inl rfl
      | some j => exact .inr (by rw [h']; intro e; injection e with e; have := (h1.lt j hv).2; omega)

/-- two ascending lists in one -/
def un : List ByteArray → List ByteArray → List ByteArray
  | [], vs => vs
  | us, [] => us
  | a :: us, b :: vs => if sl a b then a :: un us (b :: vs) else if sl b a then b :: un (a :: us) vs else a :: un us vs
termination_by us vs => us.length + vs.length
theorem un_nil (us : List ByteArray) : un us [] = us := by cases us <;> simp [un]
theorem un_a {a b : List ByteArray} {i k : Nat} {x : ByteArray} (hx : a[i]? = some x) (h : b.drop k = [] ∨ ∃ y, b[k]? = some y ∧ sl x y = true) : un (a.drop i) (b.drop k) = x :: un (a.drop (i + 1)) (b.drop k) := by
  obtain ⟨hi, hx'⟩ := List.getElem?_eq_some_iff.1 hx
  have e1 : a.drop i = x :: a.drop (i + 1) := by rw [List.drop_eq_getElem_cons hi, hx']
  rw [e1]
  rcases h with h | ⟨y, hy, hs⟩
  · rw [h]; rw [un_nil, un_nil]
  · obtain ⟨hk, hy'⟩ := List.getElem?_eq_some_iff.1 hy
    have e2 : b.drop k = y :: b.drop (k + 1) := by rw [List.drop_eq_getElem_cons hk, hy']
    rw [e2]; simp [un, hs]
theorem un_b {a b : List ByteArray} {i k : Nat} {y : ByteArray} (hy : b[k]? = some y) (h : a.drop i = [] ∨ ∃ x, a[i]? = some x ∧ sl x y = false ∧ sl y x = true) : un (a.drop i) (b.drop k) = y :: un (a.drop i) (b.drop (k + 1)) := by
  obtain ⟨hk, hy'⟩ := List.getElem?_eq_some_iff.1 hy
  have e2 : b.drop k = y :: b.drop (k + 1) := by rw [List.drop_eq_getElem_cons hk, hy']
  rw [e2]
  rcases h with h | ⟨x, hx, hs1, hs2⟩
  · rw [h]; simp [un]
  · obtain ⟨hi, hx'⟩ := List.getElem?_eq_some_iff.1 hx
    have e1 : a.drop i = x :: a.drop (i + 1) := by rw [List.drop_eq_getElem_cons hi, hx']
    rw [e1]; simp [un, hs1, hs2]
theorem un_ab {a b : List ByteArray} {i k : Nat} {x y : ByteArray} (hx : a[i]? = some x) (hy : b[k]? = some y) (h1 : sl x y = false) (h2 : sl y x = false) : un (a.drop i) (b.drop k) = x :: un (a.drop (i + 1)) (b.drop (k + 1)) := by
  obtain ⟨hi, hx'⟩ := List.getElem?_eq_some_iff.1 hx
  obtain ⟨hk, hy'⟩ := List.getElem?_eq_some_iff.1 hy
  have e1 : a.drop i = x :: a.drop (i + 1) := by rw [List.drop_eq_getElem_cons hi, hx']
  have e2 : b.drop k = y :: b.drop (k + 1) := by rw [List.drop_eq_getElem_cons hk, hy']
  rw [e1, e2]; simp [un, h1, h2]
theorem un_len (us vs : List ByteArray) : (un us vs).length ≤ us.length + vs.length := by
  fun_induction un us vs with
  | case1 => simp
  | case2 => simp
  | case3 a us b vs h ih => simp at *; omega
  | case4 a us b vs h1 h2 ih => simp at *; omega
  | case5 a us b vs h1 h2 ih => simp at *; omega
def Srt (l : List ByteArray) : Prop := l.Pairwise (fun a b => sl a b = true)
theorem un_mem (us vs : List ByteArray) : ∀ x, x ∈ un us vs ↔ x ∈ us ∨ x ∈ vs := by
  fun_induction un us vs with
  | case1 => simp
  | case2 => simp
  | case3 a us b vs h ih => intro x; simp [ih x, or_assoc]
  | case4 a us b vs h1 h2 ih =>
    intro x; simp only [List.mem_cons, ih x]
    constructor
    · rintro (h | (h | h) | h) <;> simp [h]
    · rintro ((h | h) | (h | h)) <;> simp [h]
  | case5 a us b vs h1 h2 ih =>
    intro x
    have hab : a = b := sl_tri (by simpa using h1) (by simpa using h2)
    simp only [List.mem_cons, ih x, hab]
    constructor
    · rintro (h | h | h) <;> simp [h]
    · rintro ((h | h) | (h | h)) <;> simp [h]
theorem un_srt (us vs : List ByteArray) (ha : Srt us) (hb : Srt vs) : Srt (un us vs) := by
  fun_induction un us vs with
  | case1 => exact hb
  | case2 => exact ha
  | case3 a us b vs h ih =>
    unfold Srt at *
    rw [List.pairwise_cons] at ha ⊢
    refine ⟨fun x hx => ?_, ih ha.2 hb⟩
    rcases (un_mem _ _ x).1 hx with h' | h'
    · exact ha.1 x h'
    · rw [List.pairwise_cons] at hb
      rcases List.mem_cons.1 h' with rfl | h'
      · exact h
      · exact sl_trans h (hb.1 x h')
  | case4 a us b vs h1 h2 ih =>
    unfold Srt at *
    rw [List.pairwise_cons] at hb ⊢
    refine ⟨fun x hx => ?_, ih ha hb.2⟩
    rcases (un_mem _ _ x).1 hx with h' | h'
    · rw [List.pairwise_cons] at ha
      rcases List.mem_cons.1 h' with rfl | h'
      · exact h2
      · exact sl_trans h2 (ha.1 x h')
    · exact hb.1 x h'
  | case5 a us b vs h1 h2 ih =>
    have hab : a = b := sl_tri (by simpa using h1) (by simpa using h2)
    subst hab
    unfold Srt at *
    rw [List.pairwise_cons] at ha hb ⊢
    refine ⟨fun x hx => ?_, ih ha.2 hb.2⟩
    rcases (un_mem _ _ x).1 hx with h' | h'
    · exact ha.1 x h'
    · exact hb.1 x h'

def UnRel (w : World) (a b : List ByteArray) (i k : Nat) (o x y : Value) (zs : List ByteArray) (xs ys : List Int) (wr : World) : Prop :=
  wr.ownsRow w.heap.size 9 1 o zs.length (zs.map .string) ∧ wr.ownsRow w.heap.size 3 1 x xs.length (xs.map (.int .i64)) ∧ wr.ownsRow w.heap.size 3 1 y ys.length (ys.map (.int .i64)) ∧
  (x.ownBlock = none ∨ x.ownBlock ≠ y.ownBlock) ∧ (y.ownBlock = none ∨ y.ownBlock ≠ x.ownBlock) ∧ zs ++ un (a.drop i) (b.drop k) = un a b ∧ zs.length ≤ i + k ∧ xs.length ≤ i ∧ ys.length ≤ k ∧ w.grownBy wr none
theorem own_snoc_str {w : World} {base e : Nat} {v : Value} {vs : List ByteArray} {x : ByteArray} (h : w.ownsRow base e 1 v (vs.length + 1) (vs.map .string ++ #[Value.string x].toList)) :
    w.ownsRow base e 1 v (vs ++ [x]).length ((vs ++ [x]).map .string) := by simpa using h
section
variable {w wr w1 w2 : World} {a b : List ByteArray} {i k : Nat} {o x y v : Value} {zs : List ByteArray} {xs ys : List Int}
def Six (w : World) (o x y : Value) (zs : List ByteArray) (xs ys : List Int) (wr : World) : Prop :=
  wr.ownsRow w.heap.size 9 1 o zs.length (zs.map .string) ∧ wr.ownsRow w.heap.size 3 1 x xs.length (xs.map (.int .i64)) ∧ wr.ownsRow w.heap.size 3 1 y ys.length (ys.map (.int .i64)) ∧
  (x.ownBlock = none ∨ x.ownBlock ≠ y.ownBlock) ∧ (y.ownBlock = none ∨ y.ownBlock ≠ x.ownBlock) ∧ w.grownBy wr none
theorem UnRel.six (h : UnRel w a b i k o x y zs xs ys wr) : Six w o x y zs xs ys wr := ⟨h.1, h.2.1, h.2.2.1, h.2.2.2.1, h.2.2.2.2.1, h.2.2.2.2.2.2.2.2.2⟩
theorem UnRel.drewN (h : UnRel w a b i k o x y zs xs ys wr) (n : Nat) : UnRel w a b i k o x y zs xs ys (wr.drewN n) := by
  obtain ⟨h1, h2, h3, h4, h5, h6, h7, h8, h9, h10⟩ := h
  exact ⟨h1, h2, h3, h4, h5, h6, h7, h8, h9, only_drewN h10 n⟩
theorem un_seto {z : ByteArray} {i' k' : Nat} (h : w1.ownsRow w.heap.size 9 1 o zs.length (zs.map .string) ∧ w1.ownsRow w.heap.size 3 1 x xs.length (xs.map (.int .i64)) ∧ w1.ownsRow w.heap.size 3 1 y ys.length (ys.map (.int .i64)) ∧
      (x.ownBlock = none ∨ x.ownBlock ≠ y.ownBlock) ∧ (y.ownBlock = none ∨ y.ownBlock ≠ x.ownBlock) ∧ w.grownBy w1 none)
    (hv : w2.ownsRow w.heap.size 9 1 v (zs.length + 1) (zs.map .string ++ #[Value.string z].toList)) (hg : w1.grownBy w2 o.ownBlock) (heq : zs ++ z :: un (a.drop i') (b.drop k') = un a b) (h1 : zs.length + 1 ≤ i' + k') (h2 : xs.length ≤ i') (h3 : ys.length ≤ k') : UnRel w a b i' k' v x y (zs ++ [z]) xs ys w2 := by
  obtain ⟨s1, s2, s3, s4, s5, s6⟩ := h
  exact ⟨own_snoc_str hv, s2.kept hg (own_ne s2 s1 (by decide)), s3.kept hg (own_ne s3 s1 (by decide)), s4, s5, by rw [← heq]; simp, by simp; omega, h2, h3, only_own s6 hg s1 (Nat.le_refl _)⟩
/-- behind an append to the first row of indexes -/
theorem Six.setx (h : Six w o x y zs xs ys wr) {n : Int} (hx : w1.ownsRow w.heap.size 3 1 v (xs.length + 1) (xs.map (.int .i64) ++ #[Value.int .i64 n].toList)) (hg : wr.grownBy w1 x.ownBlock) (hob : v.ownBlock = x.ownBlock ∨ v.ownBlock = some (wr.heap.size + 1)) :
    w1.ownsRow w.heap.size 9 1 o zs.length (zs.map .string) ∧ w1.ownsRow w.heap.size 3 1 v (xs ++ [n]).length ((xs ++ [n]).map (.int .i64)) ∧ w1.ownsRow w.heap.size 3 1 y ys.length (ys.map (.int .i64)) ∧
    (v.ownBlock = none ∨ v.ownBlock ≠ y.ownBlock) ∧ (y.ownBlock = none ∨ y.ownBlock ≠ v.ownBlock) ∧ w.grownBy w1 none := by
  obtain ⟨h1, h2, h3, h4, h5, h9⟩ := h
  have hy : y.ownBlock = none ∨ y.ownBlock ≠ v.ownBlock := own_new h3 h5 hob (by omega)
  refine ⟨h1.kept hg (own_ne h1 h2 (by decide)), own_snoc_int hx, h3.kept hg h5, ?_, hy, only_own h9 hg h2 (Nat.le_refl _)⟩
  rcases hy with e | e
  · cases hv : v.ownBlock with
    | none => exact .inl rfl
    | some _ => exact .inr (by rw [e]; simp)
  · exact .inr (fun e' => e e'.symm)
theorem Six.sety (h : Six w o x y zs xs ys wr) {n : Int} (hx : w1.ownsRow w.heap.size 3 1 v (ys.length + 1) (ys.map (.int .i64) ++ #[Value.int .i64 n].toList)) (hg : wr.grownBy w1 y.ownBlock) (hob : v.ownBlock = y.ownBlock ∨ v.ownBlock = some (wr.heap.size + 1)) :
    w1.ownsRow w.heap.size 9 1 o zs.length (zs.map .string) ∧ w1.ownsRow w.heap.size 3 1 x xs.length (xs.map (.int .i64)) ∧ w1.ownsRow w.heap.size 3 1 v (ys ++ [n]).length ((ys ++ [n]).map (.int .i64)) ∧
    (x.ownBlock = none ∨ x.ownBlock ≠ v.ownBlock) ∧ (v.ownBlock = none ∨ v.ownBlock ≠ x.ownBlock) ∧ w.grownBy w1 none := by
  obtain ⟨h1, h2, h3, h4, h5, h9⟩ := h
  have hy : x.ownBlock = none ∨ x.ownBlock ≠ v.ownBlock := own_new h2 h4 hob (by omega)
  refine ⟨h1.kept hg (own_ne h1 h3 (by decide)), h2.kept hg h4, own_snoc_int hx, hy, ?_, only_own h9 hg h3 (Nat.le_refl _)⟩
  rcases hy with e | e
  · cases hv : v.ownBlock with
    | none => exact .inl rfl
    | some _ => exact .inr (by rw [e]; simp)
  · exact .inr (fun e' => e e'.symm)
end
theorem Rd.str_cell {S : Nat → Prop} {w : World} {b off k : Nat} {vs : List ByteArray} {x : ByteArray} (h : Rd S w (some ⟨b, off, none⟩) (vs.map .string)) (hx : vs[k]? = some x) : w.cell? ⟨b, off + k, none⟩ = some (.string x) := by
  obtain ⟨hk, hx'⟩ := List.getElem?_eq_some_iff.1 hx
  obtain ⟨y, hy, he⟩ := h.str_at' hk
  rw [hy]
  have := he.out
  rw [hx] at this
  injection this with this
  rw [this]
def UnPost (w : World) (a b : List ByteArray) (e : Ending) (w' : World) : Prop :=
  ∃ (A : Option Addr) (c : Nat) (x y : Value), e = .returned (.tuple #[.slice A (un a b).length c, x, y]) ∧ (un a b).length ≤ c ∧ c ≤ maxLen ∧ Rd (w.heap.size ≤ ·) w' A ((un a b).map .string) ∧ w.grownBy w' none

theorem rd_own {w : World} {b e s n c : Nat} {A : Option Addr} {xs : List Value} (h : w.ownsRow b e s (.slice A n c) n xs) (hs : 0 < s) : Rd (b ≤ ·) w A xs := by
  obtain ⟨A', c', e', _, _, _, hr⟩ := Rd.of_own h hs
  injection e' with e1 e2 e3
  rw [e1]; exact hr

def UnOwn (w : World) (a b : List ByteArray) (e : Ending) (w' : World) : Prop :=
  ∃ (A : Option Addr) (c : Nat) (x y : Value), e = .returned (.tuple #[.slice A (un a b).length c, x, y]) ∧ (un a b).length ≤ c ∧ c ≤ maxLen ∧ w'.ownsRow w.heap.size 9 1 (.slice A (un a b).length c) (un a b).length ((un a b).map .string) ∧ w.grownBy w' none
set_option maxHeartbeats 2000000 in
set_option maxRecDepth 100000 in
theorem union_own {S : Nat → Prop} (A B : Option Addr) (a b : List ByteArray) (c d : Nat) (w : World) (ha : Rd S w A (a.map .string)) (hb : Rd S w B (b.map .string)) (hl : a.length ≤ 1000000) (hl2 : b.length ≤ 1000000) :
    Calls Tryz.prog 38 #[.slice A a.length c, .slice B b.length d] w (UnOwn w a b) := by
  have HA := Lib.hid (ha.mono (S' := (· < w.heap.size)) (fun _ _ h => h))
  have HB := Lib.hid (hb.mono (S' := (· < w.heap.size)) (fun _ _ h => h))
  clear ha hb
  go_enter Tryz.func38, Tryz.ntmps38
  go_wp2_with fail
  go_loopw [7, 8, 9, 10, 11] (fun o x y i' k' wr => ∃ (i k : Nat) (zs : List ByteArray) (xs ys : List Int), i ≤ a.length ∧ k ≤ b.length ∧ i' = .int .i64 i ∧ k' = .int .i64 k ∧ UnRel w a b i k o x y zs xs ys wr) (fun _ _ _ i' k' _ => (a.length - (intOf i').toNat) + (b.length - (intOf k').toNat))
  case atStart => exact ⟨0, 0, [], [], [], Nat.zero_le _, Nat.zero_le _, rfl, rfl, World.ownsRow_nil _ _ _ _, World.ownsRow_nil _ _ _ _, World.ownsRow_nil _ _ _ _, .inl rfl, .inl rfl, by simp, by simp, by simp, by simp, only_refl _ _⟩
  case round =>
    obtain ⟨i, k, zs, xs, ys, hi, hk, rfl, rfl, hR⟩ := hrel
    have HR := Lib.hid hR
    obtain ⟨ho, hx, hy, hxy, hyx, heq, hz, hxl, hyl, hG⟩ := hR
    have hsz := hG.size
    have hRA := (HA.out.grown hG (by simp))
    have hRB := (HB.out.grown hG (by simp))
    obtain ⟨AO, co, rfl, hco, hcom, -, hro⟩ := Rd.of_own ho (by decide)
    have HC := Lib.hid hcom
    clear hcom
    have HRO := Lib.hid hro
    have HEQ := Lib.hid heq
    have HX := Lib.hid hx
    have HY := Lib.hid hy
    have HO := Lib.hid ho
    clear hG hro heq hxy hyx hx hy ho
    by_cases hia : i < a.length
    · obtain ⟨ba, oa, sx, rfl, hca, hsx⟩ := hRA.str_at hia
      by_cases hkb : k < b.length
      · obtain ⟨bb, ob, sy, rfl, hcb, hsy⟩ := hRB.str_at hkb
        clear hRA hRB
        have t1 : ((k : Int) == (b.length : Int)) = false := by rw [beq_eq_false_iff_ne]; omega
        have t2 : ((i : Int) == (a.length : Int)) = false := by rw [beq_eq_false_iff_ne]; omega
        by_cases hab : sl sx sy = true
        · have t3 : Op.bytesLess sx.toList sy.toList = true := hab
          have HAB := Lib.hid hab
          clear hab
          go_wp2_with fail
          go_quiet (fail)
          have HRq := Lib.hid (HR.out.drewN nq)
          have hszq : w.heap.size ≤ (wr.drewN nq).heap.size := hsz
          clear HX HY HO
          go_wp2_with (first | (at_builtin; refine wpList_append1 rfl _ _ 47 rfl w.heap.size Tryz.underlying47 intInfo rfl (by decide) (v := _) (by rfl) (w0 := _) (cs := #[.int .i64 (zs.length : Int)]) HRq.out.2.1 (by rfl) rfl (by simp [Value.oneCell']) (by decide) (by omega) (by omega) ?_; intro v1 w1 hv1 hg1 hob1; have ST := Lib.hid (HRq.out.six.setx hv1 hg1 hob1); have hc1 := Rd.str_cell (HA.out.grown ST.out.2.2.2.2.2 (by simp)) hsx.out; have hz1 := ST.out.2.2.2.2.2.size; clear hv1 hg1 hob1) | (have tk := ST; at_builtin; refine wpList_append1 rfl _ _ 39 rfl w.heap.size Tryz.underlying39 strInfo rfl (by decide) (v := _) (by rfl) (w0 := _) (cs := #[.string sx]) ST.out.1 (by rfl) rfl (by simp [Value.oneCell']) (by decide) (by omega) (by omega) ?_; intro v2 w2 hv2 hg2 hob2; clear tk))
          have hfin := un_seto (i' := i + 1) (k' := k) ST.out hv2 hg2 (by rw [← HEQ.out, un_a hsx.out (.inr ⟨sy, hsy.out, HAB.out⟩)]) (by omega) (by simp; omega) (by omega)
          clear hv2 hg2 hob2 ST hc1
          go_wp2_with fail
          go_roundw
          case rel => exact ⟨i + 1, k, _, _, _, by omega, hk, by go_num, rfl, hfin⟩
          case measure => simp [intOf]; omega
        · have hab' : sl sx sy = false := by simpa using hab
          have t3 : Op.bytesLess sx.toList sy.toList = false := hab'
          clear hab
          by_cases hba : sl sy sx = true
          · have t4 : Op.bytesLess sy.toList sx.toList = true := hba
            have HBA := Lib.hid hba
            have HAB := Lib.hid hab'
            clear hba hab'
            go_wp2_with fail
            go_quiet (fail)
            obtain ⟨q1, hq1⟩ : ∃ q1, q1 = nq := ⟨_, rfl⟩
            rw [← hq1]
            clear hq1 nq
            go_wp2_with fail
            go_quiet (fail)
            have HRq := Lib.hid (HR.out.drewN (q1 + nq))
            have hszq : w.heap.size ≤ (wr.drewN (q1 + nq)).heap.size := hsz
            clear HX HY HO
            go_wp2_with (first | (at_builtin; refine wpList_append1 rfl _ _ 47 rfl w.heap.size Tryz.underlying47 intInfo rfl (by decide) (v := _) (by rfl) (w0 := _) (cs := #[.int .i64 (zs.length : Int)]) HRq.out.2.2.1 (by rfl) rfl (by simp [Value.oneCell']) (by decide) (by omega) (by omega) ?_; intro v1 w1 hv1 hg1 hob1; have ST := Lib.hid (HRq.out.six.sety hv1 hg1 hob1); have hc1 := Rd.str_cell (HB.out.grown ST.out.2.2.2.2.2 (by simp)) hsy.out; have hz1 := ST.out.2.2.2.2.2.size; clear hv1 hg1 hob1) | (have tk := ST; at_builtin; refine wpList_append1 rfl _ _ 39 rfl w.heap.size Tryz.underlying39 strInfo rfl (by decide) (v := _) (by rfl) (w0 := _) (cs := #[.string sy]) ST.out.1 (by rfl) rfl (by simp [Value.oneCell']) (by decide) (by omega) (by omega) ?_; intro v2 w2 hv2 hg2 hob2; clear tk))
            have hfin := un_seto (i' := i) (k' := k + 1) ST.out hv2 hg2 (by rw [← HEQ.out, un_b hsy.out (.inr ⟨sx, hsx.out, HAB.out, HBA.out⟩)]) (by omega) (by omega) (by simp; omega)
            clear hv2 hg2 hob2 ST hc1
            go_wp2_with fail
            go_roundw
            case rel => exact ⟨i, k + 1, _, _, _, hi, by omega, rfl, by go_num, hfin⟩
            case measure => simp [intOf]; omega
          · have hba' : sl sy sx = false := by simpa using hba
            have t4 : Op.bytesLess sy.toList sx.toList = false := hba'
            have HBA := Lib.hid hba'
            have HAB := Lib.hid hab'
            clear hba hba' hab'
            go_wp2_with fail
            go_quiet (fail)
            obtain ⟨q1, hq1⟩ : ∃ q1, q1 = nq := ⟨_, rfl⟩
            rw [← hq1]
            clear hq1 nq
            go_wp2_with fail
            go_quiet (fail)
            have HRq := Lib.hid (HR.out.drewN (q1 + nq))
            have hszq : w.heap.size ≤ (wr.drewN (q1 + nq)).heap.size := hsz
            clear HX HY HO
            go_wp2_with (first | (have tk := SX; at_builtin; refine wpList_append1 rfl _ _ 47 rfl w.heap.size Tryz.underlying47 intInfo rfl (by decide) (v := _) (by rfl) (w0 := _) (cs := #[.int .i64 (zs.length : Int)]) SX.out.2.2.1 (by rfl) rfl (by simp [Value.oneCell']) (by decide) (by omega) (by omega) ?_; intro v3 w3 hv3 hg3 hob3; have ST := Lib.hid (Six.sety SX.out hv3 hg3 hob3); have hc1 := Rd.str_cell (HA.out.grown ST.out.2.2.2.2.2 (by simp)) hsx.out; have hz3 := ST.out.2.2.2.2.2.size; clear hv3 hg3 hob3 tk) | (at_builtin; refine wpList_append1 rfl _ _ 47 rfl w.heap.size Tryz.underlying47 intInfo rfl (by decide) (v := _) (by rfl) (w0 := _) (cs := #[.int .i64 (zs.length : Int)]) HRq.out.2.1 (by rfl) rfl (by simp [Value.oneCell']) (by decide) (by omega) (by omega) ?_; intro v1 w1 hv1 hg1 hob1; have SX := Lib.hid (HRq.out.six.setx hv1 hg1 hob1); have hz1 := SX.out.2.2.2.2.2.size; clear hv1 hg1 hob1) | (have tk := ST; at_builtin; refine wpList_append1 rfl _ _ 39 rfl w.heap.size Tryz.underlying39 strInfo rfl (by decide) (v := _) (by rfl) (w0 := _) (cs := #[.string sx]) ST.out.1 (by rfl) rfl (by simp [Value.oneCell']) (by decide) (by omega) (by omega) ?_; intro v2 w2 hv2 hg2 hob2; clear tk))
            have hfin := un_seto (i' := i + 1) (k' := k + 1) ST.out hv2 hg2 (by rw [← HEQ.out, un_ab hsx.out hsy.out HAB.out HBA.out]) (by omega) (by simp; omega) (by simp; omega)
            clear hv2 hg2 hob2 ST hc1
            go_wp2_with fail
            go_roundw
            case rel => exact ⟨i + 1, k + 1, _, _, _, by omega, by omega, by go_num, by go_num, hfin⟩
            case measure => simp [intOf]; omega
      · have t1 : ((k : Int) == (b.length : Int)) = true := by rw [beq_iff_eq]; omega
        have HKB : Hid (b.drop k = []) := List.drop_of_length_le (by omega)
        clear hRA hRB
        go_wp2_with fail
        go_quiet (fail)
        have HRq := Lib.hid (HR.out.drewN nq)
        have hszq : w.heap.size ≤ (wr.drewN nq).heap.size := hsz
        clear HX HY HO
        go_wp2_with (first | (at_builtin; refine wpList_append1 rfl _ _ 47 rfl w.heap.size Tryz.underlying47 intInfo rfl (by decide) (v := _) (by rfl) (w0 := _) (cs := #[.int .i64 (zs.length : Int)]) HRq.out.2.1 (by rfl) rfl (by simp [Value.oneCell']) (by decide) (by omega) (by omega) ?_; intro v1 w1 hv1 hg1 hob1; have ST := Lib.hid (HRq.out.six.setx hv1 hg1 hob1); have hc1 := Rd.str_cell (HA.out.grown ST.out.2.2.2.2.2 (by simp)) hsx.out; have hz1 := ST.out.2.2.2.2.2.size; clear hv1 hg1 hob1) | (have tk := ST; at_builtin; refine wpList_append1 rfl _ _ 39 rfl w.heap.size Tryz.underlying39 strInfo rfl (by decide) (v := _) (by rfl) (w0 := _) (cs := #[.string sx]) ST.out.1 (by rfl) rfl (by simp [Value.oneCell']) (by decide) (by omega) (by omega) ?_; intro v2 w2 hv2 hg2 hob2; clear tk))
        have hfin := un_seto (i' := i + 1) (k' := k) ST.out hv2 hg2 (by rw [← HEQ.out, un_a hsx.out (.inl HKB.out)]) (by omega) (by simp; omega) (by omega)
        clear hv2 hg2 hob2 ST hc1
        go_wp2_with fail
        go_roundw
        case rel => exact ⟨i + 1, k, _, _, _, by omega, hk, by go_num, rfl, hfin⟩
        case measure => simp [intOf]; omega
    · by_cases hkb : k < b.length
      · obtain ⟨bb, ob, sy, rfl, hcb, hsy⟩ := hRB.str_at hkb
        clear hRA hRB
        have t1 : ((k : Int) == (b.length : Int)) = false := by rw [beq_eq_false_iff_ne]; omega
        have t2 : ((i : Int) == (a.length : Int)) = true := by rw [beq_iff_eq]; omega
        have td : decide ((i : Int) < (a.length : Int)) = false := by simp; omega
        have HIA : Hid (a.drop i = []) := List.drop_of_length_le (by omega)
        go_wp2_with fail
        go_quiet (fail)
        obtain ⟨q1, hq1⟩ : ∃ q1, q1 = nq := ⟨_, rfl⟩
        rw [← hq1]
        clear hq1 nq
        go_wp2_with fail
        go_quiet (fail)
        have HRq := Lib.hid (HR.out.drewN (q1 + nq))
        have hszq : w.heap.size ≤ (wr.drewN (q1 + nq)).heap.size := hsz
        clear HX HY HO
        go_wp2_with (first | (at_builtin; refine wpList_append1 rfl _ _ 47 rfl w.heap.size Tryz.underlying47 intInfo rfl (by decide) (v := _) (by rfl) (w0 := _) (cs := #[.int .i64 (zs.length : Int)]) HRq.out.2.2.1 (by rfl) rfl (by simp [Value.oneCell']) (by decide) (by omega) (by omega) ?_; intro v1 w1 hv1 hg1 hob1; have ST := Lib.hid (HRq.out.six.sety hv1 hg1 hob1); have hc1 := Rd.str_cell (HB.out.grown ST.out.2.2.2.2.2 (by simp)) hsy.out; have hz1 := ST.out.2.2.2.2.2.size; clear hv1 hg1 hob1) | (have tk := ST; at_builtin; refine wpList_append1 rfl _ _ 39 rfl w.heap.size Tryz.underlying39 strInfo rfl (by decide) (v := _) (by rfl) (w0 := _) (cs := #[.string sy]) ST.out.1 (by rfl) rfl (by simp [Value.oneCell']) (by decide) (by omega) (by omega) ?_; intro v2 w2 hv2 hg2 hob2; clear tk))
        have hfin := un_seto (i' := i) (k' := k + 1) ST.out hv2 hg2 (by rw [← HEQ.out, un_b hsy.out (.inl HIA.out)]) (by omega) (by omega) (by simp; omega)
        clear hv2 hg2 hob2 ST hc1
        go_wp2_with fail
        go_roundw
        case rel => exact ⟨i, k + 1, _, _, _, hi, by omega, rfl, by go_num, hfin⟩
        case measure => simp [intOf]; omega
      · have hfin : zs = un a b := by rw [← HEQ.out, List.drop_of_length_le (by omega), List.drop_of_length_le (by omega)]; simp [un]
        have HF := Lib.hid hfin
        clear hRA hRB hfin
        go_wp2_with fail
        go_ret3
        exact ⟨AO, co, _, _, by rw [← HF.out]; rfl, by rw [← HF.out]; exact hco, HC.out, by rw [← HF.out]; exact HO.out, HR.out.six.2.2.2.2.2⟩
theorem union_any {S : Nat → Prop} (A B : Option Addr) (a b : List ByteArray) (c d : Nat) (w : World) (ha : Rd S w A (a.map .string)) (hb : Rd S w B (b.map .string)) (hl : a.length ≤ 1000000) (hl2 : b.length ≤ 1000000) :
    Calls Tryz.prog 38 #[.slice A a.length c, .slice B b.length d] w (UnPost w a b) :=
  (union_own A B a b c d w ha hb hl hl2).mono fun _ _ ⟨A, c, x, y, h1, h2, h3, h4, h5⟩ => ⟨A, c, x, y, h1, h2, h3, rd_own h4 (by decide), h5⟩
theorem srt_ext : ∀ {xs ys : List ByteArray}, Srt xs → Srt ys → (∀ s, s ∈ xs ↔ s ∈ ys) → xs = ys
  | [], [], _, _, _ => rfl
  | [], y :: ys, _, _, h => absurd ((h y).2 (List.mem_cons_self ..)) (by simp)
  | x :: xs, [], _, _, h => absurd ((h x).1 (List.mem_cons_self ..)) (by simp)
  | x :: xs, y :: ys, hx, hy, h => by
    unfold Srt at hx hy
    rw [List.pairwise_cons] at hx hy
    have hxy : x = y := by
      rcases List.mem_cons.1 ((h x).1 (List.mem_cons_self ..)) with e | e
      · exact e
      · rcases List.mem_cons.1 ((h y).2 (List.mem_cons_self ..)) with e' | e'
        · exact e'.symm
        · have h1 := hy.1 x e
          have h2 := hx.1 y e'
          rw [sl_asymm h1] at h2
          cases h2
    subst hxy
    rw [srt_ext hx.2 hy.2 (fun s => ?_)]
    constructor
    · intro hs
      rcases List.mem_cons.1 ((h s).1 (List.mem_cons_of_mem _ hs)) with e | e
      · subst e; have := hx.1 s hs; rw [sl_irrefl] at this; cases this
      · exact e
    · intro hs
      rcases List.mem_cons.1 ((h s).2 (List.mem_cons_of_mem _ hs)) with e | e
      · subst e; have := hy.1 s hs; rw [sl_irrefl] at this; cases this
      · exact e
end Go.Proofs.YtpaiideboodaeaaGreatDoor

namespace Go.Proofs.YtpaiideboodaeaaGreatDoor
open Go.RowKit
set_option linter.unusedVariables false
set_option linter.unusedSimpArgs false

def DistPost (w : World) (ws : List ByteArray) (e : Ending) (w' : World) : Prop :=
  ∃ (A : Option Addr) (c : Nat) (ds : List ByteArray), e = .returned (.slice A ds.length c) ∧ ds.length ≤ c ∧ c ≤ maxLen ∧ Srt ds ∧ (∀ s, s ∈ ds ↔ s ∈ ws) ∧ ds.length ≤ ws.length ∧ Rd (w.heap.size ≤ ·) w' A (ds.map .string) ∧ w.grownBy w' none

/-- the same, and the row is the call's own -/
def DistOwn (w : World) (ws : List ByteArray) (e : Ending) (w' : World) : Prop :=
  ∃ (A : Option Addr) (c : Nat) (ds : List ByteArray), e = .returned (.slice A ds.length c) ∧ ds.length ≤ c ∧ c ≤ maxLen ∧ Srt ds ∧ (∀ s, s ∈ ds ↔ s ∈ ws) ∧ ds.length ≤ ws.length ∧ w'.ownsRow w.heap.size 9 1 (.slice A ds.length c) ds.length (ds.map .string) ∧ w.grownBy w' none
theorem DistOwn.post {w w' : World} {ws : List ByteArray} {e : Ending} (h : DistOwn w ws e w') : DistPost w ws e w' := by
  obtain ⟨A, c, ds, h1, h2, h3, h4, h5, h6, h7, h8⟩ := h
  exact ⟨A, c, ds, h1, h2, h3, h4, h5, h6, rd_own h7 (by decide), h8⟩
set_option maxHeartbeats 1000000 in
set_option maxRecDepth 100000 in
theorem distinct_own_any (k : Nat) : ∀ (A : Option Addr) (ws : List ByteArray) (n c : Nat) (w : World), n ≤ k → ws.length = n → Rd (fun _ => True) w A (ws.map .string) → n ≤ 1000000 → n ≤ c → c ≤ maxLen →
    Calls Tryz.prog 13 #[.slice A n c] w (DistOwn w ws) := by
  induction k with
  | zero =>
    intro A ws n c w hk hn h hl hc hcm
    obtain rfl : n = 0 := by omega
    obtain rfl : ws = [] := List.eq_nil_of_length_eq_zero hn
    clear h
    go_enter Tryz.func13, Tryz.ntmps13
    go_wp2_with (at_builtin; refine wpList_appendN rfl _ _ 39 rfl w.heap.size Tryz.underlying39 strInfo rfl (by decide) (v := .slice none 0 0) (by rfl) (World.ownsRow_nil _ _ _ _) A 0 c (by rfl) (Rd.nil (S := fun _ => True)) (by simp) (by simp) (by decide) (by omega) (Nat.le_refl _) ?_; intro v5 w5 hown5 hg5 hob5)
    obtain ⟨A5, c5, rfl, hc5, hm5, -, hr5⟩ := Rd.of_own hown5 (by decide)
    go_ret
    exact ⟨A5, c5, [], by simp, by simp, hm5, List.Pairwise.nil, by simp, by simp, by simpa using hown5, by simpa [Value.ownBlock] using hg5⟩
  | succ k ih =>
    intro A ws n c w hk hn h hl hc hcm
    have H := Lib.hid h
    have HN := Lib.hid hn
    have IH := Lib.hid ih
    unfold maxLen at hcm
    clear h ih hn
    by_cases h2 : n < 2
    · go_enter Tryz.func13, Tryz.ntmps13
      go_wp2_with (at_builtin; refine wpList_appendN rfl _ _ 39 rfl w.heap.size Tryz.underlying39 strInfo rfl (by decide) (v := .slice none 0 0) (by rfl) (World.ownsRow_nil _ _ _ _) A n c (by rfl) H.out (by have := HN.out; simp; omega) (by simp [Value.oneCell']) (by decide) (by omega) (Nat.le_refl _) ?_; intro v5 w5 hown5 hg5 hob5)
      obtain ⟨A5, c5, rfl, hc5, hm5, -, hr5⟩ := Rd.of_own hown5 (by decide)
      have HR5 := Lib.hid hown5
      clear hown5 hob5 hr5
      go_ret
      have e := HN.out
      refine ⟨A5, c5, ws, by rw [e]; simp, by rw [e]; omega, hm5, ?_, fun _ => Iff.rfl, Nat.le_refl _, by rw [e]; simpa using HR5.out, by simpa [Value.ownBlock] using hg5⟩
      match ws, e with
      | [], _ => exact List.Pairwise.nil
      | [x], _ => exact List.pairwise_singleton _ _
      | x :: y :: l, e => exfalso; simp at e; omega
    · have h0 : (0 : Int) ≤ (n : Int) / 2 := by omega
      have h1 : (n : Int) / 2 ≤ (n : Int) := by omega
      have hd2 : decide ((n : Int) < 2) = false := by simp; omega
      go_enter Tryz.func13, Tryz.ntmps13
      go_wp2_with fail
      have HT : Hid (Rd (fun _ => True) w A ((ws.take (n / 2)).map .string)) := by
        have := H.out.take (n / 2)
        rwa [← List.map_take] at this
      have HD : Hid (Rd (fun _ => True) w (Option.map (fun x => x.add (n / 2)) A) ((ws.drop (n / 2)).map .string)) := by
        have := H.out.drop (n / 2)
        rwa [← List.map_drop] at this
      go_region_with (first
        | (have tk := HR6; go_at_call 38; go_must (refine (union_own A5 A6 d5 d6 c5 c6 _ (S := fun _ => True) (by exact ((rd_own HR5.out (by decide)).grown hg6 (by simp)).mono (fun _ _ _ => trivial)) (by exact (rd_own HR6.out (by decide)).mono (fun _ _ _ => trivial)) (by have := HN.out; simp at hl5; omega) (by have := HN.out; simp at hl6; omega)).mono ?_); rintro e w7 ⟨A7, c7, x7, y7, rfl, hc7, hm7, hr7, hg7⟩)
        | (have tk := HR5; go_at_call 13; go_must (refine (IH.out (Option.map (fun x => x.add (n / 2)) A) (ws.drop (n / 2)) (n - n / 2) (c - n / 2) _ (by omega) (by have := HN.out; simp; omega) (by exact (HD.out.drewN 1).grown hg5 (by simp)) (by omega) (by omega) (by unfold maxLen; omega)).mono ?_); rintro e w6 ⟨A6, c6, d6, rfl, hc6, hm6, hs6, he6, hl6, hr6, hg6⟩; have HR6 := Lib.hid hr6; have HE6 := Lib.hid he6; clear hr6 he6 tk)
        | (go_at_call 13; go_must (refine (IH.out A (ws.take (n / 2)) (n / 2) c _ (by omega) (by have := HN.out; simp; omega) (by exact HT.out.drewN 1) (by omega) (by omega) (by unfold maxLen; omega)).mono ?_); rintro e w5 ⟨A5, c5, d5, rfl, hc5, hm5, hs5, he5, hl5, hr5, hg5⟩; have HR5 := Lib.hid hr5; have HE5 := Lib.hid he5; clear hr5 he5))
      have HR7 := Lib.hid hr7
      clear hr7
      go_wp2_with fail
      go_ret
      refine ⟨A7, c7, un d5 d6, rfl, hc7, hm7, un_srt _ _ hs5 hs6, fun s => ?_, ?_, own_dn HR7.out ?_, only_trans (only_trans (only_trans (only_drew (only_refl _ _)) hg5) hg6) hg7⟩
      · rw [un_mem, HE5.out, HE6.out]
        constructor
        · rintro (h | h)
          · exact List.mem_of_mem_take h
          · exact List.mem_of_mem_drop h
        · intro h
          rw [← List.take_append_drop (n / 2) ws] at h
          exact List.mem_append.1 h
      · have := un_len d5 d6
        have := HN.out
        simp at hl5 hl6
        omega
      · have h5 := hg5.size
        have h6 := hg6.size
        have h8 : w.drew.heap.size = w.heap.size := rfl
        omega
theorem distinct_any (k : Nat) (A : Option Addr) (ws : List ByteArray) (n c : Nat) (w : World) (h1 : n ≤ k) (h2 : ws.length = n) (h3 : Rd (fun _ => True) w A (ws.map .string)) (h4 : n ≤ 1000000) (h5 : n ≤ c) (h6 : c ≤ maxLen) :
    Calls Tryz.prog 13 #[.slice A n c] w (DistPost w ws) := (distinct_own_any k A ws n c w h1 h2 h3 h4 h5 h6).mono fun _ _ h => h.post
theorem distinct_post {S : Nat → Prop} (A : Option Addr) (ws : List ByteArray) (c : Nat) (w : World) (h : Rd S w A (ws.map .string)) (hl : ws.length ≤ 1000000) (hc : ws.length ≤ c) (hm : c ≤ maxLen) :
    Calls Tryz.prog 13 #[.slice A ws.length c] w (DistPost w ws) :=
  distinct_any ws.length A ws ws.length c w (Nat.le_refl _) rfl (h.mono (fun _ _ _ => trivial)) hl hc hm
theorem distinct_own {S : Nat → Prop} (A : Option Addr) (ws : List ByteArray) (c : Nat) (w : World) (h : Rd S w A (ws.map .string)) (hl : ws.length ≤ 1000000) (hc : ws.length ≤ c) (hm : c ≤ maxLen) :
    Calls Tryz.prog 13 #[.slice A ws.length c] w (DistOwn w ws) :=
  distinct_own_any ws.length A ws ws.length c w (Nat.le_refl _) rfl (h.mono (fun _ _ _ => trivial)) hl hc hm
end Go.Proofs.YtpaiideboodaeaaGreatDoor
