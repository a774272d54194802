/- union and Distinct of the reference of chapter 23. No condition. -/
import Derived.Test.YtganfhmjklcchaaGreatJBase
import Derived.Deep.RegionLaw
import Derived.Deep.DeepMust
import Derived.Test.YtganfhmjklcchaaGreatJPutJ
import Derived.Lib.SlicesCompact
import Derived.Lib.RowBridge
import Derived.Sort.Walk0
namespace Go.Proofs.YtganfhmjklcchaaGreat
open Go.RowKit
set_option linter.unusedVariables false
set_option linter.unusedSimpArgs false

theorem intInfo : (Tryz.prog.info? 3).map (fun i => (i.zero, i.size, i.bytes)) = some (some (.int .i64 0), 1, 8) := by kernel_rfl
theorem own_ne {w : World} {b1 b2 e1 e2 s1 s2 n1 n2 : Nat} {v1 v2 : Value} {x1 x2 : List Value} (h1 : w.ownsRow b1 e1 s1 v1 n1 x1) (h2 : w.ownsRow b2 e2 s2 v2 n2 x2) (hne : e1 ≠ e2) : v1.ownBlock = none ∨ v1.ownBlock ≠ v2.ownBlock := by
  rcases h1.2 with ⟨rfl, _⟩ | ⟨g1, c1, cur1, rfl, _, hh1, _⟩
  · exact .inl rfl
  · right
    rcases h2.2 with ⟨rfl, _⟩ | ⟨g2, c2, cur2, rfl, _, hh2, _⟩
    · simp [Value.ownBlock]
    · simp only [Value.ownBlock]
      intro e
      injection e with e
      subst e
      rw [hh1] at hh2
      injection hh2 with hh2
      injection hh2 with _ ht
      exact hne ht
theorem own_new {w : World} {b1 e1 s1 n1 : Nat} {v1 v2 v2' : Value} {x1 : List Value} {k : Nat} (h1 : w.ownsRow b1 e1 s1 v1 n1 x1) (hne : v1.ownBlock = none ∨ v1.ownBlock ≠ v2.ownBlock) (hob : v2'.ownBlock = v2.ownBlock ∨ v2'.ownBlock = some k) (hk : w.heap.size ≤ k) : v1.ownBlock = none ∨ v1.ownBlock ≠ v2'.ownBlock := by
  rcases hne with h | h
  · exact .inl h
  · rcases hob with h' | h'
    · exact .inr (by rw [h']; exact h)
    · cases hv : v1.ownBlock with
      | none => exact .inl rfl
      | some j => exact .inr (by rw [h']; intro e; injection e with e; have := (h1.lt j hv).2; omega)

/-- two ascending lists in one -/
def un : List ByteArray → List ByteArray → List ByteArray
  | [], vs => vs
  | us, [] => us
  | a :: us, b :: vs => if sl a b then a :: un us (b :: vs) else if sl b a then b :: un (a :: us) vs else a :: un us vs
termination_by us vs => us.length + vs.length
theorem un_nil (us : List ByteArray) : un us [] = us := by cases us <;> simp [un]
theorem un_a {a b : List ByteArray} {i k : Nat} {x : ByteArray} (hx : a[i]? = some x) (h : b.drop k = [] ∨ ∃ y, b[k]? = some y ∧ sl x y = true) : un (a.drop i) (b.drop k) = x :: un (a.drop (i + 1)) (b.drop k) := by
  obtain ⟨hi, hx'⟩ := List.getElem?_eq_some_iff.1 hx
  have e1 : a.drop i = x :: a.drop (i + 1) := by rw [List.drop_eq_getElem_cons hi, hx']
  rw [e1]
  rcases h with h | ⟨y, hy, hs⟩
  · rw [h]; rw [un_nil, un_nil]
  · obtain ⟨hk, hy'⟩ := List.getElem?_eq_some_iff.1 hy
    have e2 : b.drop k = y :: b.drop (k + 1) := by rw [List.drop_eq_getElem_cons hk, hy']
    rw [e2]; simp [un, hs]
theorem un_b {a b : List ByteArray} {i k : Nat} {y : ByteArray} (hy : b[k]? = some y) (h : a.drop i = [] ∨ ∃ x, a[i]? = some x ∧ sl x y = false ∧ sl y x = true) : un (a.drop i) (b.drop k) = y :: un (a.drop i) (b.drop (k + 1)) := by
  obtain ⟨hk, hy'⟩ := List.getElem?_eq_some_iff.1 hy
  have e2 : b.drop k = y :: b.drop (k + 1) := by rw [List.drop_eq_getElem_cons hk, hy']
  rw [e2]
  rcases h with h | ⟨x, hx, hs1, hs2⟩
  · rw [h]; simp [un]
  · obtain ⟨hi, hx'⟩ := List.getElem?_eq_some_iff.1 hx
    have e1 : a.drop i = x :: a.drop (i + 1) := by rw [List.drop_eq_getElem_cons hi, hx']
    rw [e1]; simp [un, hs1, hs2]
theorem un_ab {a b : List ByteArray} {i k : Nat} {x y : ByteArray} (hx : a[i]? = some x) (hy : b[k]? = some y) (h1 : sl x y = false) (h2 : sl y x = false) : un (a.drop i) (b.drop k) = x :: un (a.drop (i + 1)) (b.drop (k + 1)) := by
  obtain ⟨hi, hx'⟩ := List.getElem?_eq_some_iff.1 hx
  obtain ⟨hk, hy'⟩ := List.getElem?_eq_some_iff.1 hy
  have e1 : a.drop i = x :: a.drop (i + 1) := by rw [List.drop_eq_getElem_cons hi, hx']
  have e2 : b.drop k = y :: b.drop (k + 1) := by rw [List.drop_eq_getElem_cons hk, hy']
  rw [e1, e2]; simp [un, h1, h2]
theorem un_len (us vs : List ByteArray) : (un us vs).length ≤ us.length + vs.length := by
  fun_induction un us vs with
  | case1 => simp
  | case2 => simp
  | case3 a us b vs h ih => simp at *; omega
  | case4 a us b vs h1 h2 ih => simp at *; omega
  | case5 a us b vs h1 h2 ih => simp at *; omega
def Srt (l : List ByteArray) : Prop := l.Pairwise (fun a b => sl a b = true)
theorem un_mem (us vs : List ByteArray) : ∀ x, x ∈ un us vs ↔ x ∈ us ∨ x ∈ vs := by
  fun_induction un us vs with
  | case1 => simp
  | case2 => simp
  | case3 a us b vs h ih => intro x; simp [ih x, or_assoc]
  | case4 a us b vs h1 h2 ih =>
    intro x; simp only [List.mem_cons, ih x]
    constructor
    · rintro (h | (h | h) | h) <;> simp [h]
    · rintro ((h | h) | (h | h)) <;> simp [h]
  | case5 a us b vs h1 h2 ih =>
    intro x
    have hab : a = b := sl_tri (by simpa using h1) (by simpa using h2)
    simp only [List.mem_cons, ih x, hab]
    constructor
    · rintro (h | h | h) <;> simp [h]
    · rintro ((h | h) | (h | h)) <;> simp [h]
theorem un_srt (us vs : List ByteArray) (ha : Srt us) (hb : Srt vs) : Srt (un us vs) := by
  fun_induction un us vs with
  | case1 => exact hb
  | case2 => exact ha
  | case3 a us b vs h ih =>
    unfold Srt at *
    rw [List.pairwise_cons] at ha ⊢
    refine ⟨fun x hx => ?_, ih ha.2 hb⟩
    rcases (un_mem _ _ x).1 hx with h' | h'
    · exact ha.1 x h'
    · rw [List.pairwise_cons] at hb
      rcases List.mem_cons.1 h' with rfl | h'
      · exact h
      · exact sl_trans h (hb.1 x h')
  | case4 a us b vs h1 h2 ih =>
    unfold Srt at *
    rw [List.pairwise_cons] at hb ⊢
    refine ⟨fun x hx => ?_, ih ha hb.2⟩
    rcases (un_mem _ _ x).1 hx with h' | h'
    · rw [List.pairwise_cons] at ha
      rcases List.mem_cons.1 h' with rfl | h'
      · exact h2
      · exact sl_trans h2 (ha.1 x h')
    · exact hb.1 x h'
  | case5 a us b vs h1 h2 ih =>
    have hab : a = b := sl_tri (by simpa using h1) (by simpa using h2)
    subst hab
    unfold Srt at *
    rw [List.pairwise_cons] at ha hb ⊢
    refine ⟨fun x hx => ?_, ih ha.2 hb.2⟩
    rcases (un_mem _ _ x).1 hx with h' | h'
    · exact ha.1 x h'
    · exact hb.1 x h'

def UnRel (w : World) (a b : List ByteArray) (i k : Nat) (o x y : Value) (zs : List ByteArray) (xs ys : List Int) (wr : World) : Prop :=
  wr.ownsRow w.heap.size 9 1 o zs.length (zs.map .string) ∧ wr.ownsRow w.heap.size 3 1 x xs.length (xs.map (.int .i64)) ∧ wr.ownsRow w.heap.size 3 1 y ys.length (ys.map (.int .i64)) ∧
  (x.ownBlock = none ∨ x.ownBlock ≠ y.ownBlock) ∧ (y.ownBlock = none ∨ y.ownBlock ≠ x.ownBlock) ∧ zs ++ un (a.drop i) (b.drop k) = un a b ∧ zs.length ≤ i + k ∧ xs.length ≤ i ∧ ys.length ≤ k ∧ w.grownBy wr none
theorem own_snoc_str {w : World} {base e : Nat} {v : Value} {vs : List ByteArray} {x : ByteArray} (h : w.ownsRow base e 1 v (vs.length + 1) (vs.map .string ++ #[Value.string x].toList)) :
    w.ownsRow base e 1 v (vs ++ [x]).length ((vs ++ [x]).map .string) := by simpa using h
section
variable {w wr w1 w2 : World} {a b : List ByteArray} {i k : Nat} {o x y v : Value} {zs : List ByteArray} {xs ys : List Int}
def Six (w : World) (o x y : Value) (zs : List ByteArray) (xs ys : List Int) (wr : World) : Prop :=
  wr.ownsRow w.heap.size 9 1 o zs.length (zs.map .string) ∧ wr.ownsRow w.heap.size 3 1 x xs.length (xs.map (.int .i64)) ∧ wr.ownsRow w.heap.size 3 1 y ys.length (ys.map (.int .i64)) ∧
  (x.ownBlock = none ∨ x.ownBlock ≠ y.ownBlock) ∧ (y.ownBlock = none ∨ y.ownBlock ≠ x.ownBlock) ∧ w.grownBy wr none
theorem UnRel.six (h : UnRel w a b i k o x y zs xs ys wr) : Six w o x y zs xs ys wr := ⟨h.1, h.2.1, h.2.2.1, h.2.2.2.1, h.2.2.2.2.1, h.2.2.2.2.2.2.2.2.2⟩
theorem UnRel.drewN (h : UnRel w a b i k o x y zs xs ys wr) (n : Nat) : UnRel w a b i k o x y zs xs ys (wr.drewN n) := by
  obtain ⟨h1, h2, h3, h4, h5, h6, h7, h8, h9, h10⟩ := h
  exact ⟨h1, h2, h3, h4, h5, h6, h7, h8, h9, only_drewN h10 n⟩
theorem un_seto {z : ByteArray} {i' k' : Nat} (h : w1.ownsRow w.heap.size 9 1 o zs.length (zs.map .string) ∧ w1.ownsRow w.heap.size 3 1 x xs.length (xs.map (.int .i64)) ∧ w1.ownsRow w.heap.size 3 1 y ys.length (ys.map (.int .i64)) ∧
      (x.ownBlock = none ∨ x.ownBlock ≠ y.ownBlock) ∧ (y.ownBlock = none ∨ y.ownBlock ≠ x.ownBlock) ∧ w.grownBy w1 none)
    (hv : w2.ownsRow w.heap.size 9 1 v (zs.length + 1) (zs.map .string ++ #[Value.string z].toList)) (hg : w1.grownBy w2 o.ownBlock) (heq : zs ++ z :: un (a.drop i') (b.drop k') = un a b) (h1 : zs.length + 1 ≤ i' + k') (h2 : xs.length ≤ i') (h3 : ys.length ≤ k') : UnRel w a b i' k' v x y (zs ++ [z]) xs ys w2 := by
  obtain ⟨s1, s2, s3, s4, s5, s6⟩ := h
  exact ⟨own_snoc_str hv, s2.kept hg (own_ne s2 s1 (by decide)), s3.kept hg (own_ne s3 s1 (by decide)), s4, s5, by rw [← heq]; simp, by simp; omega, h2, h3, only_own s6 hg s1 (Nat.le_refl _)⟩
/-- behind an append to the first row of indexes -/
theorem Six.setx (h : Six w o x y zs xs ys wr) {n : Int} (hx : w1.ownsRow w.heap.size 3 1 v (xs.length + 1) (xs.map (.int .i64) ++ #[Value.int .i64 n].toList)) (hg : wr.grownBy w1 x.ownBlock) (hob : v.ownBlock = x.ownBlock ∨ v.ownBlock = some (wr.heap.size + 1)) :
    w1.ownsRow w.heap.size 9 1 o zs.length (zs.map .string) ∧ w1.ownsRow w.heap.size 3 1 v (xs ++ [n]).length ((xs ++ [n]).map (.int .i64)) ∧ w1.ownsRow w.heap.size 3 1 y ys.length (ys.map (.int .i64)) ∧
    (v.ownBlock = none ∨ v.ownBlock ≠ y.ownBlock) ∧ (y.ownBlock = none ∨ y.ownBlock ≠ v.ownBlock) ∧ w.grownBy w1 none := by
  obtain ⟨h1, h2, h3, h4, h5, h9⟩ := h
  have hy : y.ownBlock = none ∨ y.ownBlock ≠ v.ownBlock := own_new h3 h5 hob (by omega)
  refine ⟨h1.kept hg (own_ne h1 h2 (by decide)), own_snoc_int hx, h3.kept hg h5, ?_, hy, only_own h9 hg h2 (Nat.le_refl _)⟩
  rcases hy with e | e
  · cases hv : v.ownBlock with
    | none => exact .inl rfl
    | some _ => exact .inr (by rw [e]; simp)
  · exact .inr (fun e' => e e'.symm)
theorem Six.sety (h : Six w o x y zs xs ys wr) {n : Int} (hx : w1.ownsRow w.heap.size 3 1 v (ys.length + 1) (ys.map (.int .i64) ++ #[Value.int .i64 n].toList)) (hg : wr.grownBy w1 y.ownBlock) (hob : v.ownBlock = y.ownBlock ∨ v.ownBlock = some (wr.heap.size + 1)) :
    w1.ownsRow w.heap.size 9 1 o zs.length (zs.map .string) ∧ w1.ownsRow w.heap.size 3 1 x xs.length (xs.map (.int .i64)) ∧ w1.ownsRow w.heap.size 3 1 v (ys ++ [n]).length ((ys ++ [n]).map (.int .i64)) ∧
    (x.ownBlock = none ∨ x.ownBlock ≠ v.ownBlock) ∧ (v.ownBlock = none ∨ v.ownBlock ≠ x.ownBlock) ∧ w.grownBy w1 none := by
  obtain ⟨h1, h2, h3, h4, h5, h9⟩ := h
  have hy : x.ownBlock = none ∨ x.ownBlock ≠ v.ownBlock := own_new h2 h4 hob (by omega)
  refine ⟨h1.kept hg (own_ne h1 h3 (by decide)), h2.kept hg h4, own_snoc_int hx, hy, ?_, only_own h9 hg h3 (Nat.le_refl _)⟩
  rcases hy with e | e
  · cases hv : v.ownBlock with
    | none => exact .inl rfl
    | some _ => exact .inr (by rw [e]; simp)
  · exact .inr (fun e' => e e'.symm)
end
theorem Rd.str_cell {S : Nat → Prop} {w : World} {b off k : Nat} {vs : List ByteArray} {x : ByteArray} (h : Rd S w (some ⟨b, off, none⟩) (vs.map .string)) (hx : vs[k]? = some x) : w.cell? ⟨b, off + k, none⟩ = some (.string x) := by
  obtain ⟨hk, hx'⟩ := List.getElem?_eq_some_iff.1 hx
  obtain ⟨y, hy, he⟩ := h.str_at' hk
  rw [hy]
  have := he.out
  rw [hx] at this
  injection this with this
  rw [this]
def UnPost (w : World) (a b : List ByteArray) (e : Ending) (w' : World) : Prop :=
  ∃ (A : Option Addr) (c : Nat) (x y : Value), e = .returned (.tuple #[.slice A (un a b).length c, x, y]) ∧ (un a b).length ≤ c ∧ c ≤ maxLen ∧ Rd (w.heap.size ≤ ·) w' A ((un a b).map .string) ∧ w.grownBy w' none

theorem rd_own {w : World} {b e s n c : Nat} {A : Option Addr} {xs : List Value} (h : w.ownsRow b e s (.slice A n c) n xs) (hs : 0 < s) : Rd (b ≤ ·) w A xs := by
  obtain ⟨A', c', e', _, _, _, hr⟩ := Rd.of_own h hs
  injection e' with e1 e2 e3
  rw [e1]; exact hr

def UnOwn (w : World) (a b : List ByteArray) (e : Ending) (w' : World) : Prop :=
  ∃ (A : Option Addr) (c : Nat) (x y : Value), e = .returned (.tuple #[.slice A (un a b).length c, x, y]) ∧ (un a b).length ≤ c ∧ c ≤ maxLen ∧ w'.ownsRow w.heap.size 9 1 (.slice A (un a b).length c) (un a b).length ((un a b).map .string) ∧ w.grownBy w' none
set_option maxHeartbeats 2000000 in
set_option maxRecDepth 100000 in
theorem union_own {S : Nat → Prop} (A B : Option Addr) (a b : List ByteArray) (c d : Nat) (w : World) (ha : Rd S w A (a.map .string)) (hb : Rd S w B (b.map .string)) (hl : a.length ≤ 1000000) (hl2 : b.length ≤ 1000000) :
    Calls Tryz.prog 117 #[.slice A a.length c, .slice B b.length d] w (UnOwn w a b) := by
  have HA := Lib.hid (ha.mono (S' := (· < w.heap.size)) (fun _ _ h => h))
  have HB := Lib.hid (hb.mono (S' := (· < w.heap.size)) (fun _ _ h => h))
  clear ha hb
  go_enter Tryz.func117, Tryz.ntmps117
  go_wp2_with fail
  go_loopw [7, 8, 9, 10, 11] (fun o x y i' k' wr => ∃ (i k : Nat) (zs : List ByteArray) (xs ys : List Int), i ≤ a.length ∧ k ≤ b.length ∧ i' = .int .i64 i ∧ k' = .int .i64 k ∧ UnRel w a b i k o x y zs xs ys wr) (fun _ _ _ i' k' _ => (a.length - (intOf i').toNat) + (b.length - (intOf k').toNat))
  case atStart => exact ⟨0, 0, [], [], [], Nat.zero_le _, Nat.zero_le _, rfl, rfl, World.ownsRow_nil _ _ _ _, World.ownsRow_nil _ _ _ _, World.ownsRow_nil _ _ _ _, .inl rfl, .inl rfl, by simp, by simp, by simp, by simp, only_refl _ _⟩
  case round =>
    obtain ⟨i, k, zs, xs, ys, hi, hk, rfl, rfl, hR⟩ := hrel
    have HR := Lib.hid hR
    obtain ⟨ho, hx, hy, hxy, hyx, heq, hz, hxl, hyl, hG⟩ := hR
    have hsz := hG.size
    have hRA := (HA.out.grown hG (by simp))
    have hRB := (HB.out.grown hG (by simp))
    obtain ⟨AO, co, rfl, hco, hcom, -, hro⟩ := Rd.of_own ho (by decide)
    have HC := Lib.hid hcom
    clear hcom
    have HRO := Lib.hid hro
    have HEQ := Lib.hid heq
    have HX := Lib.hid hx
    have HY := Lib.hid hy
    have HO := Lib.hid ho
    clear hG hro heq hxy hyx hx hy ho
    by_cases hia : i < a.length
    · obtain ⟨ba, oa, sx, rfl, hca, hsx⟩ := hRA.str_at hia
      by_cases hkb : k < b.length
      · obtain ⟨bb, ob, sy, rfl, hcb, hsy⟩ := hRB.str_at hkb
        clear hRA hRB
        have t1 : ((k : Int) == (b.length : Int)) = false := by rw [beq_eq_false_iff_ne]; omega
        have t2 : ((i : Int) == (a.length : Int)) = false := by rw [beq_eq_false_iff_ne]; omega
        by_cases hab : sl sx sy = true
        · have t3 : Op.bytesLess sx.toList sy.toList = true := hab
          have HAB := Lib.hid hab
          clear hab
          go_wp2_with fail
          go_quiet (fail)
          have HRq := Lib.hid (HR.out.drewN nq)
          have hszq : w.heap.size ≤ (wr.drewN nq).heap.size := hsz
          clear HX HY HO
          go_wp2_with (first | (at_builtin; refine wpList_append1 rfl _ _ 38 rfl w.heap.size Tryz.underlying38 intInfo rfl (by decide) (v := _) (by rfl) (w0 := _) (cs := #[.int .i64 (zs.length : Int)]) HRq.out.2.1 (by rfl) rfl (by simp [Value.oneCell']) (by decide) (by omega) (by omega) ?_; intro v1 w1 hv1 hg1 hob1; have ST := Lib.hid (HRq.out.six.setx hv1 hg1 hob1); have hc1 := Rd.str_cell (HA.out.grown ST.out.2.2.2.2.2 (by simp)) hsx.out; have hz1 := ST.out.2.2.2.2.2.size; clear hv1 hg1 hob1) | (have tk := ST; at_builtin; refine wpList_append1 rfl _ _ 123 rfl w.heap.size Tryz.underlying123 strInfo rfl (by decide) (v := _) (by rfl) (w0 := _) (cs := #[.string sx]) ST.out.1 (by rfl) rfl (by simp [Value.oneCell']) (by decide) (by omega) (by omega) ?_; intro v2 w2 hv2 hg2 hob2; clear tk))
          have hfin := un_seto (i' := i + 1) (k' := k) ST.out hv2 hg2 (by rw [← HEQ.out, un_a hsx.out (.inr ⟨sy, hsy.out, HAB.out⟩)]) (by omega) (by simp; omega) (by omega)
          clear hv2 hg2 hob2 ST hc1
          go_wp2_with fail
          go_roundw
          case rel => exact ⟨i + 1, k, _, _, _, by omega, hk, by go_num, rfl, hfin⟩
          case measure => simp [intOf]; omega
        · have hab' : sl sx sy = false := by simpa using hab
          have t3 : Op.bytesLess sx.toList sy.toList = false := hab'
          clear hab
          by_cases hba : sl sy sx = true
          · have t4 : Op.bytesLess sy.toList sx.toList = true := hba
            have HBA := Lib.hid hba
            have HAB := Lib.hid hab'
            clear hba hab'
            go_wp2_with fail
            go_quiet (fail)
            obtain ⟨q1, hq1⟩ : ∃ q1, q1 = nq := ⟨_, rfl⟩
            rw [← hq1]
            clear hq1 nq
            go_wp2_with fail
            go_quiet (fail)
            have HRq := Lib.hid (HR.out.drewN (q1 + nq))
            have hszq : w.heap.size ≤ (wr.drewN (q1 + nq)).heap.size := hsz
            clear HX HY HO
            go_wp2_with (first | (at_builtin; refine wpList_append1 rfl _ _ 38 rfl w.heap.size Tryz.underlying38 intInfo rfl (by decide) (v := _) (by rfl) (w0 := _) (cs := #[.int .i64 (zs.length : Int)]) HRq.out.2.2.1 (by rfl) rfl (by simp [Value.oneCell']) (by decide) (by omega) (by omega) ?_; intro v1 w1 hv1 hg1 hob1; have ST := Lib.hid (HRq.out.six.sety hv1 hg1 hob1); have hc1 := Rd.str_cell (HB.out.grown ST.out.2.2.2.2.2 (by simp)) hsy.out; have hz1 := ST.out.2.2.2.2.2.size; clear hv1 hg1 hob1) | (have tk := ST; at_builtin; refine wpList_append1 rfl _ _ 123 rfl w.heap.size Tryz.underlying123 strInfo rfl (by decide) (v := _) (by rfl) (w0 := _) (cs := #[.string sy]) ST.out.1 (by rfl) rfl (by simp [Value.oneCell']) (by decide) (by omega) (by omega) ?_; intro v2 w2 hv2 hg2 hob2; clear tk))
            have hfin := un_seto (i' := i) (k' := k + 1) ST.out hv2 hg2 (by rw [← HEQ.out, un_b hsy.out (.inr ⟨sx, hsx.out, HAB.out, HBA.out⟩)]) (by omega) (by omega) (by simp; omega)
            clear hv2 hg2 hob2 ST hc1
            go_wp2_with fail
            go_roundw
            case rel => exact ⟨i, k + 1, _, _, _, hi, by omega, rfl, by go_num, hfin⟩
            case measure => simp [intOf]; omega
          · have hba' : sl sy sx = false := by simpa using hba
            have t4 : Op.bytesLess sy.toList sx.toList = false := hba'
            have HBA := Lib.hid hba'
            have HAB := Lib.hid hab'
            clear hba hba' hab'
            go_wp2_with fail
            go_quiet (fail)
            obtain ⟨q1, hq1⟩ : ∃ q1, q1 = nq := ⟨_, rfl⟩
            rw [← hq1]
            clear hq1 nq
            go_wp2_with fail
            go_quiet (fail)
            have HRq := Lib.hid (HR.out.drewN (q1 + nq))
            have hszq : w.heap.size ≤ (wr.drewN (q1 + nq)).heap.size := hsz
            clear HX HY HO
            go_wp2_with (first | (have tk := SX; at_builtin; refine wpList_append1 rfl _ _ 38 rfl w.heap.size Tryz.underlying38 intInfo rfl (by decide) (v := _) (by rfl) (w0 := _) (cs := #[.int .i64 (zs.length : Int)]) SX.out.2.2.1 (by rfl) rfl (by simp [Value.oneCell']) (by decide) (by omega) (by omega) ?_; intro v3 w3 hv3 hg3 hob3; have ST := Lib.hid (Six.sety SX.out hv3 hg3 hob3); have hc1 := Rd.str_cell (HA.out.grown ST.out.2.2.2.2.2 (by simp)) hsx.out; have hz3 := ST.out.2.2.2.2.2.size; clear hv3 hg3 hob3 tk) | (at_builtin; refine wpList_append1 rfl _ _ 38 rfl w.heap.size Tryz.underlying38 intInfo rfl (by decide) (v := _) (by rfl) (w0 := _) (cs := #[.int .i64 (zs.length : Int)]) HRq.out.2.1 (by rfl) rfl (by simp [Value.oneCell']) (by decide) (by omega) (by omega) ?_; intro v1 w1 hv1 hg1 hob1; have SX := Lib.hid (HRq.out.six.setx hv1 hg1 hob1); have hz1 := SX.out.2.2.2.2.2.size; clear hv1 hg1 hob1) | (have tk := ST; at_builtin; refine wpList_append1 rfl _ _ 123 rfl w.heap.size Tryz.underlying123 strInfo rfl (by decide) (v := _) (by rfl) (w0 := _) (cs := #[.string sx]) ST.out.1 (by rfl) rfl (by simp [Value.oneCell']) (by decide) (by omega) (by omega) ?_; intro v2 w2 hv2 hg2 hob2; clear tk))
            have hfin := un_seto (i' := i + 1) (k' := k + 1) ST.out hv2 hg2 (by rw [← HEQ.out, un_ab hsx.out hsy.out HAB.out HBA.out]) (by omega) (by simp; omega) (by simp; omega)
            clear hv2 hg2 hob2 ST hc1
            go_wp2_with fail
            go_roundw
            case rel => exact ⟨i + 1, k + 1, _, _, _, by omega, by omega, by go_num, by go_num, hfin⟩
            case measure => simp [intOf]; omega
      · have t1 : ((k : Int) == (b.length : Int)) = true := by rw [beq_iff_eq]; omega
        have HKB : Hid (b.drop k = []) := List.drop_of_length_le (by omega)
        clear hRA hRB
        go_wp2_with fail
        go_quiet (fail)
        have HRq := Lib.hid (HR.out.drewN nq)
        have hszq : w.heap.size ≤ (wr.drewN nq).heap.size := hsz
        clear HX HY HO
        go_wp2_with (first | (at_builtin; refine wpList_append1 rfl _ _ 38 rfl w.heap.size Tryz.underlying38 intInfo rfl (by decide) (v := _) (by rfl) (w0 := _) (cs := #[.int .i64 (zs.length : Int)]) HRq.out.2.1 (by rfl) rfl (by simp [Value.oneCell']) (by decide) (by omega) (by omega) ?_; intro v1 w1 hv1 hg1 hob1; have ST := Lib.hid (HRq.out.six.setx hv1 hg1 hob1); have hc1 := Rd.str_cell (HA.out.grown ST.out.2.2.2.2.2 (by simp)) hsx.out; have hz1 := ST.out.2.2.2.2.2.size; clear hv1 hg1 hob1) | (have tk := ST; at_builtin; refine wpList_append1 rfl _ _ 123 rfl w.heap.size Tryz.underlying123 strInfo rfl (by decide) (v := _) (by rfl) (w0 := _) (cs := #[.string sx]) ST.out.1 (by rfl) rfl (by simp [Value.oneCell']) (by decide) (by omega) (by omega) ?_; intro v2 w2 hv2 hg2 hob2; clear tk))
        have hfin := un_seto (i' := i + 1) (k' := k) ST.out hv2 hg2 (by rw [← HEQ.out, un_a hsx.out (.inl HKB.out)]) (by omega) (by simp; omega) (by omega)
        clear hv2 hg2 hob2 ST hc1
        go_wp2_with fail
        go_roundw
        case rel => exact ⟨i + 1, k, _, _, _, by omega, hk, by go_num, rfl, hfin⟩
        case measure => simp [intOf]; omega
    · by_cases hkb : k < b.length
      · obtain ⟨bb, ob, sy, rfl, hcb, hsy⟩ := hRB.str_at hkb
        clear hRA hRB
        have t1 : ((k : Int) == (b.length : Int)) = false := by rw [beq_eq_false_iff_ne]; omega
        have t2 : ((i : Int) == (a.length : Int)) = true := by rw [beq_iff_eq]; omega
        have td : decide ((i : Int) < (a.length : Int)) = false := by simp; omega
        have HIA : Hid (a.drop i = []) := List.drop_of_length_le (by omega)
        go_wp2_with fail
        go_quiet (fail)
        obtain ⟨q1, hq1⟩ : ∃ q1, q1 = nq := ⟨_, rfl⟩
        rw [← hq1]
        clear hq1 nq
        go_wp2_with fail
        go_quiet (fail)
        have HRq := Lib.hid (HR.out.drewN (q1 + nq))
        have hszq : w.heap.size ≤ (wr.drewN (q1 + nq)).heap.size := hsz
        clear HX HY HO
        go_wp2_with (first | (at_builtin; refine wpList_append1 rfl _ _ 38 rfl w.heap.size Tryz.underlying38 intInfo rfl (by decide) (v := _) (by rfl) (w0 := _) (cs := #[.int .i64 (zs.length : Int)]) HRq.out.2.2.1 (by rfl) rfl (by simp [Value.oneCell']) (by decide) (by omega) (by omega) ?_; intro v1 w1 hv1 hg1 hob1; have ST := Lib.hid (HRq.out.six.sety hv1 hg1 hob1); have hc1 := Rd.str_cell (HB.out.grown ST.out.2.2.2.2.2 (by simp)) hsy.out; have hz1 := ST.out.2.2.2.2.2.size; clear hv1 hg1 hob1) | (have tk := ST; at_builtin; refine wpList_append1 rfl _ _ 123 rfl w.heap.size Tryz.underlying123 strInfo rfl (by decide) (v := _) (by rfl) (w0 := _) (cs := #[.string sy]) ST.out.1 (by rfl) rfl (by simp [Value.oneCell']) (by decide) (by omega) (by omega) ?_; intro v2 w2 hv2 hg2 hob2; clear tk))
        have hfin := un_seto (i' := i) (k' := k + 1) ST.out hv2 hg2 (by rw [← HEQ.out, un_b hsy.out (.inl HIA.out)]) (by omega) (by omega) (by simp; omega)
        clear hv2 hg2 hob2 ST hc1
        go_wp2_with fail
        go_roundw
        case rel => exact ⟨i, k + 1, _, _, _, hi, by omega, rfl, by go_num, hfin⟩
        case measure => simp [intOf]; omega
      · have hfin : zs = un a b := by rw [← HEQ.out, List.drop_of_length_le (by omega), List.drop_of_length_le (by omega)]; simp [un]
        have HF := Lib.hid hfin
        clear hRA hRB hfin
        go_wp2_with fail
        go_ret3
        exact ⟨AO, co, _, _, by rw [← HF.out]; rfl, by rw [← HF.out]; exact hco, HC.out, by rw [← HF.out]; exact HO.out, HR.out.six.2.2.2.2.2⟩
theorem union_any {S : Nat → Prop} (A B : Option Addr) (a b : List ByteArray) (c d : Nat) (w : World) (ha : Rd S w A (a.map .string)) (hb : Rd S w B (b.map .string)) (hl : a.length ≤ 1000000) (hl2 : b.length ≤ 1000000) :
    Calls Tryz.prog 117 #[.slice A a.length c, .slice B b.length d] w (UnPost w a b) :=
  (union_own A B a b c d w ha hb hl hl2).mono fun _ _ ⟨A, c, x, y, h1, h2, h3, h4, h5⟩ => ⟨A, c, x, y, h1, h2, h3, rd_own h4 (by decide), h5⟩
theorem srt_ext : ∀ {xs ys : List ByteArray}, Srt xs → Srt ys → (∀ s, s ∈ xs ↔ s ∈ ys) → xs = ys
  | [], [], _, _, _ => rfl
  | [], y :: ys, _, _, h => absurd ((h y).2 (List.mem_cons_self ..)) (by simp)
  | x :: xs, [], _, _, h => absurd ((h x).1 (List.mem_cons_self ..)) (by simp)
  | x :: xs, y :: ys, hx, hy, h => by
    unfold Srt at hx hy
    rw [List.pairwise_cons] at hx hy
    have hxy : x = y := by
      rcases List.mem_cons.1 ((h x).1 (List.mem_cons_self ..)) with e | e
      · exact e
      · rcases List.mem_cons.1 ((h y).2 (List.mem_cons_self ..)) with e' | e'
        · exact e'.symm
        · have h1 := hy.1 x e
          have h2 := hx.1 y e'
          rw [sl_asymm h1] at h2
          cases h2
    subst hxy
    rw [srt_ext hx.2 hy.2 (fun s => ?_)]
    constructor
    · intro hs
      rcases List.mem_cons.1 ((h s).1 (List.mem_cons_of_mem _ hs)) with e | e
      · subst e; have := hx.1 s hs; rw [sl_irrefl] at this; cases this
      · exact e
    · intro hs
      rcases List.mem_cons.1 ((h s).2 (List.mem_cons_of_mem _ hs)) with e | e
      · subst e; have := hy.1 s hs; rw [sl_irrefl] at this; cases this
      · exact e
end Go.Proofs.YtganfhmjklcchaaGreat

namespace Go.Proofs.YtganfhmjklcchaaGreat
open Go.RowKit
set_option linter.unusedVariables false
set_option linter.unusedSimpArgs false

def cmn : List UInt8 → List UInt8 → Nat
  | a :: x, b :: y => if a = b then cmn x y + 1 else 0
  | _, _ => 0
theorem cmn_comm : ∀ x y, cmn x y = cmn y x
  | [], [] => rfl
  | [], _ :: _ => rfl
  | _ :: _, [] => rfl
  | a :: x, b :: y => by
    by_cases h : a = b
    · subst h; simp [cmn, cmn_comm x y]
    · simp [cmn, h, Ne.symm h]
theorem cmn_eq : ∀ (k : Nat) (x y : List UInt8), (∀ i, i < k → x[i]? = y[i]?) → k ≤ x.length → k ≤ y.length → (k = x.length ∨ k = y.length ∨ x[k]? ≠ y[k]?) → cmn x y = k
  | 0, [], _, _, _, _, _ => by simp [cmn]
  | 0, _ :: _, [], _, _, _, _ => by simp [cmn]
  | 0, a :: x, b :: y, _, _, _, h => by
    simp at h
    simp [cmn, h]
  | k + 1, [], _, _, h, _, _ => by simp at h
  | k + 1, _ :: _, [], _, _, h, _ => by simp at h
  | k + 1, a :: x, b :: y, h, h1, h2, h3 => by
    have e : a = b := by have := h 0 (by omega); simpa using this
    subst e
    simp at h1 h2 h3
    simp [cmn, cmn_eq k x y (fun i hi => by have := h (i + 1) (by omega); simpa using this) h1 h2 (by simpa using h3)]
/-- the length of the longest common beginning -/
def cm (a b : ByteArray) : Nat := cmn a.data.toList b.data.toList
theorem cm_comm (a b : ByteArray) : cm a b = cm b a := cmn_comm _ _
theorem cmn_le : ∀ x y, cmn x y ≤ x.length ∧ cmn x y ≤ y.length
  | [], [] => by simp [cmn]
  | [], _ :: _ => by simp [cmn]
  | _ :: _, [] => by simp [cmn]
  | a :: x, b :: y => by
    have := cmn_le x y
    by_cases h : a = b <;> simp [cmn, h] <;> omega
theorem cm_le (a b : ByteArray) : cm a b ≤ a.size ∧ cm a b ≤ b.size := by
  have := cmn_le a.data.toList b.data.toList
  simpa [cm] using this
theorem cm_is {a b : ByteArray} {k : Nat} (h : ∀ i, i < k → a.data.toList[i]? = b.data.toList[i]?) (h1 : k ≤ a.size) (h2 : k ≤ b.size) (h3 : k = a.size ∨ k = b.size ∨ a.data.toList[k]? ≠ b.data.toList[k]?) : cm a b = k :=
  cmn_eq k _ _ h (by simpa using h1) (by simpa using h2) (by simpa using h3)
theorem byte_at {a : ByteArray} {k : Nat} (h : k < a.size) : a.data.toList[k]? = some a[k] := by
  rw [List.getElem?_eq_getElem (by simpa using h)]; rfl

set_option maxHeartbeats 1000000 in
set_option maxRecDepth 100000 in
theorem rcommon_any (a b : ByteArray) (w : World) (ha : a.size ≤ 5000000) (hb : b.size ≤ 5000000) : Calls Tryz.prog 130 #[.string a, .string b] w (Quiet (.int .i64 (cm a b : Nat)) w) := by
  go_enter Tryz.func130, Tryz.ntmps130
  go_wp2_with fail
  go_loopw [5] (fun i wr => ∃ k : Nat, k ≤ a.size ∧ k ≤ b.size ∧ i = .int .i64 k ∧ (∀ i, i < k → a.data.toList[i]? = b.data.toList[i]?) ∧ ∃ q, wr = w.drewN q) (fun i _ => a.size - (intOf i).toNat)
  case atStart => exact ⟨0, Nat.zero_le _, Nat.zero_le _, rfl, (fun i hi => absurd hi (by omega)), 0, rfl⟩
  case round =>
    obtain ⟨k, hka, hkb, rfl, hall, q, rfl⟩ := hrel
    have AL := Lib.hid hall
    clear hall
    by_cases h1 : k < a.size
    · have i1 : (k : Int) < (a.size : Int) := by omega
      by_cases h2 : k < b.size
      · have i2 : (k : Int) < (b.size : Int) := by omega
        by_cases he : a[k] = b[k]
        · have t1 : ((a[k].toNat : Int) == (b[k].toNat : Int)) = true := by simp [he]
          have HE := Lib.hid he
          clear he
          go_wp2_with fail
          go_quiet (fail)
          go_wp2_with fail
          go_roundw
          case rel =>
            refine ⟨k + 1, by omega, by omega, by go_num, fun i hi => ?_, _, rfl⟩
            rcases Nat.lt_or_ge i k with h | h
            · exact AL.out i h
            · obtain rfl : i = k := by omega
              rw [byte_at h1, byte_at h2, HE.out]
          case measure => simp [intOf]; omega
        · have t1 : ((a[k].toNat : Int) == (b[k].toNat : Int)) = false := by
            rw [beq_eq_false_iff_ne]; intro e; exact he (UInt8.toNat_inj.1 (by omega))
          have HC : Hid (cm a b = k) := cm_is AL.out hka hkb (.inr (.inr (by rw [byte_at h1, byte_at h2]; simpa using he)))
          clear he
          go_wp2_with fail
          go_quiet (fail)
          go_wp2_with fail
          go_ret
          exact ⟨by rw [HC.out]; rfl, _, World.drewN_drewN _ _ _⟩
      · have d1 : decide ((k : Int) < (b.size : Int)) = false := by simp; omega
        have HC : Hid (cm a b = k) := cm_is AL.out hka hkb (.inr (.inl (by omega)))
        go_wp2_with fail
        go_quiet (fail)
        go_wp2_with fail
        go_ret
        exact ⟨by rw [HC.out]; rfl, _, World.drewN_drewN _ _ _⟩
    · have d1 : decide ((k : Int) < (a.size : Int)) = false := by simp; omega
      have HC : Hid (cm a b = k) := cm_is AL.out hka hkb (.inl (by omega))
      go_wp2_with fail
      go_quiet (fail)
      go_wp2_with fail
      go_ret
      exact ⟨by rw [HC.out]; rfl, _, World.drewN_drewN _ _ _⟩
end Go.Proofs.YtganfhmjklcchaaGreat

namespace Go.Proofs.YtganfhmjklcchaaGreat
open Go.RowKit
set_option linter.unusedVariables false
set_option linter.unusedSimpArgs false

def Asc (ds : List ByteArray) : Prop := ∀ i x y, ds[i]? = some x → ds[i + 1]? = some y → sl x y = true
def Long (ds : List ByteArray) : Prop := ∃ x ∈ ds, 2048 < x.size
open Classical in
/-- what keeps a list from being a dictionary -/
noncomputable def chk (ds : List ByteArray) : Int := if 32768 < ds.length then 4 else if Long ds then 3 else if Asc ds then 0 else 19

def IdxPost (ds : List ByteArray) (w : World) (e : Ending) (w' : World) : Prop :=
  ∃ n : Int, e = .returned (.int .i64 n) ∧ (0 ≤ n ↔ Long ds) ∧ ∃ q, w' = w.drewN q
end Go.Proofs.YtganfhmjklcchaaGreat

namespace Go.Proofs.YtganfhmjklcchaaGreat
open Go.RowKit
set_option linter.unusedVariables false
set_option linter.unusedSimpArgs false

open Classical in
set_option maxHeartbeats 1000000 in
set_option maxRecDepth 100000 in
theorem rcheck_any {S : Nat → Prop} (A : Option Addr) (ds : List ByteArray) (c : Nat) (w : World) (h : Rd S w A (ds.map .string)) (hl : ds.length ≤ 10000000) :
    Calls Tryz.prog 129 #[.slice A ds.length c] w (Quiet (.int .i64 (chk ds)) w) := by
  have H := Lib.hid h
  clear h
  by_cases hbig : 32768 < ds.length
  · have HA : Hid (chk ds = 4) := by show chk ds = _; unfold chk; rw [if_pos hbig]
    go_enter Tryz.func129, Tryz.ntmps129
    go_wp2_with fail
    go_ret
    exact ⟨by rw [HA.out]; rfl, 0, rfl⟩
  have hdb : decide ((32768 : Int) < (ds.length : Int)) = false := by simp; omega
  go_enter Tryz.func129, Tryz.ntmps129
  go_wp2_with fail
  go_loopw [3] (fun i wr => ∃ k : Nat, k ≤ ds.length ∧ i = .int .i64 k ∧ (∀ i x, i < k → ds[i]? = some x → x.size ≤ 2048) ∧ ∃ q, wr = w.drewN q) (fun i _ => ds.length - (intOf i).toNat)
  case atStart => exact ⟨0, Nat.zero_le _, rfl, fun i x hi => absurd hi (by omega), 0, rfl⟩
  case round =>
    obtain ⟨k, hk, rfl, hall, q, rfl⟩ := hrel
    have AL := Lib.hid hall
    clear hall
    by_cases hlt : k < ds.length
    · obtain ⟨b, off, x, rfl, hc, hx⟩ := H.out.str_at hlt
      by_cases hs : 2048 < x.size
      · have HA : Hid (chk ds = 3) := by show chk ds = _; unfold chk; rw [if_neg hbig, if_pos ⟨x, List.mem_of_getElem? hx.out, hs⟩]
        go_wp2_with fail
        go_ret
        exact ⟨by rw [HA.out]; rfl, _, rfl⟩
      · go_wp2_with fail
        go_roundw
        case rel =>
          refine ⟨k + 1, by omega, by go_num, fun i y hi hy => ?_, _, rfl⟩
          rcases Nat.lt_or_ge i k with h | h
          · exact AL.out i y h hy
          · obtain rfl : i = k := by omega
            rw [hx.out] at hy; injection hy with hy; rw [← hy]; omega
        case measure => simp [intOf]; omega
    · have hL : ¬ Long ds := by
        rintro ⟨x, hx, hs⟩
        obtain ⟨i, hi, hix⟩ := List.mem_iff_getElem.1 hx
        have := AL.out i x (by omega) (by rw [List.getElem?_eq_getElem hi, hix])
        omega
      have HA : Hid (chk ds = if Asc ds then 0 else 19) := by show chk ds = _; unfold chk; rw [if_neg (by omega), if_neg hL]
      clear hL AL
      go_wp2_with fail
      clear hlt hk
      go_loopw [4] (fun i wr => ∃ k : Nat, 1 ≤ k ∧ k ≤ ds.length + 1 ∧ (k ≤ ds.length ∨ ds.length = 0) ∧ i = .int .i64 k ∧ (∀ i x y, i + 1 < k → ds[i]? = some x → ds[i + 1]? = some y → sl x y = true) ∧ ∃ q, wr = w.drewN q) (fun i _ => ds.length - (intOf i).toNat)
      case atStart => exact ⟨1, by omega, by omega, by omega, rfl, (fun i x y hi => absurd hi (by omega)), _, rfl⟩
      case round =>
        obtain ⟨k, hk0, hk1, hk2, rfl, hall, q, rfl⟩ := hrel
        have AL := Lib.hid hall
        clear hall
        by_cases hlt : k < ds.length
        · obtain ⟨k, rfl⟩ : ∃ k', k = k' + 1 := ⟨k - 1, by omega⟩
          obtain ⟨b, off, x, rfl, hc, hx⟩ := H.out.str_at (k := k) (by omega)
          obtain ⟨y, hcy, hy⟩ := H.out.str_at' hlt
          have hwk : IntKind.i64.wrap (k : Int) = (k : Int) := IntWalk.i64_in _ (by omega)
          have i1 : (k : Int) < (ds.length : Int) := by omega
          have i2 : (k : Int) + 1 < (ds.length : Int) := by omega
          have i3 : (0 : Int) ≤ (k : Int) := by omega
          have i4 : (0 : Int) ≤ (k : Int) + 1 := by omega
          have i5 : ((k : Int) + 1).toNat = k + 1 := by omega
          by_cases hs : sl x y = true
          · have t1 : Op.bytesLess x.toList y.toList = true := hs
            have t2 : Op.bytesLess y.toList x.toList = false := sl_asymm hs
            have t3 : (y.toList == x.toList) = false := by
              rw [beq_eq_false_iff_ne]; intro e; rw [e, bl_irrefl] at t1; cases t1
            have HS := Lib.hid hs
            clear hs
            go_wp2
            go_quiet (fail)
            go_wp2
            go_roundw
            case rel =>
              refine ⟨k + 1 + 1, by omega, by omega, by omega, by go_num, fun i a b hi ha hb => ?_, _, rfl⟩
              rcases Nat.lt_or_ge (i + 1) (k + 1) with h | h
              · exact AL.out i a b h ha hb
              · obtain rfl : i = k := by omega
                rw [hx.out] at ha; rw [hy.out] at hb; injection ha with ha; injection hb with hb; rw [← ha, ← hb]; exact HS.out
            case measure => simp [intOf]; omega
          · have hs' : sl x y = false := by simpa using hs
            have t1 : Op.bytesLess x.toList y.toList = false := hs'
            have hr : chk ds = 19 := by
              rw [HA.out, if_neg (fun h => by have := h k x y hx.out hy.out; rw [hs'] at this; cases this)]
            have HR := Lib.hid hr
            clear hs hs' hr
            have t4 : (Op.bytesLess y.toList x.toList || y.toList == x.toList) = true := by
              cases h : Op.bytesLess y.toList x.toList with
              | true => rfl
              | false => simp; exact bl_tri _ _ h t1
            go_wp2
            go_quiet (fail)
            go_wp2
            go_ret
            exact ⟨by rw [HR.out]; rfl, _, World.drewN_drewN _ _ _⟩
        · have hr : chk ds = 0 := by
            rw [HA.out, if_pos (show Asc ds from fun i a b ha hb => AL.out i a b (by have := (List.getElem?_eq_some_iff.1 hb).1; omega) ha hb)]
          have HR := Lib.hid hr
          clear hr
          go_wp2
          go_ret
          exact ⟨by rw [HR.out]; rfl, _, rfl⟩
end Go.Proofs.YtganfhmjklcchaaGreat

namespace Go.Proofs.YtganfhmjklcchaaGreat
open Go.RowKit
set_option linter.unusedVariables false
set_option linter.unusedSimpArgs false

/-- the bytes of the word at i -/
def wordB (ds : List ByteArray) (i : Nat) : List Int :=
  match ds[i]? with
  | none => []
  | some x => if i % 16 = 0 then vint x.size ++ bts x else
    match ds[i - 1]? with
    | none => []
    | some y => vint (cm y x) ++ (vint (x.size - cm y x) ++ bts (x.extract (cm y x) x.size))
def encTo (ds : List ByteArray) : Nat → List Int
  | 0 => vint ds.length
  | k + 1 => encTo ds k ++ wordB ds k
def encB (ds : List ByteArray) : List Int := encTo ds ds.length
theorem wordB_0 {ds : List ByteArray} {i : Nat} {x : ByteArray} (hx : ds[i]? = some x) (h : i % 16 = 0) : wordB ds i = vint x.size ++ bts x := by
  simp [wordB, hx, h]
theorem wordB_1 {ds : List ByteArray} {i : Nat} {x y : ByteArray} (hx : ds[i]? = some x) (hy : ds[i - 1]? = some y) (h : ¬ i % 16 = 0) : wordB ds i = vint (cm y x) ++ (vint (x.size - cm y x) ++ bts (x.extract (cm y x) x.size)) := by
  simp [wordB, hx, hy, h]
theorem vint_len3 {n : Nat} (h : n ≤ 2000000) : (vint n).length ≤ 3 := vint_len_pow 2 n (Nat.lt_of_le_of_lt h (by decide))
theorem wordB_len {ds : List ByteArray} (h : ¬ Long ds) (i : Nat) : (wordB ds i).length ≤ 2060 := by
  unfold wordB
  cases hx : ds[i]? with
  | none => simp
  | some x =>
    have hs : x.size ≤ 2048 := by
      rcases Nat.lt_or_ge 2048 x.size with h1 | h1
      · exact absurd ⟨x, List.mem_of_getElem? hx, h1⟩ h
      · exact h1
    simp only
    split
    · have := vint_len3 (n := x.size) (by omega)
      rw [List.length_append, bts_len]; omega
    · cases hy : ds[i - 1]? with
      | none => simp
      | some y =>
        have hc := cm_le y x
        have h1 := vint_len3 (n := cm y x) (by omega)
        have h2 := vint_len3 (n := x.size - cm y x) (by omega)
        simp only [List.length_append, bts_len, ByteArray.size_extract]
        omega
theorem encTo_len {ds : List ByteArray} (h : ¬ Long ds) (hl : ds.length ≤ 32768) : ∀ k, (encTo ds k).length ≤ 3 + 2060 * k
  | 0 => by have := vint_len3 (n := ds.length) (by omega); simpa [encTo] using this
  | k + 1 => by
    have h1 := encTo_len h hl k
    have h2 := wordB_len h k
    simp only [encTo, List.length_append]
    omega
theorem wordB_len2 {ds : List ByteArray} (h : ∀ x ∈ ds, x.size ≤ 250) (i : Nat) : (wordB ds i).length ≤ 256 := by
  unfold wordB
  cases hx : ds[i]? with
  | none => simp
  | some x =>
    have hs : x.size ≤ 250 := h x (List.mem_of_getElem? hx)
    simp only
    split
    · have := vint_len3 (n := x.size) (by omega)
      rw [List.length_append, bts_len]; omega
    · cases hy : ds[i - 1]? with
      | none => simp
      | some y =>
        have hc := cm_le y x
        have h1 := vint_len3 (n := cm y x) (by omega)
        have h2 := vint_len3 (n := x.size - cm y x) (by omega)
        simp only [List.length_append, bts_len, ByteArray.size_extract]
        omega
theorem encTo_len2 {ds : List ByteArray} (h : ∀ x ∈ ds, x.size ≤ 250) (hl : ds.length ≤ 32768) : ∀ k, (encTo ds k).length ≤ 3 + 256 * k
  | 0 => by have := vint_len3 (n := ds.length) (by omega); simpa [encTo] using this
  | k + 1 => by
    have h1 := encTo_len2 h hl k
    have h2 := wordB_len2 h k
    simp only [encTo, List.length_append]
    omega
theorem chk_long {ds : List ByteArray} (h : chk ds = 0) : ¬ Long ds ∧ ds.length ≤ 32768 := by
  unfold chk at h
  split at h
  · cases h
  · split at h
    · cases h
    · rename_i h1 h2; exact ⟨h2, by omega⟩
/-- what Encode hands back -/
noncomputable def encR (ds : List ByteArray) : List Int := if chk ds = 0 then encB ds else []
theorem encR_ok {ds : List ByteArray} (h : chk ds = 0) : encR ds = encB ds := by unfold encR; rw [if_pos h]
theorem encR_no {ds : List ByteArray} (h : ¬ chk ds = 0) : encR ds = [] := by unfold encR; rw [if_neg h]
theorem encR_len (ds : List ByteArray) (hl : ds.length ≤ 8000) : (encR ds).length ≤ 17000000 := by
  by_cases h : chk ds = 0
  · rw [encR_ok h]; have := encTo_len (chk_long h).1 (chk_long h).2 ds.length; unfold encB; omega
  · rw [encR_no h]; simp
theorem encR_len2 {ds : List ByteArray} (h : ∀ x ∈ ds, x.size ≤ 250) (hl : ds.length ≤ 8000) : (encR ds).length ≤ 2100000 := by
  by_cases h2 : chk ds = 0
  · rw [encR_ok h2]; have := encTo_len2 h (by omega) ds.length; unfold encB; omega
  · rw [encR_no h2]; simp
def EncPost (w : World) (ds : List ByteArray) (e : Ending) (w' : World) : Prop :=
  ∃ v, e = .returned (.tuple #[v, .int .i64 (chk ds)]) ∧ Byts w.heap.size w' v (encR ds) ∧ w.grownBy w' none

end Go.Proofs.YtganfhmjklcchaaGreat

namespace Go.Proofs.YtganfhmjklcchaaGreat
open Go.RowKit
set_option linter.unusedVariables false
set_option linter.unusedSimpArgs false

set_option maxHeartbeats 2000000 in
set_option maxRecDepth 100000 in
theorem rencode_any {S : Nat → Prop} (A : Option Addr) (ds : List ByteArray) (c : Nat) (w : World) (h : Rd S w A (ds.map .string)) (hl : ds.length ≤ 8000) (hz8 : ∀ x ∈ ds, x.size ≤ 250) :
    Calls Tryz.prog 119 #[.slice A ds.length c] w (EncPost w ds) := by
  have H := Lib.hid h
  have HZ8 := Lib.hid hz8
  clear h hz8
  by_cases hk : chk ds = 0
  · have HK := Lib.hid hk
    have hq : (chk ds != 0) = false := by simp [hk]
    obtain ⟨hL, -⟩ := chk_long hk
    have HL := Lib.hid hL
    clear hk hL
    go_enter Tryz.func119, Tryz.ntmps119
    go_wp2_with fail
    refine (rcheck_any A ds c _ H.out (by omega)).mono ?_
    rintro e w1 ⟨rfl, n1, rfl⟩
    go_wp2_with fail
    refine (rvarint_any w.heap.size (.slice none 0 0) [] ds.length _ (Byts.nil _ _) (by simp) (by omega) (by exact Nat.le_refl _)).mono ?_
    rintro e w2 ⟨v2, rfl, hB2, hO2⟩
    have G2 : Hid (w.grownBy w2 none) := only_trans (only_drewN (only_refl _ _) n1) hO2.1
    have B2 := Lib.hid hB2
    clear hB2 hO2
    go_wp2_with fail
    go_loopw [5, 6] (fun v i wr => ∃ k : Nat, k ≤ ds.length ∧ i = .int .i64 k ∧ Byts w.heap.size wr v (encTo ds k) ∧ w.grownBy wr none) (fun _ i _ => ds.length - (intOf i).toNat)
    case atStart => exact ⟨0, Nat.zero_le _, rfl, by simpa [encTo] using B2.out, G2.out⟩
    case round =>
      obtain ⟨k, hk, rfl, hB, hG⟩ := hrel
      have HB := Lib.hid hB
      have HG := Lib.hid hG
      have hz := hG.size
      have hel := encTo_len2 HZ8.out (by omega) k
      clear hB hG B2 G2
      by_cases hlt : k < ds.length
      · obtain ⟨b, off, x, rfl, hc, hx⟩ := (H.out.grown HG.out (by simp)).str_at hlt
        have hxs : x.size ≤ 2048 := by
          rcases Nat.lt_or_ge 2048 x.size with h1 | h1
          · exact absurd ⟨x, List.mem_of_getElem? hx.out, h1⟩ HL.out
          · exact h1
        by_cases h16 : k % 16 = 0
        · have t1 : (((k : Int) % 16) != 0) = false := by simp; omega
          have HW := Lib.hid (wordB_0 hx.out h16)
          clear h16
          go_wp2_with fail
          refine (rvarint_any w.heap.size _ _ x.size _ HB.out (by omega) (by omega) hz).mono ?_
          rintro e w3 ⟨v3, rfl, hB3, hO3⟩
          have HB3 := Lib.hid hB3
          have G3 : Hid (w.grownBy w3 none) := HB.out.only hO3 HG.out (Nat.le_refl _)
          have hz3 := G3.out.size
          have hl3 := vint_len3 (n := x.size) (by omega)
          have hc3 := Rd.str_cell (H.out.grown G3.out (by simp)) hx.out
          clear hB3 hO3
          go_wp2_with (at_builtin; refine wpList_appendS rfl _ _ 22 9 rfl w.heap.size Tryz.underlying22 Tryz.underlying9 byteInfo (v := _) (by rfl) HB3.out x (by rfl) (by rw [List.length_append]; omega) hz3 ?_; intro v4 w4 hB4 hg4)
          have HB4 : Hid (Byts w.heap.size w4 v4 (encTo ds (k + 1))) := by
            show Byts w.heap.size w4 v4 (encTo ds k ++ wordB ds k)
            rw [HW.out, ← List.append_assoc]; exact hB4
          have G4 : Hid (w.grownBy w4 none) := only_own G3.out hg4 HB3.out (Nat.le_refl _)
          clear hB4 hg4
          go_wp2_with fail
          go_roundw
          case rel => exact ⟨k + 1, by omega, by go_num, HB4.out, G4.out⟩
          case measure => simp [intOf]; omega
        · obtain ⟨j, rfl⟩ : ∃ j, k = j + 1 := ⟨k - 1, by omega⟩
          obtain ⟨y, hcy, hy⟩ := (H.out.grown HG.out (by simp)).str_at' (k := j) (by omega)
          have hys : y.size ≤ 2048 := by
            rcases Nat.lt_or_ge 2048 y.size with h1 | h1
            · exact absurd ⟨y, List.mem_of_getElem? hy.out, h1⟩ HL.out
            · exact h1
          have HW := Lib.hid (wordB_1 hx.out (by simpa using hy.out) h16)
          have t1 : ((((j + 1 : Nat) : Int) % 16) != 0) = true := by simp; omega
          have t2 : ((((j : Nat) : Int) + 1) % 16 != 0) = true := by simp; omega
          have hcl := cm_le y x
          have HCC := Lib.hid (cm_comm x y)
          have hwk : IntKind.i64.wrap (j : Int) = (j : Int) := IntWalk.i64_in _ (by omega)
          have i1 : (j : Int) < (ds.length : Int) := by omega
          have i2 : (j : Int) + 1 < (ds.length : Int) := by omega
          have i3 : (0 : Int) ≤ (j : Int) := by omega
          have i4 : (0 : Int) ≤ (j : Int) + 1 := by omega
          have i5 : ((j : Int) + 1).toNat = j + 1 := by omega
          clear h16
          go_wp2_with fail
          go_quiet ((go_at_call 130; exact quiet_of0 (rcommon_any x y _ (by omega) (by omega))))
          rw [HCC.out]
          have hci : (cm y x : Int) ≤ (x.size : Int) := by omega
          have hcj : (0 : Int) ≤ (x.size : Int) - (cm y x : Int) := by omega
          clear hwk i5
          go_wp2_with fail
          refine (rvarint_any w.heap.size _ _ (cm y x) _ (HB.out.drewN _) (by omega) (by omega) (by exact hz)).mono ?_
          rintro e w4 ⟨v4, rfl, hB4, hO4⟩
          have HB4 := Lib.hid hB4
          have G4 : Hid (w.grownBy w4 none) := Byts.only (HB.out.drewN nq) hO4 (only_drewN HG.out nq) (Nat.le_refl _)
          have hz4 := G4.out.size
          have hl4 := vint_len3 (n := cm y x) (by omega)
          have hc4 := Rd.str_cell (H.out.grown G4.out (by simp)) hx.out
          clear hB4 hO4
          go_wp2_with fail
          rw [show ((x.size : Int) - (cm y x : Int)) = ((x.size - cm y x : Nat) : Int) from by omega]
          refine (rvarint_any w.heap.size _ _ (x.size - cm y x) _ HB4.out (by rw [List.length_append]; omega) (by omega) hz4).mono ?_
          rintro e w5 ⟨v5, rfl, hB5, hO5⟩
          have HB5 := Lib.hid hB5
          have G5 : Hid (w.grownBy w5 none) := Byts.only HB4.out hO5 G4.out (Nat.le_refl _)
          have hz5 := G5.out.size
          have hl5 := vint_len3 (n := x.size - cm y x) (by omega)
          have hc5 := Rd.str_cell (H.out.grown G5.out (by simp)) hx.out
          clear hB5 hO5
          go_wp2_with (at_builtin; refine wpList_appendS rfl _ _ 22 9 rfl w.heap.size Tryz.underlying22 Tryz.underlying9 byteInfo (v := _) (by rfl) HB5.out (x.extract (cm y x) x.size) (by rfl) (by rw [List.length_append, List.length_append, ByteArray.size_extract]; omega) hz5 ?_; intro v6 w6 hB6 hg6)
          have HB6 : Hid (Byts w.heap.size w6 v6 (encTo ds (j + 1 + 1))) := by
            show Byts w.heap.size w6 v6 (encTo ds (j + 1) ++ wordB ds (j + 1))
            rw [HW.out, ← List.append_assoc, ← List.append_assoc]; exact hB6
          have G6 : Hid (w.grownBy w6 none) := only_own G5.out hg6 HB5.out (Nat.le_refl _)
          clear hB6 hg6
          go_wp2_with fail
          go_roundw
          case rel => exact ⟨j + 1 + 1, by omega, by go_num, HB6.out, G6.out⟩
          case measure => simp [intOf]; omega
      · obtain rfl : k = ds.length := by omega
        go_wp2_with fail
        go_ret2
        exact ⟨_, by rw [HK.out]; rfl, by rw [encR_ok HK.out]; exact HB.out, HG.out⟩
  · have hq : (chk ds != 0) = true := by simp [hk]
    have HK := Lib.hid hk
    clear hk
    go_enter Tryz.func119, Tryz.ntmps119
    go_wp2_with fail
    refine (rcheck_any A ds c _ H.out (by omega)).mono ?_
    rintro e w1 ⟨rfl, n1, rfl⟩
    go_wp2_with fail
    go_ret2
    exact ⟨_, rfl, by rw [encR_no HK.out]; exact Byts.nil _ _, only_drewN (only_refl _ _) _⟩
end Go.Proofs.YtganfhmjklcchaaGreat

namespace Go.Proofs.YtganfhmjklcchaaGreat
open Go.RowKit
set_option linter.unusedVariables false
set_option linter.unusedSimpArgs false

theorem le_bl (x y : List UInt8) : (decide (x ≤ y) = true) ↔ Op.bytesLess y x = false := by
  rw [Go.Proofs.bytesLess_eq]; simp
def Up (d : Array (List UInt8)) : Prop := ∀ i j, i < j → j < d.size → Op.bytesLess d[j]! d[i]! = false
theorem bl_le_lt {x y z : List UInt8} (h1 : Op.bytesLess y x = false) (h2 : Op.bytesLess y z = true) : Op.bytesLess x z = true := by
  cases h : Op.bytesLess x y with
  | true => exact bl_trans _ _ _ h h2
  | false => rw [bl_tri _ _ h h1]; exact h2
theorem cu_succ (d : Array (List UInt8)) (m : Nat) : Lib.compactUpTo d (m + 1) = Lib.compactUpTo d m ++ (if Lib.keeps d m = true then [d[m]!] else []) := by
  unfold Lib.compactUpTo
  rw [List.range_succ, List.filter_append, List.map_append]
  congr 1
  by_cases h : Lib.keeps d m = true
  · simp [h]
  · simp [h]
theorem cu_all (d : Array (List UInt8)) (hu : Up d) : ∀ m, m ≤ d.size →
    (Lib.compactUpTo d m).Pairwise (fun a b => Op.bytesLess a b = true) ∧ (∀ x ∈ Lib.compactUpTo d m, ∃ j, j < m ∧ x = d[j]!) ∧ (∀ j, j < m → d[j]! ∈ Lib.compactUpTo d m)
  | 0, _ => ⟨by simp [Lib.compactUpTo], by simp [Lib.compactUpTo], fun j h => absurd h (by omega)⟩
  | m + 1, h => by
    obtain ⟨h1, h2, h3⟩ := cu_all d hu m (by omega)
    rw [cu_succ]
    by_cases hk : Lib.keeps d m = true
    · rw [if_pos hk]
      refine ⟨?_, ?_, ?_⟩
      · rw [List.pairwise_append]
        refine ⟨h1, List.pairwise_singleton _ _, fun a ha b hb => ?_⟩
        rw [List.mem_singleton.1 hb]
        obtain ⟨j, hj, rfl⟩ := h2 a ha
        have hm : 0 < m := by omega
        have hne : d[m]! ≠ d[m - 1]! := by
          unfold Lib.keeps at hk
          rcases of_decide_eq_true hk with e | e
          · omega
          · exact e
        have hlt : Op.bytesLess d[m - 1]! d[m]! = true := by
          cases hb : Op.bytesLess d[m - 1]! d[m]! with
          | true => rfl
          | false => exact absurd (bl_tri _ _ (hu (m - 1) m (by omega) (by omega)) hb) hne
        by_cases hjm : j = m - 1
        · rw [hjm]; exact hlt
        · exact bl_le_lt (hu j (m - 1) (by omega) (by omega)) hlt
      · intro x hx
        rcases List.mem_append.1 hx with hx | hx
        · obtain ⟨j, hj, e⟩ := h2 x hx; exact ⟨j, by omega, e⟩
        · exact ⟨m, by omega, List.mem_singleton.1 hx⟩
      · intro j hj
        rcases Nat.lt_or_ge j m with hlt | hge
        · exact List.mem_append_left _ (h3 j hlt)
        · rw [show j = m from by omega]; exact List.mem_append_right _ (List.mem_singleton.2 rfl)
    · rw [if_neg hk, List.append_nil]
      refine ⟨h1, fun x hx => ?_, fun j hj => ?_⟩
      · obtain ⟨j, hj, e⟩ := h2 x hx; exact ⟨j, by omega, e⟩
      · rcases Nat.lt_or_ge j m with hlt | hge
        · exact h3 j hlt
        · rw [show j = m from by omega]
          have hk' : ¬ (m = 0 ∨ d[m]! ≠ d[m - 1]!) := fun e => hk (by unfold Lib.keeps; exact decide_eq_true e)
          have e : d[m]! = d[m - 1]! := by
            by_cases e : d[m]! = d[m - 1]!
            · exact e
            · exact absurd (.inr e) hk'
          have hm : m ≠ 0 := fun e => hk' (.inl e)
          rw [e]; exact h3 (m - 1) (by omega)
def sorted (ss : List (List UInt8)) : List (List UInt8) := ss.mergeSort fun x y => decide (x ≤ y)
theorem sorted_up (ss : List (List UInt8)) : Up (sorted ss).toArray := fun i j hij hj => by
  have hp : (sorted ss).Pairwise (fun x y => decide (x ≤ y) = true) := List.pairwise_mergeSort (le := fun x y => decide (x ≤ y)) (fun a b c h1 h2 => by
    rw [le_bl] at *
    cases h : Op.bytesLess c a with
    | false => rfl
    | true =>
      have := bl_le_lt h2 h
      rw [h1] at this; cases this) (fun a b => by
    rw [Bool.or_eq_true, le_bl, le_bl]
    cases h : Op.bytesLess b a with
    | false => exact .inl rfl
    | true => exact .inr (bl_asymm _ _ h)) ss
  have hj' : j < (sorted ss).length := by simpa using hj
  have := List.pairwise_iff_getElem.1 hp i j (by omega) hj' hij
  rw [le_bl] at this
  rw [show (sorted ss).toArray[j]! = (sorted ss)[j] from by simp [hj'], show (sorted ss).toArray[i]! = (sorted ss)[i]'(by omega) from by simp [show i < (sorted ss).length by omega]]
  exact this
theorem sorted_mem (ss : List (List UInt8)) (x : List UInt8) : x ∈ sorted ss ↔ x ∈ ss := List.mem_mergeSort
theorem sorted_len (ss : List (List UInt8)) : (sorted ss).length = ss.length := List.length_mergeSort ss
def toB (l : List UInt8) : ByteArray := ⟨l.toArray⟩
def ofB (s : ByteArray) : List UInt8 := s.data.toList
theorem toB_ofB (s : ByteArray) : toB (ofB s) = s := by cases s; simp [toB, ofB]
theorem ofB_toB (l : List UInt8) : ofB (toB l) = l := by simp [toB, ofB]
/-- the distinct words in order -/
def dist (ws : List ByteArray) : List ByteArray := (Lib.compact (sorted (ws.map ofB))).map toB
theorem dist_srt (ws : List ByteArray) : Srt (dist ws) := by
  have h := (cu_all _ (sorted_up (ws.map ofB)) (sorted (ws.map ofB)).length (by simp)).1
  unfold Srt dist Lib.compact
  rw [List.pairwise_map]
  apply List.pairwise_iff_getElem.2
  intro i j hi hj hij
  have := List.pairwise_iff_getElem.1 h i j hi hj hij
  unfold sl
  rw [ByteArray.toList_eq, ByteArray.toList_eq]
  simpa [toB] using this
theorem dist_mem (ws : List ByteArray) (s : ByteArray) : s ∈ dist ws ↔ s ∈ ws := by
  have h := cu_all _ (sorted_up (ws.map ofB)) (sorted (ws.map ofB)).length (by simp)
  unfold dist Lib.compact
  constructor
  · intro hs
    obtain ⟨l, hl, rfl⟩ := List.mem_map.1 hs
    obtain ⟨j, hj, e⟩ := h.2.1 l hl
    have hm : l ∈ sorted (ws.map ofB) := by
      rw [e, show (sorted (ws.map ofB)).toArray[j]! = (sorted (ws.map ofB))[j] from by simp [hj]]
      exact List.getElem_mem hj
    rw [sorted_mem] at hm
    obtain ⟨t, ht, rfl⟩ := List.mem_map.1 hm
    rw [toB_ofB]; exact ht
  · intro hs
    have hm : ofB s ∈ sorted (ws.map ofB) := by rw [sorted_mem]; exact List.mem_map.2 ⟨s, hs, rfl⟩
    obtain ⟨j, hj, e⟩ := List.mem_iff_getElem.1 hm
    have := h.2.2 j hj
    rw [show (sorted (ws.map ofB)).toArray[j]! = (sorted (ws.map ofB))[j] from by simp [hj], e] at this
    exact List.mem_map.2 ⟨_, this, toB_ofB s⟩
theorem dist_len (ws : List ByteArray) : (dist ws).length ≤ ws.length := by
  have h := Lib.compact_length_le (sorted (ws.map ofB))
  rw [sorted_len, List.length_map] at h
  unfold dist
  rw [List.length_map]; exact h
end Go.Proofs.YtganfhmjklcchaaGreat
