/- One event of a row of events. No condition. -/
import Derived.Test.YtiogpomgpknjlaaJEv
import Derived.Test.YtiogpomgpknjlaaJBase
import Derived.Deep.RegionLaw
namespace Go.Proofs.Ytiogpomgpknjlaa
open Go.RowKit
set_option linter.unusedVariables false
set_option linter.unusedSimpArgs false

theorem ev_in {S : Nat → Prop} {w : World} {A : Option Addr} {es : List Ev} (h : Rd S w A (es.flatMap Ev.cells)) {i : Nat} {y : Ev} (hy : es[i]? = some y) :
    ∃ b off, A = some ⟨b, off, none⟩ ∧ b < w.heap.size ∧ w.cell? ⟨b, off + i * 10, none⟩ = some (.int .i64 y.host) ∧ w.cell? ⟨b, off + i * 10 + 1, none⟩ = some (.int .i64 y.file) ∧ w.cell? ⟨b, off + i * 10 + 2, none⟩ = some (.int .i64 y.beg) ∧
    w.cell? ⟨b, off + i * 10 + 3, none⟩ = some (.int .i64 y.fin) ∧ w.cell? ⟨b, off + i * 10 + 4, none⟩ = some (.slice y.la y.lines.length y.lc) ∧ w.cell? ⟨b, off + i * 10 + 5, none⟩ = some (.int .i64 y.time) ∧
    w.cell? ⟨b, off + i * 10 + 6, none⟩ = some (.int .i64 y.weight) ∧ w.cell? ⟨b, off + i * 10 + 7, none⟩ = some (.string y.trace) ∧ w.cell? ⟨b, off + i * 10 + 8, none⟩ = some (.string y.stream) ∧ w.cell? ⟨b, off + i * 10 + 9, none⟩ = some (.slice y.fa y.fields.length y.fc) := by
  obtain ⟨hi, hyi⟩ := List.getElem?_eq_some_iff.1 hy
  obtain ⟨b, off, rfl, _, hlt, _⟩ := h (by rw [flat_len _ 10 Ev.cells_len]; omega)
  exact ⟨b, off, rfl, hlt, Evs.load10 h hi hyi⟩
theorem box5 {W w' : World} {N : Nat} {a b : ByteArray} {x y : Int} {v : Value} {T : TypeId} (h : Blk W N T #[.int .i64 x, .string a, .string b, .int .i64 y, v]) (hg : W.grownBy w' none) :
    w'.cell? ⟨N, 0, none⟩ = some (.int .i64 x) ∧ w'.cell? ⟨N, 1, none⟩ = some (.string a) ∧ w'.cell? ⟨N, 2, none⟩ = some (.string b) ∧ w'.cell? ⟨N, 3, none⟩ = some (.int .i64 y) ∧ w'.cell? ⟨N, 4, none⟩ = some v := by
  have h := h.grown hg (by simp)
  exact ⟨h.cell 0, h.cell 1, h.cell 2, h.cell 3, h.cell 4⟩
end Go.Proofs.Ytiogpomgpknjlaa
namespace Go.Proofs.Ytiogpomgpknjlaa
open Go.RowKit
set_option linter.unusedVariables false
set_option linter.unusedSimpArgs false

theorem fld_in {S : Nat → Prop} {w : World} {fa : Option Addr} {xs : List FieldD} (h : Rd S w fa (xs.flatMap FieldD.cells)) {i : Nat} {y : FieldD} (hy : xs[i]? = some y) :
    ∃ b off, fa = some ⟨b, off, none⟩ ∧ b < w.heap.size ∧ w.cell? ⟨b, off + i * 2, none⟩ = some (.string y.name) ∧ w.cell? ⟨b, off + i * 2 + 1, none⟩ = some (.string y.value) := by
  obtain ⟨hi, hyi⟩ := List.getElem?_eq_some_iff.1 hy
  obtain ⟨b, off, rfl, _, hlt, hc⟩ := h (by rw [flat_len _ 2 FieldD.cells_len]; omega)
  have key : ∀ j, j < 2 → w.cell? ⟨b, off + i * 2 + j, none⟩ = y.cells[j]? := by
    intro j hj
    have h1 := flat_at FieldD.cells 2 FieldD.cells_len xs i j hi hj
    rw [hyi] at h1
    have hlt : j < y.cells.length := by rw [FieldD.cells_len]; exact hj
    rw [List.getElem?_eq_getElem hlt] at h1 ⊢
    rw [Nat.add_assoc]
    exact hc _ _ h1
  exact ⟨b, off, rfl, hlt, key 0 (by omega), key 1 (by omega)⟩
end Go.Proofs.Ytiogpomgpknjlaa

namespace Go.Proofs.Ytiogpomgpknjlaa
open Go.RowKit
set_option linter.unusedVariables false
set_option linter.unusedSimpArgs false

theorem intInfo : (Try.prog.info? 3).map (fun i => (i.zero, i.size, i.bytes)) = some (some (.int .i64 0), 1, 8) := by kernel_rfl
theorem own_ne {w : World} {b1 b2 e1 e2 s1 s2 n1 n2 : Nat} {v1 v2 : Value} {x1 x2 : List Value} (h1 : w.ownsRow b1 e1 s1 v1 n1 x1) (h2 : w.ownsRow b2 e2 s2 v2 n2 x2) (hne : e1 ≠ e2) : v1.ownBlock = none ∨ v1.ownBlock ≠ v2.ownBlock := by
  rcases h1.2 with ⟨rfl, _⟩ | ⟨g1, c1, cur1, rfl, _, hh1, _⟩
  · exact .inl rfl
  · right
    rcases h2.2 with ⟨rfl, _⟩ | ⟨g2, c2, cur2, rfl, _, hh2, _⟩
    · simp [Value.ownBlock]
    · simp only [Value.ownBlock]
      intro e
      injection e with e
      subst e
      rw [hh1] at hh2
      injection hh2 with hh2
      injection hh2 with _ ht
      exact hne ht
theorem own_new {w : World} {b1 e1 s1 n1 : Nat} {v1 v2 v2' : Value} {x1 : List Value} {k : Nat} (h1 : w.ownsRow b1 e1 s1 v1 n1 x1) (hne : v1.ownBlock = none ∨ v1.ownBlock ≠ v2.ownBlock) (hob : v2'.ownBlock = v2.ownBlock ∨ v2'.ownBlock = some k) (hk : w.heap.size ≤ k) : v1.ownBlock = none ∨ v1.ownBlock ≠ v2'.ownBlock := by
  rcases hne with h | h
  · exact .inl h
  · rcases hob with h' | h'
    · exact .inr (by rw [h']; exact h)
    · cases hv : v1.ownBlock with
      | none => exact .inl rfl
      | some j => exact .inr (by rw [h']; intro e; injection e with e; have := (h1.lt j hv).2; omega)

/-- two ascending lists in one -/
def un : List ByteArray → List ByteArray → List ByteArray
  | [], vs => vs
  | us, [] => us
  | a :: us, b :: vs => if sl a b then a :: un us (b :: vs) else if sl b a then b :: un (a :: us) vs else a :: un us vs
termination_by us vs => us.length + vs.length
theorem un_nil (us : List ByteArray) : un us [] = us := by cases us <;> simp [un]
theorem un_a {a b : List ByteArray} {i k : Nat} {x : ByteArray} (hx : a[i]? = some x) (h : b.drop k = [] ∨ ∃ y, b[k]? = some y ∧ sl x y = true) : un (a.drop i) (b.drop k) = x :: un (a.drop (i + 1)) (b.drop k) := by
  obtain ⟨hi, hx'⟩ := List.getElem?_eq_some_iff.1 hx
  have e1 : a.drop i = x :: a.drop (i + 1) := by rw [List.drop_eq_getElem_cons hi, hx']
  rw [e1]
  rcases h with h | ⟨y, hy, hs⟩
  · rw [h]; rw [un_nil, un_nil]
  · obtain ⟨hk, hy'⟩ := List.getElem?_eq_some_iff.1 hy
    have e2 : b.drop k = y :: b.drop (k + 1) := by rw [List.drop_eq_getElem_cons hk, hy']
    rw [e2]; simp [un, hs]
theorem un_b {a b : List ByteArray} {i k : Nat} {y : ByteArray} (hy : b[k]? = some y) (h : a.drop i = [] ∨ ∃ x, a[i]? = some x ∧ sl x y = false ∧ sl y x = true) : un (a.drop i) (b.drop k) = y :: un (a.drop i) (b.drop (k + 1)) := by
  obtain ⟨hk, hy'⟩ := List.getElem?_eq_some_iff.1 hy
  have e2 : b.drop k = y :: b.drop (k + 1) := by rw [List.drop_eq_getElem_cons hk, hy']
  rw [e2]
  rcases h with h | ⟨x, hx, hs1, hs2⟩
  · rw [h]; simp [un]
  · obtain ⟨hi, hx'⟩ := List.getElem?_eq_some_iff.1 hx
    have e1 : a.drop i = x :: a.drop (i + 1) := by rw [List.drop_eq_getElem_cons hi, hx']
    rw [e1]; simp [un, hs1, hs2]
theorem un_ab {a b : List ByteArray} {i k : Nat} {x y : ByteArray} (hx : a[i]? = some x) (hy : b[k]? = some y) (h1 : sl x y = false) (h2 : sl y x = false) : un (a.drop i) (b.drop k) = x :: un (a.drop (i + 1)) (b.drop (k + 1)) := by
  obtain ⟨hi, hx'⟩ := List.getElem?_eq_some_iff.1 hx
  obtain ⟨hk, hy'⟩ := List.getElem?_eq_some_iff.1 hy
  have e1 : a.drop i = x :: a.drop (i + 1) := by rw [List.drop_eq_getElem_cons hi, hx']
  have e2 : b.drop k = y :: b.drop (k + 1) := by rw [List.drop_eq_getElem_cons hk, hy']
  rw [e1, e2]; simp [un, h1, h2]
theorem un_len (us vs : List ByteArray) : (un us vs).length ≤ us.length + vs.length := by
  fun_induction un us vs with
  | case1 => simp
  | case2 => simp
  | case3 a us b vs h ih => simp at *; omega
  | case4 a us b vs h1 h2 ih => simp at *; omega
  | case5 a us b vs h1 h2 ih => simp at *; omega
def Srt (l : List ByteArray) : Prop := l.Pairwise (fun a b => sl a b = true)
theorem un_mem (us vs : List ByteArray) : ∀ x, x ∈ un us vs ↔ x ∈ us ∨ x ∈ vs := by
  fun_induction un us vs with
  | case1 => simp
  | case2 => simp
  | case3 a us b vs h ih => intro x; simp [ih x, or_assoc]
  | case4 a us b vs h1 h2 ih =>
    intro x; simp only [List.mem_cons, ih x]
    constructor
    · rintro (h | (h | h) | h) <;> simp [h]
    · rintro ((h | h) | (h | h)) <;> simp [h]
  | case5 a us b vs h1 h2 ih =>
    intro x
    have hab : a = b := sl_tri (by simpa using h1) (by simpa using h2)
    simp only [List.mem_cons, ih x, hab]
    constructor
    · rintro (h | h | h) <;> simp [h]
    · rintro ((h | h) | (h | h)) <;> simp [h]
theorem un_srt (us vs : List ByteArray) (ha : Srt us) (hb : Srt vs) : Srt (un us vs) := by
  fun_induction un us vs with
  | case1 => exact hb
  | case2 => exact ha
  | case3 a us b vs h ih =>
    unfold Srt at *
    rw [List.pairwise_cons] at ha ⊢
    refine ⟨fun x hx => ?_, ih ha.2 hb⟩
    rcases (un_mem _ _ x).1 hx with h' | h'
    · exact ha.1 x h'
    · rw [List.pairwise_cons] at hb
      rcases List.mem_cons.1 h' with rfl | h'
      · exact h
      · exact sl_trans h (hb.1 x h')
  | case4 a us b vs h1 h2 ih =>
    unfold Srt at *
    rw [List.pairwise_cons] at hb ⊢
    refine ⟨fun x hx => ?_, ih ha hb.2⟩
    rcases (un_mem _ _ x).1 hx with h' | h'
    · rw [List.pairwise_cons] at ha
      rcases List.mem_cons.1 h' with rfl | h'
      · exact h2
      · exact sl_trans h2 (ha.1 x h')
    · exact hb.1 x h'
  | case5 a us b vs h1 h2 ih =>
    have hab : a = b := sl_tri (by simpa using h1) (by simpa using h2)
    subst hab
    unfold Srt at *
    rw [List.pairwise_cons] at ha hb ⊢
    refine ⟨fun x hx => ?_, ih ha.2 hb.2⟩
    rcases (un_mem _ _ x).1 hx with h' | h'
    · exact ha.1 x h'
    · exact hb.1 x h'

def UnRel (w : World) (a b : List ByteArray) (i k : Nat) (o x y : Value) (zs : List ByteArray) (xs ys : List Int) (wr : World) : Prop :=
  wr.ownsRow w.heap.size 9 1 o zs.length (zs.map .string) ∧ wr.ownsRow w.heap.size 3 1 x xs.length (xs.map (.int .i64)) ∧ wr.ownsRow w.heap.size 3 1 y ys.length (ys.map (.int .i64)) ∧
  (x.ownBlock = none ∨ x.ownBlock ≠ y.ownBlock) ∧ (y.ownBlock = none ∨ y.ownBlock ≠ x.ownBlock) ∧ zs ++ un (a.drop i) (b.drop k) = un a b ∧ zs.length ≤ i + k ∧ xs.length ≤ i ∧ ys.length ≤ k ∧ w.grownBy wr none
theorem own_snoc_str {w : World} {base e : Nat} {v : Value} {vs : List ByteArray} {x : ByteArray} (h : w.ownsRow base e 1 v (vs.length + 1) (vs.map .string ++ #[Value.string x].toList)) :
    w.ownsRow base e 1 v (vs ++ [x]).length ((vs ++ [x]).map .string) := by simpa using h
section
variable {w wr w1 w2 : World} {a b : List ByteArray} {i k : Nat} {o x y v : Value} {zs : List ByteArray} {xs ys : List Int}
def Six (w : World) (o x y : Value) (zs : List ByteArray) (xs ys : List Int) (wr : World) : Prop :=
  wr.ownsRow w.heap.size 9 1 o zs.length (zs.map .string) ∧ wr.ownsRow w.heap.size 3 1 x xs.length (xs.map (.int .i64)) ∧ wr.ownsRow w.heap.size 3 1 y ys.length (ys.map (.int .i64)) ∧
  (x.ownBlock = none ∨ x.ownBlock ≠ y.ownBlock) ∧ (y.ownBlock = none ∨ y.ownBlock ≠ x.ownBlock) ∧ w.grownBy wr none
theorem UnRel.six (h : UnRel w a b i k o x y zs xs ys wr) : Six w o x y zs xs ys wr := ⟨h.1, h.2.1, h.2.2.1, h.2.2.2.1, h.2.2.2.2.1, h.2.2.2.2.2.2.2.2.2⟩
theorem UnRel.drewN (h : UnRel w a b i k o x y zs xs ys wr) (n : Nat) : UnRel w a b i k o x y zs xs ys (wr.drewN n) := by
  obtain ⟨h1, h2, h3, h4, h5, h6, h7, h8, h9, h10⟩ := h
  exact ⟨h1, h2, h3, h4, h5, h6, h7, h8, h9, only_drewN h10 n⟩
theorem un_seto {z : ByteArray} {i' k' : Nat} (h : w1.ownsRow w.heap.size 9 1 o zs.length (zs.map .string) ∧ w1.ownsRow w.heap.size 3 1 x xs.length (xs.map (.int .i64)) ∧ w1.ownsRow w.heap.size 3 1 y ys.length (ys.map (.int .i64)) ∧
      (x.ownBlock = none ∨ x.ownBlock ≠ y.ownBlock) ∧ (y.ownBlock = none ∨ y.ownBlock ≠ x.ownBlock) ∧ w.grownBy w1 none)
    (hv : w2.ownsRow w.heap.size 9 1 v (zs.length + 1) (zs.map .string ++ #[Value.string z].toList)) (hg : w1.grownBy w2 o.ownBlock) (heq : zs ++ z :: un (a.drop i') (b.drop k') = un a b) (h1 : zs.length + 1 ≤ i' + k') (h2 : xs.length ≤ i') (h3 : ys.length ≤ k') : UnRel w a b i' k' v x y (zs ++ [z]) xs ys w2 := by
  obtain ⟨s1, s2, s3, s4, s5, s6⟩ := h
  exact ⟨own_snoc_str hv, s2.kept hg (own_ne s2 s1 (by decide)), s3.kept hg (own_ne s3 s1 (by decide)), s4, s5, by rw [← heq]; simp, by simp; omega, h2, h3, only_own s6 hg s1 (Nat.le_refl _)⟩
/-- behind an append to the first row of indexes -/
theorem Six.setx (h : Six w o x y zs xs ys wr) {n : Int} (hx : w1.ownsRow w.heap.size 3 1 v (xs.length + 1) (xs.map (.int .i64) ++ #[Value.int .i64 n].toList)) (hg : wr.grownBy w1 x.ownBlock) (hob : v.ownBlock = x.ownBlock ∨ v.ownBlock = some (wr.heap.size + 1)) :
    w1.ownsRow w.heap.size 9 1 o zs.length (zs.map .string) ∧ w1.ownsRow w.heap.size 3 1 v (xs ++ [n]).length ((xs ++ [n]).map (.int .i64)) ∧ w1.ownsRow w.heap.size 3 1 y ys.length (ys.map (.int .i64)) ∧
    (v.ownBlock = none ∨ v.ownBlock ≠ y.ownBlock) ∧ (y.ownBlock = none ∨ y.ownBlock ≠ v.ownBlock) ∧ w.grownBy w1 none := by
  obtain ⟨h1, h2, h3, h4, h5, h9⟩ := h
  have hy : y.ownBlock = none ∨ y.ownBlock ≠ v.ownBlock := own_new h3 h5 hob (by omega)
  refine ⟨h1.kept hg (own_ne h1 h2 (by decide)), own_snoc_int hx, h3.kept hg h5, ?_, hy, only_own h9 hg h2 (Nat.le_refl _)⟩
  rcases hy with e | e
  · cases hv : v.ownBlock with
    | none => exact .inl rfl
    | some _ => exact .inr (by rw [e]; simp)
  · exact .inr (fun e' => e e'.symm)
theorem Six.sety (h : Six w o x y zs xs ys wr) {n : Int} (hx : w1.ownsRow w.heap.size 3 1 v (ys.length + 1) (ys.map (.int .i64) ++ #[Value.int .i64 n].toList)) (hg : wr.grownBy w1 y.ownBlock) (hob : v.ownBlock = y.ownBlock ∨ v.ownBlock = some (wr.heap.size + 1)) :
    w1.ownsRow w.heap.size 9 1 o zs.length (zs.map .string) ∧ w1.ownsRow w.heap.size 3 1 x xs.length (xs.map (.int .i64)) ∧ w1.ownsRow w.heap.size 3 1 v (ys ++ [n]).length ((ys ++ [n]).map (.int .i64)) ∧
    (x.ownBlock = none ∨ x.ownBlock ≠ v.ownBlock) ∧ (v.ownBlock = none ∨ v.ownBlock ≠ x.ownBlock) ∧ w.grownBy w1 none := by
  obtain ⟨h1, h2, h3, h4, h5, h9⟩ := h
  have hy : x.ownBlock = none ∨ x.ownBlock ≠ v.ownBlock := own_new h2 h4 hob (by omega)
  refine ⟨h1.kept hg (own_ne h1 h3 (by decide)), h2.kept hg h4, own_snoc_int hx, hy, ?_, only_own h9 hg h3 (Nat.le_refl _)⟩
  rcases hy with e | e
  · cases hv : v.ownBlock with
    | none => exact .inl rfl
    | some _ => exact .inr (by rw [e]; simp)
  · exact .inr (fun e' => e e'.symm)
end
theorem Rd.str_cell {S : Nat → Prop} {w : World} {b off k : Nat} {vs : List ByteArray} {x : ByteArray} (h : Rd S w (some ⟨b, off, none⟩) (vs.map .string)) (hx : vs[k]? = some x) : w.cell? ⟨b, off + k, none⟩ = some (.string x) := by
  obtain ⟨hk, hx'⟩ := List.getElem?_eq_some_iff.1 hx
  obtain ⟨y, hy, he⟩ := h.str_at' hk
  rw [hy]
  have := he.out
  rw [hx] at this
  injection this with this
  rw [this]
def UnPost (w : World) (a b : List ByteArray) (e : Ending) (w' : World) : Prop :=
  ∃ (A : Option Addr) (c : Nat) (x y : Value), e = .returned (.tuple #[.slice A (un a b).length c, x, y]) ∧ (un a b).length ≤ c ∧ c ≤ maxLen ∧ Rd (w.heap.size ≤ ·) w' A ((un a b).map .string) ∧ w.grownBy w' none

theorem rd_own {w : World} {b e s n c : Nat} {A : Option Addr} {xs : List Value} (h : w.ownsRow b e s (.slice A n c) n xs) (hs : 0 < s) : Rd (b ≤ ·) w A xs := by
  obtain ⟨A', c', e', _, _, _, hr⟩ := Rd.of_own h hs
  injection e' with e1 e2 e3
  rw [e1]; exact hr

def UnOwn (w : World) (a b : List ByteArray) (e : Ending) (w' : World) : Prop :=
  ∃ (A : Option Addr) (c : Nat) (x y : Value), e = .returned (.tuple #[.slice A (un a b).length c, x, y]) ∧ (un a b).length ≤ c ∧ c ≤ maxLen ∧ w'.ownsRow w.heap.size 9 1 (.slice A (un a b).length c) (un a b).length ((un a b).map .string) ∧ w.grownBy w' none
theorem srt_ext : ∀ {xs ys : List ByteArray}, Srt xs → Srt ys → (∀ s, s ∈ xs ↔ s ∈ ys) → xs = ys
  | [], [], _, _, _ => rfl
  | [], y :: ys, _, _, h => absurd ((h y).2 (List.mem_cons_self ..)) (by simp)
  | x :: xs, [], _, _, h => absurd ((h x).1 (List.mem_cons_self ..)) (by simp)
  | x :: xs, y :: ys, hx, hy, h => by
    unfold Srt at hx hy
    rw [List.pairwise_cons] at hx hy
    have hxy : x = y := by
      rcases List.mem_cons.1 ((h x).1 (List.mem_cons_self ..)) with e | e
      · exact e
      · rcases List.mem_cons.1 ((h y).2 (List.mem_cons_self ..)) with e' | e'
        · exact e'.symm
        · have h1 := hy.1 x e
          have h2 := hx.1 y e'
          rw [sl_asymm h1] at h2
          cases h2
    subst hxy
    rw [srt_ext hx.2 hy.2 (fun s => ?_)]
    constructor
    · intro hs
      rcases List.mem_cons.1 ((h s).1 (List.mem_cons_of_mem _ hs)) with e | e
      · subst e; have := hx.1 s hs; rw [sl_irrefl] at this; cases this
      · exact e
    · intro hs
      rcases List.mem_cons.1 ((h s).2 (List.mem_cons_of_mem _ hs)) with e | e
      · subst e; have := hy.1 s hs; rw [sl_irrefl] at this; cases this
      · exact e
end Go.Proofs.Ytiogpomgpknjlaa

namespace Go.Proofs.Ytiogpomgpknjlaa
open Go.RowKit
set_option linter.unusedVariables false
set_option linter.unusedSimpArgs false

theorem blk_norow {w : World} {g t e z n base : Nat} {cs : Array Value} {v : Value} {xs : List Value} (hB : Blk w g t cs) (h : w.ownsRow base e z v n xs) (hte : t ≠ e) : v.ownBlock ≠ some g := by
  rcases h.2 with ⟨rfl, _⟩ | ⟨g', cap, cur, rfl, _, hh, _⟩
  · simp [Value.ownBlock]
  · intro e1
    have e2 : g' = g := by simpa [Value.ownBlock] using e1
    subst e2
    unfold Blk at hB
    rw [hB] at hh
    injection hh with hh
    injection hh with _ h2 _
    exact hte h2
theorem own_off {w w' : World} {base e z n g : Nat} {v : Value} {xs : List Value} (h : w.ownsRow base e z v n xs) (hg : w.grownBy w' (some g)) (hne : v.ownBlock ≠ some g) : w'.ownsRow base e z v n xs := h.kept hg (.inr hne)
theorem own_putk {w : World} {base e size g n c k : Nat} {xs : List Value} {u : Value} (h : w.ownsRow base e size (.slice (some ⟨g, 0, none⟩) n c) n xs) (hk : k < n * size) : (w.setCell ⟨g, k, none⟩ u).ownsRow base e size (.slice (some ⟨g, 0, none⟩) n c) n (xs.set k u) := by
  obtain ⟨hl, h2⟩ := h
  refine ⟨by simpa using hl, ?_⟩
  rcases h2 with ⟨h3, _⟩ | ⟨g', cap, cur, h3, h4, h5, h6, h7, h8, h9⟩
  · cases h3
  · injection h3 with e1 e2 e3
    injection e1 with e1
    injection e1 with e1
    subst e1 e3
    refine .inr ⟨g, c, cur.setIfInBounds k u, rfl, h4, ?_, h6, h7, by simpa using h8, ?_⟩
    · simp [World.setCell, Array.getElem?_modify, h5]
    · rw [Array.toList_setIfInBounds, List.take_set, h9]
end Go.Proofs.Ytiogpomgpknjlaa
