/- What the draw of batches keeps from round to round. No condition. -/
import Derived.Test.YtiogpomgpknjlaaJTog42
import Derived.Test.YtiogpomgpknjlaaJEvIn
namespace Go.Proofs.Ytiogpomgpknjlaa
open Go.RowKit
set_option linter.unusedVariables false
set_option linter.unusedSimpArgs false

structure BatD where
  host : Int
  num : Int
  items : List It
  a : Option Addr
  c : Nat
def BatD.cells (b : BatD) : List Value := [.int .i64 b.host, .int .i64 b.num, .slice b.a b.items.length b.c]
theorem BatD.cells_len (b : BatD) : b.cells.length = 3 := rfl
theorem BatD.one (b : BatD) : ∀ u ∈ b.cells, u.oneCell' = true := by simp [BatD.cells, Value.oneCell']
theorem batInfo : (Try.prog.info? 56).map (fun i => (i.zero, i.size, i.bytes)) = some (some (.agg #[.int .i64 0, .int .i64 0, .slice none 0 0]), 3, 40) := by kernel_rfl
theorem intInfoB : (Try.prog.info? 3).map (fun i => (i.zero, i.size, i.bytes)) = some (some (.int .i64 0), 1, 8) := by kernel_rfl
/-- what the rounds of the outer loop keep; M: all that the batches hold lies below it -/
structure BaO (w : World) (g ab M : Nat) (l : List Int) (host : Int) (A : Option Addr) (fs : List Fl) (k n : Nat) (v : Value) (bs : List BatD) (ats : List Nat) (wr : World) : Prop where
  fr : w.grownBy wr (some g)
  gl : g < w.heap.size
  gb : w.heap.size ≤ ab
  aM : ab < M
  ms : M ≤ wr.heap.size
  cd : CodesAt wr g l k
  ak : Blk wr ab 3 ((ats.map (fun a : Nat => Value.int .i64 a)).toArray)
  al : ats.length = fs.length
  av : ∀ (i a : Nat) (f : Fl), ats[i]? = some a → fs[i]? = some f → a ≤ f.items.length
  rf : Rd (fun b => w.heap.size ≤ b ∧ b < ab) wr A (fs.map Fl.cell)
  fo : FlsOk (fun b => w.heap.size ≤ b ∧ b < ab) wr host 5 fs
  vl : ∀ q, v.ownBlock = some q → q < M
  own : wr.ownsRow (ab + 1) 56 3 v bs.length (bs.flatMap BatD.cells)
  bl : bs.length ≤ n
  bi : ∀ b ∈ bs, b.host = host ∧ b.items.length ≤ 3 ∧ Its (fun q => w.heap.size ≤ q ∧ q ≠ ab ∧ v.ownBlock ≠ some q ∧ q < M) wr host b.a b.items
section
variable {w wr w' : World} {g ab M : Nat} {l : List Int} {host : Int} {A : Option Addr} {fs : List Fl} {k n : Nat} {v : Value} {bs : List BatD} {ats : List Nat}
theorem BaO.grown (h : BaO w g ab M l host A fs k n v bs ats wr) {row : Option Nat} (hg : wr.grownBy w' row) (hr : ∀ q, row = some q → M ≤ q) : BaO w g ab M l host A fs k n v bs ats w' := by
  have h1 := h.gl
  have h2 := h.gb
  have h3 := h.aM
  have hne : ∀ q, q < M → some q ≠ row := fun q hq e => by have := hr q e.symm; omega
  refine { h with fr := ?_, ms := Nat.le_trans h.ms hg.size, cd := h.cd.grown hg (fun b hb => hne b (by omega)), ak := h.ak.grown hg (hne ab h3), rf := h.rf.grown hg (fun b hb => hne b (by omega)), fo := h.fo.grown hg (fun b hb => hne b (by omega)), own := h.own.kept hg ?_, bi := fun b hb => ⟨(h.bi b hb).1, (h.bi b hb).2.1, (h.bi b hb).2.2.grown hg (fun q hq => hne q hq.2.2.2)⟩ }
  · cases row with
    | none => exact only_trans h.fr (only_of_none hg _)
    | some q => exact only_fresh h.fr hg (by have := hr q rfl; omega)
  · cases hv : v.ownBlock with
    | none => exact .inl rfl
    | some q => exact .inr (hne q (h.vl q hv))
theorem BaO.next (h : BaO w g ab M l host A fs k n v bs ats wr) (hg : wr.grownBy w' (some g)) {k' : Nat} (hc : CodesAt w' g l k') : BaO w g ab M l host A fs k' n v bs ats w' := by
  have h1 := h.gl
  have h2 := h.gb
  have hne : ∀ q, w.heap.size ≤ q → some q ≠ some g := fun q hq e => by injection e; omega
  exact { h with fr := only_trans h.fr hg, ms := Nat.le_trans h.ms hg.size, cd := hc, ak := h.ak.grown hg (hne ab h2), rf := h.rf.grown hg (fun b hb => hne b (by omega)), fo := h.fo.grown hg (fun b hb => hne b (by omega)), own := own_only h.own hg (by omega), bi := fun b hb => ⟨(h.bi b hb).1, (h.bi b hb).2.1, (h.bi b hb).2.2.grown hg (fun q hq => hne q hq.1)⟩ }
theorem BaO.rise (h : BaO w g ab M l host A fs k n v bs ats wr) : BaO w g ab wr.heap.size l host A fs k n v bs ats wr :=
  { h with aM := Nat.lt_of_lt_of_le h.aM h.ms, ms := Nat.le_refl _, vl := fun q hq => Nat.lt_of_lt_of_le (h.vl q hq) h.ms, bi := fun b hb => ⟨(h.bi b hb).1, (h.bi b hb).2.1, (h.bi b hb).2.2.mono (fun q hq hl => ⟨hq.1, hq.2.1, hq.2.2.1, hl⟩)⟩ }
theorem BaO.wide (h : BaO w g ab M l host A fs k n v bs ats wr) {n' : Nat} (hn : n ≤ n') : BaO w g ab M l host A fs k n' v bs ats wr := { h with bl := Nat.le_trans h.bl hn }
theorem BaO.vab (h : BaO w g ab M l host A fs k n v bs ats wr) : v.ownBlock ≠ some ab := fun e => by have := (h.own.lt ab e).1; omega
/-- at[i] is raised -/
theorem BaO.up (h : BaO w g ab M l host A fs k n v bs ats wr) {i a : Nat} {f : Fl} (hf : fs[i]? = some f) (ha : ats[i]? = some a) (hl : a < f.items.length) :
    BaO w g ab M l host A fs k n v bs (ats.set i (a + 1)) (wr.setCell ⟨ab, i, none⟩ (.int .i64 ((a : Int) + 1))) := by
  have hg : wr.grownBy (wr.setCell ⟨ab, i, none⟩ (.int .i64 ((a : Int) + 1))) (some ab) := only_setCell (only_refl _ _) (p := ⟨ab, i, none⟩) (.inl rfl) _
  have h1 := h.gl
  have h2 := h.gb
  have h3 := h.aM
  have hne : ∀ q, q ≠ ab → some q ≠ some ab := fun q hq e => hq (by injection e)
  refine { h with fr := only_fresh h.fr hg h2, ms := Nat.le_trans h.ms hg.size, cd := h.cd.grown hg (fun b hb => hne b (by omega)), ak := ?_, al := by simp [h.al], av := ?_, rf := h.rf.grown hg (fun b hb => hne b (by omega)), fo := h.fo.grown hg (fun b hb => hne b (by omega)), own := h.own.kept hg (.inr h.vab), bi := fun b hb => ⟨(h.bi b hb).1, (h.bi b hb).2.1, (h.bi b hb).2.2.grown hg (fun q hq => hne q hq.2.1)⟩ }
  · have := h.ak.set_ i (.int .i64 ((a : Int) + 1))
    rw [List.map_set]
    simpa using this
  · intro j b f' hb hf'
    by_cases e : i = j
    · subst e
      have hlt : i < ats.length := (List.getElem?_eq_some_iff.1 ha).1
      rw [List.getElem?_set_self hlt] at hb
      injection hb with hb
      rw [hf] at hf'
      injection hf' with hf'
      subst hf' hb
      omega
    · rw [List.getElem?_set_ne e] at hb
      exact h.av j b f' hb hf'
/-- one more batch -/
theorem BaO.app (h : BaO w g ab M l host A fs k n v bs ats wr) {b : BatD} (hb : b.host = host ∧ b.items.length ≤ 3 ∧ Its (fun q => w.heap.size ≤ q ∧ q ≠ ab ∧ v.ownBlock ≠ some q) wr host b.a b.items) {v' : Value}
    (ho : w'.ownsRow (ab + 1) 56 3 v' (bs.length + 1) (bs.flatMap BatD.cells ++ b.cells)) (hg : wr.grownBy w' v.ownBlock) (hob : v'.ownBlock = v.ownBlock ∨ v'.ownBlock = some (wr.heap.size + 1)) :
    BaO w g ab w'.heap.size l host A fs k (n + 1) v' (bs ++ [b]) ats w' := by
  have h1 := h.gl
  have h2 := h.gb
  have h3 := h.aM
  have h4 := hg.size
  have h5 := h.ms
  have hv : ∀ q, q ≤ ab → some q ≠ v.ownBlock := fun q hq e => by have := (h.own.lt q e.symm).1; omega
  have hq : ∀ q, (w.heap.size ≤ q ∧ q ≠ ab ∧ v.ownBlock ≠ some q) ∧ q < wr.heap.size → w.heap.size ≤ q ∧ q ≠ ab ∧ v'.ownBlock ≠ some q := fun q hq => ⟨hq.1.1, hq.1.2.1, fun e => by
    rcases hob with h | h
    · exact hq.1.2.2 (by rw [← h]; exact e)
    · rw [h] at e; injection e with e; have := hq.2; omega⟩
  have hit : ∀ b : BatD, Its (fun q => w.heap.size ≤ q ∧ q ≠ ab ∧ v.ownBlock ≠ some q) wr host b.a b.items → Its (fun q => w.heap.size ≤ q ∧ q ≠ ab ∧ v'.ownBlock ≠ some q ∧ q < w'.heap.size) w' host b.a b.items := fun b hb =>
    ((hb.mono (S' := fun q => (w.heap.size ≤ q ∧ q ≠ ab ∧ v.ownBlock ≠ some q) ∧ q < wr.heap.size) (fun q hq hl => ⟨hq, hl⟩)).grown hg (fun q hq e => hq.1.2.2 e.symm)).mono (fun q hq' hl => ⟨(hq q hq').1, (hq q hq').2.1, (hq q hq').2.2, hl⟩)
  refine { h with fr := only_own h.fr hg h.own (by omega), aM := by omega, ms := Nat.le_refl _, cd := h.cd.grown hg (fun b hb => hv b (by omega)), ak := h.ak.grown hg (hv ab (Nat.le_refl _)), rf := h.rf.grown hg (fun b hb => hv b (by omega)), fo := h.fo.grown hg (fun b hb => hv b (by omega)), vl := fun q hq => (ho.lt q hq).2, own := by simpa using ho, bl := by have := h.bl; simp; omega, bi := ?_ }
  refine mem_snoc (fun b' hb' => ⟨(h.bi b' hb').1, (h.bi b' hb').2.1, hit b' ((h.bi b' hb').2.2.mono (fun q hq _ => ⟨hq.1, hq.2.1, hq.2.2.1⟩))⟩) ⟨hb.1, hb.2.1, hit b hb.2.2⟩
end
section
variable {w wr w' : World} {g ab M : Nat} {l : List Int} {host : Int} {A : Option Addr} {fs : List Fl} {k n : Nat} {v : Value} {bs : List BatD} {ats : List Nat}
theorem BaO.cellF {b0 o0 : Nat} (h : BaO w g ab M l host (some ⟨b0, o0, none⟩) fs k n v bs ats wr) {i : Nat} {f : Fl} (hf : fs[i]? = some f) : wr.cell? ⟨b0, o0 + i, none⟩ = some (.slice f.a f.items.length f.c) := by
  obtain ⟨hi, -⟩ := List.getElem?_eq_some_iff.1 hf
  obtain ⟨b, o, e, -, -, hc⟩ := h.rf (by simp; omega)
  injection e with e
  injection e with e1 e2
  subst e1 e2
  exact hc i _ (by rw [List.getElem?_map, hf]; rfl)
theorem BaO.fileLt {b0 o0 : Nat} (h : BaO w g ab M l host (some ⟨b0, o0, none⟩) fs k n v bs ats wr) (hn : 0 < fs.length) : b0 < wr.heap.size := by
  obtain ⟨b, o, e, -, hl, -⟩ := h.rf (by simp; omega)
  injection e with e
  injection e with e1 e2
  subst e1
  exact hl
theorem BaO.cellA (h : BaO w g ab M l host A fs k n v bs ats wr) {i a : Nat} (ha : ats[i]? = some a) : wr.cell? ⟨ab, i, none⟩ = some (.int .i64 (a : Int)) := by
  rw [h.ak.cell i]
  simp [ha]
theorem BaO.atF (h : BaO w g ab M l host A fs k n v bs ats wr) {i : Nat} {f : Fl} (hf : fs[i]? = some f) : ∃ a, ats[i]? = some a ∧ a ≤ f.items.length := by
  obtain ⟨hi, -⟩ := List.getElem?_eq_some_iff.1 hf
  have hi' : i < ats.length := by rw [h.al]; exact hi
  exact ⟨ats[i], List.getElem?_eq_getElem hi', h.av i _ f (List.getElem?_eq_getElem hi') hf⟩
/-- an item of a file: good, at most three lines -/
theorem BaO.good (h : BaO w g ab M l host A fs k n v bs ats wr) (h0 : 0 ≤ host ∧ host ≤ 999) (hl : fs.length ≤ 3) {i j : Nat} {f : Fl} {x : It} (hf : fs[i]? = some f) (hx : f.items[j]? = some x) : ItG host x ∧ x.ev.lines.length ≤ 3 := by
  obtain ⟨hi, -⟩ := List.getElem?_eq_some_iff.1 hf
  obtain ⟨-, -, -, h4, ⟨b, h5⟩, -⟩ := h.fo i f hf
  exact h5.g h4 (by omega) h0 (by omega) hx
theorem BaO.chain (h : BaO w g ab M l host A fs k n v bs ats wr) {i j : Nat} {f : Fl} {x y : It} (hf : fs[i]? = some f) (hx : f.items[j]? = some x) (hy : f.items[j + 1]? = some y) : x.ev.fin = y.ev.beg := by
  obtain ⟨-, -, -, -, ⟨b, h5⟩, -⟩ := h.fo i f hf
  exact h5.next hx hy
theorem BaO.ilen (h : BaO w g ab M l host A fs k n v bs ats wr) {i : Nat} {f : Fl} (hf : fs[i]? = some f) : f.items.length ≤ 5 := by
  obtain ⟨-, -, -, h4, -, -⟩ := h.fo i f hf
  omega
end
/-- what the rounds of the inner loop keep besides -/
structure BaI (w : World) (g ab M : Nat) (l : List Int) (host : Int) (A : Option Addr) (fs : List Fl) (k n : Nat) (v : Value) (bs : List BatD) (ats : List Nat) (bb : Nat) (num : Int) (a : Option Addr) (xs : List It) (c m : Nat) (wr : World) : Prop where
  o : BaO w g ab M l host A fs k n v bs ats wr
  Mb : M ≤ bb
  bk : Blk wr bb 56 #[.int .i64 host, .int .i64 num, .slice a xs.length c]
  io : wr.ownsRow (bb + 1) 77 11 (.slice a xs.length c) xs.length (xs.flatMap It.cells)
  xl : xs.length ≤ m
  it : ∀ x ∈ xs, ItG host x ∧ x.ev.Sub (fun q => w.heap.size ≤ q ∧ q ≠ ab ∧ v.ownBlock ≠ some q ∧ q ≠ bb ∧ (Value.slice a xs.length c).ownBlock ≠ some q) wr
section
variable {w wr w' : World} {g ab M : Nat} {l : List Int} {host : Int} {A : Option Addr} {fs : List Fl} {k n : Nat} {v : Value} {bs : List BatD} {ats : List Nat} {bb : Nat} {num : Int} {a : Option Addr} {xs : List It} {c m : Nat}
theorem BaI.abb (h : BaI w g ab M l host A fs k n v bs ats bb num a xs c m wr) : ab < bb := by have := h.o.aM; have := h.Mb; omega
theorem BaI.grown (h : BaI w g ab M l host A fs k n v bs ats bb num a xs c m wr) (hg : wr.grownBy w' none) : BaI w g ab M l host A fs k n v bs ats bb num a xs c m w' :=
  ⟨h.o.grown hg (by simp), h.Mb, h.bk.grown hg (by simp), own_ext h.io hg, h.xl, fun x hx => ⟨(h.it x hx).1, (h.it x hx).2.grown hg (by simp)⟩⟩
theorem BaI.next (h : BaI w g ab M l host A fs k n v bs ats bb num a xs c m wr) (hg : wr.grownBy w' (some g)) {k' : Nat} (hc : CodesAt w' g l k') : BaI w g ab M l host A fs k' n v bs ats bb num a xs c m w' := by
  have h1 := h.o.gl
  have h2 := h.o.gb
  have h3 := h.abb
  have hne : ∀ q, w.heap.size ≤ q → some q ≠ some g := fun q hq e => by injection e; omega
  exact ⟨h.o.next hg hc, h.Mb, h.bk.grown hg (hne bb (by omega)), own_only h.io hg (by omega), h.xl, fun x hx => ⟨(h.it x hx).1, (h.it x hx).2.grown hg (fun q hq => hne q hq.1)⟩⟩
theorem BaI.up (h : BaI w g ab M l host A fs k n v bs ats bb num a xs c m wr) {i a' : Nat} {f : Fl} (hf : fs[i]? = some f) (ha : ats[i]? = some a') (hl : a' < f.items.length) :
    BaI w g ab M l host A fs k n v bs (ats.set i (a' + 1)) bb num a xs c m (wr.setCell ⟨ab, i, none⟩ (.int .i64 ((a' : Int) + 1))) := by
  have hg : wr.grownBy (wr.setCell ⟨ab, i, none⟩ (.int .i64 ((a' : Int) + 1))) (some ab) := only_setCell (only_refl _ _) (p := ⟨ab, i, none⟩) (.inl rfl) _
  have h3 := h.abb
  exact ⟨h.o.up hf ha hl, h.Mb, h.bk.grown hg (fun e => by injection e; omega), own_only h.io hg (by omega), h.xl, fun x hx => ⟨(h.it x hx).1, (h.it x hx).2.grown hg (fun q hq e => hq.2.1 (by injection e))⟩⟩
theorem BaI.wide (h : BaI w g ab M l host A fs k n v bs ats bb num a xs c m wr) {m' : Nat} (hm : m ≤ m') : BaI w g ab M l host A fs k n v bs ats bb num a xs c m' wr := { h with xl := Nat.le_trans h.xl hm }
/-- one more item: the row grows, then the batch is told of it -/
theorem BaI.app (h : BaI w g ab M l host A fs k n v bs ats bb num a xs c m wr) {x : It} (hx : ItG host x ∧ x.ev.Sub (fun q => w.heap.size ≤ q ∧ q ≠ ab ∧ v.ownBlock ≠ some q ∧ q ≠ bb ∧ (Value.slice a xs.length c).ownBlock ≠ some q) wr) {a' : Option Addr} {c' : Nat}
    (ho : w'.ownsRow (bb + 1) 77 11 (.slice a' (xs.length + 1) c') (xs.length + 1) (xs.flatMap It.cells ++ x.cells)) (hg : wr.grownBy w' (Value.slice a xs.length c).ownBlock) (hob : (Value.slice a' (xs.length + 1) c').ownBlock = (Value.slice a xs.length c).ownBlock ∨ (Value.slice a' (xs.length + 1) c').ownBlock = some (wr.heap.size + 1)) :
    BaI w g ab M l host A fs k n v bs ats bb num a' (xs ++ [x]) c' (m + 1) (w'.setCell ⟨bb, 2, none⟩ (.slice a' (xs.length + 1) c')) := by
  have h1 := h.o.gl
  have h2 := h.o.gb
  have h3 := h.abb
  have h5 := h.Mb
  have hbl := h.bk.lt
  have hlt : ∀ q, (Value.slice a xs.length c).ownBlock = some q → bb < q := fun q e => (h.io.lt q e).1
  have hbk := h.bk.grown hg (fun e => by have := hlt bb e.symm; omega)
  have hs : w'.grownBy (w'.setCell ⟨bb, 2, none⟩ (.slice a' (xs.length + 1) c')) (some bb) := only_setCell (only_refl _ _) (p := ⟨bb, 2, none⟩) (.inl rfl) _
  have hO := (h.o.grown hg (fun q e => by have := hlt q e; omega)).grown hs (fun q e => by injection e; omega)
  refine ⟨hO, h5, by simpa using hbk.set_ 2 (.slice a' (xs.length + 1) c'), ?_, by have := h.xl; simp; omega, ?_⟩
  · have := own_only ho hs (by omega)
    simpa using this
  · have hob' : ∀ q, q < wr.heap.size → (Value.slice a xs.length c).ownBlock ≠ some q → (Value.slice a' (xs ++ [x]).length c').ownBlock ≠ some q := fun q hq hn e => by
      have e' : (Value.slice a' (xs.length + 1) c').ownBlock = some q := by simpa using e
      rcases hob with h | h
      · exact hn (by rw [← h]; exact e')
      · rw [h] at e'; injection e' with e'; omega
    have hsub : ∀ y : It, y.ev.Sub (fun q => w.heap.size ≤ q ∧ q ≠ ab ∧ v.ownBlock ≠ some q ∧ q ≠ bb ∧ (Value.slice a xs.length c).ownBlock ≠ some q) wr → y.ev.Sub (fun q => w.heap.size ≤ q ∧ q ≠ ab ∧ v.ownBlock ≠ some q ∧ q ≠ bb ∧ (Value.slice a' (xs ++ [x]).length c').ownBlock ≠ some q) (w'.setCell ⟨bb, 2, none⟩ (.slice a' (xs.length + 1) c')) := fun y hy =>
      (((hy.mono (S' := fun q => (w.heap.size ≤ q ∧ q ≠ ab ∧ v.ownBlock ≠ some q ∧ q ≠ bb ∧ (Value.slice a xs.length c).ownBlock ≠ some q) ∧ q < wr.heap.size) (fun q hq hl => ⟨hq, hl⟩)).grown hg (fun q hq e => hq.1.2.2.2.2 e.symm)).grown hs (fun q hq e => hq.1.2.2.2.1 (by injection e))).mono (fun q hq _ => ⟨hq.1.1, hq.1.2.1, hq.1.2.2.1, hq.1.2.2.2.1, hob' q hq.2 hq.1.2.2.2.2⟩)
    exact mem_snoc (fun y hy => ⟨(h.it y hy).1, hsub y (h.it y hy).2⟩) ⟨hx.1, hsub x hx.2⟩
/-- a block that has just been laid is none of all these -/
theorem BaI.new (h : BaI w g ab M l host A fs k n v bs ats bb num a xs c m wr) {q : Nat} (hq : wr.heap.size ≤ q) : w.heap.size ≤ q ∧ q ≠ ab ∧ v.ownBlock ≠ some q ∧ q ≠ bb ∧ (Value.slice a xs.length c).ownBlock ≠ some q :=
  ⟨by have := h.o.fr.size; omega, by have := h.o.ak.lt; omega, fun e => by have := (h.o.own.lt q e).2; omega, by have := h.bk.lt; omega, fun e => by have := (h.io.lt q e).2; omega⟩
/-- the files lie apart from all that is written -/
theorem BaI.file (h : BaI w g ab M l host A fs k n v bs ats bb num a xs c m wr) {q : Nat} (hq : w.heap.size ≤ q ∧ q < ab) : w.heap.size ≤ q ∧ q ≠ ab ∧ v.ownBlock ≠ some q ∧ q ≠ bb ∧ (Value.slice a xs.length c).ownBlock ≠ some q :=
  ⟨hq.1, by omega, fun e => by have := (h.o.own.lt q e).1; omega, by have := h.abb; omega, fun e => by have := (h.io.lt q e).1; have := h.abb; omega⟩
/-- the batch, done -/
theorem BaI.its (h : BaI w g ab M l host A fs k n v bs ats bb num a xs c m wr) : Its (fun q => w.heap.size ≤ q ∧ q ≠ ab ∧ v.ownBlock ≠ some q) wr host a xs := by
  have hab := h.abb
  have h2 := h.o.gb
  refine ⟨?_, fun x hx => ⟨(h.it x hx).1, (h.it x hx).2.mono (fun q hq _ => ⟨hq.1, hq.2.1, hq.2.2.1⟩)⟩⟩
  obtain ⟨A', c', e', -, -, -, hr⟩ := Rd.of_own h.io (by decide)
  injection e' with e1 e2 e3
  subst e1
  exact hr.mono (fun q hq _ => ⟨by have h0 : bb + 1 ≤ q := hq; omega, by have h0 : bb + 1 ≤ q := hq; omega, fun e => by have h0 : bb + 1 ≤ q := hq; have := h.o.vl q e; have := h.Mb; omega⟩)
end
def BatPost (w : World) (g : Nat) (l : List Int) (host : Int) (e : Ending) (w' : World) : Prop :=
  ∃ (A : Option Addr) (c : Nat) (bs : List BatD) (k : Nat), e = .returned (.slice A bs.length c) ∧ bs.length ≤ 24 ∧ bs.length ≤ c ∧ c ≤ maxLen ∧ Rd (w.heap.size ≤ ·) w' A (bs.flatMap BatD.cells) ∧ (∀ b ∈ bs, b.host = host ∧ b.items.length ≤ 3 ∧ Its (w.heap.size ≤ ·) w' host b.a b.items) ∧ CodesAt w' g l k ∧ w.grownBy w' (some g)
end Go.Proofs.Ytiogpomgpknjlaa
