/- A cell of an element of a row. No condition. -/
import Derived.Test.YtfkgcighooijhaaGreatDoorFlat
import Derived.Test.YtfkgcighooijhaaGreatDoorGrpP
import Derived.Test.YtfkgcighooijhaaGreatDoorStr
import Derived.Lib.SliceRun
import Derived.Lib.AppendZeros
import Derived.Deep.DeepCutAuto
namespace Go.Proofs.YtfkgcighooijhaaGreatDoor
open Go.RowKit
set_option linter.unusedVariables false
set_option linter.unusedSimpArgs false

theorem Rd.flatAt {α : Type} {f : α → List Value} {z : Nat} (hf : ∀ x, (f x).length = z) {S : Nat → Prop} {w : World} {b off : Nat} {l : List α} (h : Rd S w (some ⟨b, off, none⟩) (l.flatMap f)) {i : Nat} {x : α} (hx : l[i]? = some x) (j : Nat) (hj : j < z) : w.cell? ⟨b, off + i * z + j, none⟩ = (f x)[j]? := by
  obtain ⟨hi, hxi⟩ := List.getElem?_eq_some_iff.1 hx
  rw [Nat.add_assoc]
  obtain ⟨b', off', e, _, _, hc⟩ := h (by rw [flat_len _ z hf]; exact Nat.mul_pos (by omega) (by omega))
  injection e with e
  injection e with e1 e2
  subst e1 e2
  have h1 := flat_at f z hf l i j hi hj
  rw [hxi] at h1
  have h2 : (f x)[j]? = some ((f x)[j]'(by rw [hf]; exact hj)) := List.getElem?_eq_getElem _
  rw [h2]
  exact hc _ _ (h1.trans h2)
end Go.Proofs.YtfkgcighooijhaaGreatDoor

namespace Go.Proofs.YtfkgcighooijhaaGreatDoor
open Go.RowKit
set_option linter.unusedVariables false
set_option linter.unusedSimpArgs false

/-- a slice of strings -/
structure StrR where
  l : List ByteArray
  a : Option Addr
  c : Nat
def StrR.val (x : StrR) : Value := .slice x.a x.l.length x.c
def StrR.In (S : Nat → Prop) (w : World) (x : StrR) : Prop := Rd S w x.a (x.l.map .string) ∧ x.l.length ≤ x.c ∧ x.c ≤ maxLen ∧ (x.a = none → x.l.length = 0)
/-- a cell of a group -/
structure CM where
  t : Int
  s : Bool
  v : StrR
def CM.pl (x : CM) : CD := ⟨x.t, x.s, x.v.l⟩
def CM.cells (x : CM) : List Value := [.int .i64 x.t, .bool x.s, x.v.val]
theorem CM.cells_len (x : CM) : x.cells.length = 3 := rfl
/-- a partial, with the places of its rows -/
structure PD where
  key : StrR
  cs : List CM
  ta : Option Addr
  tc : Nat
  sa : Option Addr
  sc : Nat
  va : Option Addr
  vc : Nat
def PD.cells (p : PD) : List Value := [p.key.val, .slice p.ta p.cs.length p.tc, .slice p.sa p.cs.length p.sc, .slice p.va p.cs.length p.vc]
theorem PD.cells_len (p : PD) : p.cells.length = 4 := rfl
def PD.pl (p : PD) : PP := ⟨p.key.l, p.cs.map CM.pl⟩
def tOf (cs : List CM) : List Value := cs.map (fun c => .int .i64 c.t)
def sOf (cs : List CM) : List Value := cs.map (fun c => .bool c.s)
def vOf (cs : List CM) : List Value := cs.map (fun c => c.v.val)
def PD.Sub (S : Nat → Prop) (w : World) (p : PD) : Prop :=
  p.key.In S w ∧ Rd S w p.ta (tOf p.cs) ∧ Rd S w p.sa (sOf p.cs) ∧ Rd S w p.va (vOf p.cs) ∧ (∀ c ∈ p.cs, c.v.In S w) ∧
    p.cs.length ≤ p.tc ∧ p.tc ≤ maxLen ∧ p.cs.length ≤ p.sc ∧ p.sc ≤ maxLen ∧ p.cs.length ≤ p.vc ∧ p.vc ≤ maxLen ∧ (p.ta = none → p.cs.length = 0) ∧ (p.sa = none → p.cs.length = 0)
def PDs (S : Nat → Prop) (w : World) (A : Option Addr) (ps : List PD) : Prop := Rd S w A (ps.flatMap PD.cells) ∧ ∀ p ∈ ps, p.Sub S w
section
variable {S S' : Nat → Prop} {w w' : World} {A : Option Addr} {row : Option Nat}
theorem StrR.In.grown {x : StrR} (h : x.In S w) (hg : w.grownBy w' row) (hr : ∀ b, S b → some b ≠ row) : x.In S w' := ⟨h.1.grown hg hr, h.2⟩
theorem StrR.In.mono {x : StrR} (h : x.In S w) (hS : ∀ b, S b → b < w.heap.size → S' b) : x.In S' w := ⟨h.1.mono hS, h.2⟩
theorem PD.Sub.grown {p : PD} (h : p.Sub S w) (hg : w.grownBy w' row) (hr : ∀ b, S b → some b ≠ row) : p.Sub S w' :=
  ⟨h.1.grown hg hr, h.2.1.grown hg hr, h.2.2.1.grown hg hr, h.2.2.2.1.grown hg hr, fun c hc => (h.2.2.2.2.1 c hc).grown hg hr, h.2.2.2.2.2⟩
theorem PD.Sub.mono {p : PD} (h : p.Sub S w) (hS : ∀ b, S b → b < w.heap.size → S' b) : p.Sub S' w :=
  ⟨h.1.mono hS, h.2.1.mono hS, h.2.2.1.mono hS, h.2.2.2.1.mono hS, fun c hc => (h.2.2.2.2.1 c hc).mono hS, h.2.2.2.2.2⟩
theorem PDs.grown {ps : List PD} (h : PDs S w A ps) (hg : w.grownBy w' row) (hr : ∀ b, S b → some b ≠ row) : PDs S w' A ps :=
  ⟨h.1.grown hg hr, fun p hp => (h.2 p hp).grown hg hr⟩
theorem PDs.mono {ps : List PD} (h : PDs S w A ps) (hS : ∀ b, S b → b < w.heap.size → S' b) : PDs S' w A ps :=
  ⟨h.1.mono hS, fun p hp => (h.2 p hp).mono hS⟩
theorem StrR.nil_in : (StrR.mk [] none 0).In S w := ⟨Rd.nil, Nat.le_refl _, Nat.zero_le _, fun _ => rfl⟩
end
theorem partInfo : (Tryz.prog.info? 69).map (fun i => (i.zero, i.size, i.bytes)) = some (some (.agg #[.slice none 0 0, .slice none 0 0, .slice none 0 0, .slice none 0 0]), 4, 96) := by kernel_rfl
theorem intInfo37 : (Tryz.prog.info? 3).map (fun i => (i.zero, i.size, i.bytes)) = some (some (.int .i64 0), 1, 8) := by kernel_rfl
theorem boolInfo37 : (Tryz.prog.info? 4).map (fun i => (i.zero, i.size, i.bytes)) = some (some (.bool false), 1, 1) := by kernel_rfl
theorem strsInfo37 : (Tryz.prog.info? 24).map (fun i => (i.zero, i.size, i.bytes)) = some (some (.slice none 0 0), 1, 24) := by kernel_rfl
theorem pd_one (p : PD) : ∀ u ∈ p.cells, u.oneCell' = true := by
  intro u hu
  simp only [PD.cells, StrR.val, List.mem_cons, List.not_mem_nil, or_false] at hu
  rcases hu with rfl | rfl | rfl | rfl <;> rfl
theorem pds_one (ps : List PD) : ∀ u ∈ ps.flatMap PD.cells, u.oneCell' = true := by
  intro u hu
  obtain ⟨p, -, hp⟩ := List.mem_flatMap.1 hu
  exact pd_one p u hp
theorem pd_in {S : Nat → Prop} {w : World} {A : Option Addr} {ps : List PD} (h : Rd S w A (ps.flatMap PD.cells)) {i : Nat} {y : PD} (hy : ps[i]? = some y) :
    ∃ b off, A = some ⟨b, off, none⟩ ∧ b < w.heap.size ∧ w.cell? ⟨b, off + i * 4, none⟩ = some (.slice y.key.a y.key.l.length y.key.c) ∧ w.cell? ⟨b, off + i * 4 + 1, none⟩ = some (.slice y.ta y.cs.length y.tc) ∧ w.cell? ⟨b, off + i * 4 + 2, none⟩ = some (.slice y.sa y.cs.length y.sc) ∧ w.cell? ⟨b, off + i * 4 + 3, none⟩ = some (.slice y.va y.cs.length y.vc) := by
  obtain ⟨hi, hyi⟩ := List.getElem?_eq_some_iff.1 hy
  obtain ⟨b, off, rfl, _, hlt, hc⟩ := h (by rw [flat_len _ 4 PD.cells_len]; omega)
  have key : ∀ j, j < 4 → w.cell? ⟨b, off + i * 4 + j, none⟩ = y.cells[j]? := by
    intro j hj
    have h1 := flat_at PD.cells 4 PD.cells_len ps i j hi hj
    rw [hyi] at h1
    have hlt : j < y.cells.length := by rw [PD.cells_len]; exact hj
    rw [List.getElem?_eq_getElem hlt] at h1 ⊢
    rw [Nat.add_assoc]
    exact hc _ _ h1
  exact ⟨b, off, rfl, hlt, key 0 (by omega), key 1 (by omega), key 2 (by omega), key 3 (by omega)⟩
theorem agg_in {S : Nat → Prop} {w : World} {A : Option Addr} {ps : List AggD} (h : Rd S w A (ps.flatMap AggD.cells)) {i : Nat} {y : AggD} (hy : ps[i]? = some y) :
    ∃ b off, A = some ⟨b, off, none⟩ ∧ b < w.heap.size ∧ w.cell? ⟨b, off + i * 2, none⟩ = some (.int .i64 y.kind) ∧ w.cell? ⟨b, off + i * 2 + 1, none⟩ = some (.string y.field) := by
  obtain ⟨hi, hyi⟩ := List.getElem?_eq_some_iff.1 hy
  obtain ⟨b, off, rfl, _, hlt, hc⟩ := h (by rw [flat_len _ 2 AggD.cells_len]; omega)
  have key : ∀ j, j < 2 → w.cell? ⟨b, off + i * 2 + j, none⟩ = y.cells[j]? := by
    intro j hj
    have h1 := flat_at AggD.cells 2 AggD.cells_len ps i j hi hj
    rw [hyi] at h1
    have hlt : j < y.cells.length := by rw [AggD.cells_len]; exact hj
    rw [List.getElem?_eq_getElem hlt] at h1 ⊢
    rw [Nat.add_assoc]
    exact hc _ _ h1
  exact ⟨b, off, rfl, hlt, key 0 (by omega), key 1 (by omega)⟩
/-- a cell as a call gives it back: its values lie in new blocks -/
def CellP (w : World) (z : CD) (e : Ending) (w' : World) : Prop := ∃ x : CM, e = .returned (.agg #[.int .i64 x.t, .bool x.s, .slice x.v.a x.v.l.length x.v.c]) ∧ x.pl = z ∧ x.v.In (w.heap.size ≤ ·) w' ∧ w.grownBy w' none
theorem only_setN {a w : World} (h : a.grownBy w none) {p : Addr} (hp : a.heap.size ≤ p.block) (u : Value) : a.grownBy (w.setCell p u) none :=
  ⟨h.os, h.tape, h.output, by simpa [World.setCell] using h.size, fun i hi hne => (Below.heap_setCell w p u i (by omega)).trans (h.block i hi hne)⟩
def set3 (w : World) (b : Nat) (x y z : Value) : World := ((w.setCell ⟨b, 0, none⟩ x).setCell ⟨b, 1, none⟩ y).setCell ⟨b, 2, none⟩ z
theorem set3_blk {w : World} {b t : Nat} {v0 v1 v2 x y z : Value} (h : Blk w b t #[v0, v1, v2]) : Blk (set3 w b x y z) b t #[x, y, z] := by
  simpa [set3] using ((h.set_ 0 x).set_ 1 y).set_ 2 z
theorem set3_grown {a w : World} {b : Nat} {x y z : Value} (h : a.grownBy w none) (hb : a.heap.size ≤ b) : a.grownBy (set3 w b x y z) none :=
  only_setN (only_setN (only_setN h (p := ⟨b, 0, none⟩) hb x) (p := ⟨b, 1, none⟩) hb y) (p := ⟨b, 2, none⟩) hb z
/-- the same, its values anywhere in S -/
def CellS (S : Nat → Prop) (w : World) (z : CD) (e : Ending) (w' : World) : Prop := ∃ x : CM, e = .returned (.agg #[.int .i64 x.t, .bool x.s, .slice x.v.a x.v.l.length x.v.c]) ∧ x.pl = z ∧ x.v.In S w' ∧ w.grownBy w' none
theorem rd_none {S : Nat → Prop} {w : World} {xs : List Value} (h : Rd S w none xs) : xs.length = 0 := by
  rcases Nat.eq_zero_or_pos xs.length with h0 | h0
  · exact h0
  · obtain ⟨b, o, e, _⟩ := h h0; cases e
theorem strR_of {S : Nat → Prop} {w : World} {l : List ByteArray} {A : Option Addr} {c : Nat} (h : Rd S w A (l.map .string)) (h1 : l.length ≤ c) (h2 : c ≤ maxLen) : (StrR.mk l A c).In S w :=
  ⟨h, h1, h2, fun e => by have e' : A = none := e; rw [e'] at h; simpa using rd_none h⟩
theorem set3_size {w : World} {b : Nat} {x y z : Value} : (set3 w b x y z).heap.size = w.heap.size := by simp [set3, World.setCell]
theorem rd_lit1 {w : World} {b t : Nat} {u : Value} {S : Nat → Prop} (h : Blk w b t #[u]) (hS : S b) : Rd S w (some ⟨b, 0, none⟩) [u] := fun _ => ⟨b, 0, rfl, hS, h.lt, fun j v hv => by
  rw [Nat.zero_add, h.cell j]
  simpa using hv⟩
theorem set3_only {w : World} {b : Nat} {x y z : Value} : w.grownBy (set3 w b x y z) (some b) :=
  only_setCell (only_setCell (only_setCell (only_refl w (some b)) (p := ⟨b, 0, none⟩) (.inl rfl) x) (p := ⟨b, 1, none⟩) (.inl rfl) y) (p := ⟨b, 2, none⟩) (.inl rfl) z
end Go.Proofs.YtfkgcighooijhaaGreatDoor

namespace Go.Proofs.YtfkgcighooijhaaGreatDoor
open Go.RowKit
set_option linter.unusedVariables false
set_option linter.unusedSimpArgs false

def EmptySt (w : World) (e : Ending) (w' : World) : Prop := ∃ v, e = .returned v ∧ w'.ownsRow w.heap.size 9 1 v 0 [] ∧ w.grownBy w' none
set_option maxHeartbeats 2000000 in
set_option maxRecDepth 100000 in
theorem growSt (n : Nat) (w : World) (hn : n ≤ 1000000) : Calls Tryz.prog 99 #[.slice none 0 0, .int .i64 n] w (EmptySt w) := by
  by_cases h0 : n = 0
  · subst h0
    go_enter Tryz.func99, Tryz.ntmps99
    go_wp2_with fail
    go_ret
    exact ⟨_, rfl, World.ownsRow_nil _ _ _ _, only_refl _ _⟩
  · obtain ⟨i0, hi0, hz0, hz1, hz2⟩ := info_parts strInfo
    obtain ⟨G, hG⟩ : ∃ G, G = grownCap w n 0 9 := ⟨_, rfl⟩
    have hGn : n ≤ G := by rw [hG]; exact grownCap_ge w _ _ _
    have hGm : G ≤ maxLen := by rw [hG]; exact grownCap_le_maxLen w _ _ _ (by unfold maxLen; omega)
    obtain ⟨ROW, hROW⟩ : ∃ ROW : Array Value, ROW = Builtin.zeroCells (.string ⟨#[]⟩ : Value).cells n ++ Builtin.zeroCells (.string ⟨#[]⟩ : Value).cells (G - n) := ⟨_, rfl⟩
    have hRl : ROW.size = G * 1 := by
      rw [hROW]
      simp [Builtin.zeroCells, Value.cells]
      omega
    obtain ⟨W1, hW1⟩ : ∃ W1, W1 = w.drew.alloc (.cells ROW 9) := ⟨_, rfl⟩
    obtain ⟨g1, hg1⟩ : ∃ g1, g1 = w.heap.size := ⟨_, rfl⟩
    have hr : ∀ ty, (Builtin.append_ #[24, 3] ty #[.slice none 0 0, .int .i64 n]).run Tryz.prog w = .ok (.slice (some ⟨g1, 0, none⟩) n G) W1 := fun ty => by
      have := Lib.run_append_nil_zeros w 24 3 ty 9 i0 (.string ⟨#[]⟩) .i64 .i64 Tryz.underlying24 Tryz.underlying3 hi0 hz0 n (by omega) (by rw [hz1]; decide) (by omega) (by rw [hz2]; omega)
      rw [← hG] at this
      rw [hW1, hROW, hg1]; exact this
    have HF : Hid (EmptySt w (.returned (.slice (some ⟨g1, 0, none⟩) 0 G)) W1) := Lib.hid (by
      refine ⟨_, rfl, ?_, ?_⟩
      · rw [hW1, hg1]
        have := World.ownsRow_made w.drew (base := w.heap.size) (e := 9) ROW G (Nat.le_refl _) hGm hRl
        exact this
      · rw [hW1]; exact only_alloc (only_drew (only_refl _ _)) _)
    have j0 : (0 : Int) < (n : Int) := by omega
    have j1 : (0 : Int) ≤ (n : Int) := by omega
    have hw0 : IntKind.i64.wrap (n : Int) = (n : Int) := IntWalk.i64_in _ (by omega)
    have j2 : ¬ ((n : Int) < 0) := by omega
    clear hW1 hg1 hG hROW hRl hi0 hz0 hz1 hz2 hGm h0
    go_enter Tryz.func99, Tryz.ntmps99
    go_wp2_with (at_builtin; refine Lib.wpList_append_run _ rfl _ _ _ _ rfl _ _ rfl rfl _ _ (hr _) ?_)
    go_ret
    exact HF.out
/-- a row at hand -/
structure RwSt where
  A : Option Addr
  n : Nat
  l : List Value
  c : Nat
def RwSt.v (r : RwSt) : Value := .slice r.A r.n r.c
def catSt (rs : List RwSt) : List Value := rs.flatMap (·.l)
def numSt (rs : List RwSt) : Nat := (rs.map (·.n)).sum
theorem catSt_snoc (rs : List RwSt) (r : RwSt) : catSt (rs ++ [r]) = catSt rs ++ r.l := by unfold catSt; rw [List.flatMap_append]; simp
theorem numSt_snoc (rs : List RwSt) (r : RwSt) : numSt (rs ++ [r]) = numSt rs + r.n := by unfold numSt; simp
theorem numSt_le {rs : List RwSt} {m : Nat} (h : ∀ r ∈ rs, r.n ≤ m) : numSt rs ≤ rs.length * m := by
  unfold numSt
  induction rs with
  | nil => simp
  | cons a t ih =>
    have h1 := h a List.mem_cons_self
    have h2 := ih (fun r hr => h r (List.mem_cons_of_mem _ hr))
    rw [List.map_cons, List.sum_cons, List.length_cons, Nat.add_mul]; omega
def CatStPost (w : World) (n : Nat) (xs : List Value) (e : Ending) (w' : World) : Prop := ∃ v, e = .returned v ∧ w'.ownsRow w.heap.size 9 1 v n xs ∧ w.grownBy w' none
set_option maxHeartbeats 4000000 in
set_option maxRecDepth 100000 in
theorem concatSt_any {S : Nat → Prop} (vb : Nat) (rs : List RwSt) (w : World) (hB : Blk w vb 24 (rs.map RwSt.v).toArray) (hr : ∀ r ∈ rs, Rd S w r.A r.l) (hz : ∀ r ∈ rs, r.l.length = r.n * 1) (h1 : ∀ r ∈ rs, ∀ u ∈ r.l, u.oneCell' = true) (hn : rs.length ≤ 10) (hl : ∀ r ∈ rs, r.n ≤ 100000) :
    Calls Tryz.prog 91 #[.slice (some ⟨vb, 0, none⟩) rs.length rs.length] w (CatStPost w (numSt rs) (catSt rs)) := by
  have HB := Lib.hid hB
  have HR := Lib.hid hr
  have HL := Lib.hid hl
  have HZ := Lib.hid hz
  have H1 := Lib.hid h1
  clear hB hr hl hz h1
  go_enter Tryz.func91, Tryz.ntmps91
  go_wp2_with fail
  go_loop [3, 11] (fun n i => ∃ k : Nat, k ≤ rs.length ∧ i = .int .i64 k ∧ n = .int .i64 (numSt (rs.take k) : Nat)) (fun _ i => rs.length - (intOf i).toNat)
  case atStart => exact ⟨0, Nat.zero_le _, rfl, rfl⟩
  case round =>
    obtain ⟨k, hk, rfl, rfl⟩ := hrel
    have hcl : numSt (rs.take k) ≤ 1000000 := by
      have := numSt_le (rs := rs.take k) (m := 100000) (fun r hr => HL.out r (List.mem_of_mem_take hr))
      rw [List.length_take] at this
      have h2 : min k rs.length * 100000 ≤ 10 * 100000 := Nat.mul_le_mul_right _ (by omega)
      omega
    obtain ⟨n, hn0⟩ : ∃ n, n = numSt (rs.take k) := ⟨_, rfl⟩
    rw [← hn0] at hcl ⊢
    have HN := Lib.hid hn0
    clear hn0
    by_cases hlt : k < rs.length
    · obtain ⟨r, hrk⟩ : ∃ r, rs[k]? = some r := ⟨_, List.getElem?_eq_getElem hlt⟩
      have c0 := HB.out.cell k
      have hrk2 : (rs.map RwSt.v).toArray[k]? = some (.slice r.A r.n r.c) := by simp [hrk, RwSt.v]
      rw [hrk2] at c0
      have hrl := HL.out r (List.mem_of_getElem? hrk)
      have HT : Hid (numSt (rs.take (k + 1)) = n + r.n) := Lib.hid (by
        have e : rs.take (k + 1) = rs.take k ++ [r] := by
          rw [List.take_succ_eq_append_getElem hlt]
          rw [List.getElem?_eq_getElem hlt] at hrk
          injection hrk with hrk
          rw [hrk]
        rw [e, numSt_snoc, HN.out])
      have i1 : (k : Int) < (rs.length : Int) := by omega
      have i2 : ¬ ((n : Int) + (r.n : Int) < 0) := by omega
      have hw0 : IntKind.i64.wrap ((n : Int) + (r.n : Int)) = (n : Int) + (r.n : Int) := IntWalk.i64_in _ (by omega)
      clear hrk hrk2
      go_wp2_with fail
      go_round
      case rel => exact ⟨k + 1, by omega, by go_num, by rw [HT.out]; push_cast; rfl⟩
      case measure => simp [intOf]; omega
    · have HE : Hid (rs.take k = rs) := Lib.hid (List.take_of_length_le (by omega))
      have KG := Lib.hid (growSt n w (by omega))
      go_wp2_with fail
      refine KG.out.mono ?_
      rintro e w1 ⟨v1, rfl, ho1, hg1⟩
      have O1 := Lib.hid ho1
      have G1 := Lib.hid hg1
      clear ho1 hg1 KG
      go_wp2_with fail
      go_loopw [6, 27] (fun v i wr => ∃ k : Nat, k ≤ rs.length ∧ i = .int .i64 k ∧ wr.ownsRow w.heap.size 9 1 v (numSt (rs.take k)) (catSt (rs.take k)) ∧ w.grownBy wr none) (fun _ i _ => rs.length - (intOf i).toNat)
      case atStart => exact ⟨0, Nat.zero_le _, rfl, O1.out, G1.out⟩
      case round =>
        clear O1 G1
        obtain ⟨k, hk, rfl, hO, hG⟩ := hrel
        have O := Lib.hid hO
        have G := Lib.hid hG
        have hsz := hG.size
        clear hO hG
        have hcl2 : numSt (rs.take k) ≤ 1000000 := by
          have := numSt_le (rs := rs.take k) (m := 100000) (fun r hr => HL.out r (List.mem_of_mem_take hr))
          rw [List.length_take] at this
          have h2 : min k rs.length * 100000 ≤ 10 * 100000 := Nat.mul_le_mul_right _ (by omega)
          omega
        by_cases hlt : k < rs.length
        · obtain ⟨r, hrk⟩ : ∃ r, rs[k]? = some r := ⟨_, List.getElem?_eq_getElem hlt⟩
          have c0 := (HB.out.grown G.out (by simp)).cell k
          have hrk2 : (rs.map RwSt.v).toArray[k]? = some (.slice r.A r.n r.c) := by simp [hrk, RwSt.v]
          rw [hrk2] at c0
          have hrl := HL.out r (List.mem_of_getElem? hrk)
          have RR := Lib.hid ((HR.out r (List.mem_of_getElem? hrk)).grown G.out (by simp))
          have RZ := Lib.hid (HZ.out r (List.mem_of_getElem? hrk))
          have R1 := Lib.hid (H1.out r (List.mem_of_getElem? hrk))
          have HT : Hid (catSt (rs.take (k + 1)) = catSt (rs.take k) ++ r.l ∧ numSt (rs.take (k + 1)) = numSt (rs.take k) + r.n) := Lib.hid (by
            have e : rs.take (k + 1) = rs.take k ++ [r] := by
              rw [List.take_succ_eq_append_getElem hlt]
              rw [List.getElem?_eq_getElem hlt] at hrk
              injection hrk with hrk
              rw [hrk]
            exact ⟨by rw [e, catSt_snoc], by rw [e, numSt_snoc]⟩)
          have i1 : (k : Int) < (rs.length : Int) := by omega
          obtain ⟨L, hL⟩ : ∃ L, L = catSt (rs.take k) := ⟨_, rfl⟩
          obtain ⟨M, hM⟩ : ∃ M, M = numSt (rs.take k) := ⟨_, rfl⟩
          have O2 : Hid (wr.ownsRow w.heap.size 9 1 u6 M L) := Lib.hid (by rw [hL, hM]; exact O.out)
          rw [← hM] at hcl2
          rw [← hL, ← hM] at HT
          clear hrk hrk2 hL hM O
          go_wp2_with (at_builtin; refine wpList_appendN rfl _ _ 24 rfl w.heap.size Tryz.underlying24 strInfo rfl (by decide) (v := _) (by rfl) O2.out r.A r.n r.c (news := r.l) (by rfl) RR.out RZ.out R1.out (by decide) (by omega) (by omega) ?_; intro v7 w7 hown7 hg7 hob7)
          have O7 : Hid (w7.ownsRow w.heap.size 9 1 v7 (numSt (rs.take (k + 1))) (catSt (rs.take (k + 1)))) := Lib.hid (by rw [HT.out.1, HT.out.2]; exact hown7)
          have G7 : Hid (w.grownBy w7 none) := Lib.hid (only_own G.out hg7 O2.out (Nat.le_refl _))
          clear hown7 hg7 hob7 c0
          go_wp2_with fail
          go_roundw
          case rel => exact ⟨k + 1, by omega, by go_num, O7.out, G7.out⟩
          case measure => simp [intOf]; omega
        · have HE2 : Hid (rs.take k = rs) := Lib.hid (List.take_of_length_le (by omega))
          go_wp2_with fail
          go_ret
          have := O.out
          rw [HE2.out] at this
          exact ⟨_, rfl, this, G.out⟩
end Go.Proofs.YtfkgcighooijhaaGreatDoor
