/- The reference's Merge: what it holds on to (a row of partials that may share their rows with the arguments), and its steps as plain data. No condition. -/
import Derived.Test.YtfkgcighooijhaaGreatDoorJGRows
import Derived.Test.YtfkgcighooijhaaGreatDoorJGMerge
import Derived.Test.YtfkgcighooijhaaGreatDoorJGrpP
import Derived.Deep.CutBlock
import Derived.Test.YtfkgcighooijhaaGreatDoorRVal
import Derived.Test.YtfkgcighooijhaaGreatDoorNumE
namespace Go.Proofs.YtfkgcighooijhaaGreatDoor
open Go.RowKit
set_option linter.unusedVariables false
set_option linter.unusedSimpArgs false

/-- where the rows of the partials may lie -/
def QS (S : Nat → Prop) (base : Nat) (v : Value) (b : Nat) : Prop := (S b ∧ b < base) ∨ (base ≤ b ∧ Value.ownBlock v ≠ some b)
structure QRow (S : Nat → Prop) (base : Nat) (w : World) (v : Value) (ps : List PD) : Prop where
  own : w.ownsRow base 69 4 v ps.length (ps.flatMap PD.cells)
  sub : ∀ p ∈ ps, p.Sub (QS S base v) w
theorem QRow.nil (S : Nat → Prop) (base : Nat) (w : World) : QRow S base w (.slice none 0 0) [] := ⟨World.ownsRow_nil _ _ _ _, by simp⟩
theorem QRow.ext {S : Nat → Prop} {base : Nat} {w w' : World} {v : Value} {ps : List PD} (h : QRow S base w v ps) (hg : w.grownBy w' none) : QRow S base w' v ps := ⟨own_ext h.own hg, fun p hp => (h.sub p hp).grown hg (by simp)⟩
theorem QRow.lt {S : Nat → Prop} {base : Nat} {w : World} {v : Value} {ps : List PD} (h : QRow S base w v ps) : ∀ g, Value.ownBlock v = some g → base ≤ g ∧ g < w.heap.size := fun g hg => h.own.lt g hg
theorem sub_key {S S' : Nat → Prop} {W w : World} (key : ∀ (A : Option Addr) (xs : List Value), Rd S W A xs → Rd S' w A xs) {q : PD} (h : q.Sub S W) : q.Sub S' w :=
  ⟨⟨key _ _ h.1.1, h.1.2⟩, key _ _ h.2.1, key _ _ h.2.2.1, key _ _ h.2.2.2.1, fun c hc => ⟨key _ _ (h.2.2.2.2.1 c hc).1, (h.2.2.2.2.1 c hc).2⟩, h.2.2.2.2.2⟩
theorem QRow.snoc {S : Nat → Prop} {base : Nat} {W w : World} {v v' : Value} {ps : List PD} {p : PD} (h : QRow S base W v ps) (ho : w.ownsRow base 69 4 v' (ps.length + 1) (ps.flatMap PD.cells ++ p.cells)) (hs : p.Sub (QS S base v') w) (hn : ∀ g, Value.ownBlock v' = some g → Value.ownBlock v = some g ∨ W.heap.size ≤ g)
    (hf : FrN (fun i => Value.ownBlock v = some i) W w) : QRow S base w v' (ps ++ [p]) := by
  refine ⟨by rw [List.length_append, List.flatMap_append]; simpa using ho, fun q hq => ?_⟩
  rcases List.mem_append.1 hq with hq | hq
  · refine sub_key (S := QS S base v) (fun A xs hr => ?_) (h.sub q hq)
    have h1 := hr.mono (S' := fun b => QS S base v b ∧ b < W.heap.size) (fun b hb hlt => ⟨hb, hlt⟩)
    refine (hf.rd h1 (fun b hb hB => ?_)).mono (fun b hb _ => ?_)
    · rcases hb.1 with ⟨_, h2⟩ | ⟨_, h2⟩
      · have := (h.lt b hB).1; omega
      · exact h2 hB
    · rcases hb.1 with h2 | ⟨h2, h3⟩
      · exact .inl h2
      · refine .inr ⟨h2, fun e => ?_⟩
        rcases hn b e with h4 | h4
        · exact h3 h4
        · have := hb.2; omega
  · rw [List.mem_singleton.1 hq]; exact hs
/-- a partial of an argument, behind the append -/
theorem sub_old {S : Nat → Prop} {base : Nat} {W w : World} {v v' : Value} {p : PD} (hs : p.Sub (fun b => S b ∧ b < base) W) (hv : ∀ g, Value.ownBlock v = some g → base ≤ g) (hf : FrN (fun i => Value.ownBlock v = some i) W w) : p.Sub (QS S base v') w :=
  (hs.fr hf (fun b hb hB => by have := hv b hB; have := hb.2; omega)).mono (fun b hb _ => .inl hb)
structure QApp (S : Nat → Prop) (W : World) (base ci bi ai : Nat) (v : Value) (n : Nat) (xs : List Value) (z : PP) (D : Nat → Bool) (u : Nat → Value) (w : World) : Prop where
  d1 : D ai = true → D bi = true
  d2 : D bi = true → D ci = true
  s0 : D ci = false → w.ownsRow base 69 4 v n xs
  s1 : D ci = true → ∃ p : PD, u ci = pAgg p ∧ p.pl = z ∧
    (D ai = false → w.ownsRow base 69 4 v n xs ∧ p.Sub (fun b => (S b ∧ b < base) ∨ W.heap.size ≤ b) w ∧ (D bi = true → ∃ b, u bi = .slice (some ⟨b, 0, none⟩) 1 1 ∧ W.heap.size ≤ b ∧ Blk w b 69 (pArr p))) ∧
    (D ai = true → w.ownsRow base 69 4 (u ai) (n + 1) (xs ++ p.cells) ∧ p.Sub (QS S base (u ai)) w ∧ ∀ g, Value.ownBlock (u ai) = some g → Value.ownBlock v = some g ∨ W.heap.size ≤ g)
section
variable {S : Nat → Prop} {W : World} {base ci bi ai : Nat} {v : Value} {n : Nat} {xs : List Value} {z : PP} {D : Nat → Bool} {u : Nat → Value} {w w' : World}
theorem QApp.start (h : w.ownsRow base 69 4 v n xs) : QApp S W base ci bi ai v n xs z (fun _ => false) u w := ⟨(fun h => by cases h), (fun h => by cases h), fun _ => h, fun h => by cases h⟩
theorem QApp.other (h : QApp S W base ci bi ai v n xs z D u w) {i : Nat} (x : Value) (h1 : i ≠ ci) (h2 : i ≠ bi) (h3 : i ≠ ai) : QApp S W base ci bi ai v n xs z (updB D i) (upd u i x) w := by
  have a1 := updB_ne D (Ne.symm h1); have a2 := updB_ne D (Ne.symm h2); have a3 := updB_ne D (Ne.symm h3)
  have b1 := upd_ne u x (Ne.symm h1); have b2 := upd_ne u x (Ne.symm h2); have b3 := upd_ne u x (Ne.symm h3)
  exact ⟨by rw [a3, a2]; exact h.d1, by rw [a2, a1]; exact h.d2, by rw [a1]; exact h.s0, by rw [a1, a2, a3, b1, b2, b3]; exact h.s1⟩
theorem QApp.called (h : QApp S W base ci bi ai v n xs z D u w) (hcb : ci ≠ bi) (hca : ci ≠ ai) (h0 : D ci = false) (hg : w.grownBy w' none) {p : PD} (hp : p.pl = z) (hs : p.Sub (fun b => (S b ∧ b < base) ∨ W.heap.size ≤ b) w') :
    QApp S W base ci bi ai v n xs z (updB D ci) (upd u ci (pAgg p)) w' := by
  have hb : D bi = false := by cases e : D bi with | false => rfl | true => rw [h.d2 e] at h0; cases h0
  have ha : D ai = false := by cases e : D ai with | false => rfl | true => rw [h.d1 e] at hb; cases hb
  have a2 := updB_ne D (Ne.symm hcb); have a3 := updB_ne D (Ne.symm hca)
  refine ⟨by rw [a3, a2]; exact h.d1, fun _ => updB_at D ci, (fun e => by rw [updB_at] at e; cases e), fun _ => ⟨p, by rw [upd_at], hp, fun _ => ⟨own_ext (h.s0 h0) hg, hs, fun e => by rw [a2, hb] at e; cases e⟩, fun e => by rw [a3, ha] at e; cases e⟩⟩
theorem QApp.laid (h : QApp S W base ci bi ai v n xs z D u w) (hcb : bi ≠ ci) (hba : bi ≠ ai) (h0 : D bi = false) (h1 : D ci = true) {p : PD} (hp : u ci = pAgg p) (hW : W.heap.size ≤ w.heap.size) :
    QApp S W base ci bi ai v n xs z (updB D bi) (upd u bi (.slice (some ⟨w.heap.size, 0, none⟩) 1 1)) (w.alloc (.cells (pArr p) 69)) := by
  have ha : D ai = false := by cases e : D ai with | false => rfl | true => rw [h.d1 e] at h0; cases h0
  have a1 := updB_ne D (Ne.symm hcb); have a3 := updB_ne D (Ne.symm hba)
  have b1 := upd_ne u (.slice (some ⟨w.heap.size, 0, none⟩) 1 1) (Ne.symm hcb)
  obtain ⟨q, e1, e2, e3, -⟩ := h.s1 h1
  have hg := World.grownBy_alloc w (.cells (pArr p) 69) none
  obtain ⟨y1, y2, -⟩ := e3 ha
  have hqp : pArr q = pArr p := by
    have e4 : pAgg q = pAgg p := e1.symm.trans hp
    injection e4
  refine ⟨fun _ => updB_at D bi, fun _ => by rw [a1]; exact h1, (fun e => by rw [a1, h1] at e; cases e), fun _ => ⟨q, by rw [b1]; exact e1, e2, fun _ => ⟨y1.alloc _, y2.grown hg (by simp), fun _ => ⟨w.heap.size, by rw [upd_at], hW, by rw [hqp]; exact Blk.new _ _ _⟩⟩, fun e => by rw [a3, ha] at e; cases e⟩⟩
/-- the append runs -/
theorem QApp.run (h : QApp S W base ci bi ai v n xs z D u w) (hcb : ci ≠ ai) (hba : bi ≠ ai) (h0 : D ai = false) (h1 : D bi = true) (hv : ∀ g, Value.ownBlock v = some g → base ≤ g ∧ g < W.heap.size) (hn : n ≤ 1000000) (hbase : base ≤ W.heap.size) (hW : W.heap.size ≤ w.heap.size) :
    ∃ v' w', (Builtin.append_ #[36, 36] 36 #[v, u bi]).run Tryz.prog w = .ok v' w' ∧ w.grownBy w' (Value.ownBlock v) ∧ QApp S W base ci bi ai v n xs z (updB D ai) (upd u ai v') w' := by
  have hc := h.d2 h1
  obtain ⟨p, e1, e2, e3, -⟩ := h.s1 hc
  obtain ⟨y1, y2, y3⟩ := e3 h0
  obtain ⟨b, z1, z2, z3⟩ := y3 h1
  obtain ⟨v', w', hr, ho, hg, hb⟩ := run_appendN (P := Tryz.prog) base 36 36 Tryz.underlying36 partInfo rfl (by decide) y1 (S := fun _ => True) (some ⟨b, 0, none⟩) 1 1 (news := p.cells) (fun _ => ⟨b, 0, rfl, trivial, z3.lt, fun j x hx => by rw [Nat.zero_add, z3.cell j]; simpa [PD.cells, StrR.val] using hx⟩) rfl (pd_one p) (by decide) (by omega) (by omega)
  have a1 := updB_ne D hcb; have a2 := updB_ne D hba
  have b1 := upd_ne u v' hcb
  refine ⟨v', w', by rw [z1]; exact hr, hg, ⟨fun _ => by rw [a2]; exact h1, by rw [a2, a1]; exact h.d2, (fun e => by rw [a1, hc] at e; cases e), fun _ => ⟨p, by rw [b1]; exact e1, e2, (fun e => by rw [updB_at] at e; cases e), fun _ => ?_⟩⟩⟩
  rw [upd_at]
  have y2' : p.Sub (fun b => ((S b ∧ b < base) ∨ W.heap.size ≤ b) ∧ b < w.heap.size) w := y2.mono (fun b hb hlt => ⟨hb, hlt⟩)
  refine ⟨ho, (y2'.grown hg (fun b hbb e => by have := hv b e.symm; rcases hbb.1 with h | h <;> omega)).mono (fun b hbb _ => ?_), fun g hg' => ?_⟩
  · rcases hbb.1 with h4 | h4
    · exact .inl h4
    · refine .inr ⟨by omega, fun e => ?_⟩
      rcases hb with h2 | h2
      · rw [h2] at e; have := hv b e; omega
      · rw [h2] at e; injection e with e; have := hbb.2; omega
  · rcases hb with h2 | h2
    · rw [h2] at hg'; exact .inl hg'
    · rw [h2] at hg'; injection hg' with hg'; exact .inr (by omega)
theorem QApp.fin (h : QApp S W base ci bi ai v n xs z D u w) (h0 : D ai = true) : ∃ p : PD, p.pl = z ∧ w.ownsRow base 69 4 (u ai) (n + 1) (xs ++ p.cells) ∧ p.Sub (QS S base (u ai)) w ∧ ∀ g, Value.ownBlock (u ai) = some g → Value.ownBlock v = some g ∨ W.heap.size ≤ g := by
  obtain ⟨p, -, e2, -, e4⟩ := h.s1 (h.d2 (h.d1 h0))
  obtain ⟨y1, y2, y3⟩ := e4 h0
  exact ⟨p, e2, y1, y2, y3⟩
end
/-- what the reference's Merge gives back: its partials' rows are new or lie in S -/
def RPartsS (S : Nat → Prop) (w : World) (zs : List PP) (e : Ending) (w' : World) : Prop := ∃ (A : Option Addr) (c : Nat) (ps : List PD), e = .returned (.slice A ps.length c) ∧ ps.map PD.pl = zs ∧ ps.length ≤ c ∧ c ≤ maxLen ∧ Rd (w.heap.size ≤ ·) w' A (ps.flatMap PD.cells) ∧ (∀ p ∈ ps, p.Sub (fun b => (S b ∧ b < w.heap.size) ∨ w.heap.size ≤ b) w') ∧ w.grownBy w' none
/- the steps, as plain data -/
def mgP (ags : List AggD) (as_ bs : List PD) (i k : Nat) : List PP := mergeP ags ((as_.map PD.pl).drop i) ((bs.map PD.pl).drop k)
theorem drop_pl {ps : List PD} {i : Nat} {x : PD} (h : ps[i]? = some x) : (ps.map PD.pl).drop i = x.pl :: (ps.map PD.pl).drop (i + 1) := by
  obtain ⟨h1, h2⟩ := List.getElem?_eq_some_iff.1 h
  rw [List.drop_eq_getElem_cons (by simpa using h1)]
  simp [h2]
theorem drop_end {ps : List PD} {i : Nat} (h : ps.length ≤ i) : (ps.map PD.pl).drop i = [] := List.drop_eq_nil_of_le (by simpa using h)
section
variable {ags : List AggD} {as_ bs : List PD} {i k : Nat} {x y : PD}
theorem mg_a (hk : bs.length ≤ k) (hx : as_[i]? = some x) : mgP ags as_ bs i k = x.pl :: mgP ags as_ bs (i + 1) k := by
  unfold mgP; rw [drop_end hk, mergeP_nil, mergeP_nil, drop_pl hx]
theorem mg_b (hi : as_.length ≤ i) (hy : bs[k]? = some y) : mgP ags as_ bs i k = y.pl :: mgP ags as_ bs i (k + 1) := by
  unfold mgP; rw [drop_end hi, mergeP, mergeP, drop_pl hy]
theorem mg_end (hi : as_.length ≤ i) (hk : bs.length ≤ k) : mgP ags as_ bs i k = [] := by
  unfold mgP; rw [drop_end hi, drop_end hk, mergeP]
theorem mg_lt (hx : as_[i]? = some x) (hy : bs[k]? = some y) (h : cmpK x.key.l y.key.l < 0) : mgP ags as_ bs i k = x.pl :: mgP ags as_ bs (i + 1) k := by
  unfold mgP
  have h1 : LtK x.pl.key y.pl.key := by have := cmpK_range x.key.l y.key.l; show cmpK x.key.l y.key.l = -1; omega
  rw [drop_pl hx, drop_pl hy, mergeP_lt h1, ← drop_pl hy]
theorem mg_gt (hx : as_[i]? = some x) (hy : bs[k]? = some y) (h : 0 < cmpK x.key.l y.key.l) : mgP ags as_ bs i k = y.pl :: mgP ags as_ bs i (k + 1) := by
  unfold mgP
  have h1 : LtK y.pl.key x.pl.key := by have := cmpK_range x.key.l y.key.l; have := cmpK_anti x.key.l y.key.l; show cmpK y.key.l x.key.l = -1; omega
  rw [drop_pl hx, drop_pl hy, mergeP_gt h1, ← drop_pl hx]
theorem mg_eq (hx : as_[i]? = some x) (hy : bs[k]? = some y) (h : cmpK x.key.l y.key.l = 0) : mgP ags as_ bs i k = ⟨x.key.l, joinL ags (x.cs.map CM.pl) (y.cs.map CM.pl)⟩ :: mgP ags as_ bs (i + 1) (k + 1) := by
  unfold mgP
  rw [drop_pl hx, drop_pl hy, mergeP_eq (cmpK_eq h)]
  rfl
/-- what the switch has found -/
def StepP (ags : List AggD) (as_ bs : List PD) (i k : Nat) (d : Int) : Prop :=
  (d < 0 ∧ ∃ x, as_[i]? = some x ∧ mgP ags as_ bs i k = x.pl :: mgP ags as_ bs (i + 1) k) ∨
  (0 < d ∧ ∃ y, bs[k]? = some y ∧ mgP ags as_ bs i k = y.pl :: mgP ags as_ bs i (k + 1)) ∨
  (d = 0 ∧ ∃ x y, as_[i]? = some x ∧ bs[k]? = some y ∧ mgP ags as_ bs i k = ⟨x.key.l, joinL ags (x.cs.map CM.pl) (y.cs.map CM.pl)⟩ :: mgP ags as_ bs (i + 1) (k + 1))
theorem StepP.cmp (hx : as_[i]? = some x) (hy : bs[k]? = some y) : StepP ags as_ bs i k (cmpK x.key.l y.key.l) := by
  rcases Int.lt_trichotomy (cmpK x.key.l y.key.l) 0 with h | h | h
  · exact .inl ⟨h, x, hx, mg_lt hx hy h⟩
  · exact .inr (.inr ⟨h, x, y, hx, hy, mg_eq hx hy h⟩)
  · exact .inr (.inl ⟨h, y, hy, mg_gt hx hy h⟩)
end
end Go.Proofs.YtfkgcighooijhaaGreatDoor

namespace Go.Proofs.YtfkgcighooijhaaGreatDoor
open Go.RowKit
set_option linter.unusedVariables false
set_option linter.unusedSimpArgs false

set_option maxHeartbeats 16000000 in
set_option maxRecDepth 100000 in
theorem rjoin_any {S U : Nat → Prop} (Aa : Option Addr) (ags : List AggD) (ca : Nat) (x y : PD) (w : World) (hag : Rd U w Aa (ags.flatMap AggD.cells)) (hal : ags.length ≤ 1000) (hok : ∀ a ∈ ags, AggOk a) (hx : x.Sub S w) (hy : y.Sub S w) (hxn : x.cs.length = ags.length) (hyn : y.cs.length = ags.length) (hxv : ∀ c ∈ x.cs, c.v.l.length ≤ 100000) (hyv : ∀ c ∈ y.cs, c.v.l.length ≤ 100000) :
    Calls Tryz.prog 34 #[.slice Aa ags.length ca, .agg x.cells.toArray, .agg y.cells.toArray] w (RPartS S w ⟨x.key.l, rjL ags (x.cs.map CM.pl) (y.cs.map CM.pl)⟩) := by
  have HAG := Lib.hid hag
  have HOK := Lib.hid hok
  have HX := Lib.hid hx
  have HY := Lib.hid hy
  have HXN := Lib.hid hxn
  have HYN := Lib.hid hyn
  have HXV := Lib.hid hxv
  have HYV := Lib.hid hyv
  clear hag hok hx hy hxn hyn hxv hyv
  have hcx : x.cells.toArray = #[.slice x.key.a x.key.l.length x.key.c, .slice x.ta ags.length x.tc, .slice x.sa ags.length x.sc, .slice x.va ags.length x.vc] := by rw [← HXN.out]; rfl
  have hcy : y.cells.toArray = #[.slice y.key.a y.key.l.length y.key.c, .slice y.ta ags.length y.tc, .slice y.sa ags.length y.sc, .slice y.va ags.length y.vc] := by rw [← HYN.out]; rfl
  rw [hcx, hcy]
  clear hcx hcy
  obtain ⟨n, hn⟩ : ∃ n, n = ags.length := ⟨_, rfl⟩
  have HN := Lib.hid hn
  rw [← hn] at hal ⊢
  obtain ⟨Z, hZ⟩ : ∃ Z, Z = (⟨x.key.l, rjL ags (x.cs.map CM.pl) (y.cs.map CM.pl)⟩ : PP) := ⟨_, rfl⟩
  have HZ := Lib.hid hZ
  rw [← hZ]
  clear hZ hn
  go_enter Tryz.func34, Tryz.ntmps34
  go_upto_region 2 with fail
  obtain ⟨W, hW⟩ : ∃ W, W = (((w.alloc (.cells #[.slice x.key.a x.key.l.length x.key.c, .slice x.ta n x.tc, .slice x.sa n x.sc, .slice x.va n x.vc] 69)).alloc (.cells #[.slice y.key.a y.key.l.length y.key.c, .slice y.ta n y.tc, .slice y.sa n y.sc, .slice y.va n y.vc] 69)).alloc (.cells #[.slice none 0 0, .slice none 0 0, .slice none 0 0, .slice none 0 0] 69)).alloc (.cells #[.slice x.key.a x.key.l.length x.key.c, .slice none 0 0, .slice none 0 0, .slice none 0 0] 69) := ⟨_, rfl⟩
  obtain ⟨WA, hWA⟩ : ∃ W, W = ((w.alloc (.cells #[.slice x.key.a x.key.l.length x.key.c, .slice x.ta n x.tc, .slice x.sa n x.sc, .slice x.va n x.vc] 69)).alloc (.cells #[.slice y.key.a y.key.l.length y.key.c, .slice y.ta n y.tc, .slice y.sa n y.sc, .slice y.va n y.vc] 69)).alloc (.cells #[.slice none 0 0, .slice none 0 0, .slice none 0 0, .slice none 0 0] 69) := ⟨_, rfl⟩
  have GA : Hid (w.grownBy WA none) := Lib.hid (by rw [hWA]; exact only_alloc (only_alloc (only_alloc (only_refl w none) _) _) _)
  have HSA : Hid (WA.heap.size = w.heap.size + 1 + 1 + 1) := Lib.hid (by rw [hWA]; simp)
  have GW : Hid (WA.grownBy W none) := Lib.hid (by rw [hW, hWA]; exact only_alloc (only_refl _ none) _)
  have BA : Hid (Blk W w.heap.size 69 #[.slice x.key.a x.key.l.length x.key.c, .slice x.ta n x.tc, .slice x.sa n x.sc, .slice x.va n x.vc]) := Lib.hid (by rw [hW]; exact (((Blk.new w _ _).alloc _).alloc _).alloc _)
  have BB : Hid (Blk W (w.heap.size + 1) 69 #[.slice y.key.a y.key.l.length y.key.c, .slice y.ta n y.tc, .slice y.sa n y.sc, .slice y.va n y.vc]) := Lib.hid (by
    rw [hW]
    have h := Blk.new (w.alloc (.cells #[.slice x.key.a x.key.l.length x.key.c, .slice x.ta n x.tc, .slice x.sa n x.sc, .slice x.va n x.vc] 69)) 69 #[.slice y.key.a y.key.l.length y.key.c, .slice y.ta n y.tc, .slice y.sa n y.sc, .slice y.va n y.vc]
    rw [World.size_alloc] at h
    exact (h.alloc _).alloc _)
  have BR : Hid (Blk W (w.heap.size + 1 + 1) 69 #[.slice none 0 0, .slice none 0 0, .slice none 0 0, .slice none 0 0]) := Lib.hid (by
    rw [hW]
    have h := Blk.new ((w.alloc (.cells #[.slice x.key.a x.key.l.length x.key.c, .slice x.ta n x.tc, .slice x.sa n x.sc, .slice x.va n x.vc] 69)).alloc (.cells #[.slice y.key.a y.key.l.length y.key.c, .slice y.ta n y.tc, .slice y.sa n y.sc, .slice y.va n y.vc] 69)) 69 #[.slice none 0 0, .slice none 0 0, .slice none 0 0, .slice none 0 0]
    rw [World.size_alloc, World.size_alloc] at h
    exact h.alloc _)
  have BC : Hid (Blk W (w.heap.size + 1 + 1 + 1) 69 #[.slice x.key.a x.key.l.length x.key.c, .slice none 0 0, .slice none 0 0, .slice none 0 0]) := Lib.hid (by
    rw [hW]
    have h := Blk.new (((w.alloc (.cells #[.slice x.key.a x.key.l.length x.key.c, .slice x.ta n x.tc, .slice x.sa n x.sc, .slice x.va n x.vc] 69)).alloc (.cells #[.slice y.key.a y.key.l.length y.key.c, .slice y.ta n y.tc, .slice y.sa n y.sc, .slice y.va n y.vc] 69)).alloc (.cells #[.slice none 0 0, .slice none 0 0, .slice none 0 0, .slice none 0 0] 69)) 69 #[.slice x.key.a x.key.l.length x.key.c, .slice none 0 0, .slice none 0 0, .slice none 0 0]
    rw [World.size_alloc, World.size_alloc, World.size_alloc] at h
    exact h)
  rw [← hW]
  clear hW hWA
  obtain ⟨pa, hpa⟩ : ∃ b, b = w.heap.size := ⟨_, rfl⟩
  obtain ⟨pb, hpb⟩ : ∃ b, b = w.heap.size + 1 := ⟨_, rfl⟩
  obtain ⟨rb, hrb⟩ : ∃ b, b = w.heap.size + 1 + 1 := ⟨_, rfl⟩
  obtain ⟨pc, hpc⟩ : ∃ b, b = w.heap.size + 1 + 1 + 1 := ⟨_, rfl⟩
  have HPS : Hid (pa = w.heap.size ∧ pb = w.heap.size + 1 ∧ rb = w.heap.size + 1 + 1 ∧ pc = w.heap.size + 1 + 1 + 1) := Lib.hid ⟨hpa, hpb, hrb, hpc⟩
  rw [← hpc] at BC ⊢
  rw [← hrb] at BR ⊢
  rw [← hpb] at BB ⊢
  rw [← hpa] at BA ⊢
  clear hpa hpb hrb hpc
  go_wp2_with fail
  go_loopw [8] (fun v wr => ∃ (k : Nat) (cs : List CM) (vT vS vV : Value), v = .int .i64 k ∧ k ≤ n ∧ cs.length = k ∧ cs.map CM.pl = (rjL ags (x.cs.map CM.pl) (y.cs.map CM.pl)).take k ∧ MkR WA wr pc (.slice x.key.a x.key.l.length x.key.c) cs vT vS vV ∧
    Blk wr pa 69 #[.slice x.key.a x.key.l.length x.key.c, .slice x.ta n x.tc, .slice x.sa n x.sc, .slice x.va n x.vc] ∧ Blk wr pb 69 #[.slice y.key.a y.key.l.length y.key.c, .slice y.ta n y.tc, .slice y.sa n y.sc, .slice y.va n y.vc] ∧ Blk wr rb 69 #[.slice none 0 0, .slice none 0 0, .slice none 0 0, .slice none 0 0]) (fun v _ => n - (intOf v).toNat)
  case atStart => exact ⟨0, [], .slice none 0 0, .slice none 0 0, .slice none 0 0, rfl, Nat.zero_le _, rfl, rfl, ⟨⟨BC.out, World.ownsRow_nil _ _ _ _, World.ownsRow_nil _ _ _ _, World.ownsRow_nil _ _ _ _⟩, by simp, GW.out, by have := HPS.out; have := HSA.out; omega⟩, BA.out, BB.out, BR.out⟩
  case round =>
    obtain ⟨k, cs, vT, vS, vV, rfl, hk, hcl, hcs, hM, hA, hB, hR⟩ := hrel
    obtain ⟨W0, rfl⟩ : ∃ W, W = wr := ⟨_, rfl⟩
    have M := Lib.hid hM
    have hG := only_trans GA.out hM.gr
    have HCS := Lib.hid hcs
    have HCL : Hid (cs.length = k) := Lib.hid hcl
    have hcl1 : cs.length ≤ k := by omega
    have hcl2 : k ≤ cs.length := by omega
    clear BA BB BR BC GW hcs hM hcl
    by_cases hlt : k < n
    · have hkx : k < x.cs.length := by rw [HXN.out, ← HN.out]; exact hlt
      have hky : k < y.cs.length := by rw [HYN.out, ← HN.out]; exact hlt
      obtain ⟨ag, hag⟩ : ∃ c, ags[k]? = some c := ⟨_, List.getElem?_eq_getElem (by rw [← HN.out]; exact hlt)⟩
      obtain ⟨cx, hcx⟩ : ∃ c, x.cs[k]? = some c := ⟨_, List.getElem?_eq_getElem hkx⟩
      obtain ⟨cy, hcy⟩ : ∃ c, y.cs[k]? = some c := ⟨_, List.getElem?_eq_getElem hky⟩
      have hagok := HOK.out ag (List.mem_of_getElem? hag)
      obtain ⟨bG, oG, eG, hbG, g0, g1⟩ := agg_in (HAG.out.grown hG (by simp)) hag
      subst eG
      obtain ⟨-, xT, xS, xV, xc, -⟩ := HX.out.grown hG (by simp)
      obtain ⟨-, yT, yS, yV, yc, -⟩ := HY.out.grown hG (by simp)
      obtain ⟨bTx, oTx, eTx, hbTx, cTx⟩ := rd_get xT (k := k) (v := .int .i64 cx.t) (by simp [tOf, hcx])
      obtain ⟨bSx, oSx, eSx, hbSx, cSx⟩ := rd_get xS (k := k) (v := .bool cx.s) (by simp [sOf, hcx])
      obtain ⟨bVx, oVx, eVx, hbVx, cVx⟩ := rd_get xV (k := k) (v := .slice cx.v.a cx.v.l.length cx.v.c) (by simp [vOf, hcx, StrR.val])
      obtain ⟨bTy, oTy, eTy, hbTy, cTy⟩ := rd_get yT (k := k) (v := .int .i64 cy.t) (by simp [tOf, hcy])
      obtain ⟨bSy, oSy, eSy, hbSy, cSy⟩ := rd_get yS (k := k) (v := .bool cy.s) (by simp [sOf, hcy])
      obtain ⟨bVy, oVy, eVy, hbVy, cVy⟩ := rd_get yV (k := k) (v := .slice cy.v.a cy.v.l.length cy.v.c) (by simp [vOf, hcy, StrR.val])
      have VX0 := Lib.hid (xc cx (List.mem_of_getElem? hcx))
      have VY0 := Lib.hid (yc cy (List.mem_of_getElem? hcy))
      have hxl := HXV.out cx (List.mem_of_getElem? hcx)
      have hyl := HYV.out cy (List.mem_of_getElem? hcy)
      have HNX : Hid ((rjL ags (x.cs.map CM.pl) (y.cs.map CM.pl)).take (k + 1) = (rjL ags (x.cs.map CM.pl) (y.cs.map CM.pl)).take k ++ [rjC ag.kind cx.pl cy.pl]) := Lib.hid (by
        have h1 := rjL_at (ags := ags) (xs := x.cs.map CM.pl) (ys := y.cs.map CM.pl) (k := k) hag (x := cx.pl) (y := cy.pl) (by rw [List.getElem?_map, hcx]; rfl) (by rw [List.getElem?_map, hcy]; rfl)
        obtain ⟨h2, h3⟩ := List.getElem?_eq_some_iff.1 h1
        rw [List.take_succ_eq_append_getElem h2, h3])
      rw [eTx, eSx, eVx] at hA
      rw [eTy, eSy, eVy] at hB
      have HEX := Lib.hid (And.intro eTx (And.intro eSx eVx))
      have HEY := Lib.hid (And.intro eTy (And.intro eSy eVy))
      have hpa : pa < W0.heap.size := hA.lt
      have hpb' : pb < W0.heap.size := hB.lt
      have HA := Lib.hid hA
      have HB := Lib.hid hB
      have HR := Lib.hid hR
      have a1 := hA.cell 1; have a2 := hA.cell 2; have a3 := hA.cell 3
      have b1 := hB.cell 1; have b2 := hB.cell 2; have b3 := hB.cell 3
      simp at a1 a2 a3 b1 b2 b3
      have i1 : (k : Int) < (n : Int) := by omega
      have hgk := hagok.1
      have hgk4 := hagok.2.1
      clear xT xS xV xc yT yS yV yc hA hB hR hag hcx hcy hagok eTx eSx eVx eTy eSy eVy hkx hky hG
      go_upto_region 5 with fail
      go_cut [9, 10] (fun vt vs wx => vt = .int .i64 cx.t ∧ vs = .bool (cx.s || cy.s) ∧ W0.grownBy wx none)
      case first =>
        by_cases hs : cx.s = true
        · rw [hs] at cSx
          go_quiet (fail)
          go_wp2_with fail
          go_meet
          exact ⟨rfl, by rw [hs]; rfl, only_drewN (only_refl _ _) _⟩
        · have hs : cx.s = false := by simpa using hs
          rw [hs] at cSx
          go_quiet (fail)
          go_wp2_with fail
          go_meet
          exact ⟨rfl, by rw [hs]; rfl, only_drewN (only_refl _ _) _⟩
      case rest =>
      obtain ⟨rfl, rfl, hg5⟩ := hcut
      replace a1 := (cellG hg5 hpa).trans a1; replace a2 := (cellG hg5 hpa).trans a2; replace a3 := (cellG hg5 hpa).trans a3
      replace b1 := (cellG hg5 hpb').trans b1; replace b2 := (cellG hg5 hpb').trans b2; replace b3 := (cellG hg5 hpb').trans b3
      replace cTx := (cellG hg5 hbTx).trans cTx; replace cSx := (cellG hg5 hbSx).trans cSx; replace cVx := (cellG hg5 hbVx).trans cVx
      replace cTy := (cellG hg5 hbTy).trans cTy; replace cSy := (cellG hg5 hbSy).trans cSy; replace cVy := (cellG hg5 hbVy).trans cVy
      replace g0 := (cellG hg5 hbG).trans g0; replace g1 := (cellG hg5 hbG).trans g1
      obtain ⟨W, rfl⟩ : ∃ W, W = wc := ⟨_, rfl⟩
      have hz := hg5.size
      replace hpa := Nat.lt_of_lt_of_le hpa hz; replace hpb' := Nat.lt_of_lt_of_le hpb' hz
      replace hbTx := Nat.lt_of_lt_of_le hbTx hz; replace hbSx := Nat.lt_of_lt_of_le hbSx hz; replace hbVx := Nat.lt_of_lt_of_le hbVx hz
      replace hbTy := Nat.lt_of_lt_of_le hbTy hz; replace hbSy := Nat.lt_of_lt_of_le hbSy hz; replace hbVy := Nat.lt_of_lt_of_le hbVy hz
      replace hbG := Nat.lt_of_lt_of_le hbG hz
      have VX := Lib.hid (VX0.out.grown hg5 (by simp))
      have VY := Lib.hid (VY0.out.grown hg5 (by simp))
      have M5 := Lib.hid (M.out.ext hg5)
      have BA := Lib.hid (HA.out.grown hg5 (by simp))
      have BB := Lib.hid (HB.out.grown hg5 (by simp))
      have BR := Lib.hid (HR.out.grown hg5 (by simp))
      obtain ⟨vs5, hvs5⟩ : ∃ b : Bool, b = (cx.s || cy.s) := ⟨_, rfl⟩
      have HVS := Lib.hid hvs5
      rw [← hvs5]
      clear hg5 hz hvs5 M HA HB HR VX0 VY0
      obtain ⟨kd, fld⟩ := ag
      simp only at g0 g1 hgk hgk4 HNX
      obtain ⟨ZC, hZC⟩ : ∃ z, z = rjC kd cx.pl cy.pl := ⟨_, rfl⟩
      have HZC := Lib.hid hZC
      rw [← hZC] at HNX
      clear hZC
      go_upto_block 2 with fail
      go_cut [9, 11] (fun vt vv wx => ∃ cm : CM, vt = .int .i64 cm.t ∧ vv = .slice cm.v.a cm.v.l.length cm.v.c ∧ cm.s = vs5 ∧ cm.pl = ZC ∧ cm.v.In (W.heap.size ≤ ·) wx ∧ W.grownBy wx none)
      case first =>
        have hcase : kd = 0 ∨ kd = 1 ∨ kd = 2 ∨ kd = 3 ∨ kd = 4 := by omega
        rcases hcase with rfl | rfl | rfl | rfl | rfl
        · go_wp2_with fail
          go_meet
          exact ⟨⟨wrap64 (cx.t + cy.t), vs5, ⟨[], none, 0⟩⟩, by go_num, rfl, rfl, by rw [HZC.out, HVS.out]; rfl, StrR.nil_in, only_refl _ _⟩
        · go_wp2_with fail
          go_meet
          exact ⟨⟨wrap64 (cx.t + cy.t), vs5, ⟨[], none, 0⟩⟩, by go_num, rfl, rfl, by rw [HZC.out, HVS.out]; rfl, StrR.nil_in, only_refl _ _⟩
        · by_cases hs : cx.s = true
          · rw [hs] at cSx
            by_cases hs2 : cy.s = true
            · rw [hs2] at cSy
              by_cases hlt2 : cy.t < cx.t
              · have HZ2 : Hid (ZC = ⟨cy.t, vs5, []⟩) := Lib.hid (by rw [HZC.out, HVS.out]; simp [rjC, CM.pl, hs, hs2, hlt2])
                clear hs hs2
                go_wp2_with fail
                go_meet
                exact ⟨⟨cy.t, vs5, ⟨[], none, 0⟩⟩, rfl, rfl, rfl, HZ2.out.symm, StrR.nil_in, only_refl _ _⟩
              · have HZ2 : Hid (ZC = ⟨cx.t, vs5, []⟩) := Lib.hid (by rw [HZC.out, HVS.out]; simp [rjC, CM.pl, hs, hs2, hlt2])
                clear hs hs2
                go_wp2_with fail
                go_meet
                exact ⟨⟨cx.t, vs5, ⟨[], none, 0⟩⟩, rfl, rfl, rfl, HZ2.out.symm, StrR.nil_in, only_refl _ _⟩
            · have hs2 : cy.s = false := by simpa using hs2
              rw [hs2] at cSy
              have HZ2 : Hid (ZC = ⟨cx.t, vs5, []⟩) := Lib.hid (by rw [HZC.out, HVS.out]; simp [rjC, CM.pl, hs, hs2])
              clear hs hs2
              go_wp2_with fail
              go_meet
              exact ⟨⟨cx.t, vs5, ⟨[], none, 0⟩⟩, rfl, rfl, rfl, HZ2.out.symm, StrR.nil_in, only_refl _ _⟩
          · have hs : cx.s = false := by simpa using hs
            rw [hs] at cSx
            have HZ2 : Hid (ZC = ⟨cy.t, vs5, []⟩) := Lib.hid (by rw [HZC.out, HVS.out]; simp [rjC, CM.pl, hs])
            clear hs
            go_wp2_with fail
            go_meet
            exact ⟨⟨cy.t, vs5, ⟨[], none, 0⟩⟩, rfl, rfl, rfl, HZ2.out.symm, StrR.nil_in, only_refl _ _⟩
        · by_cases hs : cx.s = true
          · rw [hs] at cSx
            by_cases hs2 : cy.s = true
            · rw [hs2] at cSy
              by_cases hlt2 : cx.t < cy.t
              · have HZ2 : Hid (ZC = ⟨cy.t, vs5, []⟩) := Lib.hid (by rw [HZC.out, HVS.out]; simp [rjC, CM.pl, hs, hs2, hlt2])
                clear hs hs2
                go_wp2_with fail
                go_meet
                exact ⟨⟨cy.t, vs5, ⟨[], none, 0⟩⟩, rfl, rfl, rfl, HZ2.out.symm, StrR.nil_in, only_refl _ _⟩
              · have HZ2 : Hid (ZC = ⟨cx.t, vs5, []⟩) := Lib.hid (by rw [HZC.out, HVS.out]; simp [rjC, CM.pl, hs, hs2, hlt2])
                clear hs hs2
                go_wp2_with fail
                go_meet
                exact ⟨⟨cx.t, vs5, ⟨[], none, 0⟩⟩, rfl, rfl, rfl, HZ2.out.symm, StrR.nil_in, only_refl _ _⟩
            · have hs2 : cy.s = false := by simpa using hs2
              rw [hs2] at cSy
              have HZ2 : Hid (ZC = ⟨cx.t, vs5, []⟩) := Lib.hid (by rw [HZC.out, HVS.out]; simp [rjC, CM.pl, hs, hs2])
              clear hs hs2
              go_wp2_with fail
              go_meet
              exact ⟨⟨cx.t, vs5, ⟨[], none, 0⟩⟩, rfl, rfl, rfl, HZ2.out.symm, StrR.nil_in, only_refl _ _⟩
          · have hs : cx.s = false := by simpa using hs
            rw [hs] at cSx
            have HZ2 : Hid (ZC = ⟨cy.t, vs5, []⟩) := Lib.hid (by rw [HZC.out, HVS.out]; simp [rjC, CM.pl, hs])
            clear hs
            go_wp2_with fail
            go_meet
            exact ⟨⟨cy.t, vs5, ⟨[], none, 0⟩⟩, rfl, rfl, rfl, HZ2.out.symm, StrR.nil_in, only_refl _ _⟩
        · go_upto_region 18 with fail
          refine wp_region_gen 13 (JC [some (.pointer (some ⟨pa, 3, none⟩)), some (.slice (some ⟨bVx, oVx, none⟩) (n) (x.vc)), some (.int .i64 (k)), some (.pointer (some ⟨bVx, oVx + k, none⟩)), some (.slice cx.v.a cx.v.l.length cx.v.c), none, some (.pointer (some ⟨pb, 3, none⟩)), some (.slice (some ⟨bVy, oVy, none⟩) (n) (y.vc)), some (.int .i64 (k)), some (.pointer (some ⟨bVy, oVy + k, none⟩)), some (.slice cy.v.a cy.v.l.length cy.v.c), none, none] (fun D u w => W.grownBy w none ∧ (D 5 = true → D 11 = false → FreshS W.heap.size (cx.v.l.map .string) cx.v.l.length 9 w (u 5)) ∧ (D 11 = true → D 5 = true ∧ (D 12 = false → FreshS W.heap.size ((cx.v.l.map .string) ++ (cy.v.l.map .string)) (cx.v.l.length + cy.v.l.length) 9 w (u 11))) ∧ (D 12 = true → D 11 = true ∧ ∃ x : StrR, u 12 = x.val ∧ x.l = dist (cx.v.l ++ cy.v.l) ∧ x.In (W.heap.size ≤ ·) w))) (by kernel_rfl) (by kernel_rfl) ?_ ?_ ?_
          · intro u
            exact ⟨(fun j c _ h => by cases h), only_drew (only_refl _ _), (fun h => by cases h), (fun h => by cases h), (fun h => by cases h)⟩
          · intro AA hA
            have hasz : AA.tmps.size = 147 := by rw [hA]; kernel_rfl
            have ea4 : AA.eval (.tmp 4) = .pointer (some ⟨pa, 0, none⟩) := by rw [hA]; kernel_rfl
            have ea5 : AA.eval (.tmp 5) = .pointer (some ⟨pb, 0, none⟩) := by rw [hA]; kernel_rfl
            have ea8 : AA.eval (.tmp 8) = .int .i64 (k) := by rw [hA]; kernel_rfl
            clear hA
            simp only [List.take_succ_cons, List.take_zero]
            refine .cons ?_ (.cons ?_ (.cons ?_ (.cons ?_ (.cons ?_ (.cons ?_ (.cons ?_ (.cons ?_ (.cons ?_ (.cons ?_ (.cons ?_ (.cons ?_ (.cons ?_ (.nil)))))))))))))
            · exact gd_gen (by kernel_rfl) (Want.none_ rfl) rfl (fun D u w v h => by simpa [updB, upd] using h) (fun D u ρ w kn => by
                have e0 := kn.own 4 (c := .pointer (some ⟨pa, 0, none⟩)) (by kernel_rfl) ea4
                simp [execOp, kn.rho.con, e0, go_sem])
            · exact gd_gen (by kernel_rfl) (Want.none_ rfl) rfl (fun D u w v h => by simpa [updB, upd] using h) (fun D u ρ w kn => by
                have e0 := kn.con 0 113 (c := .pointer (some ⟨pa, 3, none⟩)) (by kernel_rfl) (by omega) (by kernel_rfl) rfl
                have f0 := (cellG kn.ext.1 hpa).trans a3
                simp [execOp, kn.rho.con, e0, f0, go_sem])
            · exact gd_gen (by kernel_rfl) (Want.none_ rfl) rfl (fun D u w v h => by simpa [updB, upd] using h) (fun D u ρ w kn => by
                have e0 := kn.own 8 (c := .int .i64 (k)) (by kernel_rfl) ea8
                simp [execOp, kn.rho.con, e0, go_sem])
            · exact gd_gen (by kernel_rfl) (Want.none_ rfl) rfl (fun D u w v h => by simpa [updB, upd] using h) (fun D u ρ w kn => by
                have e0 := kn.con 1 114 (c := .slice (some ⟨bVx, oVx, none⟩) (n) (x.vc)) (by kernel_rfl) (by omega) (by kernel_rfl) rfl
                have e1 := kn.con 2 115 (c := .int .i64 (k)) (by kernel_rfl) (by omega) (by kernel_rfl) rfl
                simp [execOp, kn.rho.con, e0, e1, go_sem, i1])
            · exact gd_gen (by kernel_rfl) (Want.none_ rfl) rfl (fun D u w v h => by simpa [updB, upd] using h) (fun D u ρ w kn => by
                have e0 := kn.con 3 116 (c := .pointer (some ⟨bVx, oVx + k, none⟩)) (by kernel_rfl) (by omega) (by kernel_rfl) rfl
                have f0 := (cellG kn.ext.1 hbVx).trans cVx
                simp [execOp, kn.rho.con, e0, f0, go_sem])
            · refine gd_eff (by kernel_rfl) (Want.none_ rfl) (fun D u ρ w kn hD => ?_)
              have e0 := kn.con 4 117 (c := .slice cx.v.a cx.v.l.length cx.v.c) (by kernel_rfl) (by omega) (by kernel_rfl) rfl
              obtain ⟨x1, x2, x3, x4⟩ := kn.ext
              have d11 : D 11 = false := by cases h : D 11 with | false => rfl | true => rw [(x3 h).1] at hD; cases hD
              have d12 : D 12 = false := by cases h : D 12 with | false => rfl | true => rw [(x4 h).1] at d11; cases d11
              obtain ⟨v', w', hr, hF, hg⟩ := fresh_app (W := W) Tryz.underlying24 strInfo rfl (by decide) cx.v.a cx.v.l.length cx.v.c (VX.out.1.grown x1 (by simp)) (List.length_map _) str_ones (by omega) x1.size
              exact ⟨v', w', exec_append rfl (kn.rho.con _) e0 hr, (fun c h => by injection h with h; cases h), only_trans x1 hg, fun _ _ => by rw [upd_at]; exact hF, (fun h => by rw [updB_ne D (by omega)] at h; rw [d11] at h; cases h), (fun h => by rw [updB_ne D (by omega)] at h; rw [d12] at h; cases h)⟩
            · exact gd_gen (by kernel_rfl) (Want.none_ rfl) rfl (fun D u w v h => by simpa [updB, upd] using h) (fun D u ρ w kn => by
                have e0 := kn.own 5 (c := .pointer (some ⟨pb, 0, none⟩)) (by kernel_rfl) ea5
                simp [execOp, kn.rho.con, e0, go_sem])
            · exact gd_gen (by kernel_rfl) (Want.none_ rfl) rfl (fun D u w v h => by simpa [updB, upd] using h) (fun D u ρ w kn => by
                have e0 := kn.con 6 119 (c := .pointer (some ⟨pb, 3, none⟩)) (by kernel_rfl) (by omega) (by kernel_rfl) rfl
                have f0 := (cellG kn.ext.1 hpb').trans b3
                simp [execOp, kn.rho.con, e0, f0, go_sem])
            · exact gd_gen (by kernel_rfl) (Want.none_ rfl) rfl (fun D u w v h => by simpa [updB, upd] using h) (fun D u ρ w kn => by
                have e0 := kn.own 8 (c := .int .i64 (k)) (by kernel_rfl) ea8
                simp [execOp, kn.rho.con, e0, go_sem])
            · exact gd_gen (by kernel_rfl) (Want.none_ rfl) rfl (fun D u w v h => by simpa [updB, upd] using h) (fun D u ρ w kn => by
                have e0 := kn.con 7 120 (c := .slice (some ⟨bVy, oVy, none⟩) (n) (y.vc)) (by kernel_rfl) (by omega) (by kernel_rfl) rfl
                have e1 := kn.con 8 121 (c := .int .i64 (k)) (by kernel_rfl) (by omega) (by kernel_rfl) rfl
                simp [execOp, kn.rho.con, e0, e1, go_sem, i1])
            · exact gd_gen (by kernel_rfl) (Want.none_ rfl) rfl (fun D u w v h => by simpa [updB, upd] using h) (fun D u ρ w kn => by
                have e0 := kn.con 9 122 (c := .pointer (some ⟨bVy, oVy + k, none⟩)) (by kernel_rfl) (by omega) (by kernel_rfl) rfl
                have f0 := (cellG kn.ext.1 hbVy).trans cVy
                simp [execOp, kn.rho.con, e0, f0, go_sem])
            · refine gd_eff (by kernel_rfl) (Want.none_ rfl) (fun D u ρ w kn hD => ?_)
              have e0 := kn.slot 5 118 (by kernel_rfl) (by omega)
              have e1 := kn.con 10 123 (c := .slice cy.v.a cy.v.l.length cy.v.c) (by kernel_rfl) (by omega) (by kernel_rfl) rfl
              have d5 := kn.dep 5 (by kernel_rfl)
              obtain ⟨x1, x2, x3, x4⟩ := kn.ext
              have d12 : D 12 = false := by cases h : D 12 with | false => rfl | true => rw [(x4 h).1] at hD; cases hD
              obtain ⟨v', w', hr, hF, hg⟩ := fresh_more (x2 d5 hD) Tryz.underlying24 strInfo rfl (by decide) cy.v.a cy.v.l.length cy.v.c (VY.out.1.grown x1 (by simp)) (List.length_map _) str_ones (by omega) x1
              exact ⟨v', w', exec_append rfl e0 e1 hr, (fun c h => by injection h with h; cases h), hg, (fun _ h => by rw [updB_at] at h; cases h), (fun _ => ⟨by rw [updB_ne D (by omega)]; exact d5, fun _ => by rw [upd_at]; exact hF⟩), (fun h => by rw [updB_ne D (by omega)] at h; rw [d12] at h; cases h)⟩
            · refine gd_call (by kernel_rfl) (Want.none_ rfl) 55 (fun D u ρ w kn hD => ?_)
              have e0 := kn.slot 11 124 (by kernel_rfl) (by omega)
              have d11 := kn.dep 11 (by kernel_rfl)
              obtain ⟨x1, x2, x3, x4⟩ := kn.ext
              obtain ⟨AF, cF, hF, f1, f2, f3⟩ := (x3 d11).2 hD
              rw [hF] at e0
              have h0 := dist_pl AF (cx.v.l ++ cy.v.l) cF w (by rw [List.map_append]; exact rd_ownG f3) (by rw [List.length_append]; omega) (by rw [List.length_append]; exact f1) f2
              rw [List.length_append] at h0
              refine ⟨#[.slice AF (cx.v.l.length + cy.v.l.length) cF], ?_, h0.mono ?_⟩
              · simp only [execOp, resolve, Deferred.ofValue, List.map_toArray, List.map_cons, List.map_nil, e0, kn.rho.con, kn.rho.fn]
                try simp [go_sem]
              · rintro e w' ⟨z, rfl, z1, z2, hg⟩
                exact ⟨_, rfl, (fun c h => by injection h with h; cases h), only_trans x1 hg, (fun _ h => by rw [updB_ne D (by omega), d11] at h; cases h), (fun _ => ⟨by rw [updB_ne D (by omega)]; exact (x3 d11).1, (fun h => by rw [updB_at] at h; cases h)⟩), fun _ => ⟨by rw [updB_ne D (by omega)]; exact d11, z, by rw [upd_at], z1, z2.mono (fun b hb _ => Nat.le_trans x1.size hb)⟩⟩
          · intro D u w3 hJ hD
            obtain ⟨hc, x1, x2, x3, x4⟩ := hJ
            obtain ⟨-, z, hz, z1, z2⟩ := x4 (hD 12 (by omega))
            simp only [List.take_succ_cons, List.take_zero, List.drop_succ_cons, List.drop_zero, putAll]
            rw [hz, show z.val = .slice z.a z.l.length z.c from rfl]
            have HZ1 := Lib.hid z1
            have HZ2 := Lib.hid z2
            have HX1 := Lib.hid x1
            clear hc x1 x2 x3 x4 hz z1 z2 hD
            go_wp2_with fail
            go_simp
            go_meet
            exact ⟨⟨z.l.length, vs5, z⟩, rfl, rfl, rfl, by rw [HZC.out, HVS.out]; show CD.mk _ _ _ = _; rw [HZ1.out]; rfl, HZ2.out, HX1.out⟩
      case rest =>
      obtain ⟨cm, rfl, rfl, hms, hmp, hmi, hg6⟩ := hcut
      have HLT : Hid (∀ b, PB pc vT vS vV b → b < W.heap.size) := Lib.hid (fun b hb => M5.out.own.ltPB hb)
      have HWW : Hid (WA.heap.size ≤ W.heap.size) := Lib.hid M5.out.gr.size
      obtain ⟨N, hN⟩ : ∃ N, N = W.heap.size := ⟨_, rfl⟩
      rw [← hN] at hmi HLT HWW
      have HMI := Lib.hid hmi
      have HMP := Lib.hid hmp
      have MO := Lib.hid (M5.out.ext hg6)
      replace BA := Lib.hid (BA.out.grown hg6 (by simp))
      replace BB := Lib.hid (BB.out.grown hg6 (by simp))
      replace BR := Lib.hid (BR.out.grown hg6 (by simp))
      clear hN hmi hmp hg6 M5 a1 a2 a3 b1 b2 b3 cTx cSx cVx cTy cSy cVy g0 g1 hpa hpb' hbTx hbSx hbVx hbTy hbSy hbVy hbG VX VY HVS HZC
      obtain ⟨W, rfl⟩ : ∃ W', W' = wc := ⟨_, rfl⟩
      have hnp : ¬ RB vT vS vV pc := by
        rintro (e | e | e)
        · exact blk_norow MO.out.own.blk MO.out.own.t (by decide) e
        · exact blk_norow MO.out.own.blk MO.out.own.s (by decide) e
        · exact blk_norow MO.out.own.blk MO.out.own.v (by decide) e
      have hpb : pc < W.heap.size := MO.out.own.blk.lt
      have p1 := MO.out.own.blk.cell 1; have p2 := MO.out.own.blk.cell 2; have p3 := MO.out.own.blk.cell 3
      simp at p1 p2 p3
      have hnn : cs.length ≤ 1000000 := by omega
      have hbase : WA.heap.size ≤ W.heap.size := MO.out.gr.size
      rw [← hms]
      clear hms
      go_upto_region 20 with fail
      refine wp_region_gen 21 (JC [some (.pointer (some ⟨pc, 1, none⟩)), some (vT), some (.int .i64 cm.t), none, none, some (.pointer (some ⟨pc, 2, none⟩)), some (vS), some (.bool cm.s), none, none, some (.pointer (some ⟨pc, 3, none⟩)), some (vV), some (.slice cm.v.a cm.v.l.length cm.v.c), none, none, some (.pointer (some ⟨pc, 1, none⟩)), none, some (.pointer (some ⟨pc, 2, none⟩)), none, some (.pointer (some ⟨pc, 3, none⟩)), none] (Put3 W WA.heap.size pc cs cm vT vS vV)) (by kernel_rfl) (by kernel_rfl) ?_ ?_ ?_
      · intro u
        exact ⟨(fun j c _ h => by cases h), Put3.start MO.out.own.t MO.out.own.s MO.out.own.v⟩
      · intro AA hA
        have hasz : AA.tmps.size = 147 := by rw [hA]; kernel_rfl
        have ea7 : AA.eval (.tmp 7) = .pointer (some ⟨pc, 0, none⟩) := by rw [hA]; kernel_rfl
        have ea9 : AA.eval (.tmp 9) = .int .i64 cm.t := by rw [hA]; kernel_rfl
        have ea10 : AA.eval (.tmp 10) = .bool cm.s := by rw [hA]; kernel_rfl
        have ea11 : AA.eval (.tmp 11) = .slice cm.v.a cm.v.l.length cm.v.c := by rw [hA]; kernel_rfl
        clear hA
        simp only [List.take_succ_cons, List.take_zero]
        refine .cons ?_ (.cons ?_ (.cons ?_ (.cons ?_ (.cons ?_ (.cons ?_ (.cons ?_ (.cons ?_ (.cons ?_ (.cons ?_ (.cons ?_ (.cons ?_ (.cons ?_ (.cons ?_ (.cons ?_ (.cons ?_ (.cons ?_ (.cons ?_ (.cons ?_ (.cons ?_ (.cons ?_ (.nil)))))))))))))))))))))
        · exact gd_gen (by kernel_rfl) (Want.none_ rfl) rfl (fun D u w v h => h.other v (by omega)) (fun D u ρ w kn => by
            have e0 := kn.own 7 (c := .pointer (some ⟨pc, 0, none⟩)) (by kernel_rfl) ea7
            simp [execOp, kn.rho.con, e0, go_sem])
        · refine gd_eff (by kernel_rfl) (Want.none_ rfl) (fun D u ρ w kn hD => ?_)
          have h16 := kn.ext.not16 (by omega) hD
          obtain ⟨-, x1, x2, x3, x4⟩ := kn.ext.early h16
          have e0 := kn.con 0 128 (c := .pointer (some ⟨pc, 1, none⟩)) (by kernel_rfl) (by omega) (by kernel_rfl) rfl
          have f0 := (x1.cell hpb hnp).trans p1
          exact ⟨vT, w, by simp [execOp, kn.rho.con, e0, f0, go_sem], (fun c h => by injection h with h; injection h), kn.ext.other _ (by omega)⟩
        · exact gd_gen (by kernel_rfl) (Want.none_ rfl) rfl (fun D u w v h => h.other v (by omega)) (fun D u ρ w kn => by
            have e0 := kn.own 9 (c := .int .i64 cm.t) (by kernel_rfl) ea9
            simp [execOp, kn.rho.con, e0, go_sem])
        · refine gd_eff (by kernel_rfl) (Want.none_ rfl) (fun D u ρ w kn hD => ?_)
          have h16 := kn.ext.not16 (by omega) hD
          obtain ⟨-, x1, x2, x3, x4⟩ := kn.ext.early h16
          have e0 := kn.con 2 130 (c := .int .i64 cm.t) (by kernel_rfl) (by omega) (by kernel_rfl) rfl
          exact ⟨.slice (some ⟨w.heap.size, 0, none⟩) 1 1, w.alloc (.cells #[.int .i64 cm.t] 3), by simp [execOp, kn.rho.con, e0, go_sem], (fun c h => by injection h with h; cases h), kn.ext.turn (by omega) (by omega) (by omega) h16 (x1.alloc _) (x2.laid (by omega) hD x1.2.2.2.1) ((x3.ext (World.grownBy_alloc w _ none)).other _ (by omega) (by omega)) ((x4.ext (World.grownBy_alloc w _ none)).other _ (by omega) (by omega))⟩
        · refine gd_eff (by kernel_rfl) (Want.none_ rfl) (fun D u ρ w kn hD => ?_)
          have h16 := kn.ext.not16 (by omega) hD
          obtain ⟨-, x1, x2, x3, x4⟩ := kn.ext.early h16
          have e0 := kn.con 1 129 (c := vT) (by kernel_rfl) (by omega) (by kernel_rfl) rfl
          have e1 := kn.slot 3 131 (by kernel_rfl) (by omega)
          have h1 := kn.dep 3 (by kernel_rfl)
          obtain ⟨v', w', hr, ho, hg, hb⟩ := x2.run hD h1 47 47 Tryz.underlying47 intInfo37 rfl rfl (by decide) hnn (Nat.le_trans hbase x1.2.2.2.1)
          exact ⟨v', w', exec_append rfl e0 e1 hr, (fun c h => by injection h with h; cases h), kn.ext.turn (by omega) (by omega) (by omega) h16 (x1.grow hg (fun g hg => .inl (.inl hg))) (x2.done (by omega) hD h1 x1.2.2.2.1 ho hb) ((x3.grow hg (own_rowT (x2.before hD).1) (by decide)).other _ (by omega) (by omega)) ((x4.grow hg (own_rowT (x2.before hD).1) (by decide)).other _ (by omega) (by omega))⟩
        · exact gd_gen (by kernel_rfl) (Want.none_ rfl) rfl (fun D u w v h => h.other v (by omega)) (fun D u ρ w kn => by
            have e0 := kn.own 7 (c := .pointer (some ⟨pc, 0, none⟩)) (by kernel_rfl) ea7
            simp [execOp, kn.rho.con, e0, go_sem])
        · refine gd_eff (by kernel_rfl) (Want.none_ rfl) (fun D u ρ w kn hD => ?_)
          have h16 := kn.ext.not16 (by omega) hD
          obtain ⟨-, x1, x2, x3, x4⟩ := kn.ext.early h16
          have e0 := kn.con 5 133 (c := .pointer (some ⟨pc, 2, none⟩)) (by kernel_rfl) (by omega) (by kernel_rfl) rfl
          have f0 := (x1.cell hpb hnp).trans p2
          exact ⟨vS, w, by simp [execOp, kn.rho.con, e0, f0, go_sem], (fun c h => by injection h with h; injection h), kn.ext.other _ (by omega)⟩
        · exact gd_gen (by kernel_rfl) (Want.none_ rfl) rfl (fun D u w v h => h.other v (by omega)) (fun D u ρ w kn => by
            have e0 := kn.own 10 (c := .bool cm.s) (by kernel_rfl) ea10
            simp [execOp, kn.rho.con, e0, go_sem])
        · refine gd_eff (by kernel_rfl) (Want.none_ rfl) (fun D u ρ w kn hD => ?_)
          have h16 := kn.ext.not16 (by omega) hD
          obtain ⟨-, x1, x2, x3, x4⟩ := kn.ext.early h16
          have e0 := kn.con 7 135 (c := .bool cm.s) (by kernel_rfl) (by omega) (by kernel_rfl) rfl
          exact ⟨.slice (some ⟨w.heap.size, 0, none⟩) 1 1, w.alloc (.cells #[.bool cm.s] 4), by simp [execOp, kn.rho.con, e0, go_sem], (fun c h => by injection h with h; cases h), kn.ext.turn (by omega) (by omega) (by omega) h16 (x1.alloc _) ((x2.ext (World.grownBy_alloc w _ none)).other _ (by omega) (by omega)) (x3.laid (by omega) hD x1.2.2.2.1) ((x4.ext (World.grownBy_alloc w _ none)).other _ (by omega) (by omega))⟩
        · refine gd_eff (by kernel_rfl) (Want.none_ rfl) (fun D u ρ w kn hD => ?_)
          have h16 := kn.ext.not16 (by omega) hD
          obtain ⟨-, x1, x2, x3, x4⟩ := kn.ext.early h16
          have e0 := kn.con 6 134 (c := vS) (by kernel_rfl) (by omega) (by kernel_rfl) rfl
          have e1 := kn.slot 8 136 (by kernel_rfl) (by omega)
          have h1 := kn.dep 8 (by kernel_rfl)
          obtain ⟨v', w', hr, ho, hg, hb⟩ := x3.run hD h1 66 66 Tryz.underlying66 boolInfo37 rfl rfl (by decide) hnn (Nat.le_trans hbase x1.2.2.2.1)
          exact ⟨v', w', exec_append rfl e0 e1 hr, (fun c h => by injection h with h; cases h), kn.ext.turn (by omega) (fun _ => kn.dep 4 (by kernel_rfl)) (by omega) h16 (x1.grow hg (fun g hg => .inl (.inr (.inl hg)))) ((x2.grow hg (own_rowT (x3.before hD).1) (by decide)).other _ (by omega) (by omega)) (x3.done (by omega) hD h1 x1.2.2.2.1 ho hb) ((x4.grow hg (own_rowT (x3.before hD).1) (by decide)).other _ (by omega) (by omega))⟩
        · exact gd_gen (by kernel_rfl) (Want.none_ rfl) rfl (fun D u w v h => h.other v (by omega)) (fun D u ρ w kn => by
            have e0 := kn.own 7 (c := .pointer (some ⟨pc, 0, none⟩)) (by kernel_rfl) ea7
            simp [execOp, kn.rho.con, e0, go_sem])
        · refine gd_eff (by kernel_rfl) (Want.none_ rfl) (fun D u ρ w kn hD => ?_)
          have h16 := kn.ext.not16 (by omega) hD
          obtain ⟨-, x1, x2, x3, x4⟩ := kn.ext.early h16
          have e0 := kn.con 10 138 (c := .pointer (some ⟨pc, 3, none⟩)) (by kernel_rfl) (by omega) (by kernel_rfl) rfl
          have f0 := (x1.cell hpb hnp).trans p3
          exact ⟨vV, w, by simp [execOp, kn.rho.con, e0, f0, go_sem], (fun c h => by injection h with h; injection h), kn.ext.other _ (by omega)⟩
        · exact gd_gen (by kernel_rfl) (Want.none_ rfl) rfl (fun D u w v h => h.other v (by omega)) (fun D u ρ w kn => by
            have e0 := kn.own 11 (c := .slice cm.v.a cm.v.l.length cm.v.c) (by kernel_rfl) ea11
            simp [execOp, kn.rho.con, e0, go_sem])
        · refine gd_eff (by kernel_rfl) (Want.none_ rfl) (fun D u ρ w kn hD => ?_)
          have h16 := kn.ext.not16 (by omega) hD
          obtain ⟨-, x1, x2, x3, x4⟩ := kn.ext.early h16
          have e0 := kn.con 12 140 (c := .slice cm.v.a cm.v.l.length cm.v.c) (by kernel_rfl) (by omega) (by kernel_rfl) rfl
          exact ⟨.slice (some ⟨w.heap.size, 0, none⟩) 1 1, w.alloc (.cells #[.slice cm.v.a cm.v.l.length cm.v.c] 24), by simp [execOp, kn.rho.con, e0, go_sem], (fun c h => by injection h with h; cases h), kn.ext.turn (by omega) (by omega) (by omega) h16 (x1.alloc _) ((x2.ext (World.grownBy_alloc w _ none)).other _ (by omega) (by omega)) ((x3.ext (World.grownBy_alloc w _ none)).other _ (by omega) (by omega)) (x4.laid (by omega) hD x1.2.2.2.1)⟩
        · refine gd_eff (by kernel_rfl) (Want.none_ rfl) (fun D u ρ w kn hD => ?_)
          have h16 := kn.ext.not16 (by omega) hD
          obtain ⟨-, x1, x2, x3, x4⟩ := kn.ext.early h16
          have e0 := kn.con 11 139 (c := vV) (by kernel_rfl) (by omega) (by kernel_rfl) rfl
          have e1 := kn.slot 13 141 (by kernel_rfl) (by omega)
          have h1 := kn.dep 13 (by kernel_rfl)
          obtain ⟨v', w', hr, ho, hg, hb⟩ := x4.run hD h1 67 67 Tryz.underlying67 strsInfo37 rfl rfl (by decide) hnn (Nat.le_trans hbase x1.2.2.2.1)
          exact ⟨v', w', exec_append rfl e0 e1 hr, (fun c h => by injection h with h; cases h), kn.ext.turn (by omega) (by omega) (fun _ => kn.dep 9 (by kernel_rfl)) h16 (x1.grow hg (fun g hg => .inl (.inr (.inr hg)))) ((x2.grow hg (own_rowT (x4.before hD).1) (by decide)).other _ (by omega) (by omega)) ((x3.grow hg (own_rowT (x4.before hD).1) (by decide)).other _ (by omega) (by omega)) (x4.done (by omega) hD h1 x1.2.2.2.1 ho hb)⟩
        · exact gd_gen (by kernel_rfl) (Want.none_ rfl) rfl (fun D u w v h => h.other v (by omega)) (fun D u ρ w kn => by
            have e0 := kn.own 7 (c := .pointer (some ⟨pc, 0, none⟩)) (by kernel_rfl) ea7
            simp [execOp, kn.rho.con, e0, go_sem])
        · refine gd_skip (by kernel_rfl) (Want.none_ rfl) rfl (fun D u ρ w kn hD => ?_)
          have e0 := kn.con 15 143 (c := .pointer (some ⟨pc, 1, none⟩)) (by kernel_rfl) (by omega) (by kernel_rfl) rfl
          have e1 := kn.slot 4 132 (by kernel_rfl) (by omega)
          exact kn.ext.st1 MO.out.own hD (kn.dep 1 (by kernel_rfl)) (kn.dep 6 (by kernel_rfl)) (kn.dep 11 (by kernel_rfl)) (kn.dep 14 (by kernel_rfl)) ρ rfl e0 e1
        · exact gd_gen (by kernel_rfl) (Want.none_ rfl) rfl (fun D u w v h => h.other v (by omega)) (fun D u ρ w kn => by
            have e0 := kn.own 7 (c := .pointer (some ⟨pc, 0, none⟩)) (by kernel_rfl) ea7
            simp [execOp, kn.rho.con, e0, go_sem])
        · refine gd_skip (by kernel_rfl) (Want.none_ rfl) rfl (fun D u ρ w kn hD => ?_)
          have e0 := kn.con 17 144 (c := .pointer (some ⟨pc, 2, none⟩)) (by kernel_rfl) (by omega) (by kernel_rfl) rfl
          have e1 := kn.slot 9 137 (by kernel_rfl) (by omega)
          exact kn.ext.st2 MO.out.own hD (kn.dep 16 (by kernel_rfl)) ρ rfl e0 e1
        · exact gd_gen (by kernel_rfl) (Want.none_ rfl) rfl (fun D u w v h => h.other v (by omega)) (fun D u ρ w kn => by
            have e0 := kn.own 7 (c := .pointer (some ⟨pc, 0, none⟩)) (by kernel_rfl) ea7
            simp [execOp, kn.rho.con, e0, go_sem])
        · refine gd_skip (by kernel_rfl) (Want.none_ rfl) rfl (fun D u ρ w kn hD => ?_)
          have e0 := kn.con 19 145 (c := .pointer (some ⟨pc, 3, none⟩)) (by kernel_rfl) (by omega) (by kernel_rfl) rfl
          have e1 := kn.slot 14 142 (by kernel_rfl) (by omega)
          exact kn.ext.st3_ MO.out.own hD (kn.dep 18 (by kernel_rfl)) (kn.dep 16 (by kernel_rfl)) ρ rfl e0 e1
      · intro D u w9 hJ hD
        obtain ⟨w3, h3, hw9⟩ := hJ.2.fin (hD 16 (by omega)) (hD 18 (by omega)) (hD 20 (by omega))
        obtain ⟨NT, hNT⟩ : ∃ v, v = u 4 := ⟨_, rfl⟩
        obtain ⟨NS, hNS⟩ : ∃ v, v = u 9 := ⟨_, rfl⟩
        obtain ⟨NV, hNV⟩ : ∃ v, v = u 14 := ⟨_, rfl⟩
        rw [← hNT, ← hNS, ← hNV] at h3 hw9
        have DN := put3_done (c := cm) MO.out.own h3.fr h3.t h3.s h3.v
        rw [← hw9] at DN
        have HDN := Lib.hid DN
        have HNW : Hid (Newer W vT NT ∧ Newer W vS NS ∧ Newer W vV NV) := Lib.hid ⟨h3.t.2, h3.s.2, h3.v.2⟩
        simp only [List.take_succ_cons, List.take_zero, List.drop_succ_cons, List.drop_zero, putAll]
        clear DN hD hJ h3 hw9 hNT hNS hNV p1 p2 p3 hpb hnp
        go_wp2_with fail
        have HPS2 := HPS.out
        go_roundw
        case rel => exact ⟨k + 1, cs ++ [cm], _, _, _, by go_num, by omega, by have := HCL.out; simp; omega, by rw [HNX.out, List.map_append, HCS.out, List.map_singleton, HMP.out], MO.out.put HDN.out.1 HDN.out.2 HNW.out.1 HNW.out.2.1 HNW.out.2.2 HMI.out HLT.out HWW.out,
          by rw [HEX.out.1, HEX.out.2.1, HEX.out.2.2]; exact HDN.out.2.blk BA.out (MO.out.own.notPB BA.out (by omega) (by decide) (by decide) (by decide)), by rw [HEY.out.1, HEY.out.2.1, HEY.out.2.2]; exact HDN.out.2.blk BB.out (MO.out.own.notPB BB.out (by omega) (by decide) (by decide) (by decide)), HDN.out.2.blk BR.out (MO.out.own.notPB BR.out (by omega) (by decide) (by decide) (by decide))⟩
        case measure => simp [intOf]; omega
    · have i1 : ¬ (k : Int) < (n : Int) := by omega
      obtain ⟨p, hpk, hpc, hps, hv1, hv2, hv3⟩ := M.out.part (S := fun b => S b ∧ b < w.heap.size) ((HX.out.1.mono (S' := fun b => S b ∧ b < w.heap.size) (fun b hs h => ⟨hs, h⟩)).grown hG (by simp))
      subst hv1 hv2 hv3
      have hBP := M.out.own.blk
      have p0 := hBP.cell 0; have p1 := hBP.cell 1; have p2 := hBP.cell 2; have p3 := hBP.cell 3
      have r0 := hR.cell 0; have r1 := hR.cell 1; have r2 := hR.cell 2; have r3 := hR.cell 3
      have f0 := hR.frozen 0; have f1 := hR.frozen 1; have f2 := hR.frozen 2; have f3 := hR.frozen 3
      simp at p0 p1 p2 p3 r0 r1 r2 r3
      have HPK := Lib.hid hpk
      have HPC := Lib.hid hpc
      have HPP := Lib.hid hps
      have BR := Lib.hid hR
      clear hBP hpk hpc hps hR hA hB
      have HPS2 := Lib.hid HPS.out
      go_wp2_with fail
      have hB9 := set4_blk (x := .slice x.key.a x.key.l.length x.key.c) (y := .slice p.ta cs.length p.tc) (z := .slice p.sa cs.length p.sc) (u := .slice p.va cs.length p.vc) BR.out
      have q0 := hB9.cell 0; have q1 := hB9.cell 1; have q2 := hB9.cell 2; have q3 := hB9.cell 3
      simp [set4] at q0 q1 q2 q3
      exact bodyPost_ret (v := .agg #[.slice x.key.a x.key.l.length x.key.c, .slice p.ta cs.length p.tc, .slice p.sa cs.length p.sc, .slice p.va cs.length p.vc]) (by simp [results, Tryz.results34, go_sem, q0, q1, q2, q3]) rfl
        ⟨p, by rw [HPK.out, HPC.out], by rw [HZ.out]; unfold PD.pl; have hcl := HCL.out; rw [HPK.out, HPC.out, HCS.out, List.take_of_length_le (by rw [rjL_len (by rw [List.length_map, HXN.out]) (by rw [List.length_map, HYN.out]), ← HN.out]; omega)], (HPP.out.grown set4_only (by
          have h1 := HPS2.out
          have h2 := HSA.out
          rintro b (hb | hb) e
          · injection e with e; have h3 : b < w.heap.size := hb.2; omega
          · injection e with e; have h3 : WA.heap.size ≤ b := hb; omega)).mono (fun b hb _ => hb.imp id (fun h => by have h3 : WA.heap.size ≤ b := h; have := HSA.out; omega)), only_fresh (only_trans GA.out M.out.gr) set4_only (by have := HPS2.out; omega)⟩
end Go.Proofs.YtfkgcighooijhaaGreatDoor

namespace Go.Proofs.YtfkgcighooijhaaGreatDoor
open Go.RowKit
set_option linter.unusedVariables false
set_option linter.unusedSimpArgs false

set_option maxHeartbeats 16000000 in
set_option maxRecDepth 100000 in
theorem rmerge37_any {S U : Nat → Prop} (Aa : Option Addr) (ags : List AggD) (ca : Nat) (A : Option Addr) (as_ : List PD) (cA : Nat) (B : Option Addr) (bs : List PD) (cB : Nat) (w0 : World)
    (hag : Rd U w0 Aa (ags.flatMap AggD.cells)) (hal : ags.length ≤ 1000) (hok : ∀ a ∈ ags, AggOk a) (hA : PDs S w0 A as_) (hB : PDs S w0 B bs) (hoA : ∀ p ∈ as_, OkP ags.length p) (hoB : ∀ p ∈ bs, OkP ags.length p) (hcA : CanP ags (as_.map PD.pl)) (hcB : CanP ags (bs.map PD.pl)) (hlen : as_.length + bs.length ≤ 100000) :
    Calls Tryz.prog 13 #[.slice Aa ags.length ca, .slice A as_.length cA, .slice B bs.length cB] w0 (RPartsS S w0 (mergeP ags (as_.map PD.pl) (bs.map PD.pl))) := by
  have HAG := Lib.hid hag
  have HOK := Lib.hid hok
  have HKI : Hid (KindsOk ags) := Lib.hid (fun a ha => ⟨(hok a ha).1, (hok a ha).2.1⟩)
  have HA : Hid (Rd (· < w0.heap.size) w0 A (as_.flatMap PD.cells)) := Lib.hid (hA.1.mono (fun b _ h => h))
  have HB : Hid (Rd (· < w0.heap.size) w0 B (bs.flatMap PD.cells)) := Lib.hid (hB.1.mono (fun b _ h => h))
  have HSA : Hid (∀ p ∈ as_, p.Sub (fun b => S b ∧ b < w0.heap.size) w0) := Lib.hid (fun p hp => (hA.2 p hp).mono (fun b h1 h2 => ⟨h1, h2⟩))
  have HSB : Hid (∀ p ∈ bs, p.Sub (fun b => S b ∧ b < w0.heap.size) w0) := Lib.hid (fun p hp => (hB.2 p hp).mono (fun b h1 h2 => ⟨h1, h2⟩))
  have HOA := Lib.hid hoA
  have HOB := Lib.hid hoB
  have HCA := Lib.hid hcA
  have HCB := Lib.hid hcB
  have HLEN := Lib.hid hlen
  obtain ⟨RES, hRES⟩ : ∃ r, r = mergeP ags (as_.map PD.pl) (bs.map PD.pl) := ⟨_, rfl⟩
  have HRES : Hid (RES = mgP ags as_ bs 0 0) := Lib.hid hRES
  rw [← hRES]
  obtain ⟨al, hald⟩ : ∃ n, n = as_.length := ⟨_, rfl⟩
  obtain ⟨bl, hbld⟩ : ∃ n, n = bs.length := ⟨_, rfl⟩
  have HL : Hid (al = as_.length ∧ bl = bs.length) := Lib.hid ⟨hald, hbld⟩
  rw [← hald, ← hbld] at hlen ⊢
  clear hRES hag hok hA hB hoA hoB hcA hcB hald hbld
  go_enter Tryz.func13, Tryz.ntmps13
  go_wp2_with fail
  go_loopw [7, 8, 9] (fun v7 v8 v9 wr => ∃ (i k : Nat) (outs : List PD), v8 = .int .i64 i ∧ v9 = .int .i64 k ∧ i ≤ al ∧ k ≤ bl ∧ outs.length ≤ i + k ∧ QRow S w0.heap.size wr v7 outs ∧ w0.grownBy wr none ∧ RES = outs.map PD.pl ++ mgP ags as_ bs i k) (fun _ v8 v9 _ => (al - (intOf v8).toNat) + (bl - (intOf v9).toNat))
  case atStart => exact ⟨0, 0, [], rfl, rfl, Nat.zero_le _, Nat.zero_le _, Nat.zero_le _, QRow.nil _ _ _, only_refl _ _, by simpa using HRES.out⟩
  case round =>
    obtain ⟨i, k, outs, rfl, rfl, hi, hk, hol, hO, hG, hR⟩ := hrel
    obtain ⟨W, rfl⟩ : ∃ W, W = wr := ⟨_, rfl⟩
    have HO := Lib.hid hO
    have G := Lib.hid hG
    have HR := Lib.hid hR
    have hbase : w0.heap.size ≤ W.heap.size := hG.size
    obtain ⟨vO, hvOd⟩ : ∃ v, v = u7 := ⟨_, rfl⟩
    rw [← hvOd] at HO ⊢
    clear hO hG hR HRES hvOd
    by_cases hend : i = al ∧ k = bl
    · obtain ⟨e1, e2⟩ := hend
      have HE : Hid (mgP ags as_ bs i k = []) := Lib.hid (mg_end (by rw [← HL.out.1]; omega) (by rw [← HL.out.2]; omega))
      have i1 : ¬ (i : Int) < (al : Int) := by omega
      have i2 : ¬ (k : Int) < (bl : Int) := by omega
      obtain ⟨AO, cO, hv, h1, h2, -, h3⟩ := Rd.of_own HO.out.own (by decide)
      have H12 := Lib.hid (And.intro h1 h2)
      have H3 := Lib.hid h3
      have HSUB := Lib.hid HO.out.sub
      rw [hv]
      clear e1 e2 hv h1 h2 h3 HO
      go_wp2_with fail
      go_ret
      exact ⟨AO, cO, outs, rfl, by rw [HR.out, HE.out, List.append_nil], H12.out.1, H12.out.2, H3.out, fun p hp => (HSUB.out p hp).mono (fun b hb _ => hb.imp id And.left), G.out⟩
    · have hne : i < al ∨ k < bl := by omega
      have hnlow : ∀ b, b < w0.heap.size → ¬ (Value.ownBlock vO = some b) := fun b hb e => by have := (HO.out.lt b e).1; omega
      have hvO : ∀ g, Value.ownBlock vO = some g → w0.heap.size ≤ g ∧ g < W.heap.size := HO.out.lt
      have HV := Lib.hid hvO
      have HNL := Lib.hid hnlow
      have hcon : (decide ((i : Int) < (al : Int)) || decide ((k : Int) < (bl : Int))) = true := by simp; omega
      clear hvO hnlow hend
      go_upto_region 3 with fail
      go_cut [20] (fun v wx => v = .bool true ∧ W = wx)
      case first =>
        by_cases hia : i < al
        · have o1 : (i : Int) < (al : Int) := by omega
          go_wp2_with fail
          go_meet
          exact ⟨rfl, rfl⟩
        · have o1 : ¬ (i : Int) < (al : Int) := by omega
          have o2 : (k : Int) < (bl : Int) := by omega
          go_wp2_with fail
          go_meet
          exact ⟨rfl, rfl⟩
      case rest =>
      obtain ⟨rfl, rfl⟩ := hcut
      go_upto_block 2 with fail
      go_cut [10] (fun v wx => ∃ d : Int, v = .int .i64 d ∧ StepP ags as_ bs i k d ∧ W.grownBy wx none)
      case first =>
        by_cases hkb : k = bl
        · have o1 : ((k : Int) == (bl : Int)) = true := by simp [hkb]
          have hia : i < al := by omega
          have HS : Hid (StepP ags as_ bs i k (-1)) := Lib.hid (.inl ⟨by omega, as_[i]'(by rw [← HL.out.1]; exact hia), List.getElem?_eq_getElem _, mg_a (by rw [← HL.out.2]; omega) (List.getElem?_eq_getElem _)⟩)
          clear hkb
          go_wp2_with fail
          go_meet
          exact ⟨-1, rfl, HS.out, only_refl _ _⟩
        · have o1 : ((k : Int) == (bl : Int)) = false := by rw [beq_eq_false_iff_ne]; omega
          have hkl : k < bl := by omega
          by_cases hia : i = al
          · have o2 : ((i : Int) == (al : Int)) = true := by simp [hia]
            have HS : Hid (StepP ags as_ bs i k 1) := Lib.hid (.inr (.inl ⟨by omega, bs[k]'(by rw [← HL.out.2]; exact hkl), List.getElem?_eq_getElem _, mg_b (by rw [← HL.out.1]; omega) (List.getElem?_eq_getElem _)⟩))
            clear hia hkb
            go_wp2_with fail
            go_meet
            exact ⟨1, rfl, HS.out, only_refl _ _⟩
          · have o2 : ((i : Int) == (al : Int)) = false := by rw [beq_eq_false_iff_ne]; omega
            have hil : i < al := by omega
            obtain ⟨x, hx⟩ : ∃ x, as_[i]? = some x := ⟨_, List.getElem?_eq_getElem (by rw [← HL.out.1]; exact hil)⟩
            obtain ⟨y, hy⟩ : ∃ y, bs[k]? = some y := ⟨_, List.getElem?_eq_getElem (by rw [← HL.out.2]; exact hkl)⟩
            have HS : Hid (StepP ags as_ bs i k (cmpK x.key.l y.key.l)) := Lib.hid (StepP.cmp hx hy)
            obtain ⟨bA, oA, eA, hbA, a0, -⟩ := pd_in (HA.out.grown G.out (by simp)) hx
            obtain ⟨bB, oB, eB, hbB, b0, -⟩ := pd_in (HB.out.grown G.out (by simp)) hy
            subst eA eB
            have okx := HOA.out x (List.mem_of_getElem? hx)
            have oky := HOB.out y (List.mem_of_getElem? hy)
            have KD : Hid (∀ w', W.grownBy w' none → Calls Tryz.prog 33 #[.slice x.key.a x.key.l.length x.key.c, .slice y.key.a y.key.l.length y.key.c] w' (IntQ (cmpK x.key.l y.key.l) w')) := Lib.hid (fun w' hg => rcmp_any _ _ x.key.l y.key.l _ _ w' (((HSA.out x (List.mem_of_getElem? hx)).1.1.grown G.out (by simp)).grown hg (by simp)) (((HSB.out y (List.mem_of_getElem? hy)).1.1.grown G.out (by simp)).grown hg (by simp)) (by have := okx.2.1; omega) (by have := oky.2.1; omega))
            obtain ⟨d, hd⟩ : ∃ d, d = cmpK x.key.l y.key.l := ⟨_, rfl⟩
            rw [← hd] at KD HS
            have i1 : (i : Int) < (al : Int) := by omega
            have i2 : (k : Int) < (bl : Int) := by omega
            clear hd okx oky hx hy hia hkb
            go_upto_region 5 with fail
            refine wp_region_gen 11 (JC [some (.slice (some ⟨bA, oA, none⟩) (al) (cA)), some (.int .i64 (i)), some (.pointer (some ⟨bA, oA + i * 4, none⟩)), some (.pointer (some ⟨bA, oA + i * 4, none⟩)), some (.slice x.key.a x.key.l.length x.key.c), some (.slice (some ⟨bB, oB, none⟩) (bl) (cB)), some (.int .i64 (k)), some (.pointer (some ⟨bB, oB + k * 4, none⟩)), some (.pointer (some ⟨bB, oB + k * 4, none⟩)), some (.slice y.key.a y.key.l.length y.key.c), some (.int .i64 (d))] (fun D u w => W.grownBy w none)) (by kernel_rfl) (by kernel_rfl) ?_ ?_ ?_
            · intro u
              exact ⟨(fun j c _ h => by cases h), only_drew (only_refl _ _)⟩
            · intro AA hA
              have hasz : AA.tmps.size = 84 := by rw [hA]; kernel_rfl
              have ea1 : AA.eval (.tmp 1) = .slice (some ⟨bA, oA, none⟩) (al) (cA) := by rw [hA]; kernel_rfl
              have ea2 : AA.eval (.tmp 2) = .slice (some ⟨bB, oB, none⟩) (bl) (cB) := by rw [hA]; kernel_rfl
              have ea8 : AA.eval (.tmp 8) = .int .i64 (i) := by rw [hA]; kernel_rfl
              have ea9 : AA.eval (.tmp 9) = .int .i64 (k) := by rw [hA]; kernel_rfl
              clear hA
              simp only [List.take_succ_cons, List.take_zero]
              refine .cons ?_ (.cons ?_ (.cons ?_ (.cons ?_ (.cons ?_ (.cons ?_ (.cons ?_ (.cons ?_ (.cons ?_ (.cons ?_ (.cons ?_ (.nil)))))))))))
              · exact gd_gen (by kernel_rfl) (Want.none_ rfl) rfl (fun D u w v h => h) (fun D u ρ w kn => by
                  have e0 := kn.own 1 (c := .slice (some ⟨bA, oA, none⟩) (al) (cA)) (by kernel_rfl) ea1
                  simp [execOp, kn.rho.con, e0, go_sem])
              · exact gd_gen (by kernel_rfl) (Want.none_ rfl) rfl (fun D u w v h => h) (fun D u ρ w kn => by
                  have e0 := kn.own 8 (c := .int .i64 (i)) (by kernel_rfl) ea8
                  simp [execOp, kn.rho.con, e0, go_sem])
              · exact gd_gen (by kernel_rfl) (Want.none_ rfl) rfl (fun D u w v h => h) (fun D u ρ w kn => by
                  have e0 := kn.con 0 21 (c := .slice (some ⟨bA, oA, none⟩) (al) (cA)) (by kernel_rfl) (by omega) (by kernel_rfl) rfl
                  have e1 := kn.con 1 22 (c := .int .i64 (i)) (by kernel_rfl) (by omega) (by kernel_rfl) rfl
                  simp [execOp, kn.rho.con, e0, e1, go_sem, i1])
              · exact gd_gen (by kernel_rfl) (Want.none_ rfl) rfl (fun D u w v h => h) (fun D u ρ w kn => by
                  have e0 := kn.con 2 23 (c := .pointer (some ⟨bA, oA + i * 4, none⟩)) (by kernel_rfl) (by omega) (by kernel_rfl) rfl
                  simp [execOp, kn.rho.con, e0, go_sem])
              · exact gd_gen (by kernel_rfl) (Want.none_ rfl) rfl (fun D u w v h => h) (fun D u ρ w kn => by
                  have e0 := kn.con 3 24 (c := .pointer (some ⟨bA, oA + i * 4, none⟩)) (by kernel_rfl) (by omega) (by kernel_rfl) rfl
                  have f0 := (cellG kn.ext hbA).trans a0
                  simp [execOp, kn.rho.con, e0, f0, go_sem])
              · exact gd_gen (by kernel_rfl) (Want.none_ rfl) rfl (fun D u w v h => h) (fun D u ρ w kn => by
                  have e0 := kn.own 2 (c := .slice (some ⟨bB, oB, none⟩) (bl) (cB)) (by kernel_rfl) ea2
                  simp [execOp, kn.rho.con, e0, go_sem])
              · exact gd_gen (by kernel_rfl) (Want.none_ rfl) rfl (fun D u w v h => h) (fun D u ρ w kn => by
                  have e0 := kn.own 9 (c := .int .i64 (k)) (by kernel_rfl) ea9
                  simp [execOp, kn.rho.con, e0, go_sem])
              · exact gd_gen (by kernel_rfl) (Want.none_ rfl) rfl (fun D u w v h => h) (fun D u ρ w kn => by
                  have e0 := kn.con 5 26 (c := .slice (some ⟨bB, oB, none⟩) (bl) (cB)) (by kernel_rfl) (by omega) (by kernel_rfl) rfl
                  have e1 := kn.con 6 27 (c := .int .i64 (k)) (by kernel_rfl) (by omega) (by kernel_rfl) rfl
                  simp [execOp, kn.rho.con, e0, e1, go_sem, i2])
              · exact gd_gen (by kernel_rfl) (Want.none_ rfl) rfl (fun D u w v h => h) (fun D u ρ w kn => by
                  have e0 := kn.con 7 28 (c := .pointer (some ⟨bB, oB + k * 4, none⟩)) (by kernel_rfl) (by omega) (by kernel_rfl) rfl
                  simp [execOp, kn.rho.con, e0, go_sem])
              · exact gd_gen (by kernel_rfl) (Want.none_ rfl) rfl (fun D u w v h => h) (fun D u ρ w kn => by
                  have e0 := kn.con 8 29 (c := .pointer (some ⟨bB, oB + k * 4, none⟩)) (by kernel_rfl) (by omega) (by kernel_rfl) rfl
                  have f0 := (cellG kn.ext hbB).trans b0
                  simp [execOp, kn.rho.con, e0, f0, go_sem])
              · refine gd_call (by kernel_rfl) (Want.none_ rfl) 33 (fun D u ρ w kn hD => ?_)
                have e0 := kn.con 4 25 (c := .slice x.key.a x.key.l.length x.key.c) (by kernel_rfl) (by omega) (by kernel_rfl) rfl
                have e1 := kn.con 9 30 (c := .slice y.key.a y.key.l.length y.key.c) (by kernel_rfl) (by omega) (by kernel_rfl) rfl
                refine ⟨#[.slice x.key.a x.key.l.length x.key.c, .slice y.key.a y.key.l.length y.key.c], ?_, (KD.out w kn.ext).mono ?_⟩
                · simp only [execOp, resolve, Deferred.ofValue, List.map_toArray, List.map_cons, List.map_nil, e0, e1, kn.rho.con, kn.rho.fn]
                  simp [go_sem]
                · rintro e w' ⟨rfl, nq, rfl⟩
                  exact ⟨_, rfl, (fun c h => by injection h with h; injection h), only_drewN kn.ext nq⟩
            · intro D u w3 hJ hD
              obtain ⟨hc, hg3⟩ := hJ
              have e8 : u 10 = .int .i64 d := hc 10 _ rfl (hD 10 (by omega))
              simp only [List.take_succ_cons, List.take_zero, List.drop_succ_cons, List.drop_zero, putAll]
              rw [e8]
              have HG3 := Lib.hid hg3
              clear hc hD e8 hg3 KD a0 b0
              go_wp2_with fail
              go_simp
              go_meet
              exact ⟨d, rfl, HS.out, HG3.out⟩
      case rest =>
      obtain ⟨d, rfl, hst, hg5⟩ := hcut
      have HO5 := Lib.hid (HO.out.ext hg5)
      have G5 := Lib.hid (only_trans G.out hg5)
      have HV5 : Hid (∀ g, Value.ownBlock vO = some g → w0.heap.size ≤ g ∧ g < wc.heap.size) := Lib.hid HO5.out.lt
      clear hg5 HO HV G hbase
      obtain ⟨W, rfl⟩ : ∃ W', W' = wc := ⟨_, rfl⟩
      have hbase : w0.heap.size ≤ W.heap.size := G5.out.size
      have hol2 : outs.length ≤ 1000000 := by omega
      rcases hst with ⟨hd, x, hx, hm⟩ | ⟨hd, y, hy, hm⟩ | ⟨hd, x, y, hx, hy, hm⟩
      · obtain ⟨bA, oA, eA, hbA, a0, a1, a2, a3⟩ := pd_in (HA.out.grown G5.out (by simp)) hx
        subst eA
        have i1 : (i : Int) < (al : Int) := by have := (List.getElem?_eq_some_iff.1 hx).1; have := HL.out.1; omega
        have SX := Lib.hid ((HSA.out x (List.mem_of_getElem? hx)).grown G5.out (by simp))
        have HM := Lib.hid hm
        clear hx hm
        go_wp2_with (at_builtin; go_must (refine wpList_append1 rfl _ _ 36 rfl w0.heap.size Tryz.underlying36 partInfo rfl (by decide) (v := vO) (by rfl) (w0 := W) (cs := pArr x) HO5.out.own (by rfl) rfl (by simp [Value.oneCell']) (by decide) (by omega) (by omega) ?_); intro v7 w7 hown7 hg7 hob7)
        have FR : FrN (fun i => Value.ownBlock vO = some i) W w7 := (FrN.refl _ W).grow hg7 (fun g hg => .inl hg)
        have ON := Lib.hid (HO5.out.snoc (p := x) (show w7.ownsRow w0.heap.size 69 4 v7 (outs.length + 1) (outs.flatMap PD.cells ++ x.cells) from hown7) (sub_old SX.out (fun g hg => (HV5.out g hg).1) FR) (fun g hg => by rcases hob7 with h2 | h2; exact .inl (h2.symm.trans hg); rw [h2] at hg; injection hg with hg; exact .inr (by omega)) FR)
        have GN : Hid (w0.grownBy w7 none) := Lib.hid (FR.none_ G5.out (fun i hi => (HV5.out i hi).1))
        clear hown7 hg7 hob7 FR a0 a1 a2 a3
        go_wp2_with fail
        go_roundw
        case rel => exact ⟨i + 1, k, outs ++ [x], by go_num, rfl, by omega, hk, by simp; omega, ON.out, GN.out, by rw [HR.out, HM.out, List.map_append, List.map_singleton]; simp⟩
        case measure => simp [intOf]; omega
      · obtain ⟨bB, oB, eB, hbB, b0, b1, b2, b3⟩ := pd_in (HB.out.grown G5.out (by simp)) hy
        subst eB
        have i1 : (k : Int) < (bl : Int) := by have := (List.getElem?_eq_some_iff.1 hy).1; have := HL.out.2; omega
        have i0 : ¬ d < 0 := by omega
        have SY := Lib.hid ((HSB.out y (List.mem_of_getElem? hy)).grown G5.out (by simp))
        have HM := Lib.hid hm
        clear hy hm
        go_wp2_with (at_builtin; go_must (refine wpList_append1 rfl _ _ 36 rfl w0.heap.size Tryz.underlying36 partInfo rfl (by decide) (v := vO) (by rfl) (w0 := W) (cs := pArr y) HO5.out.own (by rfl) rfl (by simp [Value.oneCell']) (by decide) (by omega) (by omega) ?_); intro v7 w7 hown7 hg7 hob7)
        have FR : FrN (fun i => Value.ownBlock vO = some i) W w7 := (FrN.refl _ W).grow hg7 (fun g hg => .inl hg)
        have ON := Lib.hid (HO5.out.snoc (p := y) (show w7.ownsRow w0.heap.size 69 4 v7 (outs.length + 1) (outs.flatMap PD.cells ++ y.cells) from hown7) (sub_old SY.out (fun g hg => (HV5.out g hg).1) FR) (fun g hg => by rcases hob7 with h2 | h2; exact .inl (h2.symm.trans hg); rw [h2] at hg; injection hg with hg; exact .inr (by omega)) FR)
        have GN : Hid (w0.grownBy w7 none) := Lib.hid (FR.none_ G5.out (fun i hi => (HV5.out i hi).1))
        clear hown7 hg7 hob7 FR b0 b1 b2 b3
        go_wp2_with fail
        go_roundw
        case rel => exact ⟨i, k + 1, outs ++ [y], rfl, by go_num, hi, by omega, by simp; omega, ON.out, GN.out, by rw [HR.out, HM.out, List.map_append, List.map_singleton]; simp⟩
        case measure => simp [intOf]; omega
      · obtain ⟨bA, oA, eA, hbA, a0, a1, a2, a3⟩ := pd_in (HA.out.grown G5.out (by simp)) hx
        obtain ⟨bB, oB, eB, hbB, b0, b1, b2, b3⟩ := pd_in (HB.out.grown G5.out (by simp)) hy
        subst eA eB
        have i1 : (i : Int) < (al : Int) := by have := (List.getElem?_eq_some_iff.1 hx).1; have := HL.out.1; omega
        have i2 : (k : Int) < (bl : Int) := by have := (List.getElem?_eq_some_iff.1 hy).1; have := HL.out.2; omega
        subst hd
        have SX := Lib.hid ((HSA.out x (List.mem_of_getElem? hx)).grown G5.out (by simp))
        have SY := Lib.hid ((HSB.out y (List.mem_of_getElem? hy)).grown G5.out (by simp))
        have HM := Lib.hid hm
        have okx := HOA.out x (List.mem_of_getElem? hx)
        have oky := HOB.out y (List.mem_of_getElem? hy)
        have cax : CanL ags (x.cs.map CM.pl) := HCA.out x.pl (List.mem_map.2 ⟨x, List.mem_of_getElem? hx, rfl⟩)
        have cay : CanL ags (y.cs.map CM.pl) := HCB.out y.pl (List.mem_map.2 ⟨y, List.mem_of_getElem? hy, rfl⟩)
        obtain ⟨zB, hzB⟩ : ∃ z : PP, z = ⟨x.key.l, joinL ags (x.cs.map CM.pl) (y.cs.map CM.pl)⟩ := ⟨_, rfl⟩
        have KJ : Hid (∀ w', FrN (fun i => Value.ownBlock vO = some i) W w' → Calls Tryz.prog 34 #[.slice Aa ags.length ca, .agg #[.slice x.key.a x.key.l.length x.key.c, .slice x.ta x.cs.length x.tc, .slice x.sa x.cs.length x.sc, .slice x.va x.cs.length x.vc], .agg #[.slice y.key.a y.key.l.length y.key.c, .slice y.ta y.cs.length y.tc, .slice y.sa y.cs.length y.sc, .slice y.va y.cs.length y.vc]] w' (RPartS (fun b => S b ∧ b < w0.heap.size) w' zB)) := Lib.hid (fun w' hf => by
          rw [hzB, ← rjL_eq HKI.out cax cay]
          exact rjoin_any (S := fun b => S b ∧ b < w0.heap.size) Aa ags ca x y w' (hf.rd ((HAG.out.mono (S' := (· < w0.heap.size)) (fun b _ h => h)).grown G5.out (by simp)) HNL.out) hal HOK.out (SX.out.fr hf (fun b hb => HNL.out b hb.2)) (SY.out.fr hf (fun b hb => HNL.out b hb.2)) okx.1 oky.1 okx.2.2 oky.2.2)
        rw [← hzB] at hm
        have HM := Lib.hid hm
        have hnA : ¬ (Value.ownBlock vO = some bA) := fun e => by have h1 := (HV5.out _ e).1; obtain ⟨b', o', e', h', -⟩ := HA.out (by rw [flat_len _ 4 PD.cells_len]; have := (List.getElem?_eq_some_iff.1 hx).1; omega); injection e' with e'; injection e' with e1 _; subst e1; exact absurd h' (by simp; omega)
        have hnB : ¬ (Value.ownBlock vO = some bB) := fun e => by have h1 := (HV5.out _ e).1; obtain ⟨b', o', e', h', -⟩ := HB.out (by rw [flat_len _ 4 PD.cells_len]; have := (List.getElem?_eq_some_iff.1 hy).1; omega); injection e' with e'; injection e' with e1 _; subst e1; exact absurd h' (by simp; omega)
        have hvO := HV5.out
        clear hx hy hm hzB okx oky cax cay
        go_upto_region 10 with fail
        refine wp_region_gen 13 (JC [some (vO), some (.slice Aa ags.length ca), some (.slice (some ⟨bA, oA, none⟩) (al) (cA)), some (.int .i64 (i)), some (.pointer (some ⟨bA, oA + i * 4, none⟩)), some (.agg #[.slice x.key.a x.key.l.length x.key.c, .slice x.ta x.cs.length x.tc, .slice x.sa x.cs.length x.sc, .slice x.va x.cs.length x.vc]), some (.slice (some ⟨bB, oB, none⟩) (bl) (cB)), some (.int .i64 (k)), some (.pointer (some ⟨bB, oB + k * 4, none⟩)), some (.agg #[.slice y.key.a y.key.l.length y.key.c, .slice y.ta y.cs.length y.tc, .slice y.sa y.cs.length y.sc, .slice y.va y.cs.length y.vc]), none, none, none] (fun D u w => FrN (fun i => Value.ownBlock vO = some i) W w ∧ QApp S W w0.heap.size 10 11 12 vO outs.length (outs.flatMap PD.cells) zB D u w)) (by kernel_rfl) (by kernel_rfl) ?_ ?_ ?_
        · intro u
          exact ⟨(fun j c _ h => by cases h), FrN.refl _ _, QApp.start HO5.out.own⟩
        · intro AA hA
          have hasz : AA.tmps.size = 84 := by rw [hA]; kernel_rfl
          have ea0 : AA.eval (.tmp 0) = .slice Aa ags.length ca := by rw [hA]; kernel_rfl
          have ea1 : AA.eval (.tmp 1) = .slice (some ⟨bA, oA, none⟩) (al) (cA) := by rw [hA]; kernel_rfl
          have ea2 : AA.eval (.tmp 2) = .slice (some ⟨bB, oB, none⟩) (bl) (cB) := by rw [hA]; kernel_rfl
          have ea7 : AA.eval (.tmp 7) = vO := by rw [hA]; kernel_rfl
          have ea8 : AA.eval (.tmp 8) = .int .i64 (i) := by rw [hA]; kernel_rfl
          have ea9 : AA.eval (.tmp 9) = .int .i64 (k) := by rw [hA]; kernel_rfl
          clear hA
          simp only [List.take_succ_cons, List.take_zero]
          refine .cons ?_ (.cons ?_ (.cons ?_ (.cons ?_ (.cons ?_ (.cons ?_ (.cons ?_ (.cons ?_ (.cons ?_ (.cons ?_ (.cons ?_ (.cons ?_ (.cons ?_ (.nil)))))))))))))
          · exact gd_gen (by kernel_rfl) (Want.none_ rfl) rfl (fun D u w v h => ⟨h.1, h.2.other v (by omega) (by omega) (by omega)⟩) (fun D u ρ w kn => by
              have e0 := kn.own 7 (c := vO) (by kernel_rfl) ea7
              simp [execOp, kn.rho.con, e0, go_sem])
          · exact gd_gen (by kernel_rfl) (Want.none_ rfl) rfl (fun D u w v h => ⟨h.1, h.2.other v (by omega) (by omega) (by omega)⟩) (fun D u ρ w kn => by
              have e0 := kn.own 0 (c := .slice Aa ags.length ca) (by kernel_rfl) ea0
              simp [execOp, kn.rho.con, e0, go_sem])
          · exact gd_gen (by kernel_rfl) (Want.none_ rfl) rfl (fun D u w v h => ⟨h.1, h.2.other v (by omega) (by omega) (by omega)⟩) (fun D u ρ w kn => by
              have e0 := kn.own 1 (c := .slice (some ⟨bA, oA, none⟩) (al) (cA)) (by kernel_rfl) ea1
              simp [execOp, kn.rho.con, e0, go_sem])
          · exact gd_gen (by kernel_rfl) (Want.none_ rfl) rfl (fun D u w v h => ⟨h.1, h.2.other v (by omega) (by omega) (by omega)⟩) (fun D u ρ w kn => by
              have e0 := kn.own 8 (c := .int .i64 (i)) (by kernel_rfl) ea8
              simp [execOp, kn.rho.con, e0, go_sem])
          · exact gd_gen (by kernel_rfl) (Want.none_ rfl) rfl (fun D u w v h => ⟨h.1, h.2.other v (by omega) (by omega) (by omega)⟩) (fun D u ρ w kn => by
              have e0 := kn.con 2 44 (c := .slice (some ⟨bA, oA, none⟩) (al) (cA)) (by kernel_rfl) (by omega) (by kernel_rfl) rfl
              have e1 := kn.con 3 45 (c := .int .i64 (i)) (by kernel_rfl) (by omega) (by kernel_rfl) rfl
              simp [execOp, kn.rho.con, e0, e1, go_sem, i1])
          · exact gd_gen (by kernel_rfl) (Want.none_ rfl) rfl (fun D u w v h => ⟨h.1, h.2.other v (by omega) (by omega) (by omega)⟩) (fun D u ρ w kn => by
              have e0 := kn.con 4 46 (c := .pointer (some ⟨bA, oA + i * 4, none⟩)) (by kernel_rfl) (by omega) (by kernel_rfl) rfl
              exact run_load ρ w rfl e0 (load_partAt w bA (oA + i * 4) x ((kn.ext.1.cell hbA hnA).trans a0) ((kn.ext.1.cell hbA hnA).trans a1) ((kn.ext.1.cell hbA hnA).trans a2) ((kn.ext.1.cell hbA hnA).trans a3)))
          · exact gd_gen (by kernel_rfl) (Want.none_ rfl) rfl (fun D u w v h => ⟨h.1, h.2.other v (by omega) (by omega) (by omega)⟩) (fun D u ρ w kn => by
              have e0 := kn.own 2 (c := .slice (some ⟨bB, oB, none⟩) (bl) (cB)) (by kernel_rfl) ea2
              simp [execOp, kn.rho.con, e0, go_sem])
          · exact gd_gen (by kernel_rfl) (Want.none_ rfl) rfl (fun D u w v h => ⟨h.1, h.2.other v (by omega) (by omega) (by omega)⟩) (fun D u ρ w kn => by
              have e0 := kn.own 9 (c := .int .i64 (k)) (by kernel_rfl) ea9
              simp [execOp, kn.rho.con, e0, go_sem])
          · exact gd_gen (by kernel_rfl) (Want.none_ rfl) rfl (fun D u w v h => ⟨h.1, h.2.other v (by omega) (by omega) (by omega)⟩) (fun D u ρ w kn => by
              have e0 := kn.con 6 48 (c := .slice (some ⟨bB, oB, none⟩) (bl) (cB)) (by kernel_rfl) (by omega) (by kernel_rfl) rfl
              have e1 := kn.con 7 49 (c := .int .i64 (k)) (by kernel_rfl) (by omega) (by kernel_rfl) rfl
              simp [execOp, kn.rho.con, e0, e1, go_sem, i2])
          · exact gd_gen (by kernel_rfl) (Want.none_ rfl) rfl (fun D u w v h => ⟨h.1, h.2.other v (by omega) (by omega) (by omega)⟩) (fun D u ρ w kn => by
              have e0 := kn.con 8 50 (c := .pointer (some ⟨bB, oB + k * 4, none⟩)) (by kernel_rfl) (by omega) (by kernel_rfl) rfl
              exact run_load ρ w rfl e0 (load_partAt w bB (oB + k * 4) y ((kn.ext.1.cell hbB hnB).trans b0) ((kn.ext.1.cell hbB hnB).trans b1) ((kn.ext.1.cell hbB hnB).trans b2) ((kn.ext.1.cell hbB hnB).trans b3)))
          · refine gd_call (by kernel_rfl) (Want.none_ rfl) 34 (fun D u ρ w kn hD => ?_)
            have e0 := kn.con 1 43 (c := .slice Aa ags.length ca) (by kernel_rfl) (by omega) (by kernel_rfl) rfl
            have e1 := kn.con 5 47 (c := .agg #[.slice x.key.a x.key.l.length x.key.c, .slice x.ta x.cs.length x.tc, .slice x.sa x.cs.length x.sc, .slice x.va x.cs.length x.vc]) (by kernel_rfl) (by omega) (by kernel_rfl) rfl
            have e2 := kn.con 9 51 (c := .agg #[.slice y.key.a y.key.l.length y.key.c, .slice y.ta y.cs.length y.tc, .slice y.sa y.cs.length y.sc, .slice y.va y.cs.length y.vc]) (by kernel_rfl) (by omega) (by kernel_rfl) rfl
            refine ⟨#[.slice Aa ags.length ca, .agg #[.slice x.key.a x.key.l.length x.key.c, .slice x.ta x.cs.length x.tc, .slice x.sa x.cs.length x.sc, .slice x.va x.cs.length x.vc], .agg #[.slice y.key.a y.key.l.length y.key.c, .slice y.ta y.cs.length y.tc, .slice y.sa y.cs.length y.sc, .slice y.va y.cs.length y.vc]], ?_, (KJ.out w kn.ext.1).mono ?_⟩
            · simp only [execOp, resolve, Deferred.ofValue, List.map_toArray, List.map_cons, List.map_nil, e0, e1, e2, kn.rho.con, kn.rho.fn]
              simp [go_sem]
            · rintro e w' ⟨p, rfl, hp1, hp2, hg⟩
              obtain ⟨x1, x2⟩ := kn.ext
              exact ⟨_, rfl, (fun c h => by injection h with h; cases h), x1.grow hg (by simp), x2.called (by omega) (by omega) hD hg hp1 (hp2.mono (fun b hb _ => hb.imp (fun h => h.1) (fun h => Nat.le_trans x1.2.2.2.1 h)))⟩
          · refine gd_eff (by kernel_rfl) (Want.none_ rfl) (fun D u ρ w kn hD => ?_)
            have e0 := kn.slot 10 52 (by kernel_rfl) (by omega)
            have d0 := kn.dep 10 (by kernel_rfl)
            obtain ⟨x1, x2⟩ := kn.ext
            obtain ⟨p, hp, -⟩ := x2.s1 d0
            rw [hp] at e0
            exact ⟨.slice (some ⟨w.heap.size, 0, none⟩) 1 1, w.alloc (.cells (pArr p) 69), by simp [execOp, kn.rho.con, e0, go_sem, pArr], (fun c h => by injection h with h; cases h), x1.alloc _, x2.laid (by omega) (by omega) hD d0 hp x1.2.2.2.1⟩
          · refine gd_eff (by kernel_rfl) (Want.none_ rfl) (fun D u ρ w kn hD => ?_)
            have e0 := kn.con 0 42 (c := vO) (by kernel_rfl) (by omega) (by kernel_rfl) rfl
            have e1 := kn.slot 11 53 (by kernel_rfl) (by omega)
            have d0 := kn.dep 11 (by kernel_rfl)
            obtain ⟨x1, x2⟩ := kn.ext
            obtain ⟨v', w', hr, hg, hJ⟩ := x2.run (by omega) (by omega) hD d0 hvO hol2 hbase x1.2.2.2.1
            exact ⟨v', w', exec_append rfl e0 e1 hr, (fun c h => by injection h with h; cases h), x1.grow hg (fun g hg => .inl hg), hJ⟩
        · intro D u w5 hJ hD
          obtain ⟨hc, x1, x2⟩ := hJ
          obtain ⟨p, hp, hown, hsub, hnew⟩ := x2.fin (hD 12 (by omega))
          obtain ⟨AO, cO, hv5, -, -, -, -⟩ := Rd.of_own hown (by decide)
          simp only [List.take_succ_cons, List.take_zero, List.drop_succ_cons, List.drop_zero, putAll]
          rw [hv5] at hown hsub hnew ⊢
          have ON := Lib.hid (HO5.out.snoc hown hsub hnew x1)
          have GN : Hid (w0.grownBy w5 none) := Lib.hid (x1.none_ G5.out (fun i hi => (HV5.out i hi).1))
          have HP := Lib.hid hp
          clear hc x1 x2 hp hown hsub hnew hv5 hD hvO a0 a1 a2 a3 b0 b1 b2 b3 hnA hnB
          go_wp2_with fail
          go_roundw
          case rel => exact ⟨i + 1, k + 1, outs ++ [p], by go_num, by go_num, by omega, by omega, by simp; omega, ON.out, GN.out, by rw [HR.out, HM.out, List.map_append, List.map_singleton, HP.out]; simp⟩
          case measure => simp [intOf]; omega
end Go.Proofs.YtfkgcighooijhaaGreatDoor

namespace Go.Proofs.YtfkgcighooijhaaGreatDoor
open Go.RowKit
set_option linter.unusedVariables false
set_option linter.unusedSimpArgs false

/-- a digit -/
theorem digit_any (x : Int) (w : World) (h0 : 0 ≤ x) (h1 : x ≤ 255) : Calls Tryz.prog 120 #[.int .u8 x] w (fun e w' => e = .returned (.bool (decide (48 ≤ x ∧ x ≤ 57))) ∧ w' = w) := by
  by_cases c1 : 48 ≤ x
  · by_cases c2 : x ≤ 57
    · have hv : decide (48 ≤ x ∧ x ≤ 57) = true := by simp [c1, c2]
      rw [hv]
      go_enter Tryz.func120, Tryz.ntmps120
      go_wp2_with fail
      go_ret
      exact ⟨by simp, rfl⟩
    · have hv : decide (48 ≤ x ∧ x ≤ 57) = false := by simp [c2]
      rw [hv]
      go_enter Tryz.func120, Tryz.ntmps120
      go_wp2_with fail
      go_ret
      exact ⟨by simp, rfl⟩
  · have hv : decide (48 ≤ x ∧ x ≤ 57) = false := by simp [c1]
    rw [hv]
    go_enter Tryz.func120, Tryz.ntmps120
    go_wp2_with fail
    go_ret
    exact ⟨by simp, rfl⟩
end Go.Proofs.YtfkgcighooijhaaGreatDoor
namespace Go.Proofs.YtfkgcighooijhaaGreatDoor
open Go.RowKit
set_option linter.unusedVariables false
set_option linter.unusedSimpArgs false

theorem minus_at (s : ByteArray) (h : 0 < s.size) : minusB s = decide (((s[0]'h).toNat : Int) = 45) := by
  unfold minusB
  obtain ⟨⟨l⟩⟩ := s
  cases l with
  | nil => simp [ByteArray.size] at h
  | cons x xs =>
    show Lib.hasPrefix (x :: xs) [45] = decide ((x.toNat : Int) = 45)
    rw [Bool.eq_iff_iff]
    simp [Lib.hasPrefix]
    constructor
    · rintro rfl; rfl
    · intro e; exact (UInt8.toNat_inj.1 (by simp; omega))
theorem ext_bts (s : ByteArray) : bts (s.extract 1 s.size) = (bts s).drop 1 := by
  unfold bts
  rw [ByteArray.data_extract, Array.toList_extract, ← List.map_drop]
  congr 1
  show List.extract s.data.toList 1 s.size = _
  rw [List.extract_eq_take_drop, List.take_of_length_le]
  rw [List.length_drop]; exact Nat.le_refl _
set_option maxHeartbeats 4000000 in
set_option maxRecDepth 100000 in
theorem rnumA (s : ByteArray) (w : World) (hs : s.size ≤ 1000000) (hm : minusB s = false) :
    Calls Tryz.prog 103 #[.string s] w (NumP w (parseN s)) := by
  have HM := Lib.hid hm
  have HDO : Hid (digsOf s = bts s) := Lib.hid (by unfold digsOf; rw [hm]; rfl)
  have HL : Hid ((digsOf s).length = s.size) := Lib.hid (by rw [HDO.out, btsN_size])
  obtain ⟨d, hd⟩ : ∃ d, d = s := ⟨_, rfl⟩
  have HB : Hid (bts d = digsOf s) := Lib.hid (by rw [hd, HDO.out])
  subst hd
  by_cases h0 : d.size = 0
  · have HV : Hid (parseN d = none) := Lib.hid (by unfold parseN; rw [HL.out, if_pos (by omega)])
    have i0 : ¬ (0 : Int) < (d.size : Int) := by omega
    have i1 : (d.size : Int) < 1 := by omega
    have e0 : d.toList = [] := List.eq_nil_of_length_eq_zero (by rw [bts_size]; exact h0)
    clear hm
    go_enter Tryz.func103, Tryz.ntmps103
    go_wp2_with fail
    rw [HV.out]
    exact bodyPost_ret (v := numV none) (by simp [results, Tryz.results103, go_sem, numV]) rfl ⟨rfl, only_refl _ _⟩
  have hs0 : 0 < d.size := by omega
  have i0 : (0 : Int) < (d.size : Int) := by omega
  have hne : ¬ ((d[0]'hs0).toNat : Int) = 45 := by
    rw [minus_at d hs0] at hm
    simpa using hm
  have g1 : (((d[0]'hs0).toNat : Int) == 45) = false := by rw [beq_eq_false_iff_ne]; exact hne
  have e1 : d.toList.isEmpty = false := by
    cases h : d.toList with
    | nil => have := bts_size d; rw [h] at this; simp at this; omega
    | cons x xs => rfl
  clear hm h0 hne
  go_enter Tryz.func103, Tryz.ntmps103
  go_upto_region 4 with fail
  by_cases hlen : d.size < 1 ∨ 18 < d.size
  · have HV : Hid (parseN d = none) := Lib.hid (by unfold parseN; rw [HL.out, if_pos hlen])
    rcases hlen with h1 | h1
    · have i1 : (d.size : Int) < 1 := by omega
      go_wp2_with fail
      rw [HV.out]
      exact bodyPost_ret (v := numV none) (by simp [results, Tryz.results103, go_sem, numV]) rfl ⟨rfl, only_refl _ _⟩
    · have i1 : ¬ (d.size : Int) < 1 := by omega
      have i2 : (18 : Int) < (d.size : Int) := by omega
      go_wp2_with fail
      rw [HV.out]
      exact bodyPost_ret (v := numV none) (by simp [results, Tryz.results103, go_sem, numV]) rfl ⟨rfl, only_refl _ _⟩
  · have i1 : ¬ (d.size : Int) < 1 := by omega
    have i2 : ¬ (18 : Int) < (d.size : Int) := by omega
    have hd1 : 1 ≤ d.size := by omega
    have hd2 : d.size ≤ 18 := by omega
    have HV : Hid (parseN d = (numF (bts d) 0).map (fun n => if minusB d then -n else n)) := Lib.hid (by unfold parseN; rw [HL.out, if_neg hlen, HB.out])
    have HX : Hid (∀ x ∈ bts d, 0 ≤ x ∧ x ≤ 255) := Lib.hid (fun x hx => by
      unfold bts at hx
      obtain ⟨b, _, rfl⟩ := List.mem_map.1 hx
      have := b.toNat_lt
      omega)
    have HBL := Lib.hid (btsN_size d)
    clear hlen
    go_wp2_with fail
    go_loopw [5, 6] (fun vn i wr => ∃ (k : Nat) (n : Int), i = .int .i64 k ∧ vn = .int .i64 n ∧ k ≤ d.size ∧ Hid (numF (bts d) 0 = numF ((bts d).drop k) n) ∧ 0 ≤ n ∧ Hid (n < 10 ^ k) ∧ w.grownBy wr none) (fun _ i _ => d.size - (intOf i).toNat)
    case atStart => exact ⟨0, 0, rfl, rfl, Nat.zero_le _, Lib.hid rfl, Int.le_refl _, Lib.hid (by decide), only_refl _ _⟩
    case round =>
      obtain ⟨k, n, rfl, rfl, hk, HF, hn0, HP, hG⟩ := hrel
      have G1 := Lib.hid hG
      clear hG
      have hn1 : n < 1000000000000000000 := Int.lt_of_lt_of_le HP.out (ten_pow (by omega))
      by_cases hlt : k < d.size
      · have hx := bts_at d hlt
        obtain ⟨hx0, hx1⟩ := HX.out _ (List.mem_of_getElem? hx)
        have hd : (bts d).drop k = ((d[k]'hlt).toNat : Int) :: (bts d).drop (k + 1) := by
          obtain ⟨hkl, e⟩ := List.getElem?_eq_some_iff.1 hx
          rw [← List.getElem_cons_drop hkl, e]
        have HD := Lib.hid hd
        have j1 : (k : Int) < (d.size : Int) := by omega
        have KD := Lib.hid (fun w' => digit_any ((d[k]'hlt).toNat : Int) w' hx0 hx1)
        clear hx hd
        by_cases hdig : 48 ≤ ((d[k]'hlt).toNat : Int) ∧ ((d[k]'hlt).toNat : Int) ≤ 57
        · obtain ⟨c1, c2⟩ := hdig
          have hn2 : n < 100000000000000000 := Int.lt_of_lt_of_le HP.out (by
            have : (10 : Nat) ^ k ≤ 10 ^ 17 := Nat.pow_le_pow_right (by omega) (by omega)
            have h2 : ((10 ^ k : Nat) : Int) ≤ ((10 ^ 17 : Nat) : Int) := Int.ofNat_le.2 this
            simpa using h2)
          have HF2 : Hid (numF (bts d) 0 = numF ((bts d).drop (k + 1)) (10 * n + (((d[k]'hlt).toNat : Int) - 48))) := Lib.hid (by rw [HF.out, HD.out, numF, if_pos ⟨c1, c2⟩])
          have HP2 : Hid (10 * n + (((d[k]'hlt).toNat : Int) - 48) < 10 ^ (k + 1)) := Lib.hid (by
            have := HP.out
            rw [Int.pow_succ]; omega)
          have hdv : decide (48 ≤ ((d[k]'hlt).toNat : Int) ∧ ((d[k]'hlt).toNat : Int) ≤ 57) = true := by simp [c1, c2]
          rw [hdv] at KD
          clear hn1 hdv
          go_wp2_with fail
          refine (KD.out _).mono ?_
          rintro e w2 ⟨rfl, rfl⟩
          go_wp2_with fail
          go_roundw
          case rel => exact ⟨k + 1, 10 * n + (((d[k]'hlt).toNat : Int) - 48), by go_num, by go_num, by omega, HF2, by omega, HP2, G1.out⟩
          case measure => simp [intOf]; omega
        · have HF2 : Hid (parseN d = none) := Lib.hid (by rw [HV.out, HF.out, HD.out, numF, if_neg hdig]; rfl)
          have hdv : decide (48 ≤ ((d[k]'hlt).toNat : Int) ∧ ((d[k]'hlt).toNat : Int) ≤ 57) = false := by rw [decide_eq_false_iff_not]; exact hdig
          rw [hdv] at KD
          clear hdig hdv
          go_wp2_with fail
          refine (KD.out _).mono ?_
          rintro e w2 ⟨rfl, rfl⟩
          go_wp2_with fail
          rw [HF2.out]
          exact bodyPost_ret (v := numV none) (by simp [results, Tryz.results103, go_sem, numV]) rfl ⟨rfl, G1.out⟩
      · have j1 : ¬ (k : Int) < (d.size : Int) := by omega
        have HF2 : Hid (numF (bts d) 0 = some n) := Lib.hid (by rw [HF.out, List.drop_eq_nil_of_le (by rw [HBL.out]; omega)]; rfl)
        have HR : Hid (parseN d = some (n)) := Lib.hid (by rw [HV.out, HF2.out]; simp [HM.out])
        go_wp2_with fail
        rw [HR.out]
        exact bodyPost_ret (v := numV (some (n))) (by simp [results, Tryz.results103, go_sem, numV]) rfl ⟨rfl, G1.out⟩
set_option maxHeartbeats 4000000 in
set_option maxRecDepth 100000 in
theorem rnumB (s : ByteArray) (w : World) (hs : s.size ≤ 1000000) (hm : minusB s = true) :
    Calls Tryz.prog 103 #[.string s] w (NumP w (parseN s)) := by
  have HM := Lib.hid hm
  have hs0 : 0 < s.size := by
    rcases Nat.eq_zero_or_pos s.size with h | h
    · have e0 : s.data.toList = [] := List.eq_nil_of_length_eq_zero h
      unfold minusB at hm
      rw [e0] at hm; cases hm
    · exact h
  have heq : ((s[0]'hs0).toNat : Int) = 45 := by
    rw [minus_at s hs0] at hm
    simpa using hm
  have g1 : (((s[0]'hs0).toNat : Int) == 45) = true := by rw [heq]; rfl
  have i0 : (0 : Int) < (s.size : Int) := by omega
  have e1 : s.toList.isEmpty = false := by
    cases h : s.toList with
    | nil => have := bts_size s; rw [h] at this; simp at this; omega
    | cons x xs => rfl
  obtain ⟨d, hd⟩ : ∃ d, d = s.extract 1 s.size := ⟨_, rfl⟩
  have HB : Hid (bts d = digsOf s) := Lib.hid (by rw [hd, ext_bts]; unfold digsOf; rw [hm]; rfl)
  have hds : d.size = s.size - 1 := by rw [← btsN_size, hd, ext_bts, List.length_drop, btsN_size]
  have HL : Hid ((digsOf s).length = d.size) := Lib.hid (by rw [← HB.out, btsN_size])
  have hdlt : d.size < s.size := by omega
  have hdl2 : (d.size : Int) < (s.size : Int) := by omega
  clear hm heq hds
  go_enter Tryz.func103, Tryz.ntmps103
  go_upto_region 4 with fail
  try rw [← hd]
  clear hd
  by_cases hlen : d.size < 1 ∨ 18 < d.size
  · have HV : Hid (parseN s = none) := Lib.hid (by unfold parseN; rw [HL.out, if_pos hlen])
    rcases hlen with h1 | h1
    · have i1 : (d.size : Int) < 1 := by omega
      go_wp2_with fail
      rw [HV.out]
      exact bodyPost_ret (v := numV none) (by simp [results, Tryz.results103, go_sem, numV]) rfl ⟨rfl, only_refl _ _⟩
    · have i1 : ¬ (d.size : Int) < 1 := by omega
      have i2 : (18 : Int) < (d.size : Int) := by omega
      go_wp2_with fail
      rw [HV.out]
      exact bodyPost_ret (v := numV none) (by simp [results, Tryz.results103, go_sem, numV]) rfl ⟨rfl, only_refl _ _⟩
  · have i1 : ¬ (d.size : Int) < 1 := by omega
    have i2 : ¬ (18 : Int) < (d.size : Int) := by omega
    have hd1 : 1 ≤ d.size := by omega
    have hd2 : d.size ≤ 18 := by omega
    have HV : Hid (parseN s = (numF (bts d) 0).map (fun n => if minusB s then -n else n)) := Lib.hid (by unfold parseN; rw [HL.out, if_neg hlen, HB.out])
    have HX : Hid (∀ x ∈ bts d, 0 ≤ x ∧ x ≤ 255) := Lib.hid (fun x hx => by
      unfold bts at hx
      obtain ⟨b, _, rfl⟩ := List.mem_map.1 hx
      have := b.toNat_lt
      omega)
    have HBL := Lib.hid (btsN_size d)
    clear hlen
    go_wp2_with fail
    go_loopw [5, 6] (fun vn i wr => ∃ (k : Nat) (n : Int), i = .int .i64 k ∧ vn = .int .i64 n ∧ k ≤ d.size ∧ Hid (numF (bts d) 0 = numF ((bts d).drop k) n) ∧ 0 ≤ n ∧ Hid (n < 10 ^ k) ∧ w.grownBy wr none) (fun _ i _ => d.size - (intOf i).toNat)
    case atStart => exact ⟨0, 0, rfl, rfl, Nat.zero_le _, Lib.hid rfl, Int.le_refl _, Lib.hid (by decide), only_refl _ _⟩
    case round =>
      obtain ⟨k, n, rfl, rfl, hk, HF, hn0, HP, hG⟩ := hrel
      have G1 := Lib.hid hG
      clear hG
      have hn1 : n < 1000000000000000000 := Int.lt_of_lt_of_le HP.out (ten_pow (by omega))
      by_cases hlt : k < d.size
      · have hx := bts_at d hlt
        obtain ⟨hx0, hx1⟩ := HX.out _ (List.mem_of_getElem? hx)
        have hd : (bts d).drop k = ((d[k]'hlt).toNat : Int) :: (bts d).drop (k + 1) := by
          obtain ⟨hkl, e⟩ := List.getElem?_eq_some_iff.1 hx
          rw [← List.getElem_cons_drop hkl, e]
        have HD := Lib.hid hd
        have j1 : (k : Int) < (d.size : Int) := by omega
        have KD := Lib.hid (fun w' => digit_any ((d[k]'hlt).toNat : Int) w' hx0 hx1)
        clear hx hd
        by_cases hdig : 48 ≤ ((d[k]'hlt).toNat : Int) ∧ ((d[k]'hlt).toNat : Int) ≤ 57
        · obtain ⟨c1, c2⟩ := hdig
          have hn2 : n < 100000000000000000 := Int.lt_of_lt_of_le HP.out (by
            have : (10 : Nat) ^ k ≤ 10 ^ 17 := Nat.pow_le_pow_right (by omega) (by omega)
            have h2 : ((10 ^ k : Nat) : Int) ≤ ((10 ^ 17 : Nat) : Int) := Int.ofNat_le.2 this
            simpa using h2)
          have HF2 : Hid (numF (bts d) 0 = numF ((bts d).drop (k + 1)) (10 * n + (((d[k]'hlt).toNat : Int) - 48))) := Lib.hid (by rw [HF.out, HD.out, numF, if_pos ⟨c1, c2⟩])
          have HP2 : Hid (10 * n + (((d[k]'hlt).toNat : Int) - 48) < 10 ^ (k + 1)) := Lib.hid (by
            have := HP.out
            rw [Int.pow_succ]; omega)
          have hdv : decide (48 ≤ ((d[k]'hlt).toNat : Int) ∧ ((d[k]'hlt).toNat : Int) ≤ 57) = true := by simp [c1, c2]
          rw [hdv] at KD
          clear hn1 hdv
          go_wp2_with fail
          refine (KD.out _).mono ?_
          rintro e w2 ⟨rfl, rfl⟩
          go_wp2_with fail
          go_roundw
          case rel => exact ⟨k + 1, 10 * n + (((d[k]'hlt).toNat : Int) - 48), by go_num, by go_num, by omega, HF2, by omega, HP2, G1.out⟩
          case measure => simp [intOf]; omega
        · have HF2 : Hid (parseN s = none) := Lib.hid (by rw [HV.out, HF.out, HD.out, numF, if_neg hdig]; rfl)
          have hdv : decide (48 ≤ ((d[k]'hlt).toNat : Int) ∧ ((d[k]'hlt).toNat : Int) ≤ 57) = false := by rw [decide_eq_false_iff_not]; exact hdig
          rw [hdv] at KD
          clear hdig hdv
          go_wp2_with fail
          refine (KD.out _).mono ?_
          rintro e w2 ⟨rfl, rfl⟩
          go_wp2_with fail
          rw [HF2.out]
          exact bodyPost_ret (v := numV none) (by simp [results, Tryz.results103, go_sem, numV]) rfl ⟨rfl, G1.out⟩
      · have j1 : ¬ (k : Int) < (d.size : Int) := by omega
        have HF2 : Hid (numF (bts d) 0 = some n) := Lib.hid (by rw [HF.out, List.drop_eq_nil_of_le (by rw [HBL.out]; omega)]; rfl)
        have HR : Hid (parseN s = some (-n)) := Lib.hid (by rw [HV.out, HF2.out]; simp [HM.out])
        go_wp2_with fail
        rw [HR.out]
        exact bodyPost_ret (v := numV (some (-n))) (by simp [results, Tryz.results103, go_sem, numV]) rfl ⟨rfl, G1.out⟩
theorem rnum_any (s : ByteArray) (w : World) (hs : s.size ≤ 1000000) :
    Calls Tryz.prog 103 #[.string s] w (NumP w (parseN s)) := by
  cases h : minusB s with
  | true => exact rnumB s w hs h
  | false => exact rnumA s w hs h
end Go.Proofs.YtfkgcighooijhaaGreatDoor
namespace Go.Proofs.YtfkgcighooijhaaGreatDoor
open Go.RowKit
set_option linter.unusedVariables false
set_option linter.unusedSimpArgs false

set_option maxHeartbeats 1000000 in
theorem rparse_any (s : ByteArray) (w : World) (hs : s.size ≤ 1000000) :
    Calls Tryz.prog 95 #[.string s] w (NumP w (parseN s)) := by
  have HN := Lib.hid (rnum_any s w hs)
  obtain ⟨o, ho⟩ : ∃ o, o = parseN s := ⟨_, rfl⟩
  rw [← ho] at HN ⊢
  clear ho
  go_enter Tryz.func95, Tryz.ntmps95
  go_wp2_with fail
  refine HN.out.mono ?_
  rintro e w1 ⟨rfl, hg⟩
  cases o with
  | none =>
    simp only [numV]
    go_wp2_with fail
    exact bodyPost_ret (v := numV none) (by simp [results, Tryz.results95, go_sem, numV]) rfl ⟨rfl, hg⟩
  | some n =>
    simp only [numV]
    go_wp2_with fail
    exact bodyPost_ret (v := numV (some n)) (by simp [results, Tryz.results95, go_sem, numV]) rfl ⟨rfl, hg⟩
set_option maxHeartbeats 2000000 in
theorem rnumber_any {S : Nat → Prop} (e : Ev) (nm : ByteArray) (w : World) (hs : e.Sub S w) (hv : EvV e) (hi : EvN e) :
    Calls Tryz.prog 86 #[.agg e.cells.toArray, .string nm] w (NumP w (numOf e nm)) := by
  have HV : Hid (∀ w', w.grownBy w' none → Calls Tryz.prog 87 #[.agg e.cells.toArray, .string nm] w' (ValP w' (valOf e nm))) := fun w' hg => rval_any e nm w' (hs.grown hg (by simp)) hi hv.1.2.2.2.2
  have HZ : Hid (∀ v, valOf e nm = some v → v.size ≤ 1000) := Lib.hid (fun v h => valOf_size hv h)
  have HQ : Hid (numOf e nm = (valOf e nm).bind parseN) := Lib.hid rfl
  obtain ⟨o, ho⟩ : ∃ o, o = valOf e nm := ⟨_, rfl⟩
  obtain ⟨q, hq⟩ : ∃ q, q = numOf e nm := ⟨_, rfl⟩
  rw [← ho] at HV HZ HQ
  rw [← hq] at HQ ⊢
  clear ho hq hs hi hv
  obtain ⟨host, file, beg, fin, lines, time, weight, trace, stream, fields, la, lc, fa, fc⟩ := e
  have hcl : (Ev.mk host file beg fin lines time weight trace stream fields la lc fa fc).cells.toArray = #[.int .i64 host, .int .i64 file, .int .i64 beg, .int .i64 fin, .slice la lines.length lc, .int .i64 time, .int .i64 weight, .string trace, .string stream, .slice fa fields.length fc] := rfl
  rw [hcl] at HV ⊢
  clear hcl
  go_enter Tryz.func86, Tryz.ntmps86
  go_wp2_with fail
  refine (HV.out _ (only_alloc (only_refl _ _) _)).mono ?_
  rintro e w1 ⟨rfl, hg1⟩
  have G1 : Hid (w.grownBy w1 none) := only_trans (only_alloc (only_refl _ _) _) hg1
  clear hg1
  cases o with
  | none =>
    have HQ2 : Hid (q = none) := Lib.hid (by rw [HQ.out]; rfl)
    simp only [valV]
    go_wp2_with fail
    rw [HQ2.out]
    exact bodyPost_ret (v := numV none) (by simp [results, Tryz.results86, go_sem, numV]) rfl ⟨rfl, G1.out⟩
  | some s =>
    have HQ2 : Hid (q = parseN s) := Lib.hid (by rw [HQ.out]; rfl)
    have HPS := Lib.hid (rparse_any s w1 (by have := HZ.out s rfl; omega))
    simp only [valV]
    go_wp2_with fail
    refine HPS.out.mono ?_
    obtain ⟨p, hp⟩ : ∃ p, p = parseN s := ⟨_, rfl⟩
    rw [← hp] at HQ2 ⊢
    clear hp HPS
    rintro e w2 ⟨rfl, hg2⟩
    have G2 := Lib.hid (only_trans G1.out hg2)
    clear hg2
    cases p with
    | none =>
      simp only [numV]
      go_wp2_with fail
      rw [HQ2.out]
      exact bodyPost_ret (v := numV none) (by simp [results, Tryz.results86, go_sem, numV]) rfl ⟨rfl, G2.out⟩
    | some n =>
      simp only [numV]
      go_wp2_with fail
      rw [HQ2.out]
      exact bodyPost_ret (v := numV (some n)) (by simp [results, Tryz.results86, go_sem, numV]) rfl ⟨rfl, G2.out⟩
end Go.Proofs.YtfkgcighooijhaaGreatDoor

namespace Go.Proofs.YtfkgcighooijhaaGreatDoor
open Go.RowKit
set_option linter.unusedVariables false
set_option linter.unusedSimpArgs false

theorem numV_eq (o : Option Int) : numV o = .tuple #[.int .i64 (o.getD 0), .bool o.isSome] := by cases o <;> rfl
theorem valV_eq (o : Option ByteArray) : valV o = .tuple #[.string (o.getD ⟨#[]⟩), .bool o.isSome] := by cases o <;> rfl
theorem oneR1 {a : AggD} {e : Ev} (h : a.kind = 1) : oneC a e = ⟨wrap64 (e.weight * (numOf e a.field).getD 0), (numOf e a.field).isSome, []⟩ := by
  unfold oneC
  rw [if_neg (by omega), if_pos h]
  cases numOf e a.field with
  | none => simp [wrap64]
  | some n => simp [Int.mul_comm]
theorem oneR2 {a : AggD} {e : Ev} (h : a.kind = 2 ∨ a.kind = 3) : oneC a e = ⟨(numOf e a.field).getD 0, (numOf e a.field).isSome, []⟩ := by
  unfold oneC
  rw [if_neg (by omega), if_neg (by omega), if_neg (by omega)]
  cases numOf e a.field <;> rfl
theorem oneR4 {a : AggD} {e : Ev} (h : a.kind = 4) : oneC a e = if (valOf e a.field).isSome then ⟨1, true, [(valOf e a.field).getD ⟨#[]⟩]⟩ else ⟨0, true, []⟩ := by
  unfold oneC
  rw [if_neg (by omega), if_neg (by omega), if_pos h]
  cases valOf e a.field <;> rfl
set_option maxHeartbeats 16000000 in
set_option maxRecDepth 100000 in
theorem rsingle_any {S T U : Nat → Prop} (A : Option Addr) (names : List ByteArray) (c : Nat) (Aa : Option Addr) (ags : List AggD) (ca : Nat) (e : Ev) (w : World) (ha : Rd T w A (names.map .string)) (hl : names.length ≤ 1000000) (hnm : ∀ n ∈ names, n.size ≤ 1000)
    (hag : Rd U w Aa (ags.flatMap AggD.cells)) (hal : ags.length ≤ 1000) (hok : ∀ a ∈ ags, AggOk a) (hs : e.Sub S w) (hi : EvV e) (hin : EvN e) :
    Calls Tryz.prog 63 #[.slice A names.length c, .slice Aa ags.length ca, .agg e.cells.toArray] w (PartP w (oneP names ags e)) := by
  have HK : Hid (∀ w', w.grownBy w' none → Calls Tryz.prog 85 #[.slice A names.length c, .agg e.cells.toArray] w' (StrsP w' (keyOf_ names e))) := fun w' hg => rkey_any A names c e w' (ha.grown hg (by simp)) hl hnm (hs.grown hg (by simp)) hin hi.1.2.2.2.2
  have HAG := Lib.hid hag
  have HOK := Lib.hid hok
  have HP : Hid (oneP names ags e = ⟨keyOf_ names e, ags.map (fun a => oneC a e)⟩) := Lib.hid rfl
  have HZE : Hid (∀ a : AggD, (a.kind = 0 → oneC a e = ⟨e.weight, true, []⟩) ∧ (a.kind = 1 → oneC a e = ⟨wrap64 (e.weight * (numOf e a.field).getD 0), (numOf e a.field).isSome, []⟩) ∧ (a.kind = 2 ∨ a.kind = 3 → oneC a e = ⟨(numOf e a.field).getD 0, (numOf e a.field).isSome, []⟩) ∧ (a.kind = 4 → oneC a e = if (valOf e a.field).isSome then ⟨1, true, [(valOf e a.field).getD ⟨#[]⟩]⟩ else ⟨0, true, []⟩)) := Lib.hid (fun a => ⟨oneC0, oneR1, oneR2, oneR4⟩)
  have HNE : Hid (∀ (f : ByteArray) (w' : World), w.grownBy w' none → Calls Tryz.prog 86 #[.agg e.cells.toArray, .string f] w' (fun en w'' => en = .returned (.tuple #[.int .i64 ((numOf e f).getD 0), .bool (numOf e f).isSome]) ∧ w'.grownBy w'' none)) := Lib.hid (fun f w' hg => (rnumber_any e f w' (hs.grown hg (by simp)) hi hin).mono (fun _ _ h => ⟨h.1.trans (by rw [numV_eq]), h.2⟩))
  have HDE : Hid (∀ (f : ByteArray) (w' : World), w.grownBy w' none → Calls Tryz.prog 87 #[.agg e.cells.toArray, .string f] w' (fun en w'' => en = .returned (.tuple #[.string ((valOf e f).getD ⟨#[]⟩), .bool (valOf e f).isSome]) ∧ w'.grownBy w'' none)) := Lib.hid (fun f w' hg => (rval_any e f w' (hs.grown hg (by simp)) hin hi.1.2.2.2.2).mono (fun _ _ h => ⟨h.1.trans (by rw [valV_eq]), h.2⟩))
  obtain ⟨ks, hks⟩ : ∃ ks, ks = keyOf_ names e := ⟨_, rfl⟩
  obtain ⟨oc, hoc⟩ : ∃ oc : AggD → CD, oc = fun a => oneC a e := ⟨_, rfl⟩
  obtain ⟨z, hz⟩ : ∃ z, z = oneP names ags e := ⟨_, rfl⟩
  obtain ⟨nE, hnE⟩ : ∃ f : ByteArray → Int, f = fun x => (numOf e x).getD 0 := ⟨_, rfl⟩
  obtain ⟨nB, hnB⟩ : ∃ f : ByteArray → Bool, f = fun x => (numOf e x).isSome := ⟨_, rfl⟩
  obtain ⟨vE, hvE⟩ : ∃ f : ByteArray → ByteArray, f = fun x => (valOf e x).getD ⟨#[]⟩ := ⟨_, rfl⟩
  obtain ⟨vB, hvB⟩ : ∃ f : ByteArray → Bool, f = fun x => (valOf e x).isSome := ⟨_, rfl⟩
  have HZ : Hid (∀ a : AggD, (a.kind = 0 → oc a = ⟨e.weight, true, []⟩) ∧ (a.kind = 1 → oc a = ⟨wrap64 (e.weight * nE a.field), nB a.field, []⟩) ∧ (a.kind = 2 ∨ a.kind = 3 → oc a = ⟨nE a.field, nB a.field, []⟩) ∧ (a.kind = 4 → oc a = if vB a.field then ⟨1, true, [vE a.field]⟩ else ⟨0, true, []⟩)) := Lib.hid (by rw [hoc, hnE, hnB, hvE, hvB]; exact HZE.out)
  have HNUM : Hid (∀ (f : ByteArray) (w' : World), w.grownBy w' none → Calls Tryz.prog 86 #[.agg e.cells.toArray, .string f] w' (fun en w'' => en = .returned (.tuple #[.int .i64 (nE f), .bool (nB f)]) ∧ w'.grownBy w'' none)) := Lib.hid (by rw [hnE, hnB]; exact HNE.out)
  have HVAL : Hid (∀ (f : ByteArray) (w' : World), w.grownBy w' none → Calls Tryz.prog 87 #[.agg e.cells.toArray, .string f] w' (fun en w'' => en = .returned (.tuple #[.string (vE f), .bool (vB f)]) ∧ w'.grownBy w'' none)) := Lib.hid (by rw [hvE, hvB]; exact HDE.out)
  rw [← hks] at HK HP
  rw [← hz] at HP ⊢
  rw [← hoc] at HP
  clear hks hoc hz hnE hnB hvE hvB HZE HNE HDE ha hag hok hs hi hnm hin
  obtain ⟨host, file, beg, fin, lines, time, weight, trace, stream, fields, la, lc, fa, fc⟩ := e
  have hcl : (Ev.mk host file beg fin lines time weight trace stream fields la lc fa fc).cells.toArray = #[.int .i64 host, .int .i64 file, .int .i64 beg, .int .i64 fin, .slice la lines.length lc, .int .i64 time, .int .i64 weight, .string trace, .string stream, .slice fa fields.length fc] := rfl
  rw [hcl] at HK HNUM HVAL ⊢
  clear hcl
  simp only at HZ
  go_enter Tryz.func63, Tryz.ntmps63
  go_upto_region 1 with fail
  obtain ⟨WA, hWA⟩ : ∃ W, W = (w.alloc (.cells #[.int .i64 host, .int .i64 file, .int .i64 beg, .int .i64 fin, .slice la lines.length lc, .int .i64 time, .int .i64 weight, .string trace, .string stream, .slice fa fields.length fc] 35)).alloc (.cells #[.slice none 0 0, .slice none 0 0, .slice none 0 0, .slice none 0 0] 69) := ⟨_, rfl⟩
  have hE : Blk WA w.heap.size 35 #[.int .i64 host, .int .i64 file, .int .i64 beg, .int .i64 fin, .slice la lines.length lc, .int .i64 time, .int .i64 weight, .string trace, .string stream, .slice fa fields.length fc] := by rw [hWA]; exact (Blk.new w _ _).alloc _
  have hR : Blk WA (w.heap.size + 1) 69 #[.slice none 0 0, .slice none 0 0, .slice none 0 0, .slice none 0 0] := by
    rw [hWA]
    have := Blk.new (w.alloc (.cells #[.int .i64 host, .int .i64 file, .int .i64 beg, .int .i64 fin, .slice la lines.length lc, .int .i64 time, .int .i64 weight, .string trace, .string stream, .slice fa fields.length fc] 35)) 69 #[.slice none 0 0, .slice none 0 0, .slice none 0 0, .slice none 0 0]
    simpa using this
  have GA : Hid (w.grownBy WA none) := Lib.hid (by rw [hWA]; exact only_alloc (only_alloc (only_refl w none) _) _)
  rw [← hWA]
  have e0 := hE.cell 0; have e1 := hE.cell 1; have e2 := hE.cell 2; have e3 := hE.cell 3; have e4 := hE.cell 4; have e5 := hE.cell 5; have e6 := hE.cell 6; have e7 := hE.cell 7; have e8 := hE.cell 8; have e9 := hE.cell 9
  simp at e0 e1 e2 e3 e4 e5 e6 e7 e8 e9
  obtain ⟨eb, hebd⟩ : ∃ eb, eb = w.heap.size := ⟨_, rfl⟩
  have HEB := Lib.hid hebd
  rw [← hebd] at e0 e1 e2 e3 e4 e5 e6 e7 e8 e9 hE hR ⊢
  have heb0 : eb < WA.heap.size := hE.lt
  have hrb0 : eb + 1 < WA.heap.size := hR.lt
  have BE := Lib.hid hE
  have BR := Lib.hid hR
  clear hWA hE hR hebd
  go_wp2_with fail
  refine (HK.out WA GA.out).mono ?_
  rintro en w1 ⟨AK, cK, rfl, hk1, hk2, hk3, hg1⟩
  have B1 := Lib.hid (BE.out.grown hg1 (by simp))
  have R1 := Lib.hid (BR.out.grown hg1 (by simp))
  have KI : Hid ((StrR.mk ks AK cK).In (WA.heap.size ≤ ·) w1) := Lib.hid (strR_of (rd_ownG hk3) hk1 hk2)
  have GA1 := Lib.hid hg1
  have hz1 := hg1.size
  clear hk1 hk2 hk3 hg1 BE BR e0 e1 e2 e3 e4 e5 e6 e7 e8 e9 HK
  go_upto_region 2 with fail
  obtain ⟨pc, hpcd⟩ : ∃ pc, pc = w1.heap.size := ⟨_, rfl⟩
  obtain ⟨W0, hW0⟩ : ∃ W, W = w1.alloc (.cells #[.slice AK ks.length cK, .slice none 0 0, .slice none 0 0, .slice none 0 0] 69) := ⟨_, rfl⟩
  have hBP : Blk W0 pc 69 #[.slice AK ks.length cK, .slice none 0 0, .slice none 0 0, .slice none 0 0] := by rw [hW0, hpcd]; exact Blk.new _ _ _
  have hg0 : w1.grownBy W0 none := by rw [hW0]; exact only_alloc (only_refl _ _) _
  have hpe : eb + 1 < pc := by omega
  have KI0 : Hid ((StrR.mk ks AK cK).In (fun b => WA.heap.size ≤ b ∧ b < pc) W0) := Lib.hid ((KI.out.mono (S' := fun b => WA.heap.size ≤ b ∧ b < pc) (fun b hb hlt => ⟨hb, by omega⟩)).grown hg0 (by simp))
  have M0 : Hid (MkR WA W0 pc (.slice AK ks.length cK) [] (.slice none 0 0) (.slice none 0 0) (.slice none 0 0)) := Lib.hid ⟨⟨hBP, World.ownsRow_nil _ _ _ _, World.ownsRow_nil _ _ _ _, World.ownsRow_nil _ _ _ _⟩, by simp, only_trans GA1.out hg0, by omega⟩
  have GK : Hid (WA.grownBy W0 none) := Lib.hid (only_trans GA1.out hg0)
  have B2 := Lib.hid (B1.out.grown hg0 (by simp))
  have R2 := Lib.hid (R1.out.grown hg0 (by simp))
  rw [← hpcd, ← hW0]
  clear hpcd hW0 hBP hg0 B1 R1 GA1 KI hz1
  go_wp2_with fail
  go_loopw [8] (fun i wr => ∃ (k : Nat) (cs : List CM) (vT vS vV : Value), i = .int .i64 k ∧ k ≤ ags.length ∧ cs.length = k ∧ cs.map CM.pl = (ags.take k).map oc ∧ MkR WA wr pc (.slice AK ks.length cK) cs vT vS vV ∧ (StrR.mk ks AK cK).In (NoPB WA.heap.size pc vT vS vV) wr ∧ Blk wr eb 35 #[.int .i64 host, .int .i64 file, .int .i64 beg, .int .i64 fin, .slice la lines.length lc, .int .i64 time, .int .i64 weight, .string trace, .string stream, .slice fa fields.length fc] ∧ Blk wr (eb + 1) 69 #[.slice none 0 0, .slice none 0 0, .slice none 0 0, .slice none 0 0]) (fun i _ => ags.length - (intOf i).toNat)
  case atStart => exact ⟨0, [], _, _, _, rfl, Nat.zero_le _, rfl, rfl, M0.out, KI0.out.mono (fun b hb _ => ⟨hb.1, by have h2 := hb.2; rintro (h | h | h | h); omega; all_goals simp [Value.ownBlock] at h⟩), B2.out, R2.out⟩
  case round =>
    obtain ⟨k, cs, vT, vS, vV, rfl, hk, hcl, hcs, hM, hGP, hBE, hBR⟩ := hrel
    clear M0 B2 R2
    have HCS := Lib.hid hcs
    have HCL : Hid (cs.length = k) := Lib.hid hcl
    have hcl1 : cs.length ≤ k := by omega
    have hcl2 : k ≤ cs.length := by omega
    have M := Lib.hid hM
    have KEY := Lib.hid hGP
    have BE := Lib.hid hBE
    have BR := Lib.hid hBR
    have hebw := hBE.lt
    clear hcs hM hGP hBE hBR hcl
    by_cases hlt : k < ags.length
    · obtain ⟨y, hy⟩ : ∃ y, ags[k]? = some y := ⟨_, List.getElem?_eq_getElem hlt⟩
      obtain ⟨b0, o0, rfl, hbw, g0, g1⟩ := agg_in (HAG.out.grown (only_trans GA.out M.out.gr) (by simp)) hy
      have hyok := HOK.out y (List.mem_of_getElem? hy)
      have HNX : Hid ((ags.take (k + 1)).map oc = (ags.take k).map oc ++ [oc y]) := Lib.hid (by
        rw [List.take_succ_eq_append_getElem hlt]
        rw [List.getElem?_eq_getElem hlt] at hy
        injection hy with hy
        rw [hy]; simp)
      have HZY := Lib.hid (HZ.out y)
      obtain ⟨ZC, hZC⟩ : ∃ cz, cz = oc y := ⟨_, rfl⟩
      rw [← hZC] at HNX HZY
      obtain ⟨kd, fld⟩ := y
      obtain ⟨hk0, hk4, hfs⟩ := hyok
      simp only at hk0 hk4 hfs g0 g1 HZY
      have KNUM := Lib.hid (HNUM.out fld)
      have KVAL := Lib.hid (HVAL.out fld)
      obtain ⟨nn, hnn0⟩ : ∃ x, x = nE fld := ⟨_, rfl⟩
      obtain ⟨nb, hnb0⟩ : ∃ x, x = nB fld := ⟨_, rfl⟩
      obtain ⟨vv, hvv0⟩ : ∃ x, x = vE fld := ⟨_, rfl⟩
      obtain ⟨vb, hvb0⟩ : ∃ x, x = vB fld := ⟨_, rfl⟩
      rw [← hnn0, ← hnb0] at KNUM HZY
      rw [← hvv0, ← hvb0] at KVAL HZY
      have i1 : (k : Int) < (ags.length : Int) := by omega
      clear hy hZC hnn0 hnb0 hvv0 hvb0
      go_upto_region 6 with fail
      obtain ⟨ab, habd⟩ : ∃ ab, ab = wr.heap.size := ⟨_, rfl⟩
      obtain ⟨WB, hWB⟩ : ∃ W, W = wr.alloc (.cells #[.int .i64 kd, .string fld] 42) := ⟨_, rfl⟩
      have hAB : Blk WB ab 42 #[.int .i64 kd, .string fld] := by rw [hWB, habd]; exact Blk.new wr _ _
      have hGB : wr.grownBy WB none := by rw [hWB]; exact only_alloc (only_refl wr none) _
      have a0 := hAB.cell 0
      have a1 := hAB.cell 1
      simp at a0 a1
      have hB2 := BE.out.grown hGB (by simp)
      have e0 := hB2.cell 0; have e1 := hB2.cell 1; have e2 := hB2.cell 2; have e3 := hB2.cell 3; have e4 := hB2.cell 4; have e5 := hB2.cell 5; have e6 := hB2.cell 6; have e7 := hB2.cell 7; have e8 := hB2.cell 8; have e9 := hB2.cell 9
      simp at e0 e1 e2 e3 e4 e5 e6 e7 e8 e9
      have HAB := Lib.hid habd
      have HABK := Lib.hid hAB
      have GB := Lib.hid hGB
      rw [← hWB, ← habd]
      clear hWB habd hAB hGB hB2
      go_wp2_with fail
      refine (KNUM.out WB (only_trans GA.out (only_trans M.out.gr GB.out))).mono ?_
      rintro en W ⟨rfl, hgn⟩
      have GW : Hid (wr.grownBy W none) := Lib.hid (only_trans GB.out hgn)
      have hA2 := HABK.out.grown hgn (by simp)
      have M5 := Lib.hid (M.out.ext GW.out)
      have BE5 := Lib.hid (BE.out.grown GW.out (by simp))
      have BR5 := Lib.hid (BR.out.grown GW.out (by simp))
      clear a0 a1 e0 e1 e2 e3 e4 e5 e6 e7 e8 e9 hgn BE BR HABK GB
      have a0 := hA2.cell 0
      have a1 := hA2.cell 1
      simp at a0 a1
      have hB2 := BE5.out
      have e0 := hB2.cell 0; have e1 := hB2.cell 1; have e2 := hB2.cell 2; have e3 := hB2.cell 3; have e4 := hB2.cell 4; have e5 := hB2.cell 5; have e6 := hB2.cell 6; have e7 := hB2.cell 7; have e8 := hB2.cell 8; have e9 := hB2.cell 9
      simp at e0 e1 e2 e3 e4 e5 e6 e7 e8 e9
      clear hB2 hA2
      go_upto_block 2 with fail
      go_cut [10, 11, 12] (fun vt vs vv wx => ∃ cm : CM, vt = .int .i64 cm.t ∧ vs = .bool cm.s ∧ vv = .slice cm.v.a cm.v.l.length cm.v.c ∧ cm.pl = ZC ∧ cm.v.In (W.heap.size ≤ ·) wx ∧ W.grownBy wx none)
      case first =>
        have hcase : kd = 0 ∨ kd = 1 ∨ kd = 2 ∨ kd = 3 ∨ kd = 4 := by omega
        rcases hcase with rfl | rfl | rfl | rfl | rfl
        · have HZ4 := Lib.hid (HZY.out.1 rfl)
          go_wp2_with fail
          go_meet
          exact ⟨⟨weight, true, ⟨[], none, 0⟩⟩, rfl, rfl, rfl, HZ4.out.symm, StrR.nil_in, only_refl _ _⟩
        · have HZ4 := Lib.hid (HZY.out.2.1 rfl)
          go_wp2_with fail
          go_meet
          exact ⟨⟨wrap64 (weight * nn), nb, ⟨[], none, 0⟩⟩, by go_num, rfl, rfl, HZ4.out.symm, StrR.nil_in, only_refl _ _⟩
        · have HZ4 := Lib.hid (HZY.out.2.2.1 (.inl rfl))
          go_wp2_with fail
          go_meet
          exact ⟨⟨nn, nb, ⟨[], none, 0⟩⟩, rfl, rfl, rfl, HZ4.out.symm, StrR.nil_in, only_refl _ _⟩
        · have HZ4 := Lib.hid (HZY.out.2.2.1 (.inr rfl))
          go_wp2_with fail
          go_meet
          exact ⟨⟨nn, nb, ⟨[], none, 0⟩⟩, rfl, rfl, rfl, HZ4.out.symm, StrR.nil_in, only_refl _ _⟩
        · have HZ4 := Lib.hid (HZY.out.2.2.2 rfl)
          go_wp2_with fail
          refine (KVAL.out W (only_trans GA.out M5.out.gr)).mono ?_
          rintro en w7 ⟨rfl, hg7⟩
          have G7 := Lib.hid hg7
          clear hg7 a0 a1 e0 e1 e2 e3 e4 e5 e6 e7 e8 e9
          by_cases hvb : vb = true
          · subst hvb
            have HZ5 : Hid (ZC = ⟨1, true, [vv]⟩) := Lib.hid (by rw [HZ4.out, if_pos rfl])
            go_wp2_with fail
            go_meet
            exact ⟨⟨1, true, ⟨[vv], some ⟨w7.heap.size, 0, none⟩, 1⟩⟩, rfl, rfl, rfl, HZ5.out.symm, ⟨rd_lit1 (Blk.new _ _ _) G7.out.size, Nat.le_refl _, by show 1 ≤ maxLen; decide, by simp⟩, only_alloc G7.out _⟩
          · have hvb : vb = false := by simpa using hvb
            subst hvb
            have HZ5 : Hid (ZC = ⟨0, true, []⟩) := Lib.hid (by rw [HZ4.out, if_neg (by simp)])
            go_wp2_with fail
            go_meet
            exact ⟨⟨0, true, ⟨[], none, 0⟩⟩, rfl, rfl, rfl, HZ5.out.symm, StrR.nil_in, G7.out⟩
      case rest =>
      obtain ⟨cm, rfl, rfl, rfl, hmp, hmi, hg6⟩ := hcut
      have HLT : Hid (∀ b, PB pc vT vS vV b → b < W.heap.size) := Lib.hid (fun b hb => M5.out.own.ltPB hb)
      have HWW : Hid (WA.heap.size ≤ W.heap.size) := Lib.hid M5.out.gr.size
      obtain ⟨N, hN⟩ : ∃ N, N = W.heap.size := ⟨_, rfl⟩
      rw [← hN] at hmi HLT HWW
      have HMI := Lib.hid hmi
      have HMP := Lib.hid hmp
      have MO := Lib.hid (M5.out.ext hg6)
      have BE := Lib.hid (BE5.out.grown hg6 (by simp))
      have BR := Lib.hid (BR5.out.grown hg6 (by simp))
      have KEY5 := Lib.hid (KEY.out.grown (only_trans GW.out hg6) (by simp))
      clear hN hmi hmp hg6 M5 a0 a1 e0 e1 e2 e3 e4 e5 e6 e7 e8 e9 BE5 BR5 GW KEY
      obtain ⟨W, rfl⟩ : ∃ W', W' = wc := ⟨_, rfl⟩
      have hnp : ¬ RB vT vS vV pc := by
        rintro (e | e | e)
        · exact blk_norow MO.out.own.blk MO.out.own.t (by decide) e
        · exact blk_norow MO.out.own.blk MO.out.own.s (by decide) e
        · exact blk_norow MO.out.own.blk MO.out.own.v (by decide) e
      have hpb : pc < W.heap.size := MO.out.own.blk.lt
      have p1 := MO.out.own.blk.cell 1; have p2 := MO.out.own.blk.cell 2; have p3 := MO.out.own.blk.cell 3
      simp at p1 p2 p3
      have hnn : cs.length ≤ 1000000 := by omega
      have hbase : WA.heap.size ≤ W.heap.size := MO.out.gr.size
      go_upto_region 22 with fail
      refine wp_region_gen 21 (JC [some (.pointer (some ⟨pc, 1, none⟩)), some (vT), some (.int .i64 cm.t), none, none, some (.pointer (some ⟨pc, 2, none⟩)), some (vS), some (.bool cm.s), none, none, some (.pointer (some ⟨pc, 3, none⟩)), some (vV), some (.slice cm.v.a cm.v.l.length cm.v.c), none, none, some (.pointer (some ⟨pc, 1, none⟩)), none, some (.pointer (some ⟨pc, 2, none⟩)), none, some (.pointer (some ⟨pc, 3, none⟩)), none] (Put3 W WA.heap.size pc cs cm vT vS vV)) (by kernel_rfl) (by kernel_rfl) ?_ ?_ ?_
      · intro u
        exact ⟨(fun j c _ h => by cases h), Put3.start MO.out.own.t MO.out.own.s MO.out.own.v⟩
      · intro AA hA
        have hasz : AA.tmps.size = 87 := by rw [hA]; kernel_rfl
        have ea7 : AA.eval (.tmp 7) = .pointer (some ⟨pc, 0, none⟩) := by rw [hA]; kernel_rfl
        have ea10 : AA.eval (.tmp 10) = .int .i64 cm.t := by rw [hA]; kernel_rfl
        have ea11 : AA.eval (.tmp 11) = .bool cm.s := by rw [hA]; kernel_rfl
        have ea12 : AA.eval (.tmp 12) = .slice cm.v.a cm.v.l.length cm.v.c := by rw [hA]; kernel_rfl
        clear hA
        simp only [List.take_succ_cons, List.take_zero]
        refine .cons ?_ (.cons ?_ (.cons ?_ (.cons ?_ (.cons ?_ (.cons ?_ (.cons ?_ (.cons ?_ (.cons ?_ (.cons ?_ (.cons ?_ (.cons ?_ (.cons ?_ (.cons ?_ (.cons ?_ (.cons ?_ (.cons ?_ (.cons ?_ (.cons ?_ (.cons ?_ (.cons ?_ (.nil)))))))))))))))))))))
        · exact gd_gen (by kernel_rfl) (Want.none_ rfl) rfl (fun D u w v h => h.other v (by omega)) (fun D u ρ w kn => by
            have e0 := kn.own 7 (c := .pointer (some ⟨pc, 0, none⟩)) (by kernel_rfl) ea7
            simp [execOp, kn.rho.con, e0, go_sem])
        · refine gd_eff (by kernel_rfl) (Want.none_ rfl) (fun D u ρ w kn hD => ?_)
          have h16 := kn.ext.not16 (by omega) hD
          obtain ⟨-, x1, x2, x3, x4⟩ := kn.ext.early h16
          have e0 := kn.con 0 68 (c := .pointer (some ⟨pc, 1, none⟩)) (by kernel_rfl) (by omega) (by kernel_rfl) rfl
          have f0 := (x1.cell hpb hnp).trans p1
          exact ⟨vT, w, by simp [execOp, kn.rho.con, e0, f0, go_sem], (fun c h => by injection h with h; injection h), kn.ext.other _ (by omega)⟩
        · exact gd_gen (by kernel_rfl) (Want.none_ rfl) rfl (fun D u w v h => h.other v (by omega)) (fun D u ρ w kn => by
            have e0 := kn.own 10 (c := .int .i64 cm.t) (by kernel_rfl) ea10
            simp [execOp, kn.rho.con, e0, go_sem])
        · refine gd_eff (by kernel_rfl) (Want.none_ rfl) (fun D u ρ w kn hD => ?_)
          have h16 := kn.ext.not16 (by omega) hD
          obtain ⟨-, x1, x2, x3, x4⟩ := kn.ext.early h16
          have e0 := kn.con 2 70 (c := .int .i64 cm.t) (by kernel_rfl) (by omega) (by kernel_rfl) rfl
          exact ⟨.slice (some ⟨w.heap.size, 0, none⟩) 1 1, w.alloc (.cells #[.int .i64 cm.t] 3), by simp [execOp, kn.rho.con, e0, go_sem], (fun c h => by injection h with h; cases h), kn.ext.turn (by omega) (by omega) (by omega) h16 (x1.alloc _) (x2.laid (by omega) hD x1.2.2.2.1) ((x3.ext (World.grownBy_alloc w _ none)).other _ (by omega) (by omega)) ((x4.ext (World.grownBy_alloc w _ none)).other _ (by omega) (by omega))⟩
        · refine gd_eff (by kernel_rfl) (Want.none_ rfl) (fun D u ρ w kn hD => ?_)
          have h16 := kn.ext.not16 (by omega) hD
          obtain ⟨-, x1, x2, x3, x4⟩ := kn.ext.early h16
          have e0 := kn.con 1 69 (c := vT) (by kernel_rfl) (by omega) (by kernel_rfl) rfl
          have e1 := kn.slot 3 71 (by kernel_rfl) (by omega)
          have h1 := kn.dep 3 (by kernel_rfl)
          obtain ⟨v', w', hr, ho, hg, hb⟩ := x2.run hD h1 47 47 Tryz.underlying47 intInfo37 rfl rfl (by decide) hnn (Nat.le_trans hbase x1.2.2.2.1)
          exact ⟨v', w', exec_append rfl e0 e1 hr, (fun c h => by injection h with h; cases h), kn.ext.turn (by omega) (by omega) (by omega) h16 (x1.grow hg (fun g hg => .inl (.inl hg))) (x2.done (by omega) hD h1 x1.2.2.2.1 ho hb) ((x3.grow hg (own_rowT (x2.before hD).1) (by decide)).other _ (by omega) (by omega)) ((x4.grow hg (own_rowT (x2.before hD).1) (by decide)).other _ (by omega) (by omega))⟩
        · exact gd_gen (by kernel_rfl) (Want.none_ rfl) rfl (fun D u w v h => h.other v (by omega)) (fun D u ρ w kn => by
            have e0 := kn.own 7 (c := .pointer (some ⟨pc, 0, none⟩)) (by kernel_rfl) ea7
            simp [execOp, kn.rho.con, e0, go_sem])
        · refine gd_eff (by kernel_rfl) (Want.none_ rfl) (fun D u ρ w kn hD => ?_)
          have h16 := kn.ext.not16 (by omega) hD
          obtain ⟨-, x1, x2, x3, x4⟩ := kn.ext.early h16
          have e0 := kn.con 5 73 (c := .pointer (some ⟨pc, 2, none⟩)) (by kernel_rfl) (by omega) (by kernel_rfl) rfl
          have f0 := (x1.cell hpb hnp).trans p2
          exact ⟨vS, w, by simp [execOp, kn.rho.con, e0, f0, go_sem], (fun c h => by injection h with h; injection h), kn.ext.other _ (by omega)⟩
        · exact gd_gen (by kernel_rfl) (Want.none_ rfl) rfl (fun D u w v h => h.other v (by omega)) (fun D u ρ w kn => by
            have e0 := kn.own 11 (c := .bool cm.s) (by kernel_rfl) ea11
            simp [execOp, kn.rho.con, e0, go_sem])
        · refine gd_eff (by kernel_rfl) (Want.none_ rfl) (fun D u ρ w kn hD => ?_)
          have h16 := kn.ext.not16 (by omega) hD
          obtain ⟨-, x1, x2, x3, x4⟩ := kn.ext.early h16
          have e0 := kn.con 7 75 (c := .bool cm.s) (by kernel_rfl) (by omega) (by kernel_rfl) rfl
          exact ⟨.slice (some ⟨w.heap.size, 0, none⟩) 1 1, w.alloc (.cells #[.bool cm.s] 4), by simp [execOp, kn.rho.con, e0, go_sem], (fun c h => by injection h with h; cases h), kn.ext.turn (by omega) (by omega) (by omega) h16 (x1.alloc _) ((x2.ext (World.grownBy_alloc w _ none)).other _ (by omega) (by omega)) (x3.laid (by omega) hD x1.2.2.2.1) ((x4.ext (World.grownBy_alloc w _ none)).other _ (by omega) (by omega))⟩
        · refine gd_eff (by kernel_rfl) (Want.none_ rfl) (fun D u ρ w kn hD => ?_)
          have h16 := kn.ext.not16 (by omega) hD
          obtain ⟨-, x1, x2, x3, x4⟩ := kn.ext.early h16
          have e0 := kn.con 6 74 (c := vS) (by kernel_rfl) (by omega) (by kernel_rfl) rfl
          have e1 := kn.slot 8 76 (by kernel_rfl) (by omega)
          have h1 := kn.dep 8 (by kernel_rfl)
          obtain ⟨v', w', hr, ho, hg, hb⟩ := x3.run hD h1 66 66 Tryz.underlying66 boolInfo37 rfl rfl (by decide) hnn (Nat.le_trans hbase x1.2.2.2.1)
          exact ⟨v', w', exec_append rfl e0 e1 hr, (fun c h => by injection h with h; cases h), kn.ext.turn (by omega) (fun _ => kn.dep 4 (by kernel_rfl)) (by omega) h16 (x1.grow hg (fun g hg => .inl (.inr (.inl hg)))) ((x2.grow hg (own_rowT (x3.before hD).1) (by decide)).other _ (by omega) (by omega)) (x3.done (by omega) hD h1 x1.2.2.2.1 ho hb) ((x4.grow hg (own_rowT (x3.before hD).1) (by decide)).other _ (by omega) (by omega))⟩
        · exact gd_gen (by kernel_rfl) (Want.none_ rfl) rfl (fun D u w v h => h.other v (by omega)) (fun D u ρ w kn => by
            have e0 := kn.own 7 (c := .pointer (some ⟨pc, 0, none⟩)) (by kernel_rfl) ea7
            simp [execOp, kn.rho.con, e0, go_sem])
        · refine gd_eff (by kernel_rfl) (Want.none_ rfl) (fun D u ρ w kn hD => ?_)
          have h16 := kn.ext.not16 (by omega) hD
          obtain ⟨-, x1, x2, x3, x4⟩ := kn.ext.early h16
          have e0 := kn.con 10 78 (c := .pointer (some ⟨pc, 3, none⟩)) (by kernel_rfl) (by omega) (by kernel_rfl) rfl
          have f0 := (x1.cell hpb hnp).trans p3
          exact ⟨vV, w, by simp [execOp, kn.rho.con, e0, f0, go_sem], (fun c h => by injection h with h; injection h), kn.ext.other _ (by omega)⟩
        · exact gd_gen (by kernel_rfl) (Want.none_ rfl) rfl (fun D u w v h => h.other v (by omega)) (fun D u ρ w kn => by
            have e0 := kn.own 12 (c := .slice cm.v.a cm.v.l.length cm.v.c) (by kernel_rfl) ea12
            simp [execOp, kn.rho.con, e0, go_sem])
        · refine gd_eff (by kernel_rfl) (Want.none_ rfl) (fun D u ρ w kn hD => ?_)
          have h16 := kn.ext.not16 (by omega) hD
          obtain ⟨-, x1, x2, x3, x4⟩ := kn.ext.early h16
          have e0 := kn.con 12 80 (c := .slice cm.v.a cm.v.l.length cm.v.c) (by kernel_rfl) (by omega) (by kernel_rfl) rfl
          exact ⟨.slice (some ⟨w.heap.size, 0, none⟩) 1 1, w.alloc (.cells #[.slice cm.v.a cm.v.l.length cm.v.c] 24), by simp [execOp, kn.rho.con, e0, go_sem], (fun c h => by injection h with h; cases h), kn.ext.turn (by omega) (by omega) (by omega) h16 (x1.alloc _) ((x2.ext (World.grownBy_alloc w _ none)).other _ (by omega) (by omega)) ((x3.ext (World.grownBy_alloc w _ none)).other _ (by omega) (by omega)) (x4.laid (by omega) hD x1.2.2.2.1)⟩
        · refine gd_eff (by kernel_rfl) (Want.none_ rfl) (fun D u ρ w kn hD => ?_)
          have h16 := kn.ext.not16 (by omega) hD
          obtain ⟨-, x1, x2, x3, x4⟩ := kn.ext.early h16
          have e0 := kn.con 11 79 (c := vV) (by kernel_rfl) (by omega) (by kernel_rfl) rfl
          have e1 := kn.slot 13 81 (by kernel_rfl) (by omega)
          have h1 := kn.dep 13 (by kernel_rfl)
          obtain ⟨v', w', hr, ho, hg, hb⟩ := x4.run hD h1 67 67 Tryz.underlying67 strsInfo37 rfl rfl (by decide) hnn (Nat.le_trans hbase x1.2.2.2.1)
          exact ⟨v', w', exec_append rfl e0 e1 hr, (fun c h => by injection h with h; cases h), kn.ext.turn (by omega) (by omega) (fun _ => kn.dep 9 (by kernel_rfl)) h16 (x1.grow hg (fun g hg => .inl (.inr (.inr hg)))) ((x2.grow hg (own_rowT (x4.before hD).1) (by decide)).other _ (by omega) (by omega)) ((x3.grow hg (own_rowT (x4.before hD).1) (by decide)).other _ (by omega) (by omega)) (x4.done (by omega) hD h1 x1.2.2.2.1 ho hb)⟩
        · exact gd_gen (by kernel_rfl) (Want.none_ rfl) rfl (fun D u w v h => h.other v (by omega)) (fun D u ρ w kn => by
            have e0 := kn.own 7 (c := .pointer (some ⟨pc, 0, none⟩)) (by kernel_rfl) ea7
            simp [execOp, kn.rho.con, e0, go_sem])
        · refine gd_skip (by kernel_rfl) (Want.none_ rfl) rfl (fun D u ρ w kn hD => ?_)
          have e0 := kn.con 15 83 (c := .pointer (some ⟨pc, 1, none⟩)) (by kernel_rfl) (by omega) (by kernel_rfl) rfl
          have e1 := kn.slot 4 72 (by kernel_rfl) (by omega)
          exact kn.ext.st1 MO.out.own hD (kn.dep 1 (by kernel_rfl)) (kn.dep 6 (by kernel_rfl)) (kn.dep 11 (by kernel_rfl)) (kn.dep 14 (by kernel_rfl)) ρ rfl e0 e1
        · exact gd_gen (by kernel_rfl) (Want.none_ rfl) rfl (fun D u w v h => h.other v (by omega)) (fun D u ρ w kn => by
            have e0 := kn.own 7 (c := .pointer (some ⟨pc, 0, none⟩)) (by kernel_rfl) ea7
            simp [execOp, kn.rho.con, e0, go_sem])
        · refine gd_skip (by kernel_rfl) (Want.none_ rfl) rfl (fun D u ρ w kn hD => ?_)
          have e0 := kn.con 17 84 (c := .pointer (some ⟨pc, 2, none⟩)) (by kernel_rfl) (by omega) (by kernel_rfl) rfl
          have e1 := kn.slot 9 77 (by kernel_rfl) (by omega)
          exact kn.ext.st2 MO.out.own hD (kn.dep 16 (by kernel_rfl)) ρ rfl e0 e1
        · exact gd_gen (by kernel_rfl) (Want.none_ rfl) rfl (fun D u w v h => h.other v (by omega)) (fun D u ρ w kn => by
            have e0 := kn.own 7 (c := .pointer (some ⟨pc, 0, none⟩)) (by kernel_rfl) ea7
            simp [execOp, kn.rho.con, e0, go_sem])
        · refine gd_skip (by kernel_rfl) (Want.none_ rfl) rfl (fun D u ρ w kn hD => ?_)
          have e0 := kn.con 19 85 (c := .pointer (some ⟨pc, 3, none⟩)) (by kernel_rfl) (by omega) (by kernel_rfl) rfl
          have e1 := kn.slot 14 82 (by kernel_rfl) (by omega)
          exact kn.ext.st3_ MO.out.own hD (kn.dep 18 (by kernel_rfl)) (kn.dep 16 (by kernel_rfl)) ρ rfl e0 e1
      · intro D u w9 hJ hD
        obtain ⟨w3, h3, hw9⟩ := hJ.2.fin (hD 16 (by omega)) (hD 18 (by omega)) (hD 20 (by omega))
        obtain ⟨NT, hNT⟩ : ∃ v, v = u 4 := ⟨_, rfl⟩
        obtain ⟨NS, hNS⟩ : ∃ v, v = u 9 := ⟨_, rfl⟩
        obtain ⟨NV, hNV⟩ : ∃ v, v = u 14 := ⟨_, rfl⟩
        rw [← hNT, ← hNS, ← hNV] at h3 hw9
        have DN := put3_done (c := cm) MO.out.own h3.fr h3.t h3.s h3.v
        rw [← hw9] at DN
        have HDN := Lib.hid DN
        have HNW : Hid (Newer W vT NT ∧ Newer W vS NS ∧ Newer W vV NV) := Lib.hid ⟨h3.t.2, h3.s.2, h3.v.2⟩
        simp only [List.take_succ_cons, List.take_zero, List.drop_succ_cons, List.drop_zero, putAll]
        clear DN hD hJ h3 hw9 hNT hNS hNV p1 p2 p3 hpb hnp
        go_wp2_with fail
        go_roundw
        case rel => exact ⟨k + 1, cs ++ [cm], _, _, _, by go_num, by omega, by have := HCL.out; simp; omega, by rw [HNX.out, List.map_append, HCS.out, List.map_singleton, HMP.out], MO.out.put HDN.out.1 HDN.out.2 HNW.out.1 HNW.out.2.1 HNW.out.2.2 HMI.out HLT.out HWW.out,
          noPB_keep KEY5.out HDN.out.2 HNW.out.1 HNW.out.2.1 HNW.out.2.2,
          HDN.out.2.blk BE.out (MO.out.own.notPB BE.out (by omega) (by decide) (by decide) (by decide)), HDN.out.2.blk BR.out (MO.out.own.notPB BR.out (by omega) (by decide) (by decide) (by decide))⟩
        case measure => simp [intOf]; omega
    · have i1 : ¬ (k : Int) < (ags.length : Int) := by omega
      obtain ⟨p, hpk, hpc, hps, hv1, hv2, hv3⟩ := M.out.part KEY.out
      subst hv1 hv2 hv3
      have hBP := M.out.own.blk
      have hR := BR.out
      have p0 := hBP.cell 0; have p1 := hBP.cell 1; have p2 := hBP.cell 2; have p3 := hBP.cell 3
      have r0 := hR.cell 0; have r1 := hR.cell 1; have r2 := hR.cell 2; have r3 := hR.cell 3
      have f0 := hR.frozen 0; have f1 := hR.frozen 1; have f2 := hR.frozen 2; have f3 := hR.frozen 3
      simp at p0 p1 p2 p3 r0 r1 r2 r3
      have HPK := Lib.hid hpk
      have HPC := Lib.hid hpc
      have HPP := Lib.hid hps
      clear hBP hpk hpc hps hR
      go_wp2_with fail
      have hB9 := set4_blk (x := .slice AK ks.length cK) (y := .slice p.ta cs.length p.tc) (z := .slice p.sa cs.length p.sc) (u := .slice p.va cs.length p.vc) BR.out
      have q0 := hB9.cell 0; have q1 := hB9.cell 1; have q2 := hB9.cell 2; have q3 := hB9.cell 3
      simp [set4] at q0 q1 q2 q3
      exact bodyPost_ret (v := .agg #[.slice AK ks.length cK, .slice p.ta cs.length p.tc, .slice p.sa cs.length p.sc, .slice p.va cs.length p.vc]) (by simp [results, Tryz.results63, go_sem, q0, q1, q2, q3]) rfl
        ⟨p, by rw [HPK.out, HPC.out], by rw [HP.out]; unfold PD.pl; have hcl := HCL.out; rw [HPK.out, HPC.out, HCS.out, List.take_of_length_le (by omega)], (HPP.out.grown set4_only (by rintro b (hb | hb) e <;> injection e with e <;> first | (have h1 := hb.1; omega) | (have h1 : WA.heap.size ≤ b := hb; omega))).mono (fun b hb _ => by have := GA.out.size; rcases hb with hb | hb; exact Nat.le_trans this hb.1; exact Nat.le_trans this hb), only_fresh (only_trans GA.out M.out.gr) set4_only (by have := HEB.out; omega)⟩
end Go.Proofs.YtfkgcighooijhaaGreatDoor
