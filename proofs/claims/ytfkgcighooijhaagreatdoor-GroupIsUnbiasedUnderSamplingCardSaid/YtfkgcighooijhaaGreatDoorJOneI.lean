/- A partial that is being made, and what it refers to. No condition. -/
import Derived.Test.YtfkgcighooijhaaGreatDoorJPutG
import Derived.Test.YtfkgcighooijhaaGreatDoorJGrpF
import Derived.Test.YtfkgcighooijhaaGreatDoorJGenB
import Derived.Test.YtfkgcighooijhaaGreatDoorJGrpP
import Derived.Lib.SliceRun
namespace Go.Proofs.YtfkgcighooijhaaGreatDoor
open Go.RowKit
set_option linter.unusedVariables false
set_option linter.unusedSimpArgs false

theorem fr_of_none {w w' : World} {B : Nat → Prop} (h : w.grownBy w' none) : FrN B w w' := (FrN.refl B w).grow h (by simp)
theorem POwn.ext {w w' : World} {base pb : Nat} {key vT vS vV : Value} {cs : List CM} (h : POwn w base pb key cs vT vS vV) (hg : w.grownBy w' none) : POwn w' base pb key cs vT vS vV :=
  ⟨h.blk.grown hg (by simp), own_ext h.t hg, own_ext h.s hg, own_ext h.v hg⟩
theorem POwn.off {w w' : World} {base pb cb t : Nat} {key vT vS vV : Value} {cs : List CM} {ds : Array Value} (h : POwn w base pb key cs vT vS vV) (hg : w.grownBy w' (some cb)) (hc : Blk w cb t ds) (hne : cb ≠ pb) (h1 : t ≠ 3) (h2 : t ≠ 4) (h3 : t ≠ 24) : POwn w' base pb key cs vT vS vV :=
  ⟨h.blk.grown hg (by intro e; injection e with e; exact hne e.symm), own_off h.t hg (blk_norow hc h.t h1), own_off h.s hg (blk_norow hc h.s h2), own_off h.v hg (blk_norow hc h.v h3)⟩
theorem POwn.notPB {w : World} {base pb cb t : Nat} {key vT vS vV : Value} {cs : List CM} {ds : Array Value} (h : POwn w base pb key cs vT vS vV) (hc : Blk w cb t ds) (hne : cb ≠ pb) (h1 : t ≠ 3) (h2 : t ≠ 4) (h3 : t ≠ 24) : ¬ PB pb vT vS vV cb := by
  rintro (e | e | e | e)
  · exact hne e
  · exact blk_norow hc h.t h1 e
  · exact blk_norow hc h.s h2 e
  · exact blk_norow hc h.v h3 e
theorem POwn.ltPB {w : World} {base pb : Nat} {key vT vS vV : Value} {cs : List CM} (h : POwn w base pb key cs vT vS vV) {b : Nat} (hb : PB pb vT vS vV b) : b < w.heap.size := by
  rcases hb with rfl | e | e | e
  · exact h.blk.lt
  · exact (h.t.lt b e).2
  · exact (h.s.lt b e).2
  · exact (h.v.lt b e).2
theorem POwn.gePB {w : World} {base pb : Nat} {key vT vS vV : Value} {cs : List CM} (h : POwn w base pb key cs vT vS vV) (hpb : base ≤ pb) {b : Nat} (hb : PB pb vT vS vV b) : base ≤ b := by
  rcases hb with rfl | e | e | e
  · exact hpb
  · exact (h.t.lt b e).1
  · exact (h.s.lt b e).1
  · exact (h.v.lt b e).1
/-- not one of the blocks of the partial -/
def NoPB (base pb : Nat) (vT vS vV : Value) (b : Nat) : Prop := base ≤ b ∧ ¬ PB pb vT vS vV b
theorem strR_keep {S S' : Nat → Prop} {w w' : World} {x : StrR} {B : Nat → Prop} (h : x.In S w) (hf : FrN B w w') (hB : ∀ b, S b → b < w.heap.size → ¬ B b) (hS : ∀ b, S b → b < w.heap.size → S' b) : x.In S' w' := by
  have h1 := h.mono (S' := fun b => S b ∧ b < w.heap.size) (fun b hb hlt => ⟨hb, hlt⟩)
  exact ⟨(hf.rd h1.1 (fun b hb => hB b hb.1 hb.2)).mono (fun b hb _ => hS b hb.1 hb.2), h.2⟩
/-- what 'one' and 'both' hold on to -/
structure MkI (w wr : World) (pb : Nat) (key : StrR) (cs : List CM) (vT vS vV : Value) : Prop where
  own : POwn wr w.heap.size pb (.slice key.a key.l.length key.c) cs vT vS vV
  keyIn : key.In (NoPB w.heap.size pb vT vS vV) wr
  csIn : ∀ c ∈ cs, c.v.In (NoPB w.heap.size pb vT vS vV) wr
  gr : w.grownBy wr none
  ge : w.heap.size ≤ pb
theorem MkI.ext {w wr w' : World} {pb : Nat} {key : StrR} {cs : List CM} {vT vS vV : Value} (h : MkI w wr pb key cs vT vS vV) (hg : wr.grownBy w' none) : MkI w w' pb key cs vT vS vV :=
  ⟨h.own.ext hg, h.keyIn.grown hg (by simp), fun c hc => (h.csIn c hc).grown hg (by simp), only_trans h.gr hg, h.ge⟩
/-- a new block has turned -/
theorem MkI.new_ {w wr w1 w' : World} {pb cb t : Nat} {key : StrR} {cs : List CM} {vT vS vV : Value} {ds : Array Value} (h : MkI w wr pb key cs vT vS vV) (hg : wr.grownBy w1 none) (hc : Blk w1 cb t ds) (hge : wr.heap.size ≤ cb) (hg2 : w1.grownBy w' (some cb)) (h1 : t ≠ 3) (h2 : t ≠ 4) (h3 : t ≠ 24) : MkI w w' pb key cs vT vS vV := by
  have hpb := h.own.blk.lt
  have hf : FrN (fun i => i = cb) wr w' := (fr_of_none hg).grow hg2 (fun g hg => .inl (by injection hg with hg; exact hg.symm))
  refine ⟨(h.own.ext hg).off hg2 hc (by omega) h1 h2 h3, strR_keep h.keyIn hf (fun b _ hlt e => by omega) (fun b hb _ => hb), fun c hcm => strR_keep (h.csIn c hcm) hf (fun b _ hlt e => by omega) (fun b hb _ => hb), only_fresh (only_trans h.gr hg) hg2 (Nat.le_trans h.gr.size hge), h.ge⟩
/-- behind put -/
theorem MkI.put {w wr w' : World} {pb : Nat} {key : StrR} {cs : List CM} {vT vS vV vT' vS' vV' : Value} {c : CM} {N : Nat} (h : MkI w wr pb key cs vT vS vV) (hp : POwn w' w.heap.size pb (.slice key.a key.l.length key.c) (cs ++ [c]) vT' vS' vV') (hf : FrN (PB pb vT vS vV) wr w') (h1 : Newer wr vT vT') (h2 : Newer wr vS vS') (h3 : Newer wr vV vV')
    (hc : c.v.In (N ≤ ·) wr) (hN : ∀ b, PB pb vT vS vV b → b < N) (hwN : w.heap.size ≤ N) : MkI w w' pb key (cs ++ [c]) vT' vS' vV' := by
  have key1 : ∀ b, b < wr.heap.size → ¬ PB pb vT vS vV b → ¬ PB pb vT' vS' vV' b := by
    rintro b hb hn (e | e | e | e)
    · exact hn (.inl e)
    · rcases h1 b e with h | h
      · exact hn (.inr (.inl h))
      · omega
    · rcases h2 b e with h | h
      · exact hn (.inr (.inr (.inl h)))
      · omega
    · rcases h3 b e with h | h
      · exact hn (.inr (.inr (.inr h)))
      · omega
  refine ⟨hp, strR_keep h.keyIn hf (fun b hb _ => hb.2) (fun b hb hlt => ⟨hb.1, key1 b hlt hb.2⟩), fun d hd => ?_, ?_, h.ge⟩
  · rcases List.mem_append.1 hd with hd | hd
    · exact strR_keep (h.csIn d hd) hf (fun b hb _ => hb.2) (fun b hb hlt => ⟨hb.1, key1 b hlt hb.2⟩)
    · rw [List.mem_singleton.1 hd]
      exact strR_keep hc hf (fun b hb _ hB => by have hq : N ≤ b := hb; have := hN b hB; omega) (fun b hb hlt => ⟨Nat.le_trans hwN hb, key1 b hlt (fun hB => by have hq : N ≤ b := hb; have := hN b hB; omega)⟩)
  · exact hf.none_ h.gr (fun i hi => h.own.gePB h.ge hi)
/-- the partial that comes of it -/
theorem MkI.part {w wr : World} {pb : Nat} {key : StrR} {cs : List CM} {vT vS vV : Value} (h : MkI w wr pb key cs vT vS vV) : ∃ p : PD, p.key = key ∧ p.cs = cs ∧ p.Sub (w.heap.size ≤ ·) wr ∧ vT = .slice p.ta cs.length p.tc ∧ vS = .slice p.sa cs.length p.sc ∧ vV = .slice p.va cs.length p.vc := by
  obtain ⟨ta, tc, e1, t1, t2, -, t3⟩ := Rd.of_own h.own.t (by decide)
  obtain ⟨sa, sc, e2, s1, s2, -, s3⟩ := Rd.of_own h.own.s (by decide)
  obtain ⟨va, vc, e3, v1, v2, -, v3⟩ := Rd.of_own h.own.v (by decide)
  refine ⟨⟨key, cs, ta, tc, sa, sc, va, vc⟩, rfl, rfl, ⟨h.keyIn.mono (fun b hb _ => hb.1), t3, s3, v3, fun c hc => (h.csIn c hc).mono (fun b hb _ => hb.1), t1, t2, s1, s2, v1, v2, ?_, ?_⟩, e1, e2, e3⟩
  · intro e
    have e' : ta = none := e
    rw [e'] at t3
    have := rd_none t3
    rw [tOf_len] at this; exact this
  · intro e
    have e' : sa = none := e
    rw [e'] at s3
    have := rd_none s3
    rw [sOf_len] at this; exact this
/-- a value that is a cell -/
def CVal (S : Nat → Prop) (z : CD) (w : World) (v : Value) : Prop := ∃ x : CM, v = .agg #[.int .i64 x.t, .bool x.s, .slice x.v.a x.v.l.length x.v.c] ∧ x.pl = z ∧ x.v.In S w
theorem CVal.grown {S : Nat → Prop} {z : CD} {w w' : World} {v : Value} (h : CVal S z w v) (hg : w.grownBy w' none) : CVal S z w' v := by
  obtain ⟨x, h1, h2, h3⟩ := h
  exact ⟨x, h1, h2, h3.grown hg (by simp)⟩
theorem oneC0 {a : AggD} {e : Ev} (h : a.kind = 0) : oneC a e = ⟨e.weight, true, []⟩ := by unfold oneC; rw [if_pos h]
theorem oneC1 {a : AggD} {e : Ev} (h : a.kind = 1) : oneC a e = numC (fun n => wrap64 (n * e.weight)) (numOf e a.field) := by
  unfold oneC
  rw [if_neg (by omega), if_pos h]
  cases numOf e a.field <;> rfl
theorem oneC2 {a : AggD} {e : Ev} (h : a.kind = 2 ∨ a.kind = 3) : oneC a e = numC (fun n => n) (numOf e a.field) := by
  unfold oneC
  rw [if_neg (by omega), if_neg (by omega), if_neg (by omega)]
  cases numOf e a.field <;> rfl
theorem oneC4 {a : AggD} {e : Ev} (h : a.kind = 4) : oneC a e = valC (valOf e a.field) := by
  unfold oneC
  rw [if_neg (by omega), if_neg (by omega), if_pos h]
  cases valOf e a.field <;> rfl
def set4 (w : World) (b : Nat) (x y z t : Value) : World := (((w.setCell ⟨b, 0, none⟩ x).setCell ⟨b, 1, none⟩ y).setCell ⟨b, 2, none⟩ z).setCell ⟨b, 3, none⟩ t
theorem set4_blk {w : World} {b t : Nat} {v0 v1 v2 v3 x y z u : Value} (h : Blk w b t #[v0, v1, v2, v3]) : Blk (set4 w b x y z u) b t #[x, y, z, u] := by
  simpa [set4] using (((h.set_ 0 x).set_ 1 y).set_ 2 z).set_ 3 u
theorem set4_only {w : World} {b : Nat} {x y z u : Value} : w.grownBy (set4 w b x y z u) (some b) :=
  only_setCell (only_setCell (only_setCell (only_setCell (only_refl w (some b)) (p := ⟨b, 0, none⟩) (.inl rfl) x) (p := ⟨b, 1, none⟩) (.inl rfl) y) (p := ⟨b, 2, none⟩) (.inl rfl) z) (p := ⟨b, 3, none⟩) (.inl rfl) u
def PartP (w : World) (z : PP) (e : Ending) (w' : World) : Prop := ∃ p : PD, e = .returned (.agg #[.slice p.key.a p.key.l.length p.key.c, .slice p.ta p.cs.length p.tc, .slice p.sa p.cs.length p.sc, .slice p.va p.cs.length p.vc]) ∧ p.pl = z ∧ p.Sub (w.heap.size ≤ ·) w' ∧ w.grownBy w' none
theorem load_part (w : World) (b : Nat) (n0 n1 n2 n3 : Nat) (A0 A1 A2 A3 : Option Addr) (c0 c1 c2 c3 : Nat) (h : Blk w b 69 #[.slice A0 n0 c0, .slice A1 n1 c1, .slice A2 n2 c2, .slice A3 n3 c3]) :
    (Instr.loadAt 69 (.pointer (some ⟨b, 0, none⟩))).run Tryz.prog w = .ok (.agg #[.slice A0 n0 c0, .slice A1 n1 c1, .slice A2 n2 c2, .slice A3 n3 c3]) w := by
  have e0 := h.cell 0; have e1 := h.cell 1; have e2 := h.cell 2; have e3 := h.cell 3
  simp at e0 e1 e2 e3
  have hu := Tryz.underlying69
  simp [go_sem, e0, e1, e2, e3]
theorem joinC0 {k : Int} {x y : CD} (h : k = 0 ∨ k = 1) : joinC k x y = chosenC addW x y := by unfold joinC; rcases h with rfl | rfl <;> simp
theorem joinC2 {k : Int} {x y : CD} (h : k = 2) : joinC k x y = chosenC minI x y := by unfold joinC; subst h; simp
theorem joinC3 {k : Int} {x y : CD} (h : k = 3) : joinC k x y = chosenC maxI x y := by unfold joinC; subst h; simp
theorem joinC4 {k : Int} {x y : CD} (h : k = 4) : joinC k x y = uniC x y := by unfold joinC; subst h; simp
end Go.Proofs.YtfkgcighooijhaaGreatDoor

namespace Go.Proofs.YtfkgcighooijhaaGreatDoor
open Go.RowKit
set_option linter.unusedVariables false
set_option linter.unusedSimpArgs false

abbrev pAgg (p : PD) : Value := .agg #[.slice p.key.a p.key.l.length p.key.c, .slice p.ta p.cs.length p.tc, .slice p.sa p.cs.length p.sc, .slice p.va p.cs.length p.vc]
abbrev pArr (p : PD) : Array Value := #[.slice p.key.a p.key.l.length p.key.c, .slice p.ta p.cs.length p.tc, .slice p.sa p.cs.length p.sc, .slice p.va p.cs.length p.vc]
structure CApp (W : World) (base ci bi ai : Nat) (v : Value) (n : Nat) (xs : List Value) (z : PP) (D : Nat → Bool) (u : Nat → Value) (w : World) : Prop where
  d1 : D ai = true → D bi = true
  d2 : D bi = true → D ci = true
  s0 : D ci = false → w.ownsRow base 69 4 v n xs
  s1 : D ci = true → ∃ p : PD, u ci = pAgg p ∧ p.pl = z ∧
    (D ai = false → w.ownsRow base 69 4 v n xs ∧ p.Sub (W.heap.size ≤ ·) w ∧ (D bi = true → ∃ b, u bi = .slice (some ⟨b, 0, none⟩) 1 1 ∧ W.heap.size ≤ b ∧ Blk w b 69 (pArr p))) ∧
    (D ai = true → w.ownsRow base 69 4 (u ai) (n + 1) (xs ++ p.cells) ∧ p.Sub (fun b => W.heap.size ≤ b ∧ Value.ownBlock (u ai) ≠ some b) w ∧ ∀ g, Value.ownBlock (u ai) = some g → Value.ownBlock v = some g ∨ W.heap.size ≤ g)
section
variable {W : World} {base ci bi ai : Nat} {v : Value} {n : Nat} {xs : List Value} {z : PP} {D : Nat → Bool} {u : Nat → Value} {w w' : World}
theorem CApp.start (h : w.ownsRow base 69 4 v n xs) : CApp W base ci bi ai v n xs z (fun _ => false) u w := ⟨(fun h => by cases h), (fun h => by cases h), fun _ => h, fun h => by cases h⟩
theorem CApp.other (h : CApp W base ci bi ai v n xs z D u w) {i : Nat} (x : Value) (h1 : i ≠ ci) (h2 : i ≠ bi) (h3 : i ≠ ai) : CApp W base ci bi ai v n xs z (updB D i) (upd u i x) w := by
  have a1 := updB_ne D (Ne.symm h1); have a2 := updB_ne D (Ne.symm h2); have a3 := updB_ne D (Ne.symm h3)
  have b1 := upd_ne u x (Ne.symm h1); have b2 := upd_ne u x (Ne.symm h2); have b3 := upd_ne u x (Ne.symm h3)
  exact ⟨by rw [a3, a2]; exact h.d1, by rw [a2, a1]; exact h.d2, by rw [a1]; exact h.s0, by rw [a1, a2, a3, b1, b2, b3]; exact h.s1⟩
theorem CApp.called (h : CApp W base ci bi ai v n xs z D u w) (hcb : ci ≠ bi) (hca : ci ≠ ai) (h0 : D ci = false) (hg : w.grownBy w' none) {p : PD} (hp : p.pl = z) (hs : p.Sub (w.heap.size ≤ ·) w') (hW : W.heap.size ≤ w.heap.size) :
    CApp W base ci bi ai v n xs z (updB D ci) (upd u ci (pAgg p)) w' := by
  have hb : D bi = false := by cases e : D bi with | false => rfl | true => rw [h.d2 e] at h0; cases h0
  have ha : D ai = false := by cases e : D ai with | false => rfl | true => rw [h.d1 e] at hb; cases hb
  have a2 := updB_ne D (Ne.symm hcb); have a3 := updB_ne D (Ne.symm hca)
  refine ⟨by rw [a3, a2]; exact h.d1, fun _ => updB_at D ci, (fun e => by rw [updB_at] at e; cases e), fun _ => ⟨p, by rw [upd_at], hp, fun _ => ⟨own_ext (h.s0 h0) hg, hs.mono (fun b hb _ => Nat.le_trans hW hb), fun e => by rw [a2, hb] at e; cases e⟩, fun e => by rw [a3, ha] at e; cases e⟩⟩
theorem CApp.laid (h : CApp W base ci bi ai v n xs z D u w) (hcb : bi ≠ ci) (hba : bi ≠ ai) (h0 : D bi = false) (h1 : D ci = true) {p : PD} (hp : u ci = pAgg p) (hW : W.heap.size ≤ w.heap.size) :
    CApp W base ci bi ai v n xs z (updB D bi) (upd u bi (.slice (some ⟨w.heap.size, 0, none⟩) 1 1)) (w.alloc (.cells (pArr p) 69)) := by
  have ha : D ai = false := by cases e : D ai with | false => rfl | true => rw [h.d1 e] at h0; cases h0
  have a1 := updB_ne D (Ne.symm hcb); have a3 := updB_ne D (Ne.symm hba)
  have b1 := upd_ne u (.slice (some ⟨w.heap.size, 0, none⟩) 1 1) (Ne.symm hcb)
  obtain ⟨q, e1, e2, e3, -⟩ := h.s1 h1
  have hg := World.grownBy_alloc w (.cells (pArr p) 69) none
  obtain ⟨y1, y2, -⟩ := e3 ha
  have hqp : pArr q = pArr p := by
    have e4 : pAgg q = pAgg p := e1.symm.trans hp
    injection e4
  refine ⟨fun _ => updB_at D bi, fun _ => by rw [a1]; exact h1, (fun e => by rw [a1, h1] at e; cases e), fun _ => ⟨q, by rw [b1]; exact e1, e2, fun _ => ⟨y1.alloc _, y2.grown hg (by simp), fun _ => ⟨w.heap.size, by rw [upd_at], hW, by rw [hqp]; exact Blk.new _ _ _⟩⟩, fun e => by rw [a3, ha] at e; cases e⟩⟩
/-- the append runs -/
theorem CApp.run (h : CApp W base ci bi ai v n xs z D u w) (hcb : ci ≠ ai) (hba : bi ≠ ai) (h0 : D ai = false) (h1 : D bi = true) (hv : ∀ g, Value.ownBlock v = some g → g < W.heap.size) (hn : n ≤ 1000000) (hbase : base ≤ w.heap.size) (hW : W.heap.size ≤ w.heap.size) :
    ∃ v' w', (Builtin.append_ #[36, 36] 36 #[v, u bi]).run Tryz.prog w = .ok v' w' ∧ w.grownBy w' (Value.ownBlock v) ∧ CApp W base ci bi ai v n xs z (updB D ai) (upd u ai v') w' := by
  have hc := h.d2 h1
  obtain ⟨p, e1, e2, e3, -⟩ := h.s1 hc
  obtain ⟨y1, y2, y3⟩ := e3 h0
  obtain ⟨b, z1, z2, z3⟩ := y3 h1
  obtain ⟨v', w', hr, ho, hg, hb⟩ := run_appendN (P := Tryz.prog) base 36 36 Tryz.underlying36 partInfo rfl (by decide) y1 (S := fun _ => True) (some ⟨b, 0, none⟩) 1 1 (news := p.cells) (fun _ => ⟨b, 0, rfl, trivial, z3.lt, fun j x hx => by rw [Nat.zero_add, z3.cell j]; simpa [PD.cells, StrR.val] using hx⟩) rfl (pd_one p) (by decide) (by omega) hbase
  have a1 := updB_ne D hcb; have a2 := updB_ne D hba
  have b1 := upd_ne u v' hcb
  refine ⟨v', w', by rw [z1]; exact hr, hg, ⟨fun _ => by rw [a2]; exact h1, by rw [a2, a1]; exact h.d2, (fun e => by rw [a1, hc] at e; cases e), fun _ => ⟨p, by rw [b1]; exact e1, e2, (fun e => by rw [updB_at] at e; cases e), fun _ => ?_⟩⟩⟩
  rw [upd_at]
  have y2' : p.Sub (fun b => W.heap.size ≤ b ∧ b < w.heap.size) w := y2.mono (fun b hb hlt => ⟨hb, hlt⟩)
  refine ⟨ho, (y2'.grown hg (fun b hbb e => by have := hv b e.symm; have := hbb.1; omega)).mono (fun b hbb _ => ⟨hbb.1, fun e => ?_⟩), fun g hg' => ?_⟩
  · rcases hb with h2 | h2
    · rw [h2] at e; have := hv b e; have := hbb.1; omega
    · rw [h2] at e; injection e with e; have := hbb.2; omega
  · rcases hb with h2 | h2
    · rw [h2] at hg'; exact .inl hg'
    · rw [h2] at hg'; injection hg' with hg'; exact .inr (by omega)
theorem CApp.fin (h : CApp W base ci bi ai v n xs z D u w) (h0 : D ai = true) : ∃ p : PD, p.pl = z ∧ w.ownsRow base 69 4 (u ai) (n + 1) (xs ++ p.cells) ∧ p.Sub (fun b => W.heap.size ≤ b ∧ Value.ownBlock (u ai) ≠ some b) w ∧ ∀ g, Value.ownBlock (u ai) = some g → Value.ownBlock v = some g ∨ W.heap.size ≤ g := by
  obtain ⟨p, -, e2, -, e4⟩ := h.s1 (h.d2 (h.d1 h0))
  obtain ⟨y1, y2, y3⟩ := e4 h0
  exact ⟨p, e2, y1, y2, y3⟩
end
/-- a row of partials of the call's own -/
structure PRow (base : Nat) (w : World) (v : Value) (ps : List PD) : Prop where
  own : w.ownsRow base 69 4 v ps.length (ps.flatMap PD.cells)
  sub : ∀ p ∈ ps, p.Sub (fun b => base ≤ b ∧ Value.ownBlock v ≠ some b) w
theorem PRow.nil (base : Nat) (w : World) : PRow base w (.slice none 0 0) [] := ⟨World.ownsRow_nil _ _ _ _, by simp⟩
theorem PRow.ext {base : Nat} {w w' : World} {v : Value} {ps : List PD} (h : PRow base w v ps) (hg : w.grownBy w' none) : PRow base w' v ps := ⟨own_ext h.own hg, fun p hp => (h.sub p hp).grown hg (by simp)⟩
theorem PRow.lt {base : Nat} {w : World} {v : Value} {ps : List PD} (h : PRow base w v ps) : ∀ g, Value.ownBlock v = some g → g < w.heap.size := fun g hg => (h.own.lt g hg).2
theorem PRow.snoc {base : Nat} {W w : World} {v v' : Value} {ps : List PD} {p : PD} (h : PRow base W v ps) (ho : w.ownsRow base 69 4 v' (ps.length + 1) (ps.flatMap PD.cells ++ p.cells)) (hs : p.Sub (fun b => W.heap.size ≤ b ∧ Value.ownBlock v' ≠ some b) w) (hn : ∀ g, Value.ownBlock v' = some g → Value.ownBlock v = some g ∨ W.heap.size ≤ g)
    (hf : FrN (fun i => Value.ownBlock v = some i) W w) (hb : base ≤ W.heap.size) : PRow base w v' (ps ++ [p]) := by
  refine ⟨by rw [List.length_append, List.flatMap_append]; simpa using ho, fun q hq => ?_⟩
  rcases List.mem_append.1 hq with hq | hq
  · have h1 := (h.sub q hq).mono (S' := fun b => (base ≤ b ∧ Value.ownBlock v ≠ some b) ∧ b < W.heap.size) (fun b hb hlt => ⟨hb, hlt⟩)
    have key : ∀ (A : Option Addr) (xs : List Value), Rd (fun b => (base ≤ b ∧ Value.ownBlock v ≠ some b) ∧ b < W.heap.size) W A xs → Rd (fun b => base ≤ b ∧ Value.ownBlock v' ≠ some b) w A xs := fun A xs hr =>
      (hf.rd hr (fun b hb hB => hb.1.2 hB)).mono (fun b hb _ => ⟨hb.1.1, fun e => by rcases hn b e with h2 | h2; exact hb.1.2 h2; have := hb.2; omega⟩)
    exact ⟨⟨key _ _ h1.1.1, h1.1.2⟩, key _ _ h1.2.1, key _ _ h1.2.2.1, key _ _ h1.2.2.2.1, fun c hc => ⟨key _ _ (h1.2.2.2.2.1 c hc).1, (h1.2.2.2.2.1 c hc).2⟩, h1.2.2.2.2.2⟩
  · rw [List.mem_singleton.1 hq]
    exact hs.mono (fun b hb' _ => ⟨Nat.le_trans hb hb'.1, hb'.2⟩)
def PartsP (w : World) (zs : List PP) (e : Ending) (w' : World) : Prop := ∃ (A : Option Addr) (c : Nat) (ps : List PD), e = .returned (.slice A ps.length c) ∧ ps.map PD.pl = zs ∧ ps.length ≤ c ∧ c ≤ maxLen ∧ PDs (w.heap.size ≤ ·) w' A ps ∧ w.grownBy w' none
end Go.Proofs.YtfkgcighooijhaaGreatDoor

namespace Go.Proofs.YtfkgcighooijhaaGreatDoor
open Go.RowKit
set_option linter.unusedVariables false
set_option linter.unusedSimpArgs false

section
variable {P : Program} {Q : Exit → Act → World → Prop}
/-- wp_region_gen, and the slots that the head writes hold what they held -/
theorem wp_region_gen2 {id : Nat} {l : List Oper} {a : Act} {w : World} (n : Nat) (J : (Nat → Bool) → (Nat → Value) → World → Prop)
    (hm : P.follows .mixedOrders = true) (hB : headB l n = true) (hJ : ∀ u, putAll u 0 (l.take n) a = a → J (fun _ => false) u w.drew)
    (hs : ∀ A, A = a → GensOk P Q l.toArray (l.take n) A J 0 (l.take n))
    (hend : ∀ D u w', J D u w' → (∀ j, j < n → D j = true) → wpList P l.toArray Q (l.drop n) (putAll u 0 (l.take n) a) w') : (Code.region id l.toArray true).wp P Q a w := by
  simp only [headB, Bool.and_eq_true, Bool.or_eq_true, decide_eq_true_eq] at hB
  obtain ⟨⟨⟨⟨hn, hw⟩, hseq⟩, hap⟩, hback⟩ := hB
  refine wp_region_any hm ?_
  obtain ⟨u, hu⟩ := putAll_id (l.take n) 0 a
  have inv0 : HeadInv .any l.toArray n (Array.replicate l.toArray.size false) :=
    ⟨by simp, fun j oj _ hl => (by rw [getD_replicate_false] at hl; cases hl), fun t _ ht => getD_in (by simpa using ht) (getD_replicate_false _ _)⟩
  have hle : openN (Array.replicate l.toArray.size false) n ≤ n := by
    unfold openN
    have := List.length_filter_le (fun i => !(Array.replicate l.toArray.size false).getD i true) (List.range n)
    simpa using this
  have hd0 : doneOf (Array.replicate l.toArray.size false) = fun _ => false := by funext j; exact getD_replicate_false _ _
  have := wpAny_of_gen hn hw hseq hap hback (hs a rfl) hend _ (Array.replicate l.toArray.size false) a w.drew rfl ⟨inv0, u, hu.symm, by rw [hd0]; exact hJ u hu⟩
  obtain ⟨d, hd⟩ : ∃ d, l.toArray.size = openN (Array.replicate l.toArray.size false) n + (l.length - n) + d := ⟨l.length - (openN (Array.replicate l.toArray.size false) n + (l.length - n)), by simp; simp at hle; omega⟩
  have h2 := wpAny_more d _ _ _ _ this
  rw [← hd] at h2
  exact h2
end
/-- a slot that operation i writes with what operation j has given; the operations rs read it before -/
structure Late (i j : Nat) (rs : List Nat) (v0 : Value) (D : Nat → Bool) (u : Nat → Value) : Prop where
  before : D i = false → u i = v0
  dep : D i = true → D j = true ∧ ∀ r ∈ rs, D r = true
  after : D i = true → u i = u j
section
variable {i j k : Nat} {rs : List Nat} {v0 x : Value} {D : Nat → Bool} {u : Nat → Value}
theorem Late.start (h : u i = v0) : Late i j rs v0 (fun _ => false) u := ⟨fun _ => h, (fun h => by cases h), fun h => by cases h⟩
theorem updB_mono (D : Nat → Bool) (k : Nat) {r : Nat} (h : D r = true) : updB D k r = true := by unfold updB; split <;> simp [h]
theorem Late.other (h : Late i j rs v0 D u) (hk : k ≠ i) (hj : k ≠ j) : Late i j rs v0 (updB D k) (upd u k x) := by
  have a1 := updB_ne D (Ne.symm hk)
  have b1 := upd_ne u x (Ne.symm hk)
  have b2 := upd_ne u x (Ne.symm hj)
  exact ⟨by rw [a1, b1]; exact h.before, by rw [a1]; exact fun e => ⟨updB_mono D k (h.dep e).1, fun r hr => updB_mono D k ((h.dep e).2 r hr)⟩, by rw [a1, b1, b2]; exact h.after⟩
theorem Late.src (h : Late i j rs v0 D u) (hk : j ≠ i) (h0 : D j = false) : Late i j rs v0 (updB D j) (upd u j x) := by
  have a1 := updB_ne D (Ne.symm hk)
  have b1 := upd_ne u x (Ne.symm hk)
  have hi : D i = false := by cases e : D i with | false => rfl | true => rw [(h.dep e).1] at h0; cases h0
  exact ⟨by rw [a1, b1]; exact h.before, (fun e => by rw [a1, hi] at e; cases e), (fun e => by rw [a1, hi] at e; cases e)⟩
theorem Late.set_ (h : Late i j rs v0 D u) (hk : i ≠ j) (hj : D j = true) (hr : ∀ r ∈ rs, D r = true) : Late i j rs v0 (updB D i) (upd u i (u j)) :=
  ⟨(fun e => by rw [updB_at] at e; cases e), (fun _ => ⟨updB_mono D i hj, fun r h => updB_mono D i (hr r h)⟩), (fun _ => by rw [upd_at, upd_ne u _ (Ne.symm hk)])⟩
/-- what a reader sees -/
theorem Late.seen (h : Late i j rs v0 D u) {r : Nat} (hr : r ∈ rs) (h0 : D r = false) : u i = v0 := h.before (by cases e : D i with | false => rfl | true => rw [(h.dep e).2 r hr] at h0; cases h0)
end
theorem exec_move {ρ : Operand → Value} {w : World} {o : Oper} {x : Operand} (ho : o.op = .move x) : (execOp ρ o).run Tryz.prog w = .ok (.value (ρ x)) w := by simp [execOp, ho]
theorem exec_assign {ρ : Operand → Value} {w : World} {o : Oper} {x : Operand} (ho : o.op = .assign x) : (execOp ρ o).run Tryz.prog w = .ok (.value (ρ x)) w := by simp [execOp, ho]
end Go.Proofs.YtfkgcighooijhaaGreatDoor

namespace Go.Proofs.YtfkgcighooijhaaGreatDoor
open Go.RowKit
set_option linter.unusedVariables false
set_option linter.unusedSimpArgs false

def CloneIPost (w : World) (n : Nat) (xs : List Value) (e : Ending) (w' : World) : Prop := ∃ A' c', e = .returned (.slice A' n c') ∧ w'.ownsRow w.heap.size 3 1 (.slice A' n c') n xs ∧ w.grownBy w' none
set_option maxHeartbeats 1000000 in
set_option maxRecDepth 100000 in
theorem cloneI_any {S : Nat → Prop} (A : Option Addr) (n c : Nat) (xs : List Value) (w : World) (hr : Rd S w A xs) (hn : xs.length = n * 1) (hl : n ≤ 1000000) (h1 : ∀ u ∈ xs, u.oneCell' = true) (hA : A = none → n = 0) :
    Calls Tryz.prog 36 #[.slice A n c] w (CloneIPost w n xs) := by
  have q22 : ∀ (w : World) (a : Option Addr) (n c n' c' : Nat), (binOp .eql 47 (.slice a n c) (.slice none n' c')).run Tryz.prog w = .ok (.bool a.isNone) w := fun w a n c n' c' => Lib.run_eql_slice_nil w _ _ a n c n' c' Tryz.underlying47
  have H1 := Lib.hid h1
  have HR := Lib.hid hr
  clear h1 hr
  cases A with
  | none =>
    obtain rfl := hA rfl
    obtain rfl : xs = [] := List.eq_nil_of_length_eq_zero (by omega)
    clear hA
    go_enter Tryz.func36, Tryz.ntmps36
    go_wp2_with fail
    go_ret
    exact ⟨none, 0, rfl, World.ownsRow_nil _ _ _ _, only_refl _ _⟩
  | some a =>
    clear hA
    go_enter Tryz.func36, Tryz.ntmps36
    go_wp2_with (at_builtin; refine wpList_appendN rfl _ _ 47 rfl w.heap.size Tryz.underlying47 intInfo37 rfl (by decide) (v := .slice (some ⟨w.heap.size, 0, none⟩) 0 0) (by rfl) (World.ownsRow_made w #[] 0 (Nat.le_refl _) (Nat.zero_le _) (by simp)) (some a) n c (news := xs) (by rfl) (HR.out.alloc _) hn H1.out (by decide) (by omega) (by simp) ?_; intro v3 w3 hown3 hg3 hob3)
    have O3 : Hid (w3.ownsRow w.heap.size 3 1 v3 n xs) := Lib.hid (by simpa using hown3)
    have G3 : Hid (w.grownBy w3 none) := Lib.hid (only_fresh (only_alloc (only_refl _ _) _) (by simpa [Value.ownBlock] using hg3) (Nat.le_refl _))
    clear hown3 hg3 hob3
    obtain ⟨A3, c3, rfl, -, -, -, -⟩ := Rd.of_own O3.out (by decide)
    go_wp2_with fail
    go_ret
    exact ⟨A3, c3, rfl, O3.out, G3.out⟩
end Go.Proofs.YtfkgcighooijhaaGreatDoor
