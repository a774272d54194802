/- The events of a draw are what both Checks ask. No condition. -/
import Derived.Test.YtfbkkbbpgipipaaGreatDoorJEChk0
import Derived.Test.YtfbkkbbpgipipaaGreatDoorJChkJ
import Derived.Test.YtfbkkbbpgipipaaGreatDoorJFiles
import Derived.Test.YtfbkkbbpgipipaaGreatDoorJBase
import Derived.StringKeys
import Derived.WideKeyEntry
import Derived.Maps.RangeWalk
namespace Go.Proofs.YtfbkkbbpgipipaaGreatDoor
open Go.RowKit
set_option linter.unusedVariables false
set_option linter.unusedSimpArgs false

theorem bl_lt : ∀ (a b : List UInt8), Op.bytesLess a b = true → a < b := by
  intro a
  induction a with
  | nil => intro b h; cases b with
    | nil => simp [Op.bytesLess] at h
    | cons y b => exact List.nil_lt_cons _ _
  | cons x a ih =>
    intro b h
    cases b with
    | nil => simp [Op.bytesLess] at h
    | cons y b =>
      rw [List.cons_lt_cons_iff]
      unfold Op.bytesLess at h
      by_cases h1 : x < y
      · exact .inl h1
      · by_cases h2 : x = y
        · subst h2
          refine .inr ⟨rfl, ih b ?_⟩
          simpa [h1] using h
        · simp [h1, h2] at h
theorem asc_of_srt {fs : List FieldD} (h : Srt (fs.map FieldD.name)) : AscN_ fs := by
  unfold AscN_
  refine List.Pairwise.imp ?_ h
  intro a b hab
  have := bl_lt _ _ hab
  rwa [ByteArray.toList_eq, ByteArray.toList_eq] at this
/-- both Checks' wants -/
theorem EvC.o {S : Nat → Prop} {w : World} {e : Ev} (h : EvC e) (hs : e.Sub S w) (hl : e.fields.length ≤ 19) : EvO e :=
  ⟨⟨h.h0, h.h1⟩, ⟨h.f0, h.f1⟩, h.b0, h.bf, h.f2, ⟨h.t0, h.t1⟩, h.wt, h.l0, h.l1, h.ch, h.tr, h.st, hl, fun f hf => h.fn f hf, asc_of_srt h.fs, h.fv, fun hn => by
    by_cases h0 : e.fields.length = 0
    · exact h0
    · obtain ⟨b, o, e1, _⟩ := hs.2.1 (by rw [flat_len _ 2 FieldD.cells_len]; omega)
      rw [hn] at e1; cases e1⟩
theorem chain_text : ∀ {xs : List LineD} {a b : Int}, Chain a xs b → ∀ l ∈ xs, l.text.size ≤ 59
  | [], _, _, _, l, hl => by cases hl
  | x :: xs, a, b, h, l, hl => by
    rcases List.mem_cons.1 hl with rfl | hl
    · have := h.2.1; have := h.2.2.1; omega
    · exact chain_text h.2.2.2 l hl
theorem textOf_le {ls : List LineD} {m : Nat} (h : ∀ l ∈ ls, l.text.size ≤ m) : (textOf ls).size ≤ ls.length * (m + 1) := by
  have := join_len (ls.map (·.text.data.toList)) m (by
    intro x hx
    obtain ⟨l, hl, rfl⟩ := List.mem_map.1 hx
    have h2 := h l hl
    have : l.text.data.toList.length = l.text.size := rfl
    omega)
  rw [List.length_map] at this
  exact this
theorem lowTab : ∀ s ∈ nameTab, LowName s ∧ s.size ≤ 20 := by
  intro s hs
  simp only [nameTab, List.mem_cons, List.not_mem_nil, or_false] at hs
  rcases hs with rfl | rfl | rfl | rfl <;> exact ⟨⟨by decide, by decide, by decide⟩, by decide⟩
theorem nameTab_srt : Srt nameTab := by
  simp [Srt, nameTab, sl, ByteArray.toList_eq, Op.bytesLess]
theorem EvGood.sc {e : Ev} (h : EvGood e) : EvS e ∧ EvC e := by
  obtain ⟨⟨t0, t1, hw, htr, hst, hf⟩, hc, hl1, hl3, hh1, hh2, hf5, hf7, hb0, hb1⟩ := h
  have hle := hc.le
  have ht := chain_text hc
  have hsub : (e.fields.map FieldD.name).Sublist nameTab := by have := hf.1; rwa [show nameTab.take 4 = nameTab from rfl] at this
  have hnm : ∀ f ∈ e.fields, LowName f.name ∧ f.name.size ≤ 20 := fun f hf' => lowTab _ (hsub.subset (List.mem_map_of_mem (f := FieldD.name) hf'))
  have hfl : e.fields.length ≤ 4 := by have := hsub.length_le; simp [nameTab] at this; omega
  refine ⟨⟨hl3, ht, ?_, hfl, fun f hf' => ⟨(hnm f hf').2, hf.2 f hf'⟩, htr, hst⟩, ⟨by omega, by omega, by omega, by omega, hb0, by omega, by omega, t0, t1, hw, hl1, by omega, hc, by omega, by omega, by omega, fun f hf' => (hnm f hf').1, nameTab_srt.sublist hsub, fun f hf' => by have := hf.2 f hf'; omega⟩⟩
  have := textOf_le ht
  have : e.lines.length * (59 + 1) ≤ 3 * 60 := Nat.mul_le_mul hl3 (by omega)
  omega
/-- a short event: one line 'x' of two bytes -/
def shortE (at_ : Int) (la : Option Addr) (lc : Nat) : Ev := { host := 9, file := 9, beg := at_, fin := at_ + 2, lines := [⟨at_, 2, ⟨#[120]⟩⟩], time := 253402300799999, weight := 1, trace := ⟨#[]⟩, stream := ⟨#[]⟩, fields := [], la := la, lc := lc, fa := none, fc := 0 }
theorem shortE_sc {at_ : Int} (h0 : 0 ≤ at_) (h1 : at_ ≤ 50000) (la : Option Addr) (lc : Nat) : EvS (shortE at_ la lc) ∧ EvC (shortE at_ la lc) := by
  have hx : (⟨#[120]⟩ : ByteArray).size = 1 := rfl
  have hz : (⟨#[]⟩ : ByteArray).size = 0 := rfl
  have hch : Chain at_ [⟨at_, 2, ⟨#[120]⟩⟩] (at_ + 2) := ⟨rfl, by show (((⟨#[120]⟩ : ByteArray).size : Nat) : Int) + 1 ≤ 2; rw [hx]; omega, by show (2 : Int) ≤ 60; omega, rfl⟩
  refine ⟨⟨by simp [shortE], fun l hl => ?_, ?_, by simp [shortE], by simp [shortE], by simp [shortE, hz], by simp [shortE, hz]⟩, ⟨by simp [shortE], by simp [shortE], by simp [shortE], by simp [shortE], h0, by simp only [shortE]; omega, by simp only [shortE]; omega, by simp [shortE], by simp [shortE], .inl rfl, by simp [shortE], by simp [shortE], hch, by simp [shortE, hz], by simp [shortE, hz], by simp [shortE], by simp [shortE], List.Pairwise.nil, by simp [shortE]⟩⟩
  · simp only [shortE, List.mem_singleton] at hl
    subst hl
    show (⟨#[120]⟩ : ByteArray).size ≤ 59
    rw [hx]; omega
  · have := textOf_le (ls := (shortE at_ la lc).lines) (m := 1) (fun l hl => by
      simp only [shortE, List.mem_singleton] at hl
      subst hl
      show (⟨#[120]⟩ : ByteArray).size ≤ 1
      rw [hx]; omega)
    simp only [shortE, List.length_singleton] at this
    simp only [shortE]
    omega
end Go.Proofs.YtfbkkbbpgipipaaGreatDoor

namespace Go.Proofs.YtfbkkbbpgipipaaGreatDoor
open Go.RowKit
set_option linter.unusedVariables false
set_option linter.unusedSimpArgs false

theorem good_less_short {e : Ev} (h : EvGood e) (a : Int) (la : Option Addr) (lc : Nat) : e.less (shortE a la lc) = true := by
  obtain ⟨⟨t0, t1, -⟩, -, -, -, hh1, hh2, -⟩ := h
  unfold Ev.less
  show (if e.time ≠ (253402300799999 : Int) then decide (e.time < 253402300799999) else if e.host ≠ 9 then decide (e.host < 9) else if e.file ≠ 9 then decide (e.file < 9) else decide (e.beg < a)) = true
  by_cases h1 : e.time = 253402300799999
  · rw [if_neg (by simpa using h1), if_pos (by omega)]
    exact decide_eq_true (by omega)
  · rw [if_pos h1]
    exact decide_eq_true (by omega)
theorem short_less_short {a b : Int} (h : a < b) (la lb : Option Addr) (lc ld : Nat) : (shortE a la lc).less (shortE b lb ld) = true := by
  unfold Ev.less
  show (if (253402300799999 : Int) ≠ 253402300799999 then _ else if (9 : Int) ≠ 9 then _ else if (9 : Int) ≠ 9 then _ else decide (a < b)) = true
  simpa using h
end Go.Proofs.YtfbkkbbpgipipaaGreatDoor

namespace Go.Proofs.YtfbkkbbpgipipaaGreatDoor
open Go.RowKit
set_option linter.unusedVariables false
set_option linter.unusedSimpArgs false

def chunkN : Nat → List Ev → List (List Ev)
  | 0, _ => []
  | n + 1, es => if es = [] then [] else es.take 256 :: chunkN n (es.drop 256)
theorem chunkN_any : ∀ (n m : Nat) (es : List Ev), es.length ≤ n → es.length ≤ m → chunkN n es = chunkN m es := by
  intro n
  induction n with
  | zero =>
    intro m es h1 _
    have : es = [] := List.eq_nil_of_length_eq_zero (by omega)
    subst this
    cases m <;> simp [chunkN]
  | succ n ih =>
    intro m es h1 h2
    by_cases he : es = []
    · subst he
      cases m <;> simp [chunkN]
    · have hl : 0 < es.length := List.length_pos_iff.2 he
      cases m with
      | zero => omega
      | succ m =>
        simp only [chunkN, if_neg he]
        rw [ih m (es.drop 256) (by rw [List.length_drop]; omega) (by rw [List.length_drop]; omega)]
def chunks (es : List Ev) : List (List Ev) := chunkN es.length es
theorem chunks_nil : chunks [] = [] := rfl
theorem chunks_step {es : List Ev} (h : es ≠ []) : chunks es = es.take 256 :: chunks (es.drop 256) := by
  have hl : 0 < es.length := List.length_pos_iff.2 h
  unfold chunks
  rw [chunkN_any es.length ((es.length - 1) + 1) es (Nat.le_refl _) (by omega)]
  simp only [chunkN, if_neg h]
  rw [chunkN_any (es.length - 1) (es.drop 256).length (es.drop 256) (by rw [List.length_drop]; omega) (Nat.le_refl _)]
theorem chunkN_all : ∀ (n : Nat) (es : List Ev), es.length ≤ n → (chunkN n es).flatten = es := by
  intro n
  induction n with
  | zero => intro es h; have : es = [] := List.eq_nil_of_length_eq_zero (by omega); subst this; rfl
  | succ n ih =>
    intro es h
    by_cases he : es = []
    · subst he; simp [chunkN]
    · have hl : 0 < es.length := List.length_pos_iff.2 he
      simp only [chunkN, if_neg he, List.flatten_cons]
      rw [ih (es.drop 256) (by rw [List.length_drop]; omega), List.take_append_drop]
theorem chunks_all (es : List Ev) : (chunks es).flatten = es := chunkN_all _ es (Nat.le_refl _)
theorem chunkN_mem : ∀ (n : Nat) (es : List Ev) (p : List Ev), p ∈ chunkN n es → 1 ≤ p.length ∧ p.length ≤ 256 ∧ p.Sublist es := by
  intro n
  induction n with
  | zero => intro es p h; simp [chunkN] at h
  | succ n ih =>
    intro es p h
    by_cases he : es = []
    · subst he; simp [chunkN] at h
    · have hl : 0 < es.length := List.length_pos_iff.2 he
      simp only [chunkN, if_neg he, List.mem_cons] at h
      rcases h with rfl | h
      · exact ⟨by rw [List.length_take]; omega, by rw [List.length_take]; omega, List.take_sublist _ _⟩
      · obtain ⟨h1, h2, h3⟩ := ih _ _ h
        exact ⟨h1, h2, h3.trans (List.drop_sublist _ _)⟩
theorem chunks_mem {es p : List Ev} (h : p ∈ chunks es) : 1 ≤ p.length ∧ p.length ≤ 256 ∧ p.Sublist es := chunkN_mem _ _ _ h
/-- a piece in memory -/
structure Pc where
  evs : List Ev
  a : Option Addr
  c : Nat
def Pc.cell (p : Pc) : Value := .slice p.a p.evs.length p.c
/-- pieces in memory: the row of them is the call's own, the pieces lie apart from it -/
structure Pcs (w : World) (v : Value) (ps : List Pc) (wr : World) : Prop where
  fr : w.grownBy wr none
  own : wr.ownsRow w.heap.size 27 1 v ps.length (ps.map Pc.cell)
  pc : ∀ p ∈ ps, p.evs.length ≤ p.c ∧ p.c ≤ maxLen ∧ Rd (fun b => w.heap.size ≤ b ∧ v.ownBlock ≠ some b) wr p.a (p.evs.flatMap Ev.cells)
section
variable {w wr w' : World} {v v' : Value} {ps : List Pc}
theorem Pcs.nil (w : World) : Pcs w (.slice none 0 0) [] w := ⟨only_refl _ _, World.ownsRow_nil _ _ _ _, by simp⟩
theorem Pcs.grown (h : Pcs w v ps wr) (hg : wr.grownBy w' none) : Pcs w v ps w' :=
  ⟨only_trans h.fr hg, own_ext h.own hg, fun p hp => ⟨(h.pc p hp).1, (h.pc p hp).2.1, (h.pc p hp).2.2.grown hg (by simp)⟩⟩
theorem Pcs.app {w3 : World} (h : Pcs w v ps wr) {p : Pc} (hg3 : wr.grownBy w3 none) (hp : p.evs.length ≤ p.c ∧ p.c ≤ maxLen ∧ Rd (wr.heap.size ≤ ·) w3 p.a (p.evs.flatMap Ev.cells))
    (ho : w'.ownsRow w.heap.size 27 1 v' (ps.length + 1) (ps.map Pc.cell ++ [p.cell])) (hg : w3.grownBy w' v.ownBlock) (hob : v'.ownBlock = v.ownBlock ∨ v'.ownBlock = some (w3.heap.size + 1)) : Pcs w v' (ps ++ [p]) w' := by
  have k := h.grown hg3
  have hv : ∀ b, v.ownBlock = some b → b < wr.heap.size := fun b e => (h.own.lt b e).2
  have nx : ∀ (xs : List Value) (A : Option Addr), Rd (fun b => w.heap.size ≤ b ∧ v.ownBlock ≠ some b) w3 A xs → Rd (fun b => w.heap.size ≤ b ∧ v'.ownBlock ≠ some b) w' A xs := fun xs A hr =>
    ((hr.mono (S' := fun b => (w.heap.size ≤ b ∧ v.ownBlock ≠ some b) ∧ b < w3.heap.size) (fun b hb hl => ⟨hb, hl⟩)).grown hg (fun b hb e => hb.1.2 e.symm)).mono (fun b hb _ => ⟨hb.1.1, fun e => by
      rcases hob with h1 | h1
      · exact hb.1.2 (by rw [← h1]; exact e)
      · rw [h1] at e; injection e with e; have := hb.2; omega⟩)
  refine ⟨only_own k.fr hg k.own (Nat.le_refl _), by simpa using ho, mem_snoc (fun q hq => ⟨(k.pc q hq).1, (k.pc q hq).2.1, nx _ _ (k.pc q hq).2.2⟩) ⟨hp.1, hp.2.1, nx _ _ (hp.2.2.mono (fun b hb _ => ⟨Nat.le_trans h.fr.size hb, fun e => by have := hv b e; have h0 : wr.heap.size ≤ b := hb; omega⟩))⟩⟩
end
/-- what a Split gives -/
def SplitP (es : List Ev) (w : World) (e : Ending) (w' : World) : Prop :=
  ∃ (A : Option Addr) (c : Nat) (ps : List Pc), e = .returned (.slice A ps.length c) ∧ ps.length ≤ c ∧ c ≤ maxLen ∧ ps.map Pc.evs = chunks es ∧ Pcs w (.slice A ps.length c) ps w'
end Go.Proofs.YtfbkkbbpgipipaaGreatDoor

namespace Go.Proofs.YtfbkkbbpgipipaaGreatDoor
open Go.RowKit
open Go.ChangeMaps (setBlock heap_setBlock_same heap_setBlock_other)
set_option linter.unusedVariables false
set_option linter.unusedSimpArgs false

def SKey (k : ByteArray) : Prop := k.size ≤ maxLen
theorem sv_inj {k l : ByteArray} (h : Value.string k = Value.string l) : k = l := by injection h
theorem strLaw : Go.WideMaps.KeyLaw Tryz.prog 9 := Go.WideMaps.string_law Tryz.underlying9
theorem sv_key {k : ByteArray} (h : SKey k) : ∃ l, keyOf Tryz.prog 9 (.string k) = some l := ⟨_, Go.WideMaps.keyOf_string_mk Tryz.underlying9 h⟩
theorem rowsZeroS (w : World) : (zeroValue 86).run Tryz.prog w = .ok (.slice none 0 0) w := by kernel_rfl
/-- what a map's block holds: stamps below the clock, no stamp and no key twice -/
def MStS (es : Array MapEntry) (clock : Nat) : Prop := (∀ x ∈ es.toList, x.born < clock) ∧ (es.toList.map (·.born)).Nodup ∧ es.toList.Pairwise (fun x y => x.key ≠ y.key)

/-- 'm[k] = v': either a new entry, or the one that is there is put anew -/
theorem map_updateS {P : Program} {t k e : TypeId} (K : Go.WideMaps.KeyLaw P k) (ht : P.underlying t = some (.map k e)) {w : World} {b : Nat} {es : Array MapEntry} {clock : Nat} (hb : w.heap[b]? = some (.map es clock)) (hk : ∀ x ∈ es.toList, ∃ l, keyOf P k x.key = some l)
    {key : Value} {kl : Lit} (hkey : keyOf P k key = some kl) (val : Value) :
    ((∀ x ∈ es.toList, x.key ≠ key) ∧ (Instr.mapUpdate t (.map (some b)) key val).run P w = .ok () (setBlock w b (.map (es.push ⟨key, val, clock⟩) (clock + 1)))) ∨
    (∃ j e0 es', es.toList[j]? = some e0 ∧ e0.key = key ∧ es'.toList = es.toList.set j ⟨key, val, e0.born⟩ ∧ (Instr.mapUpdate t (.map (some b)) key val).run P w = .ok () (setBlock w b (.map es' clock))) := by
  rcases K.find w hkey es.toList hk with ⟨h1, h2⟩ | ⟨j, e0, h1, h2, h3⟩
  · refine .inl ⟨h2, ?_⟩
    simp [Instr.mapUpdate, run_underlying ht, MapKept.run_getObj_map hb, K.check w false hkey, h1, MapKept.run_setObj_map _ hb, Result.andThen, setBlock]
  · have hj : es[j]? = some e0 := by simpa using h2
    refine .inr ⟨j, e0, es.modify j (fun e' => { e' with key := key, val := val }), h2, h3, by rw [Array.toList_modify, Go.ChangeMaps.modify_eq_set _ _ _ _ h2], ?_⟩
    simp [Instr.mapUpdate, run_underlying ht, MapKept.run_getObj_map hb, K.check w false hkey, h1, hj, h3, K.stays w hkey, MapKept.run_setObj_map _ hb, Result.andThen, setBlock]
theorem key_one {es : List MapEntry} (h : es.Pairwise (fun x y => x.key ≠ y.key)) {x y : MapEntry} (hx : x ∈ es) (hy : y ∈ es) (e : x.key = y.key) : x = y := by
  obtain ⟨i, hi⟩ := List.getElem?_of_mem hx
  obtain ⟨j, hj⟩ := List.getElem?_of_mem hy
  rcases Nat.lt_trichotomy i j with h1 | h1 | h1
  · have := List.pairwise_iff_getElem.1 h i j (List.getElem?_eq_some_iff.1 hi).1 (List.getElem?_eq_some_iff.1 hj).1 h1
    rw [(List.getElem?_eq_some_iff.1 hi).2, (List.getElem?_eq_some_iff.1 hj).2] at this
    exact absurd e this
  · subst h1; rw [hi] at hj; injection hj
  · have := List.pairwise_iff_getElem.1 h j i (List.getElem?_eq_some_iff.1 hj).1 (List.getElem?_eq_some_iff.1 hi).1 h1
    rw [(List.getElem?_eq_some_iff.1 hi).2, (List.getElem?_eq_some_iff.1 hj).2] at this
    exact absurd e.symm this

/-- block b is a map of at most n entries; at each key a row (from 'base' on) of the integers f k; where f k has elements there is an entry; no two keys' rows lie in one block -/
def SM (w : World) (b base n : Nat) (f : ByteArray → List Int) : Prop :=
  ∃ es clock, w.heap[b]? = some (.map es clock) ∧ MStS es clock ∧ es.size ≤ n ∧ b < base ∧
    (∀ x ∈ es.toList, ∃ k, SKey k ∧ x.key = Value.string k ∧ f k ≠ [] ∧ w.ownsRow base 3 1 x.val (f k).length ((f k).map (.int .i64))) ∧
    (∀ k, f k ≠ [] → ∃ x ∈ es.toList, x.key = Value.string k) ∧
    (∀ x ∈ es.toList, ∀ y ∈ es.toList, x.key ≠ y.key → x.val.ownBlock = none ∨ x.val.ownBlock ≠ y.val.ownBlock)
theorem SM.lt {w : World} {b base n : Nat} {f : ByteArray → List Int} (h : SM w b base n f) : b < w.heap.size := by
  obtain ⟨es, clock, hb, _⟩ := h
  exact (Array.getElem?_eq_some_iff.1 hb).1
theorem SM.made (w : World) {base : Nat} (h : w.heap.size < base) : SM (w.alloc (.map #[] 0)) w.heap.size base 0 (fun _ => []) :=
  ⟨#[], 0, (MapKept.heap_alloc w _).1, ⟨by simp, by simp, by simp⟩, Nat.le_refl _, h, by simp, by simp, by simp⟩
/-- other blocks below 'base' turn, and new ones are made -/
theorem SM.grown {w w' : World} {b base n g : Nat} {f : ByteArray → List Int} (h : SM w b base n f) (hg : w.grownBy w' (some g)) (hne : g ≠ b) (hgb : g < base) : SM w' b base n f := by
  have hlt := h.lt
  obtain ⟨es, clock, hb, hS, hs, hbb, hv, hc, ha⟩ := h
  refine ⟨es, clock, (hg.block b hlt (by intro e; injection e with e; exact hne e.symm)).trans hb, hS, hs, hbb, fun x hx => ?_, hc, ha⟩
  obtain ⟨k, hk, e, hne0, ho⟩ := hv x hx
  refine ⟨k, hk, e, hne0, ho.kept hg ?_⟩
  cases hu : x.val.ownBlock with
  | none => exact .inl rfl
  | some j =>
    have := (ho.lt j hu).1
    exact .inr (by intro e; injection e with e; omega)
theorem SM.quiet {w w' : World} {b base n : Nat} {f : ByteArray → List Int} (h : SM w b base n f) (hg : w.grownBy w' none) : SM w' b base n f := by
  have hlt := h.lt
  obtain ⟨es, clock, hb, hS, hs, hbb, hv, hc, ha⟩ := h
  refine ⟨es, clock, (hg.block b hlt (by simp)).trans hb, hS, hs, hbb, fun x hx => ?_, hc, ha⟩
  obtain ⟨k, hk, e, hne0, ho⟩ := hv x hx
  exact ⟨k, hk, e, hne0, ho.kept hg (Classical.em _)⟩

/-- f with z moreS at key c -/
def moreS (f : ByteArray → List Int) (c : ByteArray) (z : Int) : ByteArray → List Int := fun k => if k = c then f k ++ [z] else f k
/-- the way back: whatever is done to v's own row and to new blocks, the update with a row that owns one number more gives the map with that number more -/
def SBack (w2 : World) (b base n : Nat) (f : ByteArray → List Int) (c : ByteArray) (v : Value) : Prop :=
  ∀ (w3 : World) (v' : Value) (z : Int), w2.grownBy w3 v.ownBlock → w3.ownsRow base 3 1 v' ((f c).length + 1) ((f c).map (.int .i64) ++ [.int .i64 z]) → (v'.ownBlock = v.ownBlock ∨ ∃ g, v'.ownBlock = some g ∧ w2.heap.size ≤ g) →
    ∃ w4, (Instr.mapUpdate 60 (.map (some b)) (.string c) v').run Tryz.prog w3 = .ok () w4 ∧ SM w4 b base (n + 1) (moreS f c z) ∧ w3.grownBy w4 (some b)
theorem setBlock_grownS {w : World} {b : Nat} {o o' : Obj} (hb : w.heap[b]? = some o) : w.grownBy (setBlock w b o') (some b) :=
  ⟨rfl, rfl, rfl, by simp [setBlock], fun i _ hi => by
    have hne : i ≠ b := fun e => hi (by rw [e])
    simp [setBlock, Array.getElem?_setIfInBounds, Ne.symm hne]⟩
theorem setBlock_atS {w : World} {b : Nat} {o o' : Obj} (hb : w.heap[b]? = some o) : (setBlock w b o').heap[b]? = some o' := by
  have := (Array.getElem?_eq_some_iff.1 hb).1
  simp [setBlock, Array.getElem?_setIfInBounds, this]
/-- a look-up at a key that may be there, and the way back -/
theorem SM.look {w : World} {b base n : Nat} {f : ByteArray → List Int} (h : SM w b base n f) {c : ByteArray} (hc : SKey c) :
    ∃ v, (Instr.lookup 60 (.map (some b)) (.string c) false).run Tryz.prog w = .ok v w ∧ w.ownsRow base 3 1 v (f c).length ((f c).map (.int .i64)) ∧ SBack w b base n f c v := by
  obtain ⟨es, clock, hb, hS, hs, hbb, hv, hcm, ha⟩ := h
  obtain ⟨kl, hkl⟩ := sv_key hc
  have hkeys : ∀ x ∈ es.toList, ∃ l, keyOf Tryz.prog 9 x.key = some l := fun x hx => by
    obtain ⟨k, hk, e, _, _⟩ := hv x hx
    rw [e]; exact sv_key hk
  have hltb := (Array.getElem?_eq_some_iff.1 hb).1
  have offB : ∀ {u : World} {v : Value} {m : Nat} {xs : List Value}, u.ownsRow base 3 1 v m xs → v.ownBlock = none ∨ v.ownBlock ≠ some b := fun {u v m xs} ho => by
    cases hu : v.ownBlock with
    | none => exact .inl rfl
    | some j =>
      have := (ho.lt j hu).1
      exact .inr (by intro e; injection e with e; omega)
  rcases strLaw.find w hkl es.toList hkeys with ⟨h1, h2⟩ | ⟨j, e0, h1, h2, h3⟩
  · have hf : f c = [] := by
      rcases hfc : f c with _ | ⟨a, l⟩
      · rfl
      · obtain ⟨x, hx, e⟩ := hcm c (by rw [hfc]; simp)
        exact absurd e (h2 x hx)
    refine ⟨.slice none 0 0, ?_, by rw [hf]; exact World.ownsRow_nil _ _ _ _, fun w3 v' z hg ho hloc => ?_⟩
    · simp [Instr.lookup, run_underlying Tryz.underlying60, MapKept.run_getObj_map hb, strLaw.check w _ hkl, h1, rowsZeroS, Result.andThen]
    have hb3 := (hg.block b hltb (by simp [Value.ownBlock])).trans hb
    rcases map_updateS strLaw Tryz.underlying60 hb3 hkeys hkl v' with ⟨hno, hrun⟩ | ⟨j, e0, es', hj, he, hes, hrun⟩
    · have hg4 := setBlock_grownS (o' := .map (es.push ⟨.string c, v', clock⟩) (clock + 1)) hb3
      refine ⟨_, hrun, ⟨_, _, setBlock_atS hb3, ?_, ?_, hbb, ?_, ?_, ?_⟩, hg4⟩
      · obtain ⟨s1, s2, s3⟩ := hS
        refine ⟨fun x hx => ?_, ?_, ?_⟩
        · simp at hx
          rcases hx with hx | rfl
          · have := s1 x (by simpa using hx); omega
          · simp
        · simp only [Array.toList_push, List.map_append, List.map_cons, List.map_nil]
          refine List.nodup_append.2 ⟨s2, by simp, fun a ha' d hd e1 => ?_⟩
          simp only [List.mem_singleton] at hd
          obtain ⟨x, hx, rfl⟩ := List.mem_map.1 ha'
          have := s1 x hx
          omega
        · simp only [Array.toList_push]
          exact List.pairwise_append.2 ⟨s3, List.pairwise_singleton _ _, fun x hx y hy => by rw [List.mem_singleton.1 hy]; exact hno x hx⟩
      · simp; omega
      · intro x hx
        simp only [Array.toList_push, List.mem_append, List.mem_singleton] at hx
        rcases hx with hx | rfl
        · obtain ⟨k, hk, e, hne0, hor⟩ := hv x hx
          have hkc : k ≠ c := fun e1 => hno x hx (by rw [e, e1])
          refine ⟨k, hk, e, by unfold moreS; rw [if_neg hkc]; exact hne0, ?_⟩
          unfold moreS
          rw [if_neg hkc]
          exact (hor.kept hg (Classical.em _)).kept hg4 (offB hor)
        · refine ⟨c, hc, rfl, by unfold moreS; simp, ?_⟩
          unfold moreS
          rw [if_pos rfl]
          have := ho.kept hg4 (offB ho)
          simpa using this
      · intro k hk
        by_cases hkc : k = c
        · exact ⟨⟨.string c, v', clock⟩, by simp, by rw [hkc]⟩
        · unfold moreS at hk
          rw [if_neg hkc] at hk
          obtain ⟨x, hx, e⟩ := hcm k hk
          exact ⟨x, by simp only [Array.toList_push, List.mem_append]; exact .inl hx, e⟩
      · have old : ∀ x ∈ es.toList, x.val.ownBlock = none ∨ x.val.ownBlock ≠ v'.ownBlock := fun x hx => by
          rcases hloc with h1 | ⟨g, h1, h2⟩
          · rw [h1]
            cases x.val.ownBlock <;> simp [Value.ownBlock]
          · cases hu : x.val.ownBlock with
            | none => exact .inl rfl
            | some j =>
              obtain ⟨k, _, _, _, hor⟩ := hv x hx
              have := (hor.lt j hu).2
              exact .inr (by rw [h1]; intro e; injection e with e; omega)
        intro x hx y hy hne
        simp only [Array.toList_push, List.mem_append, List.mem_singleton] at hx hy
        rcases hx with hx | rfl <;> rcases hy with hy | rfl
        · exact ha x hx y hy hne
        · exact old x hx
        · rcases old y hy with h1 | h1
          · cases hv' : v'.ownBlock with
            | none => exact .inl rfl
            | some g => exact .inr (by show _ ≠ y.val.ownBlock; rw [h1]; simp)
          · exact .inr (fun e => h1 e.symm)
        · exact absurd rfl hne
    · exact absurd he (h2 e0 (List.mem_of_getElem? hj))
  · have he0 : e0 ∈ es.toList := List.mem_of_getElem? h2
    obtain ⟨k0, hk0, ek0, hne00, ho0⟩ := hv e0 he0
    have hk0c : k0 = c := sv_inj (by rw [← ek0, h3])
    subst hk0c
    refine ⟨e0.val, ?_, ho0, fun w3 v' z hg ho hloc => ?_⟩
    · simp [Instr.lookup, run_underlying Tryz.underlying60, MapKept.run_getObj_map hb, strLaw.check w _ hkl, h1, Result.andThen]
    have hb3 := (hg.block b hltb (by rcases offB ho0 with h1 | h1; (rw [h1]; simp); exact fun e => h1 e.symm)).trans hb
    rcases map_updateS strLaw Tryz.underlying60 hb3 hkeys hkl v' with ⟨hno, hrun⟩ | ⟨j', e1, es', hj, he, hes, hrun⟩
    · exact absurd h3 (hno e0 he0)
    · obtain rfl : e1 = e0 := key_one hS.2.2 (List.mem_of_getElem? hj) he0 (by rw [he, h3])
      have hg4 := setBlock_grownS (o' := .map es' clock) hb3
      have hmem : ∀ x, x ∈ es'.toList → (x ∈ es.toList ∧ x.key ≠ .string k0) ∨ x = ⟨.string k0, v', e1.born⟩ := fun x hx => by
        rw [hes] at hx
        obtain ⟨i, hi⟩ := List.getElem?_of_mem hx
        rw [List.getElem?_set] at hi
        split at hi
        · split at hi
          · injection hi with hi; exact .inr hi.symm
          · cases hi
        · rename_i hij
          refine .inl ⟨List.mem_of_getElem? hi, fun e2 => hij ?_⟩
          obtain ⟨_, _, s3⟩ := hS
          rcases Nat.lt_trichotomy i j' with h1 | h1 | h1
          · have := List.pairwise_iff_getElem.1 s3 i j' (List.getElem?_eq_some_iff.1 hi).1 (List.getElem?_eq_some_iff.1 hj).1 h1
            rw [(List.getElem?_eq_some_iff.1 hi).2, (List.getElem?_eq_some_iff.1 hj).2, e2, he] at this
            exact absurd rfl this
          · exact h1.symm
          · have := List.pairwise_iff_getElem.1 s3 j' i (List.getElem?_eq_some_iff.1 hj).1 (List.getElem?_eq_some_iff.1 hi).1 h1
            rw [(List.getElem?_eq_some_iff.1 hi).2, (List.getElem?_eq_some_iff.1 hj).2, e2, he] at this
            exact absurd rfl this
      have hkeyS : es'.toList.map (·.key) = es.toList.map (·.key) := by
        rw [hes, List.map_set]
        exact Go.WideElems.set_self _ _ _ (by rw [List.getElem?_map, hj]; simp [he])
      have hbornS : es'.toList.map (·.born) = es.toList.map (·.born) := by
        rw [hes, List.map_set]
        exact Go.WideElems.set_self _ _ _ (by rw [List.getElem?_map, hj]; rfl)
      refine ⟨_, hrun, ⟨es', clock, setBlock_atS hb3, ?_, ?_, hbb, ?_, ?_, ?_⟩, hg4⟩
      · obtain ⟨s1, s2, s3⟩ := hS
        refine ⟨fun x hx => ?_, by rw [hbornS]; exact s2, ?_⟩
        · have : x.born ∈ es.toList.map (·.born) := by rw [← hbornS]; exact List.mem_map.2 ⟨x, hx, rfl⟩
          obtain ⟨y, hy, e⟩ := List.mem_map.1 this
          rw [← e]; exact s1 y hy
        · have e1 : (es'.toList.map (·.key)).Pairwise (· ≠ ·) := by rw [hkeyS]; exact List.pairwise_map.2 s3
          exact List.pairwise_map.1 e1
      · have : es'.toList.length = es.toList.length := by rw [hes, List.length_set]
        simp at this; omega
      · intro x hx
        rcases hmem x hx with ⟨hx0, hne⟩ | rfl
        · obtain ⟨k, hk, e, hne0, hor⟩ := hv x hx0
          have hkc : k ≠ k0 := fun e1 => hne (by rw [e, e1])
          refine ⟨k, hk, e, by unfold moreS; rw [if_neg hkc]; exact hne0, ?_⟩
          unfold moreS
          rw [if_neg hkc]
          exact (hor.kept hg (ha x hx0 e1 he0 (by rw [he]; exact hne))).kept hg4 (offB hor)
        · refine ⟨k0, hc, rfl, by unfold moreS; simp, ?_⟩
          unfold moreS
          rw [if_pos rfl]
          have := ho.kept hg4 (offB ho)
          simpa using this
      · intro k hk
        by_cases hkc : k = k0
        · have : e1.key ∈ es'.toList.map (·.key) := by rw [hkeyS]; exact List.mem_map.2 ⟨e1, he0, rfl⟩
          obtain ⟨y, hy, e⟩ := List.mem_map.1 this
          exact ⟨y, hy, by rw [e, he, hkc]⟩
        · unfold moreS at hk
          rw [if_neg hkc] at hk
          obtain ⟨x, hx, e⟩ := hcm k hk
          have : x.key ∈ es'.toList.map (·.key) := by rw [hkeyS]; exact List.mem_map.2 ⟨x, hx, rfl⟩
          obtain ⟨y, hy, e'⟩ := List.mem_map.1 this
          exact ⟨y, hy, by rw [e', e]⟩
      · have old : ∀ x ∈ es.toList, x.key ≠ .string k0 → x.val.ownBlock = none ∨ x.val.ownBlock ≠ v'.ownBlock := fun x hx hne => by
          rcases hloc with h1 | ⟨g, h1, h2⟩
          · rw [h1]
            exact ha x hx e1 he0 (by rw [he]; exact hne)
          · cases hu : x.val.ownBlock with
            | none => exact .inl rfl
            | some j' =>
              obtain ⟨k, _, _, _, hor⟩ := hv x hx
              have := (hor.lt j' hu).2
              exact .inr (by rw [h1]; intro e; injection e with e; omega)
        intro x hx y hy hne
        rcases hmem x hx with ⟨hx0, hxn⟩ | rfl <;> rcases hmem y hy with ⟨hy0, hyn⟩ | rfl
        · exact ha x hx0 y hy0 hne
        · exact old x hx0 hxn
        · rcases old y hy0 hyn with h1 | h1
          · cases hv' : v'.ownBlock with
            | none => exact .inl rfl
            | some g => exact .inr (by show _ ≠ y.val.ownBlock; rw [h1]; simp)
          · exact .inr (fun e => h1 e.symm)
        · exact absurd rfl hne
/-- how many keys there are: as many as a list of all of them, each once -/
theorem SM.len {w : World} {b base n : Nat} {f : ByteArray → List Int} (h : SM w b base n f) {ks : List ByteArray} (hn : ks.Nodup) (hk : ∀ k, k ∈ ks ↔ f k ≠ []) :
    ∃ es clock, w.heap[b]? = some (.map es clock) ∧ es.size = ks.length := by
  obtain ⟨es, clock, hb, hS, hs, hbb, hv, hcm, ha⟩ := h
  refine ⟨es, clock, hb, ?_⟩
  have h1 : (es.toList.map (·.key)).Nodup := List.pairwise_map.2 hS.2.2
  have h2 : (ks.map Value.string).Nodup := List.pairwise_map.2 (List.Pairwise.imp (fun hab e => hab (by injection e)) hn)
  have h3 : (es.toList.map (·.key)).Perm (ks.map Value.string) := by
    rw [List.perm_ext_iff_of_nodup h1 h2]
    intro v
    constructor
    · intro hv'
      obtain ⟨x, hx, rfl⟩ := List.mem_map.1 hv'
      obtain ⟨k, _, e, hne, _⟩ := hv x hx
      exact List.mem_map.2 ⟨k, (hk k).2 hne, e.symm⟩
    · intro hv'
      obtain ⟨k, hk', rfl⟩ := List.mem_map.1 hv'
      obtain ⟨x, hx, e⟩ := hcm k ((hk k).1 hk')
      exact List.mem_map.2 ⟨x, hx, e⟩
  have := h3.length_eq
  simpa using this
section
variable {ops : Array Oper} {rest : List Oper} {o : Oper} {a : Act} {Q : Exit → Act → World → Prop} {w : World} {b base n : Nat} {f : ByteArray → List Int}
theorem wpList_lookS (hgd : o.guard = none) (m x : Operand) (hop : o.op = Op.lookup 60 m x false) (hm : a.eval m = .map (some b)) (c : ByteArray) (hx : a.eval x = .string c) (hG : SM w b base n f) (hc : SKey c)
    (h : ∀ (A : Option Addr) (cp : Nat), w.ownsRow base 3 1 (.slice A (f c).length cp) (f c).length ((f c).map (.int .i64)) → SBack w b base n f c (.slice A (f c).length cp) → wpList Tryz.prog ops Q rest (a.put o.dst (.slice A (f c).length cp)) w) :
    wpList Tryz.prog ops Q (o :: rest) a w := by
  refine wpList_plain hgd fun K' hK' => ?_
  obtain ⟨v, hrun, ho, hB⟩ := hG.look hc
  obtain ⟨A, cp, rfl, -, -, -, -⟩ := Rd.of_own ho (by decide)
  unfold Oper.wp
  simp [execOp, hop, hm, hx, hrun, Result.andThen]
  exact hK' _ _ (h A cp ho hB)
theorem wpList_updS (hgd : o.guard = none) (m x y : Operand) (hop : o.op = Op.mapUpdate 60 m x y) (hm : a.eval m = .map (some b)) {w2 : World} {c : ByteArray} {v v' : Value} (hx : a.eval x = .string c) (hy : a.eval y = v') (hB : SBack w2 b base n f c v) (z : Int)
    (hg : w2.grownBy w v.ownBlock) (ho : w.ownsRow base 3 1 v' ((f c).length + 1) ((f c).map (.int .i64) ++ [.int .i64 z])) (hl : v'.ownBlock = v.ownBlock ∨ ∃ g, v'.ownBlock = some g ∧ w2.heap.size ≤ g)
    (h : ∀ w4, SM w4 b base (n + 1) (moreS f c z) → w.grownBy w4 (some b) → wpList Tryz.prog ops Q rest (a.put o.dst undef) w4) :
    wpList Tryz.prog ops Q (o :: rest) a w := by
  refine wpList_plain hgd fun K' hK' => ?_
  obtain ⟨w4, hrun, hG, hg4⟩ := hB w v' z hg ho hl
  unfold Oper.wp
  simp [execOp, hop, hm, hx, hy, hrun, Result.andThen]
  exact hK' _ _ (h w4 hG hg4)
end

/-- a walk over the map under way: block r is an iterator, the entries whose stamps are in 'seen' have come -/
def SW (w : World) (b r base n : Nat) (f : ByteArray → List Int) (D : ByteArray → Prop) : Prop :=
  ∃ es clock seen c0, w.heap[b]? = some (.map es clock) ∧ MStS es clock ∧ w.heap[r]? = some (.mapIter (some b) clock seen c0) ∧ clock ≤ c0 ∧ r ≠ b ∧
    (∀ x ∈ es.toList, ∃ k A c, SKey k ∧ x.key = Value.string k ∧ f k ≠ [] ∧ x.val = .slice A (f k).length c) ∧ (∀ k, f k ≠ [] → ∃ x ∈ es.toList, x.key = Value.string k) ∧ (∀ k, D k ↔ ∃ x ∈ es.toList, x.key = Value.string k ∧ seen.contains x.born = true)
theorem SW.kept {w w' : World} {b r base n g : Nat} {f : ByteArray → List Int} {D : ByteArray → Prop} (h : SW w b r base n f D) (hg : w.grownBy w' (some g)) (h1 : g ≠ b) (h2 : g ≠ r) : SW w' b r base n f D := by
  obtain ⟨es, clock, seen, c0, hb, hS, hr, rest⟩ := h
  exact ⟨es, clock, seen, c0, (hg.block b (Array.getElem?_eq_some_iff.1 hb).1 (by intro e; injection e with e; exact h1 e.symm)).trans hb, hS, (hg.block r (Array.getElem?_eq_some_iff.1 hr).1 (by intro e; injection e with e; exact h2 e.symm)).trans hr, rest⟩
theorem SW.quiet {w w' : World} {b r base n : Nat} {f : ByteArray → List Int} {D : ByteArray → Prop} (h : SW w b r base n f D) (hg : w.grownBy w' none) : SW w' b r base n f D := by
  obtain ⟨es, clock, seen, c0, hb, hS, hr, rest⟩ := h
  exact ⟨es, clock, seen, c0, (hg.block b (Array.getElem?_eq_some_iff.1 hb).1 (by simp)).trans hb, hS, (hg.block r (Array.getElem?_eq_some_iff.1 hr).1 (by simp)).trans hr, rest⟩
/-- how many are still to come -/
def sleft (b r : Nat) (w : World) : Nat := w.rangeLeft b r
theorem sleft_eq {w w' : World} {b r : Nat} (hb : w'.heap[b]? = w.heap[b]?) (hr : w'.heap[r]? = w.heap[r]?) : sleft b r w' = sleft b r w := by unfold sleft World.rangeLeft; rw [hb, hr]
theorem sleft_kept {w w' : World} {b r base n g : Nat} {f : ByteArray → List Int} {D : ByteArray → Prop} (h : SW w b r base n f D) (hg : w.grownBy w' (some g)) (h1 : g ≠ b) (h2 : g ≠ r) : sleft b r w' = sleft b r w := by
  obtain ⟨es, clock, seen, c0, hb, hS, hr, rest⟩ := h
  exact sleft_eq (hg.block b (Array.getElem?_eq_some_iff.1 hb).1 (by intro e; injection e with e; exact h1 e.symm)) (hg.block r (Array.getElem?_eq_some_iff.1 hr).1 (by intro e; injection e with e; exact h2 e.symm))
section
variable {ops : Array Oper} {rest : List Oper} {o : Oper} {a : Act} {Q : Exit → Act → World → Prop} {w : World} {b base n : Nat} {f : ByteArray → List Int}
theorem wpList_range_SM (hgd : o.guard = none) (m : Operand) (hop : o.op = Op.range 60 m) (hm : a.eval m = .map (some b)) (hG : SM w b base n f)
    (h : ∀ w', SW w' b w.heap.size base n f (fun _ => False) → w.grownBy w' none → w'.heap.size = w.heap.size + 1 → wpList Tryz.prog ops Q rest (a.put o.dst (.pointer (some ⟨w.heap.size, 0, none⟩))) w') :
    wpList Tryz.prog ops Q (o :: rest) a w := by
  refine wpList_plain hgd fun K' hK' => ?_
  have hlt := hG.lt
  obtain ⟨es, clock, hb, hS, hs, hbb, hv, hcm, ha⟩ := hG
  have hrun := run_range_map w 60 9 86 b es clock Tryz.underlying60 hb
  unfold Oper.wp
  simp [execOp, hop, hm, hrun, Result.andThen]
  refine hK' _ _ (h _ ⟨es, clock, #[], clock, ((MapKept.heap_alloc w _).2 b hlt).trans hb, hS, (MapKept.heap_alloc w _).1, Nat.le_refl _, by omega, fun x hx => ?_, hcm, fun k => by simp⟩ (World.grownBy_alloc w _ none) (by simp))
  obtain ⟨k, hk, e, hne0, ho⟩ := hv x hx
  obtain ⟨A, cp, e2, -, -, -, -⟩ := Rd.of_own ho (by decide)
  exact ⟨k, A, cp, hk, e, hne0, e2⟩
theorem wpList_next_SW {r : Nat} {D : ByteArray → Prop} (hgd : o.guard = none) (it : Operand) (hop : o.op = Op.next it false) (hit : a.eval it = .pointer (some ⟨r, 0, none⟩)) (hG : SW w b r base n f D)
    (hDone : (∀ k, f k ≠ [] → D k) → wpList Tryz.prog ops Q rest (a.put o.dst (.tuple #[.bool false])) w)
    (hMore : ∀ (k : ByteArray) (A : Option Addr) (c : Nat) (w' : World), SKey k → f k ≠ [] → ¬ D k → SW w' b r base n f (fun x => D x ∨ x = k) → w.grownBy w' (some r) → w'.heap.size = w.heap.size → sleft b r w' < sleft b r w →
      (Instr.entry (.pointer (some ⟨r, 0, none⟩))).run Tryz.prog w' = .ok (.tuple #[.string k, .slice A (f k).length c]) w' → wpList Tryz.prog ops Q rest (a.put o.dst (.tuple #[.bool true, .string k, .slice A (f k).length c])) w') :
    wpList Tryz.prog ops Q (o :: rest) a w := by
  refine wpList_plain hgd fun K' hK' => ?_
  obtain ⟨es, clock, seen, c0, hb, hS, hr, hc0, hrb, hv, hcm, hD⟩ := hG
  unfold Oper.wp
  rcases run_next_at (P := Tryz.prog) w o.type r b clock c0 seen es clock hr hb hS.1 hc0 with ⟨h0, hrun⟩ | ⟨e, he, w1, hal, hrun⟩
  · simp [execOp, hop, hit, hrun, Result.andThen]
    refine hK' _ _ (hDone fun k hk => ?_)
    obtain ⟨x, hx, e⟩ := hcm k hk
    exact (hD k).2 ⟨x, hx, e, all_seen es seen h0 x hx⟩
  · obtain ⟨hem, hes⟩ := mem_left he
    obtain ⟨k, A, c, hk, ek, hne0, ev⟩ := hv e hem
    have hr1 : w1.heap[r]? = some (.mapIter (some b) clock seen c0) := by rcases hal with rfl | rfl <;> exact hr
    have hb1 : w1.heap[b]? = some (.map es clock) := by rcases hal with rfl | rfl <;> exact hb
    have hr2 := setBlock_atS (o' := .mapIter (some b) clock (seen.push e.born) clock) hr1
    have hg2 := setBlock_grownS (o' := .mapIter (some b) clock (seen.push e.born) clock) hr1
    have hb2 := (hg2.block b (Array.getElem?_eq_some_iff.1 hb1).1 (by intro e; injection e with e; exact hrb e.symm)).trans hb1
    have hen := run_entry_at (P := Tryz.prog) _ r b clock seen es clock e hr2 hb2 hem hS.2.1
    simp [execOp, hop, hit, hrun, Result.andThen]
    have hg : w.grownBy (setBlock w1 r (.mapIter (some b) clock (seen.push e.born) clock)) (some r) := by
      rcases hal with rfl | rfl
      · exact hg2
      · exact ⟨hg2.os, hg2.tape, hg2.output, hg2.size, hg2.block⟩
    have hlt := left_shrinks es seen e he
    have hnD : ¬ D k := fun hDk => by
      obtain ⟨y, hy, e1, e2⟩ := (hD k).1 hDk
      have hye : y = e := by
        obtain ⟨_, _, s3⟩ := hS
        obtain ⟨i, hi⟩ := List.getElem?_of_mem hy
        obtain ⟨j, hj⟩ := List.getElem?_of_mem hem
        rcases Nat.lt_trichotomy i j with h1 | h1 | h1
        · have := List.pairwise_iff_getElem.1 s3 i j (List.getElem?_eq_some_iff.1 hi).1 (List.getElem?_eq_some_iff.1 hj).1 h1
          rw [(List.getElem?_eq_some_iff.1 hi).2, (List.getElem?_eq_some_iff.1 hj).2, e1, ek] at this
          exact absurd rfl this
        · subst h1; rw [hi] at hj; injection hj
        · have := List.pairwise_iff_getElem.1 s3 j i (List.getElem?_eq_some_iff.1 hj).1 (List.getElem?_eq_some_iff.1 hi).1 h1
          rw [(List.getElem?_eq_some_iff.1 hi).2, (List.getElem?_eq_some_iff.1 hj).2, e1, ek] at this
          exact absurd rfl this
      rw [hye, hes] at e2
      cases e2
    have hfin := hMore k A c _ hk hne0 hnD ⟨es, clock, seen.push e.born, clock, hb2, hS, hr2, Nat.le_refl _, hrb, hv, hcm, fun x => ?_⟩ hg (by rcases hal with rfl | rfl <;> simp [setBlock]) (by
      unfold sleft World.rangeLeft
      simp only [hb2, hr2, hb, hr]
      exact hlt) (by rw [ek, ev] at hen; exact hen)
    · rw [ek, ev]
      exact hK' _ _ hfin
    · show (D x ∨ x = k) ↔ _
      rw [hD x]
      constructor
      · rintro (⟨y, hy, e1, e2⟩ | rfl)
        · exact ⟨y, hy, e1, by rw [contains_push, e2]; rfl⟩
        · exact ⟨e, hem, ek, by rw [contains_push]; simp⟩
      · rintro ⟨y, hy, e1, e2⟩
        rw [contains_push] at e2
        cases hsc : seen.contains y.born with
        | true => exact .inl ⟨y, hy, e1, hsc⟩
        | false =>
          rw [hsc] at e2
          have hyb : y.born = e.born := by simpa using e2
          have : y = e := born_inj hS.2.1 hy hem hyb
          subst this
          exact .inr (sv_inj (by rw [← e1, ek]))
end
/-- one step of the walk: key k came -/
def GStep (w : World) (b r base n : Nat) (f : ByteArray → List Int) (D : ByteArray → Prop) (k : ByteArray) (w' : World) : Prop :=
  SKey k ∧ SW w' b r base n f (fun x => D x ∨ x = k) ∧ w.grownBy w' (some r) ∧ w'.heap.size = w.heap.size ∧ sleft b r w' < sleft b r w
def GEnt (r : Nat) (f : ByteArray → List Int) (k : ByteArray) (A : Option Addr) (c : Nat) (w' : World) : Prop :=
  (Instr.entry (.pointer (some ⟨r, 0, none⟩))).run Tryz.prog w' = .ok (.tuple #[.string k, .slice A (f k).length c]) w'
/-- an iterator's block is no row -/
theorem SM.iter {w w' : World} {b base n r : Nat} {f : ByteArray → List Int} (h : SM w b base n f) {m : Option Nat} {s c0 : Nat} {seen : Array Nat} (hr : w.heap[r]? = some (.mapIter m s seen c0)) (hg : w.grownBy w' (some r)) : SM w' b base n f := by
  have hlt := h.lt
  obtain ⟨es, clock, hb, hS, hs, hbb, hv, hc, ha⟩ := h
  have hne : r ≠ b := by rintro rfl; rw [hb] at hr; cases hr
  refine ⟨es, clock, (hg.block b hlt (by intro e; injection e with e; exact hne e.symm)).trans hb, hS, hs, hbb, fun x hx => ?_, hc, ha⟩
  obtain ⟨k, hk, e, hne0, ho⟩ := hv x hx
  refine ⟨k, hk, e, hne0, ho.kept hg ?_⟩
  rcases ho.2 with ⟨h1, _⟩ | ⟨g, cap, cur, h1, _, h2, _⟩
  · rw [h1]; exact .inl rfl
  · refine .inr ?_
    rw [h1]
    intro e
    have : g = r := by simpa [Value.ownBlock] using e
    rw [this, hr] at h2
    cases h2
theorem SW.at {w : World} {b r base n : Nat} {f : ByteArray → List Int} {D : ByteArray → Prop} (h : SW w b r base n f D) : ∃ m s seen c0, w.heap[r]? = some (.mapIter m s seen c0) := by
  obtain ⟨es, clock, seen, c0, _, _, hr, _⟩ := h
  exact ⟨_, _, _, _, hr⟩
end Go.Proofs.YtfbkkbbpgipipaaGreatDoor
