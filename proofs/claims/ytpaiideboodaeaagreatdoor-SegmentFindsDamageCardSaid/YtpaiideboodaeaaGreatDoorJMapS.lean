/- A map keyed by strings whose elements are rows of integers of the call's own: 'm[k] = append(m[k], v)' (printed by mkmaps.py). No condition. -/
import Derived.Test.YtpaiideboodaeaaGreatDoorJBase
import Derived.StringKeys
import Derived.WideKeyEntry
import Derived.Maps.RangeWalk
import Derived.Test.YtpaiideboodaeaaGreatDoorJEncB
import Derived.Test.YtpaiideboodaeaaGreatDoorJShelf36
import Derived.Test.YtpaiideboodaeaaGreatDoorJInsert
import Derived.Deep.DeepMust
import Derived.WideShapes
namespace Go.Proofs.YtpaiideboodaeaaGreatDoor
open Go.RowKit
open Go.ChangeMaps (setBlock heap_setBlock_same heap_setBlock_other)
set_option linter.unusedVariables false
set_option linter.unusedSimpArgs false

def SKey (k : ByteArray) : Prop := k.size ≤ maxLen
theorem sv_inj {k l : ByteArray} (h : Value.string k = Value.string l) : k = l := by injection h
theorem strLaw : Go.WideMaps.KeyLaw Tryz.prog 9 := Go.WideMaps.string_law Tryz.underlying9
theorem sv_key {k : ByteArray} (h : SKey k) : ∃ l, keyOf Tryz.prog 9 (.string k) = some l := ⟨_, Go.WideMaps.keyOf_string_mk Tryz.underlying9 h⟩
theorem rowsZeroS (w : World) : (zeroValue 47).run Tryz.prog w = .ok (.slice none 0 0) w := by kernel_rfl
/-- what a map's block holds: stamps below the clock, no stamp and no key twice -/
def MStS (es : Array MapEntry) (clock : Nat) : Prop := (∀ x ∈ es.toList, x.born < clock) ∧ (es.toList.map (·.born)).Nodup ∧ es.toList.Pairwise (fun x y => x.key ≠ y.key)

/-- 'm[k] = v': either a new entry, or the one that is there is put anew -/
theorem map_updateS {P : Program} {t k e : TypeId} (K : Go.WideMaps.KeyLaw P k) (ht : P.underlying t = some (.map k e)) {w : World} {b : Nat} {es : Array MapEntry} {clock : Nat} (hb : w.heap[b]? = some (.map es clock)) (hk : ∀ x ∈ es.toList, ∃ l, keyOf P k x.key = some l)
    {key : Value} {kl : Lit} (hkey : keyOf P k key = some kl) (val : Value) :
    ((∀ x ∈ es.toList, x.key ≠ key) ∧ (Instr.mapUpdate t (.map (some b)) key val).run P w = .ok () (setBlock w b (.map (es.push ⟨key, val, clock⟩) (clock + 1)))) ∨
    (∃ j e0 es', es.toList[j]? = some e0 ∧ e0.key = key ∧ es'.toList = es.toList.set j ⟨key, val, e0.born⟩ ∧ (Instr.mapUpdate t (.map (some b)) key val).run P w = .ok () (setBlock w b (.map es' clock))) := by
  rcases K.find w hkey es.toList hk with ⟨h1, h2⟩ | ⟨j, e0, h1, h2, h3⟩
  · refine .inl ⟨h2, ?_⟩
    simp [Instr.mapUpdate, run_underlying ht, MapKept.run_getObj_map hb, K.check w false hkey, h1, MapKept.run_setObj_map _ hb, Result.andThen, setBlock]
  · have hj : es[j]? = some e0 := by simpa using h2
    refine .inr ⟨j, e0, es.modify j (fun e' => { e' with key := key, val := val }), h2, h3, by rw [Array.toList_modify, Go.ChangeMaps.modify_eq_set _ _ _ _ h2], ?_⟩
    simp [Instr.mapUpdate, run_underlying ht, MapKept.run_getObj_map hb, K.check w false hkey, h1, hj, h3, K.stays w hkey, MapKept.run_setObj_map _ hb, Result.andThen, setBlock]
theorem key_one {es : List MapEntry} (h : es.Pairwise (fun x y => x.key ≠ y.key)) {x y : MapEntry} (hx : x ∈ es) (hy : y ∈ es) (e : x.key = y.key) : x = y := by
  obtain ⟨i, hi⟩ := List.getElem?_of_mem hx
  obtain ⟨j, hj⟩ := List.getElem?_of_mem hy
  rcases Nat.lt_trichotomy i j with h1 | h1 | h1
  · have := List.pairwise_iff_getElem.1 h i j (List.getElem?_eq_some_iff.1 hi).1 (List.getElem?_eq_some_iff.1 hj).1 h1
    rw [(List.getElem?_eq_some_iff.1 hi).2, (List.getElem?_eq_some_iff.1 hj).2] at this
    exact absurd e this
  · subst h1; rw [hi] at hj; injection hj
  · have := List.pairwise_iff_getElem.1 h j i (List.getElem?_eq_some_iff.1 hj).1 (List.getElem?_eq_some_iff.1 hi).1 h1
    rw [(List.getElem?_eq_some_iff.1 hi).2, (List.getElem?_eq_some_iff.1 hj).2] at this
    exact absurd e.symm this

/-- block b is a map of at most n entries; at each key a row (from 'base' on) of the integers f k; where f k has elements there is an entry; no two keys' rows lie in one block -/
def SM (w : World) (b base n : Nat) (f : ByteArray → List Int) : Prop :=
  ∃ es clock, w.heap[b]? = some (.map es clock) ∧ MStS es clock ∧ es.size ≤ n ∧ b < base ∧
    (∀ x ∈ es.toList, ∃ k, SKey k ∧ x.key = Value.string k ∧ f k ≠ [] ∧ w.ownsRow base 3 1 x.val (f k).length ((f k).map (.int .i64))) ∧
    (∀ k, f k ≠ [] → ∃ x ∈ es.toList, x.key = Value.string k) ∧
    (∀ x ∈ es.toList, ∀ y ∈ es.toList, x.key ≠ y.key → x.val.ownBlock = none ∨ x.val.ownBlock ≠ y.val.ownBlock)
theorem SM.lt {w : World} {b base n : Nat} {f : ByteArray → List Int} (h : SM w b base n f) : b < w.heap.size := by
  obtain ⟨es, clock, hb, _⟩ := h
  exact (Array.getElem?_eq_some_iff.1 hb).1
theorem SM.made (w : World) {base : Nat} (h : w.heap.size < base) : SM (w.alloc (.map #[] 0)) w.heap.size base 0 (fun _ => []) :=
  ⟨#[], 0, (MapKept.heap_alloc w _).1, ⟨by simp, by simp, by simp⟩, Nat.le_refl _, h, by simp, by simp, by simp⟩
/-- other blocks below 'base' turn, and new ones are made -/
theorem SM.grown {w w' : World} {b base n g : Nat} {f : ByteArray → List Int} (h : SM w b base n f) (hg : w.grownBy w' (some g)) (hne : g ≠ b) (hgb : g < base) : SM w' b base n f := by
  have hlt := h.lt
  obtain ⟨es, clock, hb, hS, hs, hbb, hv, hc, ha⟩ := h
  refine ⟨es, clock, (hg.block b hlt (by intro e; injection e with e; exact hne e.symm)).trans hb, hS, hs, hbb, fun x hx => ?_, hc, ha⟩
  obtain ⟨k, hk, e, hne0, ho⟩ := hv x hx
  refine ⟨k, hk, e, hne0, ho.kept hg ?_⟩
  cases hu : x.val.ownBlock with
  | none => exact .inl rfl
  | some j =>
    have := (ho.lt j hu).1
    exact .inr (by intro e; injection e with e; omega)
theorem SM.quiet {w w' : World} {b base n : Nat} {f : ByteArray → List Int} (h : SM w b base n f) (hg : w.grownBy w' none) : SM w' b base n f := by
  have hlt := h.lt
  obtain ⟨es, clock, hb, hS, hs, hbb, hv, hc, ha⟩ := h
  refine ⟨es, clock, (hg.block b hlt (by simp)).trans hb, hS, hs, hbb, fun x hx => ?_, hc, ha⟩
  obtain ⟨k, hk, e, hne0, ho⟩ := hv x hx
  exact ⟨k, hk, e, hne0, ho.kept hg (Classical.em _)⟩

/-- f with z moreS at key c -/
def moreS (f : ByteArray → List Int) (c : ByteArray) (z : Int) : ByteArray → List Int := fun k => if k = c then f k ++ [z] else f k
/-- the way back: whatever is done to v's own row and to new blocks, the update with a row that owns one number more gives the map with that number more -/
def SBack (w2 : World) (b base n : Nat) (f : ByteArray → List Int) (c : ByteArray) (v : Value) : Prop :=
  ∀ (w3 : World) (v' : Value) (z : Int), w2.grownBy w3 v.ownBlock → w3.ownsRow base 3 1 v' ((f c).length + 1) ((f c).map (.int .i64) ++ [.int .i64 z]) → (v'.ownBlock = v.ownBlock ∨ ∃ g, v'.ownBlock = some g ∧ w2.heap.size ≤ g) →
    ∃ w4, (Instr.mapUpdate 108 (.map (some b)) (.string c) v').run Tryz.prog w3 = .ok () w4 ∧ SM w4 b base (n + 1) (moreS f c z) ∧ w3.grownBy w4 (some b)
theorem setBlock_grownS {w : World} {b : Nat} {o o' : Obj} (hb : w.heap[b]? = some o) : w.grownBy (setBlock w b o') (some b) :=
  ⟨rfl, rfl, rfl, by simp [setBlock], fun i _ hi => by
    have hne : i ≠ b := fun e => hi (by rw [e])
    simp [setBlock, Array.getElem?_setIfInBounds, Ne.symm hne]⟩
theorem setBlock_atS {w : World} {b : Nat} {o o' : Obj} (hb : w.heap[b]? = some o) : (setBlock w b o').heap[b]? = some o' := by
  have := (Array.getElem?_eq_some_iff.1 hb).1
  simp [setBlock, Array.getElem?_setIfInBounds, this]
/-- a look-up at a key that may be there, and the way back -/
theorem SM.look {w : World} {b base n : Nat} {f : ByteArray → List Int} (h : SM w b base n f) {c : ByteArray} (hc : SKey c) :
    ∃ v, (Instr.lookup 108 (.map (some b)) (.string c) false).run Tryz.prog w = .ok v w ∧ w.ownsRow base 3 1 v (f c).length ((f c).map (.int .i64)) ∧ SBack w b base n f c v := by
  obtain ⟨es, clock, hb, hS, hs, hbb, hv, hcm, ha⟩ := h
  obtain ⟨kl, hkl⟩ := sv_key hc
  have hkeys : ∀ x ∈ es.toList, ∃ l, keyOf Tryz.prog 9 x.key = some l := fun x hx => by
    obtain ⟨k, hk, e, _, _⟩ := hv x hx
    rw [e]; exact sv_key hk
  have hltb := (Array.getElem?_eq_some_iff.1 hb).1
  have offB : ∀ {u : World} {v : Value} {m : Nat} {xs : List Value}, u.ownsRow base 3 1 v m xs → v.ownBlock = none ∨ v.ownBlock ≠ some b := fun {u v m xs} ho => by
    cases hu : v.ownBlock with
    | none => exact .inl rfl
    | some j =>
      have := (ho.lt j hu).1
      exact .inr (by intro e; injection e with e; omega)
  rcases strLaw.find w hkl es.toList hkeys with ⟨h1, h2⟩ | ⟨j, e0, h1, h2, h3⟩
  · have hf : f c = [] := by
      rcases hfc : f c with _ | ⟨a, l⟩
      · rfl
      · obtain ⟨x, hx, e⟩ := hcm c (by rw [hfc]; simp)
        exact absurd e (h2 x hx)
    refine ⟨.slice none 0 0, ?_, by rw [hf]; exact World.ownsRow_nil _ _ _ _, fun w3 v' z hg ho hloc => ?_⟩
    · simp [Instr.lookup, run_underlying Tryz.underlying108, MapKept.run_getObj_map hb, strLaw.check w _ hkl, h1, rowsZeroS, Result.andThen]
    have hb3 := (hg.block b hltb (by simp [Value.ownBlock])).trans hb
    rcases map_updateS strLaw Tryz.underlying108 hb3 hkeys hkl v' with ⟨hno, hrun⟩ | ⟨j, e0, es', hj, he, hes, hrun⟩
    · have hg4 := setBlock_grownS (o' := .map (es.push ⟨.string c, v', clock⟩) (clock + 1)) hb3
      refine ⟨_, hrun, ⟨_, _, setBlock_atS hb3, ?_, ?_, hbb, ?_, ?_, ?_⟩, hg4⟩
      · obtain ⟨s1, s2, s3⟩ := hS
        refine ⟨fun x hx => ?_, ?_, ?_⟩
        · simp at hx
          rcases hx with hx | rfl
          · have := s1 x (by simpa using hx); omega
          · simp
        · simp only [Array.toList_push, List.map_append, List.map_cons, List.map_nil]
          refine List.nodup_append.2 ⟨s2, by simp, fun a ha' d hd e1 => ?_⟩
          simp only [List.mem_singleton] at hd
          obtain ⟨x, hx, rfl⟩ := List.mem_map.1 ha'
          have := s1 x hx
          omega
        · simp only [Array.toList_push]
          exact List.pairwise_append.2 ⟨s3, List.pairwise_singleton _ _, fun x hx y hy => by rw [List.mem_singleton.1 hy]; exact hno x hx⟩
      · simp; omega
      · intro x hx
        simp only [Array.toList_push, List.mem_append, List.mem_singleton] at hx
        rcases hx with hx | rfl
        · obtain ⟨k, hk, e, hne0, hor⟩ := hv x hx
          have hkc : k ≠ c := fun e1 => hno x hx (by rw [e, e1])
          refine ⟨k, hk, e, by unfold moreS; rw [if_neg hkc]; exact hne0, ?_⟩
          unfold moreS
          rw [if_neg hkc]
          exact (hor.kept hg (Classical.em _)).kept hg4 (offB hor)
        · refine ⟨c, hc, rfl, by unfold moreS; simp, ?_⟩
          unfold moreS
          rw [if_pos rfl]
          have := ho.kept hg4 (offB ho)
          simpa using this
      · intro k hk
        by_cases hkc : k = c
        · exact ⟨⟨.string c, v', clock⟩, by simp, by rw [hkc]⟩
        · unfold moreS at hk
          rw [if_neg hkc] at hk
          obtain ⟨x, hx, e⟩ := hcm k hk
          exact ⟨x, by simp only [Array.toList_push, List.mem_append]; exact .inl hx, e⟩
      · have old : ∀ x ∈ es.toList, x.val.ownBlock = none ∨ x.val.ownBlock ≠ v'.ownBlock := fun x hx => by
          rcases hloc with h1 | ⟨g, h1, h2⟩
          · rw [h1]
            cases x.val.ownBlock <;> simp [Value.ownBlock]
          · cases hu : x.val.ownBlock with
            | none => exact .inl rfl
            | some j =>
              obtain ⟨k, _, _, _, hor⟩ := hv x hx
              have := (hor.lt j hu).2
              exact .inr (by rw [h1]; intro e; injection e with e; omega)
        intro x hx y hy hne
        simp only [Array.toList_push, List.mem_append, List.mem_singleton] at hx hy
        rcases hx with hx | rfl <;> rcases hy with hy | rfl
        · exact ha x hx y hy hne
        · exact old x hx
        · rcases old y hy with h1 | h1
          · cases hv' : v'.ownBlock with
            | none => exact .inl rfl
            | some g => exact .inr (by show _ ≠ y.val.ownBlock; rw [h1]; simp)
          · exact .inr (fun e => h1 e.symm)
        · exact absurd rfl hne
    · exact absurd he (h2 e0 (List.mem_of_getElem? hj))
  · have he0 : e0 ∈ es.toList := List.mem_of_getElem? h2
    obtain ⟨k0, hk0, ek0, hne00, ho0⟩ := hv e0 he0
    have hk0c : k0 = c := sv_inj (by rw [← ek0, h3])
    subst hk0c
    refine ⟨e0.val, ?_, ho0, fun w3 v' z hg ho hloc => ?_⟩
    · simp [Instr.lookup, run_underlying Tryz.underlying108, MapKept.run_getObj_map hb, strLaw.check w _ hkl, h1, Result.andThen]
    have hb3 := (hg.block b hltb (by rcases offB ho0 with h1 | h1; (rw [h1]; simp); exact fun e => h1 e.symm)).trans hb
    rcases map_updateS strLaw Tryz.underlying108 hb3 hkeys hkl v' with ⟨hno, hrun⟩ | ⟨j', e1, es', hj, he, hes, hrun⟩
    · exact absurd h3 (hno e0 he0)
    · obtain rfl : e1 = e0 := key_one hS.2.2 (List.mem_of_getElem? hj) he0 (by rw [he, h3])
      have hg4 := setBlock_grownS (o' := .map es' clock) hb3
      have hmem : ∀ x, x ∈ es'.toList → (x ∈ es.toList ∧ x.key ≠ .string k0) ∨ x = ⟨.string k0, v', e1.born⟩ := fun x hx => by
        rw [hes] at hx
        obtain ⟨i, hi⟩ := List.getElem?_of_mem hx
        rw [List.getElem?_set] at hi
        split at hi
        · split at hi
          · injection hi with hi; exact .inr hi.symm
          · cases hi
        · rename_i hij
          refine .inl ⟨List.mem_of_getElem? hi, fun e2 => hij ?_⟩
          obtain ⟨_, _, s3⟩ := hS
          rcases Nat.lt_trichotomy i j' with h1 | h1 | h1
          · have := List.pairwise_iff_getElem.1 s3 i j' (List.getElem?_eq_some_iff.1 hi).1 (List.getElem?_eq_some_iff.1 hj).1 h1
            rw [(List.getElem?_eq_some_iff.1 hi).2, (List.getElem?_eq_some_iff.1 hj).2, e2, he] at this
            exact absurd rfl this
          · exact h1.symm
          · have := List.pairwise_iff_getElem.1 s3 j' i (List.getElem?_eq_some_iff.1 hj).1 (List.getElem?_eq_some_iff.1 hi).1 h1
            rw [(List.getElem?_eq_some_iff.1 hi).2, (List.getElem?_eq_some_iff.1 hj).2, e2, he] at this
            exact absurd rfl this
      have hkeyS : es'.toList.map (·.key) = es.toList.map (·.key) := by
        rw [hes, List.map_set]
        exact Go.WideElems.set_self _ _ _ (by rw [List.getElem?_map, hj]; simp [he])
      have hbornS : es'.toList.map (·.born) = es.toList.map (·.born) := by
        rw [hes, List.map_set]
        exact Go.WideElems.set_self _ _ _ (by rw [List.getElem?_map, hj]; rfl)
      refine ⟨_, hrun, ⟨es', clock, setBlock_atS hb3, ?_, ?_, hbb, ?_, ?_, ?_⟩, hg4⟩
      · obtain ⟨s1, s2, s3⟩ := hS
        refine ⟨fun x hx => ?_, by rw [hbornS]; exact s2, ?_⟩
        · have : x.born ∈ es.toList.map (·.born) := by rw [← hbornS]; exact List.mem_map.2 ⟨x, hx, rfl⟩
          obtain ⟨y, hy, e⟩ := List.mem_map.1 this
          rw [← e]; exact s1 y hy
        · have e1 : (es'.toList.map (·.key)).Pairwise (· ≠ ·) := by rw [hkeyS]; exact List.pairwise_map.2 s3
          exact List.pairwise_map.1 e1
      · have : es'.toList.length = es.toList.length := by rw [hes, List.length_set]
        simp at this; omega
      · intro x hx
        rcases hmem x hx with ⟨hx0, hne⟩ | rfl
        · obtain ⟨k, hk, e, hne0, hor⟩ := hv x hx0
          have hkc : k ≠ k0 := fun e1 => hne (by rw [e, e1])
          refine ⟨k, hk, e, by unfold moreS; rw [if_neg hkc]; exact hne0, ?_⟩
          unfold moreS
          rw [if_neg hkc]
          exact (hor.kept hg (ha x hx0 e1 he0 (by rw [he]; exact hne))).kept hg4 (offB hor)
        · refine ⟨k0, hc, rfl, by unfold moreS; simp, ?_⟩
          unfold moreS
          rw [if_pos rfl]
          have := ho.kept hg4 (offB ho)
          simpa using this
      · intro k hk
        by_cases hkc : k = k0
        · have : e1.key ∈ es'.toList.map (·.key) := by rw [hkeyS]; exact List.mem_map.2 ⟨e1, he0, rfl⟩
          obtain ⟨y, hy, e⟩ := List.mem_map.1 this
          exact ⟨y, hy, by rw [e, he, hkc]⟩
        · unfold moreS at hk
          rw [if_neg hkc] at hk
          obtain ⟨x, hx, e⟩ := hcm k hk
          have : x.key ∈ es'.toList.map (·.key) := by rw [hkeyS]; exact List.mem_map.2 ⟨x, hx, rfl⟩
          obtain ⟨y, hy, e'⟩ := List.mem_map.1 this
          exact ⟨y, hy, by rw [e', e]⟩
      · have old : ∀ x ∈ es.toList, x.key ≠ .string k0 → x.val.ownBlock = none ∨ x.val.ownBlock ≠ v'.ownBlock := fun x hx hne => by
          rcases hloc with h1 | ⟨g, h1, h2⟩
          · rw [h1]
            exact ha x hx e1 he0 (by rw [he]; exact hne)
          · cases hu : x.val.ownBlock with
            | none => exact .inl rfl
            | some j' =>
              obtain ⟨k, _, _, _, hor⟩ := hv x hx
              have := (hor.lt j' hu).2
              exact .inr (by rw [h1]; intro e; injection e with e; omega)
        intro x hx y hy hne
        rcases hmem x hx with ⟨hx0, hxn⟩ | rfl <;> rcases hmem y hy with ⟨hy0, hyn⟩ | rfl
        · exact ha x hx0 y hy0 hne
        · exact old x hx0 hxn
        · rcases old y hy0 hyn with h1 | h1
          · cases hv' : v'.ownBlock with
            | none => exact .inl rfl
            | some g => exact .inr (by show _ ≠ y.val.ownBlock; rw [h1]; simp)
          · exact .inr (fun e => h1 e.symm)
        · exact absurd rfl hne
/-- how many keys there are: as many as a list of all of them, each once -/
theorem SM.len {w : World} {b base n : Nat} {f : ByteArray → List Int} (h : SM w b base n f) {ks : List ByteArray} (hn : ks.Nodup) (hk : ∀ k, k ∈ ks ↔ f k ≠ []) :
    ∃ es clock, w.heap[b]? = some (.map es clock) ∧ es.size = ks.length := by
  obtain ⟨es, clock, hb, hS, hs, hbb, hv, hcm, ha⟩ := h
  refine ⟨es, clock, hb, ?_⟩
  have h1 : (es.toList.map (·.key)).Nodup := List.pairwise_map.2 hS.2.2
  have h2 : (ks.map Value.string).Nodup := List.pairwise_map.2 (List.Pairwise.imp (fun hab e => hab (by injection e)) hn)
  have h3 : (es.toList.map (·.key)).Perm (ks.map Value.string) := by
    rw [List.perm_ext_iff_of_nodup h1 h2]
    intro v
    constructor
    · intro hv'
      obtain ⟨x, hx, rfl⟩ := List.mem_map.1 hv'
      obtain ⟨k, _, e, hne, _⟩ := hv x hx
      exact List.mem_map.2 ⟨k, (hk k).2 hne, e.symm⟩
    · intro hv'
      obtain ⟨k, hk', rfl⟩ := List.mem_map.1 hv'
      obtain ⟨x, hx, e⟩ := hcm k ((hk k).1 hk')
      exact List.mem_map.2 ⟨x, hx, e⟩
  have := h3.length_eq
  simpa using this
section
variable {ops : Array Oper} {rest : List Oper} {o : Oper} {a : Act} {Q : Exit → Act → World → Prop} {w : World} {b base n : Nat} {f : ByteArray → List Int}
theorem wpList_lookS (hgd : o.guard = none) (m x : Operand) (hop : o.op = Op.lookup 108 m x false) (hm : a.eval m = .map (some b)) (c : ByteArray) (hx : a.eval x = .string c) (hG : SM w b base n f) (hc : SKey c)
    (h : ∀ (A : Option Addr) (cp : Nat), w.ownsRow base 3 1 (.slice A (f c).length cp) (f c).length ((f c).map (.int .i64)) → SBack w b base n f c (.slice A (f c).length cp) → wpList Tryz.prog ops Q rest (a.put o.dst (.slice A (f c).length cp)) w) :
    wpList Tryz.prog ops Q (o :: rest) a w := by
  refine wpList_plain hgd fun K' hK' => ?_
  obtain ⟨v, hrun, ho, hB⟩ := hG.look hc
  obtain ⟨A, cp, rfl, -, -, -, -⟩ := Rd.of_own ho (by decide)
  unfold Oper.wp
  simp [execOp, hop, hm, hx, hrun, Result.andThen]
  exact hK' _ _ (h A cp ho hB)
theorem wpList_updS (hgd : o.guard = none) (m x y : Operand) (hop : o.op = Op.mapUpdate 108 m x y) (hm : a.eval m = .map (some b)) {w2 : World} {c : ByteArray} {v v' : Value} (hx : a.eval x = .string c) (hy : a.eval y = v') (hB : SBack w2 b base n f c v) (z : Int)
    (hg : w2.grownBy w v.ownBlock) (ho : w.ownsRow base 3 1 v' ((f c).length + 1) ((f c).map (.int .i64) ++ [.int .i64 z])) (hl : v'.ownBlock = v.ownBlock ∨ ∃ g, v'.ownBlock = some g ∧ w2.heap.size ≤ g)
    (h : ∀ w4, SM w4 b base (n + 1) (moreS f c z) → w.grownBy w4 (some b) → wpList Tryz.prog ops Q rest (a.put o.dst undef) w4) :
    wpList Tryz.prog ops Q (o :: rest) a w := by
  refine wpList_plain hgd fun K' hK' => ?_
  obtain ⟨w4, hrun, hG, hg4⟩ := hB w v' z hg ho hl
  unfold Oper.wp
  simp [execOp, hop, hm, hx, hy, hrun, Result.andThen]
  exact hK' _ _ (h w4 hG hg4)
end

/-- a walk over the map under way: block r is an iterator, the entries whose stamps are in 'seen' have come -/
def SW (w : World) (b r base n : Nat) (f : ByteArray → List Int) (D : ByteArray → Prop) : Prop :=
  ∃ es clock seen c0, w.heap[b]? = some (.map es clock) ∧ MStS es clock ∧ w.heap[r]? = some (.mapIter (some b) clock seen c0) ∧ clock ≤ c0 ∧ r ≠ b ∧
    (∀ x ∈ es.toList, ∃ k A c, SKey k ∧ x.key = Value.string k ∧ f k ≠ [] ∧ x.val = .slice A (f k).length c) ∧ (∀ k, f k ≠ [] → ∃ x ∈ es.toList, x.key = Value.string k) ∧ (∀ k, D k ↔ ∃ x ∈ es.toList, x.key = Value.string k ∧ seen.contains x.born = true)
theorem SW.kept {w w' : World} {b r base n g : Nat} {f : ByteArray → List Int} {D : ByteArray → Prop} (h : SW w b r base n f D) (hg : w.grownBy w' (some g)) (h1 : g ≠ b) (h2 : g ≠ r) : SW w' b r base n f D := by
  obtain ⟨es, clock, seen, c0, hb, hS, hr, rest⟩ := h
  exact ⟨es, clock, seen, c0, (hg.block b (Array.getElem?_eq_some_iff.1 hb).1 (by intro e; injection e with e; exact h1 e.symm)).trans hb, hS, (hg.block r (Array.getElem?_eq_some_iff.1 hr).1 (by intro e; injection e with e; exact h2 e.symm)).trans hr, rest⟩
theorem SW.quiet {w w' : World} {b r base n : Nat} {f : ByteArray → List Int} {D : ByteArray → Prop} (h : SW w b r base n f D) (hg : w.grownBy w' none) : SW w' b r base n f D := by
  obtain ⟨es, clock, seen, c0, hb, hS, hr, rest⟩ := h
  exact ⟨es, clock, seen, c0, (hg.block b (Array.getElem?_eq_some_iff.1 hb).1 (by simp)).trans hb, hS, (hg.block r (Array.getElem?_eq_some_iff.1 hr).1 (by simp)).trans hr, rest⟩
/-- how many are still to come -/
def sleft (b r : Nat) (w : World) : Nat := w.rangeLeft b r
theorem sleft_eq {w w' : World} {b r : Nat} (hb : w'.heap[b]? = w.heap[b]?) (hr : w'.heap[r]? = w.heap[r]?) : sleft b r w' = sleft b r w := by unfold sleft World.rangeLeft; rw [hb, hr]
theorem sleft_kept {w w' : World} {b r base n g : Nat} {f : ByteArray → List Int} {D : ByteArray → Prop} (h : SW w b r base n f D) (hg : w.grownBy w' (some g)) (h1 : g ≠ b) (h2 : g ≠ r) : sleft b r w' = sleft b r w := by
  obtain ⟨es, clock, seen, c0, hb, hS, hr, rest⟩ := h
  exact sleft_eq (hg.block b (Array.getElem?_eq_some_iff.1 hb).1 (by intro e; injection e with e; exact h1 e.symm)) (hg.block r (Array.getElem?_eq_some_iff.1 hr).1 (by intro e; injection e with e; exact h2 e.symm))
section
variable {ops : Array Oper} {rest : List Oper} {o : Oper} {a : Act} {Q : Exit → Act → World → Prop} {w : World} {b base n : Nat} {f : ByteArray → List Int}
theorem wpList_range_SM (hgd : o.guard = none) (m : Operand) (hop : o.op = Op.range 108 m) (hm : a.eval m = .map (some b)) (hG : SM w b base n f)
    (h : ∀ w', SW w' b w.heap.size base n f (fun _ => False) → w.grownBy w' none → w'.heap.size = w.heap.size + 1 → wpList Tryz.prog ops Q rest (a.put o.dst (.pointer (some ⟨w.heap.size, 0, none⟩))) w') :
    wpList Tryz.prog ops Q (o :: rest) a w := by
  refine wpList_plain hgd fun K' hK' => ?_
  have hlt := hG.lt
  obtain ⟨es, clock, hb, hS, hs, hbb, hv, hcm, ha⟩ := hG
  have hrun := run_range_map w 108 9 47 b es clock Tryz.underlying108 hb
  unfold Oper.wp
  simp [execOp, hop, hm, hrun, Result.andThen]
  refine hK' _ _ (h _ ⟨es, clock, #[], clock, ((MapKept.heap_alloc w _).2 b hlt).trans hb, hS, (MapKept.heap_alloc w _).1, Nat.le_refl _, by omega, fun x hx => ?_, hcm, fun k => by simp⟩ (World.grownBy_alloc w _ none) (by simp))
  obtain ⟨k, hk, e, hne0, ho⟩ := hv x hx
  obtain ⟨A, cp, e2, -, -, -, -⟩ := Rd.of_own ho (by decide)
  exact ⟨k, A, cp, hk, e, hne0, e2⟩
theorem wpList_next_SW {r : Nat} {D : ByteArray → Prop} (hgd : o.guard = none) (it : Operand) (hop : o.op = Op.next it false) (hit : a.eval it = .pointer (some ⟨r, 0, none⟩)) (hG : SW w b r base n f D)
    (hDone : (∀ k, f k ≠ [] → D k) → wpList Tryz.prog ops Q rest (a.put o.dst (.tuple #[.bool false])) w)
    (hMore : ∀ (k : ByteArray) (A : Option Addr) (c : Nat) (w' : World), SKey k → f k ≠ [] → ¬ D k → SW w' b r base n f (fun x => D x ∨ x = k) → w.grownBy w' (some r) → w'.heap.size = w.heap.size → sleft b r w' < sleft b r w →
      (Instr.entry (.pointer (some ⟨r, 0, none⟩))).run Tryz.prog w' = .ok (.tuple #[.string k, .slice A (f k).length c]) w' → wpList Tryz.prog ops Q rest (a.put o.dst (.tuple #[.bool true, .string k, .slice A (f k).length c])) w') :
    wpList Tryz.prog ops Q (o :: rest) a w := by
  refine wpList_plain hgd fun K' hK' => ?_
  obtain ⟨es, clock, seen, c0, hb, hS, hr, hc0, hrb, hv, hcm, hD⟩ := hG
  unfold Oper.wp
  rcases run_next_at (P := Tryz.prog) w o.type r b clock c0 seen es clock hr hb hS.1 hc0 with ⟨h0, hrun⟩ | ⟨e, he, w1, hal, hrun⟩
  · simp [execOp, hop, hit, hrun, Result.andThen]
    refine hK' _ _ (hDone fun k hk => ?_)
    obtain ⟨x, hx, e⟩ := hcm k hk
    exact (hD k).2 ⟨x, hx, e, all_seen es seen h0 x hx⟩
  · obtain ⟨hem, hes⟩ := mem_left he
    obtain ⟨k, A, c, hk, ek, hne0, ev⟩ := hv e hem
    have hr1 : w1.heap[r]? = some (.mapIter (some b) clock seen c0) := by rcases hal with rfl | rfl <;> exact hr
    have hb1 : w1.heap[b]? = some (.map es clock) := by rcases hal with rfl | rfl <;> exact hb
    have hr2 := setBlock_atS (o' := .mapIter (some b) clock (seen.push e.born) clock) hr1
    have hg2 := setBlock_grownS (o' := .mapIter (some b) clock (seen.push e.born) clock) hr1
    have hb2 := (hg2.block b (Array.getElem?_eq_some_iff.1 hb1).1 (by intro e; injection e with e; exact hrb e.symm)).trans hb1
    have hen := run_entry_at (P := Tryz.prog) _ r b clock seen es clock e hr2 hb2 hem hS.2.1
    simp [execOp, hop, hit, hrun, Result.andThen]
    have hg : w.grownBy (setBlock w1 r (.mapIter (some b) clock (seen.push e.born) clock)) (some r) := by
      rcases hal with rfl | rfl
      · exact hg2
      · exact ⟨hg2.os, hg2.tape, hg2.output, hg2.size, hg2.block⟩
    have hlt := left_shrinks es seen e he
    have hnD : ¬ D k := fun hDk => by
      obtain ⟨y, hy, e1, e2⟩ := (hD k).1 hDk
      have hye : y = e := by
        obtain ⟨_, _, s3⟩ := hS
        obtain ⟨i, hi⟩ := List.getElem?_of_mem hy
        obtain ⟨j, hj⟩ := List.getElem?_of_mem hem
        rcases Nat.lt_trichotomy i j with h1 | h1 | h1
        · have := List.pairwise_iff_getElem.1 s3 i j (List.getElem?_eq_some_iff.1 hi).1 (List.getElem?_eq_some_iff.1 hj).1 h1
          rw [(List.getElem?_eq_some_iff.1 hi).2, (List.getElem?_eq_some_iff.1 hj).2, e1, ek] at this
          exact absurd rfl this
        · subst h1; rw [hi] at hj; injection hj
        · have := List.pairwise_iff_getElem.1 s3 j i (List.getElem?_eq_some_iff.1 hj).1 (List.getElem?_eq_some_iff.1 hi).1 h1
          rw [(List.getElem?_eq_some_iff.1 hi).2, (List.getElem?_eq_some_iff.1 hj).2, e1, ek] at this
          exact absurd rfl this
      rw [hye, hes] at e2
      cases e2
    have hfin := hMore k A c _ hk hne0 hnD ⟨es, clock, seen.push e.born, clock, hb2, hS, hr2, Nat.le_refl _, hrb, hv, hcm, fun x => ?_⟩ hg (by rcases hal with rfl | rfl <;> simp [setBlock]) (by
      unfold sleft World.rangeLeft
      simp only [hb2, hr2, hb, hr]
      exact hlt) (by rw [ek, ev] at hen; exact hen)
    · rw [ek, ev]
      exact hK' _ _ hfin
    · show (D x ∨ x = k) ↔ _
      rw [hD x]
      constructor
      · rintro (⟨y, hy, e1, e2⟩ | rfl)
        · exact ⟨y, hy, e1, by rw [contains_push, e2]; rfl⟩
        · exact ⟨e, hem, ek, by rw [contains_push]; simp⟩
      · rintro ⟨y, hy, e1, e2⟩
        rw [contains_push] at e2
        cases hsc : seen.contains y.born with
        | true => exact .inl ⟨y, hy, e1, hsc⟩
        | false =>
          rw [hsc] at e2
          have hyb : y.born = e.born := by simpa using e2
          have : y = e := born_inj hS.2.1 hy hem hyb
          subst this
          exact .inr (sv_inj (by rw [← e1, ek]))
end
/-- one step of the walk: key k came -/
def GStep (w : World) (b r base n : Nat) (f : ByteArray → List Int) (D : ByteArray → Prop) (k : ByteArray) (w' : World) : Prop :=
  SKey k ∧ SW w' b r base n f (fun x => D x ∨ x = k) ∧ w.grownBy w' (some r) ∧ w'.heap.size = w.heap.size ∧ sleft b r w' < sleft b r w
def GEnt (r : Nat) (f : ByteArray → List Int) (k : ByteArray) (A : Option Addr) (c : Nat) (w' : World) : Prop :=
  (Instr.entry (.pointer (some ⟨r, 0, none⟩))).run Tryz.prog w' = .ok (.tuple #[.string k, .slice A (f k).length c]) w'
/-- an iterator's block is no row -/
theorem SM.iter {w w' : World} {b base n r : Nat} {f : ByteArray → List Int} (h : SM w b base n f) {m : Option Nat} {s c0 : Nat} {seen : Array Nat} (hr : w.heap[r]? = some (.mapIter m s seen c0)) (hg : w.grownBy w' (some r)) : SM w' b base n f := by
  have hlt := h.lt
  obtain ⟨es, clock, hb, hS, hs, hbb, hv, hc, ha⟩ := h
  have hne : r ≠ b := by rintro rfl; rw [hb] at hr; cases hr
  refine ⟨es, clock, (hg.block b hlt (by intro e; injection e with e; exact hne e.symm)).trans hb, hS, hs, hbb, fun x hx => ?_, hc, ha⟩
  obtain ⟨k, hk, e, hne0, ho⟩ := hv x hx
  refine ⟨k, hk, e, hne0, ho.kept hg ?_⟩
  rcases ho.2 with ⟨h1, _⟩ | ⟨g, cap, cur, h1, _, h2, _⟩
  · rw [h1]; exact .inl rfl
  · refine .inr ?_
    rw [h1]
    intro e
    have : g = r := by simpa [Value.ownBlock] using e
    rw [this, hr] at h2
    cases h2
theorem SW.at {w : World} {b r base n : Nat} {f : ByteArray → List Int} {D : ByteArray → Prop} (h : SW w b r base n f D) : ∃ m s seen c0, w.heap[r]? = some (.mapIter m s seen c0) := by
  obtain ⟨es, clock, seen, c0, _, _, hr, _⟩ := h
  exact ⟨_, _, _, _, hr⟩
end Go.Proofs.YtpaiideboodaeaaGreatDoor

namespace Go.Proofs.YtpaiideboodaeaaGreatDoor
open Go.RowKit
set_option linter.unusedVariables false
set_option linter.unusedSimpArgs false

theorem intInfoS2 : (Tryz.prog.info? 3).map (fun i => (i.zero, i.size, i.bytes)) = some (some (.int .i64 0), 1, 8) := by kernel_rfl
/-- only block b, rows from it on, and new blocks have turned -/
def FrM (b : Nat) (w w' : World) : Prop := ∀ (a : World) (row : Option Nat), a.heap.size ≤ b → a.grownBy w row → a.grownBy w' row
theorem FrM.refl (b : Nat) (w : World) : FrM b w w := fun _ _ _ h => h
theorem FrM.trans {b : Nat} {w w' w'' : World} (h : FrM b w w') (k : FrM b w' w'') : FrM b w w'' := fun a row ha hg => k a row ha (h a row ha hg)
theorem FrM.of {b : Nat} {w w' : World} (h : w.grownBy w' none) : FrM b w w' := fun a row _ hg => only_trans hg (only_of_none h _)
/-- rows of other elements than integers stay -/
def KeepNI (b : Nat) (w w' : World) : Prop := ∀ (q : Nat) (cs : Array Value) (t : TypeId) (fz : Nat × Nat), q ≠ b → w.heap[q]? = some (.cells cs t fz) → t ≠ 3 → w'.heap[q]? = w.heap[q]?
theorem own_keepNI {w w' : World} {b base e size n : Nat} {v : Value} {xs : List Value} (h : w.ownsRow base e size v n xs) (hk : KeepNI b w w') (hb : b < base) (he : e ≠ 3) : w'.ownsRow base e size v n xs := by
  obtain ⟨h1, h2⟩ := h
  refine ⟨h1, h2.imp id (fun ⟨g, cap, cur, q1, q2, q3, q4⟩ => ⟨g, cap, cur, q1, q2, (hk g cur e (0, 0) (by omega) q3 he).trans q3, q4⟩)⟩
def AddP (b base n : Nat) (f : ByteArray → List Int) (s : ByteArray) (id : Int) (w : World) (e : Ending) (w' : World) : Prop :=
  e = .returned (.tuple #[]) ∧ SM w' b base (n + 1) (moreS f s id) ∧ FrM b w w' ∧ w.heap.size ≤ w'.heap.size ∧ KeepNI b w w'
set_option maxHeartbeats 2000000 in
set_option maxRecDepth 100000 in
theorem add_row {b base n : Nat} {f : ByteArray → List Int} (s : ByteArray) (id : Int) (w : World) (h : SM w b base n f) (hs : SKey s) (hb : base ≤ w.heap.size) (hbb : b < base) (hl : (f s).length ≤ 1000000) :
    Calls Tryz.prog 101 #[.map (some b), .string s, .int .i64 id] w (AddP b base n f s id w) := by
  have H := Lib.hid h
  have HS := Lib.hid hs
  clear h hs
  go_enter Tryz.func101, Tryz.ntmps101
  go_wp2_with (first
    | (refine wpList_lookS rfl _ _ rfl rfl s rfl H.out HS.out ?_; intro Av cv hov hback; have HOV := Lib.hid hov; have BK := Lib.hid hback; clear hov hback)
    | (refine wpList_append1 rfl _ _ 47 rfl base Tryz.underlying47 intInfoS2 rfl (by decide) (v := .slice Av (f s).length cv) (by rfl) (w0 := w) (cs := #[.int .i64 id]) HOV.out (by rfl) rfl (by simp [Value.oneCell']) (by decide) (by omega) (by omega) ?_; intro v2 w2 hown2 hg2 hob2; have HO2 := Lib.hid hown2; have HG2 := Lib.hid hg2; have HB2 := Lib.hid hob2; clear hown2 hg2 hob2)
    | (refine wpList_updS (v' := v2) rfl _ _ _ rfl rfl rfl rfl BK.out id HG2.out (by simpa using HO2.out) (by rcases HB2.out with h | h; exact .inl h; exact .inr ⟨_, h, by omega⟩) ?_; intro w4 hm4 hg4; have HM4 := Lib.hid hm4; have HG4 := Lib.hid hg4; clear hm4 hg4))
  exact bodyPost_ret (v := .tuple #[]) (by simp [results, Tryz.results101, go_sem]) rfl ⟨rfl, HM4.out, fun a row ha hg => only_fresh (only_own hg HG2.out HOV.out (by omega)) HG4.out ha, Nat.le_trans HG2.out.size HG4.out.size, fun q cs t fz hq hc ht => by
    have hlt := (Array.getElem?_eq_some_iff.1 hc).1
    have hne : some q ≠ (Value.slice Av (f s).length cv).ownBlock := fun e => by
      rcases HOV.out.2 with ⟨h1, _⟩ | ⟨g, cap, cur, h1, _, h2, _⟩
      · rw [h1] at e; simp [Value.ownBlock] at e
      · rw [h1] at e
        have : q = g := by simpa [Value.ownBlock] using e
        rw [this, h2] at hc
        injection hc with hc
        injection hc with h3 h4
        exact ht h4.symm
    have h5 := HG2.out.block q hlt hne
    exact (HG4.out.block q (Nat.lt_of_lt_of_le hlt HG2.out.size) (fun e => hq (by injection e))).trans h5⟩
end Go.Proofs.YtpaiideboodaeaaGreatDoor

namespace Go.Proofs.YtpaiideboodaeaaGreatDoor
open Go.RowKit
set_option linter.unusedVariables false
set_option linter.unusedSimpArgs false

def KeysP (f : ByteArray → List Int) (n : Nat) (w : World) (e : Ending) (w' : World) : Prop :=
  ∃ A c ds, e = .returned (.slice A ds.length c) ∧ ds.length ≤ c ∧ c ≤ maxLen ∧ ds.length ≤ n ∧ Srt ds ∧ (∀ t, t ∈ ds ↔ f t ≠ []) ∧ w'.ownsRow w.heap.size 9 1 (.slice A ds.length c) ds.length (ds.map .string) ∧ w.grownBy w' none
/-- an element's value is of no interest -/
def Rnil (_ : Value) : Option (DataW Unit × List MemPlace) := some (.nil, [])
theorem rd_nil {x : MapEntry} {k : ByteArray} (hk : SKey k) (e : x.key = .string k) : Go.WideElems.rd Tryz.prog 9 Rnil x = some (.string k.data.toList, .nil) := by
  unfold Go.WideElems.rd
  rw [e, Go.WideMaps.keyOf_string_mk Tryz.underlying9 hk]; rfl
theorem ofB_inj {a b : ByteArray} (h : a.data.toList = b.data.toList) : a = b := by
  have := congrArg toB h
  rwa [show toB a.data.toList = a from toB_ofB a, show toB b.data.toList = b from toB_ofB b] at this
theorem SM.owns {w : World} {b base n : Nat} {f : ByteArray → List Int} (h : SM w b base n f) (hn : n ≤ 1000000) :
    ∃ D : DataW Unit, w.ownsMap Tryz.prog 9 Rnil b n D ∧ (strKeys D).Nodup ∧ (∀ t : ByteArray, ofB t ∈ strKeys D ↔ f t ≠ []) ∧ Go.Maps.size D ≤ n := by
  obtain ⟨es, clock, hb, hS, hs, hbb, hv, hc, ha⟩ := h
  have hg : ∀ x ∈ es.toList, ∀ k, x.key = .string k → Go.WideElems.rg Tryz.prog 9 Rnil x = (.string k.data.toList, .nil) := fun x hx k hk => by
    obtain ⟨k', hk', e, -, -⟩ := hv x hx
    obtain rfl : k' = k := sv_inj (e.symm.trans hk)
    exact Go.WideElems.rg_of (rd_nil hk' hk)
  have hF : Go.WideElems.Fit Tryz.prog 9 Rnil es clock := ⟨by unfold maxLen; omega, (Go.MapKept.stamped_iff es clock).2 hS, fun x hx => by
    obtain ⟨k, hk, e, -, -⟩ := hv x hx
    exact ⟨_, rd_nil hk e⟩⟩
  have hp := Go.WideShapes.sorted_perm (es.toList.map (Go.WideElems.rg Tryz.prog 9 Rnil))
  refine ⟨_, ⟨es, clock, hb, hF, hs, rfl⟩, ?_, fun t => ?_, ?_⟩
  · show ((List.foldr DataW.insert [] _).map fun p => strOf p.1).Nodup
    refine (hp.map _).nodup_iff.2 ?_
    rw [List.map_map]
    refine List.pairwise_map.2 (hS.2.2.imp_of_mem fun {x y} hx hy hne e => hne ?_)
    obtain ⟨k, -, ek, -, -⟩ := hv x hx
    obtain ⟨l, -, el, -, -⟩ := hv y hy
    simp only [Function.comp, hg x hx k ek, hg y hy l el, strOf] at e
    rw [ek, el, ofB_inj e]
  · show ofB t ∈ ((List.foldr DataW.insert [] _).map fun p => strOf p.1) ↔ _
    rw [(hp.map _).mem_iff, List.map_map, List.mem_map]
    constructor
    · rintro ⟨x, hx, e⟩
      obtain ⟨k, -, ek, hne, -⟩ := hv x hx
      simp only [Function.comp, hg x hx k ek, strOf] at e
      rw [← ofB_inj (a := k) (b := t) e]; exact hne
    · intro hne
      obtain ⟨x, hx, ek⟩ := hc t hne
      exact ⟨x, hx, by simp only [Function.comp, hg x hx t ek, strOf]; rfl⟩
  · show (List.foldr DataW.insert [] _).length ≤ n
    rw [hp.length_eq]; simpa using hs
theorem sorted_srt {ss : List (List UInt8)} (h : ss.Nodup) : Srt ((sorted ss).map toB) := by
  have hp : (sorted ss).Pairwise (fun x y => decide (x ≤ y) = true) := List.pairwise_mergeSort (le := fun x y => decide (x ≤ y)) (fun a b c h1 h2 => by
    simp only [decide_eq_true_eq] at *; exact List.le_trans h1 h2) (fun a b => by simp only [Bool.or_eq_true, decide_eq_true_eq]; exact List.le_total a b) ss
  have hn : (sorted ss).Nodup := (List.mergeSort_perm _ _).nodup_iff.2 h
  unfold Srt
  rw [List.pairwise_map]
  refine (hp.and hn).imp (fun {a b} hab => ?_)
  obtain ⟨h1, h2⟩ := hab
  rw [le_bl] at h1
  have h3 : sl (toB a) (toB b) = Op.bytesLess a b := by unfold sl; rw [ByteArray.toList_eq, ByteArray.toList_eq]; simp [toB]
  rw [h3]
  cases h4 : Op.bytesLess a b with
  | true => rfl
  | false => exact absurd (bl_tri a b h4 h1) h2
set_option maxHeartbeats 2000000 in
theorem keys_any {b base n : Nat} {f : ByteArray → List Int} (w : World) (h : SM w b base n f) (hn : n ≤ 1000000) :
    Calls Tryz.prog 61 #[.map (some b)] w (KeysP f n w) := by
  obtain ⟨D, hD, hnd, hmem, hsz⟩ := h.owns hn
  have HD := Lib.hid hD
  have HN := Lib.hid hnd
  have HM := Lib.hid hmem
  clear h hD hnd hmem
  go_enter Tryz.func61, Tryz.ntmps61
  go_wp2_with fail
  refine (callsIn_wide.1 (Tryz.maps_Keys_111 (some b) w)).mono ?_
  rintro e w1 ⟨rfl, rfl⟩
  go_wp2_with fail
  refine (callsIn_wide.1 (Tryz.slices_Sorted_keys_110_111 b n D Rnil w HD.out (by unfold maxLen; omega) (by omega))).mono ?_
  rintro e w2 ⟨v, ss, rfl, hperm, hown, -, hbel⟩
  have HSS : Hid (ss.length ≤ n) := Lib.hid (by rw [hperm.length_eq]; cases D <;> simp [strKeys, Go.Maps.size] at hsz ⊢ <;> exact hsz)
  have hnds : ss.Nodup := hperm.nodup_iff.2 HN.out
  have hin : ∀ t : ByteArray, t ∈ (sorted ss).map toB ↔ f t ≠ [] := fun t => by
    rw [← HM.out t, ← hperm.mem_iff, List.mem_map]
    constructor
    · rintro ⟨l, hl, rfl⟩
      rw [ofB_toB]; exact (sorted_mem ss l).1 hl
    · intro h
      exact ⟨ofB t, (sorted_mem ss _).2 h, toB_ofB t⟩
  have hrow : w2.ownsRow w.heap.size 9 1 v ((sorted ss).map toB).length (((sorted ss).map toB).map .string) := by
    have h1 := own_base hown (base' := w.heap.size) (by simp)
    rw [List.length_map, sorted_len, List.map_map]
    exact h1
  have hg : w.grownBy w2 none := only_trans (only_alloc (only_refl _ _) _) ⟨hbel.os, hbel.tape, hbel.output, hbel.size, fun k hk _ => hbel.block k hk⟩
  obtain ⟨A, c, rfl, hc, hm, -, -⟩ := Rd.of_own hrow (by decide)
  have HF : Hid (KeysP f n w (.returned (.slice A ((sorted ss).map toB).length c)) w2) := Lib.hid ⟨A, c, _, rfl, hc, hm, by rw [List.length_map, sorted_len]; exact HSS.out, sorted_srt hnds, hin, hrow, hg⟩
  clear hperm hown hbel hnds hin hrow hg HSS HD HN HM
  go_wp2_with fail
  go_ret
  have h9 := HF.out
  rw [List.length_map] at h9
  exact h9
end Go.Proofs.YtpaiideboodaeaaGreatDoor
