/- A map keyed by pairs of integers whose elements are rows of integers of the call's own: 'm[k] = append(m[k], v)'. No condition. -/
import Derived.Test.YtphglalphejppaaMOf
import Derived.WideKeyPair
import Derived.WideKeyEntry
import Derived.Maps.RangeWalk
namespace Go.Proofs.Ytphglalphejppaa
open Go.RowKit
open Go.ChangeMaps (setBlock heap_setBlock_same heap_setBlock_other)
set_option linter.unusedVariables false
set_option linter.unusedSimpArgs false

abbrev Kp := Int × Int
def kv (k : Kp) : Value := .agg #[.int .i64 k.1, .int .i64 k.2]
def KOk (k : Kp) : Prop := 0 ≤ k.1 ∧ k.1 ≤ 1000 ∧ 0 ≤ k.2 ∧ k.2 ≤ 1000
theorem kv_inj {k l : Kp} (h : kv k = kv l) : k = l := by
  unfold kv at h
  injection h with h
  simp at h
  exact Prod.ext h.1 h.2
theorem pairArr : Go.WideMaps.ArrKey Try.prog 85 3 2 := ⟨Try.underlying85, by kernel_rfl, by kernel_rfl, by kernel_rfl⟩
theorem pairLaw : Go.WideMaps.KeyLaw Try.prog 85 := pairArr.law
theorem typesPos : ∃ m, Try.prog.types.size = m + 1 := ⟨Try.prog.types.size - 1, by
  have h : (0 < Try.prog.types.size) := of_decide_eq_true (by kernel_rfl)
  omega⟩
theorem kv_key {k : Kp} (h : KOk k) : ∃ l, keyOf Try.prog 85 (kv k) = some l :=
  ⟨_, Go.WideMaps.keyOf_pair pairArr Try.underlying3 typesPos (WalkArith.wf_i64 (by unfold KOk at h; omega)) (WalkArith.wf_i64 (by unfold KOk at h; omega))⟩
theorem rowsZero (w : World) : (zeroValue 45).run Try.prog w = .ok (.slice none 0 0) w := by kernel_rfl

/-- what a map's block holds: stamps below the clock, no stamp and no key twice -/
def MSt (es : Array MapEntry) (clock : Nat) : Prop := (∀ x ∈ es.toList, x.born < clock) ∧ (es.toList.map (·.born)).Nodup ∧ es.toList.Pairwise (fun x y => x.key ≠ y.key)

/-- 'm[k] = ..' by an entry and a store: either a new entry, or the one that is there -/
theorem entry_store {P : Program} {t k e : TypeId} (K : Go.WideMaps.KeyLaw P k) (ht : P.underlying t = some (.map k e)) {z : Value} (hz : ∀ u : World, (zeroValue e).run P u = .ok z u) {w : World} {b : Nat} {es : Array MapEntry} {clock : Nat} (hb : w.heap[b]? = some (.map es clock)) (hS : MSt es clock) (hk : ∀ x ∈ es.toList, ∃ l, keyOf P k x.key = some l)
    {key : Value} {kl : Lit} (hkey : keyOf P k key = some kl) :
    ((∀ x ∈ es.toList, x.key ≠ key) ∧ (Instr.mapEntry t (.map (some b)) key).run P w = .ok (.tuple #[z, goInt clock]) (setBlock w b (.map (es.push ⟨key, z, clock⟩) (clock + 1))) ∧
      ∀ (w2 : World) (val : Value), w2.heap[b]? = some (.map (es.push ⟨key, z, clock⟩) (clock + 1)) → (Instr.entryStore t (.map (some b)) (goInt clock) val).run P w2 = .ok () (setBlock w2 b (.map (es.push ⟨key, val, clock⟩) (clock + 1)))) ∨
    (∃ j e0, es.toList[j]? = some e0 ∧ e0.key = key ∧ (Instr.mapEntry t (.map (some b)) key).run P w = .ok (.tuple #[e0.val, goInt e0.born]) (setBlock w b (.map es clock)) ∧
      ∀ (w2 : World) (val : Value), w2.heap[b]? = some (.map es clock) → ∃ es', es'.toList = es.toList.set j ⟨key, val, e0.born⟩ ∧ (Instr.entryStore t (.map (some b)) (goInt e0.born) val).run P w2 = .ok () (setBlock w2 b (.map es' clock))) := by
  obtain ⟨s1, s2, _⟩ := hS
  rcases K.find w hkey es.toList hk with ⟨h1, h2⟩ | ⟨j, e0, h1, h2, h3⟩
  · refine .inl ⟨h2, ?_, fun w2 val hw2 => ?_⟩
    · simp [Instr.mapEntry, run_underlying ht, MapKept.run_getObj_map hb, K.check w false hkey, h1, hz, MapKept.run_setObj_map _ hb, Result.andThen, setBlock]
    · have hidx : (es.push ⟨key, z, clock⟩).findIdx? (fun e => ((e.born : Nat) : Int) == ((clock : Nat) : Int)) = some es.size := by
        rw [Go.WideElems.findIdx_arr]
        have := Go.WideElems.findIdx_born (l := (es.push ⟨key, z, clock⟩).toList) (j := es.size) (e0 := ⟨key, z, clock⟩) (by
          simp only [Array.toList_push, List.map_append, List.map_cons, List.map_nil]
          refine List.nodup_append.2 ⟨s2, by simp, fun a ha c hc e1 => ?_⟩
          simp only [List.mem_singleton] at hc
          obtain ⟨x, hx, rfl⟩ := List.mem_map.1 ha
          have := s1 x hx
          omega) (by simp)
        exact this
      have hmod : (es.push ⟨key, z, clock⟩).modify es.size (fun e => { e with val := val }) = es.push ⟨key, val, clock⟩ := by
        apply Array.ext'
        rw [Array.toList_modify, Array.toList_push, Array.toList_push, ← Array.length_toList, Go.WideElems.modify_last]
      simp [Instr.entryStore, MapKept.run_getObj_map hw2, asInt, asIntOf, goInt, hidx, hmod, MapKept.run_setObj_map _ hw2, Result.andThen, setBlock]
  · have hj : es[j]? = some e0 := by simpa using h2
    have hsame : es.modify j (fun e => { e with key := key }) = es := by
      apply Array.ext'
      rw [Array.toList_modify, Go.ChangeMaps.modify_eq_set _ _ _ _ h2]
      have : ({ e0 with key := key } : MapEntry) = e0 := by rw [← h3]
      rw [this]
      exact Go.WideElems.set_self _ _ _ h2
    refine .inr ⟨j, e0, h2, h3, ?_, fun w2 val hw2 => ⟨es.modify j (fun e => { e with val := val }), ?_, ?_⟩⟩
    · simp [Instr.mapEntry, run_underlying ht, MapKept.run_getObj_map hb, K.check w false hkey, h1, hj, h3, K.stays w hkey, hsame, MapKept.run_setObj_map _ hb, Result.andThen, setBlock]
    · rw [Array.toList_modify, Go.ChangeMaps.modify_eq_set _ _ _ _ h2, ← h3]
    · have hidx : es.findIdx? (fun e => ((e.born : Nat) : Int) == ((e0.born : Nat) : Int)) = some j := by
        rw [Go.WideElems.findIdx_arr]
        exact Go.WideElems.findIdx_born s2 h2
      simp [Instr.entryStore, MapKept.run_getObj_map hw2, asInt, asIntOf, goInt, hidx, MapKept.run_setObj_map _ hw2, Result.andThen, setBlock]

/-- block b is a map of at most n entries; at each key a row (from 'base' on) of the integers f k; where f k has elements there is an entry; no two keys' rows lie in one block -/
def GM (w : World) (b base n : Nat) (f : Kp → List Int) : Prop :=
  ∃ es clock, w.heap[b]? = some (.map es clock) ∧ MSt es clock ∧ es.size ≤ n ∧ b < base ∧
    (∀ x ∈ es.toList, ∃ k, KOk k ∧ x.key = kv k ∧ w.ownsRow base 3 1 x.val (f k).length ((f k).map (.int .i64))) ∧
    (∀ k, f k ≠ [] → ∃ x ∈ es.toList, x.key = kv k) ∧
    (∀ x ∈ es.toList, ∀ y ∈ es.toList, x.key ≠ y.key → x.val.ownBlock = none ∨ x.val.ownBlock ≠ y.val.ownBlock)
theorem GM.lt {w : World} {b base n : Nat} {f : Kp → List Int} (h : GM w b base n f) : b < w.heap.size := by
  obtain ⟨es, clock, hb, _⟩ := h
  exact (Array.getElem?_eq_some_iff.1 hb).1
theorem GM.made (w : World) {base : Nat} (h : w.heap.size < base) : GM (w.alloc (.map #[] 0)) w.heap.size base 0 (fun _ => []) :=
  ⟨#[], 0, (MapKept.heap_alloc w _).1, ⟨by simp, by simp, by simp⟩, Nat.le_refl _, h, by simp, by simp, by simp⟩
/-- other blocks below 'base' turn, and new ones are made -/
theorem GM.grown {w w' : World} {b base n g : Nat} {f : Kp → List Int} (h : GM w b base n f) (hg : w.grownBy w' (some g)) (hne : g ≠ b) (hgb : g < base) : GM w' b base n f := by
  have hlt := h.lt
  obtain ⟨es, clock, hb, hS, hs, hbb, hv, hc, ha⟩ := h
  refine ⟨es, clock, (hg.block b hlt (by intro e; injection e with e; exact hne e.symm)).trans hb, hS, hs, hbb, fun x hx => ?_, hc, ha⟩
  obtain ⟨k, hk, e, ho⟩ := hv x hx
  refine ⟨k, hk, e, ho.kept hg ?_⟩
  cases hu : x.val.ownBlock with
  | none => exact .inl rfl
  | some j =>
    have := (ho.lt j hu).1
    exact .inr (by intro e; injection e with e; omega)
theorem GM.quiet {w w' : World} {b base n : Nat} {f : Kp → List Int} (h : GM w b base n f) (hg : w.grownBy w' none) : GM w' b base n f := by
  have hlt := h.lt
  obtain ⟨es, clock, hb, hS, hs, hbb, hv, hc, ha⟩ := h
  refine ⟨es, clock, (hg.block b hlt (by simp)).trans hb, hS, hs, hbb, fun x hx => ?_, hc, ha⟩
  obtain ⟨k, hk, e, ho⟩ := hv x hx
  exact ⟨k, hk, e, ho.kept hg (Classical.em _)⟩

/-- f with z more at key c -/
def more (f : Kp → List Int) (c : Kp) (z : Int) : Kp → List Int := fun k => if k = c then f k ++ [z] else f k
/-- the way back: whatever is done to v's own row and to new blocks, the store of a row that owns one number more gives the map with that number more -/
def GBack (w2 : World) (b base n : Nat) (f : Kp → List Int) (c : Kp) (v st : Value) : Prop :=
  ∀ (w3 : World) (v' : Value) (z : Int), w2.grownBy w3 v.ownBlock → w3.ownsRow base 3 1 v' ((f c).length + 1) ((f c).map (.int .i64) ++ [.int .i64 z]) → (v'.ownBlock = v.ownBlock ∨ ∃ g, v'.ownBlock = some g ∧ w2.heap.size ≤ g) →
    ∃ w4, (Instr.entryStore 84 (.map (some b)) st v').run Try.prog w3 = .ok () w4 ∧ GM w4 b base (n + 1) (more f c z) ∧ w3.grownBy w4 (some b)
theorem setBlock_grown {w : World} {b : Nat} {o o' : Obj} (hb : w.heap[b]? = some o) : w.grownBy (setBlock w b o') (some b) :=
  ⟨rfl, rfl, rfl, by simp [setBlock], fun i _ hi => by
    have hne : i ≠ b := fun e => hi (by rw [e])
    simp [setBlock, Array.getElem?_setIfInBounds, Ne.symm hne]⟩
theorem setBlock_at {w : World} {b : Nat} {o o' : Obj} (hb : w.heap[b]? = some o) : (setBlock w b o').heap[b]? = some o' := by
  have := (Array.getElem?_eq_some_iff.1 hb).1
  simp [setBlock, Array.getElem?_setIfInBounds, this]
theorem GM.entry {w : World} {b base n : Nat} {f : Kp → List Int} (h : GM w b base n f) {c : Kp} (hc : KOk c) (hbs : base ≤ w.heap.size) :
    ∃ (v : Value) (st : Nat) (w2 : World), (Instr.mapEntry 84 (.map (some b)) (kv c)).run Try.prog w = .ok (.tuple #[v, goInt st]) w2 ∧ w2.ownsRow base 3 1 v (f c).length ((f c).map (.int .i64)) ∧ w.grownBy w2 (some b) ∧ GBack w2 b base n f c v (goInt st) := by
  obtain ⟨es, clock, hb, hS, hs, hbb, hv, hcm, ha⟩ := h
  obtain ⟨kl, hkl⟩ := kv_key hc
  have hkeys : ∀ x ∈ es.toList, ∃ l, keyOf Try.prog 85 x.key = some l := fun x hx => by
    obtain ⟨k, hk, e, _⟩ := hv x hx
    rw [e]; exact kv_key hk
  have offB : ∀ {u : World} {v : Value} {m : Nat} {xs : List Value}, u.ownsRow base 3 1 v m xs → v.ownBlock = none ∨ v.ownBlock ≠ some b := fun {u v m xs} ho => by
    cases hu : v.ownBlock with
    | none => exact .inl rfl
    | some j =>
      have := (ho.lt j hu).1
      exact .inr (by intro e; injection e with e; omega)
  rcases entry_store pairLaw Try.underlying84 (z := .slice none 0 0) rowsZero hb hS hkeys hkl with ⟨hno, hrun, hst⟩ | ⟨j, e0, hj, he, hrun, hst⟩
  · have hf : f c = [] := by
      rcases hfc : f c with _ | ⟨a, l⟩
      · rfl
      · obtain ⟨x, hx, e⟩ := hcm c (by rw [hfc]; simp)
        exact absurd e (hno x hx)
    have hg2 := setBlock_grown (o' := .map (es.push ⟨kv c, .slice none 0 0, clock⟩) (clock + 1)) hb
    refine ⟨.slice none 0 0, clock, _, hrun, by rw [hf]; exact World.ownsRow_nil _ _ _ _, hg2, fun w3 v' z hg ho hloc => ?_⟩
    have hb2 := setBlock_at (o' := .map (es.push ⟨kv c, .slice none 0 0, clock⟩) (clock + 1)) hb
    have hlt2 := (Array.getElem?_eq_some_iff.1 hb2).1
    have hb3 := (hg.block b hlt2 (by simp [Value.ownBlock])).trans hb2
    have hg4 := setBlock_grown (o' := .map (es.push ⟨kv c, v', clock⟩) (clock + 1)) hb3
    refine ⟨_, hst w3 v' hb3, ⟨_, _, setBlock_at hb3, ?_, ?_, hbb, ?_, ?_, ?_⟩, hg4⟩
    · obtain ⟨s1, s2, s3⟩ := hS
      refine ⟨fun x hx => ?_, ?_, ?_⟩
      · simp at hx
        rcases hx with hx | rfl
        · have := s1 x (by simpa using hx); omega
        · simp
      · simp only [Array.toList_push, List.map_append, List.map_cons, List.map_nil]
        refine List.nodup_append.2 ⟨s2, by simp, fun a ha' d hd e1 => ?_⟩
        simp only [List.mem_singleton] at hd
        obtain ⟨x, hx, rfl⟩ := List.mem_map.1 ha'
        have := s1 x hx
        omega
      · simp only [Array.toList_push]
        exact List.pairwise_append.2 ⟨s3, List.pairwise_singleton _ _, fun x hx y hy => by rw [List.mem_singleton.1 hy]; exact hno x hx⟩
    · simp; omega
    · intro x hx
      simp only [Array.toList_push, List.mem_append, List.mem_singleton] at hx
      rcases hx with hx | rfl
      · obtain ⟨k, hk, e, hor⟩ := hv x hx
        have hkc : k ≠ c := fun e1 => hno x hx (by rw [e, e1])
        refine ⟨k, hk, e, ?_⟩
        unfold more
        rw [if_neg hkc]
        exact ((hor.kept hg2 (offB hor)).kept hg (Classical.em _)).kept hg4 (offB hor)
      · refine ⟨c, hc, rfl, ?_⟩
        unfold more
        rw [if_pos rfl]
        have := ho.kept hg4 (offB ho)
        simpa using this
    · intro k hk
      by_cases hkc : k = c
      · exact ⟨⟨kv c, v', clock⟩, by simp, by rw [hkc]⟩
      · unfold more at hk
        rw [if_neg hkc] at hk
        obtain ⟨x, hx, e⟩ := hcm k hk
        exact ⟨x, by simp only [Array.toList_push, List.mem_append]; exact .inl hx, e⟩
    · have old : ∀ x ∈ es.toList, x.val.ownBlock = none ∨ x.val.ownBlock ≠ v'.ownBlock := fun x hx => by
        rcases hloc with h1 | ⟨g, h1, h2⟩
        · rw [h1]
          cases x.val.ownBlock <;> simp [Value.ownBlock]
        · cases hu : x.val.ownBlock with
          | none => exact .inl rfl
          | some j =>
            obtain ⟨k, _, _, hor⟩ := hv x hx
            have := (hor.lt j hu).2
            have := hg2.size
            exact .inr (by rw [h1]; intro e; injection e with e; omega)
      intro x hx y hy hne
      simp only [Array.toList_push, List.mem_append, List.mem_singleton] at hx hy
      rcases hx with hx | rfl <;> rcases hy with hy | rfl
      · exact ha x hx y hy hne
      · exact old x hx
      · rcases old y hy with h1 | h1
        · cases hv' : v'.ownBlock with
          | none => exact .inl rfl
          | some g => exact .inr (by show _ ≠ y.val.ownBlock; rw [h1]; simp)
        · exact .inr (fun e => h1 e.symm)
      · exact absurd rfl hne
  · have he0 : e0 ∈ es.toList := List.mem_of_getElem? hj
    obtain ⟨k0, hk0, ek0, ho0⟩ := hv e0 he0
    have hk0c : k0 = c := kv_inj (by rw [← ek0, he])
    subst hk0c
    have hg2 := setBlock_grown (o' := .map es clock) hb
    refine ⟨e0.val, e0.born, _, hrun, ho0.kept hg2 (offB ho0), hg2, fun w3 v' z hg ho hloc => ?_⟩
    have hb2 := setBlock_at (o' := .map es clock) hb
    have hlt2 := (Array.getElem?_eq_some_iff.1 hb2).1
    have hb3 := (hg.block b hlt2 (by rcases offB ho0 with h1 | h1; (rw [h1]; simp); exact fun e => h1 e.symm)).trans hb2
    obtain ⟨es', hes, hrun'⟩ := hst w3 v' hb3
    have hg4 := setBlock_grown (o' := .map es' clock) hb3
    have hmem : ∀ x, x ∈ es'.toList → (x ∈ es.toList ∧ x.key ≠ kv k0) ∨ x = ⟨kv k0, v', e0.born⟩ := fun x hx => by
      rw [hes] at hx
      obtain ⟨i, hi⟩ := List.getElem?_of_mem hx
      rw [List.getElem?_set] at hi
      split at hi
      · rename_i hij
        split at hi
        · injection hi with hi; exact .inr hi.symm
        · cases hi
      · rename_i hij
        refine .inl ⟨List.mem_of_getElem? hi, fun e1 => hij ?_⟩
        obtain ⟨_, _, s3⟩ := hS
        rcases Nat.lt_trichotomy i j with h1 | h1 | h1
        · have := List.pairwise_iff_getElem.1 s3 i j (List.getElem?_eq_some_iff.1 hi).1 (List.getElem?_eq_some_iff.1 hj).1 h1
          rw [(List.getElem?_eq_some_iff.1 hi).2, (List.getElem?_eq_some_iff.1 hj).2, e1, he] at this
          exact absurd rfl this
        · exact h1.symm
        · have := List.pairwise_iff_getElem.1 s3 j i (List.getElem?_eq_some_iff.1 hj).1 (List.getElem?_eq_some_iff.1 hi).1 h1
          rw [(List.getElem?_eq_some_iff.1 hi).2, (List.getElem?_eq_some_iff.1 hj).2, e1, he] at this
          exact absurd rfl this
    have hkeyS : es'.toList.map (·.key) = es.toList.map (·.key) := by
      rw [hes, List.map_set]
      exact Go.WideElems.set_self _ _ _ (by rw [List.getElem?_map, hj]; simp [he])
    have hbornS : es'.toList.map (·.born) = es.toList.map (·.born) := by
      rw [hes, List.map_set]
      exact Go.WideElems.set_self _ _ _ (by rw [List.getElem?_map, hj]; rfl)
    refine ⟨_, hrun', ⟨es', clock, setBlock_at hb3, ?_, ?_, hbb, ?_, ?_, ?_⟩, hg4⟩
    · obtain ⟨s1, s2, s3⟩ := hS
      refine ⟨fun x hx => ?_, by rw [hbornS]; exact s2, ?_⟩
      · have : x.born ∈ es.toList.map (·.born) := by rw [← hbornS]; exact List.mem_map.2 ⟨x, hx, rfl⟩
        obtain ⟨y, hy, e⟩ := List.mem_map.1 this
        rw [← e]; exact s1 y hy
      · have e1 : (es'.toList.map (·.key)).Pairwise (· ≠ ·) := by rw [hkeyS]; exact List.pairwise_map.2 s3
        exact List.pairwise_map.1 e1
    · have : es'.toList.length = es.toList.length := by rw [hes, List.length_set]
      simp at this; omega
    · intro x hx
      rcases hmem x hx with ⟨hx0, hne⟩ | rfl
      · obtain ⟨k, hk, e, hor⟩ := hv x hx0
        have hkc : k ≠ k0 := fun e1 => hne (by rw [e, e1])
        refine ⟨k, hk, e, ?_⟩
        unfold more
        rw [if_neg hkc]
        exact ((hor.kept hg2 (offB hor)).kept hg (ha x hx0 e0 he0 (by rw [he]; exact hne))).kept hg4 (offB hor)
      · refine ⟨k0, hc, rfl, ?_⟩
        unfold more
        rw [if_pos rfl]
        have := ho.kept hg4 (offB ho)
        simpa using this
    · intro k hk
      by_cases hkc : k = k0
      · have : e0.key ∈ es'.toList.map (·.key) := by rw [hkeyS]; exact List.mem_map.2 ⟨e0, he0, rfl⟩
        obtain ⟨y, hy, e⟩ := List.mem_map.1 this
        exact ⟨y, hy, by rw [e, he, hkc]⟩
      · unfold more at hk
        rw [if_neg hkc] at hk
        obtain ⟨x, hx, e⟩ := hcm k hk
        have : x.key ∈ es'.toList.map (·.key) := by rw [hkeyS]; exact List.mem_map.2 ⟨x, hx, rfl⟩
        obtain ⟨y, hy, e'⟩ := List.mem_map.1 this
        exact ⟨y, hy, by rw [e', e]⟩
    · have old : ∀ x ∈ es.toList, x.key ≠ kv k0 → x.val.ownBlock = none ∨ x.val.ownBlock ≠ v'.ownBlock := fun x hx hne => by
        rcases hloc with h1 | ⟨g, h1, h2⟩
        · rw [h1]
          exact ha x hx e0 he0 (by rw [he]; exact hne)
        · cases hu : x.val.ownBlock with
          | none => exact .inl rfl
          | some j' =>
            obtain ⟨k, _, _, hor⟩ := hv x hx
            have := (hor.lt j' hu).2
            have := hg2.size
            exact .inr (by rw [h1]; intro e; injection e with e; omega)
      intro x hx y hy hne
      rcases hmem x hx with ⟨hx0, hxn⟩ | rfl <;> rcases hmem y hy with ⟨hy0, hyn⟩ | rfl
      · exact ha x hx0 y hy0 hne
      · exact old x hx0 hxn
      · rcases old y hy0 hyn with h1 | h1
        · cases hv' : v'.ownBlock with
          | none => exact .inl rfl
          | some g => exact .inr (by show _ ≠ y.val.ownBlock; rw [h1]; simp)
        · exact .inr (fun e => h1 e.symm)
      · exact absurd rfl hne
/-- a look-up at a key that may be there -/
theorem GM.look {w : World} {b base n : Nat} {f : Kp → List Int} (h : GM w b base n f) {c : Kp} (hc : KOk c) :
    ∃ v, (Instr.lookup 84 (.map (some b)) (kv c) false).run Try.prog w = .ok v w ∧ w.ownsRow base 3 1 v (f c).length ((f c).map (.int .i64)) := by
  obtain ⟨es, clock, hb, hS, hs, hbb, hv, hcm, ha⟩ := h
  obtain ⟨kl, hkl⟩ := kv_key hc
  have hkeys : ∀ x ∈ es.toList, ∃ l, keyOf Try.prog 85 x.key = some l := fun x hx => by
    obtain ⟨k, hk, e, _⟩ := hv x hx
    rw [e]; exact kv_key hk
  rcases pairLaw.find w hkl es.toList hkeys with ⟨h1, h2⟩ | ⟨j, e0, h1, h2, h3⟩
  · have hf : f c = [] := by
      rcases hfc : f c with _ | ⟨a, l⟩
      · rfl
      · obtain ⟨x, hx, e⟩ := hcm c (by rw [hfc]; simp)
        exact absurd e (h2 x hx)
    refine ⟨.slice none 0 0, ?_, by rw [hf]; exact World.ownsRow_nil _ _ _ _⟩
    simp [Instr.lookup, run_underlying Try.underlying84, MapKept.run_getObj_map hb, pairLaw.check w _ hkl, h1, rowsZero, Result.andThen]
  · obtain ⟨k, _, e, ho⟩ := hv e0 (List.mem_of_getElem? h2)
    have : k = c := kv_inj (by rw [← e, h3])
    subst this
    refine ⟨e0.val, ?_, ho⟩
    simp [Instr.lookup, run_underlying Try.underlying84, MapKept.run_getObj_map hb, pairLaw.check w _ hkl, h1, Result.andThen]
end Go.Proofs.Ytphglalphejppaa
