/- extract.special: a map of six functions; looking a name up in it. No condition. -/
import Derived.Test.YtfkgcighooijhaaGreatDoorBase
import Derived.Maps.Keyed
import Derived.StringKeys
import Derived.MapKept
import Derived.Test.YtfkgcighooijhaaGreatDoorEvIn
import Derived.Test.YtfkgcighooijhaaGreatDoorShelf36
import Derived.Test.YtfkgcighooijhaaGreatDoorStr
import Derived.Deep.RegionLaw
namespace Go.Proofs.YtfkgcighooijhaaGreatDoor
open Go.RowKit
open Go.ChangeMaps (setBlock heap_setBlock_same heap_setBlock_other)
set_option linter.unusedVariables false
set_option linter.unusedSimpArgs false

theorem strKey : Go.Maps.Keyed Tryz.prog 9 := Go.Maps.string_keyed Tryz.underlying9
theorem keyStr {s : ByteArray} (h : s.size ≤ maxLen) : keyOf Tryz.prog 9 (.string s) = some (.string s.data.toList) := Go.WideMaps.keyOf_string_mk Tryz.underlying9 h
def SKeys (es : List MapEntry) : Prop := ∀ e ∈ es, ∃ s : ByteArray, s.size ≤ maxLen ∧ e.key = .string s
theorem SKeys.keyed {es : List MapEntry} (h : SKeys es) : ∀ e ∈ es, ∃ l, keyOf Tryz.prog 9 e.key = some l := fun e he => by
  obtain ⟨s, hs, e1⟩ := h e he
  exact ⟨_, by rw [e1]; exact keyStr hs⟩
theorem run_put {w : World} {b : Nat} {es : Array MapEntry} {clock : Nat} {s : ByteArray} (val : Value) (hb : w.heap[b]? = some (.map es clock)) (hk : SKeys es.toList) (hs : s.size ≤ maxLen) (hn : ∀ e ∈ es.toList, e.key ≠ .string s) :
    (Instr.mapUpdate 108 (.map (some b)) (.string s) val).run Tryz.prog w = .ok () (setBlock w b (.map (es.push ⟨.string s, val, clock⟩) (clock + 1))) := by
  rcases strKey.find w (keyStr hs) es.toList hk.keyed with ⟨h1, h2⟩ | ⟨j, e0, h1, h2, h3⟩
  · simp [Instr.mapUpdate, run_underlying Tryz.underlying108, MapKept.run_getObj_map hb, strKey.check w false (keyStr hs), h1, MapKept.run_setObj_map _ hb, Result.andThen, setBlock]
  · exact absurd h3 (hn e0 (List.mem_of_getElem? h2))
theorem funcZero (w : World) : (zeroValue 106).run Tryz.prog w = .ok .nilFunc w := by kernel_rfl
theorem run_look_yes {w : World} {b : Nat} {es : Array MapEntry} {clock : Nat} {s : ByteArray} {v : Value} (hb : w.heap[b]? = some (.map es clock)) (hk : SKeys es.toList) (hs : s.size ≤ maxLen) (he : es.isEmpty = false) (hv : ∀ e ∈ es.toList, e.key = .string s → e.val = v) (hm : ∃ e ∈ es.toList, e.key = .string s) :
    (Instr.lookup 108 (.map (some b)) (.string s) true).run Tryz.prog w = .ok (.tuple #[v, .bool true]) w := by
  rcases strKey.find w (keyStr hs) es.toList hk.keyed with ⟨h1, h2⟩ | ⟨j, e0, h1, h2, h3⟩
  · obtain ⟨e, h3, h4⟩ := hm
    exact absurd h4 (h2 e h3)
  · have hv0 := hv e0 (List.mem_of_getElem? h2) h3
    simp [Instr.lookup, run_underlying Tryz.underlying108, MapKept.run_getObj_map hb, he, strKey.check w false (keyStr hs), h1, hv0, Result.andThen]
theorem run_look_no {w : World} {b : Nat} {es : Array MapEntry} {clock : Nat} {s : ByteArray} (hb : w.heap[b]? = some (.map es clock)) (hk : SKeys es.toList) (hs : s.size ≤ maxLen) (he : es.isEmpty = false) (hm : ∀ e ∈ es.toList, e.key ≠ .string s) :
    (Instr.lookup 108 (.map (some b)) (.string s) true).run Tryz.prog w = .ok (.tuple #[.nilFunc, .bool false]) w := by
  rcases strKey.find w (keyStr hs) es.toList hk.keyed with ⟨h1, h2⟩ | ⟨j, e0, h1, h2, h3⟩
  · simp [Instr.lookup, run_underlying Tryz.underlying108, MapKept.run_getObj_map hb, he, strKey.check w false (keyStr hs), h1, funcZero, Result.andThen]
  · exact absurd h3 (hm e0 (List.mem_of_getElem? h2))

def nHost : ByteArray := ⟨#[64, 104, 111, 115, 116]⟩
def nFile : ByteArray := ⟨#[64, 102, 105, 108, 101]⟩
def nTime : ByteArray := ⟨#[64, 116, 105, 109, 101]⟩
def nWeight : ByteArray := ⟨#[64, 119, 101, 105, 103, 104, 116]⟩
def nTrace : ByteArray := ⟨#[64, 116, 114, 97, 99, 101]⟩
def nStream : ByteArray := ⟨#[64, 115, 116, 114, 101, 97, 109]⟩
def fnV (f : FuncId) : Value := .func (.func f) #[] #[]
/-- the entries behind k inserts -/
def ents : Array MapEntry := #[⟨.string nHost, fnV 77, 0⟩, ⟨.string nFile, fnV 79, 1⟩, ⟨.string nTime, fnV 80, 2⟩, ⟨.string nWeight, fnV 81, 3⟩, ⟨.string nTrace, fnV 82, 4⟩, ⟨.string nStream, fnV 83, 5⟩]
def SpecAt (w : World) (b : Nat) : Prop := w.heap[b]? = some (.map ents 6)
theorem only_block {a w : World} {b : Nat} {es : Array MapEntry} {clock : Nat} (h : a.grownBy w none) (hm : w.heap[b]? = some (.map es clock)) (hb : a.heap.size ≤ b) (o : Obj) : a.grownBy (setBlock w b o) none :=
  ⟨h.os, h.tape, h.output, by simpa [setBlock] using h.size, fun i hi hne => (heap_setBlock_other hm o (by omega)).trans (h.block i hi hne)⟩
theorem skeys_push {es : Array MapEntry} (h : SKeys es.toList) {s : ByteArray} (hs : s.size ≤ maxLen) (v : Value) (c : Nat) : SKeys (es.push ⟨.string s, v, c⟩).toList := by
  intro e he
  rw [Array.toList_push] at he
  rcases List.mem_append.1 he with h1 | h1
  · exact h e h1
  · rw [List.mem_singleton.1 h1]; exact ⟨s, hs, rfl⟩
set_option maxHeartbeats 2000000 in
set_option maxRecDepth 100000 in
theorem special_any (w : World) : Calls Tryz.prog 57 #[] w (fun e w' => e = .returned (.map (some w.heap.size)) ∧ SpecAt w' w.heap.size ∧ w.grownBy w' none) := by
  obtain ⟨b, hb⟩ : ∃ b, b = w.heap.size := ⟨_, rfl⟩
  obtain ⟨W0, hW0⟩ : ∃ W, W = w.alloc (.map #[] 0) := ⟨_, rfl⟩
  have b0 : W0.heap[b]? = some (.map #[] 0) := by rw [hW0, hb]; exact heap_alloc_new w _
  have g0 : w.grownBy W0 none := by rw [hW0]; exact only_alloc (only_refl _ _) _
  have hlt0 : b < W0.heap.size := (Array.getElem?_eq_some_iff.1 b0).1
  have k0 : SKeys (#[] : Array MapEntry).toList := by intro e he; simp at he
  have p1 := run_put (s := nHost) (fnV 77) b0 k0 (by decide) (by intro e he h; simp at he; try (rcases he with he); all_goals (first | (injection h with h; revert h; decide)))
  have b1 := heap_setBlock_same b0 (.map ((#[]).push ⟨.string nHost, fnV 77, 0⟩) 1)
  have k1 := skeys_push k0 (s := nHost) (by decide) (fnV 77) 0
  have g1 := only_block g0 b0 (Nat.le_of_eq hb.symm) (.map ((#[]).push ⟨.string nHost, fnV 77, 0⟩) 1)
  obtain ⟨W1, hW1⟩ : ∃ W, W = setBlock W0 b (.map ((#[]).push ⟨.string nHost, fnV 77, 0⟩) 1) := ⟨_, rfl⟩
  rw [← hW1] at p1 b1 g1
  have p2 := run_put (s := nFile) (fnV 79) b1 k1 (by decide) (by intro e he h; simp at he; try (rcases he with rfl); all_goals (first | (injection h with h; revert h; decide)))
  have b2 := heap_setBlock_same b1 (.map (((#[]).push ⟨.string nHost, fnV 77, 0⟩).push ⟨.string nFile, fnV 79, 1⟩) 2)
  have k2 := skeys_push k1 (s := nFile) (by decide) (fnV 79) 1
  have g2 := only_block g1 b1 (Nat.le_of_eq hb.symm) (.map (((#[]).push ⟨.string nHost, fnV 77, 0⟩).push ⟨.string nFile, fnV 79, 1⟩) 2)
  obtain ⟨W2, hW2⟩ : ∃ W, W = setBlock W1 b (.map (((#[]).push ⟨.string nHost, fnV 77, 0⟩).push ⟨.string nFile, fnV 79, 1⟩) 2) := ⟨_, rfl⟩
  rw [← hW2] at p2 b2 g2
  have p3 := run_put (s := nTime) (fnV 80) b2 k2 (by decide) (by intro e he h; simp at he; try (rcases he with rfl | rfl); all_goals (first | (injection h with h; revert h; decide)))
  have b3 := heap_setBlock_same b2 (.map ((((#[]).push ⟨.string nHost, fnV 77, 0⟩).push ⟨.string nFile, fnV 79, 1⟩).push ⟨.string nTime, fnV 80, 2⟩) 3)
  have k3 := skeys_push k2 (s := nTime) (by decide) (fnV 80) 2
  have g3 := only_block g2 b2 (Nat.le_of_eq hb.symm) (.map ((((#[]).push ⟨.string nHost, fnV 77, 0⟩).push ⟨.string nFile, fnV 79, 1⟩).push ⟨.string nTime, fnV 80, 2⟩) 3)
  obtain ⟨W3, hW3⟩ : ∃ W, W = setBlock W2 b (.map ((((#[]).push ⟨.string nHost, fnV 77, 0⟩).push ⟨.string nFile, fnV 79, 1⟩).push ⟨.string nTime, fnV 80, 2⟩) 3) := ⟨_, rfl⟩
  rw [← hW3] at p3 b3 g3
  have p4 := run_put (s := nWeight) (fnV 81) b3 k3 (by decide) (by intro e he h; simp at he; try (rcases he with rfl | rfl | rfl); all_goals (first | (injection h with h; revert h; decide)))
  have b4 := heap_setBlock_same b3 (.map (((((#[]).push ⟨.string nHost, fnV 77, 0⟩).push ⟨.string nFile, fnV 79, 1⟩).push ⟨.string nTime, fnV 80, 2⟩).push ⟨.string nWeight, fnV 81, 3⟩) 4)
  have k4 := skeys_push k3 (s := nWeight) (by decide) (fnV 81) 3
  have g4 := only_block g3 b3 (Nat.le_of_eq hb.symm) (.map (((((#[]).push ⟨.string nHost, fnV 77, 0⟩).push ⟨.string nFile, fnV 79, 1⟩).push ⟨.string nTime, fnV 80, 2⟩).push ⟨.string nWeight, fnV 81, 3⟩) 4)
  obtain ⟨W4, hW4⟩ : ∃ W, W = setBlock W3 b (.map (((((#[]).push ⟨.string nHost, fnV 77, 0⟩).push ⟨.string nFile, fnV 79, 1⟩).push ⟨.string nTime, fnV 80, 2⟩).push ⟨.string nWeight, fnV 81, 3⟩) 4) := ⟨_, rfl⟩
  rw [← hW4] at p4 b4 g4
  have p5 := run_put (s := nTrace) (fnV 82) b4 k4 (by decide) (by intro e he h; simp at he; try (rcases he with rfl | rfl | rfl | rfl); all_goals (first | (injection h with h; revert h; decide)))
  have b5 := heap_setBlock_same b4 (.map ((((((#[]).push ⟨.string nHost, fnV 77, 0⟩).push ⟨.string nFile, fnV 79, 1⟩).push ⟨.string nTime, fnV 80, 2⟩).push ⟨.string nWeight, fnV 81, 3⟩).push ⟨.string nTrace, fnV 82, 4⟩) 5)
  have k5 := skeys_push k4 (s := nTrace) (by decide) (fnV 82) 4
  have g5 := only_block g4 b4 (Nat.le_of_eq hb.symm) (.map ((((((#[]).push ⟨.string nHost, fnV 77, 0⟩).push ⟨.string nFile, fnV 79, 1⟩).push ⟨.string nTime, fnV 80, 2⟩).push ⟨.string nWeight, fnV 81, 3⟩).push ⟨.string nTrace, fnV 82, 4⟩) 5)
  obtain ⟨W5, hW5⟩ : ∃ W, W = setBlock W4 b (.map ((((((#[]).push ⟨.string nHost, fnV 77, 0⟩).push ⟨.string nFile, fnV 79, 1⟩).push ⟨.string nTime, fnV 80, 2⟩).push ⟨.string nWeight, fnV 81, 3⟩).push ⟨.string nTrace, fnV 82, 4⟩) 5) := ⟨_, rfl⟩
  rw [← hW5] at p5 b5 g5
  have p6 := run_put (s := nStream) (fnV 83) b5 k5 (by decide) (by intro e he h; simp at he; try (rcases he with rfl | rfl | rfl | rfl | rfl); all_goals (first | (injection h with h; revert h; decide)))
  have b6 := heap_setBlock_same b5 (.map (((((((#[]).push ⟨.string nHost, fnV 77, 0⟩).push ⟨.string nFile, fnV 79, 1⟩).push ⟨.string nTime, fnV 80, 2⟩).push ⟨.string nWeight, fnV 81, 3⟩).push ⟨.string nTrace, fnV 82, 4⟩).push ⟨.string nStream, fnV 83, 5⟩) 6)
  have k6 := skeys_push k5 (s := nStream) (by decide) (fnV 83) 5
  have g6 := only_block g5 b5 (Nat.le_of_eq hb.symm) (.map (((((((#[]).push ⟨.string nHost, fnV 77, 0⟩).push ⟨.string nFile, fnV 79, 1⟩).push ⟨.string nTime, fnV 80, 2⟩).push ⟨.string nWeight, fnV 81, 3⟩).push ⟨.string nTrace, fnV 82, 4⟩).push ⟨.string nStream, fnV 83, 5⟩) 6)
  obtain ⟨W6, hW6⟩ : ∃ W, W = setBlock W5 b (.map (((((((#[]).push ⟨.string nHost, fnV 77, 0⟩).push ⟨.string nFile, fnV 79, 1⟩).push ⟨.string nTime, fnV 80, 2⟩).push ⟨.string nWeight, fnV 81, 3⟩).push ⟨.string nTrace, fnV 82, 4⟩).push ⟨.string nStream, fnV 83, 5⟩) 6) := ⟨_, rfl⟩
  rw [← hW6] at p6 b6 g6
  have GG := Lib.hid g6
  have BB : Hid (SpecAt W6 b) := b6
  have hm := @run_makeMap Tryz.prog
  clear hW1 hW2 hW3 hW4 hW5 hW6 k0 k1 k2 k3 k4 k5 k6 g0 g1 g2 g3 g4 g5 g6 b0 b1 b2 b3 b4 b5 b6 hlt0
  rw [hW0] at p1
  clear hW0
  subst hb
  simp only [fnV, nHost, nFile, nTime, nWeight, nTrace, nStream] at p1 p2 p3 p4 p5 p6
  go_enter Tryz.func57, Tryz.ntmps57
  go_wp2_with fail
  go_ret
  exact ⟨rfl, BB.out, GG.out⟩
end Go.Proofs.YtfkgcighooijhaaGreatDoor
namespace Go.Proofs.YtfkgcighooijhaaGreatDoor
open Go.RowKit
set_option linter.unusedVariables false
set_option linter.unusedSimpArgs false

theorem enterV {f : FuncId} {fn : Func} (hf : Tryz.prog.funcs[f]? = some fn) (hname : (fn.name == "runtime.NumGoroutine") = false) (hb : fn.body.isNone = false) (args : Array Value) (w : World) : (callFunc f args).run Tryz.prog w = .ok (.enter f args) w := by
  have h1 : fn.name ≠ "runtime.NumGoroutine" := by simpa using hname
  cases hc : fn.body with
  | none => rw [hc] at hb; cases hb
  | some c => simp [callFunc, hf, h1, hc]
def Pow10 (w : World) : Prop := Lib.TabIs Tryz.prog w "internal/strconv.uint64pow10" .u64 Lib.pow10Tab
theorem var_grown {P : Program} {w w' : World} {n : String} {cs : Array Value} (hg : w.grownBy w' none) (h : w.var? P n = some cs) : w'.var? P n = some cs := by
  unfold World.var? at h ⊢
  revert h
  cases P.globalNamed n with
  | none => intro h; cases h
  | some g =>
    intro h
    simp only [Option.bind_some] at h ⊢
    have hlt : g < w.heap.size := by
      rcases Nat.lt_or_ge g w.heap.size with h1 | h1
      · exact h1
      · rw [Array.getElem?_eq_none h1] at h; cases h
    rw [hg.block g hlt (by simp)]
    exact h
theorem Pow10.grown {w w' : World} (h : Pow10 w) (hg : w.grownBy w' none) : Pow10 w' := var_grown hg h
def itoaB (n : Int) : ByteArray := ⟨(Lib.itoa n).toArray⟩
theorem grow_grown (w : World) (k : Nat) (os : Array Obj) : w.grownBy (Go.Sort.grow (w.drewN k) os) none :=
  ⟨rfl, rfl, rfl, by show w.heap.size ≤ (w.heap ++ os).size; rw [Array.size_append]; omega, fun i hi _ => Go.Sort.heap_grow_old (w.drewN k) os hi⟩
def StrP (w : World) (s : ByteArray) (e : Ending) (w' : World) : Prop := e = .returned (.string s) ∧ w.grownBy w' none
theorem itoa_any (n : Int) (w : World) (h0 : -9223372036854775808 ≤ n) (h1 : n ≤ 9223372036854775807) (ht : Pow10 w) :
    Calls Tryz.prog 78 #[.int .i64 n] w (StrP w (itoaB n)) :=
  (Tryz.strconv_Itoa n h0 h1 w ht).mono fun e w' ⟨he, k, os, hw⟩ => ⟨he, by rw [hw]; exact grow_grown w k os⟩
set_option maxHeartbeats 1000000 in
theorem spec1 (host file beg fin : Int) (la : Option Addr) (ln lc : Nat) (time weight : Int) (trace stream : ByteArray) (fa : Option Addr) (fn fc : Nat) (w : World) (h0 : -9223372036854775808 ≤ host) (h1 : host ≤ 9223372036854775807) (ht : Pow10 w) :
    Calls Tryz.prog 77 #[.agg #[.int .i64 host, .int .i64 file, .int .i64 beg, .int .i64 fin, .slice la ln lc, .int .i64 time, .int .i64 weight, .string trace, .string stream, .slice fa fn fc]] w (StrP w (itoaB host)) := by
  have HT : Hid (∀ w', w.grownBy w' none → Calls Tryz.prog 78 #[.int .i64 host] w' (StrP w' (itoaB host))) := fun w' hg => itoa_any host w' h0 h1 (ht.grown hg)
  clear h0 h1 ht
  go_enter Tryz.func77, Tryz.ntmps77
  go_wp2_with fail
  refine (HT.out _ (only_alloc (only_refl _ _) _)).mono ?_
  rintro e w1 ⟨rfl, hg⟩
  go_wp2_with fail
  go_ret
  exact ⟨rfl, only_trans (only_alloc (only_refl _ _) _) hg⟩
set_option maxHeartbeats 1000000 in
theorem spec2 (host file beg fin : Int) (la : Option Addr) (ln lc : Nat) (time weight : Int) (trace stream : ByteArray) (fa : Option Addr) (fn fc : Nat) (w : World) (h0 : -9223372036854775808 ≤ file) (h1 : file ≤ 9223372036854775807) (ht : Pow10 w) :
    Calls Tryz.prog 79 #[.agg #[.int .i64 host, .int .i64 file, .int .i64 beg, .int .i64 fin, .slice la ln lc, .int .i64 time, .int .i64 weight, .string trace, .string stream, .slice fa fn fc]] w (StrP w (itoaB file)) := by
  have HT : Hid (∀ w', w.grownBy w' none → Calls Tryz.prog 78 #[.int .i64 file] w' (StrP w' (itoaB file))) := fun w' hg => itoa_any file w' h0 h1 (ht.grown hg)
  clear h0 h1 ht
  go_enter Tryz.func79, Tryz.ntmps79
  go_wp2_with fail
  refine (HT.out _ (only_alloc (only_refl _ _) _)).mono ?_
  rintro e w1 ⟨rfl, hg⟩
  go_wp2_with fail
  go_ret
  exact ⟨rfl, only_trans (only_alloc (only_refl _ _) _) hg⟩
set_option maxHeartbeats 1000000 in
theorem spec3 (host file beg fin : Int) (la : Option Addr) (ln lc : Nat) (time weight : Int) (trace stream : ByteArray) (fa : Option Addr) (fn fc : Nat) (w : World) (h0 : -9223372036854775808 ≤ time) (h1 : time ≤ 9223372036854775807) (ht : Pow10 w) :
    Calls Tryz.prog 80 #[.agg #[.int .i64 host, .int .i64 file, .int .i64 beg, .int .i64 fin, .slice la ln lc, .int .i64 time, .int .i64 weight, .string trace, .string stream, .slice fa fn fc]] w (StrP w (itoaB time)) := by
  have HT : Hid (∀ w', w.grownBy w' none → Calls Tryz.prog 78 #[.int .i64 time] w' (StrP w' (itoaB time))) := fun w' hg => itoa_any time w' h0 h1 (ht.grown hg)
  clear h0 h1 ht
  go_enter Tryz.func80, Tryz.ntmps80
  go_wp2_with fail
  refine (HT.out _ (only_alloc (only_refl _ _) _)).mono ?_
  rintro e w1 ⟨rfl, hg⟩
  go_wp2_with fail
  go_ret
  exact ⟨rfl, only_trans (only_alloc (only_refl _ _) _) hg⟩
set_option maxHeartbeats 1000000 in
theorem spec4 (host file beg fin : Int) (la : Option Addr) (ln lc : Nat) (time weight : Int) (trace stream : ByteArray) (fa : Option Addr) (fn fc : Nat) (w : World) (h0 : -9223372036854775808 ≤ weight) (h1 : weight ≤ 9223372036854775807) (ht : Pow10 w) :
    Calls Tryz.prog 81 #[.agg #[.int .i64 host, .int .i64 file, .int .i64 beg, .int .i64 fin, .slice la ln lc, .int .i64 time, .int .i64 weight, .string trace, .string stream, .slice fa fn fc]] w (StrP w (itoaB weight)) := by
  have HT : Hid (∀ w', w.grownBy w' none → Calls Tryz.prog 78 #[.int .i64 weight] w' (StrP w' (itoaB weight))) := fun w' hg => itoa_any weight w' h0 h1 (ht.grown hg)
  clear h0 h1 ht
  go_enter Tryz.func81, Tryz.ntmps81
  go_wp2_with fail
  refine (HT.out _ (only_alloc (only_refl _ _) _)).mono ?_
  rintro e w1 ⟨rfl, hg⟩
  go_wp2_with fail
  go_ret
  exact ⟨rfl, only_trans (only_alloc (only_refl _ _) _) hg⟩
set_option maxHeartbeats 1000000 in
theorem spec5 (host file beg fin : Int) (la : Option Addr) (ln lc : Nat) (time weight : Int) (trace stream : ByteArray) (fa : Option Addr) (fn fc : Nat) (w : World) :
    Calls Tryz.prog 82 #[.agg #[.int .i64 host, .int .i64 file, .int .i64 beg, .int .i64 fin, .slice la ln lc, .int .i64 time, .int .i64 weight, .string trace, .string stream, .slice fa fn fc]] w (StrP w trace) := by
  go_enter Tryz.func82, Tryz.ntmps82
  go_wp2_with fail
  go_ret
  exact ⟨rfl, only_alloc (only_refl _ _) _⟩
set_option maxHeartbeats 1000000 in
theorem spec6 (host file beg fin : Int) (la : Option Addr) (ln lc : Nat) (time weight : Int) (trace stream : ByteArray) (fa : Option Addr) (fn fc : Nat) (w : World) :
    Calls Tryz.prog 83 #[.agg #[.int .i64 host, .int .i64 file, .int .i64 beg, .int .i64 fin, .slice la ln lc, .int .i64 time, .int .i64 weight, .string trace, .string stream, .slice fa fn fc]] w (StrP w stream) := by
  go_enter Tryz.func83, Tryz.ntmps83
  go_wp2_with fail
  go_ret
  exact ⟨rfl, only_alloc (only_refl _ _) _⟩
/-- the value of a field -/
def getF : List FieldD → ByteArray → Option ByteArray
  | [], _ => none
  | f :: fs, nm => if f.name = nm then some f.value else getF fs nm
def valV : Option ByteArray → Value
  | some s => .tuple #[.string s, .bool true]
  | none => .tuple #[.string ⟨#[]⟩, .bool false]
def ValP (w : World) (o : Option ByteArray) (e : Ending) (w' : World) : Prop := e = .returned (valV o) ∧ w.grownBy w' none
theorem str_ne {a b : ByteArray} (h : a ≠ b) : (a.toList == b.toList) = false := by
  rw [beq_eq_false_iff_ne]; exact fun e => h (toList_inj e)
set_option maxHeartbeats 2000000 in
theorem pget_any {S : Nat → Prop} (fa : Option Addr) (fields : List FieldD) (fc : Nat) (nm : ByteArray) (w : World) (hr : Rd S w fa (fields.flatMap FieldD.cells)) (hl : fields.length ≤ 1000000) :
    Calls Tryz.prog 84 #[.slice fa fields.length fc, .string nm] w (ValP w (getF fields nm)) := by
  have HR := Lib.hid hr
  clear hr
  go_enter Tryz.func84, Tryz.ntmps84
  go_wp2_with fail
  go_loopw [7, 10] (fun _ i wr => ∃ k : Nat, i = .int .i64 k ∧ k ≤ fields.length ∧ Hid (getF fields nm = getF (fields.drop k) nm) ∧ w.grownBy wr none) (fun _ i _ => fields.length - (intOf i).toNat)
  case atStart => exact ⟨0, rfl, Nat.zero_le _, Lib.hid rfl, only_refl _ _⟩
  case round =>
    obtain ⟨k, rfl, hk, HN, hG⟩ := hrel
    have G := Lib.hid hG
    clear hG
    by_cases hlt : k < fields.length
    · obtain ⟨y, hy⟩ : ∃ y, fields[k]? = some y := ⟨_, List.getElem?_eq_getElem hlt⟩
      obtain ⟨kb, ko, rfl, hkw, z0, z1⟩ := fld_in (HR.out.grown G.out (by simp)) hy
      have hd : fields.drop k = y :: fields.drop (k + 1) := by
        rw [List.getElem?_eq_getElem hlt] at hy
        injection hy with hy
        rw [← List.getElem_cons_drop hlt, hy]
      have i1 : (k : Int) < (fields.length : Int) := by omega
      by_cases he : y.name = nm
      · have q1 : (y.name.toList == nm.toList) = true := by rw [he]; simp
        have HV : Hid (getF fields nm = some y.value) := Lib.hid (by rw [HN.out, hd, getF, if_pos he])
        clear hy hd he
        go_wp2_with fail
        rw [HV.out]
        exact bodyPost_ret (v := valV (some y.value)) (by simp [results, Tryz.results84, go_sem, valV]) rfl ⟨rfl, only_alloc G.out _⟩
      · have q1 : (y.name.toList == nm.toList) = false := str_ne he
        have HV : Hid (getF fields nm = getF (fields.drop (k + 1)) nm) := Lib.hid (by rw [HN.out, hd, getF, if_neg he])
        clear hy hd he
        go_wp2_with fail
        go_roundw
        case rel => exact ⟨k + 1, by go_num, by omega, HV, only_alloc G.out _⟩
        case measure => simp [intOf]; omega
    · have i1 : ¬ (k : Int) < (fields.length : Int) := by omega
      have HV : Hid (getF fields nm = none) := Lib.hid (by rw [HN.out, List.drop_eq_nil_of_le (by omega)]; rfl)
      go_wp2_with fail
      rw [HV.out]
      exact bodyPost_ret (v := valV none) (by simp [results, Tryz.results84, go_sem, valV]) rfl ⟨rfl, G.out⟩
set_option maxHeartbeats 2000000 in
theorem eget_any {S : Nat → Prop} (e : Ev) (nm : ByteArray) (w : World) (hs : e.Sub S w) (hl : e.fields.length ≤ 1000000) :
    Calls Tryz.prog 58 #[.agg e.cells.toArray, .string nm] w (ValP w (getF e.fields nm)) := by
  have HG : Hid (∀ w', w.grownBy w' none → Calls Tryz.prog 84 #[.slice e.fa e.fields.length e.fc, .string nm] w' (ValP w' (getF e.fields nm))) := fun w' hg => pget_any e.fa e.fields e.fc nm w' (hs.2.1.grown hg (by simp)) hl
  clear hs hl
  obtain ⟨host, file, beg, fin, lines, time, weight, trace, stream, fields, la, lc, fa, fc⟩ := e
  simp only at HG
  obtain ⟨o, ho⟩ : ∃ o, o = getF fields nm := ⟨_, rfl⟩
  rw [← ho] at HG
  show Calls _ _ #[.agg #[.int .i64 host, .int .i64 file, .int .i64 beg, .int .i64 fin, .slice la lines.length lc, .int .i64 time, .int .i64 weight, .string trace, .string stream, .slice fa fields.length fc], .string nm] w (ValP w (getF fields nm))
  rw [← ho]
  clear ho
  go_enter Tryz.func58, Tryz.ntmps58
  go_wp2_with fail
  refine (HG.out _ (only_alloc (only_refl _ _) _)).mono ?_
  rintro e w1 ⟨rfl, hg⟩
  have G := Lib.hid (only_trans (only_alloc (only_refl _ _) _) hg)
  clear hg
  cases o with
  | none =>
    simp only [valV]
    go_wp2_with fail
    exact bodyPost_ret (v := valV none) (by simp [results, Tryz.results58, go_sem, valV]) rfl ⟨rfl, G.out⟩
  | some s =>
    simp only [valV]
    go_wp2_with fail
    exact bodyPost_ret (v := valV (some s)) (by simp [results, Tryz.results58, go_sem, valV]) rfl ⟨rfl, G.out⟩
/-- the value of a name -/
def valOf (e : Ev) (nm : ByteArray) : Option ByteArray :=
  if nm = nHost then some (itoaB e.host) else if nm = nFile then some (itoaB e.file) else if nm = nTime then some (itoaB e.time) else if nm = nWeight then some (itoaB e.weight)
  else if nm = nTrace then some e.trace else if nm = nStream then some e.stream else getF e.fields nm
def I64 (n : Int) : Prop := -9223372036854775808 ≤ n ∧ n ≤ 9223372036854775807
def EvI (e : Ev) : Prop := I64 e.host ∧ I64 e.file ∧ I64 e.time ∧ I64 e.weight ∧ e.fields.length ≤ 1000000
theorem ents_keys : SKeys ents.toList := by
  intro e he
  simp only [ents, List.mem_cons, List.not_mem_nil, or_false] at he
  rcases he with rfl | rfl | rfl | rfl | rfl | rfl <;> exact ⟨_, by decide, rfl⟩
theorem ents_v1 : ∀ e ∈ ents.toList, e.key = .string nHost → e.val = fnV 77 := by
  intro e he h
  simp only [ents, List.mem_cons, List.not_mem_nil, or_false] at he
  rcases he with rfl | rfl | rfl | rfl | rfl | rfl <;> first | rfl | (exfalso; injection h with h; revert h; decide)
theorem ents_v2 : ∀ e ∈ ents.toList, e.key = .string nFile → e.val = fnV 79 := by
  intro e he h
  simp only [ents, List.mem_cons, List.not_mem_nil, or_false] at he
  rcases he with rfl | rfl | rfl | rfl | rfl | rfl <;> first | rfl | (exfalso; injection h with h; revert h; decide)
theorem ents_v3 : ∀ e ∈ ents.toList, e.key = .string nTime → e.val = fnV 80 := by
  intro e he h
  simp only [ents, List.mem_cons, List.not_mem_nil, or_false] at he
  rcases he with rfl | rfl | rfl | rfl | rfl | rfl <;> first | rfl | (exfalso; injection h with h; revert h; decide)
theorem ents_v4 : ∀ e ∈ ents.toList, e.key = .string nWeight → e.val = fnV 81 := by
  intro e he h
  simp only [ents, List.mem_cons, List.not_mem_nil, or_false] at he
  rcases he with rfl | rfl | rfl | rfl | rfl | rfl <;> first | rfl | (exfalso; injection h with h; revert h; decide)
theorem ents_v5 : ∀ e ∈ ents.toList, e.key = .string nTrace → e.val = fnV 82 := by
  intro e he h
  simp only [ents, List.mem_cons, List.not_mem_nil, or_false] at he
  rcases he with rfl | rfl | rfl | rfl | rfl | rfl <;> first | rfl | (exfalso; injection h with h; revert h; decide)
theorem ents_v6 : ∀ e ∈ ents.toList, e.key = .string nStream → e.val = fnV 83 := by
  intro e he h
  simp only [ents, List.mem_cons, List.not_mem_nil, or_false] at he
  rcases he with rfl | rfl | rfl | rfl | rfl | rfl <;> first | rfl | (exfalso; injection h with h; revert h; decide)
theorem ents_no {nm : ByteArray} (h1 : nm ≠ nHost) (h2 : nm ≠ nFile) (h3 : nm ≠ nTime) (h4 : nm ≠ nWeight) (h5 : nm ≠ nTrace) (h6 : nm ≠ nStream) : ∀ e ∈ ents.toList, e.key ≠ .string nm := by
  intro e he h
  simp only [ents, List.mem_cons, List.not_mem_nil, or_false] at he
  rcases he with rfl | rfl | rfl | rfl | rfl | rfl <;> (injection h with h; first | exact h1 h.symm | exact h2 h.symm | exact h3 h.symm | exact h4 h.symm | exact h5 h.symm | exact h6 h.symm)
set_option maxHeartbeats 4000000 in
set_option maxRecDepth 100000 in
theorem val_any {S : Nat → Prop} (e : Ev) (nm : ByteArray) (w : World) (hs : e.Sub S w) (hi : EvI e) (hn : nm.size ≤ maxLen) (ht : Pow10 w) :
    Calls Tryz.prog 38 #[.agg e.cells.toArray, .string nm] w (ValP w (valOf e nm)) := by
  have HG : Hid (∀ w', w.grownBy w' none → Calls Tryz.prog 58 #[.agg e.cells.toArray, .string nm] w' (ValP w' (getF e.fields nm))) := fun w' hg => eget_any e nm w' (hs.grown hg (by simp)) hi.2.2.2.2
  have HT : Hid (∀ w', w.grownBy w' none → Pow10 w') := Lib.hid (fun w' hg => ht.grown hg)
  have HI := Lib.hid hi
  have HN := Lib.hid hn
  clear hs hi hn ht
  obtain ⟨host, file, beg, fin, lines, time, weight, trace, stream, fields, la, lc, fa, fc⟩ := e
  have hcl : (Ev.mk host file beg fin lines time weight trace stream fields la lc fa fc).cells.toArray = #[.int .i64 host, .int .i64 file, .int .i64 beg, .int .i64 fin, .slice la lines.length lc, .int .i64 time, .int .i64 weight, .string trace, .string stream, .slice fa fields.length fc] := rfl
  rw [hcl] at HG ⊢
  clear hcl
  go_enter Tryz.func38, Tryz.ntmps38
  go_wp2_with fail
  refine (special_any _).mono ?_
  rintro e w1 ⟨rfl, hsp, hg1⟩
  have hB := (Blk.new w 35 #[.int .i64 host, .int .i64 file, .int .i64 beg, .int .i64 fin, .slice la lines.length lc, .int .i64 time, .int .i64 weight, .string trace, .string stream, .slice fa fields.length fc]).grown hg1 (by simp)
  have b0 := hB.cell 0; have b1 := hB.cell 1; have b2 := hB.cell 2; have b3 := hB.cell 3; have b4 := hB.cell 4; have b5 := hB.cell 5; have b6 := hB.cell 6; have b7 := hB.cell 7; have b8 := hB.cell 8; have b9 := hB.cell 9
  simp at b0 b1 b2 b3 b4 b5 b6 b7 b8 b9
  have G1 : Hid (w.grownBy w1 none) := only_trans (only_alloc (only_refl _ _) _) hg1
  obtain ⟨b, hb⟩ : ∃ b, b = (w.alloc (.cells #[.int .i64 host, .int .i64 file, .int .i64 beg, .int .i64 fin, .slice la lines.length lc, .int .i64 time, .int .i64 weight, .string trace, .string stream, .slice fa fields.length fc] 35)).heap.size := ⟨_, rfl⟩
  rw [← hb] at hsp ⊢
  have SP := Lib.hid hsp
  clear hb hg1 hB hsp
  by_cases h1 : nm = nHost
  · have HV : Hid (valOf ⟨host, file, beg, fin, lines, time, weight, trace, stream, fields, la, lc, fa, fc⟩ nm = some (itoaB host)) := Lib.hid (by rw [h1]; rfl)
    have hrun := run_look_yes (s := nm) SP.out ents_keys HN.out rfl (by rw [h1]; exact ents_v1) ⟨⟨.string nHost, fnV 77, 0⟩, by simp [ents], by rw [h1]⟩
    clear h1
    simp only [fnV] at hrun
    go_wp2_with fail
    refine (spec1 host file beg fin la lines.length lc time weight trace stream fa fields.length fc w1 HI.out.1.1 HI.out.1.2 (HT.out _ G1.out)).mono ?_
    rintro e w2 ⟨rfl, hg2⟩
    go_wp2_with fail
    rw [HV.out]
    exact bodyPost_ret (v := valV (some (itoaB host))) (by simp [results, Tryz.results38, go_sem, valV]) rfl ⟨rfl, only_trans G1.out hg2⟩
  by_cases h2 : nm = nFile
  · have HV : Hid (valOf ⟨host, file, beg, fin, lines, time, weight, trace, stream, fields, la, lc, fa, fc⟩ nm = some (itoaB file)) := Lib.hid (by rw [h2]; rfl)
    have hrun := run_look_yes (s := nm) SP.out ents_keys HN.out rfl (by rw [h2]; exact ents_v2) ⟨⟨.string nFile, fnV 79, 1⟩, by simp [ents], by rw [h2]⟩
    clear h1 h2
    simp only [fnV] at hrun
    go_wp2_with fail
    refine (spec2 host file beg fin la lines.length lc time weight trace stream fa fields.length fc w1 HI.out.2.1.1 HI.out.2.1.2 (HT.out _ G1.out)).mono ?_
    rintro e w2 ⟨rfl, hg2⟩
    go_wp2_with fail
    rw [HV.out]
    exact bodyPost_ret (v := valV (some (itoaB file))) (by simp [results, Tryz.results38, go_sem, valV]) rfl ⟨rfl, only_trans G1.out hg2⟩
  by_cases h3 : nm = nTime
  · have HV : Hid (valOf ⟨host, file, beg, fin, lines, time, weight, trace, stream, fields, la, lc, fa, fc⟩ nm = some (itoaB time)) := Lib.hid (by rw [h3]; rfl)
    have hrun := run_look_yes (s := nm) SP.out ents_keys HN.out rfl (by rw [h3]; exact ents_v3) ⟨⟨.string nTime, fnV 80, 2⟩, by simp [ents], by rw [h3]⟩
    clear h1 h2 h3
    simp only [fnV] at hrun
    go_wp2_with fail
    refine (spec3 host file beg fin la lines.length lc time weight trace stream fa fields.length fc w1 HI.out.2.2.1.1 HI.out.2.2.1.2 (HT.out _ G1.out)).mono ?_
    rintro e w2 ⟨rfl, hg2⟩
    go_wp2_with fail
    rw [HV.out]
    exact bodyPost_ret (v := valV (some (itoaB time))) (by simp [results, Tryz.results38, go_sem, valV]) rfl ⟨rfl, only_trans G1.out hg2⟩
  by_cases h4 : nm = nWeight
  · have HV : Hid (valOf ⟨host, file, beg, fin, lines, time, weight, trace, stream, fields, la, lc, fa, fc⟩ nm = some (itoaB weight)) := Lib.hid (by rw [h4]; rfl)
    have hrun := run_look_yes (s := nm) SP.out ents_keys HN.out rfl (by rw [h4]; exact ents_v4) ⟨⟨.string nWeight, fnV 81, 3⟩, by simp [ents], by rw [h4]⟩
    clear h1 h2 h3 h4
    simp only [fnV] at hrun
    go_wp2_with fail
    refine (spec4 host file beg fin la lines.length lc time weight trace stream fa fields.length fc w1 HI.out.2.2.2.1.1 HI.out.2.2.2.1.2 (HT.out _ G1.out)).mono ?_
    rintro e w2 ⟨rfl, hg2⟩
    go_wp2_with fail
    rw [HV.out]
    exact bodyPost_ret (v := valV (some (itoaB weight))) (by simp [results, Tryz.results38, go_sem, valV]) rfl ⟨rfl, only_trans G1.out hg2⟩
  by_cases h5 : nm = nTrace
  · have HV : Hid (valOf ⟨host, file, beg, fin, lines, time, weight, trace, stream, fields, la, lc, fa, fc⟩ nm = some trace) := Lib.hid (by rw [h5]; rfl)
    have hrun := run_look_yes (s := nm) SP.out ents_keys HN.out rfl (by rw [h5]; exact ents_v5) ⟨⟨.string nTrace, fnV 82, 4⟩, by simp [ents], by rw [h5]⟩
    clear h1 h2 h3 h4 h5
    simp only [fnV] at hrun
    go_wp2_with fail
    refine (spec5 host file beg fin la lines.length lc time weight trace stream fa fields.length fc w1).mono ?_
    rintro e w2 ⟨rfl, hg2⟩
    go_wp2_with fail
    rw [HV.out]
    exact bodyPost_ret (v := valV (some trace)) (by simp [results, Tryz.results38, go_sem, valV]) rfl ⟨rfl, only_trans G1.out hg2⟩
  by_cases h6 : nm = nStream
  · have HV : Hid (valOf ⟨host, file, beg, fin, lines, time, weight, trace, stream, fields, la, lc, fa, fc⟩ nm = some stream) := Lib.hid (by rw [h6]; rfl)
    have hrun := run_look_yes (s := nm) SP.out ents_keys HN.out rfl (by rw [h6]; exact ents_v6) ⟨⟨.string nStream, fnV 83, 5⟩, by simp [ents], by rw [h6]⟩
    clear h1 h2 h3 h4 h5 h6
    simp only [fnV] at hrun
    go_wp2_with fail
    refine (spec6 host file beg fin la lines.length lc time weight trace stream fa fields.length fc w1).mono ?_
    rintro e w2 ⟨rfl, hg2⟩
    go_wp2_with fail
    rw [HV.out]
    exact bodyPost_ret (v := valV (some stream)) (by simp [results, Tryz.results38, go_sem, valV]) rfl ⟨rfl, only_trans G1.out hg2⟩
  have HV : Hid (valOf ⟨host, file, beg, fin, lines, time, weight, trace, stream, fields, la, lc, fa, fc⟩ nm = getF fields nm) := Lib.hid (by unfold valOf; rw [if_neg h1, if_neg h2, if_neg h3, if_neg h4, if_neg h5, if_neg h6])
  have hrun := run_look_no (s := nm) SP.out ents_keys HN.out rfl (ents_no h1 h2 h3 h4 h5 h6)
  clear h1 h2 h3 h4 h5 h6
  go_wp2_with fail
  refine (HG.out _ G1.out).mono ?_
  obtain ⟨o, ho⟩ : ∃ o, o = getF fields nm := ⟨_, rfl⟩
  rw [← ho] at HV ⊢
  clear ho HG
  rintro e w2 ⟨rfl, hg2⟩
  have G2 := Lib.hid (only_trans G1.out hg2)
  clear hg2
  cases o with
  | none =>
    simp only [valV]
    go_wp2_with fail
    rw [HV.out]
    exact bodyPost_ret (v := valV none) (by simp [results, Tryz.results38, go_sem, valV]) rfl ⟨rfl, G2.out⟩
  | some s =>
    simp only [valV]
    go_wp2_with fail
    rw [HV.out]
    exact bodyPost_ret (v := valV (some s)) (by simp [results, Tryz.results38, go_sem, valV]) rfl ⟨rfl, G2.out⟩
end Go.Proofs.YtfkgcighooijhaaGreatDoor
