/- extract.special: a map of six functions; looking a name up in it. No condition. -/
import Derived.Test.YtceebhgbebkafaaGreatDoorBase
import Derived.Maps.Keyed
import Derived.StringKeys
import Derived.MapKept
import Derived.Test.YtceebhgbebkafaaGreatDoorEvIn
import Derived.Test.YtceebhgbebkafaaGreatDoorShelf36
import Derived.Test.YtceebhgbebkafaaGreatDoorStr
import Derived.Deep.RegionLaw
import Derived.Test.YtceebhgbebkafaaGreatDoorOnto
import Derived.Lib.ConvBytes
namespace Go.Proofs.YtceebhgbebkafaaGreatDoor
open Go.RowKit
open Go.ChangeMaps (setBlock heap_setBlock_same heap_setBlock_other)
set_option linter.unusedVariables false
set_option linter.unusedSimpArgs false

theorem strKey : Go.Maps.Keyed Tryz.prog 9 := Go.Maps.string_keyed Tryz.underlying9
theorem keyStr {s : ByteArray} (h : s.size ≤ maxLen) : keyOf Tryz.prog 9 (.string s) = some (.string s.data.toList) := Go.WideMaps.keyOf_string_mk Tryz.underlying9 h
def SKeys (es : List MapEntry) : Prop := ∀ e ∈ es, ∃ s : ByteArray, s.size ≤ maxLen ∧ e.key = .string s
theorem SKeys.keyed {es : List MapEntry} (h : SKeys es) : ∀ e ∈ es, ∃ l, keyOf Tryz.prog 9 e.key = some l := fun e he => by
  obtain ⟨s, hs, e1⟩ := h e he
  exact ⟨_, by rw [e1]; exact keyStr hs⟩
theorem run_put {w : World} {b : Nat} {es : Array MapEntry} {clock : Nat} {s : ByteArray} (val : Value) (hb : w.heap[b]? = some (.map es clock)) (hk : SKeys es.toList) (hs : s.size ≤ maxLen) (hn : ∀ e ∈ es.toList, e.key ≠ .string s) :
    (Instr.mapUpdate 123 (.map (some b)) (.string s) val).run Tryz.prog w = .ok () (setBlock w b (.map (es.push ⟨.string s, val, clock⟩) (clock + 1))) := by
  rcases strKey.find w (keyStr hs) es.toList hk.keyed with ⟨h1, h2⟩ | ⟨j, e0, h1, h2, h3⟩
  · simp [Instr.mapUpdate, run_underlying Tryz.underlying123, MapKept.run_getObj_map hb, strKey.check w false (keyStr hs), h1, MapKept.run_setObj_map _ hb, Result.andThen, setBlock]
  · exact absurd h3 (hn e0 (List.mem_of_getElem? h2))
theorem funcZero (w : World) : (zeroValue 58).run Tryz.prog w = .ok .nilFunc w := by kernel_rfl
theorem run_look_yes {w : World} {b : Nat} {es : Array MapEntry} {clock : Nat} {s : ByteArray} {v : Value} (hb : w.heap[b]? = some (.map es clock)) (hk : SKeys es.toList) (hs : s.size ≤ maxLen) (he : es.isEmpty = false) (hv : ∀ e ∈ es.toList, e.key = .string s → e.val = v) (hm : ∃ e ∈ es.toList, e.key = .string s) :
    (Instr.lookup 123 (.map (some b)) (.string s) true).run Tryz.prog w = .ok (.tuple #[v, .bool true]) w := by
  rcases strKey.find w (keyStr hs) es.toList hk.keyed with ⟨h1, h2⟩ | ⟨j, e0, h1, h2, h3⟩
  · obtain ⟨e, h3, h4⟩ := hm
    exact absurd h4 (h2 e h3)
  · have hv0 := hv e0 (List.mem_of_getElem? h2) h3
    simp [Instr.lookup, run_underlying Tryz.underlying123, MapKept.run_getObj_map hb, he, strKey.check w false (keyStr hs), h1, hv0, Result.andThen]
theorem run_look_no {w : World} {b : Nat} {es : Array MapEntry} {clock : Nat} {s : ByteArray} (hb : w.heap[b]? = some (.map es clock)) (hk : SKeys es.toList) (hs : s.size ≤ maxLen) (he : es.isEmpty = false) (hm : ∀ e ∈ es.toList, e.key ≠ .string s) :
    (Instr.lookup 123 (.map (some b)) (.string s) true).run Tryz.prog w = .ok (.tuple #[.nilFunc, .bool false]) w := by
  rcases strKey.find w (keyStr hs) es.toList hk.keyed with ⟨h1, h2⟩ | ⟨j, e0, h1, h2, h3⟩
  · simp [Instr.lookup, run_underlying Tryz.underlying123, MapKept.run_getObj_map hb, he, strKey.check w false (keyStr hs), h1, funcZero, Result.andThen]
  · exact absurd h3 (hm e0 (List.mem_of_getElem? h2))

def nHost : ByteArray := ⟨#[64, 104, 111, 115, 116]⟩
def nFile : ByteArray := ⟨#[64, 102, 105, 108, 101]⟩
def nTime : ByteArray := ⟨#[64, 116, 105, 109, 101]⟩
def nWeight : ByteArray := ⟨#[64, 119, 101, 105, 103, 104, 116]⟩
def nTrace : ByteArray := ⟨#[64, 116, 114, 97, 99, 101]⟩
def nStream : ByteArray := ⟨#[64, 115, 116, 114, 101, 97, 109]⟩
def fnV (f : FuncId) : Value := .func (.func f) #[] #[]
/-- the entries behind k inserts -/
def ents : Array MapEntry := #[⟨.string nHost, fnV 118, 0⟩, ⟨.string nFile, fnV 120, 1⟩, ⟨.string nTime, fnV 121, 2⟩, ⟨.string nWeight, fnV 122, 3⟩, ⟨.string nTrace, fnV 123, 4⟩, ⟨.string nStream, fnV 124, 5⟩]
def SpecAt (w : World) (b : Nat) : Prop := w.heap[b]? = some (.map ents 6)
theorem only_block {a w : World} {b : Nat} {es : Array MapEntry} {clock : Nat} (h : a.grownBy w none) (hm : w.heap[b]? = some (.map es clock)) (hb : a.heap.size ≤ b) (o : Obj) : a.grownBy (setBlock w b o) none :=
  ⟨h.os, h.tape, h.output, by simpa [setBlock] using h.size, fun i hi hne => (heap_setBlock_other hm o (by omega)).trans (h.block i hi hne)⟩
theorem skeys_push {es : Array MapEntry} (h : SKeys es.toList) {s : ByteArray} (hs : s.size ≤ maxLen) (v : Value) (c : Nat) : SKeys (es.push ⟨.string s, v, c⟩).toList := by
  intro e he
  rw [Array.toList_push] at he
  rcases List.mem_append.1 he with h1 | h1
  · exact h e h1
  · rw [List.mem_singleton.1 h1]; exact ⟨s, hs, rfl⟩
set_option maxHeartbeats 2000000 in
set_option maxRecDepth 100000 in
theorem special_any (w : World) : Calls Tryz.prog 93 #[] w (fun e w' => e = .returned (.map (some w.heap.size)) ∧ SpecAt w' w.heap.size ∧ w.grownBy w' none) := by
  obtain ⟨b, hb⟩ : ∃ b, b = w.heap.size := ⟨_, rfl⟩
  obtain ⟨W0, hW0⟩ : ∃ W, W = w.alloc (.map #[] 0) := ⟨_, rfl⟩
  have b0 : W0.heap[b]? = some (.map #[] 0) := by rw [hW0, hb]; exact heap_alloc_new w _
  have g0 : w.grownBy W0 none := by rw [hW0]; exact only_alloc (only_refl _ _) _
  have hlt0 : b < W0.heap.size := (Array.getElem?_eq_some_iff.1 b0).1
  have k0 : SKeys (#[] : Array MapEntry).toList := by intro e he; simp at he
  have p1 := run_put (s := nHost) (fnV 118) b0 k0 (by decide) (by intro e he h; simp at he; try (rcases he with he); all_goals (first | (injection h with h; revert h; decide)))
  have b1 := heap_setBlock_same b0 (.map ((#[]).push ⟨.string nHost, fnV 118, 0⟩) 1)
  have k1 := skeys_push k0 (s := nHost) (by decide) (fnV 118) 0
  have g1 := only_block g0 b0 (Nat.le_of_eq hb.symm) (.map ((#[]).push ⟨.string nHost, fnV 118, 0⟩) 1)
  obtain ⟨W1, hW1⟩ : ∃ W, W = setBlock W0 b (.map ((#[]).push ⟨.string nHost, fnV 118, 0⟩) 1) := ⟨_, rfl⟩
  rw [← hW1] at p1 b1 g1
  have p2 := run_put (s := nFile) (fnV 120) b1 k1 (by decide) (by intro e he h; simp at he; try (rcases he with rfl); all_goals (first | (injection h with h; revert h; decide)))
  have b2 := heap_setBlock_same b1 (.map (((#[]).push ⟨.string nHost, fnV 118, 0⟩).push ⟨.string nFile, fnV 120, 1⟩) 2)
  have k2 := skeys_push k1 (s := nFile) (by decide) (fnV 120) 1
  have g2 := only_block g1 b1 (Nat.le_of_eq hb.symm) (.map (((#[]).push ⟨.string nHost, fnV 118, 0⟩).push ⟨.string nFile, fnV 120, 1⟩) 2)
  obtain ⟨W2, hW2⟩ : ∃ W, W = setBlock W1 b (.map (((#[]).push ⟨.string nHost, fnV 118, 0⟩).push ⟨.string nFile, fnV 120, 1⟩) 2) := ⟨_, rfl⟩
  rw [← hW2] at p2 b2 g2
  have p3 := run_put (s := nTime) (fnV 121) b2 k2 (by decide) (by intro e he h; simp at he; try (rcases he with rfl | rfl); all_goals (first | (injection h with h; revert h; decide)))
  have b3 := heap_setBlock_same b2 (.map ((((#[]).push ⟨.string nHost, fnV 118, 0⟩).push ⟨.string nFile, fnV 120, 1⟩).push ⟨.string nTime, fnV 121, 2⟩) 3)
  have k3 := skeys_push k2 (s := nTime) (by decide) (fnV 121) 2
  have g3 := only_block g2 b2 (Nat.le_of_eq hb.symm) (.map ((((#[]).push ⟨.string nHost, fnV 118, 0⟩).push ⟨.string nFile, fnV 120, 1⟩).push ⟨.string nTime, fnV 121, 2⟩) 3)
  obtain ⟨W3, hW3⟩ : ∃ W, W = setBlock W2 b (.map ((((#[]).push ⟨.string nHost, fnV 118, 0⟩).push ⟨.string nFile, fnV 120, 1⟩).push ⟨.string nTime, fnV 121, 2⟩) 3) := ⟨_, rfl⟩
  rw [← hW3] at p3 b3 g3
  have p4 := run_put (s := nWeight) (fnV 122) b3 k3 (by decide) (by intro e he h; simp at he; try (rcases he with rfl | rfl | rfl); all_goals (first | (injection h with h; revert h; decide)))
  have b4 := heap_setBlock_same b3 (.map (((((#[]).push ⟨.string nHost, fnV 118, 0⟩).push ⟨.string nFile, fnV 120, 1⟩).push ⟨.string nTime, fnV 121, 2⟩).push ⟨.string nWeight, fnV 122, 3⟩) 4)
  have k4 := skeys_push k3 (s := nWeight) (by decide) (fnV 122) 3
  have g4 := only_block g3 b3 (Nat.le_of_eq hb.symm) (.map (((((#[]).push ⟨.string nHost, fnV 118, 0⟩).push ⟨.string nFile, fnV 120, 1⟩).push ⟨.string nTime, fnV 121, 2⟩).push ⟨.string nWeight, fnV 122, 3⟩) 4)
  obtain ⟨W4, hW4⟩ : ∃ W, W = setBlock W3 b (.map (((((#[]).push ⟨.string nHost, fnV 118, 0⟩).push ⟨.string nFile, fnV 120, 1⟩).push ⟨.string nTime, fnV 121, 2⟩).push ⟨.string nWeight, fnV 122, 3⟩) 4) := ⟨_, rfl⟩
  rw [← hW4] at p4 b4 g4
  have p5 := run_put (s := nTrace) (fnV 123) b4 k4 (by decide) (by intro e he h; simp at he; try (rcases he with rfl | rfl | rfl | rfl); all_goals (first | (injection h with h; revert h; decide)))
  have b5 := heap_setBlock_same b4 (.map ((((((#[]).push ⟨.string nHost, fnV 118, 0⟩).push ⟨.string nFile, fnV 120, 1⟩).push ⟨.string nTime, fnV 121, 2⟩).push ⟨.string nWeight, fnV 122, 3⟩).push ⟨.string nTrace, fnV 123, 4⟩) 5)
  have k5 := skeys_push k4 (s := nTrace) (by decide) (fnV 123) 4
  have g5 := only_block g4 b4 (Nat.le_of_eq hb.symm) (.map ((((((#[]).push ⟨.string nHost, fnV 118, 0⟩).push ⟨.string nFile, fnV 120, 1⟩).push ⟨.string nTime, fnV 121, 2⟩).push ⟨.string nWeight, fnV 122, 3⟩).push ⟨.string nTrace, fnV 123, 4⟩) 5)
  obtain ⟨W5, hW5⟩ : ∃ W, W = setBlock W4 b (.map ((((((#[]).push ⟨.string nHost, fnV 118, 0⟩).push ⟨.string nFile, fnV 120, 1⟩).push ⟨.string nTime, fnV 121, 2⟩).push ⟨.string nWeight, fnV 122, 3⟩).push ⟨.string nTrace, fnV 123, 4⟩) 5) := ⟨_, rfl⟩
  rw [← hW5] at p5 b5 g5
  have p6 := run_put (s := nStream) (fnV 124) b5 k5 (by decide) (by intro e he h; simp at he; try (rcases he with rfl | rfl | rfl | rfl | rfl); all_goals (first | (injection h with h; revert h; decide)))
  have b6 := heap_setBlock_same b5 (.map (((((((#[]).push ⟨.string nHost, fnV 118, 0⟩).push ⟨.string nFile, fnV 120, 1⟩).push ⟨.string nTime, fnV 121, 2⟩).push ⟨.string nWeight, fnV 122, 3⟩).push ⟨.string nTrace, fnV 123, 4⟩).push ⟨.string nStream, fnV 124, 5⟩) 6)
  have k6 := skeys_push k5 (s := nStream) (by decide) (fnV 124) 5
  have g6 := only_block g5 b5 (Nat.le_of_eq hb.symm) (.map (((((((#[]).push ⟨.string nHost, fnV 118, 0⟩).push ⟨.string nFile, fnV 120, 1⟩).push ⟨.string nTime, fnV 121, 2⟩).push ⟨.string nWeight, fnV 122, 3⟩).push ⟨.string nTrace, fnV 123, 4⟩).push ⟨.string nStream, fnV 124, 5⟩) 6)
  obtain ⟨W6, hW6⟩ : ∃ W, W = setBlock W5 b (.map (((((((#[]).push ⟨.string nHost, fnV 118, 0⟩).push ⟨.string nFile, fnV 120, 1⟩).push ⟨.string nTime, fnV 121, 2⟩).push ⟨.string nWeight, fnV 122, 3⟩).push ⟨.string nTrace, fnV 123, 4⟩).push ⟨.string nStream, fnV 124, 5⟩) 6) := ⟨_, rfl⟩
  rw [← hW6] at p6 b6 g6
  have GG := Lib.hid g6
  have BB : Hid (SpecAt W6 b) := b6
  have hm := @run_makeMap Tryz.prog
  clear hW1 hW2 hW3 hW4 hW5 hW6 k0 k1 k2 k3 k4 k5 k6 g0 g1 g2 g3 g4 g5 g6 b0 b1 b2 b3 b4 b5 b6 hlt0
  rw [hW0] at p1
  clear hW0
  subst hb
  simp only [fnV, nHost, nFile, nTime, nWeight, nTrace, nStream] at p1 p2 p3 p4 p5 p6
  go_enter Tryz.func93, Tryz.ntmps93
  go_wp2_with fail
  go_ret
  exact ⟨rfl, BB.out, GG.out⟩
end Go.Proofs.YtceebhgbebkafaaGreatDoor
namespace Go.Proofs.YtceebhgbebkafaaGreatDoor
open Go.RowKit
set_option linter.unusedVariables false
set_option linter.unusedSimpArgs false

theorem enterV {f : FuncId} {fn : Func} (hf : Tryz.prog.funcs[f]? = some fn) (hname : (fn.name == "runtime.NumGoroutine") = false) (hb : fn.body.isNone = false) (args : Array Value) (w : World) : (callFunc f args).run Tryz.prog w = .ok (.enter f args) w := by
  have h1 : fn.name ≠ "runtime.NumGoroutine" := by simpa using hname
  cases hc : fn.body with
  | none => rw [hc] at hb; cases hb
  | some c => simp [callFunc, hf, h1, hc]
def Pow10 (w : World) : Prop := Lib.TabIs Tryz.prog w "internal/strconv.uint64pow10" .u64 Lib.pow10Tab
theorem var_grown {P : Program} {w w' : World} {n : String} {cs : Array Value} (hg : w.grownBy w' none) (h : w.var? P n = some cs) : w'.var? P n = some cs := by
  unfold World.var? at h ⊢
  revert h
  cases P.globalNamed n with
  | none => intro h; cases h
  | some g =>
    intro h
    simp only [Option.bind_some] at h ⊢
    have hlt : g < w.heap.size := by
      rcases Nat.lt_or_ge g w.heap.size with h1 | h1
      · exact h1
      · rw [Array.getElem?_eq_none h1] at h; cases h
    rw [hg.block g hlt (by simp)]
    exact h
theorem Pow10.grown {w w' : World} (h : Pow10 w) (hg : w.grownBy w' none) : Pow10 w' := var_grown hg h
def itoaB (n : Int) : ByteArray := ⟨(Lib.itoa n).toArray⟩
theorem grow_grown (w : World) (k : Nat) (os : Array Obj) : w.grownBy (Go.Sort.grow (w.drewN k) os) none :=
  ⟨rfl, rfl, rfl, by show w.heap.size ≤ (w.heap ++ os).size; rw [Array.size_append]; omega, fun i hi _ => Go.Sort.heap_grow_old (w.drewN k) os hi⟩
def StrP (w : World) (s : ByteArray) (e : Ending) (w' : World) : Prop := e = .returned (.string s) ∧ w.grownBy w' none
theorem itoa_any (n : Int) (w : World) (h0 : -9223372036854775808 ≤ n) (h1 : n ≤ 9223372036854775807) (ht : Pow10 w) :
    Calls Tryz.prog 119 #[.int .i64 n] w (StrP w (itoaB n)) :=
  (Tryz.strconv_Itoa n h0 h1 w ht).mono fun e w' ⟨he, k, os, hw⟩ => ⟨he, by rw [hw]; exact grow_grown w k os⟩
set_option maxHeartbeats 1000000 in
theorem spec1 (host file beg fin : Int) (la : Option Addr) (ln lc : Nat) (time weight : Int) (trace stream : ByteArray) (fa : Option Addr) (fn fc : Nat) (w : World) (h0 : -9223372036854775808 ≤ host) (h1 : host ≤ 9223372036854775807) (ht : Pow10 w) :
    Calls Tryz.prog 118 #[.agg #[.int .i64 host, .int .i64 file, .int .i64 beg, .int .i64 fin, .slice la ln lc, .int .i64 time, .int .i64 weight, .string trace, .string stream, .slice fa fn fc]] w (StrP w (itoaB host)) := by
  have HT : Hid (∀ w', w.grownBy w' none → Calls Tryz.prog 119 #[.int .i64 host] w' (StrP w' (itoaB host))) := fun w' hg => itoa_any host w' h0 h1 (ht.grown hg)
  clear h0 h1 ht
  go_enter Tryz.func118, Tryz.ntmps118
  go_wp2_with fail
  refine (HT.out _ (only_alloc (only_refl _ _) _)).mono ?_
  rintro e w1 ⟨rfl, hg⟩
  go_wp2_with fail
  go_ret
  exact ⟨rfl, only_trans (only_alloc (only_refl _ _) _) hg⟩
set_option maxHeartbeats 1000000 in
theorem spec2 (host file beg fin : Int) (la : Option Addr) (ln lc : Nat) (time weight : Int) (trace stream : ByteArray) (fa : Option Addr) (fn fc : Nat) (w : World) (h0 : -9223372036854775808 ≤ file) (h1 : file ≤ 9223372036854775807) (ht : Pow10 w) :
    Calls Tryz.prog 120 #[.agg #[.int .i64 host, .int .i64 file, .int .i64 beg, .int .i64 fin, .slice la ln lc, .int .i64 time, .int .i64 weight, .string trace, .string stream, .slice fa fn fc]] w (StrP w (itoaB file)) := by
  have HT : Hid (∀ w', w.grownBy w' none → Calls Tryz.prog 119 #[.int .i64 file] w' (StrP w' (itoaB file))) := fun w' hg => itoa_any file w' h0 h1 (ht.grown hg)
  clear h0 h1 ht
  go_enter Tryz.func120, Tryz.ntmps120
  go_wp2_with fail
  refine (HT.out _ (only_alloc (only_refl _ _) _)).mono ?_
  rintro e w1 ⟨rfl, hg⟩
  go_wp2_with fail
  go_ret
  exact ⟨rfl, only_trans (only_alloc (only_refl _ _) _) hg⟩
set_option maxHeartbeats 1000000 in
theorem spec3 (host file beg fin : Int) (la : Option Addr) (ln lc : Nat) (time weight : Int) (trace stream : ByteArray) (fa : Option Addr) (fn fc : Nat) (w : World) (h0 : -9223372036854775808 ≤ time) (h1 : time ≤ 9223372036854775807) (ht : Pow10 w) :
    Calls Tryz.prog 121 #[.agg #[.int .i64 host, .int .i64 file, .int .i64 beg, .int .i64 fin, .slice la ln lc, .int .i64 time, .int .i64 weight, .string trace, .string stream, .slice fa fn fc]] w (StrP w (itoaB time)) := by
  have HT : Hid (∀ w', w.grownBy w' none → Calls Tryz.prog 119 #[.int .i64 time] w' (StrP w' (itoaB time))) := fun w' hg => itoa_any time w' h0 h1 (ht.grown hg)
  clear h0 h1 ht
  go_enter Tryz.func121, Tryz.ntmps121
  go_wp2_with fail
  refine (HT.out _ (only_alloc (only_refl _ _) _)).mono ?_
  rintro e w1 ⟨rfl, hg⟩
  go_wp2_with fail
  go_ret
  exact ⟨rfl, only_trans (only_alloc (only_refl _ _) _) hg⟩
set_option maxHeartbeats 1000000 in
theorem spec4 (host file beg fin : Int) (la : Option Addr) (ln lc : Nat) (time weight : Int) (trace stream : ByteArray) (fa : Option Addr) (fn fc : Nat) (w : World) (h0 : -9223372036854775808 ≤ weight) (h1 : weight ≤ 9223372036854775807) (ht : Pow10 w) :
    Calls Tryz.prog 122 #[.agg #[.int .i64 host, .int .i64 file, .int .i64 beg, .int .i64 fin, .slice la ln lc, .int .i64 time, .int .i64 weight, .string trace, .string stream, .slice fa fn fc]] w (StrP w (itoaB weight)) := by
  have HT : Hid (∀ w', w.grownBy w' none → Calls Tryz.prog 119 #[.int .i64 weight] w' (StrP w' (itoaB weight))) := fun w' hg => itoa_any weight w' h0 h1 (ht.grown hg)
  clear h0 h1 ht
  go_enter Tryz.func122, Tryz.ntmps122
  go_wp2_with fail
  refine (HT.out _ (only_alloc (only_refl _ _) _)).mono ?_
  rintro e w1 ⟨rfl, hg⟩
  go_wp2_with fail
  go_ret
  exact ⟨rfl, only_trans (only_alloc (only_refl _ _) _) hg⟩
set_option maxHeartbeats 1000000 in
theorem spec5 (host file beg fin : Int) (la : Option Addr) (ln lc : Nat) (time weight : Int) (trace stream : ByteArray) (fa : Option Addr) (fn fc : Nat) (w : World) :
    Calls Tryz.prog 123 #[.agg #[.int .i64 host, .int .i64 file, .int .i64 beg, .int .i64 fin, .slice la ln lc, .int .i64 time, .int .i64 weight, .string trace, .string stream, .slice fa fn fc]] w (StrP w trace) := by
  go_enter Tryz.func123, Tryz.ntmps123
  go_wp2_with fail
  go_ret
  exact ⟨rfl, only_alloc (only_refl _ _) _⟩
set_option maxHeartbeats 1000000 in
theorem spec6 (host file beg fin : Int) (la : Option Addr) (ln lc : Nat) (time weight : Int) (trace stream : ByteArray) (fa : Option Addr) (fn fc : Nat) (w : World) :
    Calls Tryz.prog 124 #[.agg #[.int .i64 host, .int .i64 file, .int .i64 beg, .int .i64 fin, .slice la ln lc, .int .i64 time, .int .i64 weight, .string trace, .string stream, .slice fa fn fc]] w (StrP w stream) := by
  go_enter Tryz.func124, Tryz.ntmps124
  go_wp2_with fail
  go_ret
  exact ⟨rfl, only_alloc (only_refl _ _) _⟩
/-- the value of a field -/
def getF : List FieldD → ByteArray → Option ByteArray
  | [], _ => none
  | f :: fs, nm => if f.name = nm then some f.value else getF fs nm
def valV : Option ByteArray → Value
  | some s => .tuple #[.string s, .bool true]
  | none => .tuple #[.string ⟨#[]⟩, .bool false]
def ValP (w : World) (o : Option ByteArray) (e : Ending) (w' : World) : Prop := e = .returned (valV o) ∧ w.grownBy w' none
theorem str_ne {a b : ByteArray} (h : a ≠ b) : (a.toList == b.toList) = false := by
  rw [beq_eq_false_iff_ne]; exact fun e => h (toList_inj e)
set_option maxHeartbeats 2000000 in
theorem pget_any {S : Nat → Prop} (fa : Option Addr) (fields : List FieldD) (fc : Nat) (nm : ByteArray) (w : World) (hr : Rd S w fa (fields.flatMap FieldD.cells)) (hl : fields.length ≤ 1000000) :
    Calls Tryz.prog 125 #[.slice fa fields.length fc, .string nm] w (ValP w (getF fields nm)) := by
  have HR := Lib.hid hr
  clear hr
  go_enter Tryz.func125, Tryz.ntmps125
  go_wp2_with fail
  go_loopw [7, 10] (fun _ i wr => ∃ k : Nat, i = .int .i64 k ∧ k ≤ fields.length ∧ Hid (getF fields nm = getF (fields.drop k) nm) ∧ w.grownBy wr none) (fun _ i _ => fields.length - (intOf i).toNat)
  case atStart => exact ⟨0, rfl, Nat.zero_le _, Lib.hid rfl, only_refl _ _⟩
  case round =>
    obtain ⟨k, rfl, hk, HN, hG⟩ := hrel
    have G := Lib.hid hG
    clear hG
    by_cases hlt : k < fields.length
    · obtain ⟨y, hy⟩ : ∃ y, fields[k]? = some y := ⟨_, List.getElem?_eq_getElem hlt⟩
      obtain ⟨kb, ko, rfl, hkw, z0, z1⟩ := fld_in (HR.out.grown G.out (by simp)) hy
      have hd : fields.drop k = y :: fields.drop (k + 1) := by
        rw [List.getElem?_eq_getElem hlt] at hy
        injection hy with hy
        rw [← List.getElem_cons_drop hlt, hy]
      have i1 : (k : Int) < (fields.length : Int) := by omega
      by_cases he : y.name = nm
      · have q1 : (y.name.toList == nm.toList) = true := by rw [he]; simp
        have HV : Hid (getF fields nm = some y.value) := Lib.hid (by rw [HN.out, hd, getF, if_pos he])
        clear hy hd he
        go_wp2_with fail
        rw [HV.out]
        exact bodyPost_ret (v := valV (some y.value)) (by simp [results, Tryz.results125, go_sem, valV]) rfl ⟨rfl, only_alloc G.out _⟩
      · have q1 : (y.name.toList == nm.toList) = false := str_ne he
        have HV : Hid (getF fields nm = getF (fields.drop (k + 1)) nm) := Lib.hid (by rw [HN.out, hd, getF, if_neg he])
        clear hy hd he
        go_wp2_with fail
        go_roundw
        case rel => exact ⟨k + 1, by go_num, by omega, HV, only_alloc G.out _⟩
        case measure => simp [intOf]; omega
    · have i1 : ¬ (k : Int) < (fields.length : Int) := by omega
      have HV : Hid (getF fields nm = none) := Lib.hid (by rw [HN.out, List.drop_eq_nil_of_le (by omega)]; rfl)
      go_wp2_with fail
      rw [HV.out]
      exact bodyPost_ret (v := valV none) (by simp [results, Tryz.results125, go_sem, valV]) rfl ⟨rfl, G.out⟩
set_option maxHeartbeats 2000000 in
theorem eget_any {S : Nat → Prop} (e : Ev) (nm : ByteArray) (w : World) (hs : e.Sub S w) (hl : e.fields.length ≤ 1000000) :
    Calls Tryz.prog 94 #[.agg e.cells.toArray, .string nm] w (ValP w (getF e.fields nm)) := by
  have HG : Hid (∀ w', w.grownBy w' none → Calls Tryz.prog 125 #[.slice e.fa e.fields.length e.fc, .string nm] w' (ValP w' (getF e.fields nm))) := fun w' hg => pget_any e.fa e.fields e.fc nm w' (hs.2.1.grown hg (by simp)) hl
  clear hs hl
  obtain ⟨host, file, beg, fin, lines, time, weight, trace, stream, fields, la, lc, fa, fc⟩ := e
  simp only at HG
  obtain ⟨o, ho⟩ : ∃ o, o = getF fields nm := ⟨_, rfl⟩
  rw [← ho] at HG
  show Calls _ _ #[.agg #[.int .i64 host, .int .i64 file, .int .i64 beg, .int .i64 fin, .slice la lines.length lc, .int .i64 time, .int .i64 weight, .string trace, .string stream, .slice fa fields.length fc], .string nm] w (ValP w (getF fields nm))
  rw [← ho]
  clear ho
  go_enter Tryz.func94, Tryz.ntmps94
  go_wp2_with fail
  refine (HG.out _ (only_alloc (only_refl _ _) _)).mono ?_
  rintro e w1 ⟨rfl, hg⟩
  have G := Lib.hid (only_trans (only_alloc (only_refl _ _) _) hg)
  clear hg
  cases o with
  | none =>
    simp only [valV]
    go_wp2_with fail
    exact bodyPost_ret (v := valV none) (by simp [results, Tryz.results94, go_sem, valV]) rfl ⟨rfl, G.out⟩
  | some s =>
    simp only [valV]
    go_wp2_with fail
    exact bodyPost_ret (v := valV (some s)) (by simp [results, Tryz.results94, go_sem, valV]) rfl ⟨rfl, G.out⟩
/-- the value of a name -/
def valOf (e : Ev) (nm : ByteArray) : Option ByteArray :=
  if nm = nHost then some (itoaB e.host) else if nm = nFile then some (itoaB e.file) else if nm = nTime then some (itoaB e.time) else if nm = nWeight then some (itoaB e.weight)
  else if nm = nTrace then some e.trace else if nm = nStream then some e.stream else getF e.fields nm
def I64 (n : Int) : Prop := -9223372036854775808 ≤ n ∧ n ≤ 9223372036854775807
def EvI (e : Ev) : Prop := I64 e.host ∧ I64 e.file ∧ I64 e.time ∧ I64 e.weight ∧ e.fields.length ≤ 1000000
theorem ents_keys : SKeys ents.toList := by
  intro e he
  simp only [ents, List.mem_cons, List.not_mem_nil, or_false] at he
  rcases he with rfl | rfl | rfl | rfl | rfl | rfl <;> exact ⟨_, by decide, rfl⟩
theorem ents_v1 : ∀ e ∈ ents.toList, e.key = .string nHost → e.val = fnV 118 := by
  intro e he h
  simp only [ents, List.mem_cons, List.not_mem_nil, or_false] at he
  rcases he with rfl | rfl | rfl | rfl | rfl | rfl <;> first | rfl | (exfalso; injection h with h; revert h; decide)
theorem ents_v2 : ∀ e ∈ ents.toList, e.key = .string nFile → e.val = fnV 120 := by
  intro e he h
  simp only [ents, List.mem_cons, List.not_mem_nil, or_false] at he
  rcases he with rfl | rfl | rfl | rfl | rfl | rfl <;> first | rfl | (exfalso; injection h with h; revert h; decide)
theorem ents_v3 : ∀ e ∈ ents.toList, e.key = .string nTime → e.val = fnV 121 := by
  intro e he h
  simp only [ents, List.mem_cons, List.not_mem_nil, or_false] at he
  rcases he with rfl | rfl | rfl | rfl | rfl | rfl <;> first | rfl | (exfalso; injection h with h; revert h; decide)
theorem ents_v4 : ∀ e ∈ ents.toList, e.key = .string nWeight → e.val = fnV 122 := by
  intro e he h
  simp only [ents, List.mem_cons, List.not_mem_nil, or_false] at he
  rcases he with rfl | rfl | rfl | rfl | rfl | rfl <;> first | rfl | (exfalso; injection h with h; revert h; decide)
theorem ents_v5 : ∀ e ∈ ents.toList, e.key = .string nTrace → e.val = fnV 123 := by
  intro e he h
  simp only [ents, List.mem_cons, List.not_mem_nil, or_false] at he
  rcases he with rfl | rfl | rfl | rfl | rfl | rfl <;> first | rfl | (exfalso; injection h with h; revert h; decide)
theorem ents_v6 : ∀ e ∈ ents.toList, e.key = .string nStream → e.val = fnV 124 := by
  intro e he h
  simp only [ents, List.mem_cons, List.not_mem_nil, or_false] at he
  rcases he with rfl | rfl | rfl | rfl | rfl | rfl <;> first | rfl | (exfalso; injection h with h; revert h; decide)
theorem ents_no {nm : ByteArray} (h1 : nm ≠ nHost) (h2 : nm ≠ nFile) (h3 : nm ≠ nTime) (h4 : nm ≠ nWeight) (h5 : nm ≠ nTrace) (h6 : nm ≠ nStream) : ∀ e ∈ ents.toList, e.key ≠ .string nm := by
  intro e he h
  simp only [ents, List.mem_cons, List.not_mem_nil, or_false] at he
  rcases he with rfl | rfl | rfl | rfl | rfl | rfl <;> (injection h with h; first | exact h1 h.symm | exact h2 h.symm | exact h3 h.symm | exact h4 h.symm | exact h5 h.symm | exact h6 h.symm)
set_option maxHeartbeats 4000000 in
set_option maxRecDepth 100000 in
theorem val_any {S : Nat → Prop} (e : Ev) (nm : ByteArray) (w : World) (hs : e.Sub S w) (hi : EvI e) (hn : nm.size ≤ maxLen) (ht : Pow10 w) :
    Calls Tryz.prog 67 #[.agg e.cells.toArray, .string nm] w (ValP w (valOf e nm)) := by
  have HG : Hid (∀ w', w.grownBy w' none → Calls Tryz.prog 94 #[.agg e.cells.toArray, .string nm] w' (ValP w' (getF e.fields nm))) := fun w' hg => eget_any e nm w' (hs.grown hg (by simp)) hi.2.2.2.2
  have HT : Hid (∀ w', w.grownBy w' none → Pow10 w') := Lib.hid (fun w' hg => ht.grown hg)
  have HI := Lib.hid hi
  have HN := Lib.hid hn
  clear hs hi hn ht
  obtain ⟨host, file, beg, fin, lines, time, weight, trace, stream, fields, la, lc, fa, fc⟩ := e
  have hcl : (Ev.mk host file beg fin lines time weight trace stream fields la lc fa fc).cells.toArray = #[.int .i64 host, .int .i64 file, .int .i64 beg, .int .i64 fin, .slice la lines.length lc, .int .i64 time, .int .i64 weight, .string trace, .string stream, .slice fa fields.length fc] := rfl
  rw [hcl] at HG ⊢
  clear hcl
  go_enter Tryz.func67, Tryz.ntmps67
  go_wp2_with fail
  refine (special_any _).mono ?_
  rintro e w1 ⟨rfl, hsp, hg1⟩
  have hB := (Blk.new w 35 #[.int .i64 host, .int .i64 file, .int .i64 beg, .int .i64 fin, .slice la lines.length lc, .int .i64 time, .int .i64 weight, .string trace, .string stream, .slice fa fields.length fc]).grown hg1 (by simp)
  have b0 := hB.cell 0; have b1 := hB.cell 1; have b2 := hB.cell 2; have b3 := hB.cell 3; have b4 := hB.cell 4; have b5 := hB.cell 5; have b6 := hB.cell 6; have b7 := hB.cell 7; have b8 := hB.cell 8; have b9 := hB.cell 9
  simp at b0 b1 b2 b3 b4 b5 b6 b7 b8 b9
  have G1 : Hid (w.grownBy w1 none) := only_trans (only_alloc (only_refl _ _) _) hg1
  obtain ⟨b, hb⟩ : ∃ b, b = (w.alloc (.cells #[.int .i64 host, .int .i64 file, .int .i64 beg, .int .i64 fin, .slice la lines.length lc, .int .i64 time, .int .i64 weight, .string trace, .string stream, .slice fa fields.length fc] 35)).heap.size := ⟨_, rfl⟩
  rw [← hb] at hsp ⊢
  have SP := Lib.hid hsp
  clear hb hg1 hB hsp
  by_cases h1 : nm = nHost
  · have HV : Hid (valOf ⟨host, file, beg, fin, lines, time, weight, trace, stream, fields, la, lc, fa, fc⟩ nm = some (itoaB host)) := Lib.hid (by rw [h1]; rfl)
    have hrun := run_look_yes (s := nm) SP.out ents_keys HN.out rfl (by rw [h1]; exact ents_v1) ⟨⟨.string nHost, fnV 118, 0⟩, by simp [ents], by rw [h1]⟩
    clear h1
    simp only [fnV] at hrun
    go_wp2_with fail
    refine (spec1 host file beg fin la lines.length lc time weight trace stream fa fields.length fc w1 HI.out.1.1 HI.out.1.2 (HT.out _ G1.out)).mono ?_
    rintro e w2 ⟨rfl, hg2⟩
    go_wp2_with fail
    rw [HV.out]
    exact bodyPost_ret (v := valV (some (itoaB host))) (by simp [results, Tryz.results67, go_sem, valV]) rfl ⟨rfl, only_trans G1.out hg2⟩
  by_cases h2 : nm = nFile
  · have HV : Hid (valOf ⟨host, file, beg, fin, lines, time, weight, trace, stream, fields, la, lc, fa, fc⟩ nm = some (itoaB file)) := Lib.hid (by rw [h2]; rfl)
    have hrun := run_look_yes (s := nm) SP.out ents_keys HN.out rfl (by rw [h2]; exact ents_v2) ⟨⟨.string nFile, fnV 120, 1⟩, by simp [ents], by rw [h2]⟩
    clear h1 h2
    simp only [fnV] at hrun
    go_wp2_with fail
    refine (spec2 host file beg fin la lines.length lc time weight trace stream fa fields.length fc w1 HI.out.2.1.1 HI.out.2.1.2 (HT.out _ G1.out)).mono ?_
    rintro e w2 ⟨rfl, hg2⟩
    go_wp2_with fail
    rw [HV.out]
    exact bodyPost_ret (v := valV (some (itoaB file))) (by simp [results, Tryz.results67, go_sem, valV]) rfl ⟨rfl, only_trans G1.out hg2⟩
  by_cases h3 : nm = nTime
  · have HV : Hid (valOf ⟨host, file, beg, fin, lines, time, weight, trace, stream, fields, la, lc, fa, fc⟩ nm = some (itoaB time)) := Lib.hid (by rw [h3]; rfl)
    have hrun := run_look_yes (s := nm) SP.out ents_keys HN.out rfl (by rw [h3]; exact ents_v3) ⟨⟨.string nTime, fnV 121, 2⟩, by simp [ents], by rw [h3]⟩
    clear h1 h2 h3
    simp only [fnV] at hrun
    go_wp2_with fail
    refine (spec3 host file beg fin la lines.length lc time weight trace stream fa fields.length fc w1 HI.out.2.2.1.1 HI.out.2.2.1.2 (HT.out _ G1.out)).mono ?_
    rintro e w2 ⟨rfl, hg2⟩
    go_wp2_with fail
    rw [HV.out]
    exact bodyPost_ret (v := valV (some (itoaB time))) (by simp [results, Tryz.results67, go_sem, valV]) rfl ⟨rfl, only_trans G1.out hg2⟩
  by_cases h4 : nm = nWeight
  · have HV : Hid (valOf ⟨host, file, beg, fin, lines, time, weight, trace, stream, fields, la, lc, fa, fc⟩ nm = some (itoaB weight)) := Lib.hid (by rw [h4]; rfl)
    have hrun := run_look_yes (s := nm) SP.out ents_keys HN.out rfl (by rw [h4]; exact ents_v4) ⟨⟨.string nWeight, fnV 122, 3⟩, by simp [ents], by rw [h4]⟩
    clear h1 h2 h3 h4
    simp only [fnV] at hrun
    go_wp2_with fail
    refine (spec4 host file beg fin la lines.length lc time weight trace stream fa fields.length fc w1 HI.out.2.2.2.1.1 HI.out.2.2.2.1.2 (HT.out _ G1.out)).mono ?_
    rintro e w2 ⟨rfl, hg2⟩
    go_wp2_with fail
    rw [HV.out]
    exact bodyPost_ret (v := valV (some (itoaB weight))) (by simp [results, Tryz.results67, go_sem, valV]) rfl ⟨rfl, only_trans G1.out hg2⟩
  by_cases h5 : nm = nTrace
  · have HV : Hid (valOf ⟨host, file, beg, fin, lines, time, weight, trace, stream, fields, la, lc, fa, fc⟩ nm = some trace) := Lib.hid (by rw [h5]; rfl)
    have hrun := run_look_yes (s := nm) SP.out ents_keys HN.out rfl (by rw [h5]; exact ents_v5) ⟨⟨.string nTrace, fnV 123, 4⟩, by simp [ents], by rw [h5]⟩
    clear h1 h2 h3 h4 h5
    simp only [fnV] at hrun
    go_wp2_with fail
    refine (spec5 host file beg fin la lines.length lc time weight trace stream fa fields.length fc w1).mono ?_
    rintro e w2 ⟨rfl, hg2⟩
    go_wp2_with fail
    rw [HV.out]
    exact bodyPost_ret (v := valV (some trace)) (by simp [results, Tryz.results67, go_sem, valV]) rfl ⟨rfl, only_trans G1.out hg2⟩
  by_cases h6 : nm = nStream
  · have HV : Hid (valOf ⟨host, file, beg, fin, lines, time, weight, trace, stream, fields, la, lc, fa, fc⟩ nm = some stream) := Lib.hid (by rw [h6]; rfl)
    have hrun := run_look_yes (s := nm) SP.out ents_keys HN.out rfl (by rw [h6]; exact ents_v6) ⟨⟨.string nStream, fnV 124, 5⟩, by simp [ents], by rw [h6]⟩
    clear h1 h2 h3 h4 h5 h6
    simp only [fnV] at hrun
    go_wp2_with fail
    refine (spec6 host file beg fin la lines.length lc time weight trace stream fa fields.length fc w1).mono ?_
    rintro e w2 ⟨rfl, hg2⟩
    go_wp2_with fail
    rw [HV.out]
    exact bodyPost_ret (v := valV (some stream)) (by simp [results, Tryz.results67, go_sem, valV]) rfl ⟨rfl, only_trans G1.out hg2⟩
  have HV : Hid (valOf ⟨host, file, beg, fin, lines, time, weight, trace, stream, fields, la, lc, fa, fc⟩ nm = getF fields nm) := Lib.hid (by unfold valOf; rw [if_neg h1, if_neg h2, if_neg h3, if_neg h4, if_neg h5, if_neg h6])
  have hrun := run_look_no (s := nm) SP.out ents_keys HN.out rfl (ents_no h1 h2 h3 h4 h5 h6)
  clear h1 h2 h3 h4 h5 h6
  go_wp2_with fail
  refine (HG.out _ G1.out).mono ?_
  obtain ⟨o, ho⟩ : ∃ o, o = getF fields nm := ⟨_, rfl⟩
  rw [← ho] at HV ⊢
  clear ho HG
  rintro e w2 ⟨rfl, hg2⟩
  have G2 := Lib.hid (only_trans G1.out hg2)
  clear hg2
  cases o with
  | none =>
    simp only [valV]
    go_wp2_with fail
    rw [HV.out]
    exact bodyPost_ret (v := valV none) (by simp [results, Tryz.results67, go_sem, valV]) rfl ⟨rfl, G2.out⟩
  | some s =>
    simp only [valV]
    go_wp2_with fail
    rw [HV.out]
    exact bodyPost_ret (v := valV (some s)) (by simp [results, Tryz.results67, go_sem, valV]) rfl ⟨rfl, G2.out⟩
end Go.Proofs.YtceebhgbebkafaaGreatDoor
namespace Go.Proofs.YtceebhgbebkafaaGreatDoor
open Go.RowKit
set_option linter.unusedVariables false
set_option linter.unusedSimpArgs false

/-- the number that digits spell, behind those that have been read -/
def numF : List Int → Int → Option Int
  | [], n => some n
  | x :: xs, n => if 48 ≤ x ∧ x ≤ 57 then numF xs (10 * n + (x - 48)) else none
def minusB (s : ByteArray) : Bool := Lib.hasPrefix s.data.toList [45]
def digsOf (s : ByteArray) : List Int := if minusB s then (bts s).drop 1 else bts s
def parseN (s : ByteArray) : Option Int :=
  if (digsOf s).length < 1 ∨ 18 < (digsOf s).length then none else (numF (digsOf s) 0).map (fun n => if minusB s then -n else n)
def numV : Option Int → Value
  | some n => .tuple #[.int .i64 n, .bool true]
  | none => .tuple #[.int .i64 0, .bool false]
def NumP (w : World) (o : Option Int) (e : Ending) (w' : World) : Prop := e = .returned (numV o) ∧ w.grownBy w' none
theorem hp_one (l : List UInt8) : Lib.hasPrefix l [45] = true → ∃ t, l = 45 :: t := by
  intro h
  cases l with
  | nil => simp [Lib.hasPrefix] at h
  | cons x t =>
    refine ⟨t, ?_⟩
    simp [Lib.hasPrefix] at h
    rw [h]
/-- what TrimPrefix leaves -/
def trimB (s : ByteArray) : ByteArray := ⟨(Lib.trimPrefix s.data.toList [45]).toArray⟩
theorem trimB_bts (s : ByteArray) : bts (trimB s) = digsOf s := by
  unfold trimB digsOf minusB Lib.trimPrefix bts
  by_cases h : Lib.hasPrefix s.data.toList [45] = true
  · simp [h]
  · have h' : Lib.hasPrefix s.data.toList [45] = false := by simpa using h
    simp [h']
theorem trimB_ne (s : ByteArray) : (trimB s).toList = s.toList ↔ minusB s = false := by
  unfold trimB minusB Lib.trimPrefix
  rw [ByteArray.toList_eq, ByteArray.toList_eq]
  by_cases h : Lib.hasPrefix s.data.toList [45] = true
  · obtain ⟨t, ht⟩ := hp_one _ h
    rw [ht] at h ⊢
    simp [h]
  · have h' : Lib.hasPrefix s.data.toList [45] = false := by simpa using h
    simp [h']
theorem ten_pow {k : Nat} (h : k ≤ 18) : (10 : Int) ^ k ≤ 1000000000000000000 := by
  have : (10 : Nat) ^ k ≤ 10 ^ 18 := Nat.pow_le_pow_right (by omega) h
  have h2 : ((10 ^ k : Nat) : Int) ≤ ((10 ^ 18 : Nat) : Int) := Int.ofNat_le.2 this
  simpa using h2
theorem btsN_size (s : ByteArray) : (bts s).length = s.size := by simp [bts]
theorem bytes_grown (w : World) (e : TypeId) (s : ByteArray) : w.grownBy (Lib.bytesWorld w e s) none :=
  ⟨rfl, rfl, rfl, by rw [Lib.bytesWorld_size]; omega, fun i hi _ => Lib.bytesWorld_at_old w e s i hi⟩
set_option maxHeartbeats 4000000 in
set_option maxRecDepth 100000 in
theorem parse_any (s : ByteArray) (w : World) (hs : s.size ≤ 1000000) :
    Calls Tryz.prog 126 #[.string s] w (NumP w (parseN s)) := by
  have HT : Hid (∀ w', Calls Tryz.prog 142 #[.string s, .string ⟨#[45]⟩] w' fun e w'' => e = .returned (.string (trimB s)) ∧ w'' = w') := fun w' => Tryz.strings_TrimPrefix s ⟨#[45]⟩ w'
  obtain ⟨d, hd⟩ : ∃ d, d = trimB s := ⟨_, rfl⟩
  have HB : Hid (bts d = digsOf s) := Lib.hid (by rw [hd]; exact trimB_bts s)
  have HN : Hid (d.toList = s.toList ↔ minusB s = false) := Lib.hid (by rw [hd]; exact trimB_ne s)
  have HL : Hid ((digsOf s).length = d.size) := Lib.hid (by rw [← HB.out, btsN_size])
  have hdl : d.size ≤ 1000000 := by
    rw [← HL.out]; unfold digsOf; split
    · rw [List.length_drop, btsN_size]; omega
    · rw [btsN_size]; exact hs
  rw [← hd] at HT
  clear hd hs
  go_enter Tryz.func126, Tryz.ntmps126
  go_wp2_with fail
  refine (HT.out _).mono ?_
  rintro e w1 ⟨rfl, rfl⟩
  by_cases hlen : d.size < 1 ∨ 18 < d.size
  · have HV : Hid (parseN s = none) := Lib.hid (by unfold parseN; rw [HL.out, if_pos hlen])
    rcases hlen with h1 | h1
    · have i1 : (d.size : Int) < 1 := by omega
      go_wp2_with fail
      rw [HV.out]
      exact bodyPost_ret (v := numV none) (by simp [results, Tryz.results126, go_sem, numV]) rfl ⟨rfl, only_refl _ _⟩
    · have i1 : ¬ (d.size : Int) < 1 := by omega
      have i2 : (18 : Int) < (d.size : Int) := by omega
      go_wp2_with fail
      rw [HV.out]
      exact bodyPost_ret (v := numV none) (by simp [results, Tryz.results126, go_sem, numV]) rfl ⟨rfl, only_refl _ _⟩
  · have i1 : ¬ (d.size : Int) < 1 := by omega
    have i2 : ¬ (18 : Int) < (d.size : Int) := by omega
    have hd1 : 1 ≤ d.size := by omega
    have hd2 : d.size ≤ 18 := by omega
    have HV : Hid (parseN s = (numF (bts d) 0).map (fun n => if minusB s then -n else n)) := Lib.hid (by unfold parseN; rw [HL.out, if_neg hlen, HB.out])
    clear hlen
    have hcv := Lib.run_convert_string_bytes (P := Tryz.prog) w1 9 22 5 d Tryz.underlying9 Tryz.underlying22 Tryz.underlying5
    have hcell := Lib.bytesWorld_cell w1 5 d
    have hG := bytes_grown w1 5 d
    obtain ⟨W, hW⟩ : ∃ W, W = Lib.bytesWorld w1 5 d := ⟨_, rfl⟩
    obtain ⟨cp, hcp⟩ : ∃ c, c = grownCap w1 d.size 0 5 := ⟨_, rfl⟩
    obtain ⟨r, hr⟩ : ∃ r, r = w1.heap.size := ⟨_, rfl⟩
    rw [← hW, ← hcp, ← hr] at hcv
    rw [← hW, ← hr] at hcell
    rw [← hW] at hG
    have CL : Hid (∀ j x, (bts d)[j]? = some x → W.cell? ⟨r, j, none⟩ = some (.int .u8 x)) := Lib.hid (fun j x hx => by
      have hj : j < d.size := by rw [← btsN_size]; exact (List.getElem?_eq_some_iff.1 hx).1
      rw [hcell j hj]
      unfold bts at hx
      rw [List.getElem?_map] at hx
      have hl : j < d.data.toList.length := hj
      rw [List.getElem?_eq_getElem hl] at hx
      injection hx with hx
      rw [← hx, List.getD_eq_getElem?_getD, List.getElem?_eq_getElem hl]
      rfl)
    have GW := Lib.hid hG
    have hbl : (bts d).length = d.size := btsN_size d
    have HBL := Lib.hid hbl
    have HX : Hid (∀ x ∈ bts d, 0 ≤ x ∧ x ≤ 255) := Lib.hid (fun x hx => by
      unfold bts at hx
      obtain ⟨b, _, rfl⟩ := List.mem_map.1 hx
      have := b.toNat_lt
      omega)
    clear hW hcp hr hcell hG hbl
    go_wp2_with fail
    go_loopw [5, 7, 21] (fun vn _ i wr => ∃ (k : Nat) (n : Int), i = .int .i64 k ∧ vn = .int .i64 n ∧ k ≤ d.size ∧ Hid (numF (bts d) 0 = numF ((bts d).drop k) n) ∧ 0 ≤ n ∧ Hid (n < 10 ^ k) ∧ W.grownBy wr none) (fun _ _ i _ => d.size - (intOf i).toNat)
    case atStart => exact ⟨0, 0, rfl, rfl, Nat.zero_le _, Lib.hid rfl, Int.le_refl _, Lib.hid (by decide), only_refl _ _⟩
    case round =>
      obtain ⟨k, n, rfl, rfl, hk, HF, hn0, HP, hG⟩ := hrel
      have G := Lib.hid hG
      have G1 := Lib.hid (only_trans GW.out hG)
      clear hG
      have hn1 : n < 1000000000000000000 := Int.lt_of_lt_of_le HP.out (ten_pow (by omega))
      by_cases hlt : k < d.size
      · obtain ⟨x, hx⟩ : ∃ x, (bts d)[k]? = some x := ⟨_, List.getElem?_eq_getElem (by rw [HBL.out]; exact hlt)⟩
        obtain ⟨hx0, hx1⟩ := HX.out x (List.mem_of_getElem? hx)
        have hcx := CL.out k x hx
        have hlr : r < W.heap.size := World.block_lt_of_cell? W _ hcx
        have hcx2 : wr.cell? ⟨r, k, none⟩ = some (.int .u8 x) := (G.out.cell_far ⟨r, k, none⟩ hlr (by simp)).trans hcx
        have hd : (bts d).drop k = x :: (bts d).drop (k + 1) := by
          obtain ⟨hkl, e⟩ := List.getElem?_eq_some_iff.1 hx
          rw [← List.getElem_cons_drop hkl, e]
        have HD := Lib.hid hd
        have j1 : (k : Int) < (d.size : Int) := by omega
        clear hx hcx hd hcv
        by_cases hdig : 48 ≤ x ∧ x ≤ 57
        · obtain ⟨c1, c2⟩ := hdig
          have hn2 : n < 100000000000000000 := Int.lt_of_lt_of_le HP.out (by
            have : (10 : Nat) ^ k ≤ 10 ^ 17 := Nat.pow_le_pow_right (by omega) (by omega)
            have h2 : ((10 ^ k : Nat) : Int) ≤ ((10 ^ 17 : Nat) : Int) := Int.ofNat_le.2 this
            simpa using h2)
          have HF2 : Hid (numF (bts d) 0 = numF ((bts d).drop (k + 1)) (10 * n + (x - 48))) := Lib.hid (by rw [HF.out, HD.out, numF, if_pos ⟨c1, c2⟩])
          have HP2 : Hid (10 * n + (x - 48) < 10 ^ (k + 1)) := Lib.hid (by
            have := HP.out
            rw [Int.pow_succ]; omega)
          clear hn1
          go_wp2_with fail
          go_roundw
          case rel => exact ⟨k + 1, 10 * n + (x - 48), by go_num, by go_num, by omega, HF2, by omega, HP2, G.out⟩
          case measure => simp [intOf]; omega
        · have HF2 : Hid (parseN s = none) := Lib.hid (by rw [HV.out, HF.out, HD.out, numF, if_neg hdig]; rfl)
          by_cases c1 : x < 48
          · clear hdig
            go_wp2_with fail
            rw [HF2.out]
            exact bodyPost_ret (v := numV none) (by simp [results, Tryz.results126, go_sem, numV]) rfl ⟨rfl, G1.out⟩
          · have c2 : 57 < x := by omega
            clear hdig
            go_wp2_with fail
            rw [HF2.out]
            exact bodyPost_ret (v := numV none) (by simp [results, Tryz.results126, go_sem, numV]) rfl ⟨rfl, G1.out⟩
      · have j1 : ¬ (k : Int) < (d.size : Int) := by omega
        have HF2 : Hid (numF (bts d) 0 = some n) := Lib.hid (by rw [HF.out, List.drop_eq_nil_of_le (by rw [HBL.out]; omega)]; rfl)
        clear hcv
        by_cases hm : minusB s = true
        · have HR : Hid (parseN s = some (-n)) := Lib.hid (by rw [HV.out, HF2.out]; simp [hm])
          have q1 : (d.toList == s.toList) = false := by
            rw [beq_eq_false_iff_ne]; intro e; have := HN.out.1 e; rw [hm] at this; cases this
          have q2 : (d.toList != s.toList) = true := by rw [bne, q1]; rfl
          clear hm
          go_wp2_with fail
          rw [HR.out]
          exact bodyPost_ret (v := numV (some (-n))) (by simp [results, Tryz.results126, go_sem, numV]) rfl ⟨rfl, G1.out⟩
        · have hm' : minusB s = false := by simpa using hm
          have HR : Hid (parseN s = some n) := Lib.hid (by rw [HV.out, HF2.out]; simp [hm'])
          have q1 : (d.toList == s.toList) = true := by rw [HN.out.2 hm']; simp
          have q2 : (d.toList != s.toList) = false := by rw [bne, q1]; rfl
          clear hm hm'
          go_wp2_with fail
          rw [HR.out]
          exact bodyPost_ret (v := numV (some n)) (by simp [results, Tryz.results126, go_sem, numV]) rfl ⟨rfl, G1.out⟩
end Go.Proofs.YtceebhgbebkafaaGreatDoor
