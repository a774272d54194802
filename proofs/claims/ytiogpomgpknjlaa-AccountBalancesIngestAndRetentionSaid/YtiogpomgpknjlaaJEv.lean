/- Events, lines, fields and items as plain data, and how they lie in memory. No condition. -/
import Derived.Test.YtiogpomgpknjlaaJTal
import Derived.Deep.RegionLaw
import Derived.Deep.DeepMust
import Derived.Deep.RegionWith
import Derived.Test.YtiogpomgpknjlaaJCloneT
namespace Go.Proofs.Ytiogpomgpknjlaa
open Go.RowKit
set_option linter.unusedVariables false
set_option linter.unusedSimpArgs false

structure LineD where
  off : Int
  len : Int
  text : ByteArray
structure FieldD where
  name : ByteArray
  value : ByteArray
def LineD.cells (x : LineD) : List Value := [.int .i64 x.off, .int .i64 x.len, .string x.text]
def FieldD.cells (x : FieldD) : List Value := [.string x.name, .string x.value]
/-- an event, with the places of its lines and fields -/
structure Ev where
  host : Int
  file : Int
  beg : Int
  fin : Int
  lines : List LineD
  time : Int
  weight : Int
  trace : ByteArray
  stream : ByteArray
  fields : List FieldD
  la : Option Addr
  lc : Nat
  fa : Option Addr
  fc : Nat
def Ev.cells (e : Ev) : List Value :=
  [.int .i64 e.host, .int .i64 e.file, .int .i64 e.beg, .int .i64 e.fin, .slice e.la e.lines.length e.lc, .int .i64 e.time, .int .i64 e.weight, .string e.trace, .string e.stream, .slice e.fa e.fields.length e.fc]
structure It where
  rule : ByteArray
  ev : Ev
def It.cells (x : It) : List Value := .string x.rule :: x.ev.cells

def Ev.Sub (S : Nat → Prop) (w : World) (e : Ev) : Prop :=
  Rd S w e.la (e.lines.flatMap LineD.cells) ∧ Rd S w e.fa (e.fields.flatMap FieldD.cells) ∧ e.lines.length ≤ e.lc ∧ e.lc ≤ maxLen ∧ e.fields.length ≤ e.fc ∧ e.fc ≤ maxLen
theorem Ev.Sub.grown {S : Nat → Prop} {w w' : World} {e : Ev} {row : Option Nat} (h : e.Sub S w) (hg : w.grownBy w' row) (hr : ∀ b, S b → some b ≠ row) : e.Sub S w' :=
  ⟨h.1.grown hg hr, h.2.1.grown hg hr, h.2.2⟩
theorem Ev.Sub.mono {S S' : Nat → Prop} {w : World} {e : Ev} (h : e.Sub S w) (hS : ∀ b, S b → b < w.heap.size → S' b) : e.Sub S' w := ⟨h.1.mono hS, h.2.1.mono hS, h.2.2⟩
theorem Ev.Sub.drewN {S : Nat → Prop} {w : World} {e : Ev} (h : e.Sub S w) (n : Nat) : e.Sub S (w.drewN n) := h

/-- a slice of events -/
def Evs (S : Nat → Prop) (w : World) (A : Option Addr) (es : List Ev) : Prop := Rd S w A (es.flatMap Ev.cells) ∧ ∀ e ∈ es, e.Sub S w
theorem Evs.grown {S : Nat → Prop} {w w' : World} {A : Option Addr} {es : List Ev} {row : Option Nat} (h : Evs S w A es) (hg : w.grownBy w' row) (hr : ∀ b, S b → some b ≠ row) : Evs S w' A es :=
  ⟨h.1.grown hg hr, fun e he => (h.2 e he).grown hg hr⟩
theorem Evs.mono {S S' : Nat → Prop} {w : World} {A : Option Addr} {es : List Ev} (h : Evs S w A es) (hS : ∀ b, S b → b < w.heap.size → S' b) : Evs S' w A es :=
  ⟨h.1.mono hS, fun e he => (h.2 e he).mono hS⟩
theorem Evs.drewN {S : Nat → Prop} {w : World} {A : Option Addr} {es : List Ev} (h : Evs S w A es) (n : Nat) : Evs S (w.drewN n) A es := h

theorem Ev.cells_len (e : Ev) : e.cells.length = 10 := rfl
theorem It.cells_len (e : It) : e.cells.length = 11 := rfl
theorem LineD.cells_len (e : LineD) : e.cells.length = 3 := rfl
theorem FieldD.cells_len (e : FieldD) : e.cells.length = 2 := rfl

/-- lines that follow each other from one place of a file to another -/
def Chain : Int → List LineD → Int → Prop
  | a, [], b => a = b
  | a, x :: xs, b => x.off = a ∧ x.text.size + 1 ≤ x.len ∧ x.len ≤ 60 ∧ Chain (a + x.len) xs b
theorem Chain.snoc {a b : Int} {xs : List LineD} (h : Chain a xs b) (x : LineD) (h1 : x.off = b) (h2 : x.text.size + 1 ≤ x.len) (h3 : x.len ≤ 60) : Chain a (xs ++ [x]) (b + x.len) := by
  induction xs generalizing a with
  | nil => simp only [Chain] at h; subst h; exact ⟨h1, h2, h3, rfl⟩
  | cons y ys ih => exact ⟨h.1, h.2.1, h.2.2.1, ih h.2.2.2⟩
theorem Chain.le {a b : Int} {xs : List LineD} (h : Chain a xs b) : a + xs.length ≤ b ∧ b ≤ a + 60 * xs.length := by
  induction xs generalizing a with
  | nil => simp only [Chain] at h; simp; omega
  | cons y ys ih => have := ih h.2.2.2; have := h.2.1; have := h.2.2.1; simp; omega
end Go.Proofs.Ytiogpomgpknjlaa

namespace Go.Proofs.Ytiogpomgpknjlaa
open Go.RowKit
set_option linter.unusedVariables false
set_option linter.unusedSimpArgs false

def Ev.less (a b : Ev) : Bool :=
  if a.time ≠ b.time then decide (a.time < b.time) else if a.host ≠ b.host then decide (a.host < b.host) else if a.file ≠ b.file then decide (a.file < b.file) else decide (a.beg < b.beg)
def BoolExt (b : Bool) (w : World) (e : Ending) (w' : World) : Prop := e = .returned (.bool b) ∧ w.grownBy w' none

set_option maxHeartbeats 1000000 in
theorem rless_any (a b : Ev) (w : World) : Calls Try.prog 62 #[.agg a.cells.toArray, .agg b.cells.toArray] w (BoolExt (a.less b) w) := by
  have hE : w.grownBy ((w.alloc (.cells a.cells.toArray 75)).alloc (.cells b.cells.toArray 75)) none := only_alloc (only_alloc (only_refl _ _) _) _
  have HE := Lib.hid hE
  clear hE
  simp only [Ev.cells] at HE ⊢
  by_cases h1 : a.time = b.time
  · have b1 : (a.time != b.time) = false := by simp [h1]
    by_cases h2 : a.host = b.host
    · have b2 : (a.host != b.host) = false := by simp [h2]
      by_cases h3 : a.file = b.file
      · have b3 : (a.file != b.file) = false := by simp [h3]
        have hl : a.less b = decide (a.beg < b.beg) := by simp [Ev.less, h1, h2, h3]
        rw [hl]
        clear h1 h2 h3 hl
        go_enter Try.func62, Try.ntmps62
        go_wp2
        go_ret
        exact ⟨rfl, HE.out⟩
      · have b3 : (a.file != b.file) = true := by simp [h3]
        have hl : a.less b = decide (a.file < b.file) := by simp [Ev.less, h1, h2, h3]
        rw [hl]
        clear h1 h2 h3 hl
        go_enter Try.func62, Try.ntmps62
        go_wp2
        go_ret
        exact ⟨rfl, HE.out⟩
    · have b2 : (a.host != b.host) = true := by simp [h2]
      have hl : a.less b = decide (a.host < b.host) := by simp [Ev.less, h1, h2]
      rw [hl]
      clear h1 h2 hl
      go_enter Try.func62, Try.ntmps62
      go_wp2
      go_ret
      exact ⟨rfl, HE.out⟩
  · have b1 : (a.time != b.time) = true := by simp [h1]
    have hl : a.less b = decide (a.time < b.time) := by simp [Ev.less, h1]
    rw [hl]
    clear h1 hl
    go_enter Try.func62, Try.ntmps62
    go_wp2
    go_ret
    exact ⟨rfl, HE.out⟩
end Go.Proofs.Ytiogpomgpknjlaa

namespace Go.Proofs.Ytiogpomgpknjlaa
open Go.RowKit
set_option linter.unusedVariables false
set_option linter.unusedSimpArgs false

def zeroEv : Value := .agg #[.int .i64 0, .int .i64 0, .int .i64 0, .int .i64 0, .slice none 0 0, .int .i64 0, .int .i64 0, .string ⟨#[]⟩, .string ⟨#[]⟩, .slice none 0 0]
theorem eventInfo : (Try.prog.info? 75).map (fun i => (i.zero, i.size, i.bytes)) = some (some zeroEv, 10, 128) := by kernel_rfl
theorem Ev.one (e : Ev) : ∀ u ∈ e.cells, u.oneCell' = true := by simp [Ev.cells, Value.oneCell']
def insAt (es : List Ev) (e : Ev) (i : Nat) : List Ev := es.take i ++ e :: es.drop i
def InsPost (w : World) (es : List Ev) (e : Ev) (en : Ending) (w' : World) : Prop :=
  ∃ (A : Option Addr) (c i : Nat), i ≤ es.length ∧ (∀ j x, i ≤ j → es[j]? = some x → e.less x = true) ∧ (∀ x, 0 < i → es[i - 1]? = some x → e.less x = false) ∧ en = .returned (.slice A (es.length + 1) c) ∧ es.length + 1 ≤ c ∧ c ≤ maxLen ∧
    Rd (w.heap.size ≤ ·) w' A ((insAt es e i).flatMap Ev.cells) ∧ w.grownBy w' none

/-- the ten cells of one event of a slice -/
theorem Evs.cells_at {S : Nat → Prop} {w : World} {b off : Nat} {es : List Ev} (h : Rd S w (some ⟨b, off, none⟩) (es.flatMap Ev.cells)) {i : Nat} (hi : i < es.length) (j : Nat) (hj : j < 10) :
    w.cell? ⟨b, off + i * 10 + j, none⟩ = (es[i]).cells[j]? := by
  rw [Nat.add_assoc]
  obtain ⟨b', off', e, _, _, hc⟩ := h (by rw [flat_len _ 10 Ev.cells_len]; omega)
  injection e with e
  injection e with e1 e2
  subst e1 e2
  have h1 := flat_at Ev.cells 10 Ev.cells_len es i j hi hj
  have h2 : (es[i]).cells[j]? = some ((es[i]).cells[j]'(by rw [Ev.cells_len]; exact hj)) := List.getElem?_eq_getElem _
  rw [h2]
  exact hc _ _ (h1.trans h2)

theorem Evs.load10 {S : Nat → Prop} {w : World} {b off : Nat} {es : List Ev} (h : Rd S w (some ⟨b, off, none⟩) (es.flatMap Ev.cells)) {i : Nat} (hi : i < es.length) {y : Ev} (hy : es[i] = y) :
    w.cell? ⟨b, off + i * 10, none⟩ = some (.int .i64 y.host) ∧ w.cell? ⟨b, off + i * 10 + 1, none⟩ = some (.int .i64 y.file) ∧ w.cell? ⟨b, off + i * 10 + 2, none⟩ = some (.int .i64 y.beg) ∧
    w.cell? ⟨b, off + i * 10 + 3, none⟩ = some (.int .i64 y.fin) ∧ w.cell? ⟨b, off + i * 10 + 4, none⟩ = some (.slice y.la y.lines.length y.lc) ∧ w.cell? ⟨b, off + i * 10 + 5, none⟩ = some (.int .i64 y.time) ∧
    w.cell? ⟨b, off + i * 10 + 6, none⟩ = some (.int .i64 y.weight) ∧ w.cell? ⟨b, off + i * 10 + 7, none⟩ = some (.string y.trace) ∧ w.cell? ⟨b, off + i * 10 + 8, none⟩ = some (.string y.stream) ∧ w.cell? ⟨b, off + i * 10 + 9, none⟩ = some (.slice y.fa y.fields.length y.fc) := by
  subst hy
  exact ⟨Evs.cells_at h hi 0 (by omega), Evs.cells_at h hi 1 (by omega), Evs.cells_at h hi 2 (by omega), Evs.cells_at h hi 3 (by omega), Evs.cells_at h hi 4 (by omega), Evs.cells_at h hi 5 (by omega), Evs.cells_at h hi 6 (by omega), Evs.cells_at h hi 7 (by omega), Evs.cells_at h hi 8 (by omega), Evs.cells_at h hi 9 (by omega)⟩
theorem Blk.load10 {w : World} {g t : Nat} {y : Ev} (h : Blk w g t y.cells.toArray) :
    w.cell? ⟨g, 0, none⟩ = some (.int .i64 y.host) ∧ w.cell? ⟨g, 1, none⟩ = some (.int .i64 y.file) ∧ w.cell? ⟨g, 2, none⟩ = some (.int .i64 y.beg) ∧
    w.cell? ⟨g, 3, none⟩ = some (.int .i64 y.fin) ∧ w.cell? ⟨g, 4, none⟩ = some (.slice y.la y.lines.length y.lc) ∧ w.cell? ⟨g, 5, none⟩ = some (.int .i64 y.time) ∧
    w.cell? ⟨g, 6, none⟩ = some (.int .i64 y.weight) ∧ w.cell? ⟨g, 7, none⟩ = some (.string y.trace) ∧ w.cell? ⟨g, 8, none⟩ = some (.string y.stream) ∧ w.cell? ⟨g, 9, none⟩ = some (.slice y.fa y.fields.length y.fc) :=
  ⟨h.cell 0, h.cell 1, h.cell 2, h.cell 3, h.cell 4, h.cell 5, h.cell 6, h.cell 7, h.cell 8, h.cell 9⟩

set_option maxHeartbeats 1600000 in
set_option maxRecDepth 100000 in
theorem insert_any {S : Nat → Prop} (A : Option Addr) (es : List Ev) (c : Nat) (x : Ev) (w : World) (h : Rd S w A (es.flatMap Ev.cells)) (hl : es.length ≤ 100000) (hc : es.length ≤ c) (hcm : c ≤ maxLen) :
    Calls Try.prog 36 #[.slice A es.length c, .agg x.cells.toArray] w (InsPost w es x) := by
  unfold maxLen at hcm
  have H := Lib.hid (h.mono (S' := (· < w.heap.size)) (fun b _ hb => hb))
  obtain ⟨W, hW⟩ : ∃ W, W = w.alloc (.cells x.cells.toArray 75) := ⟨_, rfl⟩
  have HB : Hid (Blk W w.heap.size 75 x.cells.toArray) := hW ▸ Blk.new w _ _
  have HG : Hid (w.grownBy W none) := hW ▸ only_alloc (only_refl _ _) _
  have hW2 : w.alloc (.cells #[.int .i64 x.host, .int .i64 x.file, .int .i64 x.beg, .int .i64 x.fin, .slice x.la x.lines.length x.lc, .int .i64 x.time, .int .i64 x.weight, .string x.trace, .string x.stream, .slice x.fa x.fields.length x.fc] 75) = W := hW.symm
  clear h hW
  show Calls Try.prog 36 #[.slice A es.length c, .agg #[.int .i64 x.host, .int .i64 x.file, .int .i64 x.beg, .int .i64 x.fin, .slice x.la x.lines.length x.lc, .int .i64 x.time, .int .i64 x.weight, .string x.trace, .string x.stream, .slice x.fa x.fields.length x.fc]] w _
  have HW2 := Lib.hid hW2
  clear hW2
  go_enter Try.func36, Try.ntmps36
  go_wp2
  rw [HW2.out]
  obtain ⟨g, hg⟩ : ∃ g, g = w.heap.size := ⟨_, rfl⟩
  rw [← hg] at HB ⊢
  have HGS := Lib.hid hg
  clear hg HW2
  go_loopw [5] (fun i wr => ∃ k : Nat, k ≤ es.length ∧ i = .int .i64 k ∧ (∀ j y, k ≤ j → es[j]? = some y → x.less y = true) ∧ Blk wr g 75 x.cells.toArray ∧ w.grownBy wr none) (fun i _ => (intOf i).toNat)
  case atStart => exact ⟨es.length, Nat.le_refl _, rfl, (fun j y hj hy => by rw [List.getElem?_eq_none hj] at hy; cases hy), HB.out, HG.out⟩
  case round =>
    obtain ⟨k, hk, rfl, hall, hB, hG⟩ := hrel
    have G := Lib.hid hG
    have AL := Lib.hid hall
    clear hG hall HB HG
    obtain ⟨b0, b1, b2, b3, b4, b5, b6, b7, b8, b9⟩ := hB.load10
    have HB := Lib.hid hB
    clear hB
    by_cases hk0 : 0 < k
    · obtain ⟨b, off, rfl, -, -, -⟩ := H.out (by rw [flat_len _ 10 Ev.cells_len]; omega)
      obtain ⟨k, rfl⟩ : ∃ k', k = k' + 1 := ⟨k - 1, by omega⟩
      have hr := (H.out.grown G.out (by simp))
      have hklt : k < es.length := by omega
      obtain ⟨y, hy⟩ : ∃ y, es[k] = y := ⟨_, rfl⟩
      obtain ⟨e0, e1, e2, e3, e4, e5, e6, e7, e8, e9⟩ := Evs.load10 hr hklt hy
      have HY := Lib.hid hy
      clear hr hy
      have hwk : IntKind.i64.wrap (k : Int) = (k : Int) := IntWalk.i64_in _ (by omega)
      have hki : (k : Int) < (es.length : Int) := by omega
      have hkn : (0 : Int) ≤ (k : Int) := by omega
      go_wp2_with fail
      by_cases hless : x.less y = true
      · go_region_with (first | (go_at_call 62; refine (rless_any x y _).mono ?_; rintro e w2 ⟨rfl, hg2⟩))
        all_goals
          have hB2 := HB.out.drew.grown hg2 (by simp)
          have G2 : Hid (w.grownBy w2 none) := only_trans (only_drew G.out) hg2
          clear hg2 e0 e1 e2 e3 e4 e5 e6 e7 e8 e9 b0 b1 b2 b3 b4 b5 b6 b7 b8 b9 hwk
          go_wp2_with fail
          go_roundw
          case rel =>
            refine ⟨k, by omega, by go_num, fun j z hj hz => ?_, hB2, G2.out⟩
            rcases Nat.lt_or_ge k j with h | h
            · exact AL.out j z h hz
            · obtain rfl : j = k := by omega
              rw [List.getElem?_eq_getElem hklt, HY.out] at hz
              injection hz with hz
              rw [← hz]; exact hless
          case measure => simp [intOf]
      · have hless' : x.less y = false := by simpa using hless
        clear hless
        go_region_with (first | (go_at_call 62; refine (rless_any x y _).mono ?_; rintro e w2 ⟨rfl, hg2⟩))
        all_goals
          have hB2 := HB.out.drew.grown hg2 (by simp)
          have G2 : Hid (w.grownBy w2 none) := only_trans (only_drew G.out) hg2
          clear hg2 e0 e1 e2 e3 e4 e5 e6 e7 e8 e9 b0 b1 b2 b3 b4 b5 b6 b7 b8 b9 hwk
          have hlen1 : ((es.take (k + 1)).flatMap Ev.cells).length = (k + 1) * 10 := by rw [flat_len _ 10 Ev.cells_len, List.length_take, Nat.min_eq_left (by omega)]
          have HR1 : Hid (Rd (· < w.heap.size) w2 (some ⟨b, off, none⟩) ((es.take (k + 1)).flatMap Ev.cells)) := by
            have := (H.out.grown G2.out (by simp)).take ((k + 1) * 10)
            rwa [← flat_take Ev.cells_len] at this
          have hgB : g < w2.heap.size := hB2.lt
          go_wp2_with (at_builtin; refine wpList_appendN rfl _ _ 31 rfl (g + 1) Try.underlying31 eventInfo rfl (by decide) (v := .slice none 0 0) (by rfl) (World.ownsRow_nil _ _ _ _) (some ⟨b, off, none⟩) (k + 1) c (by rfl) HR1.out hlen1 (flat_one Ev.one _) (by decide) (by omega) (by omega) ?_; intro v5 w5 hown5 hg5 hob5)
          simp only [Nat.zero_add, List.nil_append] at hown5
          have hB5 := hB2.grown hg5 (by simp [Value.ownBlock])
          have HR5 : Hid (Rd (· < w.heap.size) w5 _ _) := ((H.out.grown G2.out (by simp)).grown hg5 (by simp [Value.ownBlock]))
          have G5 : Hid (w.grownBy w5 none) := only_trans G2.out (by simpa [Value.ownBlock] using hg5)
          have hlt5 := hB5.lt
          obtain ⟨b0, b1, b2, b3, b4, b5, b6, b7, b8, b9⟩ := hB5.load10
          clear hob5 HR1 hg5
          have hkk : IntKind.i64.wrap ((k : Int) + 1) = (k : Int) + 1 := IntWalk.i64_in _ (by omega)
          have hk1 : (0 : Int) ≤ (k : Int) + 1 := by omega
          have hk2 : (k : Int) + 1 ≤ (es.length : Int) := by omega
          have hk3 : ((k : Int) + 1).toNat = k + 1 := by omega
          go_region_law (first
            | (have htok := hown7; go_must (refine step_appendN rfl _ _ 31 rfl (g + 1) Try.underlying31 eventInfo rfl (by decide) (v := _) (by rfl) hown7 _ _ _ (by rfl) (HR7.out.cut (n := es.length) (k := k + 1) (size := 10) (cap := c) (by rw [flat_len _ 10 Ev.cells_len]) (by omega) (by omega)) (by rw [List.length_drop, flat_len _ 10 Ev.cells_len, Nat.sub_mul]) (fun u hu => flat_one Ev.one _ u (List.mem_of_mem_drop hu)) (by decide) (by omega) (by omega) ?_); intro v8 w8 hown8 hg8 hob8)
            | (go_must (refine step_append1 rfl _ _ 31 rfl (g + 1) Try.underlying31 eventInfo rfl (by decide) (v := _) (by rfl) (w0 := w5) (cs := x.cells.toArray) (by rfl) (by rfl) (by rfl) (by rfl) hown5 (by rfl) rfl (by simpa using Ev.one x) (by decide) (by omega) (by omega) ?_); intro v7 w7 hown7 hg7 hob7; have HR7 : Hid (Rd (· < w.heap.size) w7 _ _) := (HR5.out.grown hg7 (fun b hb e => by have := (hown5.lt b e.symm).1; have := HGS.out; omega)); have hz7 : w5.heap.size ≤ w7.heap.size := hg7.size))
          all_goals
            have G8 : Hid (w.grownBy w8 none) := only_own (only_own G5.out hg7 hown5 (by have := HGS.out; omega)) hg8 hown7 (by have := HGS.out; omega)
            have hown9 : w8.ownsRow (g + 1) 75 10 v8 (es.length + 1) ((insAt es x (k + 1)).flatMap Ev.cells) := by
              have e1 : (k + 1) + 1 + (es.length - (k + 1)) = es.length + 1 := by omega
              rw [e1] at hown8
              simpa [insAt, flat_drop Ev.cells_len, List.flatMap_append] using hown8
            obtain ⟨A8, c8, rfl, hc8, hm8, -, hr8⟩ := Rd.of_own hown9 (by decide)
            have HR8 := Lib.hid hr8
            clear hown5 hown7 hown8 hown9 hr8 hg7 hg8 hob7 hob8 b0 b1 b2 b3 b4 b5 b6 b7 b8 b9 hkk hk1 hk2 hk3
            go_wp2
            all_goals go_ret
            all_goals exact ⟨A8, c8, (k + 1), by omega, AL.out, (fun z hz hzz => by rw [show k + 1 - 1 = k from rfl, List.getElem?_eq_getElem hklt, HY.out] at hzz; injection hzz with hzz; rw [← hzz]; exact hless'), rfl, hc8, hm8, HR8.out.mono (fun b hb _ => by have := HGS.out; omega), G8.out⟩
    · obtain rfl : k = 0 := by omega
      clear b0 b1 b2 b3 b4 b5 b6 b7 b8 b9
      go_wp2_with fail
      go_quiet (fail)
      have HBq := HB.out.drewN nq
      have Gq : Hid (w.grownBy (wr.drewN nq) none) := only_drewN G.out nq
      have hlen1 : ((es.take 0).flatMap Ev.cells).length = 0 * 10 := by rw [flat_len _ 10 Ev.cells_len, List.length_take, Nat.min_eq_left (by omega)]
      have HR1 : Hid (Rd (· < w.heap.size) (wr.drewN nq) (A) ((es.take 0).flatMap Ev.cells)) := by
        have := (H.out.grown Gq.out (by simp)).take (0 * 10)
        rwa [← flat_take Ev.cells_len] at this
      have hgB : g < (wr.drewN nq).heap.size := HBq.lt
      go_wp2_with (at_builtin; refine wpList_appendN rfl _ _ 31 rfl (g + 1) Try.underlying31 eventInfo rfl (by decide) (v := .slice none 0 0) (by rfl) (World.ownsRow_nil _ _ _ _) (A) 0 c (by rfl) HR1.out hlen1 (flat_one Ev.one _) (by decide) (by omega) (by omega) ?_; intro v5 w5 hown5 hg5 hob5)
      simp only [Nat.zero_add, List.nil_append] at hown5
      have hB5 := HBq.grown hg5 (by simp [Value.ownBlock])
      have HR5 : Hid (Rd (· < w.heap.size) w5 _ _) := ((H.out.grown Gq.out (by simp)).grown hg5 (by simp [Value.ownBlock]))
      have G5 : Hid (w.grownBy w5 none) := only_trans Gq.out (by simpa [Value.ownBlock] using hg5)
      have hlt5 := hB5.lt
      obtain ⟨b0, b1, b2, b3, b4, b5, b6, b7, b8, b9⟩ := hB5.load10
      clear hob5 HR1 hg5
      have hk2 : (0 : Int) ≤ (es.length : Int) := by omega
      go_region_law (first
        | (have htok := hown7; go_must (refine step_appendN rfl _ _ 31 rfl (g + 1) Try.underlying31 eventInfo rfl (by decide) (v := _) (by rfl) hown7 _ _ _ (by rfl) HR7.out (by rw [flat_len _ 10 Ev.cells_len]) (flat_one Ev.one _) (by decide) (by omega) (by omega) ?_); intro v8 w8 hown8 hg8 hob8)
        | (go_must (refine step_append1 rfl _ _ 31 rfl (g + 1) Try.underlying31 eventInfo rfl (by decide) (v := _) (by rfl) (w0 := w5) (cs := x.cells.toArray) (by rfl) (by rfl) (by rfl) (by rfl) hown5 (by rfl) rfl (by simpa using Ev.one x) (by decide) (by omega) (by omega) ?_); intro v7 w7 hown7 hg7 hob7; have HR7 : Hid (Rd (· < w.heap.size) w7 _ _) := (HR5.out.grown hg7 (fun b hb e => by have := (hown5.lt b e.symm).1; have := HGS.out; omega)); have hz7 : w5.heap.size ≤ w7.heap.size := hg7.size))
      all_goals
        have G8 : Hid (w.grownBy w8 none) := only_own (only_own G5.out hg7 hown5 (by have := HGS.out; omega)) hg8 hown7 (by have := HGS.out; omega)
        have hown9 : w8.ownsRow (g + 1) 75 10 v8 (es.length + 1) ((insAt es x 0).flatMap Ev.cells) := by
          have e1 : 0 + 1 + es.length = es.length + 1 := by omega
          rw [e1] at hown8
          simpa [insAt, flat_drop Ev.cells_len, List.flatMap_append] using hown8
        obtain ⟨A8, c8, rfl, hc8, hm8, -, hr8⟩ := Rd.of_own hown9 (by decide)
        have HR8 := Lib.hid hr8
        clear hown5 hown7 hown8 hown9 hr8 hg7 hg8 hob7 hob8 b0 b1 b2 b3 b4 b5 b6 b7 b8 b9 hk2
        go_wp2
        all_goals go_ret
        all_goals exact ⟨A8, c8, 0, by omega, AL.out, (fun z hz => absurd hz (by omega)), rfl, hc8, hm8, HR8.out.mono (fun b hb _ => by have := HGS.out; omega), G8.out⟩
end Go.Proofs.Ytiogpomgpknjlaa

namespace Go.Proofs.Ytiogpomgpknjlaa
open Go.RowKit
set_option linter.unusedVariables false
set_option linter.unusedSimpArgs false

set_option maxHeartbeats 800000 in
theorem time_some (g : Nat) (l : List Int) (k : Nat) (w : World) (h : CodesAt w g l k) :
    Calls Try.prog 30 #[.pointer (some ⟨g, 0, none⟩)] w (DrawnPost w g l (fun v => 0 ≤ v ∧ v ≤ 253402300799999)) := by
  go_enter Try.func30, Try.ntmps30
  go_wp2_with fail
  refine (next_some g l k 4 _ h (by omega) (by omega)).mono ?_
  rintro e w1 ⟨v, k1, rfl, hv, h1, hg1⟩
  by_cases h0 : v = 0
  · have hb : (v == 0) = true := by simp [h0]
    clear h0
    go_wp2_with fail
    refine (next_some g l k1 40 _ h1 (by omega) (by omega)).mono ?_
    rintro e w2 ⟨v2, k2, rfl, hv2, h2, hg2⟩
    go_wp2
    go_ret
    exact ⟨_, k2, rfl, by simp; omega, h2, only_trans hg1 hg2⟩
  · have hb : (v == 0) = false := by simp [h0]
    by_cases h1' : v = 1
    · have hb : (v == 1) = true := by simp [h1']
      clear h0 h1'
      go_wp2_with fail
      refine (next_some g l k1 3 _ h1 (by omega) (by omega)).mono ?_
      rintro e w2 ⟨v2, k2, rfl, hv2, h2, hg2⟩
      go_wp2
      go_ret
      exact ⟨_, k2, rfl, by simp; omega, h2, only_trans hg1 hg2⟩
    · have hb : (v == 1) = false := by simp [h1']
      clear h0 h1'
      go_wp2_with fail
      refine (next_some g l k1 60 _ h1 (by omega) (by omega)).mono ?_
      rintro e w2 ⟨v2, k2, rfl, hv2, h2, hg2⟩
      go_wp2
      go_ret
      exact ⟨_, k2, rfl, by simp; omega, h2, only_trans hg1 hg2⟩
end Go.Proofs.Ytiogpomgpknjlaa

namespace Go.Proofs.Ytiogpomgpknjlaa
open Go.RowKit
set_option linter.unusedVariables false
set_option linter.unusedSimpArgs false

set_option maxHeartbeats 800000 in
theorem value_some (g : Nat) (l : List Int) (k : Nat) (w : World) (h : CodesAt w g l k) :
    Calls Try.prog 51 #[.pointer (some ⟨g, 0, none⟩)] w (StrPost w g l 20) := by
  go_enter Try.func51, Try.ntmps51
  go_wp2_with fail
  refine (next_some g l k 11 _ (h.grown (World.grownBy_alloc _ _ none) (by simp)) (by omega) (by omega)).mono ?_
  rintro e w2 ⟨v2, k2, rfl, hv2, h2, hg2⟩
  obtain ⟨j, rfl⟩ := Int.eq_ofNat_of_zero_le hv2.1
  have hj : j < 11 := by omega
  have hlt := h.lt
  have hB := (Blk.new w _ _).grown hg2 (by simp; omega)
  obtain ⟨x, hc, HX⟩ := hB.str_at (m := 20) (by rfl) (j := j) hj
  have G2 := Lib.hid hg2
  have C2 := Lib.hid h2
  clear hg2 h2 hB
  go_wp2
  go_ret
  exact ⟨x, k2, rfl, by have := HX.out; simpa using this, C2.out, only_trans (only_alloc (only_refl _ _) _) G2.out⟩

def IsWeight (v : Int) : Prop := v = 1 ∨ v = 2 ∨ v = 5 ∨ v = 10 ∨ v = 5040

set_option maxHeartbeats 800000 in
theorem weight_some (g : Nat) (l : List Int) (k : Nat) (w : World) (h : CodesAt w g l k) :
    Calls Try.prog 75 #[.pointer (some ⟨g, 0, none⟩)] w (DrawnPost w g l IsWeight) := by
  go_enter Try.func75, Try.ntmps75
  go_wp2_with fail
  refine (next_some g l k 6 _ (h.grown (World.grownBy_alloc _ _ none) (by simp)) (by omega) (by omega)).mono ?_
  rintro e w2 ⟨v2, k2, rfl, hv2, h2, hg2⟩
  obtain ⟨j, rfl⟩ := Int.eq_ofNat_of_zero_le hv2.1
  have hj : j < 6 := by omega
  have hlt := h.lt
  have hB := (Blk.new w _ _).grown hg2 (by simp; omega)
  obtain ⟨x, hc, HX⟩ := hB.int_at (p := fun v => v == 1 || v == 2 || v == 5 || v == 10 || v == 5040) (by rfl) (j := j) hj
  have G2 := Lib.hid hg2
  have C2 := Lib.hid h2
  clear hg2 h2 hB
  go_wp2
  go_ret
  exact ⟨x, k2, rfl, by have := HX.out; simpa [IsWeight, or_assoc] using this, C2.out, only_trans (only_alloc (only_refl _ _) _) G2.out⟩

end Go.Proofs.Ytiogpomgpknjlaa

namespace Go.Proofs.Ytiogpomgpknjlaa
open Go.RowKit
set_option linter.unusedVariables false
set_option linter.unusedSimpArgs false

theorem fieldInfo : (Try.prog.info? 147).map (fun i => (i.zero, i.size, i.bytes)) = some (some (.agg #[.string ⟨#[]⟩, .string ⟨#[]⟩]), 2, 32) := by kernel_rfl
def nameTab : List ByteArray := [⟨#[99, 111, 100, 101]⟩, ⟨#[108, 101, 118, 101, 108]⟩, ⟨#[109, 115]⟩, ⟨#[117, 115, 101, 114]⟩]
def FieldsOk (n : Nat) (fs : List FieldD) : Prop := (fs.map FieldD.name).Sublist (nameTab.take n) ∧ ∀ f ∈ fs, f.value.size ≤ 20
theorem FieldsOk.skip {n : Nat} {fs : List FieldD} (h : FieldsOk n fs) : FieldsOk (n + 1) fs :=
  ⟨h.1.trans (List.take_sublist_take_left (by omega)), h.2⟩
theorem FieldsOk.snoc {n : Nat} {fs : List FieldD} (h : FieldsOk n fs) (hn : n < 4) {f : FieldD} (h1 : nameTab[n]? = some f.name) (h2 : f.value.size ≤ 20) : FieldsOk (n + 1) (fs ++ [f]) := by
  refine ⟨?_, mem_snoc h.2 h2⟩
  have : nameTab.take (n + 1) = nameTab.take n ++ [f.name] := by rw [List.take_add_one, h1]; rfl
  rw [this, List.map_append]
  exact h.1.append (List.Sublist.refl _)
def FieldsPost (w : World) (g : Nat) (l : List Int) (e : Ending) (w' : World) : Prop :=
  ∃ (A : Option Addr) (c : Nat) (fs : List FieldD) (k : Nat), e = .returned (.slice A fs.length c) ∧ FieldsOk 4 fs ∧ fs.length ≤ c ∧ c ≤ maxLen ∧ Rd (w.heap.size ≤ ·) w' A (fs.flatMap FieldD.cells) ∧ CodesAt w' g l k ∧ w.grownBy w' (some g)

set_option maxHeartbeats 1600000 in
set_option maxRecDepth 100000 in
theorem fields_some (g : Nat) (l : List Int) (k : Nat) (w : World) (h : CodesAt w g l k) :
    Calls Try.prog 76 #[.pointer (some ⟨g, 0, none⟩)] w (FieldsPost w g l) := by
  have hlt0 := h.lt
  go_enter Try.func76, Try.ntmps76
  go_wp2_with fail
  obtain ⟨W, hW⟩ : ∃ W, W = w.alloc (Obj.cells (nameTab.map Value.string).toArray 9) := ⟨_, rfl⟩
  have hW2 : w.alloc (Obj.cells #[Value.string ⟨#[99, 111, 100, 101]⟩, Value.string ⟨#[108, 101, 118, 101, 108]⟩, Value.string ⟨#[109, 115]⟩, Value.string ⟨#[117, 115, 101, 114]⟩] 9) = W := hW.symm
  rw [hW2]
  have HC : Hid (CodesAt W g l k) := hW ▸ h.alloc _
  have HB : Hid (Blk W w.heap.size 9 (nameTab.map Value.string).toArray) := hW ▸ Blk.new w _ _
  have HG : Hid (w.grownBy W (some g)) := hW ▸ only_alloc (only_refl _ _) _
  clear hW hW2 h
  obtain ⟨tb, htb⟩ : ∃ tb, tb = w.heap.size := ⟨_, rfl⟩
  rw [← htb] at HB hlt0 ⊢
  have HTB := Lib.hid htb
  clear htb
  go_loopw [3, 5] (fun v i wr => ∃ (n k : Nat) (fs : List FieldD), n ≤ 4 ∧ fs.length ≤ n ∧ i = .int .i64 n ∧ FieldsOk n fs ∧ wr.ownsRow (tb + 1) 147 2 v fs.length (fs.flatMap FieldD.cells) ∧ CodesAt wr g l k ∧ Blk wr tb 9 (nameTab.map Value.string).toArray ∧ w.grownBy wr (some g)) (fun _ i _ => 4 - (intOf i).toNat)
  case atStart => exact ⟨0, k, [], by omega, by simp, rfl, ⟨by simp, by simp⟩, World.ownsRow_nil _ _ _ _, HC.out, HB.out, HG.out⟩
  case round =>
    obtain ⟨n, k, fs, hn, hfn, rfl, hok, hown, hC, hB, hG⟩ := hrel
    have G := Lib.hid hG
    have OK := Lib.hid hok
    have hlt := hB.lt
    clear hG hok HC HB HG
    by_cases hn4 : n < 4
    · go_wp2_with fail
      refine (next_some g l k 3 _ hC (by omega) (by omega)).mono ?_
      rintro e w2 ⟨v2, k2, rfl, hv2, h2, hg2⟩
      have hown2 := own_only hown hg2 (by omega)
      have hB2 := hB.grown hg2 (by simp; omega)
      have G2 : Hid (w.grownBy w2 (some g)) := only_trans G.out hg2
      have hlt2 := hB2.lt
      clear hC hB hown hg2 G hlt
      by_cases hv : v2 = 1
      · have hb1 : (v2 == 1) = true := by simp [hv]
        obtain ⟨nm, hnm⟩ : ∃ nm, nameTab[n]? = some nm := ⟨_, List.getElem?_eq_getElem (show n < nameTab.length from hn4)⟩
        have hcell := hB2.cell n
        have hcell' : w2.cell? ⟨tb, n, none⟩ = some (.string nm) := by rw [hcell]; simp [hnm]
        have HNM := Lib.hid hnm
        have HB2 := Lib.hid hB2
        clear hcell hnm hv hB2
        go_wp2_with fail
        go_region_law (first
          | (have htok := hown5; go_must (refine step_append1 rfl _ _ 73 rfl (tb + 1) Try.underlying73 fieldInfo rfl (by decide) (v := _) (by rfl) (w0 := w5) (cs := #[.string nm, .string s5]) (by rfl) (by rfl) (by rfl) (by rfl) hown5 (by rfl) rfl (by simp [Value.oneCell']) (by decide) (by omega) (by omega) ?_); intro v9 w9 hown9 hg9 hob9)
          | (go_simp; go_at_call 51; refine (value_some g l k2 _ (by exact h2.drew)).mono ?_; rintro e w5 ⟨s5, k5, rfl, hs5, hC5, hg5⟩; have hown5 := own_only (own_drew hown2) hg5 (by omega); have hlt5 := hC5.lt; have hz5 : w2.heap.size ≤ w5.heap.size := hg5.size; have hcell5 : w5.cell? ⟨tb, n, none⟩ = some (.string nm) := hg5.cell (show w2.drew.cell? _ = _ from hcell') (by simp; omega)))
        all_goals
          have hC9 := hC5.grown hg9 (fun b hb e => by have := (hown5.lt b e.symm).1; omega)
          have hB9 := (HB2.out.drew.grown hg5 (by simp; omega)).grown hg9 (fun e => by have := (hown5.lt _ e.symm).1; omega)
          have G9 : Hid (w.grownBy w9 (some g)) := only_own (only_trans (only_drew G2.out) hg5) hg9 hown5 (by have := HTB.out; omega)
          have hown9' : w9.ownsRow (tb + 1) 147 2 v9 (fs ++ [FieldD.mk nm s5]).length ((fs ++ [FieldD.mk nm s5]).flatMap FieldD.cells) := by simpa [FieldD.cells] using hown9
          clear hown9 hg9 hob9 hown5 hC5 hg5 hcell5 hown2 h2
          go_wp2_with fail
          go_roundw
          case rel => exact ⟨n + 1, k5, fs ++ [FieldD.mk nm s5], by omega, by simp; omega, by go_num, OK.out.snoc hn4 HNM.out hs5, hown9', hC9, hB9, G9.out⟩
          case measure => simp [intOf]; omega
      · have hb1 : (v2 == 1) = false := by simp [hv]
        go_wp2_with fail
        go_roundw
        case rel => exact ⟨n + 1, k2, fs, by omega, by omega, by go_num, OK.out.skip, hown2, h2, hB2, G2.out⟩
        case measure => simp [intOf]; omega
    · obtain rfl : n = 4 := by omega
      obtain ⟨A, cc, rfl, hnc, hcm, -, hrd⟩ := Rd.of_own hown (by decide)
      have HR := Lib.hid hrd
      clear hrd
      go_wp2_with fail
      go_ret
      exact ⟨A, cc, fs, k, rfl, OK.out, hnc, hcm, HR.out.mono (fun b hb _ => by have := HTB.out; omega), hC, G.out⟩
end Go.Proofs.Ytiogpomgpknjlaa

namespace Go.Proofs.Ytiogpomgpknjlaa
open Go.RowKit
set_option linter.unusedVariables false
set_option linter.unusedSimpArgs false

set_option maxHeartbeats 800000 in
theorem word_some (g : Nat) (l : List Int) (k : Nat) (w : World) (h : CodesAt w g l k) :
    Calls Try.prog 96 #[.pointer (some ⟨g, 0, none⟩)] w (StrPost w g l 7) := by
  go_enter Try.func96, Try.ntmps96
  go_wp2_with fail
  refine (next_some g l k 14 _ (h.grown (World.grownBy_alloc _ _ none) (by simp)) (by omega) (by omega)).mono ?_
  rintro e w2 ⟨v2, k2, rfl, hv2, h2, hg2⟩
  obtain ⟨j, rfl⟩ := Int.eq_ofNat_of_zero_le hv2.1
  have hj : j < 14 := by omega
  have hlt := h.lt
  have hB := (Blk.new w _ _).grown hg2 (by simp; omega)
  obtain ⟨x, hc, HX⟩ := hB.str_at (m := 7) (by rfl) (j := j) hj
  have G2 := Lib.hid hg2
  have C2 := Lib.hid h2
  clear hg2 h2 hB
  go_wp2
  go_ret
  exact ⟨x, k2, rfl, by have := HX.out; simpa using this, C2.out, only_trans (only_alloc (only_refl _ _) _) G2.out⟩
end Go.Proofs.Ytiogpomgpknjlaa

namespace Go.Proofs.Ytiogpomgpknjlaa
open Go.RowKit
set_option linter.unusedVariables false
set_option linter.unusedSimpArgs false

def sepTab : Array Value := #[.string ⟨#[32]⟩, .string ⟨#[32]⟩, .string ⟨#[44, 32]⟩, .string ⟨#[61]⟩, .string ⟨#[]⟩]
set_option maxHeartbeats 1600000 in
theorem text_some (g : Nat) (l : List Int) (k : Nat) (w : World) (h : CodesAt w g l k) :
    Calls Try.prog 74 #[.pointer (some ⟨g, 0, none⟩)] w (StrPost w g l 40) := by
  go_enter Try.func74, Try.ntmps74
  go_wp2_with fail
  refine (word_some g l k _ h).mono ?_
  rintro e w1 ⟨s1, k1, rfl, hs1, h1, hg1⟩
  go_wp2_with fail
  refine (next_some g l k1 4 _ h1 (by omega) (by omega)).mono ?_
  rintro e w2 ⟨v2, k2, rfl, hv2, h2, hg2⟩
  have G2 : Hid (w.grownBy w2 (some g)) := only_trans hg1 hg2
  clear hg1 hg2 h1 h
  go_wp2_with fail
  go_loopw [3, 4] (fun s i wr => ∃ (m : Int) (s' : ByteArray) (k : Nat), i = .int .i64 m ∧ 0 ≤ m ∧ s = .string s' ∧ (s'.size : Int) + 10 * m ≤ 37 ∧ CodesAt wr g l k ∧ w.grownBy wr (some g)) (fun _ i _ => (intOf i).toNat)
  case atStart => exact ⟨v2, s1, k2, rfl, hv2.1, rfl, by omega, h2, G2.out⟩
  case round =>
    obtain ⟨m, s', k, rfl, hm, rfl, hsz, hC, hG⟩ := hrel
    have G := Lib.hid hG
    have hlt := hC.lt
    clear hG h2 G2
    by_cases hm0 : 0 < m
    · go_wp2_with fail
      go_region_with (first
        | (go_at_call 28; refine (next_some g l k 5 _ (by first | exact hC.drew | exact (hC.alloc _).drew) (by omega) (by omega)).mono ?_; rintro e w5 ⟨v5, k5, rfl, hv5, hC5, hg5⟩; obtain ⟨j, rfl⟩ := Int.eq_ofNat_of_zero_le hv5.1; obtain ⟨x, hx, hX⟩ := tab_str (cs := sepTab) (m := 2) (by rfl) (j := j) (show j < 5 by omega); simp only [sepTab] at hx; (try (have hcb := ((Blk.new _ _ _).drew.grown hg5 (by simp; omega)).cell j; rw [hx] at hcb)))
        | (go_at_call 96; refine (word_some g l k5 _ (by first | exact hC5 | exact hC5.alloc _)).mono ?_; rintro e w6 ⟨s6, k6, rfl, hs6, hC6, hg6⟩; (try (have hcb2 := ((Blk.new _ _ _).grown hg6 (by have := hC5.lt; simp; omega)).cell j; rw [hx] at hcb2)); (try (have hcb3 := hg6.cell hcb (by simp; omega)))))
      all_goals go_wp2
      all_goals go_roundw
      all_goals first
        | (refine ⟨m - 1, _, k6, rfl, by omega, rfl, ?_, by first | exact hC6 | exact hC6.alloc _, ?_⟩
           · simp only [ByteArray.size_append]; omega
           · first
             | exact only_trans (only_trans (only_drew (only_alloc G.out _)) hg5) hg6
             | exact only_trans (only_alloc (only_trans (only_drew G.out) hg5) _) hg6
             | exact only_alloc (only_trans (only_trans (only_drew G.out) hg5) hg6) _)
        | (simp [intOf]; omega)
    · go_wp2_with fail
      go_ret
      exact ⟨s', k, rfl, by omega, hC, G.out⟩
end Go.Proofs.Ytiogpomgpknjlaa

namespace Go.Proofs.Ytiogpomgpknjlaa
open Go.RowKit
set_option linter.unusedVariables false
set_option linter.unusedSimpArgs false

theorem load_ev (w : World) (g : Nat) (v0 v1 v2 v3 v5 v6 : Int) (s7 s8 : ByteArray) (A4 A9 : Option Addr) (n4 c4 n9 c9 : Nat) (h : Blk w g 75 #[.int .i64 v0, .int .i64 v1, .int .i64 v2, .int .i64 v3, .slice A4 n4 c4, .int .i64 v5, .int .i64 v6, .string s7, .string s8, .slice A9 n9 c9]) :
    (Instr.loadAt 75 (.pointer (some ⟨g, 0, none⟩))).run Try.prog w = .ok (.agg #[.int .i64 v0, .int .i64 v1, .int .i64 v2, .int .i64 v3, .slice A4 n4 c4, .int .i64 v5, .int .i64 v6, .string s7, .string s8, .slice A9 n9 c9]) w := by
  have c0 := h.cell 0
  have c1 := h.cell 1
  have c2 := h.cell 2
  have c3 := h.cell 3
  have c4 := h.cell 4
  have c5 := h.cell 5
  have c6 := h.cell 6
  have c7 := h.cell 7
  have c8 := h.cell 8
  have c9 := h.cell 9
  simp at c0 c1 c2 c3 c4 c5 c6 c7 c8 c9
  have hu := Try.underlying75
  simp [go_sem, c0, c1, c2, c3, c4, c5, c6, c7, c8, c9]
theorem fa_ev7 (w : World) (g : Nat) : (Instr.fieldAt 75 (.pointer (some ⟨g, 0, none⟩)) 7).run Try.prog w = .ok (.pointer (some ⟨g, 7, none⟩)) w := by
  simp [go_sem]
end Go.Proofs.Ytiogpomgpknjlaa

namespace Go.Proofs.Ytiogpomgpknjlaa
open Go.RowKit
set_option linter.unusedVariables false
set_option linter.unusedSimpArgs false
def tailO (off z c : Nat) : Nat := if c = 1 then off else off + z
theorem run_tail (ρ : Operand → Value) (w : World) {o : Oper} {t e : TypeId} {z x b off n c : Nat} (ho : o.op = .slice t (.tmp x) (some (.const (.int .i64 1))) none none) (ht : Try.prog.underlying t = some (.slice e)) (hz : (Try.prog.info? e).map (·.size) = some z)
    (hc : ∀ v, ρ (.const v) = v) (hx : ρ (.tmp x) = .slice (some ⟨b, off, none⟩) (n + 1) c) (h1 : n + 1 ≤ c) : (execOp ρ o).run Try.prog w = .ok (.value (.slice (some ⟨b, tailO off z c, none⟩) n (c - 1))) w := by
  obtain ⟨i, hi, hiz⟩ : ∃ i, Try.prog.info? e = some i ∧ i.size = z := by
    cases h : Try.prog.info? e with
    | none => rw [h] at hz; cases hz
    | some i => rw [h] at hz; exact ⟨i, rfl, by simpa using hz⟩
  have hs : (sizeOf e).run Try.prog w = .ok z w := by simp [sizeOf, typeInfo, hi, hiz, Sem.run_bind, go_sem]
  have e3 : (1 : Int) ≤ (n : Int) + 1 := by omega
  by_cases h : c = 1
  · subst h
    obtain rfl : n = 0 := by omega
    simp [execOp, ho, hc, hx, go_sem, tailO, ht, hs]
  · have e0 : (0 : Int) ≤ (c : Int) - 1 := by omega
    have e1 : (1 : Int) ≤ (c : Int) := by omega
    have e2 : (n : Int) + 1 ≤ (c : Int) := by omega
    simp [execOp, ho, hc, hx, go_sem, tailO, ht, hs, h, e0, e1, e2, e3]
theorem wpList_tail {ops : Array Oper} {rest : List Oper} {o : Oper} {a : Act} {w : World} {Q : Exit → Act → World → Prop} (hgd : o.guard = none) {t e : TypeId} {z x b off n c : Nat} (ho : o.op = .slice t (.tmp x) (some (.const (.int .i64 1))) none none) (ht : Try.prog.underlying t = some (.slice e)) (hz : (Try.prog.info? e).map (·.size) = some z)
    (hx : a.eval (.tmp x) = .slice (some ⟨b, off, none⟩) (n + 1) c) (h1 : n + 1 ≤ c) (h : wpList Try.prog ops Q rest (a.put o.dst (.slice (some ⟨b, tailO off z c, none⟩) n (c - 1))) w) : wpList Try.prog ops Q (o :: rest) a w :=
  wpList_plain hgd fun K hK => by
    unfold Oper.wp
    rw [run_tail a.eval w ho ht hz (fun v => rfl) hx h1]
    exact hK _ _ h
theorem Rd.tailS {S : Nat → Prop} {w : World} {b off z n c : Nat} {x xs : List Value} (h : Rd S w (some ⟨b, off, none⟩) (x ++ xs)) (hx : x.length = z) (hl : xs.length = n * z) (h1 : n + 1 ≤ c) : Rd S w (some ⟨b, tailO off z c, none⟩) xs := by
  unfold tailO
  split
  · obtain rfl : n = 0 := by omega
    intro h0; rw [hl] at h0; omega
  · have := h.dropS z
    rw [List.drop_left' hx] at this
    exact this
end Go.Proofs.Ytiogpomgpknjlaa
