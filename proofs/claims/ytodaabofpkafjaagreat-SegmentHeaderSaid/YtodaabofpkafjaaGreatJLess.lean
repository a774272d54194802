/- Less of events, both texts; Insert. No condition. -/
import Derived.Test.YtodaabofpkafjaaGreatJDraw
import Derived.Deep.RegionLaw
namespace Go.Proofs.YtodaabofpkafjaaGreat
open Go.RowKit
set_option linter.unusedVariables false
set_option linter.unusedSimpArgs false

def Ev.less (a b : Ev) : Bool :=
  if a.time ≠ b.time then decide (a.time < b.time) else if a.host ≠ b.host then decide (a.host < b.host) else if a.file ≠ b.file then decide (a.file < b.file) else decide (a.beg < b.beg)
def BoolExt (b : Bool) (w : World) (e : Ending) (w' : World) : Prop := e = .returned (.bool b) ∧ w.grownBy w' none

set_option maxHeartbeats 1000000 in
theorem rless_any (a b : Ev) (w : World) : Calls Tryz.prog 51 #[.agg a.cells.toArray, .agg b.cells.toArray] w (BoolExt (a.less b) w) := by
  have hE : w.grownBy ((w.alloc (.cells a.cells.toArray 34)).alloc (.cells b.cells.toArray 34)) none := only_alloc (only_alloc (only_refl _ _) _) _
  have HE := Lib.hid hE
  clear hE
  simp only [Ev.cells] at HE ⊢
  by_cases h1 : a.time = b.time
  · have b1 : (a.time != b.time) = false := by simp [h1]
    by_cases h2 : a.host = b.host
    · have b2 : (a.host != b.host) = false := by simp [h2]
      by_cases h3 : a.file = b.file
      · have b3 : (a.file != b.file) = false := by simp [h3]
        have hl : a.less b = decide (a.beg < b.beg) := by simp [Ev.less, h1, h2, h3]
        rw [hl]
        clear h1 h2 h3 hl
        go_enter Tryz.func51, Tryz.ntmps51
        go_wp2
        go_ret
        exact ⟨rfl, HE.out⟩
      · have b3 : (a.file != b.file) = true := by simp [h3]
        have hl : a.less b = decide (a.file < b.file) := by simp [Ev.less, h1, h2, h3]
        rw [hl]
        clear h1 h2 h3 hl
        go_enter Tryz.func51, Tryz.ntmps51
        go_wp2
        go_ret
        exact ⟨rfl, HE.out⟩
    · have b2 : (a.host != b.host) = true := by simp [h2]
      have hl : a.less b = decide (a.host < b.host) := by simp [Ev.less, h1, h2]
      rw [hl]
      clear h1 h2 hl
      go_enter Tryz.func51, Tryz.ntmps51
      go_wp2
      go_ret
      exact ⟨rfl, HE.out⟩
  · have b1 : (a.time != b.time) = true := by simp [h1]
    have hl : a.less b = decide (a.time < b.time) := by simp [Ev.less, h1]
    rw [hl]
    clear h1 hl
    go_enter Tryz.func51, Tryz.ntmps51
    go_wp2
    go_ret
    exact ⟨rfl, HE.out⟩
end Go.Proofs.YtodaabofpkafjaaGreat

namespace Go.Proofs.YtodaabofpkafjaaGreat
open Go.RowKit
set_option linter.unusedVariables false
set_option linter.unusedSimpArgs false

def zeroEv : Value := .agg #[.int .i64 0, .int .i64 0, .int .i64 0, .int .i64 0, .slice none 0 0, .int .i64 0, .int .i64 0, .string ⟨#[]⟩, .string ⟨#[]⟩, .slice none 0 0]
theorem eventInfo : (Tryz.prog.info? 34).map (fun i => (i.zero, i.size, i.bytes)) = some (some zeroEv, 10, 128) := by kernel_rfl
theorem Ev.one (e : Ev) : ∀ u ∈ e.cells, u.oneCell' = true := by simp [Ev.cells, Value.oneCell']
def insAt (es : List Ev) (e : Ev) (i : Nat) : List Ev := es.take i ++ e :: es.drop i
def InsPost (w : World) (es : List Ev) (e : Ev) (en : Ending) (w' : World) : Prop :=
  ∃ (A : Option Addr) (c i : Nat), i ≤ es.length ∧ (∀ j x, i ≤ j → es[j]? = some x → e.less x = true) ∧ (∀ x, 0 < i → es[i - 1]? = some x → e.less x = false) ∧ en = .returned (.slice A (es.length + 1) c) ∧ es.length + 1 ≤ c ∧ c ≤ maxLen ∧
    Rd (w.heap.size ≤ ·) w' A ((insAt es e i).flatMap Ev.cells) ∧ w.grownBy w' none

/-- the ten cells of one event of a slice -/
theorem Evs.cells_at {S : Nat → Prop} {w : World} {b off : Nat} {es : List Ev} (h : Rd S w (some ⟨b, off, none⟩) (es.flatMap Ev.cells)) {i : Nat} (hi : i < es.length) (j : Nat) (hj : j < 10) :
    w.cell? ⟨b, off + i * 10 + j, none⟩ = (es[i]).cells[j]? := by
  rw [Nat.add_assoc]
  obtain ⟨b', off', e, _, _, hc⟩ := h (by rw [flat_len _ 10 Ev.cells_len]; omega)
  injection e with e
  injection e with e1 e2
  subst e1 e2
  have h1 := flat_at Ev.cells 10 Ev.cells_len es i j hi hj
  have h2 : (es[i]).cells[j]? = some ((es[i]).cells[j]'(by rw [Ev.cells_len]; exact hj)) := List.getElem?_eq_getElem _
  rw [h2]
  exact hc _ _ (h1.trans h2)

theorem Evs.load10 {S : Nat → Prop} {w : World} {b off : Nat} {es : List Ev} (h : Rd S w (some ⟨b, off, none⟩) (es.flatMap Ev.cells)) {i : Nat} (hi : i < es.length) {y : Ev} (hy : es[i] = y) :
    w.cell? ⟨b, off + i * 10, none⟩ = some (.int .i64 y.host) ∧ w.cell? ⟨b, off + i * 10 + 1, none⟩ = some (.int .i64 y.file) ∧ w.cell? ⟨b, off + i * 10 + 2, none⟩ = some (.int .i64 y.beg) ∧
    w.cell? ⟨b, off + i * 10 + 3, none⟩ = some (.int .i64 y.fin) ∧ w.cell? ⟨b, off + i * 10 + 4, none⟩ = some (.slice y.la y.lines.length y.lc) ∧ w.cell? ⟨b, off + i * 10 + 5, none⟩ = some (.int .i64 y.time) ∧
    w.cell? ⟨b, off + i * 10 + 6, none⟩ = some (.int .i64 y.weight) ∧ w.cell? ⟨b, off + i * 10 + 7, none⟩ = some (.string y.trace) ∧ w.cell? ⟨b, off + i * 10 + 8, none⟩ = some (.string y.stream) ∧ w.cell? ⟨b, off + i * 10 + 9, none⟩ = some (.slice y.fa y.fields.length y.fc) := by
  subst hy
  exact ⟨Evs.cells_at h hi 0 (by omega), Evs.cells_at h hi 1 (by omega), Evs.cells_at h hi 2 (by omega), Evs.cells_at h hi 3 (by omega), Evs.cells_at h hi 4 (by omega), Evs.cells_at h hi 5 (by omega), Evs.cells_at h hi 6 (by omega), Evs.cells_at h hi 7 (by omega), Evs.cells_at h hi 8 (by omega), Evs.cells_at h hi 9 (by omega)⟩
theorem Blk.load10 {w : World} {g t : Nat} {y : Ev} (h : Blk w g t y.cells.toArray) :
    w.cell? ⟨g, 0, none⟩ = some (.int .i64 y.host) ∧ w.cell? ⟨g, 1, none⟩ = some (.int .i64 y.file) ∧ w.cell? ⟨g, 2, none⟩ = some (.int .i64 y.beg) ∧
    w.cell? ⟨g, 3, none⟩ = some (.int .i64 y.fin) ∧ w.cell? ⟨g, 4, none⟩ = some (.slice y.la y.lines.length y.lc) ∧ w.cell? ⟨g, 5, none⟩ = some (.int .i64 y.time) ∧
    w.cell? ⟨g, 6, none⟩ = some (.int .i64 y.weight) ∧ w.cell? ⟨g, 7, none⟩ = some (.string y.trace) ∧ w.cell? ⟨g, 8, none⟩ = some (.string y.stream) ∧ w.cell? ⟨g, 9, none⟩ = some (.slice y.fa y.fields.length y.fc) :=
  ⟨h.cell 0, h.cell 1, h.cell 2, h.cell 3, h.cell 4, h.cell 5, h.cell 6, h.cell 7, h.cell 8, h.cell 9⟩

set_option maxHeartbeats 1600000 in
set_option maxRecDepth 100000 in
theorem insert_any {S : Nat → Prop} (A : Option Addr) (es : List Ev) (c : Nat) (x : Ev) (w : World) (h : Rd S w A (es.flatMap Ev.cells)) (hl : es.length ≤ 100000) (hc : es.length ≤ c) (hcm : c ≤ maxLen) :
    Calls Tryz.prog 41 #[.slice A es.length c, .agg x.cells.toArray] w (InsPost w es x) := by
  unfold maxLen at hcm
  have H := Lib.hid (h.mono (S' := (· < w.heap.size)) (fun b _ hb => hb))
  obtain ⟨W, hW⟩ : ∃ W, W = w.alloc (.cells x.cells.toArray 34) := ⟨_, rfl⟩
  have HB : Hid (Blk W w.heap.size 34 x.cells.toArray) := hW ▸ Blk.new w _ _
  have HG : Hid (w.grownBy W none) := hW ▸ only_alloc (only_refl _ _) _
  have hW2 : w.alloc (.cells #[.int .i64 x.host, .int .i64 x.file, .int .i64 x.beg, .int .i64 x.fin, .slice x.la x.lines.length x.lc, .int .i64 x.time, .int .i64 x.weight, .string x.trace, .string x.stream, .slice x.fa x.fields.length x.fc] 34) = W := hW.symm
  clear h hW
  show Calls Tryz.prog 41 #[.slice A es.length c, .agg #[.int .i64 x.host, .int .i64 x.file, .int .i64 x.beg, .int .i64 x.fin, .slice x.la x.lines.length x.lc, .int .i64 x.time, .int .i64 x.weight, .string x.trace, .string x.stream, .slice x.fa x.fields.length x.fc]] w _
  have HW2 := Lib.hid hW2
  clear hW2
  go_enter Tryz.func41, Tryz.ntmps41
  go_wp2
  rw [HW2.out]
  obtain ⟨g, hg⟩ : ∃ g, g = w.heap.size := ⟨_, rfl⟩
  rw [← hg] at HB ⊢
  have HGS := Lib.hid hg
  clear hg HW2
  go_loopw [5] (fun i wr => ∃ k : Nat, k ≤ es.length ∧ i = .int .i64 k ∧ (∀ j y, k ≤ j → es[j]? = some y → x.less y = true) ∧ Blk wr g 34 x.cells.toArray ∧ w.grownBy wr none) (fun i _ => (intOf i).toNat)
  case atStart => exact ⟨es.length, Nat.le_refl _, rfl, (fun j y hj hy => by rw [List.getElem?_eq_none hj] at hy; cases hy), HB.out, HG.out⟩
  case round =>
    obtain ⟨k, hk, rfl, hall, hB, hG⟩ := hrel
    have G := Lib.hid hG
    have AL := Lib.hid hall
    clear hG hall HB HG
    obtain ⟨b0, b1, b2, b3, b4, b5, b6, b7, b8, b9⟩ := hB.load10
    have HB := Lib.hid hB
    clear hB
    by_cases hk0 : 0 < k
    · obtain ⟨b, off, rfl, -, -, -⟩ := H.out (by rw [flat_len _ 10 Ev.cells_len]; omega)
      obtain ⟨k, rfl⟩ : ∃ k', k = k' + 1 := ⟨k - 1, by omega⟩
      have hr := (H.out.grown G.out (by simp))
      have hklt : k < es.length := by omega
      obtain ⟨y, hy⟩ : ∃ y, es[k] = y := ⟨_, rfl⟩
      obtain ⟨e0, e1, e2, e3, e4, e5, e6, e7, e8, e9⟩ := Evs.load10 hr hklt hy
      have HY := Lib.hid hy
      clear hr hy
      have hwk : IntKind.i64.wrap (k : Int) = (k : Int) := IntWalk.i64_in _ (by omega)
      have hki : (k : Int) < (es.length : Int) := by omega
      have hkn : (0 : Int) ≤ (k : Int) := by omega
      go_wp2_with fail
      by_cases hless : x.less y = true
      · go_region_with (first | (go_at_call 51; refine (rless_any x y _).mono ?_; rintro e w2 ⟨rfl, hg2⟩))
        all_goals
          have hB2 := HB.out.drew.grown hg2 (by simp)
          have G2 : Hid (w.grownBy w2 none) := only_trans (only_drew G.out) hg2
          clear hg2 e0 e1 e2 e3 e4 e5 e6 e7 e8 e9 b0 b1 b2 b3 b4 b5 b6 b7 b8 b9 hwk
          go_wp2_with fail
          go_roundw
          case rel =>
            refine ⟨k, by omega, by go_num, fun j z hj hz => ?_, hB2, G2.out⟩
            rcases Nat.lt_or_ge k j with h | h
            · exact AL.out j z h hz
            · obtain rfl : j = k := by omega
              rw [List.getElem?_eq_getElem hklt, HY.out] at hz
              injection hz with hz
              rw [← hz]; exact hless
          case measure => simp [intOf]
      · have hless' : x.less y = false := by simpa using hless
        clear hless
        go_region_with (first | (go_at_call 51; refine (rless_any x y _).mono ?_; rintro e w2 ⟨rfl, hg2⟩))
        all_goals
          have hB2 := HB.out.drew.grown hg2 (by simp)
          have G2 : Hid (w.grownBy w2 none) := only_trans (only_drew G.out) hg2
          clear hg2 e0 e1 e2 e3 e4 e5 e6 e7 e8 e9 b0 b1 b2 b3 b4 b5 b6 b7 b8 b9 hwk
          have hlen1 : ((es.take (k + 1)).flatMap Ev.cells).length = (k + 1) * 10 := by rw [flat_len _ 10 Ev.cells_len, List.length_take, Nat.min_eq_left (by omega)]
          have HR1 : Hid (Rd (· < w.heap.size) w2 (some ⟨b, off, none⟩) ((es.take (k + 1)).flatMap Ev.cells)) := by
            have := (H.out.grown G2.out (by simp)).take ((k + 1) * 10)
            rwa [← flat_take Ev.cells_len] at this
          have hgB : g < w2.heap.size := hB2.lt
          go_wp2_with (at_builtin; refine wpList_appendN rfl _ _ 24 rfl (g + 1) Tryz.underlying24 eventInfo rfl (by decide) (v := .slice none 0 0) (by rfl) (World.ownsRow_nil _ _ _ _) (some ⟨b, off, none⟩) (k + 1) c (by rfl) HR1.out hlen1 (flat_one Ev.one _) (by decide) (by omega) (by omega) ?_; intro v5 w5 hown5 hg5 hob5)
          simp only [Nat.zero_add, List.nil_append] at hown5
          have hB5 := hB2.grown hg5 (by simp [Value.ownBlock])
          have HR5 : Hid (Rd (· < w.heap.size) w5 _ _) := ((H.out.grown G2.out (by simp)).grown hg5 (by simp [Value.ownBlock]))
          have G5 : Hid (w.grownBy w5 none) := only_trans G2.out (by simpa [Value.ownBlock] using hg5)
          have hlt5 := hB5.lt
          obtain ⟨b0, b1, b2, b3, b4, b5, b6, b7, b8, b9⟩ := hB5.load10
          clear hob5 HR1 hg5
          have hkk : IntKind.i64.wrap ((k : Int) + 1) = (k : Int) + 1 := IntWalk.i64_in _ (by omega)
          have hk1 : (0 : Int) ≤ (k : Int) + 1 := by omega
          have hk2 : (k : Int) + 1 ≤ (es.length : Int) := by omega
          have hk3 : ((k : Int) + 1).toNat = k + 1 := by omega
          go_region_law (first
            | (have htok := hown7; go_must (refine step_appendN rfl _ _ 24 rfl (g + 1) Tryz.underlying24 eventInfo rfl (by decide) (v := _) (by rfl) hown7 _ _ _ (by rfl) (HR7.out.cut (n := es.length) (k := k + 1) (size := 10) (cap := c) (by rw [flat_len _ 10 Ev.cells_len]) (by omega) (by omega)) (by rw [List.length_drop, flat_len _ 10 Ev.cells_len, Nat.sub_mul]) (fun u hu => flat_one Ev.one _ u (List.mem_of_mem_drop hu)) (by decide) (by omega) (by omega) ?_); intro v8 w8 hown8 hg8 hob8)
            | (go_must (refine step_append1 rfl _ _ 24 rfl (g + 1) Tryz.underlying24 eventInfo rfl (by decide) (v := _) (by rfl) (w0 := w5) (cs := x.cells.toArray) (by rfl) (by rfl) (by rfl) (by rfl) hown5 (by rfl) rfl (by simpa using Ev.one x) (by decide) (by omega) (by omega) ?_); intro v7 w7 hown7 hg7 hob7; have HR7 : Hid (Rd (· < w.heap.size) w7 _ _) := (HR5.out.grown hg7 (fun b hb e => by have := (hown5.lt b e.symm).1; have := HGS.out; omega)); have hz7 : w5.heap.size ≤ w7.heap.size := hg7.size))
          all_goals
            have G8 : Hid (w.grownBy w8 none) := only_own (only_own G5.out hg7 hown5 (by have := HGS.out; omega)) hg8 hown7 (by have := HGS.out; omega)
            have hown9 : w8.ownsRow (g + 1) 34 10 v8 (es.length + 1) ((insAt es x (k + 1)).flatMap Ev.cells) := by
              have e1 : (k + 1) + 1 + (es.length - (k + 1)) = es.length + 1 := by omega
              rw [e1] at hown8
              simpa [insAt, flat_drop Ev.cells_len, List.flatMap_append] using hown8
            obtain ⟨A8, c8, rfl, hc8, hm8, -, hr8⟩ := Rd.of_own hown9 (by decide)
            have HR8 := Lib.hid hr8
            clear hown5 hown7 hown8 hown9 hr8 hg7 hg8 hob7 hob8 b0 b1 b2 b3 b4 b5 b6 b7 b8 b9 hkk hk1 hk2 hk3
            go_wp2
            all_goals go_ret
            all_goals exact ⟨A8, c8, (k + 1), by omega, AL.out, (fun z hz hzz => by rw [show k + 1 - 1 = k from rfl, List.getElem?_eq_getElem hklt, HY.out] at hzz; injection hzz with hzz; rw [← hzz]; exact hless'), rfl, hc8, hm8, HR8.out.mono (fun b hb _ => by have := HGS.out; omega), G8.out⟩
    · obtain rfl : k = 0 := by omega
      clear b0 b1 b2 b3 b4 b5 b6 b7 b8 b9
      go_wp2_with fail
      go_quiet (fail)
      have HBq := HB.out.drewN nq
      have Gq : Hid (w.grownBy (wr.drewN nq) none) := only_drewN G.out nq
      have hlen1 : ((es.take 0).flatMap Ev.cells).length = 0 * 10 := by rw [flat_len _ 10 Ev.cells_len, List.length_take, Nat.min_eq_left (by omega)]
      have HR1 : Hid (Rd (· < w.heap.size) (wr.drewN nq) (A) ((es.take 0).flatMap Ev.cells)) := by
        have := (H.out.grown Gq.out (by simp)).take (0 * 10)
        rwa [← flat_take Ev.cells_len] at this
      have hgB : g < (wr.drewN nq).heap.size := HBq.lt
      go_wp2_with (at_builtin; refine wpList_appendN rfl _ _ 24 rfl (g + 1) Tryz.underlying24 eventInfo rfl (by decide) (v := .slice none 0 0) (by rfl) (World.ownsRow_nil _ _ _ _) (A) 0 c (by rfl) HR1.out hlen1 (flat_one Ev.one _) (by decide) (by omega) (by omega) ?_; intro v5 w5 hown5 hg5 hob5)
      simp only [Nat.zero_add, List.nil_append] at hown5
      have hB5 := HBq.grown hg5 (by simp [Value.ownBlock])
      have HR5 : Hid (Rd (· < w.heap.size) w5 _ _) := ((H.out.grown Gq.out (by simp)).grown hg5 (by simp [Value.ownBlock]))
      have G5 : Hid (w.grownBy w5 none) := only_trans Gq.out (by simpa [Value.ownBlock] using hg5)
      have hlt5 := hB5.lt
      obtain ⟨b0, b1, b2, b3, b4, b5, b6, b7, b8, b9⟩ := hB5.load10
      clear hob5 HR1 hg5
      have hk2 : (0 : Int) ≤ (es.length : Int) := by omega
      go_region_law (first
        | (have htok := hown7; go_must (refine step_appendN rfl _ _ 24 rfl (g + 1) Tryz.underlying24 eventInfo rfl (by decide) (v := _) (by rfl) hown7 _ _ _ (by rfl) HR7.out (by rw [flat_len _ 10 Ev.cells_len]) (flat_one Ev.one _) (by decide) (by omega) (by omega) ?_); intro v8 w8 hown8 hg8 hob8)
        | (go_must (refine step_append1 rfl _ _ 24 rfl (g + 1) Tryz.underlying24 eventInfo rfl (by decide) (v := _) (by rfl) (w0 := w5) (cs := x.cells.toArray) (by rfl) (by rfl) (by rfl) (by rfl) hown5 (by rfl) rfl (by simpa using Ev.one x) (by decide) (by omega) (by omega) ?_); intro v7 w7 hown7 hg7 hob7; have HR7 : Hid (Rd (· < w.heap.size) w7 _ _) := (HR5.out.grown hg7 (fun b hb e => by have := (hown5.lt b e.symm).1; have := HGS.out; omega)); have hz7 : w5.heap.size ≤ w7.heap.size := hg7.size))
      all_goals
        have G8 : Hid (w.grownBy w8 none) := only_own (only_own G5.out hg7 hown5 (by have := HGS.out; omega)) hg8 hown7 (by have := HGS.out; omega)
        have hown9 : w8.ownsRow (g + 1) 34 10 v8 (es.length + 1) ((insAt es x 0).flatMap Ev.cells) := by
          have e1 : 0 + 1 + es.length = es.length + 1 := by omega
          rw [e1] at hown8
          simpa [insAt, flat_drop Ev.cells_len, List.flatMap_append] using hown8
        obtain ⟨A8, c8, rfl, hc8, hm8, -, hr8⟩ := Rd.of_own hown9 (by decide)
        have HR8 := Lib.hid hr8
        clear hown5 hown7 hown8 hown9 hr8 hg7 hg8 hob7 hob8 b0 b1 b2 b3 b4 b5 b6 b7 b8 b9 hk2
        go_wp2
        all_goals go_ret
        all_goals exact ⟨A8, c8, 0, by omega, AL.out, (fun z hz => absurd hz (by omega)), rfl, hc8, hm8, HR8.out.mono (fun b hb _ => by have := HGS.out; omega), G8.out⟩
end Go.Proofs.YtodaabofpkafjaaGreat
