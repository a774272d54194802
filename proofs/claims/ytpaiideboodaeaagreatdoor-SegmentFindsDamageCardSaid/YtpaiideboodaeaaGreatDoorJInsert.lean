/- Insert of the reference of chapter 29. No condition. -/
import Derived.Test.YtpaiideboodaeaaGreatDoorJFlat
import Derived.StillTail
namespace Go.Proofs.YtpaiideboodaeaaGreatDoor
open Go.RowKit
set_option linter.unusedVariables false
set_option linter.unusedSimpArgs false

def zeroEv : Value := .agg #[.int .i64 0, .int .i64 0, .int .i64 0, .int .i64 0, .slice none 0 0, .int .i64 0, .int .i64 0, .string ⟨#[]⟩, .string ⟨#[]⟩, .slice none 0 0]
theorem eventInfo : (Tryz.prog.info? 44).map (fun i => (i.zero, i.size, i.bytes)) = some (some zeroEv, 10, 128) := by kernel_rfl
theorem Ev.one (e : Ev) : ∀ u ∈ e.cells, u.oneCell' = true := by simp [Ev.cells, Value.oneCell']
def insAt (es : List Ev) (e : Ev) (i : Nat) : List Ev := es.take i ++ e :: es.drop i
def InsPost (w : World) (es : List Ev) (e : Ev) (en : Ending) (w' : World) : Prop :=
  ∃ (A : Option Addr) (c i : Nat), i ≤ es.length ∧ (∀ j x, i ≤ j → es[j]? = some x → e.less x = true) ∧ (∀ x, 0 < i → es[i - 1]? = some x → e.less x = false) ∧ en = .returned (.slice A (es.length + 1) c) ∧ es.length + 1 ≤ c ∧ c ≤ maxLen ∧
    Rd (w.heap.size ≤ ·) w' A ((insAt es e i).flatMap Ev.cells) ∧ w.grownBy w' none

/-- the same, and the row is the call's own -/
def InsPostO (w : World) (es : List Ev) (e : Ev) (en : Ending) (w' : World) : Prop :=
  ∃ (A : Option Addr) (c i : Nat), i ≤ es.length ∧ (∀ j x, i ≤ j → es[j]? = some x → e.less x = true) ∧ (∀ x, 0 < i → es[i - 1]? = some x → e.less x = false) ∧ en = .returned (.slice A (es.length + 1) c) ∧ es.length + 1 ≤ c ∧ c ≤ maxLen ∧
    Rd (w.heap.size ≤ ·) w' A ((insAt es e i).flatMap Ev.cells) ∧ w.grownBy w' none ∧ w'.ownsRow w.heap.size 44 10 (.slice A (es.length + 1) c) (es.length + 1) ((insAt es e i).flatMap Ev.cells)
theorem own_base {w : World} {base base' e size n : Nat} {v : Value} {xs : List Value} (h : w.ownsRow base e size v n xs) (hb : base' ≤ base) : w.ownsRow base' e size v n xs :=
  ⟨h.1, h.2.imp id (fun ⟨g, cap, cur, h1, h2, h3⟩ => ⟨g, cap, cur, h1, Nat.le_trans hb h2, h3⟩)⟩
/-- the ten cells of one event of a slice -/
theorem Evs.cells_at {S : Nat → Prop} {w : World} {b off : Nat} {es : List Ev} (h : Rd S w (some ⟨b, off, none⟩) (es.flatMap Ev.cells)) {i : Nat} (hi : i < es.length) (j : Nat) (hj : j < 10) :
    w.cell? ⟨b, off + i * 10 + j, none⟩ = (es[i]).cells[j]? := by
  rw [Nat.add_assoc]
  obtain ⟨b', off', e, _, _, hc⟩ := h (by rw [flat_len _ 10 Ev.cells_len]; omega)
  injection e with e
  injection e with e1 e2
  subst e1 e2
  have h1 := flat_at Ev.cells 10 Ev.cells_len es i j hi hj
  have h2 : (es[i]).cells[j]? = some ((es[i]).cells[j]'(by rw [Ev.cells_len]; exact hj)) := List.getElem?_eq_getElem _
  rw [h2]
  exact hc _ _ (h1.trans h2)

theorem Evs.load10 {S : Nat → Prop} {w : World} {b off : Nat} {es : List Ev} (h : Rd S w (some ⟨b, off, none⟩) (es.flatMap Ev.cells)) {i : Nat} (hi : i < es.length) {y : Ev} (hy : es[i] = y) :
    w.cell? ⟨b, off + i * 10, none⟩ = some (.int .i64 y.host) ∧ w.cell? ⟨b, off + i * 10 + 1, none⟩ = some (.int .i64 y.file) ∧ w.cell? ⟨b, off + i * 10 + 2, none⟩ = some (.int .i64 y.beg) ∧
    w.cell? ⟨b, off + i * 10 + 3, none⟩ = some (.int .i64 y.fin) ∧ w.cell? ⟨b, off + i * 10 + 4, none⟩ = some (.slice y.la y.lines.length y.lc) ∧ w.cell? ⟨b, off + i * 10 + 5, none⟩ = some (.int .i64 y.time) ∧
    w.cell? ⟨b, off + i * 10 + 6, none⟩ = some (.int .i64 y.weight) ∧ w.cell? ⟨b, off + i * 10 + 7, none⟩ = some (.string y.trace) ∧ w.cell? ⟨b, off + i * 10 + 8, none⟩ = some (.string y.stream) ∧ w.cell? ⟨b, off + i * 10 + 9, none⟩ = some (.slice y.fa y.fields.length y.fc) := by
  subst hy
  exact ⟨Evs.cells_at h hi 0 (by omega), Evs.cells_at h hi 1 (by omega), Evs.cells_at h hi 2 (by omega), Evs.cells_at h hi 3 (by omega), Evs.cells_at h hi 4 (by omega), Evs.cells_at h hi 5 (by omega), Evs.cells_at h hi 6 (by omega), Evs.cells_at h hi 7 (by omega), Evs.cells_at h hi 8 (by omega), Evs.cells_at h hi 9 (by omega)⟩
theorem Blk.load10 {w : World} {g t : Nat} {y : Ev} (h : Blk w g t y.cells.toArray) :
    w.cell? ⟨g, 0, none⟩ = some (.int .i64 y.host) ∧ w.cell? ⟨g, 1, none⟩ = some (.int .i64 y.file) ∧ w.cell? ⟨g, 2, none⟩ = some (.int .i64 y.beg) ∧
    w.cell? ⟨g, 3, none⟩ = some (.int .i64 y.fin) ∧ w.cell? ⟨g, 4, none⟩ = some (.slice y.la y.lines.length y.lc) ∧ w.cell? ⟨g, 5, none⟩ = some (.int .i64 y.time) ∧
    w.cell? ⟨g, 6, none⟩ = some (.int .i64 y.weight) ∧ w.cell? ⟨g, 7, none⟩ = some (.string y.trace) ∧ w.cell? ⟨g, 8, none⟩ = some (.string y.stream) ∧ w.cell? ⟨g, 9, none⟩ = some (.slice y.fa y.fields.length y.fc) :=
  ⟨h.cell 0, h.cell 1, h.cell 2, h.cell 3, h.cell 4, h.cell 5, h.cell 6, h.cell 7, h.cell 8, h.cell 9⟩

set_option maxHeartbeats 1600000 in
set_option maxRecDepth 100000 in
theorem insert_own {S : Nat → Prop} (A : Option Addr) (es : List Ev) (c : Nat) (x : Ev) (w : World) (h : Rd S w A (es.flatMap Ev.cells)) (hl : es.length ≤ 100000) (hc : es.length ≤ c) (hcm : c ≤ maxLen) :
    Calls Tryz.prog 47 #[.slice A es.length c, .agg x.cells.toArray] w (InsPostO w es x) := by
  unfold maxLen at hcm
  have H := Lib.hid (h.mono (S' := (· < w.heap.size)) (fun b _ hb => hb))
  obtain ⟨W, hW⟩ : ∃ W, W = w.alloc (.cells x.cells.toArray 44) := ⟨_, rfl⟩
  have HB : Hid (Blk W w.heap.size 44 x.cells.toArray) := hW ▸ Blk.new w _ _
  have HG : Hid (w.grownBy W none) := hW ▸ only_alloc (only_refl _ _) _
  have hW2 : w.alloc (.cells #[.int .i64 x.host, .int .i64 x.file, .int .i64 x.beg, .int .i64 x.fin, .slice x.la x.lines.length x.lc, .int .i64 x.time, .int .i64 x.weight, .string x.trace, .string x.stream, .slice x.fa x.fields.length x.fc] 44) = W := hW.symm
  clear h hW
  show Calls Tryz.prog 47 #[.slice A es.length c, .agg #[.int .i64 x.host, .int .i64 x.file, .int .i64 x.beg, .int .i64 x.fin, .slice x.la x.lines.length x.lc, .int .i64 x.time, .int .i64 x.weight, .string x.trace, .string x.stream, .slice x.fa x.fields.length x.fc]] w _
  have HW2 := Lib.hid hW2
  clear hW2
  go_enter Tryz.func47, Tryz.ntmps47
  go_wp2
  rw [HW2.out]
  obtain ⟨g, hg⟩ : ∃ g, g = w.heap.size := ⟨_, rfl⟩
  rw [← hg] at HB ⊢
  have HGS := Lib.hid hg
  clear hg HW2
  go_loopw [5] (fun i wr => ∃ k : Nat, k ≤ es.length ∧ i = .int .i64 k ∧ (∀ j y, k ≤ j → es[j]? = some y → x.less y = true) ∧ Blk wr g 44 x.cells.toArray ∧ w.grownBy wr none) (fun i _ => (intOf i).toNat)
  case atStart => exact ⟨es.length, Nat.le_refl _, rfl, (fun j y hj hy => by rw [List.getElem?_eq_none hj] at hy; cases hy), HB.out, HG.out⟩
  case round =>
    obtain ⟨k, hk, rfl, hall, hB, hG⟩ := hrel
    have G := Lib.hid hG
    have AL := Lib.hid hall
    clear hG hall HB HG
    obtain ⟨b0, b1, b2, b3, b4, b5, b6, b7, b8, b9⟩ := hB.load10
    have HB := Lib.hid hB
    clear hB
    by_cases hk0 : 0 < k
    · obtain ⟨b, off, rfl, -, -, -⟩ := H.out (by rw [flat_len _ 10 Ev.cells_len]; omega)
      obtain ⟨k, rfl⟩ : ∃ k', k = k' + 1 := ⟨k - 1, by omega⟩
      have hr := (H.out.grown G.out (by simp))
      have hklt : k < es.length := by omega
      obtain ⟨y, hy⟩ : ∃ y, es[k] = y := ⟨_, rfl⟩
      obtain ⟨e0, e1, e2, e3, e4, e5, e6, e7, e8, e9⟩ := Evs.load10 hr hklt hy
      have HY := Lib.hid hy
      clear hr hy
      have hwk : IntKind.i64.wrap (k : Int) = (k : Int) := IntWalk.i64_in _ (by omega)
      have hki : (k : Int) < (es.length : Int) := by omega
      have hkn : (0 : Int) ≤ (k : Int) := by omega
      go_wp2_with fail
      by_cases hless : x.less y = true
      · go_region_with (first | (go_at_call 80; refine (rless_any x y _).mono ?_; rintro e w2 ⟨rfl, hg2⟩))
        all_goals
          have hB2 := HB.out.drew.grown hg2 (by simp)
          have G2 : Hid (w.grownBy w2 none) := only_trans (only_drew G.out) hg2
          clear hg2 e0 e1 e2 e3 e4 e5 e6 e7 e8 e9 b0 b1 b2 b3 b4 b5 b6 b7 b8 b9 hwk
          go_wp2_with fail
          go_roundw
          case rel =>
            refine ⟨k, by omega, by go_num, fun j z hj hz => ?_, hB2, G2.out⟩
            rcases Nat.lt_or_ge k j with h | h
            · exact AL.out j z h hz
            · obtain rfl : j = k := by omega
              rw [List.getElem?_eq_getElem hklt, HY.out] at hz
              injection hz with hz
              rw [← hz]; exact hless
          case measure => simp [intOf]
      · have hless' : x.less y = false := by simpa using hless
        clear hless
        go_region_with (first | (go_at_call 80; refine (rless_any x y _).mono ?_; rintro e w2 ⟨rfl, hg2⟩))
        all_goals
          have hB2 := HB.out.drew.grown hg2 (by simp)
          have G2 : Hid (w.grownBy w2 none) := only_trans (only_drew G.out) hg2
          clear hg2 e0 e1 e2 e3 e4 e5 e6 e7 e8 e9 b0 b1 b2 b3 b4 b5 b6 b7 b8 b9 hwk
          have hlen1 : ((es.take (k + 1)).flatMap Ev.cells).length = (k + 1) * 10 := by rw [flat_len _ 10 Ev.cells_len, List.length_take, Nat.min_eq_left (by omega)]
          have HR1 : Hid (Rd (· < w.heap.size) w2 (some ⟨b, off, none⟩) ((es.take (k + 1)).flatMap Ev.cells)) := by
            have := (H.out.grown G2.out (by simp)).take ((k + 1) * 10)
            rwa [← flat_take Ev.cells_len] at this
          have hgB : g < w2.heap.size := hB2.lt
          go_wp2_with (at_builtin; refine wpList_appendN rfl _ _ 24 rfl (g + 1) Tryz.underlying24 eventInfo rfl (by decide) (v := .slice none 0 0) (by rfl) (World.ownsRow_nil _ _ _ _) (some ⟨b, off, none⟩) (k + 1) c (by rfl) HR1.out hlen1 (flat_one Ev.one _) (by decide) (by omega) (by omega) ?_; intro v5 w5 hown5 hg5 hob5)
          simp only [Nat.zero_add, List.nil_append] at hown5
          have hB5 := hB2.grown hg5 (by simp [Value.ownBlock])
          have HR5 : Hid (Rd (· < w.heap.size) w5 _ _) := ((H.out.grown G2.out (by simp)).grown hg5 (by simp [Value.ownBlock]))
          have G5 : Hid (w.grownBy w5 none) := only_trans G2.out (by simpa [Value.ownBlock] using hg5)
          have hlt5 := hB5.lt
          obtain ⟨b0, b1, b2, b3, b4, b5, b6, b7, b8, b9⟩ := hB5.load10
          clear hob5 HR1 hg5
          have hkk : IntKind.i64.wrap ((k : Int) + 1) = (k : Int) + 1 := IntWalk.i64_in _ (by omega)
          have hk1 : (0 : Int) ≤ (k : Int) + 1 := by omega
          have hk2 : (k : Int) + 1 ≤ (es.length : Int) := by omega
          have hk3 : ((k : Int) + 1).toNat = k + 1 := by omega
          go_region_law (first
            | (have htok := hown7; go_must (refine step_appendN rfl _ _ 24 rfl (g + 1) Tryz.underlying24 eventInfo rfl (by decide) (v := _) (by rfl) hown7 _ _ _ (by rfl) (HR7.out.cut (n := es.length) (k := k + 1) (size := 10) (cap := c) (by rw [flat_len _ 10 Ev.cells_len]) (by omega) (by omega)) (by rw [List.length_drop, flat_len _ 10 Ev.cells_len, Nat.sub_mul]) (fun u hu => flat_one Ev.one _ u (List.mem_of_mem_drop hu)) (by decide) (by omega) (by omega) ?_); intro v8 w8 hown8 hg8 hob8)
            | (go_must (refine step_append1 rfl _ _ 24 rfl (g + 1) Tryz.underlying24 eventInfo rfl (by decide) (v := _) (by rfl) (w0 := w5) (cs := x.cells.toArray) (by rfl) (by rfl) (by rfl) (by rfl) hown5 (by rfl) rfl (by simpa using Ev.one x) (by decide) (by omega) (by omega) ?_); intro v7 w7 hown7 hg7 hob7; have HR7 : Hid (Rd (· < w.heap.size) w7 _ _) := (HR5.out.grown hg7 (fun b hb e => by have := (hown5.lt b e.symm).1; have := HGS.out; omega)); have hz7 : w5.heap.size ≤ w7.heap.size := hg7.size))
          all_goals
            have G8 : Hid (w.grownBy w8 none) := only_own (only_own G5.out hg7 hown5 (by have := HGS.out; omega)) hg8 hown7 (by have := HGS.out; omega)
            have hown9 : w8.ownsRow (g + 1) 44 10 v8 (es.length + 1) ((insAt es x (k + 1)).flatMap Ev.cells) := by
              have e1 : (k + 1) + 1 + (es.length - (k + 1)) = es.length + 1 := by omega
              rw [e1] at hown8
              simpa [insAt, flat_drop Ev.cells_len, List.flatMap_append] using hown8
            obtain ⟨A8, c8, rfl, hc8, hm8, -, hr8⟩ := Rd.of_own hown9 (by decide)
            have HR8 := Lib.hid hr8
            have HO9 := Lib.hid hown9
            clear hown5 hown7 hown8 hown9 hr8 hg7 hg8 hob7 hob8 b0 b1 b2 b3 b4 b5 b6 b7 b8 b9 hkk hk1 hk2 hk3
            go_wp2
            all_goals go_ret
            all_goals exact ⟨A8, c8, (k + 1), by omega, AL.out, (fun z hz hzz => by rw [show k + 1 - 1 = k from rfl, List.getElem?_eq_getElem hklt, HY.out] at hzz; injection hzz with hzz; rw [← hzz]; exact hless'), rfl, hc8, hm8, HR8.out.mono (fun b hb _ => by have := HGS.out; omega), G8.out, own_base HO9.out (by have := HGS.out; omega)⟩
    · obtain rfl : k = 0 := by omega
      clear b0 b1 b2 b3 b4 b5 b6 b7 b8 b9
      go_wp2_with fail
      go_quiet (fail)
      have HBq := HB.out.drewN nq
      have Gq : Hid (w.grownBy (wr.drewN nq) none) := only_drewN G.out nq
      have hlen1 : ((es.take 0).flatMap Ev.cells).length = 0 * 10 := by rw [flat_len _ 10 Ev.cells_len, List.length_take, Nat.min_eq_left (by omega)]
      have HR1 : Hid (Rd (· < w.heap.size) (wr.drewN nq) (A) ((es.take 0).flatMap Ev.cells)) := by
        have := (H.out.grown Gq.out (by simp)).take (0 * 10)
        rwa [← flat_take Ev.cells_len] at this
      have hgB : g < (wr.drewN nq).heap.size := HBq.lt
      go_wp2_with (at_builtin; refine wpList_appendN rfl _ _ 24 rfl (g + 1) Tryz.underlying24 eventInfo rfl (by decide) (v := .slice none 0 0) (by rfl) (World.ownsRow_nil _ _ _ _) (A) 0 c (by rfl) HR1.out hlen1 (flat_one Ev.one _) (by decide) (by omega) (by omega) ?_; intro v5 w5 hown5 hg5 hob5)
      simp only [Nat.zero_add, List.nil_append] at hown5
      have hB5 := HBq.grown hg5 (by simp [Value.ownBlock])
      have HR5 : Hid (Rd (· < w.heap.size) w5 _ _) := ((H.out.grown Gq.out (by simp)).grown hg5 (by simp [Value.ownBlock]))
      have G5 : Hid (w.grownBy w5 none) := only_trans Gq.out (by simpa [Value.ownBlock] using hg5)
      have hlt5 := hB5.lt
      obtain ⟨b0, b1, b2, b3, b4, b5, b6, b7, b8, b9⟩ := hB5.load10
      clear hob5 HR1 hg5
      have hk2 : (0 : Int) ≤ (es.length : Int) := by omega
      go_region_law (first
        | (have htok := hown7; go_must (refine step_appendN rfl _ _ 24 rfl (g + 1) Tryz.underlying24 eventInfo rfl (by decide) (v := _) (by rfl) hown7 _ _ _ (by rfl) HR7.out (by rw [flat_len _ 10 Ev.cells_len]) (flat_one Ev.one _) (by decide) (by omega) (by omega) ?_); intro v8 w8 hown8 hg8 hob8)
        | (go_must (refine step_append1 rfl _ _ 24 rfl (g + 1) Tryz.underlying24 eventInfo rfl (by decide) (v := _) (by rfl) (w0 := w5) (cs := x.cells.toArray) (by rfl) (by rfl) (by rfl) (by rfl) hown5 (by rfl) rfl (by simpa using Ev.one x) (by decide) (by omega) (by omega) ?_); intro v7 w7 hown7 hg7 hob7; have HR7 : Hid (Rd (· < w.heap.size) w7 _ _) := (HR5.out.grown hg7 (fun b hb e => by have := (hown5.lt b e.symm).1; have := HGS.out; omega)); have hz7 : w5.heap.size ≤ w7.heap.size := hg7.size))
      all_goals
        have G8 : Hid (w.grownBy w8 none) := only_own (only_own G5.out hg7 hown5 (by have := HGS.out; omega)) hg8 hown7 (by have := HGS.out; omega)
        have hown9 : w8.ownsRow (g + 1) 44 10 v8 (es.length + 1) ((insAt es x 0).flatMap Ev.cells) := by
          have e1 : 0 + 1 + es.length = es.length + 1 := by omega
          rw [e1] at hown8
          simpa [insAt, flat_drop Ev.cells_len, List.flatMap_append] using hown8
        obtain ⟨A8, c8, rfl, hc8, hm8, -, hr8⟩ := Rd.of_own hown9 (by decide)
        have HR8 := Lib.hid hr8
        have HO9 := Lib.hid hown9
        clear hown5 hown7 hown8 hown9 hr8 hg7 hg8 hob7 hob8 b0 b1 b2 b3 b4 b5 b6 b7 b8 b9 hk2
        go_wp2
        all_goals go_ret
        all_goals exact ⟨A8, c8, 0, by omega, AL.out, (fun z hz => absurd hz (by omega)), rfl, hc8, hm8, HR8.out.mono (fun b hb _ => by have := HGS.out; omega), G8.out, own_base HO9.out (by have := HGS.out; omega)⟩
theorem insert_any {S : Nat → Prop} (A : Option Addr) (es : List Ev) (c : Nat) (x : Ev) (w : World) (h : Rd S w A (es.flatMap Ev.cells)) (hl : es.length ≤ 100000) (hc : es.length ≤ c) (hcm : c ≤ maxLen) :
    Calls Tryz.prog 47 #[.slice A es.length c, .agg x.cells.toArray] w (InsPost w es x) :=
  (insert_own A es c x w h hl hc hcm).mono fun en w' ⟨A, c, i, h1, h2, h3, h4, h5, h6, h7, h8, _⟩ => ⟨A, c, i, h1, h2, h3, h4, h5, h6, h7, h8⟩
end Go.Proofs.YtpaiideboodaeaaGreatDoor

namespace Go.Proofs.YtpaiideboodaeaaGreatDoor
open Go
set_option linter.unusedVariables false
set_option linter.unusedSimpArgs false

/-- the frame with a value in each destination -/
def putAll (u : Nat → Value) : Nat → List Oper → Act → Act
  | _, [], a => a
  | k, o :: l, a => putAll u (k + 1) l (a.put o.dst (u k))
def upd (u : Nat → Value) (i : Nat) (v : Value) : Nat → Value := fun j => if j = i then v else u j
/-- no two operations have one destination -/
def dstApart : List Oper → Bool
  | [] => true
  | o :: l => (match o.dst with | some d => l.all fun o' => o'.dst != some d | none => true) && dstApart l
theorem put_put (a : Act) (d : Option Tmp) (v v' : Value) : (a.put d v).put d v' = a.put d v' := by
  cases d with
  | none => rfl
  | some d => simp [Act.put]
theorem putAll_put (u : Nat → Value) (l : List Oper) : ∀ (k : Nat) (a : Act) (d : Tmp) (v : Value), (∀ o ∈ l, o.dst ≠ some d) → (putAll u k l a).put (some d) v = putAll u k l (a.put (some d) v) := by
  induction l with
  | nil => intro k a d v _; rfl
  | cons o l ih =>
    intro k a d v h
    have h0 := h o (by simp)
    show (putAll u (k + 1) l (a.put o.dst (u k))).put (some d) v = putAll u (k + 1) l ((a.put (some d) v).put o.dst (u k))
    rw [ih (k + 1) _ d v (fun o' ho' => h o' (by simp [ho']))]
    congr 1
    exact (Act.put_comm a v (u k) (fun d' hd' e => h0 (by rw [e, ← hd']))).symm
theorem putAll_congr (u u' : Nat → Value) (l : List Oper) : ∀ (k : Nat) (a : Act), (∀ j, k ≤ j → j < k + l.length → u j = u' j) → putAll u k l a = putAll u' k l a := by
  induction l with
  | nil => intro k a _; rfl
  | cons o l ih =>
    intro k a h
    show putAll u (k + 1) l (a.put o.dst (u k)) = putAll u' (k + 1) l (a.put o.dst (u' k))
    rw [h k (Nat.le_refl _) (by simp), ih (k + 1) _ (fun j h1 h2 => h j (by omega) (by simp; omega))]
theorem putAll_set (u : Nat → Value) (l : List Oper) : ∀ (k i : Nat) (a : Act) (o : Oper) (v : Value), dstApart l = true → l[i]? = some o → (putAll u k l a).put o.dst v = putAll (upd u (k + i) v) k l a := by
  induction l with
  | nil => intro k i a o v _ h; simp at h
  | cons o' l ih =>
    intro k i a o v hd h
    simp only [dstApart, Bool.and_eq_true] at hd
    cases i with
    | zero =>
      simp at h
      subst h
      show (putAll u (k + 1) l (a.put o'.dst (u k))).put o'.dst v = putAll (upd u k v) (k + 1) l (a.put o'.dst (upd u k v k))
      have e1 : upd u k v k = v := by simp [upd]
      rw [e1, ← putAll_congr u (upd u k v) l (k + 1) _ (fun j h1 _ => by simp [upd]; omega)]
      cases hdst : o'.dst with
      | none => rfl
      | some d =>
        rw [hdst] at hd
        rw [putAll_put u l (k + 1) _ d v (fun o hm => by have := List.all_eq_true.1 hd.1 o hm; simpa using this), put_put]
    | succ i =>
      simp at h
      show (putAll u (k + 1) l (a.put o'.dst (u k))).put o.dst v = putAll (upd u (k + (i + 1)) v) (k + 1) l (a.put o'.dst (upd u (k + (i + 1)) v k))
      have e1 : upd u (k + (i + 1)) v k = u k := by simp [upd]
      rw [e1, ih (k + 1) i _ o v hd.2 h, show k + 1 + i = k + (i + 1) by omega]
theorem putAll_id (l : List Oper) : ∀ (k : Nat) (a : Act), ∃ u, putAll u k l a = a := by
  induction l with
  | nil => intro k a; exact ⟨fun _ => undef, rfl⟩
  | cons o l ih =>
    intro k a
    obtain ⟨u, hu⟩ := ih (k + 1) a
    obtain ⟨v, hv⟩ : ∃ v, a.put o.dst v = a := by
      cases o.dst with
      | none => exact ⟨undef, rfl⟩
      | some d =>
        refine ⟨a.tmps[d]?.getD undef, ?_⟩
        cases a with
        | mk tmps defers =>
          simp only [Act.put]
          congr 1
          apply Array.ext
          · simp
          · intro i h1 h2
            rw [Array.getElem_setIfInBounds]
            split
            · rename_i e; subst e; simp [h2]
            · rfl
    refine ⟨upd u k v, ?_⟩
    show putAll (upd u k v) (k + 1) l (a.put o.dst (upd u k v k)) = a
    have e1 : upd u k v k = v := by simp [upd]
    rw [e1, hv, ← putAll_congr u (upd u k v) l (k + 1) a (fun j h1 _ => by simp [upd]; omega), hu]

def St (R : World → World → Prop) (p : Value → World → Prop) : Prop := ∀ v w w', R w w' → p v w → p v w'
theorem St.const {R : World → World → Prop} (c : Value) : St R (fun v _ => v = c) := fun _ _ _ _ h => h
theorem St.any {R : World → World → Prop} : St R (fun _ _ => True) := fun _ _ _ _ h => h
def phi (φs : List (Value → World → Prop)) (j : Nat) : Value → World → Prop := φs.getD j (fun _ _ => True)

section
variable {P : Program} {Q : Exit → Act → World → Prop}
/-- what one operation owes -/
structure StepOk (P : Program) (Q : Exit → Act → World → Prop) (ops : Array Oper) (hd : List Oper) (a : Act) (R : World → World → Prop) (G : World → Prop) (φs : List (Value → World → Prop)) (i : Nat) (o : Oper) : Prop where
  step : ∀ (u : Nat → Value) (w : World), G w → (∀ j, Region.waitsFor .any ops i j = true → phi φs j (u j) w) → ∀ K : Act → World → Prop,
    (∀ v w', G w' → R w w' → phi φs i v w' → K ((putAll u 0 hd a).put o.dst v) w') →
    if Region.wanted o (yielded ops (putAll u 0 hd a).tmps) = true then o.wp P (putAll u 0 hd a) w K Q else K ((putAll u 0 hd a).put o.dst undef) w
def StepsOk (P : Program) (Q : Exit → Act → World → Prop) (ops : Array Oper) (hd : List Oper) (a : Act) (R : World → World → Prop) (G : World → Prop) (φs : List (Value → World → Prop)) : Nat → List Oper → Prop
  | _, [] => True
  | k, o :: l => StepOk P Q ops hd a R G φs k o ∧ StepsOk P Q ops hd a R G φs (k + 1) l
theorem StepsOk.at {ops : Array Oper} {hd : List Oper} {a : Act} {R : World → World → Prop} {G : World → Prop} {φs : List (Value → World → Prop)} : ∀ (l : List Oper) (k i : Nat) (o : Oper), StepsOk P Q ops hd a R G φs k l → l[i]? = some o → StepOk P Q ops hd a R G φs (k + i) o
  | [], k, i, o, _, h => by simp at h
  | o' :: l, k, 0, o, hs, h => by simp at h; subst h; exact hs.1
  | o' :: l, k, i + 1, o, hs, h => by rw [show k + (i + 1) = k + 1 + i by omega]; exact StepsOk.at l (k + 1) i o hs.2 (by simpa using h)
theorem StepsOk.nil {ops : Array Oper} {hd : List Oper} {a : Act} {R : World → World → Prop} {G : World → Prop} {φs : List (Value → World → Prop)} {k : Nat} : StepsOk P Q ops hd a R G φs k [] := trivial
theorem StepsOk.cons {ops : Array Oper} {hd : List Oper} {a : Act} {R : World → World → Prop} {G : World → Prop} {φs : List (Value → World → Prop)} {k : Nat} {o : Oper} {l : List Oper} (h1 : StepOk P Q ops hd a R G φs k o) (h2 : StepsOk P Q ops hd a R G φs (k + 1) l) : StepsOk P Q ops hd a R G φs k (o :: l) := ⟨h1, h2⟩

/-- the state of the choice while the first n are at work -/
structure InvAt (ops : Array Oper) (n : Nat) (hd : List Oper) (a0 : Act) (G : World → Prop) (φs : List (Value → World → Prop)) (L : Array Bool) (a : Act) (w : World) : Prop where
  head : HeadInv .any ops n L
  good : G w
  vals : ∃ u, a = putAll u 0 hd a0 ∧ ∀ j, L.getD j false = true → phi φs j (u j) w

def headDone (n m : Nat) : Array Bool := (List.replicate n true ++ List.replicate m false).toArray
/-- every operation waits for earlier ones alone -/
def backB (ops : Array Oper) : Bool := (List.range ops.size).all fun i => match ops[i]? with | some o => o.after.all fun e => !Region.binds .any e || decide (e.on < i) | none => true
/-- all of the first n come up before the others, and the others in the order of the text -/
def headB (l : List Oper) (n : Nat) : Bool :=
  decide (n ≤ l.length) && (decide (n = l.length) || (Region.sinkB .any l.toArray n && Region.chainB .any l.toArray n)) && Region.seqB .any l.toArray (l.length - n) n (headDone n (l.length - n)) && dstApart (l.take n) && backB l.toArray
theorem ready_ne {ops : Array Oper} {L : Array Bool} (hb : backB ops = true) : ∀ (i : Nat), i < ops.size → L.getD i true = false → Region.ready .any ops L ≠ [] := by
  intro i
  induction i using Nat.strongRecOn with
  | _ i ih =>
    intro hi hu hnil
    by_cases h : ∃ j, j < i ∧ L.getD j true = false
    · obtain ⟨j, hj, hju⟩ := h
      exact ih j hj (by omega) hju hnil
    · have hmem : i ∈ Region.ready .any ops L := by
        refine mem_ready.2 ⟨hu, ops[i], by simp [hi], fun e he hbd => ?_⟩
        have h1 := List.all_eq_true.1 hb i (List.mem_range.2 hi)
        simp only [hi, Array.getElem?_eq_getElem, Array.all_eq_true_iff_forall_mem] at h1
        have h2 := h1 e he
        simp only [hbd, Bool.not_true, Bool.false_or, decide_eq_true_eq] at h2
        cases h3 : L.getD e.on false with
        | true => rfl
        | false =>
          have hs : i < L.size := by
            rcases Nat.lt_or_ge i L.size with h' | h'
            · exact h'
            · simp [Array.getElem?_eq_none h'] at hu
          exact absurd ⟨e.on, h2, getD_in (by omega) h3⟩ h
      rw [hnil] at hmem
      cases hmem
theorem wpAny_more {ops : Array Oper} : ∀ (d f : Nat) (L : Array Bool) (a : Act) (w : World), wpAny P .any ops Q f L a w → wpAny P .any ops Q (f + d) L a w := by
  intro d f
  induction f with
  | zero => intro L a w h; exact wpAny_done h.1 h.2 _
  | succ f ih =>
    intro L a w h
    rw [Nat.add_right_comm]
    exact ⟨h.1, fun i hi => wpOp_mono (fun a' w' h' => ih _ a' w' h') (h.2 i hi)⟩

theorem all_listed {ops : Array Oper} {n : Nat} {L : Array Bool} (hn : n ≤ ops.size) (hI : HeadInv .any ops n L) (h : ∀ i, i < n → L.getD i false = true) : L = headDone n (ops.size - n) := by
  apply Array.ext
  · simp [headDone, hI.size]; omega
  · intro i h1 h2
    by_cases hin : i < n
    · have := h i hin
      simp [h1] at this
      simp [headDone, hin, this, List.getElem_append]
    · have := hI.tail i (by omega) (by have := hI.size; omega)
      simp [h1] at this
      simp [headDone, hin, this, List.getElem_append]

def openN (L : Array Bool) (n : Nat) : Nat := ((List.range n).filter fun i => !L.getD i true).length
theorem openN_set {L : Array Bool} {n i : Nat} (hi : i < n) (h : L.getD i true = false) : openN (L.setIfInBounds i true) n + 1 ≤ openN L n := by
  unfold openN
  induction n with
  | zero => omega
  | succ n ih =>
    rw [List.range_succ, List.filter_append, List.filter_append, List.length_append, List.length_append]
    by_cases e : i = n
    · subst e
      have h1 : ([i].filter fun j => !(L.setIfInBounds i true).getD j true).length = 0 := by
        have hs : i < L.size := by
          rcases Nat.lt_or_ge i L.size with h' | h'
          · exact h'
          · simp [Array.getElem?_eq_none h'] at h
        simp [hs]
      have h2 : ([i].filter fun j => !L.getD j true).length = 1 := by rw [List.filter_cons, if_pos (by rw [h]; rfl)]; rfl
      have h3 : ((List.range i).filter fun j => !(L.setIfInBounds i true).getD j true).length = ((List.range i).filter fun j => !L.getD j true).length := by
        congr 1
        apply List.filter_congr
        intro j hj
        rw [getD_set_ne true (by have := List.mem_range.1 hj; omega)]
      omega
    · have h1 : ([n].filter fun j => !(L.setIfInBounds i true).getD j true).length = ([n].filter fun j => !L.getD j true).length := by
        congr 1
        apply List.filter_congr
        intro j hj
        rw [getD_set_ne true (by simp at hj; omega)]
      have := ih (by omega)
      omega
theorem openN_zero {L : Array Bool} {n : Nat} (h : openN L n = 0) (i : Nat) (hi : i < n) (hs : i < L.size) : L.getD i false = true := by
  cases hb : L.getD i false with
  | true => rfl
  | false =>
    have h1 : i ∈ (List.range n).filter fun i => !L.getD i true := List.mem_filter.2 ⟨List.mem_range.2 hi, by rw [getD_in hs hb]; rfl⟩
    have := List.length_pos_of_mem h1
    unfold openN at h
    omega

theorem wpAny_of_inv {l : List Oper} {n : Nat} {a0 : Act} {R : World → World → Prop} {G : World → Prop} {φs : List (Value → World → Prop)}
    (hn : n ≤ l.length) (hw : n = l.length ∨ (Region.sinkB .any l.toArray n = true ∧ Region.chainB .any l.toArray n = true)) (hseq : Region.seqB .any l.toArray (l.length - n) n (headDone n (l.length - n)) = true) (hap : dstApart (l.take n) = true) (hback : backB l.toArray = true)
    (hst : ∀ p ∈ φs, St R p) (hs : StepsOk P Q l.toArray (l.take n) a0 R G φs 0 (l.take n))
    (hend : ∀ u w, G w → (∀ j, j < n → phi φs j (u j) w) → wpList P l.toArray Q (l.drop n) (putAll u 0 (l.take n) a0) w) :
    ∀ (f : Nat) (L : Array Bool) (a : Act) (w : World), openN L n = f → InvAt l.toArray n (l.take n) a0 G φs L a w → wpAny P .any l.toArray Q (f + (l.length - n)) L a w := by
  have hstab : ∀ j v w w', R w w' → phi φs j v w → phi φs j v w' := by
    intro j v w w' hR h
    unfold phi at *
    rcases Nat.lt_or_ge j φs.length with h' | h'
    · rw [List.getD_eq_getElem?_getD, List.getElem?_eq_getElem h'] at *
      exact hst _ (List.getElem_mem h') v w w' hR h
    · rw [List.getD_eq_getElem?_getD, List.getElem?_eq_none h'] at *; trivial
  intro f
  induction f using Nat.strongRecOn with
  | _ f ih =>
    intro L a w hf hI
    cases hall : (List.range n).all (fun i => L.getD i false) with
    | true =>
      have hl : ∀ i, i < n → L.getD i false = true := fun i hi => List.all_eq_true.1 hall i (List.mem_range.2 hi)
      have hL := all_listed (by simpa using hn) hI.head hl
      obtain ⟨u, rfl, hu⟩ := hI.vals
      have h0 : f = 0 := by
        rw [← hf]; unfold openN
        rw [List.length_eq_zero_iff, List.filter_eq_nil_iff]
        intro i hi
        have h1 := hl i (List.mem_range.1 hi)
        have hs : i < L.size := by rw [hI.head.size]; have := List.mem_range.1 hi; simp; omega
        simp [hs] at h1 ⊢
        exact h1
      subst h0
      rw [Nat.zero_add]
      have hdl : (l.drop n).length = l.length - n := by simp
      have hL' : L = headDone n (l.length - n) := by simpa using hL
      have := wpAny_of_seq (md := .any) (Q' := Q) (l.drop n) n L (putAll u 0 (l.take n) a0) w (fun j => by simp [List.getElem?_drop]) (by rw [hdl, hL']; exact hseq) (hend u w hI.good (fun j hj => hu j (hl j hj)))
      rw [hdl] at this
      exact this
    | false =>
      obtain ⟨i0, hi0, hu0⟩ : ∃ i, i < n ∧ L.getD i true = false := by
        have : ¬ ∀ i ∈ List.range n, L.getD i false = true := fun h => by rw [List.all_eq_true.2 h] at hall; cases hall
        by_cases h : ∃ i, i < n ∧ L.getD i true = false
        · exact h
        · exfalso
          apply this
          intro i hi
          cases hb : L.getD i false with
          | true => rfl
          | false => exact absurd ⟨i, List.mem_range.1 hi, getD_in (by rw [hI.head.size]; have := List.mem_range.1 hi; simp; omega) hb⟩ h
      have hf1 : 1 ≤ f := by have := openN_set hi0 hu0; omega
      obtain ⟨f, rfl⟩ : ∃ f', f = f' + 1 := ⟨f - 1, by omega⟩
      rw [show f + 1 + (l.length - n) = (f + (l.length - n)) + 1 by omega]
      have hstep : ∀ i ∈ Region.ready .any l.toArray L, i < n := by
        intro i hi
        rcases Nat.lt_or_ge i n with h | h
        · exact h
        · exfalso
          rcases hw with hw | ⟨hs1, hc1⟩
          · obtain ⟨_, o, ho, _⟩ := mem_ready.1 hi
            have := (Array.getElem?_eq_some_iff.1 ho).1
            simp at this; omega
          · rcases Nat.lt_or_ge n l.length with hn' | hn'
            · exact tail_waits hs1 hc1 (by simpa using hn') hI.head _ i0 rfl hi0 hu0 i h hi
            · obtain ⟨_, o, ho, _⟩ := mem_ready.1 hi
              have := (Array.getElem?_eq_some_iff.1 ho).1
              simp at this; omega
      have hne : Region.ready .any l.toArray L ≠ [] := ready_ne hback i0 (by simp; omega) hu0
      refine ⟨fun h => absurd h hne, fun i hi => ?_⟩
      have hin := hstep i hi
      obtain ⟨hun, o, ho, hall2⟩ := mem_ready.1 hi
      have hol : l[i]? = some o := by simpa using ho
      have hot : (l.take n)[i]? = some o := by rw [List.getElem?_take, if_pos hin]; exact hol
      obtain ⟨u, rfl, hu⟩ := hI.vals
      have hk := StepsOk.at (l.take n) 0 i o hs hot
      rw [Nat.zero_add] at hk
      have hdep : ∀ j, Region.waitsFor .any l.toArray i j = true → phi φs j (u j) w := by
        intro j hj
        obtain ⟨oj, hoj, e, he, hb, hon⟩ := Region.waitsFor_spec hj
        have : oj = o := Option.some.inj (hoj.symm.trans ho)
        subst this
        exact hu j (by rw [← hon]; exact hall2 e he hb)
      have hk2 := hk.step u w hI.good hdep (wpAny P .any l.toArray Q (f + (l.length - n)) (L.setIfInBounds i true)) (fun v w' hG hR hp => by
        have hop := openN_set hin hun
        rw [putAll_set u (l.take n) 0 i a0 o v hap hot, Nat.zero_add]
        obtain ⟨d, hd⟩ : ∃ d, f = openN (L.setIfInBounds i true) n + d := ⟨f - openN (L.setIfInBounds i true) n, by omega⟩
        have h1 := ih (openN (L.setIfInBounds i true) n) (by omega) (L.setIfInBounds i true) (putAll (upd u i v) 0 (l.take n) a0) w' rfl ⟨hI.head.set hi hin, hG, upd u i v, rfl, fun j hj => by
          by_cases e : j = i
          · subst e; simpa [upd] using hp
          · rw [getD_set_ne false (Ne.symm e)] at hj
            have := hstab j (u j) w w' hR (hu j hj)
            simpa [upd, e] using this⟩
        rw [hd, Nat.add_right_comm]
        exact wpAny_more d _ _ _ _ h1)
      unfold wpOp
      simp only [ho]
      split
      · rename_i hwt; rw [if_pos hwt] at hk2; exact .inl hk2
      · rename_i hwt; rw [if_neg hwt] at hk2; exact hk2

/-- **the law** -/
theorem wp_region_inv {id : Nat} {l : List Oper} {a : Act} {w : World} (n : Nat) (R : World → World → Prop) (G : World → Prop) (φs : List (Value → World → Prop))
    (hm : P.follows .mixedOrders = true) (hB : headB l n = true) (hst : ∀ p ∈ φs, St R p) (hG : G w.drew)
    (hs : StepsOk P Q l.toArray (l.take n) a R G φs 0 (l.take n))
    (hend : ∀ u w', G w' → (∀ j, j < n → phi φs j (u j) w') → wpList P l.toArray Q (l.drop n) (putAll u 0 (l.take n) a) w') : (Code.region id l.toArray true).wp P Q a w := by
  simp only [headB, Bool.and_eq_true, Bool.or_eq_true, decide_eq_true_eq] at hB
  obtain ⟨⟨⟨⟨hn, hw⟩, hseq⟩, hap⟩, hback⟩ := hB
  refine wp_region_any hm ?_
  obtain ⟨u, hu⟩ := putAll_id (l.take n) 0 a
  have inv0 : HeadInv .any l.toArray n (Array.replicate l.toArray.size false) :=
    ⟨by simp, fun j oj _ hl => (by rw [getD_replicate_false] at hl; cases hl), fun t _ ht => getD_in (by simpa using ht) (getD_replicate_false _ _)⟩
  have hle : openN (Array.replicate l.toArray.size false) n ≤ n := by
    unfold openN
    have := List.length_filter_le (fun i => !(Array.replicate l.toArray.size false).getD i true) (List.range n)
    simpa using this
  have := wpAny_of_inv hn hw hseq hap hback hst hs hend _ (Array.replicate l.toArray.size false) a w.drew rfl ⟨inv0, hG, u, hu.symm, fun j hj => by rw [getD_replicate_false] at hj; cases hj⟩
  obtain ⟨d, hd⟩ : ∃ d, l.toArray.size = openN (Array.replicate l.toArray.size false) n + (l.length - n) + d := ⟨l.length - (openN (Array.replicate l.toArray.size false) n + (l.length - n)), by simp; simp at hle; omega⟩
  have h2 := wpAny_more d _ _ _ _ this
  rw [← hd] at h2
  exact h2
end

/-- what the frame reads -/
theorem eval_put_same (a : Act) (t : Tmp) (v : Value) (h : t < a.tmps.size) : (a.put (some t) v).eval (.tmp t) = v := by
  simp [Act.eval, Act.put, h]
theorem putAll_size (u : Nat → Value) (l : List Oper) : ∀ (k : Nat) (a : Act), (putAll u k l a).tmps.size = a.tmps.size := by
  induction l with
  | nil => intro k a; rfl
  | cons o l ih =>
    intro k a
    show (putAll u (k + 1) l (a.put o.dst (u k))).tmps.size = a.tmps.size
    rw [ih]
    cases o.dst <;> simp [Act.put]
theorem putAll_other (u : Nat → Value) (l : List Oper) : ∀ (k : Nat) (a : Act) (t : Tmp), l.all (fun o => o.dst != some t) = true → (putAll u k l a).eval (.tmp t) = a.eval (.tmp t) := by
  induction l with
  | nil => intro k a t _; rfl
  | cons o l ih =>
    intro k a t h
    simp only [List.all_cons, Bool.and_eq_true] at h
    show (putAll u (k + 1) l (a.put o.dst (u k))).eval (.tmp t) = a.eval (.tmp t)
    rw [ih (k + 1) _ t h.2]
    exact Act.eval_put (fun d hd e => by injection e with e; rw [hd, e] at h; simp at h)
def isDst (l : List Oper) (j : Nat) (t : Tmp) : Bool := match l[j]? with | some o => o.dst == some t | none => false
theorem putAll_at (u : Nat → Value) (l : List Oper) : ∀ (k j : Nat) (a : Act) (t : Tmp), dstApart l = true → isDst l j t = true → t < a.tmps.size → (putAll u k l a).eval (.tmp t) = u (k + j) := by
  induction l with
  | nil => intro k j a t _ h; simp [isDst] at h
  | cons o l ih =>
    intro k j a t hd h ht
    simp only [dstApart, Bool.and_eq_true] at hd
    show (putAll u (k + 1) l (a.put o.dst (u k))).eval (.tmp t) = u (k + j)
    cases j with
    | zero =>
      have h0 : o.dst = some t := by simpa [isDst] using h
      rw [h0] at hd
      rw [putAll_other u l (k + 1) _ t hd.1, h0]
      exact eval_put_same a t (u k) ht
    | succ j =>
      rw [ih (k + 1) j _ t hd.2 (by simpa [isDst] using h) (by cases o.dst <;> simp [Act.put] <;> exact ht)]
      congr 1; omega

section
variable {P : Program} {Q : Exit → Act → World → Prop} {ops : Array Oper} {hd : List Oper} {a : Act} {R : World → World → Prop} {G : World → Prop} {φs : List (Value → World → Prop)} {i : Nat} {o : Oper}
/-- what an operation reads while the frame is at work -/
structure Rho (hd : List Oper) (a : Act) (u : Nat → Value) (ρ : Operand → Value) : Prop where
  at_ : ∀ j t, isDst hd j t = true → t < a.tmps.size → ρ (.tmp t) = u j
  other : ∀ t, hd.all (fun o => o.dst != some t) = true → ρ (.tmp t) = a.eval (.tmp t)
  con : ∀ v, ρ (.const v) = v
  fn : ∀ f, ρ (.func f) = .func (.func f) #[] #[]
theorem Rho.mk_ (hap : dstApart hd = true) (u : Nat → Value) : Rho hd a u (putAll u 0 hd a).eval :=
  ⟨fun j t h ht => by rw [putAll_at u hd 0 j a t hap h ht, Nat.zero_add], fun t h => putAll_other u hd 0 a t h, fun _ => rfl, fun _ => rfl⟩
/-- what is known when operation i comes up -/
structure Known (ops : Array Oper) (hd : List Oper) (a : Act) (G : World → Prop) (φs : List (Value → World → Prop)) (i : Nat) (u : Nat → Value) (ρ : Operand → Value) (w : World) : Prop where
  rho : Rho hd a u ρ
  good : G w
  dep : ∀ j, Region.waitsFor .any ops i j = true → phi φs j (u j) w
/-- an operation that runs to a value -/
theorem StepOk.run (hg : o.guard = none) (hap : dstApart hd = true) (h : ∀ u ρ w, Known ops hd a G φs i u ρ w → ∃ v w', (execOp ρ o).run P w = .ok (.value v) w' ∧ G w' ∧ R w w' ∧ phi φs i v w') : StepOk P Q ops hd a R G φs i o := by
  refine ⟨?_⟩
  intro u w hG hdep K hK
  have hwt : Region.wanted o (yielded ops (putAll u 0 hd a).tmps) = true := by simp [Region.wanted, hg]
  rw [if_pos hwt]
  obtain ⟨v, w', hr, h1, h2, h3⟩ := h u _ w ⟨Rho.mk_ hap u, hG, hdep⟩
  unfold Oper.wp
  rw [hr]
  simp only [Oper.upon]
  exact hK v w' h1 h2 h3
/-- an operation that has no value -/
theorem StepOk.skip (hg : o.guard = none) (hap : dstApart hd = true) (h : ∀ u ρ w, Known ops hd a G φs i u ρ w → ∃ w', (execOp ρ o).run P w = .ok .skip w' ∧ G w' ∧ R w w' ∧ phi φs i undef w') : StepOk P Q ops hd a R G φs i o := by
  refine ⟨?_⟩
  intro u w hG hdep K hK
  have hwt : Region.wanted o (yielded ops (putAll u 0 hd a).tmps) = true := by simp [Region.wanted, hg]
  rw [if_pos hwt]
  obtain ⟨w', hr, h1, h2, h3⟩ := h u _ w ⟨Rho.mk_ hap u, hG, hdep⟩
  unfold Oper.wp
  rw [hr]
  simp only [Oper.upon]
  exact hK undef w' h1 h2 h3
/-- a call -/
theorem StepOk.call (hg : o.guard = none) (hap : dstApart hd = true) (f : FuncId)
    (h : ∀ u ρ w, Known ops hd a G φs i u ρ w → ∃ args, (execOp ρ o).run P w = .ok (.enter f args) w ∧ Calls P f args w (fun e w' => ∃ v, e = .returned v ∧ G w' ∧ R w w' ∧ phi φs i v w')) : StepOk P Q ops hd a R G φs i o := by
  refine ⟨?_⟩
  intro u w hG hdep K hK
  have hwt : Region.wanted o (yielded ops (putAll u 0 hd a).tmps) = true := by simp [Region.wanted, hg]
  rw [if_pos hwt]
  unfold Oper.wp
  obtain ⟨args, h0, h⟩ := h u _ w ⟨Rho.mk_ hap u, hG, hdep⟩
  rw [h0]
  simp only [Oper.upon]
  refine h.mono ?_
  rintro e w' ⟨v, rfl, h1, h2, h3⟩
  exact hK v w' h1 h2 h3
/-- a copy -/
theorem StepOk.move (hg : o.guard = none) (hap : dstApart hd = true) (x : Operand) (ho : o.op = .move x) (hR : ∀ w, R w w) (h : ∀ u ρ w, Known ops hd a G φs i u ρ w → phi φs i (ρ x) w) : StepOk P Q ops hd a R G φs i o :=
  .run hg hap fun u ρ w k => ⟨ρ x, w, by simp [execOp, ho], k.good, hR w, h u ρ w k⟩
end
end Go.Proofs.YtpaiideboodaeaaGreatDoor
