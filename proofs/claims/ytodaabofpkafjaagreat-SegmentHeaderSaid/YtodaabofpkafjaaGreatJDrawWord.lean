/- The draws of words, values, weights and times. No condition. -/
import Derived.Test.YtodaabofpkafjaaGreatJDraw
import Derived.Deep.RegionWith
import Derived.Deep.RegionLaw
import Derived.Deep.DeepMust
namespace Go.Proofs.YtodaabofpkafjaaGreat
open Go.RowKit
set_option linter.unusedVariables false
set_option linter.unusedSimpArgs false

set_option maxHeartbeats 800000 in
theorem word_some (g : Nat) (l : List Int) (k : Nat) (w : World) (h : CodesAt w g l k) :
    Calls Tryz.prog 102 #[.pointer (some ⟨g, 0, none⟩)] w (StrPost w g l 7) := by
  go_enter Tryz.func102, Tryz.ntmps102
  go_wp2_with fail
  refine (next_some g l k 14 _ (h.grown (World.grownBy_alloc _ _ none) (by simp)) (by omega) (by omega)).mono ?_
  rintro e w2 ⟨v2, k2, rfl, hv2, h2, hg2⟩
  obtain ⟨j, rfl⟩ := Int.eq_ofNat_of_zero_le hv2.1
  have hj : j < 14 := by omega
  have hlt := h.lt
  have hB := (Blk.new w _ _).grown hg2 (by simp; omega)
  obtain ⟨x, hc, HX⟩ := hB.str_at (m := 7) (by rfl) (j := j) hj
  have G2 := Lib.hid hg2
  have C2 := Lib.hid h2
  clear hg2 h2 hB
  go_wp2
  go_ret
  exact ⟨x, k2, rfl, by have := HX.out; simpa using this, C2.out, only_trans (only_alloc (only_refl _ _) _) G2.out⟩
end Go.Proofs.YtodaabofpkafjaaGreat

namespace Go.Proofs.YtodaabofpkafjaaGreat
open Go.RowKit
set_option linter.unusedVariables false
set_option linter.unusedSimpArgs false

def sepTab : Array Value := #[.string ⟨#[32]⟩, .string ⟨#[32]⟩, .string ⟨#[44, 32]⟩, .string ⟨#[61]⟩, .string ⟨#[]⟩]
set_option maxHeartbeats 1600000 in
theorem text_some (g : Nat) (l : List Int) (k : Nat) (w : World) (h : CodesAt w g l k) :
    Calls Tryz.prog 77 #[.pointer (some ⟨g, 0, none⟩)] w (StrPost w g l 40) := by
  go_enter Tryz.func77, Tryz.ntmps77
  go_wp2_with fail
  refine (word_some g l k _ h).mono ?_
  rintro e w1 ⟨s1, k1, rfl, hs1, h1, hg1⟩
  go_wp2_with fail
  refine (next_some g l k1 4 _ h1 (by omega) (by omega)).mono ?_
  rintro e w2 ⟨v2, k2, rfl, hv2, h2, hg2⟩
  have G2 : Hid (w.grownBy w2 (some g)) := only_trans hg1 hg2
  clear hg1 hg2 h1 h
  go_wp2_with fail
  go_loopw [3, 4] (fun s i wr => ∃ (m : Int) (s' : ByteArray) (k : Nat), i = .int .i64 m ∧ 0 ≤ m ∧ s = .string s' ∧ (s'.size : Int) + 10 * m ≤ 37 ∧ CodesAt wr g l k ∧ w.grownBy wr (some g)) (fun _ i _ => (intOf i).toNat)
  case atStart => exact ⟨v2, s1, k2, rfl, hv2.1, rfl, by omega, h2, G2.out⟩
  case round =>
    obtain ⟨m, s', k, rfl, hm, rfl, hsz, hC, hG⟩ := hrel
    have G := Lib.hid hG
    have hlt := hC.lt
    clear hG h2 G2
    by_cases hm0 : 0 < m
    · go_wp2_with fail
      go_region_with (first
        | (go_at_call 15; refine (next_some g l k 5 _ (by first | exact hC.drew | exact (hC.alloc _).drew) (by omega) (by omega)).mono ?_; rintro e w5 ⟨v5, k5, rfl, hv5, hC5, hg5⟩; obtain ⟨j, rfl⟩ := Int.eq_ofNat_of_zero_le hv5.1; obtain ⟨x, hx, hX⟩ := tab_str (cs := sepTab) (m := 2) (by rfl) (j := j) (show j < 5 by omega); simp only [sepTab] at hx; (try (have hcb := ((Blk.new _ _ _).drew.grown hg5 (by simp; omega)).cell j; rw [hx] at hcb)))
        | (go_at_call 102; refine (word_some g l k5 _ (by first | exact hC5 | exact hC5.alloc _)).mono ?_; rintro e w6 ⟨s6, k6, rfl, hs6, hC6, hg6⟩; (try (have hcb2 := ((Blk.new _ _ _).grown hg6 (by have := hC5.lt; simp; omega)).cell j; rw [hx] at hcb2)); (try (have hcb3 := hg6.cell hcb (by simp; omega)))))
      all_goals go_wp2
      all_goals go_roundw
      all_goals first
        | (refine ⟨m - 1, _, k6, rfl, by omega, rfl, ?_, by first | exact hC6 | exact hC6.alloc _, ?_⟩
           · simp only [ByteArray.size_append]; omega
           · first
             | exact only_trans (only_trans (only_drew (only_alloc G.out _)) hg5) hg6
             | exact only_trans (only_alloc (only_trans (only_drew G.out) hg5) _) hg6
             | exact only_alloc (only_trans (only_trans (only_drew G.out) hg5) hg6) _)
        | (simp [intOf]; omega)
    · go_wp2_with fail
      go_ret
      exact ⟨s', k, rfl, by omega, hC, G.out⟩
end Go.Proofs.YtodaabofpkafjaaGreat

namespace Go.Proofs.YtodaabofpkafjaaGreat
open Go.RowKit
set_option linter.unusedVariables false
set_option linter.unusedSimpArgs false

set_option maxHeartbeats 800000 in
theorem time_some (g : Nat) (l : List Int) (k : Nat) (w : World) (h : CodesAt w g l k) :
    Calls Tryz.prog 78 #[.pointer (some ⟨g, 0, none⟩)] w (DrawnPost w g l (fun v => 0 ≤ v ∧ v ≤ 253402300799999)) := by
  go_enter Tryz.func78, Tryz.ntmps78
  go_wp2_with fail
  refine (next_some g l k 4 _ h (by omega) (by omega)).mono ?_
  rintro e w1 ⟨v, k1, rfl, hv, h1, hg1⟩
  by_cases h0 : v = 0
  · have hb : (v == 0) = true := by simp [h0]
    clear h0
    go_wp2_with fail
    refine (next_some g l k1 40 _ h1 (by omega) (by omega)).mono ?_
    rintro e w2 ⟨v2, k2, rfl, hv2, h2, hg2⟩
    go_wp2
    go_ret
    exact ⟨_, k2, rfl, by simp; omega, h2, only_trans hg1 hg2⟩
  · have hb : (v == 0) = false := by simp [h0]
    by_cases h1' : v = 1
    · have hb : (v == 1) = true := by simp [h1']
      clear h0 h1'
      go_wp2_with fail
      refine (next_some g l k1 3 _ h1 (by omega) (by omega)).mono ?_
      rintro e w2 ⟨v2, k2, rfl, hv2, h2, hg2⟩
      go_wp2
      go_ret
      exact ⟨_, k2, rfl, by simp; omega, h2, only_trans hg1 hg2⟩
    · have hb : (v == 1) = false := by simp [h1']
      clear h0 h1'
      go_wp2_with fail
      refine (next_some g l k1 60 _ h1 (by omega) (by omega)).mono ?_
      rintro e w2 ⟨v2, k2, rfl, hv2, h2, hg2⟩
      go_wp2
      go_ret
      exact ⟨_, k2, rfl, by simp; omega, h2, only_trans hg1 hg2⟩
end Go.Proofs.YtodaabofpkafjaaGreat

namespace Go.Proofs.YtodaabofpkafjaaGreat
open Go.RowKit
set_option linter.unusedVariables false
set_option linter.unusedSimpArgs false

set_option maxHeartbeats 800000 in
theorem value_some (g : Nat) (l : List Int) (k : Nat) (w : World) (h : CodesAt w g l k) :
    Calls Tryz.prog 103 #[.pointer (some ⟨g, 0, none⟩)] w (StrPost w g l 20) := by
  go_enter Tryz.func103, Tryz.ntmps103
  go_wp2_with fail
  refine (next_some g l k 11 _ (h.grown (World.grownBy_alloc _ _ none) (by simp)) (by omega) (by omega)).mono ?_
  rintro e w2 ⟨v2, k2, rfl, hv2, h2, hg2⟩
  obtain ⟨j, rfl⟩ := Int.eq_ofNat_of_zero_le hv2.1
  have hj : j < 11 := by omega
  have hlt := h.lt
  have hB := (Blk.new w _ _).grown hg2 (by simp; omega)
  obtain ⟨x, hc, HX⟩ := hB.str_at (m := 20) (by rfl) (j := j) hj
  have G2 := Lib.hid hg2
  have C2 := Lib.hid h2
  clear hg2 h2 hB
  go_wp2
  go_ret
  exact ⟨x, k2, rfl, by have := HX.out; simpa using this, C2.out, only_trans (only_alloc (only_refl _ _) _) G2.out⟩

def IsWeight (v : Int) : Prop := v = 1 ∨ v = 2 ∨ v = 5 ∨ v = 10 ∨ v = 5040

set_option maxHeartbeats 800000 in
theorem weight_some (g : Nat) (l : List Int) (k : Nat) (w : World) (h : CodesAt w g l k) :
    Calls Tryz.prog 79 #[.pointer (some ⟨g, 0, none⟩)] w (DrawnPost w g l IsWeight) := by
  go_enter Tryz.func79, Tryz.ntmps79
  go_wp2_with fail
  refine (next_some g l k 6 _ (h.grown (World.grownBy_alloc _ _ none) (by simp)) (by omega) (by omega)).mono ?_
  rintro e w2 ⟨v2, k2, rfl, hv2, h2, hg2⟩
  obtain ⟨j, rfl⟩ := Int.eq_ofNat_of_zero_le hv2.1
  have hj : j < 6 := by omega
  have hlt := h.lt
  have hB := (Blk.new w _ _).grown hg2 (by simp; omega)
  obtain ⟨x, hc, HX⟩ := hB.int_at (p := fun v => v == 1 || v == 2 || v == 5 || v == 10 || v == 5040) (by rfl) (j := j) hj
  have G2 := Lib.hid hg2
  have C2 := Lib.hid h2
  clear hg2 h2 hB
  go_wp2
  go_ret
  exact ⟨x, k2, rfl, by have := HX.out; simpa [IsWeight, or_assoc] using this, C2.out, only_trans (only_alloc (only_refl _ _) _) G2.out⟩

end Go.Proofs.YtodaabofpkafjaaGreat

namespace Go.Proofs.YtodaabofpkafjaaGreat
open Go.RowKit
set_option linter.unusedVariables false
set_option linter.unusedSimpArgs false

theorem fieldInfo : (Tryz.prog.info? 60).map (fun i => (i.zero, i.size, i.bytes)) = some (some (.agg #[.string ⟨#[]⟩, .string ⟨#[]⟩]), 2, 32) := by kernel_rfl
def nameTab : List ByteArray := [⟨#[99, 111, 100, 101]⟩, ⟨#[108, 101, 118, 101, 108]⟩, ⟨#[109, 115]⟩, ⟨#[117, 115, 101, 114]⟩]
def FieldsOk (n : Nat) (fs : List FieldD) : Prop := (fs.map FieldD.name).Sublist (nameTab.take n) ∧ ∀ f ∈ fs, f.value.size ≤ 20
theorem FieldsOk.skip {n : Nat} {fs : List FieldD} (h : FieldsOk n fs) : FieldsOk (n + 1) fs :=
  ⟨h.1.trans (List.take_sublist_take_left (by omega)), h.2⟩
theorem FieldsOk.snoc {n : Nat} {fs : List FieldD} (h : FieldsOk n fs) (hn : n < 4) {f : FieldD} (h1 : nameTab[n]? = some f.name) (h2 : f.value.size ≤ 20) : FieldsOk (n + 1) (fs ++ [f]) := by
  refine ⟨?_, mem_snoc h.2 h2⟩
  have : nameTab.take (n + 1) = nameTab.take n ++ [f.name] := by rw [List.take_add_one, h1]; rfl
  rw [this, List.map_append]
  exact h.1.append (List.Sublist.refl _)
def FieldsPost (w : World) (g : Nat) (l : List Int) (e : Ending) (w' : World) : Prop :=
  ∃ (A : Option Addr) (c : Nat) (fs : List FieldD) (k : Nat), e = .returned (.slice A fs.length c) ∧ FieldsOk 4 fs ∧ fs.length ≤ c ∧ c ≤ maxLen ∧ Rd (w.heap.size ≤ ·) w' A (fs.flatMap FieldD.cells) ∧ CodesAt w' g l k ∧ w.grownBy w' (some g)

set_option maxHeartbeats 1600000 in
set_option maxRecDepth 100000 in
theorem fields_some (g : Nat) (l : List Int) (k : Nat) (w : World) (h : CodesAt w g l k) :
    Calls Tryz.prog 80 #[.pointer (some ⟨g, 0, none⟩)] w (FieldsPost w g l) := by
  have hlt0 := h.lt
  go_enter Tryz.func80, Tryz.ntmps80
  go_wp2_with fail
  obtain ⟨W, hW⟩ : ∃ W, W = w.alloc (Obj.cells (nameTab.map Value.string).toArray 9) := ⟨_, rfl⟩
  have hW2 : w.alloc (Obj.cells #[Value.string ⟨#[99, 111, 100, 101]⟩, Value.string ⟨#[108, 101, 118, 101, 108]⟩, Value.string ⟨#[109, 115]⟩, Value.string ⟨#[117, 115, 101, 114]⟩] 9) = W := hW.symm
  rw [hW2]
  have HC : Hid (CodesAt W g l k) := hW ▸ h.alloc _
  have HB : Hid (Blk W w.heap.size 9 (nameTab.map Value.string).toArray) := hW ▸ Blk.new w _ _
  have HG : Hid (w.grownBy W (some g)) := hW ▸ only_alloc (only_refl _ _) _
  clear hW hW2 h
  obtain ⟨tb, htb⟩ : ∃ tb, tb = w.heap.size := ⟨_, rfl⟩
  rw [← htb] at HB hlt0 ⊢
  have HTB := Lib.hid htb
  clear htb
  go_loopw [3, 5] (fun v i wr => ∃ (n k : Nat) (fs : List FieldD), n ≤ 4 ∧ fs.length ≤ n ∧ i = .int .i64 n ∧ FieldsOk n fs ∧ wr.ownsRow (tb + 1) 60 2 v fs.length (fs.flatMap FieldD.cells) ∧ CodesAt wr g l k ∧ Blk wr tb 9 (nameTab.map Value.string).toArray ∧ w.grownBy wr (some g)) (fun _ i _ => 4 - (intOf i).toNat)
  case atStart => exact ⟨0, k, [], by omega, by simp, rfl, ⟨by simp, by simp⟩, World.ownsRow_nil _ _ _ _, HC.out, HB.out, HG.out⟩
  case round =>
    obtain ⟨n, k, fs, hn, hfn, rfl, hok, hown, hC, hB, hG⟩ := hrel
    have G := Lib.hid hG
    have OK := Lib.hid hok
    have hlt := hB.lt
    clear hG hok HC HB HG
    by_cases hn4 : n < 4
    · go_wp2_with fail
      refine (next_some g l k 3 _ hC (by omega) (by omega)).mono ?_
      rintro e w2 ⟨v2, k2, rfl, hv2, h2, hg2⟩
      have hown2 := own_only hown hg2 (by omega)
      have hB2 := hB.grown hg2 (by simp; omega)
      have G2 : Hid (w.grownBy w2 (some g)) := only_trans G.out hg2
      have hlt2 := hB2.lt
      clear hC hB hown hg2 G hlt
      by_cases hv : v2 = 1
      · have hb1 : (v2 == 1) = true := by simp [hv]
        obtain ⟨nm, hnm⟩ : ∃ nm, nameTab[n]? = some nm := ⟨_, List.getElem?_eq_getElem (show n < nameTab.length from hn4)⟩
        have hcell := hB2.cell n
        have hcell' : w2.cell? ⟨tb, n, none⟩ = some (.string nm) := by rw [hcell]; simp [hnm]
        have HNM := Lib.hid hnm
        have HB2 := Lib.hid hB2
        clear hcell hnm hv hB2
        go_wp2_with fail
        go_region_law (first
          | (have htok := hown5; go_must (refine step_append1 rfl _ _ 32 rfl (tb + 1) Tryz.underlying32 fieldInfo rfl (by decide) (v := _) (by rfl) (w0 := w5) (cs := #[.string nm, .string s5]) (by rfl) (by rfl) (by rfl) (by rfl) hown5 (by rfl) rfl (by simp [Value.oneCell']) (by decide) (by omega) (by omega) ?_); intro v9 w9 hown9 hg9 hob9)
          | (go_simp; go_at_call 103; refine (value_some g l k2 _ (by exact h2.drew)).mono ?_; rintro e w5 ⟨s5, k5, rfl, hs5, hC5, hg5⟩; have hown5 := own_only (own_drew hown2) hg5 (by omega); have hlt5 := hC5.lt; have hz5 : w2.heap.size ≤ w5.heap.size := hg5.size; have hcell5 : w5.cell? ⟨tb, n, none⟩ = some (.string nm) := hg5.cell (show w2.drew.cell? _ = _ from hcell') (by simp; omega)))
        all_goals
          have hC9 := hC5.grown hg9 (fun b hb e => by have := (hown5.lt b e.symm).1; omega)
          have hB9 := (HB2.out.drew.grown hg5 (by simp; omega)).grown hg9 (fun e => by have := (hown5.lt _ e.symm).1; omega)
          have G9 : Hid (w.grownBy w9 (some g)) := only_own (only_trans (only_drew G2.out) hg5) hg9 hown5 (by have := HTB.out; omega)
          have hown9' : w9.ownsRow (tb + 1) 60 2 v9 (fs ++ [FieldD.mk nm s5]).length ((fs ++ [FieldD.mk nm s5]).flatMap FieldD.cells) := by simpa [FieldD.cells] using hown9
          clear hown9 hg9 hob9 hown5 hC5 hg5 hcell5 hown2 h2
          go_wp2_with fail
          go_roundw
          case rel => exact ⟨n + 1, k5, fs ++ [FieldD.mk nm s5], by omega, by simp; omega, by go_num, OK.out.snoc hn4 HNM.out hs5, hown9', hC9, hB9, G9.out⟩
          case measure => simp [intOf]; omega
      · have hb1 : (v2 == 1) = false := by simp [hv]
        go_wp2_with fail
        go_roundw
        case rel => exact ⟨n + 1, k2, fs, by omega, by omega, by go_num, OK.out.skip, hown2, h2, hB2, G2.out⟩
        case measure => simp [intOf]; omega
    · obtain rfl : n = 4 := by omega
      obtain ⟨A, cc, rfl, hnc, hcm, -, hrd⟩ := Rd.of_own hown (by decide)
      have HR := Lib.hid hrd
      clear hrd
      go_wp2_with fail
      go_ret
      exact ⟨A, cc, fs, k, rfl, OK.out, hnc, hcm, HR.out.mono (fun b hb _ => by have := HTB.out; omega), hC, G.out⟩
end Go.Proofs.YtodaabofpkafjaaGreat
