/- slices.Clone at []uint8 (printed by mkclone.py). Condition: sizes. -/
import Derived.Test.YtganfhmjklcchaaGreatJCmpI
import Derived.Lib.SliceRun
import Derived.Deep.DeepCutAuto
import Derived.Test.YtganfhmjklcchaaGreatJBase
import Derived.Laws.CopyRow
import Derived.Lib.Overlaps
import Derived.Lib.AppendZerosOnto
import Derived.Lib.AppendZeros
import Derived.Laws.Externs
import Derived.Test.YtganfhmjklcchaaGreatJInv
import Derived.Deep.RegionLaw
namespace Go.Proofs.YtganfhmjklcchaaGreat
open Go.RowKit
set_option linter.unusedVariables false
set_option linter.unusedSimpArgs false

def CloneByPost (w : World) (n : Nat) (xs : List Value) (e : Ending) (w' : World) : Prop := ∃ A' c', e = .returned (.slice A' n c') ∧ w'.ownsRow w.heap.size 5 1 (.slice A' n c') n xs ∧ w.grownBy w' none
set_option maxHeartbeats 1000000 in
set_option maxRecDepth 100000 in
theorem cloneBy_any {S : Nat → Prop} (A : Option Addr) (n c : Nat) (xs : List Value) (w : World) (hr : Rd S w A xs) (hn : xs.length = n * 1) (hl : n ≤ 10000000) (h1 : ∀ u ∈ xs, u.oneCell' = true) (hA : A = none → n = 0) :
    Calls Tryz.prog 44 #[.slice A n c] w (CloneByPost w n xs) := by
  have q22 : ∀ (w : World) (a : Option Addr) (n c n' c' : Nat), (binOp .eql 22 (.slice a n c) (.slice none n' c')).run Tryz.prog w = .ok (.bool a.isNone) w := fun w a n c n' c' => Lib.run_eql_slice_nil w _ _ a n c n' c' Tryz.underlying22
  have H1 := Lib.hid h1
  have HR := Lib.hid hr
  clear h1 hr
  cases A with
  | none =>
    obtain rfl := hA rfl
    obtain rfl : xs = [] := List.eq_nil_of_length_eq_zero (by omega)
    clear hA
    go_enter Tryz.func44, Tryz.ntmps44
    go_wp2_with fail
    go_ret
    exact ⟨none, 0, rfl, World.ownsRow_nil _ _ _ _, only_refl _ _⟩
  | some a =>
    clear hA
    go_enter Tryz.func44, Tryz.ntmps44
    go_wp2_with (at_builtin; refine wpList_appendN rfl _ _ 22 rfl w.heap.size Tryz.underlying22 byteInfo8 rfl (by decide) (v := .slice (some ⟨w.heap.size, 0, none⟩) 0 0) (by rfl) (World.ownsRow_made w #[] 0 (Nat.le_refl _) (Nat.zero_le _) (by simp)) (some a) n c (news := xs) (by rfl) (HR.out.alloc _) hn H1.out (by decide) (by omega) (by simp) ?_; intro v3 w3 hown3 hg3 hob3)
    have O3 : Hid (w3.ownsRow w.heap.size 5 1 v3 n xs) := Lib.hid (by simpa using hown3)
    have G3 : Hid (w.grownBy w3 none) := Lib.hid (only_fresh (only_alloc (only_refl _ _) _) (by simpa [Value.ownBlock] using hg3) (Nat.le_refl _))
    clear hown3 hg3 hob3
    obtain ⟨A3, c3, rfl, -, -, -, -⟩ := Rd.of_own O3.out (by decide)
    go_wp2_with fail
    go_ret
    exact ⟨A3, c3, rfl, O3.out, G3.out⟩
end Go.Proofs.YtganfhmjklcchaaGreat

namespace Go.Proofs.YtganfhmjklcchaaGreat
open Go.RowKit
set_option linter.unusedVariables false
set_option linter.unusedSimpArgs false

def Blt (a b : BlobD) : Prop := a.id < b.id ∨ (a.id = b.id ∧ a.tier < b.tier)
def BSrt (bs : List BlobD) : Prop := bs.Pairwise Blt
theorem cfBlob_lt {x : BlobD} {i t : Int} : cfBlob i t x < 0 ↔ (x.id < i ∨ (x.id = i ∧ x.tier < t)) := by
  unfold cfBlob cmpI
  (repeat' split) <;> omega
theorem cfBlob_eq {x : BlobD} {i t : Int} : cfBlob i t x = 0 ↔ (x.id = i ∧ x.tier = t) := by
  unfold cfBlob cmpI
  (repeat' split) <;> omega
theorem BSrt.mono {bs : List BlobD} (h : BSrt bs) (i t : Int) : MonoC (cfBlob i t) bs := by
  intro p q x y hpq hx hy hc
  obtain ⟨p1, p2⟩ := List.getElem?_eq_some_iff.1 hx
  obtain ⟨q1, q2⟩ := List.getElem?_eq_some_iff.1 hy
  have := List.pairwise_iff_getElem.1 h p q p1 q1 hpq
  rw [p2, q2] at this
  rw [cfBlob_lt] at hc ⊢
  unfold Blt at this
  omega
/-- the data of a blob, if it is there -/
def getB (bs : List BlobD) (i t : Int) : Option (List Int) := if okC (cfBlob i t) bs = true then (bs[lowC (cfBlob i t) bs]?).map (·.data) else none
def GetPost (w : World) (r : Option (List Int)) (e : Ending) (w' : World) : Prop :=
  w.grownBy w' none ∧ match r with
    | some d => ∃ A c, e = .returned (.tuple #[.slice A d.length c, .bool true]) ∧ d.length ≤ c ∧ c ≤ maxLen ∧ Rd (w.heap.size ≤ ·) w' A (d.map (.int .u8))
    | none => e = .returned (.tuple #[.slice none 0 0, .bool false])
theorem okC_some {α : Type} {cf : α → Int} {xs : List α} (h : okC cf xs = true) : ∃ x, xs[lowC cf xs]? = some x ∧ cf x = 0 := by
  unfold okC at h
  cases hx : xs[lowC cf xs]? with
  | none => rw [hx] at h; cases h
  | some x => rw [hx] at h; exact ⟨x, rfl, by simpa using h⟩
set_option maxHeartbeats 2000000 in
set_option maxRecDepth 100000 in
theorem get_any {S S2 : Nat → Prop} (A : Option Addr) (bs : List BlobD) (c : Nat) (i t : Int) (w : World) (hr : Rd S w A (bs.flatMap BlobD.cells)) (hs : ∀ x ∈ bs, x.Sub S2 w) (hl : bs.length ≤ 100000) (hb : BSrt bs) :
    Calls Tryz.prog 21 #[.slice A bs.length c, .int .i64 i, .int .i64 t] w (GetPost w (getB bs i t)) := by
  have HR := Lib.hid hr
  have HS := Lib.hid hs
  have K := Lib.hid (findBlob_any A bs c i t w hr hl (hb.mono i t))
  have hlow := lowC_le (cf := cfBlob i t) bs
  clear hr hs hb
  go_enter Tryz.func21, Tryz.ntmps21
  go_wp2_with fail
  refine K.out.mono ?_
  rintro e w1 ⟨rfl, hg⟩
  have G := Lib.hid hg
  clear hg
  cases hok : okC (cfBlob i t) bs with
  | false =>
    have HV : Hid (getB bs i t = none) := Lib.hid (by unfold getB; rw [hok]; simp)
    clear hok
    go_wp2_with fail
    go_ret2
    exact ⟨G.out, by rw [HV.out]; rfl⟩
  | true =>
    obtain ⟨x, hx, -⟩ := okC_some hok
    have HV : Hid (getB bs i t = some x.data) := Lib.hid (by unfold getB; rw [hok, if_pos rfl, hx]; rfl)
    obtain ⟨m, hm⟩ : ∃ m, m = lowC (cfBlob i t) bs := ⟨_, rfl⟩
    rw [← hm] at hx hlow ⊢
    have hml : m < bs.length := (List.getElem?_eq_some_iff.1 hx).1
    have HX := Lib.hid hx
    have hSub := HS.out x (List.mem_of_getElem? hx)
    obtain ⟨b, o, rfl, -, -, -⟩ := HR.out (by rw [flat_len _ 3 BlobD.cells_len]; omega)
    have d2 : w1.cell? ⟨b, o + m * 3 + 2, none⟩ = some (.slice x.A x.data.length x.c) := (HR.out.grown G.out (by simp)).flatAt BlobD.cells_len hx 2 (by omega)
    have i1 : (m : Int) < (bs.length : Int) := by omega
    have KC := Lib.hid (cloneBy_any x.A x.data.length x.c (x.data.map (.int .u8)) w1 (hSub.1.grown G.out (by simp)) (by simp) hSub.2.2.2 (by simp [Value.oneCell']) (fun hA => by
      by_cases h0 : 0 < (x.data.map (Value.int .u8)).length
      · obtain ⟨b', o', e', -⟩ := hSub.1 h0; rw [hA] at e'; cases e'
      · simpa using h0))
    clear hok hm hx hSub
    go_wp2_with fail
    refine KC.out.mono ?_
    rintro e w2 ⟨A2, c2, rfl, ho, hg2⟩
    obtain ⟨A9, c9, e9, hc9, hm9, -, hr9⟩ := Rd.of_own ho (by decide)
    injection e9 with e91 e92 e93
    subst e91 e93
    have HR9 := Lib.hid hr9
    have G2 := Lib.hid (only_trans G.out hg2)
    have hs1 := G.out.size
    clear ho hg2 hr9 d2
    go_wp2_with fail
    go_ret2
    exact ⟨G2.out, by rw [HV.out]; exact ⟨A2, c2, rfl, hc9, hm9, HR9.out.mono (fun b hb _ => Nat.le_trans hs1 hb)⟩⟩
def TrueExt (w : World) (e : Ending) (w' : World) : Prop := e = .returned (.bool true) ∧ w.grownBy w' none
set_option maxHeartbeats 2000000 in
set_option maxRecDepth 100000 in
theorem awake33_any (w : World) : Calls Tryz.prog 6 #[] w (TrueExt w) := by
  obtain ⟨W1, hW1⟩ : ∃ W, W = (w.alloc (.cells #[.int .u8 7] 5)).alloc (.cells #[.int .i64 1, .int .i64 2, .slice (some ⟨w.heap.size, 0, none⟩) 1 1] 59) := ⟨_, rfl⟩
  have G1 : Hid (w.grownBy W1 none) := Lib.hid (by rw [hW1]; exact only_alloc (only_alloc (only_refl _ _) _) _)
  obtain ⟨x, hx⟩ : ∃ x : BlobD, x = ⟨1, 2, [7], some ⟨w.heap.size, 0, none⟩, 1⟩ := ⟨_, rfl⟩
  have hB0 : Blk W1 w.heap.size 5 #[.int .u8 7] := by rw [hW1]; exact (Blk.new w _ _).alloc _
  have hB1 : Blk W1 (w.heap.size + 1) 59 x.cells.toArray := by
    have := Blk.new (w.alloc (.cells #[.int .u8 7] 5)) 59 #[.int .i64 1, .int .i64 2, .slice (some ⟨w.heap.size, 0, none⟩) 1 1]
    rw [World.size_alloc] at this
    rw [hW1, hx]; simpa [BlobD.cells] using this
  have hr : Rd (fun _ => True) W1 (some ⟨w.heap.size + 1, 0, none⟩) ([x].flatMap BlobD.cells) := fun _ => ⟨_, 0, rfl, trivial, hB1.lt, fun j u hu => by rw [Nat.zero_add, hB1.cell j]; simpa using hu⟩
  have hs : ∀ y ∈ [x], y.Sub (fun _ => True) W1 := fun y hy => by
    rw [List.mem_singleton.1 hy, hx]
    exact ⟨fun _ => ⟨_, 0, rfl, trivial, hB0.lt, fun j u hu => by rw [Nat.zero_add, hB0.cell j]; simpa using hu⟩, by simp, by unfold maxLen; simp, by simp⟩
  have hg : getB [x] 1 2 = some [7] := by rw [hx]; rfl
  have K := Lib.hid (get_any (some ⟨w.heap.size + 1, 0, none⟩) [x] 1 1 2 W1 hr hs (by simp) (List.pairwise_singleton _ _))
  rw [hg] at K
  have HW := Lib.hid hW1.symm
  clear hW1 hx hB0 hB1 hr hs hg
  go_enter Tryz.func6, Tryz.ntmps6
  go_wp2_with fail
  rw [HW.out]
  refine K.out.mono ?_
  rintro e w2 ⟨hg2, A, c, rfl, -, -, -⟩
  have G2 := Lib.hid (only_trans G1.out hg2)
  clear hg2
  go_wp2_with fail
  go_ret
  exact ⟨rfl, G2.out⟩
end Go.Proofs.YtganfhmjklcchaaGreat

namespace Go.Proofs.YtganfhmjklcchaaGreat
open Go.RowKit
set_option linter.unusedVariables false
set_option linter.unusedSimpArgs false

set_option maxHeartbeats 1000000 in
set_option maxRecDepth 100000 in
theorem rless33_any (x : BlobD) (i t : Int) (w : World) :
    Calls Tryz.prog 80 #[.agg x.cells.toArray, .int .i64 i, .int .i64 t] w (ExtV (.bool (decide (cfBlob i t x < 0))) w) := by
  obtain ⟨W1, hW1⟩ : ∃ W, W = w.alloc (.cells x.cells.toArray 59) := ⟨_, rfl⟩
  obtain ⟨g, hg⟩ : ∃ g, g = w.heap.size := ⟨_, rfl⟩
  have hB : Blk W1 g 59 x.cells.toArray := by rw [hW1, hg]; exact Blk.new w _ _
  have HG : Hid (w.grownBy W1 none) := Lib.hid (by rw [hW1]; exact only_alloc (only_refl _ _) _)
  have c0 := hB.cell 0
  have c1 := hB.cell 1
  simp [BlobD.cells] at c0 c1
  have HW := Lib.hid hW1.symm
  have HGG := Lib.hid hg.symm
  clear hW1 hg hB
  go_enter Tryz.func80, Tryz.ntmps80
  go_upto_region 1 with fail
  rw [HW.out, HGG.out]
  clear HW HGG
  by_cases h1 : x.id < i
  · have HV : Hid (decide (cfBlob i t x < 0) = true) := Lib.hid (by rw [decide_eq_true_iff, cfBlob_lt]; omega)
    go_wp2_with fail
    go_ret
    exact ⟨by rw [HV.out]; rfl, HG.out⟩
  · by_cases h2 : x.id = i
    · have e2 : (x.id == i) = true := by simp [h2]
      by_cases h3 : x.tier < t
      · have HV : Hid (decide (cfBlob i t x < 0) = true) := Lib.hid (by rw [decide_eq_true_iff, cfBlob_lt]; omega)
        clear h2
        go_wp2_with fail
        go_ret
        exact ⟨by rw [HV.out]; rfl, HG.out⟩
      · have HV : Hid (decide (cfBlob i t x < 0) = false) := Lib.hid (by rw [decide_eq_false_iff_not, cfBlob_lt]; omega)
        clear h2
        go_wp2_with fail
        go_ret
        exact ⟨by rw [HV.out]; rfl, HG.out⟩
    · have e2 : (x.id == i) = false := by simp [h2]
      have HV : Hid (decide (cfBlob i t x < 0) = false) := Lib.hid (by rw [decide_eq_false_iff_not, cfBlob_lt]; omega)
      clear h2
      go_wp2_with fail
      go_ret
      exact ⟨by rw [HV.out]; rfl, HG.out⟩
set_option maxHeartbeats 4000000 in
set_option maxRecDepth 100000 in
theorem rat_any {S : Nat → Prop} (A : Option Addr) (bs : List BlobD) (c : Nat) (i t : Int) (w : World) (hr : Rd S w A (bs.flatMap BlobD.cells)) (hl : bs.length ≤ 100000) :
    Calls Tryz.prog 52 #[.slice A bs.length c, .int .i64 i, .int .i64 t] w (BsPost w (lowC (cfBlob i t) bs) (okC (cfBlob i t) bs)) := by
  have HR := Lib.hid hr
  clear hr
  go_enter Tryz.func52, Tryz.ntmps52
  go_wp2_with fail
  go_loopw [8] (fun vi wr => ∃ k : Nat, vi = .int .i64 k ∧ k ≤ bs.length ∧ (∀ q x, q < k → bs[q]? = some x → cfBlob i t x < 0) ∧ w.grownBy wr none) (fun vi _ => bs.length - (intOf vi).toNat)
  case atStart => exact ⟨0, rfl, Nat.zero_le _, (fun q x h => by omega), only_refl _ _⟩
  case round =>
    obtain ⟨k, rfl, hk, hlo, hG⟩ := hrel
    have LO := Lib.hid hlo
    have G := Lib.hid hG
    have HRR := Lib.hid (HR.out.grown hG (by simp))
    clear hlo hG
    by_cases hlt : k < bs.length
    · obtain ⟨x, hx⟩ : ∃ x, bs[k]? = some x := ⟨_, List.getElem?_eq_getElem hlt⟩
      have HX := Lib.hid hx
      obtain ⟨b, o, rfl, -, -, -⟩ := HRR.out (by rw [flat_len _ 3 BlobD.cells_len]; omega)
      have d0 : wr.cell? ⟨b, o + k * 3, none⟩ = some (.int .i64 x.id) := HRR.out.flatAt BlobD.cells_len hx 0 (by omega)
      have d1 : wr.cell? ⟨b, o + k * 3 + 1, none⟩ = some (.int .i64 x.tier) := HRR.out.flatAt BlobD.cells_len hx 1 (by omega)
      have d2 : wr.cell? ⟨b, o + k * 3 + 2, none⟩ = some (.slice x.A x.data.length x.c) := HRR.out.flatAt BlobD.cells_len hx 2 (by omega)
      have i1 : (k : Int) < (bs.length : Int) := by omega
      have i2 : (0 : Int) ≤ (k : Int) := by omega
      have KL := Lib.hid (rless33_any x i t wr)
      clear hx
      by_cases hc : cfBlob i t x < 0
      · have HC := Lib.hid hc
        rw [decide_eq_true hc] at KL
        clear hc
        go_wp2_with fail
        refine KL.out.mono ?_
        rintro e w2 ⟨rfl, hg2⟩
        have G2 := Lib.hid (only_trans G.out hg2)
        clear hg2 d0 d1 d2
        go_wp2_with fail
        go_roundw
        case rel => exact ⟨k + 1, by go_num, by omega, (fun q y hq hy => if h : q = k then by subst h; rw [HX.out] at hy; injection hy with hy; rw [← hy]; exact HC.out else LO.out q y (by omega) hy), G2.out⟩
        case measure => simp [intOf]; omega
      · have HLW : Hid (lowC (cfBlob i t) bs = k) := Lib.hid (lowC_at hk LO.out (fun y hy => by rw [HX.out] at hy; injection hy with hy; rw [← hy]; exact hc))
        have hok : okC (cfBlob i t) bs = (cfBlob i t x == 0) := by unfold okC; rw [HLW.out, HX.out]
        have HOK : Hid (okC (cfBlob i t) bs = (decide (x.id = i) && decide (x.tier = t))) := Lib.hid (by
          rw [hok, Bool.eq_iff_iff]; simp [cfBlob_eq])
        rw [decide_eq_false hc] at KL
        clear hc hok
        go_wp2_with fail
        refine KL.out.mono ?_
        rintro e w2 ⟨rfl, hg2⟩
        have G2 := Lib.hid (only_trans G.out hg2)
        have HR2 := HRR.out.grown hg2 (by simp)
        clear d0 d1 d2
        have d0 : w2.cell? ⟨b, o + k * 3, none⟩ = some (.int .i64 x.id) := HR2.flatAt BlobD.cells_len HX.out 0 (by omega)
        have d1 : w2.cell? ⟨b, o + k * 3 + 1, none⟩ = some (.int .i64 x.tier) := HR2.flatAt BlobD.cells_len HX.out 1 (by omega)
        clear hg2 HR2
        by_cases h2 : x.id = i
        · have e2 : (x.id == i) = true := by simp [h2]
          by_cases h3 : x.tier = t
          · have e3 : (x.tier == t) = true := by simp [h3]
            have HV : Hid (okC (cfBlob i t) bs = true) := Lib.hid (by rw [HOK.out]; simp [h2, h3])
            clear h2 h3
            go_wp2_with fail
            go_quiet (fail)
            go_wp2_with fail
            go_ret2
            exact ⟨by rw [HLW.out, HV.out]; rfl, only_drewN G2.out _⟩
          · have e3 : (x.tier == t) = false := by simp [h3]
            have HV : Hid (okC (cfBlob i t) bs = false) := Lib.hid (by rw [HOK.out]; simp [h3])
            clear h2 h3
            go_wp2_with fail
            go_quiet (fail)
            go_wp2_with fail
            go_ret2
            exact ⟨by rw [HLW.out, HV.out]; rfl, only_drewN G2.out _⟩
        · have e2 : (x.id == i) = false := by simp [h2]
          have HV : Hid (okC (cfBlob i t) bs = false) := Lib.hid (by rw [HOK.out]; simp [h2])
          clear h2
          go_wp2_with fail
          go_quiet (fail)
          go_wp2_with fail
          go_ret2
          exact ⟨by rw [HLW.out, HV.out]; rfl, only_drewN G2.out _⟩
    · have i1 : ¬ ((k : Int) < (bs.length : Int)) := by omega
      have HLW : Hid (lowC (cfBlob i t) bs = k) := Lib.hid (lowC_at hk LO.out (fun y hy => by rw [List.getElem?_eq_none (by omega)] at hy; cases hy))
      have HV : Hid (okC (cfBlob i t) bs = false) := Lib.hid (by unfold okC; rw [HLW.out, List.getElem?_eq_none (by omega)])
      go_wp2_with fail
      go_quiet (fail)
      go_wp2_with fail
      go_ret2
      exact ⟨by rw [HLW.out, HV.out]; rfl, only_drewN G.out _⟩
end Go.Proofs.YtganfhmjklcchaaGreat

namespace Go.Proofs.YtganfhmjklcchaaGreat
open Go.RowKit
set_option linter.unusedVariables false
set_option linter.unusedSimpArgs false

def putB (bs : List BlobD) (i t : Int) (x : BlobD) : List BlobD := if okC (cfBlob i t) bs = true then bs.set (lowC (cfBlob i t) bs) x else bs.take (lowC (cfBlob i t) bs) ++ x :: bs.drop (lowC (cfBlob i t) bs)
def delB (bs : List BlobD) (i t : Int) : List BlobD := if okC (cfBlob i t) bs = true then bs.take (lowC (cfBlob i t) bs) ++ bs.drop (lowC (cfBlob i t) bs + 1) else bs
theorem putB_ok {bs : List BlobD} {i t : Int} {x : BlobD} (h : okC (cfBlob i t) bs = true) : putB bs i t x = bs.take (lowC (cfBlob i t) bs) ++ x :: bs.drop (lowC (cfBlob i t) bs + 1) := by
  unfold putB
  rw [if_pos h]
  obtain ⟨y, hy, -⟩ := okC_some h
  have := (List.getElem?_eq_some_iff.1 hy).1
  rw [List.set_eq_take_append_cons_drop, if_pos this]
theorem putB_no {bs : List BlobD} {i t : Int} {x : BlobD} (h : okC (cfBlob i t) bs = false) : putB bs i t x = bs.take (lowC (cfBlob i t) bs) ++ x :: bs.drop (lowC (cfBlob i t) bs) := by
  unfold putB; rw [h]; simp
theorem putB_len (bs : List BlobD) (i t : Int) (x : BlobD) : (putB bs i t x).length ≤ bs.length + 1 := by
  have h1 := lowC_le (cf := cfBlob i t) bs
  cases h : okC (cfBlob i t) bs with
  | true => rw [putB_ok h]; simp; omega
  | false => rw [putB_no h]; simp; omega
theorem delB_len (bs : List BlobD) (i t : Int) : (delB bs i t).length ≤ bs.length := by
  unfold delB; split
  · simp; omega
  · exact Nat.le_refl _
/-- the same keys and data -/
def Alike (al bs : List BlobD) : Prop := al.map BlobD.key = bs.map BlobD.key
theorem Alike.len {al bs : List BlobD} (h : Alike al bs) : al.length = bs.length := by have := congrArg List.length h; simpa using this
theorem Alike.low {al bs : List BlobD} (h : Alike al bs) (i t : Int) : lowC (cfBlob i t) al = lowC (cfBlob i t) bs := by
  have key : ∀ cs : List BlobD, lowC (cfBlob i t) cs = ((cs.map BlobD.key).takeWhile (fun k => decide ((if cmpI k.1 i = 0 then cmpI k.2.1 t else cmpI k.1 i) < 0))).length := by
    intro cs
    unfold lowC
    rw [List.takeWhile_map, List.length_map]
    rfl
  rw [key al, key bs, show al.map BlobD.key = bs.map BlobD.key from h]
theorem Alike.at_ {al bs : List BlobD} (h : Alike al bs) (n : Nat) : (al[n]?).map BlobD.key = (bs[n]?).map BlobD.key := by
  have := congrArg (fun l => l[n]?) h
  simpa using this
theorem Alike.ok {al bs : List BlobD} (h : Alike al bs) (i t : Int) : okC (cfBlob i t) al = okC (cfBlob i t) bs := by
  unfold okC
  rw [h.low i t]
  have h1 := h.at_ (lowC (cfBlob i t) bs)
  cases ha : al[lowC (cfBlob i t) bs]? with
  | none => cases hb : bs[lowC (cfBlob i t) bs]? with
    | none => rfl
    | some y => rw [ha, hb] at h1; cases h1
  | some x => cases hb : bs[lowC (cfBlob i t) bs]? with
    | none => rw [ha, hb] at h1; cases h1
    | some y =>
      rw [ha, hb] at h1
      injection h1 with h1
      unfold BlobD.key at h1
      injection h1 with h1 h2
      injection h2 with h2 h3
      show (cfBlob i t x == 0) = (cfBlob i t y == 0)
      unfold cfBlob
      rw [h1, h2]
theorem Alike.put {al bs : List BlobD} (h : Alike al bs) (i t : Int) {x y : BlobD} (hk : x.key = y.key) : Alike (putB al i t x) (putB bs i t y) := by
  have hl := h.low i t
  have hm : al.map BlobD.key = bs.map BlobD.key := h
  unfold Alike putB
  rw [h.ok i t, hl]
  split
  · rw [List.map_set, List.map_set, hm, hk]
  · simp only [List.map_append, List.map_cons, List.map_take, List.map_drop, hm, hk]
theorem Alike.del {al bs : List BlobD} (h : Alike al bs) (i t : Int) : Alike (delB al i t) (delB bs i t) := by
  have hl := h.low i t
  have hm : al.map BlobD.key = bs.map BlobD.key := h
  unfold Alike delB
  rw [h.ok i t, hl]
  split
  · simp only [List.map_append, List.map_take, List.map_drop, hm]
  · exact hm
theorem Alike.get {al bs : List BlobD} (h : Alike al bs) (i t : Int) : getB al i t = getB bs i t := by
  unfold getB
  rw [h.ok i t, h.low i t]
  split
  · have h1 := h.at_ (lowC (cfBlob i t) bs)
    cases ha : al[lowC (cfBlob i t) bs]? with
    | none => cases hb : bs[lowC (cfBlob i t) bs]? with
      | none => rfl
      | some y => rw [ha, hb] at h1; cases h1
    | some x => cases hb : bs[lowC (cfBlob i t) bs]? with
      | none => rw [ha, hb] at h1; cases h1
      | some y =>
        rw [ha, hb] at h1
        injection h1 with h1
        unfold BlobD.key at h1
        injection h1 with h1 h2
        injection h2 with h2 h3
        simp [h3]
  · rfl
/-- the order is kept -/
theorem BSrt.put {bs : List BlobD} (h : BSrt bs) (x : BlobD) : BSrt (putB bs x.id x.tier x) := by
  have hlt : ∀ q y, q < lowC (cfBlob x.id x.tier) bs → bs[q]? = some y → Blt y x := fun q y hq hy => by
    have := cfBlob_lt.1 (lowC_lt hq hy); exact this
  have hge : ∀ y, bs[lowC (cfBlob x.id x.tier) bs]? = some y → ¬ cfBlob x.id x.tier y < 0 := fun y hy => lowC_ge hy
  obtain ⟨m, hm⟩ : ∃ m, m = lowC (cfBlob x.id x.tier) bs := ⟨_, rfl⟩
  rw [← hm] at hlt hge
  have hp : BSrt (bs.take m) := h.sublist (List.take_sublist _ _)
  have htk : ∀ y ∈ bs.take m, Blt y x := fun y hy => by
    obtain ⟨q, hq⟩ := List.getElem?_of_mem hy
    rw [List.getElem?_take] at hq
    split at hq
    · exact hlt q y (by assumption) hq
    · cases hq
  have hbt : ∀ a b c : BlobD, Blt a b → Blt b c → Blt a c := fun a b c h1 h2 => by unfold Blt at *; omega
  have hdr : ∀ k, m ≤ k → (∀ y, bs[k]? = some y → Blt x y) → ∀ y ∈ bs.drop k, Blt x y := fun k hk h0 y hy => by
    obtain ⟨q, hq⟩ := List.getElem?_of_mem hy
    rw [List.getElem?_drop] at hq
    obtain ⟨p1, p2⟩ := List.getElem?_eq_some_iff.1 hq
    rcases Nat.eq_zero_or_pos q with rfl | hq0
    · exact h0 y (by simpa using hq)
    · have hz : bs[k]? = some (bs[k]'(by omega)) := List.getElem?_eq_getElem _
      have h1 := h0 _ hz
      have h2 := List.pairwise_iff_getElem.1 h k (k + q) (by omega) p1 (by omega)
      rw [p2] at h2
      exact hbt _ _ _ h1 h2
  cases hok : okC (cfBlob x.id x.tier) bs with
  | true =>
    obtain ⟨y, hy, h0⟩ := okC_some hok
    rw [putB_ok hok, ← hm]
    rw [← hm] at hy
    obtain ⟨y1, y2⟩ := cfBlob_eq.1 h0
    refine List.pairwise_append.2 ⟨hp, List.pairwise_cons.2 ⟨?_, h.sublist (List.drop_sublist _ _)⟩, fun a ha b hb => ?_⟩
    · refine hdr (m + 1) (by omega) fun z hz => ?_
      obtain ⟨p1, p2⟩ := List.getElem?_eq_some_iff.1 hy
      obtain ⟨q1, q2⟩ := List.getElem?_eq_some_iff.1 hz
      have h2 := List.pairwise_iff_getElem.1 h m (m + 1) p1 q1 (by omega)
      rw [p2, q2] at h2
      unfold Blt at *; omega
    · rcases List.mem_cons.1 hb with rfl | hb
      · exact htk a ha
      · have hpw := h
        rw [← List.take_append_drop (m + 1) bs] at hpw
        have h3 := (List.pairwise_append.1 hpw).2.2
        exact h3 a (by
          obtain ⟨q, hq⟩ := List.getElem?_of_mem ha
          rw [List.getElem?_take] at hq
          split at hq
          · exact List.mem_of_getElem? (i := q) (by rw [List.getElem?_take, if_pos (by omega)]; exact hq)
          · cases hq) b hb
  | false =>
    rw [putB_no hok, ← hm]
    refine List.pairwise_append.2 ⟨hp, List.pairwise_cons.2 ⟨?_, h.sublist (List.drop_sublist _ _)⟩, fun a ha b hb => ?_⟩
    · refine hdr m (Nat.le_refl _) fun z hz => ?_
      have h1 := hge z hz
      have h2 : ¬ cfBlob x.id x.tier z = 0 := by
        unfold okC at hok
        rw [← hm, hz] at hok
        simpa using hok
      rw [cfBlob_lt] at h1
      rw [cfBlob_eq] at h2
      unfold Blt; omega
    · rcases List.mem_cons.1 hb with rfl | hb
      · exact htk a ha
      · have hpw := h
        rw [← List.take_append_drop m bs] at hpw
        exact (List.pairwise_append.1 hpw).2.2 a ha b hb
theorem BSrt.del {bs : List BlobD} (h : BSrt bs) (i t : Int) : BSrt (delB bs i t) := by
  unfold delB
  split
  · have hs : (bs.take (lowC (cfBlob i t) bs) ++ bs.drop (lowC (cfBlob i t) bs + 1)).Sublist bs := by
      have h1 := List.take_append_drop (lowC (cfBlob i t) bs) bs
      conv => rhs; rw [← h1]
      refine List.Sublist.append (List.Sublist.refl _) ?_
      rw [← List.drop_drop]
      exact List.drop_sublist _ _
    exact List.Pairwise.sublist hs h
  · exact h
theorem BSrt.alike {al bs : List BlobD} (h : BSrt al) (k : Alike al bs) : BSrt bs := by
  have h1 : (al.map BlobD.key).Pairwise (fun a b => a.1 < b.1 ∨ (a.1 = b.1 ∧ a.2.1 < b.2.1)) := List.pairwise_map.2 h
  rw [show al.map BlobD.key = bs.map BlobD.key from k] at h1
  have h2 := (List.pairwise_map (f := BlobD.key) (R := fun a b : Int × Int × List Int => a.1 < b.1 ∨ (a.1 = b.1 ∧ a.2.1 < b.2.1))).1 h1
  exact h2
theorem own_none {w : World} {base e z n c n' : Nat} {xs : List Value} (h : w.ownsRow base e z (.slice none n c) n' xs) : c = 0 := by
  rcases h.2 with ⟨e, _⟩ | ⟨g', cap, cur, e, _⟩
  · injection e
  · injection e with e1; cases e1
theorem Rd.ne_none {S : Nat → Prop} {w : World} {A : Option Addr} {xs : List Value} (h : Rd S w A xs) (hn : 0 < xs.length) : A ≠ none := by
  obtain ⟨b, o, rfl, -⟩ := h hn
  simp
theorem own_two {w : World} {b1 e1 z1 n1 b2 e2 z2 n2 : Nat} {v1 v2 : Value} {x1 x2 : List Value} (h1 : w.ownsRow b1 e1 z1 v1 n1 x1) (h2 : w.ownsRow b2 e2 z2 v2 n2 x2) (hne : e1 ≠ e2) : v1.ownBlock = none ∨ v1.ownBlock ≠ v2.ownBlock := by
  rcases h1.2 with ⟨rfl, _⟩ | ⟨g, cap, cur, rfl, _, hh, _⟩
  · exact .inl rfl
  · right
    intro e
    rcases h2.2 with ⟨rfl, _⟩ | ⟨g', cap', cur', rfl, _, hh', _⟩
    · simp [Value.ownBlock] at e
    · have e' : g = g' := by simpa [Value.ownBlock] using e
      subst e'
      rw [hh] at hh'
      injection hh' with hh'
      injection hh' with _ h _
      exact hne h
theorem own_low {w : World} {base b2 e z n : Nat} {v : Value} {xs : List Value} (h : w.ownsRow base e z v n xs) (hb : b2 ≤ base) : w.ownsRow b2 e z v n xs := by
  refine ⟨h.1, ?_⟩
  rcases h.2 with h0 | ⟨g, cap, cur, h1, h2, h3⟩
  · exact .inl h0
  · exact .inr ⟨g, cap, cur, h1, Nat.le_trans hb h2, h3⟩
/-- what a shelf is, behind an operation -/
def ShPost (S : Nat → Prop) (w : World) (P : List BlobD → Prop) (e : Ending) (w' : World) : Prop :=
  ∃ (A : Option Addr) (c : Nat) (bs : List BlobD), e = .returned (.slice A bs.length c) ∧ P bs ∧ bs.length ≤ c ∧ c ≤ maxLen ∧ (A = none → c = 0) ∧ Rd S w' A (bs.flatMap BlobD.cells) ∧ (∀ x ∈ bs, x.Sub S w') ∧ w.grownBy w' none
end Go.Proofs.YtganfhmjklcchaaGreat

namespace Go.Proofs.YtganfhmjklcchaaGreat
open Go.RowKit
set_option linter.unusedVariables false
set_option linter.unusedSimpArgs false

theorem run_copyK {P : Program} (w : World) (dT sT ty elem : TypeId) (z g o dLen dCap : Nat) (a : Addr) (sLen sCap : Nat) (cur : Array Value) (t : TypeId) (cs : List Value)
    (hu : P.underlying dT = some (.slice elem)) (hs : (P.info? elem).map (·.size) = some z)
    (hg : w.heap[g]? = some (.cells cur t (0, 0))) (hn : cs.length = Nat.min sLen dLen * z)
    (hsrc : ∀ j v, cs[j]? = some v → w.cell? (a.add j) = some v) (hfit : o + cs.length ≤ cur.size) (h1 : ∀ v ∈ cs, v.oneCell' = true) :
    (Builtin.copy_ #[dT, sT] ty #[.slice (some ⟨g, o, none⟩) dLen dCap, .slice (some a) sLen sCap]).run P w =
      .ok (goInt (Nat.min sLen dLen)) (w.setRow g (cur.toList.take o ++ cs ++ cur.toList.drop (o + cs.length)).toArray) := by
  have hl := run_loadCells_list (P := P) w a cs hsrc
  have hst := run_storeCells_at P g o t cs 0 cur w hg (by simpa using hfit) h1
  cases hq : P.info? elem with
  | none => simp [hq] at hs
  | some i =>
    have hi : i.size = z := by simpa [hq] using hs
    rw [hn] at hl
    simp only [Nat.add_zero] at hst
    simp [Builtin.copy_, run_underlying hu, Builtin.lenOf, Builtin.firstCells, sizeOf, typeInfo, hq, hi, hl]
    rw [hst]
    simp
theorem wpList_copyK {P : Program} {w : World} {ops : Array Oper} {rest : List Oper} {o : Oper} {a : Act} {Q : Exit → Act → World → Prop} (hgd : o.guard = none) (d s : Operand) (t t' : TypeId)
    (ho : o.op = .call { callee := .builtin .copy, args := #[d, s], argTypes := #[t, t'] }) (v u : Value) (hd : a.eval d = v) (hs : a.eval s = u) {v' : Value} {w' : World}
    (hr : ∀ ty, (Builtin.copy_ #[t, t'] ty #[v, u]).run P w = .ok v' w') (h : wpList P ops Q rest (a.put o.dst v') w') : wpList P ops Q (o :: rest) a w :=
  wpList_plain hgd fun K hK => by
    unfold Oper.wp execOp
    simp only [ho, resolve, invoke, builtin, Sem.run_bind, Sem.run_pure, Result.andThen_ok, List.map_toArray, List.map_cons, List.map_nil, hd, hs, hr]
    exact hK _ _ h
theorem grown_setRow (w : World) (g : Nat) (cs : Array Value) : w.grownBy (w.setRow g cs) (some g) :=
  ⟨rfl, rfl, rfl, by simp [World.setRow], fun k hk hne => setRow_other w g k cs (fun e => hne (by rw [e]))⟩
theorem own_setRow {w : World} {base e z g n c : Nat} {cur cs : Array Value} {xs : List Value} (hg : w.heap[g]? = some (.cells cur e (0, 0))) (hb : base ≤ g) (hn : n ≤ c) (hm : c ≤ maxLen) (hs : cs.size = c * z) (hl : xs.length = n * z) (ht : cs.toList.take (n * z) = xs) :
    (w.setRow g cs).ownsRow base e z (.slice (some ⟨g, 0, none⟩) n c) n xs :=
  ⟨hl, .inr ⟨g, c, cs, rfl, hb, setRow_heap w g cur cs e (0, 0) hg, hn, hm, hs, ht⟩⟩
/-- from place i on one further: first what stands there, then the new element -/
theorem ins_cur {cur A B X : List Value} {z n i : Nat} (ht : cur.take (n * z) = A ++ B) (hA : A.length = i * z) (hB : B.length = (n - i) * z) (hi : i ≤ n) (hX : X.length = z) (hc : (n + 1) * z ≤ cur.length) {cur1 cur2 : List Value}
    (h1 : cur1 = cur.take ((i + 1) * z) ++ B ++ cur.drop ((i + 1) * z + B.length)) (h2 : cur2 = cur1.take (i * z) ++ X ++ cur1.drop (i * z + X.length)) :
    cur1.length = cur.length ∧ cur2.length = cur.length ∧ cur2.take ((n + 1) * z) = A ++ X ++ B := by
  have e1 : (i + 1) * z = i * z + z := Nat.succ_mul i z
  have e2 : (n + 1) * z = n * z + z := Nat.succ_mul n z
  have e3 : i * z + (n - i) * z = n * z := by rw [← Nat.add_mul]; congr 1; omega
  have l1 : (cur.take ((i + 1) * z)).length = (i + 1) * z := by rw [List.length_take]; omega
  have k1 : cur1.length = cur.length := by rw [h1]; simp only [List.length_append, List.length_drop, l1]; omega
  have k2 : cur2.length = cur.length := by rw [h2]; simp only [List.length_append, List.length_drop, List.length_take]; omega
  refine ⟨k1, k2, ?_⟩
  have a1 : cur1.take (i * z) = A := by
    rw [h1, List.append_assoc, List.take_append_of_le_length (by omega), List.take_take, Nat.min_eq_left (by omega)]
    have : (cur.take (n * z)).take (i * z) = A := by rw [ht, ← hA, List.take_left']; rfl
    rw [List.take_take, Nat.min_eq_left (by omega)] at this
    exact this
  have a2 : cur1.drop (i * z + X.length) = B ++ cur.drop ((i + 1) * z + B.length) := by
    rw [h1, List.append_assoc, List.drop_left' (by omega)]
  rw [h2, a1, a2, ← List.append_assoc, List.take_left']
  simp only [List.length_append]
  omega
/-- into a new row: the element, then what stood from its place on -/
theorem ins_new {row A Z B X : List Value} {z n i : Nat} (hr : row = A ++ Z) (hA : A.length = i * z) (hB : B.length = (n - i) * z) (hi : i ≤ n) (hX : X.length = z) (hc : (n + 1) * z ≤ row.length) {row1 row2 : List Value}
    (h1 : row1 = row.take (i * z) ++ X ++ row.drop (i * z + X.length)) (h2 : row2 = row1.take ((i + 1) * z) ++ B ++ row1.drop ((i + 1) * z + B.length)) :
    row1.length = row.length ∧ row2.length = row.length ∧ row2.take ((n + 1) * z) = A ++ X ++ B := by
  have e1 : (i + 1) * z = i * z + z := Nat.succ_mul i z
  have e2 : (n + 1) * z = n * z + z := Nat.succ_mul n z
  have e3 : i * z + (n - i) * z = n * z := by rw [← Nat.add_mul]; congr 1; omega
  have k1 : row1.length = row.length := by rw [h1]; simp only [List.length_append, List.length_drop, List.length_take]; omega
  have k2 : row2.length = row.length := by rw [h2]; simp only [List.length_append, List.length_drop, List.length_take]; omega
  refine ⟨k1, k2, ?_⟩
  have a1 : row.take (i * z) = A := by rw [hr, ← hA, List.take_left']; rfl
  have a2 : row1.take ((i + 1) * z) = A ++ X := by
    rw [h1, a1, List.take_left']
    simp only [List.length_append]; omega
  rw [h2, a2, List.take_left']
  simp only [List.length_append]
  omega
theorem own_cellR {w : World} {base e size g n c k : Nat} {xs : List Value} (h : w.ownsRow base e size (.slice (some ⟨g, 0, none⟩) n c) n xs) (hk : k < n * size) : w.cell? ⟨g, k, none⟩ = xs[k]? ∧ w.frozen? ⟨g, k, none⟩ = false := by
  obtain ⟨hl, h2⟩ := h
  rcases h2 with ⟨h3, _⟩ | ⟨g', cap, cur, h3, h4, h5, h6, h7, h8, h9⟩
  · cases h3
  · injection h3 with e1 e2 e3
    injection e1 with e1
    injection e1 with e1
    subst e1 e3
    have hB : Blk w g e cur := h5
    refine ⟨?_, hB.frozen k⟩
    rw [hB.cell k, ← h9, List.getElem?_take_of_lt (by omega), Array.getElem?_toList]
end Go.Proofs.YtganfhmjklcchaaGreat

namespace Go.Proofs.YtganfhmjklcchaaGreat
open Go.RowKit
set_option linter.unusedVariables false
set_option linter.unusedSimpArgs false

theorem wpList_appendT {P : Program} {ops : Array Oper} {rest : List Oper} {o : Oper} {a : Act} {w : World} {Q : Exit → Act → World → Prop} (hgd : o.guard = none) (s x : Operand) (t : TypeId)
    (ho : o.op = .call { callee := .builtin .append, args := #[s, x], argTypes := #[t, t] })
    (base : Nat) {e : TypeId} {z : Value} {size bytes : Nat} (ht : P.underlying t = some (.slice e)) (hi : (P.info? e).map (fun i => (i.zero, i.size, i.bytes)) = some (some z, size, bytes)) (hzs : z.cells.size = size) (hsz : 0 < size)
    {v : Value} {n : Nat} {xs : List Value} (hs : a.eval s = v) (hown : w.ownsRow base e size v n xs) {S : Nat → Prop} (A : Option Addr) (m c : Nat) {news : List Value} (hx : a.eval x = .slice A m c) (hr : Rd S w A news) (hl : news.length = m * size) (h1 : ∀ u ∈ news, u.oneCell' = true)
    (hb : bytes ≤ 1000) (hn : n + m ≤ 10000000) (hbase : base ≤ w.heap.size)
    (h : ∀ A' c' w', w'.ownsRow base e size (.slice A' (n + m) c') (n + m) (xs ++ news) → w.grownBy w' v.ownBlock → wpList P ops Q rest (a.put o.dst (.slice A' (n + m) c')) w') : wpList P ops Q (o :: rest) a w :=
  wpList_appendN hgd s x t ho base ht hi hzs hsz hs hown A m c hx hr hl h1 hb hn hbase fun v' w' h2 h3 _ => by
    obtain ⟨A', c', rfl, -, -, -, -⟩ := Rd.of_own h2 hsz
    exact h A' c' w' h2 h3
theorem putB_sub {bs : List BlobD} {i t : Int} {x : BlobD} {S : Nat → Prop} {w : World} (h : ∀ y ∈ bs, y.Sub S w) (hx : x.Sub S w) : ∀ y ∈ putB bs i t x, y.Sub S w := fun y hy => by
  unfold putB at hy
  split at hy
  · rcases List.mem_or_eq_of_mem_set hy with hy | rfl
    · exact h y hy
    · exact hx
  · rcases List.mem_append.1 hy with hy | hy
    · exact h y (List.mem_of_mem_take hy)
    · rcases List.mem_cons.1 hy with rfl | hy
      · exact hx
      · exact h y (List.mem_of_mem_drop hy)
theorem delB_sub {bs : List BlobD} {i t : Int} {y : BlobD} (h : y ∈ delB bs i t) : y ∈ bs := by
  unfold delB at h
  split at h
  · rcases List.mem_append.1 h with h | h
    · exact List.mem_of_mem_take h
    · exact List.mem_of_mem_drop h
  · exact h
set_option maxHeartbeats 8000000 in
set_option maxRecDepth 100000 in
theorem rput_any {S : Nat → Prop} (A : Option Addr) (bs : List BlobD) (c : Nat) (x : BlobD) (w : World) (hr : Rd S w A (bs.flatMap BlobD.cells)) (hs : ∀ y ∈ bs, y.Sub S w) (hx : x.Sub S w) (hS : ∀ b, w.heap.size ≤ b → S b) (hl : bs.length ≤ 1000) (hc : bs.length ≤ c) (hcm : c ≤ maxLen) (hz : A = none → c = 0) :
    Calls Tryz.prog 26 #[.slice A bs.length c, .agg x.cells.toArray] w (ShPost S w (fun bs' => ∃ x', x'.key = x.key ∧ bs' = putB bs x.id x.tier x')) := by
  unfold maxLen at hcm
  obtain ⟨xb, hxb⟩ : ∃ b, b = w.heap.size := ⟨_, rfl⟩
  obtain ⟨W1, hW1⟩ : ∃ W, W = w.alloc (.cells x.cells.toArray 59) := ⟨_, rfl⟩
  have HB1 : Hid (Blk W1 xb 59 x.cells.toArray) := Lib.hid (by rw [hW1, hxb]; exact Blk.new w _ _)
  have g1 : w.grownBy W1 none := by rw [hW1]; exact only_alloc (only_refl _ _) _
  have G1 := Lib.hid g1
  have hxw : w.heap.size ≤ xb := by omega
  have hsz1 : w.heap.size ≤ W1.heap.size := g1.size
  have HR1 := Lib.hid ((hr.mono (S' := (· < w.heap.size)) (fun b _ hlt => hlt)).grown g1 (by simp))
  have HSB := Lib.hid hs
  have HXS := Lib.hid hx
  have HS0 := Lib.hid hS
  have KA := Lib.hid (rat_any A bs c x.id x.tier W1 (hr.grown g1 (by simp)) (by omega))
  have hlow := lowC_le (cf := cfBlob x.id x.tier) bs
  have b0 := HB1.out.cell 0
  have b1 := HB1.out.cell 1
  simp [BlobD.cells] at b0 b1
  have HW1 := Lib.hid hW1.symm
  have HXE := Lib.hid hxb.symm
  clear hW1 hxb g1 hr hs hx hS
  go_enter Tryz.func26, Tryz.ntmps26
  go_upto_region 1 with fail
  rw [HW1.out, HXE.out]
  clear HW1 HXE
  go_wp2_with fail
  refine KA.out.mono ?_
  rintro e w2 ⟨rfl, hg2⟩
  have G2 := Lib.hid (only_trans G1.out hg2)
  have HB2 := Lib.hid (HB1.out.grown hg2 (by simp))
  have R2 := Lib.hid (HR1.out.grown hg2 (by simp))
  have hsz2 := hg2.size
  obtain ⟨m, hm⟩ : ∃ m, m = lowC (cfBlob x.id x.tier) bs := ⟨_, rfl⟩
  obtain ⟨ok, hok⟩ : ∃ b, b = okC (cfBlob x.id x.tier) bs := ⟨_, rfl⟩
  rw [← hm, ← hok]
  have HM := Lib.hid hm
  have HOK := Lib.hid hok
  have hml : m ≤ bs.length := by omega
  have b2 := HB2.out.cell 2
  have f2 := HB2.out.frozen 2
  simp [BlobD.cells] at b2
  clear b0 b1 hg2 KA hm hok HB1 HR1 hlow
  go_upto_region 2 with fail
  go_upto_region 3 with (at_builtin; refine wpList_appendT rfl _ _ 22 rfl w.heap.size Tryz.underlying22 byteInfo8 rfl (by decide) (v := .slice none 0 0) (by rfl) (World.ownsRow_nil _ _ _ _) x.A x.data.length x.c (news := x.data.map (.int .u8)) (by rfl) (HXS.out.1.grown G2.out (by simp)) (by simp) (by simp [Value.oneCell']) (by decide) (by have := HXS.out.2.2.2; omega) (by omega) ?_; intro A3 c3 w3 hown3 hg3; have hB3 := Lib.hid (HB2.out.grown hg3 (by simp [Value.ownBlock])); have c2' := hB3.out.cell 2; have f2' := hB3.out.frozen 2; simp [BlobD.cells] at c2')
  have D3 : Hid (w3.ownsRow w.heap.size 5 1 (.slice A3 x.data.length c3) x.data.length (x.data.map (.int .u8))) := Lib.hid (by simpa using hown3)
  have G3 : Hid (w2.grownBy w3 none) := Lib.hid (by simpa [Value.ownBlock] using hg3)
  obtain ⟨x', hx'⟩ : ∃ x' : BlobD, x' = { x with A := A3, c := c3 } := ⟨_, rfl⟩
  obtain ⟨W4, hW4⟩ : ∃ W, W = w3.setCell ⟨xb, 2, none⟩ (.slice A3 x.data.length c3) := ⟨_, rfl⟩
  have gs : w3.grownBy W4 (some xb) := by rw [hW4]; exact only_setCell (only_refl _ _) (p := ⟨xb, 2, none⟩) (.inl rfl) _
  have HGS := Lib.hid gs
  have HB4 : Hid (Blk W4 xb 59 x'.cells.toArray) := Lib.hid (by
    have := hB3.out.set_ 2 (.slice A3 x.data.length c3)
    rw [hW4, hx']; simpa [BlobD.cells] using this)
  have D4 := Lib.hid (D3.out.kept gs (by
    have := blk_norow hB3.out D3.out (by decide)
    exact .inr this))
  have G4 := Lib.hid (only_fresh (only_trans G2.out G3.out) gs hxw)
  have hsz4 : w.heap.size ≤ W4.heap.size := G4.out.size
  have HX' := Lib.hid hx'
  have HW4 := Lib.hid hW4.symm
  clear hB3 gs hW4 hx' D3 hown3 hg3
  rw [HW4.out]
  clear c2' f2' HW4
  have R4 := Lib.hid (R2.out.grown (only_trans (only_of_none G3.out _) HGS.out) (fun b hb e => by injection e with e; omega))
  cases A with
  | none =>
    have hb0 : bs = [] := by
      rcases bs with _ | ⟨y, ys⟩
      · rfl
      · exact absurd rfl (R4.out.ne_none (by simp [BlobD.cells]))
    have hc0 := hz rfl
    have hm0 : m = 0 := by rw [HM.out, hb0]; rfl
    have ho0 : ok = false := by rw [HOK.out, hb0]; rfl
    subst hb0 hc0 hm0 ho0
    have PP : Hid (putB ([] : List BlobD) x.id x.tier x' = [x']) := Lib.hid (by unfold putB; rw [← HOK.out]; rfl)
    go_upto_region 4 with (at_builtin; refine wpList_appendT rfl _ _ 24 rfl W4.heap.size Tryz.underlying24 blobInfo rfl (by decide) (v := .slice none 0 0) (by rfl) (World.ownsRow_nil _ _ _ _) none 0 0 (news := []) (S := fun _ => True) (by rfl) Rd.nil rfl (by simp) (by decide) (by omega) (by omega) ?_; intro A5 c5 w5 hown5 hg5)
    have O5 : Hid (w5.ownsRow W4.heap.size 59 3 (.slice A5 0 c5) 0 []) := Lib.hid (by simpa using hown5)
    have G5 : Hid (W4.grownBy w5 none) := Lib.hid (by simpa [Value.ownBlock] using hg5)
    have hB5 := HB4.out.grown G5.out (by simp)
    have HB5 := Lib.hid hB5
    have D5 := Lib.hid (own_ext D4.out G5.out)
    have b0 := hB5.cell 0
    have b1 := hB5.cell 1
    have b2 := hB5.cell 2
    rw [HX'.out] at b0 b1 b2
    simp [BlobD.cells] at b0 b1 b2
    have hsz5 := G5.out.size
    clear hown5 hg5 hB5
    go_upto_region 5 with (at_builtin; refine wpList_append1 rfl _ _ 24 rfl W4.heap.size Tryz.underlying24 blobInfo rfl (by decide) (v := .slice A5 0 c5) (by rfl) (w0 := w5) (cs := #[.int .i64 x.id, .int .i64 x.tier, .slice A3 x.data.length c3]) O5.out (by rfl) rfl (by simp [Value.oneCell']) (by decide) (by omega) (by omega) ?_; intro v6 w6 hown6 hg6 hob6)
    obtain ⟨A6, c6, rfl, -, -, -, -⟩ := Rd.of_own hown6 (by decide)
    have O6 : Hid (w6.ownsRow W4.heap.size 59 3 (.slice A6 1 c6) 1 x'.cells) := Lib.hid (by rw [HX'.out]; exact hown6)
    have G46 : Hid (W4.grownBy w6 none) := Lib.hid (only_own G5.out hg6 O5.out (Nat.le_refl _))
    have D6 := Lib.hid (D5.out.kept hg6 (own_two D5.out O5.out (by decide)))
    clear hown6 hg6 hob6 b0 b1 b2
    have hs46 := G46.out.size
    go_wp2_with (at_builtin; refine wpList_appendT rfl _ _ 24 rfl W4.heap.size Tryz.underlying24 blobInfo rfl (by decide) (v := .slice A6 1 c6) (by rfl) O6.out none 0 0 (news := []) (S := fun _ => True) (by rfl) Rd.nil rfl (by simp) (by decide) (by omega) (by omega) ?_; intro A8 c8 w8 hown8 hg8)
    have O8 : Hid (w8.ownsRow W4.heap.size 59 3 (.slice A8 1 c8) 1 x'.cells) := Lib.hid (by simpa using hown8)
    have G8 := Lib.hid (only_own (only_trans G4.out G46.out) hg8 O6.out hsz4)
    have D8 := Lib.hid (D6.out.kept hg8 (own_two D6.out O6.out (by decide)))
    clear hown8 hg8
    obtain ⟨A9, c9, e9, hc9, hm9, -, hr9⟩ := Rd.of_own O8.out (by decide)
    injection e9 with e91 e92 e93
    subst e91 e93
    have R9 := Lib.hid hr9
    obtain ⟨A7, c7, e7, hc7, hm7, -, hr7⟩ := Rd.of_own D8.out (by decide)
    injection e7 with e71 e72 e73
    subst e71 e73
    have R7 := Lib.hid hr7
    clear hr9 hr7
    go_ret
    exact ⟨A8, c8, [x'], rfl, ⟨x', by rw [HX'.out]; rfl, PP.out.symm⟩, hc9, hm9, (fun e => absurd e (R9.out.ne_none (by simp [BlobD.cells]))), (by simpa using R9.out.mono (fun b hb _ => HS0.out b (Nat.le_trans hsz4 hb))), (fun y hy => by
      rw [List.mem_singleton.1 hy, HX'.out]; exact ⟨R7.out.mono (fun b hb _ => HS0.out b hb), hc7, hm7, HXS.out.2.2.2⟩), G8.out⟩
  | some a =>
    have hmi : (m : Int) ≤ (bs.length : Int) := by omega
    have hmc : (m : Int) ≤ (c : Int) := by omega
    go_upto_region 4 with (at_builtin; refine wpList_appendT rfl _ _ 24 rfl W4.heap.size Tryz.underlying24 blobInfo rfl (by decide) (v := .slice none 0 0) (by rfl) (World.ownsRow_nil _ _ _ _) (some a) m c (news := (bs.take m).flatMap BlobD.cells) (by rfl) (by rw [flat_take BlobD.cells_len]; exact R4.out.take _) (by rw [flat_len _ 3 BlobD.cells_len, List.length_take, Nat.min_eq_left hml]) (flat_one BlobD.one _) (by decide) (by omega) (by omega) ?_; intro A5 c5 w5 hown5 hg5)
    have O5 : Hid (w5.ownsRow W4.heap.size 59 3 (.slice A5 m c5) m ((bs.take m).flatMap BlobD.cells)) := Lib.hid (by simpa using hown5)
    have G5 : Hid (W4.grownBy w5 none) := Lib.hid (by simpa [Value.ownBlock] using hg5)
    have hB5 := HB4.out.grown G5.out (by simp)
    have HB5 := Lib.hid hB5
    have D5 := Lib.hid (own_ext D4.out G5.out)
    have b0 := hB5.cell 0
    have b1 := hB5.cell 1
    have b2 := hB5.cell 2
    rw [HX'.out] at b0 b1 b2
    simp [BlobD.cells] at b0 b1 b2
    have hsz5 := G5.out.size
    clear hown5 hg5 hB5
    go_upto_region 5 with (at_builtin; refine wpList_append1 rfl _ _ 24 rfl W4.heap.size Tryz.underlying24 blobInfo rfl (by decide) (v := .slice A5 m c5) (by rfl) (w0 := w5) (cs := #[.int .i64 x.id, .int .i64 x.tier, .slice A3 x.data.length c3]) O5.out (by rfl) rfl (by simp [Value.oneCell']) (by decide) (by omega) (by omega) ?_; intro v6 w6 hown6 hg6 hob6)
    obtain ⟨A6, c6, rfl, -, -, -, -⟩ := Rd.of_own hown6 (by decide)
    have O6 : Hid (w6.ownsRow W4.heap.size 59 3 (.slice A6 (m + 1) c6) (m + 1) ((bs.take m).flatMap BlobD.cells ++ x'.cells)) := Lib.hid (by rw [HX'.out]; exact hown6)
    have G46 : Hid (W4.grownBy w6 none) := Lib.hid (only_own G5.out hg6 O5.out (Nat.le_refl _))
    have D6 := Lib.hid (D5.out.kept hg6 (own_two D5.out O5.out (by decide)))
    clear hown6 hg6 hob6 b0 b1 b2
    have hs46 := G46.out.size
    cases ok with
    | true =>
      have hok := HOK.out.symm
      have hm := HM.out
      have hmlt : m < bs.length := by
        obtain ⟨y, hy, -⟩ := okC_some hok
        rw [← hm] at hy
        exact (List.getElem?_eq_some_iff.1 hy).1
      obtain ⟨kk, hkk⟩ : ∃ kk, kk = m + 1 := ⟨_, rfl⟩
      have PL : Hid ((putB bs x.id x.tier x').length = m + 1 + (bs.length - kk)) := Lib.hid (by rw [putB_ok hok, ← hm, hkk]; simp; omega)
      have PC : Hid ((putB bs x.id x.tier x').flatMap BlobD.cells = ((bs.take m).flatMap BlobD.cells ++ x'.cells) ++ (bs.drop kk).flatMap BlobD.cells) := Lib.hid (by rw [putB_ok hok, ← hm, hkk]; simp [List.flatMap_append])
      have hkl : kk ≤ bs.length := by omega
      have RDN := Lib.hid (show Rd (· < w.heap.size) W4 (some (a.add (kk * 3))) ((bs.drop kk).flatMap BlobD.cells) from by rw [flat_drop BlobD.cells_len]; exact R4.out.drop _)
      have RDE := Lib.hid (fun (hck : c = kk) => (show Rd (· < w.heap.size) W4 (some a) ((bs.drop kk).flatMap BlobD.cells) from by rw [List.drop_of_length_le (by omega)]; exact Rd.nil))
      have j1 : (kk : Int) ≤ (bs.length : Int) := by omega
      have j2 : (kk : Int) ≤ (c : Int) := by omega
      have j3 : (0 : Int) ≤ (kk : Int) := by omega
      have j4 : (bs.length : Int) ≤ (c : Int) := by omega
      have hwm : IntKind.i64.wrap ((m : Int) + 1) = (kk : Int) := by rw [hkk]; push_cast; exact IntWalk.i64_in _ (by omega)
      have HKK := Lib.hid hkk
      clear hkk
      clear hok hm
      by_cases hck : c = kk
      · subst hck
        go_wp2_with (at_builtin; refine wpList_appendT rfl _ _ 24 rfl W4.heap.size Tryz.underlying24 blobInfo rfl (by decide) (v := .slice A6 (m + 1) c6) (by rfl) O6.out (some a) 0 0 (news := (bs.drop c).flatMap BlobD.cells) (by rfl) ((RDE.out rfl).grown G46.out (by simp)) (by rw [flat_len _ 3 BlobD.cells_len, List.length_drop]; omega) (flat_one BlobD.one _) (by decide) (by omega) (by omega) ?_; intro A8 c8 w8 hown8 hg8)
        have O8 : Hid (w8.ownsRow W4.heap.size 59 3 (.slice A8 (putB bs x.id x.tier x').length c8) (putB bs x.id x.tier x').length ((putB bs x.id x.tier x').flatMap BlobD.cells)) := Lib.hid (by rw [PL.out, PC.out, show bs.length - c = 0 by omega]; exact hown8)
        have G8 := Lib.hid (only_own (only_trans G4.out G46.out) hg8 O6.out hsz4)
        have D8 := Lib.hid (D6.out.kept hg8 (own_two D6.out O6.out (by decide)))
        clear hown8 hg8
        obtain ⟨A9, c9, e9, hc9, hm9, -, hr9⟩ := Rd.of_own O8.out (by decide)
        injection e9 with e91 e92 e93
        subst e91 e93
        have R9 := Lib.hid hr9
        obtain ⟨A7, c7, e7, hc7, hm7, -, hr7⟩ := Rd.of_own D8.out (by decide)
        injection e7 with e71 e72 e73
        subst e71 e73
        have R7 := Lib.hid hr7
        clear hr9 hr7
        go_ret
        exact ⟨A8, c8, putB bs x.id x.tier x', by rw [PL.out, show bs.length - c = 0 by omega]; rfl, ⟨x', by rw [HX'.out]; rfl, rfl⟩, hc9, hm9, (fun e => absurd e (R9.out.ne_none (by rw [flat_len _ 3 BlobD.cells_len, PL.out]; omega))), R9.out.mono (fun b hb _ => HS0.out b (Nat.le_trans hsz4 hb)), putB_sub (fun y hy => (HSB.out y hy).grown G8.out (by simp)) (by
          rw [HX'.out]; exact ⟨R7.out.mono (fun b hb _ => HS0.out b hb), hc7, hm7, HXS.out.2.2.2⟩), G8.out⟩
      · skip
        go_wp2_with (at_builtin; refine wpList_appendT rfl _ _ 24 rfl W4.heap.size Tryz.underlying24 blobInfo rfl (by decide) (v := .slice A6 (m + 1) c6) (by rfl) O6.out (some (a.add (kk * 3))) (bs.length - kk) (c - kk) (news := (bs.drop kk).flatMap BlobD.cells) (by rfl) (RDN.out.grown G46.out (by simp)) (by rw [flat_len _ 3 BlobD.cells_len, List.length_drop]) (flat_one BlobD.one _) (by decide) (by omega) (by omega) ?_; intro A8 c8 w8 hown8 hg8)
        have O8 : Hid (w8.ownsRow W4.heap.size 59 3 (.slice A8 (putB bs x.id x.tier x').length c8) (putB bs x.id x.tier x').length ((putB bs x.id x.tier x').flatMap BlobD.cells)) := Lib.hid (by rw [PL.out, PC.out]; exact hown8)
        have G8 := Lib.hid (only_own (only_trans G4.out G46.out) hg8 O6.out hsz4)
        have D8 := Lib.hid (D6.out.kept hg8 (own_two D6.out O6.out (by decide)))
        clear hown8 hg8
        obtain ⟨A9, c9, e9, hc9, hm9, -, hr9⟩ := Rd.of_own O8.out (by decide)
        injection e9 with e91 e92 e93
        subst e91 e93
        have R9 := Lib.hid hr9
        obtain ⟨A7, c7, e7, hc7, hm7, -, hr7⟩ := Rd.of_own D8.out (by decide)
        injection e7 with e71 e72 e73
        subst e71 e73
        have R7 := Lib.hid hr7
        clear hr9 hr7
        go_ret
        exact ⟨A8, c8, putB bs x.id x.tier x', by rw [PL.out]; rfl, ⟨x', by rw [HX'.out]; rfl, rfl⟩, hc9, hm9, (fun e => absurd e (R9.out.ne_none (by rw [flat_len _ 3 BlobD.cells_len, PL.out]; omega))), R9.out.mono (fun b hb _ => HS0.out b (Nat.le_trans hsz4 hb)), putB_sub (fun y hy => (HSB.out y hy).grown G8.out (by simp)) (by
          rw [HX'.out]; exact ⟨R7.out.mono (fun b hb _ => HS0.out b hb), hc7, hm7, HXS.out.2.2.2⟩), G8.out⟩
    | false =>
      have hok := HOK.out.symm
      have hm := HM.out
      have PL : Hid ((putB bs x.id x.tier x').length = m + 1 + (bs.length - m)) := Lib.hid (by rw [putB_no hok, ← hm]; simp; omega)
      have PC : Hid ((putB bs x.id x.tier x').flatMap BlobD.cells = ((bs.take m).flatMap BlobD.cells ++ x'.cells) ++ (bs.drop m).flatMap BlobD.cells) := Lib.hid (by rw [putB_no hok, ← hm]; simp [List.flatMap_append])
      have hkl : m ≤ bs.length := by omega
      have RDN := Lib.hid (show Rd (· < w.heap.size) W4 (some (a.add (m * 3))) ((bs.drop m).flatMap BlobD.cells) from by rw [flat_drop BlobD.cells_len]; exact R4.out.drop _)
      have RDE := Lib.hid (fun (hck : c = m) => (show Rd (· < w.heap.size) W4 (some a) ((bs.drop m).flatMap BlobD.cells) from by rw [List.drop_of_length_le (by omega)]; exact Rd.nil))
      have j1 : (m : Int) ≤ (bs.length : Int) := by omega
      have j2 : (m : Int) ≤ (c : Int) := by omega
      have j3 : (0 : Int) ≤ (m : Int) := by omega
      have j4 : (bs.length : Int) ≤ (c : Int) := by omega
      clear hok hm
      by_cases hck : c = m
      · subst hck
        go_wp2_with (at_builtin; refine wpList_appendT rfl _ _ 24 rfl W4.heap.size Tryz.underlying24 blobInfo rfl (by decide) (v := .slice A6 (c + 1) c6) (by rfl) O6.out (some a) 0 0 (news := (bs.drop c).flatMap BlobD.cells) (by rfl) ((RDE.out rfl).grown G46.out (by simp)) (by rw [flat_len _ 3 BlobD.cells_len, List.length_drop]; omega) (flat_one BlobD.one _) (by decide) (by omega) (by omega) ?_; intro A8 c8 w8 hown8 hg8)
        have O8 : Hid (w8.ownsRow W4.heap.size 59 3 (.slice A8 (putB bs x.id x.tier x').length c8) (putB bs x.id x.tier x').length ((putB bs x.id x.tier x').flatMap BlobD.cells)) := Lib.hid (by rw [PL.out, PC.out, show bs.length - c = 0 by omega]; exact hown8)
        have G8 := Lib.hid (only_own (only_trans G4.out G46.out) hg8 O6.out hsz4)
        have D8 := Lib.hid (D6.out.kept hg8 (own_two D6.out O6.out (by decide)))
        clear hown8 hg8
        obtain ⟨A9, c9, e9, hc9, hm9, -, hr9⟩ := Rd.of_own O8.out (by decide)
        injection e9 with e91 e92 e93
        subst e91 e93
        have R9 := Lib.hid hr9
        obtain ⟨A7, c7, e7, hc7, hm7, -, hr7⟩ := Rd.of_own D8.out (by decide)
        injection e7 with e71 e72 e73
        subst e71 e73
        have R7 := Lib.hid hr7
        clear hr9 hr7
        go_ret
        exact ⟨A8, c8, putB bs x.id x.tier x', by rw [PL.out, show bs.length - c = 0 by omega]; rfl, ⟨x', by rw [HX'.out]; rfl, rfl⟩, hc9, hm9, (fun e => absurd e (R9.out.ne_none (by rw [flat_len _ 3 BlobD.cells_len, PL.out]; omega))), R9.out.mono (fun b hb _ => HS0.out b (Nat.le_trans hsz4 hb)), putB_sub (fun y hy => (HSB.out y hy).grown G8.out (by simp)) (by
          rw [HX'.out]; exact ⟨R7.out.mono (fun b hb _ => HS0.out b hb), hc7, hm7, HXS.out.2.2.2⟩), G8.out⟩
      · skip
        go_wp2_with (at_builtin; refine wpList_appendT rfl _ _ 24 rfl W4.heap.size Tryz.underlying24 blobInfo rfl (by decide) (v := .slice A6 (m + 1) c6) (by rfl) O6.out (some (a.add (m * 3))) (bs.length - m) (c - m) (news := (bs.drop m).flatMap BlobD.cells) (by rfl) (RDN.out.grown G46.out (by simp)) (by rw [flat_len _ 3 BlobD.cells_len, List.length_drop]) (flat_one BlobD.one _) (by decide) (by omega) (by omega) ?_; intro A8 c8 w8 hown8 hg8)
        have O8 : Hid (w8.ownsRow W4.heap.size 59 3 (.slice A8 (putB bs x.id x.tier x').length c8) (putB bs x.id x.tier x').length ((putB bs x.id x.tier x').flatMap BlobD.cells)) := Lib.hid (by rw [PL.out, PC.out]; exact hown8)
        have G8 := Lib.hid (only_own (only_trans G4.out G46.out) hg8 O6.out hsz4)
        have D8 := Lib.hid (D6.out.kept hg8 (own_two D6.out O6.out (by decide)))
        clear hown8 hg8
        obtain ⟨A9, c9, e9, hc9, hm9, -, hr9⟩ := Rd.of_own O8.out (by decide)
        injection e9 with e91 e92 e93
        subst e91 e93
        have R9 := Lib.hid hr9
        obtain ⟨A7, c7, e7, hc7, hm7, -, hr7⟩ := Rd.of_own D8.out (by decide)
        injection e7 with e71 e72 e73
        subst e71 e73
        have R7 := Lib.hid hr7
        clear hr9 hr7
        go_ret
        exact ⟨A8, c8, putB bs x.id x.tier x', by rw [PL.out]; rfl, ⟨x', by rw [HX'.out]; rfl, rfl⟩, hc9, hm9, (fun e => absurd e (R9.out.ne_none (by rw [flat_len _ 3 BlobD.cells_len, PL.out]; omega))), R9.out.mono (fun b hb _ => HS0.out b (Nat.le_trans hsz4 hb)), putB_sub (fun y hy => (HSB.out y hy).grown G8.out (by simp)) (by
          rw [HX'.out]; exact ⟨R7.out.mono (fun b hb _ => HS0.out b hb), hc7, hm7, HXS.out.2.2.2⟩), G8.out⟩
end Go.Proofs.YtganfhmjklcchaaGreat
