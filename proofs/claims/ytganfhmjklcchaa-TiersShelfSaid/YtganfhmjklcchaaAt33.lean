/- less, at of the reference of chapter 33. Condition: sizes. -/
import Derived.Test.YtganfhmjklcchaaGet33
import Derived.Deep.DeepCutAuto
namespace Go.Proofs.Ytganfhmjklcchaa
open Go.RowKit
set_option linter.unusedVariables false
set_option linter.unusedSimpArgs false

set_option maxHeartbeats 1000000 in
set_option maxRecDepth 100000 in
theorem rless_any (x : BlobD) (i t : Int) (w : World) :
    Calls Try.prog 38 #[.agg x.cells.toArray, .int .i64 i, .int .i64 t] w (ExtV (.bool (decide (cfBlob i t x < 0))) w) := by
  obtain ⟨W1, hW1⟩ : ∃ W, W = w.alloc (.cells x.cells.toArray 30) := ⟨_, rfl⟩
  obtain ⟨g, hg⟩ : ∃ g, g = w.heap.size := ⟨_, rfl⟩
  have hB : Blk W1 g 30 x.cells.toArray := by rw [hW1, hg]; exact Blk.new w _ _
  have HG : Hid (w.grownBy W1 none) := Lib.hid (by rw [hW1]; exact only_alloc (only_refl _ _) _)
  have c0 := hB.cell 0
  have c1 := hB.cell 1
  simp [BlobD.cells] at c0 c1
  have HW := Lib.hid hW1.symm
  have HGG := Lib.hid hg.symm
  clear hW1 hg hB
  go_enter Try.func38, Try.ntmps38
  go_upto_region 1 with fail
  rw [HW.out, HGG.out]
  clear HW HGG
  by_cases h1 : x.id < i
  · have HV : Hid (decide (cfBlob i t x < 0) = true) := Lib.hid (by rw [decide_eq_true_iff, cfBlob_lt]; omega)
    go_wp2_with fail
    go_ret
    exact ⟨by rw [HV.out]; rfl, HG.out⟩
  · by_cases h2 : x.id = i
    · have e2 : (x.id == i) = true := by simp [h2]
      by_cases h3 : x.tier < t
      · have HV : Hid (decide (cfBlob i t x < 0) = true) := Lib.hid (by rw [decide_eq_true_iff, cfBlob_lt]; omega)
        clear h2
        go_wp2_with fail
        go_ret
        exact ⟨by rw [HV.out]; rfl, HG.out⟩
      · have HV : Hid (decide (cfBlob i t x < 0) = false) := Lib.hid (by rw [decide_eq_false_iff_not, cfBlob_lt]; omega)
        clear h2
        go_wp2_with fail
        go_ret
        exact ⟨by rw [HV.out]; rfl, HG.out⟩
    · have e2 : (x.id == i) = false := by simp [h2]
      have HV : Hid (decide (cfBlob i t x < 0) = false) := Lib.hid (by rw [decide_eq_false_iff_not, cfBlob_lt]; omega)
      clear h2
      go_wp2_with fail
      go_ret
      exact ⟨by rw [HV.out]; rfl, HG.out⟩
set_option maxHeartbeats 4000000 in
set_option maxRecDepth 100000 in
theorem rat_any {S : Nat → Prop} (A : Option Addr) (bs : List BlobD) (c : Nat) (i t : Int) (w : World) (hr : Rd S w A (bs.flatMap BlobD.cells)) (hl : bs.length ≤ 100000) :
    Calls Try.prog 28 #[.slice A bs.length c, .int .i64 i, .int .i64 t] w (BsPost w (lowC (cfBlob i t) bs) (okC (cfBlob i t) bs)) := by
  have HR := Lib.hid hr
  clear hr
  go_enter Try.func28, Try.ntmps28
  go_wp2_with fail
  go_loopw [8] (fun vi wr => ∃ k : Nat, vi = .int .i64 k ∧ k ≤ bs.length ∧ (∀ q x, q < k → bs[q]? = some x → cfBlob i t x < 0) ∧ w.grownBy wr none) (fun vi _ => bs.length - (intOf vi).toNat)
  case atStart => exact ⟨0, rfl, Nat.zero_le _, (fun q x h => by omega), only_refl _ _⟩
  case round =>
    obtain ⟨k, rfl, hk, hlo, hG⟩ := hrel
    have LO := Lib.hid hlo
    have G := Lib.hid hG
    have HRR := Lib.hid (HR.out.grown hG (by simp))
    clear hlo hG
    by_cases hlt : k < bs.length
    · obtain ⟨x, hx⟩ : ∃ x, bs[k]? = some x := ⟨_, List.getElem?_eq_getElem hlt⟩
      have HX := Lib.hid hx
      obtain ⟨b, o, rfl, -, -, -⟩ := HRR.out (by rw [flat_len _ 3 BlobD.cells_len]; omega)
      have d0 : wr.cell? ⟨b, o + k * 3, none⟩ = some (.int .i64 x.id) := HRR.out.flatAt BlobD.cells_len hx 0 (by omega)
      have d1 : wr.cell? ⟨b, o + k * 3 + 1, none⟩ = some (.int .i64 x.tier) := HRR.out.flatAt BlobD.cells_len hx 1 (by omega)
      have d2 : wr.cell? ⟨b, o + k * 3 + 2, none⟩ = some (.slice x.A x.data.length x.c) := HRR.out.flatAt BlobD.cells_len hx 2 (by omega)
      have i1 : (k : Int) < (bs.length : Int) := by omega
      have i2 : (0 : Int) ≤ (k : Int) := by omega
      have KL := Lib.hid (rless_any x i t wr)
      clear hx
      by_cases hc : cfBlob i t x < 0
      · have HC := Lib.hid hc
        rw [decide_eq_true hc] at KL
        clear hc
        go_wp2_with fail
        refine KL.out.mono ?_
        rintro e w2 ⟨rfl, hg2⟩
        have G2 := Lib.hid (only_trans G.out hg2)
        clear hg2 d0 d1 d2
        go_wp2_with fail
        go_roundw
        case rel => exact ⟨k + 1, by go_num, by omega, (fun q y hq hy => if h : q = k then by subst h; rw [HX.out] at hy; injection hy with hy; rw [← hy]; exact HC.out else LO.out q y (by omega) hy), G2.out⟩
        case measure => simp [intOf]; omega
      · have HLW : Hid (lowC (cfBlob i t) bs = k) := Lib.hid (lowC_at hk LO.out (fun y hy => by rw [HX.out] at hy; injection hy with hy; rw [← hy]; exact hc))
        have hok : okC (cfBlob i t) bs = (cfBlob i t x == 0) := by unfold okC; rw [HLW.out, HX.out]
        have HOK : Hid (okC (cfBlob i t) bs = (decide (x.id = i) && decide (x.tier = t))) := Lib.hid (by
          rw [hok, Bool.eq_iff_iff]; simp [cfBlob_eq])
        rw [decide_eq_false hc] at KL
        clear hc hok
        go_wp2_with fail
        refine KL.out.mono ?_
        rintro e w2 ⟨rfl, hg2⟩
        have G2 := Lib.hid (only_trans G.out hg2)
        have HR2 := HRR.out.grown hg2 (by simp)
        clear d0 d1 d2
        have d0 : w2.cell? ⟨b, o + k * 3, none⟩ = some (.int .i64 x.id) := HR2.flatAt BlobD.cells_len HX.out 0 (by omega)
        have d1 : w2.cell? ⟨b, o + k * 3 + 1, none⟩ = some (.int .i64 x.tier) := HR2.flatAt BlobD.cells_len HX.out 1 (by omega)
        clear hg2 HR2
        by_cases h2 : x.id = i
        · have e2 : (x.id == i) = true := by simp [h2]
          by_cases h3 : x.tier = t
          · have e3 : (x.tier == t) = true := by simp [h3]
            have HV : Hid (okC (cfBlob i t) bs = true) := Lib.hid (by rw [HOK.out]; simp [h2, h3])
            clear h2 h3
            go_wp2_with fail
            go_quiet (fail)
            go_wp2_with fail
            go_ret2
            exact ⟨by rw [HLW.out, HV.out]; rfl, only_drewN G2.out _⟩
          · have e3 : (x.tier == t) = false := by simp [h3]
            have HV : Hid (okC (cfBlob i t) bs = false) := Lib.hid (by rw [HOK.out]; simp [h3])
            clear h2 h3
            go_wp2_with fail
            go_quiet (fail)
            go_wp2_with fail
            go_ret2
            exact ⟨by rw [HLW.out, HV.out]; rfl, only_drewN G2.out _⟩
        · have e2 : (x.id == i) = false := by simp [h2]
          have HV : Hid (okC (cfBlob i t) bs = false) := Lib.hid (by rw [HOK.out]; simp [h2])
          clear h2
          go_wp2_with fail
          go_quiet (fail)
          go_wp2_with fail
          go_ret2
          exact ⟨by rw [HLW.out, HV.out]; rfl, only_drewN G2.out _⟩
    · have i1 : ¬ ((k : Int) < (bs.length : Int)) := by omega
      have HLW : Hid (lowC (cfBlob i t) bs = k) := Lib.hid (lowC_at hk LO.out (fun y hy => by rw [List.getElem?_eq_none (by omega)] at hy; cases hy))
      have HV : Hid (okC (cfBlob i t) bs = false) := Lib.hid (by unfold okC; rw [HLW.out, List.getElem?_eq_none (by omega)])
      go_wp2_with fail
      go_quiet (fail)
      go_wp2_with fail
      go_ret2
      exact ⟨by rw [HLW.out, HV.out]; rfl, only_drewN G.out _⟩
end Go.Proofs.Ytganfhmjklcchaa
