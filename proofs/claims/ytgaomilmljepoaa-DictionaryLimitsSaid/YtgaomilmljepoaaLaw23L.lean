/- law23: DictionaryLimits: the walk of the law itself. -/
import Derived.Test.YtgaomilmljepoaaLim
import Derived.Test.YtgaomilmljepoaaOnto
import Derived.Test.YtgaomilmljepoaaMergeE
import Derived.Test.YtgaomilmljepoaaDictC
import Derived.Deep.DeepMust
import Derived.StillTailTactics
import Derived.Deep.RegionWith
namespace Go.Proofs.Ytgaomilmljepoaa
open Go.RowKit
set_option linter.unusedVariables false
set_option linter.unusedSimpArgs false

set_option maxHeartbeats 3000000 in
set_option maxRecDepth 100000 in
theorem law_limits (x : Int) (w : World) (h1 : -128 ≤ x) (h2 : x ≤ 127) :
    Calls Try.prog 9 #[.int .i8 x] w (RetExt (.bool true) w) := by
  obtain ⟨hm1, hm2⟩ := tmod3 x
  obtain ⟨m, hm⟩ : ∃ m, x.tmod 3 = m := ⟨_, rfl⟩
  rw [hm] at hm1 hm2
  obtain ⟨N, hN⟩ : ∃ N : Nat, 32768 + m = (N : Int) := ⟨(32768 + m).toNat, by omega⟩
  obtain ⟨L, hL⟩ : ∃ L : Nat, 2048 + m = (L : Int) := ⟨(2048 + m).toNat, by omega⟩
  have hN1 : 32766 ≤ N := by omega
  have hN2 : N ≤ 32770 := by omega
  have hL1 : 2046 ≤ L := by omega
  have hL2 : L ≤ 2050 := by omega
  have HML : Hid ((32768 < N ↔ 0 < m) ∧ (2048 < L ↔ 0 < m)) := ⟨by omega, by omega⟩
  have hmk := make_any (P := Try.prog) Try.underlying22 byteInfo rfl (by decide) L (by omega)
  have hcl := conv_lg L
  go_enter Try.func9, Try.ntmps9
  go_wp2_with (go_at_call 10; refine (awake_any _).mono ?_; rintro e w1 ⟨rfl, hg1⟩)
  go_loopw [3, 4] (fun v i wr => ∃ k : Nat, k ≤ N ∧ i = .int .i64 k ∧ wr.ownsRow w.heap.size 9 1 v (wl k).length ((wl k).map .string) ∧ w.grownBy wr none) (fun _ i _ => N - (intOf i).toNat)
  case atStart => exact ⟨0, Nat.zero_le _, rfl, World.ownsRow_nil _ _ _ _, hg1⟩
  case round =>
    obtain ⟨k, hk, rfl, hown, hG⟩ := hrel
    have HO := Lib.hid hown
    have HG := Lib.hid hG
    have hz := hG.size
    clear hown hG
    by_cases hlt : k < N
    · have d1 : decide ((k : Int) < (N : Int)) = true := decide_eq_true (by omega)
      have hcv := conv_w3 (k := k) (by omega)
      have hwl := wl_len k
      have HW := Lib.hid hwl
      have hwlb : (wl k).length ≤ 32770 := by omega
      clear hwl
      have HSZ : Hid (∀ o, (wr.alloc o).heap.size = wr.heap.size + 1) := fun o => by simp
      go_wp2_with (at_builtin; refine wpList_append1 rfl _ _ 26 rfl w.heap.size Try.underlying26 strInfo rfl (by decide) (v := _) (by rfl) (w0 := _) (cs := #[.string (w3 k)]) (HO.out.alloc _) (by rw [HSZ.out]; rfl) rfl (by simp [Value.oneCell']) (by decide) (by omega) (by simp; omega) ?_; intro v5 w5 hown5 hg5 hob5)
      have O5 : Hid (w5.ownsRow w.heap.size 9 1 v5 (wl (k + 1)).length ((wl (k + 1)).map .string)) := by
        rw [wl_snoc]; exact own_snoc_str hown5
      have G5 : Hid (w.grownBy w5 none) := only_own (only_alloc HG.out _) hg5 (HO.out.alloc _) (Nat.le_refl _)
      clear hown5 hg5 hob5 hcv
      go_wp2_with fail
      go_roundw
      case rel => exact ⟨k + 1, by omega, by go_num, O5.out, G5.out⟩
      case measure => simp [intOf]; omega
    · obtain rfl : k = N := by omega
      have d1 : decide ((k : Int) < (k : Int)) = false := by simp
      go_wp2_with fail
      clear hmk hcl
      have hwl := wl_len k
      rcases HO.out.2 with ⟨rfl, h0⟩ | ⟨g, cap, cur, rfl, hg, hblk, hnc, hcm, hcs, htk⟩
      · exfalso; omega
      obtain ⟨W, hW⟩ : ∃ W, W = wr.alloc (Obj.cells (Array.replicate L (Value.int IntKind.u8 0)) 5) := ⟨_, rfl⟩
      rw [← hW]
      have RW : Hid (Rd (fun _ => True) W (some ⟨g, 0, none⟩) ((wl k).map .string)) := by
        obtain ⟨A9, c9, e9, -, -, -, hr9⟩ := Rd.of_own HO.out (by decide)
        injection e9 with e9
        rw [hW, e9]
        exact (hr9.mono (fun _ _ _ => trivial)).alloc _
      have GW : Hid (w.grownBy W none) := hW ▸ only_alloc HG.out _
      have hcap : k ≤ cap := by omega
      have hcm2 : cap ≤ 9223372036854775807 := by unfold maxLen at hcm; omega
      have HCM := Lib.hid hcm
      clear hW hblk hcs htk HO HG hz hg hcm
      rw [hwl]
      have c1 := build_any (some ⟨g, 0, none⟩) (wl k) cap W RW.out (by omega) (by omega) (fun h => by cases h)
      rw [hwl] at c1
      have HWL := Lib.hid hwl
      clear hwl
      refine c1.mono ?_
      clear c1
      rintro e w3' ⟨A3, c3, rfl, -, hg3⟩
      have R3 := Lib.hid (RW.out.grown hg3 (by simp))
      have G3 : Hid (w.grownBy w3' none) := only_trans GW.out hg3
      clear hg3 RW GW
      go_wp2_with fail
      have c1 := rbuild_any (some ⟨g, 0, none⟩) (wl k) cap w3' R3.out (by rw [HWL.out]; omega) (by rw [HWL.out]; omega) HCM.out
      rw [HWL.out] at c1
      refine c1.mono ?_
      clear c1
      rintro e w4 ⟨A4, c4, rfl, -, hg4⟩
      have R4 := Lib.hid (R3.out.grown hg4 (by simp))
      have G4 : Hid (w.grownBy w4 none) := only_trans G3.out hg4
      clear hg4 R3 G3
      go_wp2_with fail
      refine (build_any (S := fun _ => True) _ [lg L] 1 _ (fun _ => ⟨w4.heap.size, 0, rfl, trivial, by simp, fun j u hu => by rw [Nat.zero_add, (Blk.new w4 _ _).cell j, ← hu]; simp⟩) (by simp) (by simp) (fun h => by cases h)).mono ?_
      rintro e w5 ⟨A5, c5, rfl, -, hg5⟩
      have R5 := Lib.hid ((R4.out.alloc _).grown hg5 (by simp))
      have G5 : Hid (w.grownBy w5 none) := only_trans (only_alloc G4.out _) hg5
      clear hg5 R4 G4
      rw [wl_err (by omega), lg_err]
      by_cases hm0 : 0 < m
      · have hk : 32768 < k := HML.out.1.2 hm0
        have hLb : 2048 < L := HML.out.2.2 hm0
        rw [if_pos hk, if_pos hLb]
        have HCK : Hid (chk (wl k) = 4) := by show chk (wl k) = 4; rw [wl_chk (by omega), if_pos hk]
        have HCL : Hid (chk [lg L] = 3) := by show chk [lg L] = 3; rw [lg_chk, if_pos hLb]
        have dw : decide ((32768 : Int) < (k : Int)) = true := decide_eq_true (by omega)
        have dl : decide (((lg L).size : Int) ≤ 2048) = false := decide_eq_false (by rw [lg_size]; omega)
        go_wp2_with fail
        have e50 : (50 : Int) ≤ (k : Int) := by omega
        have e100 : (100 : Int) ≤ (cap : Int) := by omega
        have ec50 : ¬ cap = 50 := by omega
        have RT : Rd (fun _ => True) w5.drew (some ⟨g, 0, none⟩) (((wl k).take 100).map .string) := by
          have h := R5.out.take 100
          rw [← List.map_take] at h
          exact h
        have RD : Rd (fun _ => True) w5.drew (some ⟨g, 50, none⟩) (((wl k).drop 50).map .string) := by
          have h := R5.out.drop 50
          rw [← List.map_drop] at h
          exact h
        have ha : ((wl k).take 100).length = 100 := by rw [List.length_take, HWL.out]; omega
        have hb : ((wl k).drop 50).length = k - 50 := by rw [List.length_drop, HWL.out]
        have c1 := merge_err (some ⟨g, 0, none⟩) (some ⟨g, 50, none⟩) ((wl k).take 100) ((wl k).drop 50) cap (cap - 50) w5.drew RT RD (by omega) (by omega) (by rw [wl_un (by omega) (by omega), HWL.out]; exact hk)
        rw [ha, hb] at c1
        have C1 := Lib.hid c1
        clear c1 RT RD ha hb
        go_region_with ((go_at_call 18; refine C1.out.mono ?_; rintro e w6 ⟨rfl, hg6⟩))
        have R6 := Lib.hid ((show Rd _ w5.drew _ _ from R5.out).grown hg6 (by simp))
        have G6 : Hid (w.grownBy w6 none) := only_trans (only_drew G5.out) hg6
        clear hg6 R5 G5
        go_wp2_with fail
        have c1 := check_any (some ⟨g, 0, none⟩) (wl k) cap w6 R6.out (by rw [HWL.out]; omega)
        rw [HWL.out, HCK.out] at c1
        refine c1.mono ?_
        clear c1
        rintro e w7 ⟨rfl, n7, rfl⟩
        go_wp2_with fail
        have c1 := check_any (S := fun _ => True) (some ⟨w6.heap.size, 0, none⟩) [lg L] 1 ((w6.alloc (.cells #[.string (lg L)] 9)).drewN n7) (fun _ => ⟨w6.heap.size, 0, rfl, trivial, by show w6.heap.size < (w6.alloc _).heap.size; simp, fun j u hu => by rw [Nat.zero_add, ((Blk.new w6 _ _).drewN n7).cell j, ← hu]; simp⟩) (by simp)
        rw [HCL.out] at c1
        refine c1.mono ?_
        clear c1
        rintro e w8 ⟨rfl, n8, rfl⟩
        go_wp2_with fail
        go_ret
        exact ⟨rfl, only_drewN (only_alloc G6.out _) _⟩
      · have hk : ¬ 32768 < k := fun h => hm0 (HML.out.1.1 h)
        have hLb : ¬ 2048 < L := fun h => hm0 (HML.out.2.1 h)
        rw [if_neg hk, if_neg hLb]
        have HCK : Hid (chk (wl k) = 0) := by show chk (wl k) = 0; rw [wl_chk (by omega), if_neg hk]
        have HCL : Hid (chk [lg L] = 0) := by show chk [lg L] = 0; rw [lg_chk, if_neg hLb]
        have dw : decide ((32768 : Int) < (k : Int)) = false := decide_eq_false (by omega)
        have dl : decide (((lg L).size : Int) ≤ 2048) = true := decide_eq_true (by rw [lg_size]; omega)
        go_wp2_with fail
        have e50 : (50 : Int) ≤ (k : Int) := by omega
        have e100 : (100 : Int) ≤ (cap : Int) := by omega
        have ec50 : ¬ cap = 50 := by omega
        have RT : Rd (fun _ => True) w5.drew (some ⟨g, 0, none⟩) (((wl k).take 100).map .string) := by
          have h := R5.out.take 100
          rw [← List.map_take] at h
          exact h
        have RD : Rd (fun _ => True) w5.drew (some ⟨g, 50, none⟩) (((wl k).drop 50).map .string) := by
          have h := R5.out.drop 50
          rw [← List.map_drop] at h
          exact h
        have ha : ((wl k).take 100).length = 100 := by rw [List.length_take, HWL.out]; omega
        have hb : ((wl k).drop 50).length = k - 50 := by rw [List.length_drop, HWL.out]
        have c1 := merge_any (some ⟨g, 0, none⟩) (some ⟨g, 50, none⟩) ((wl k).take 100) ((wl k).drop 50) cap (cap - 50) w5.drew RT RD (by omega) (by omega) (by rw [wl_un (by omega) (by omega), HWL.out]; omega)
        rw [ha, hb] at c1
        have C1 := Lib.hid c1
        have HAB := Lib.hid (And.intro ha hb)
        clear c1 RT RD ha hb
        go_region_with ((go_at_call 18; refine C1.out.mono ?_; rintro e w6 ⟨A6, B6, C6, c6, d6, f6, xs6, ys6, rfl, -, -, -, -, -, -, -, -, -, hg6⟩))
        have R6 := Lib.hid ((show Rd _ w5.drew _ _ from R5.out).grown hg6 (by simp))
        have G6 : Hid (w.grownBy w6 none) := only_trans (only_drew G5.out) hg6
        clear hg6 R5 G5
        go_wp2_with fail
        have c1 := check_any (some ⟨g, 0, none⟩) (wl k) cap w6 R6.out (by rw [HWL.out]; omega)
        rw [HWL.out, HCK.out] at c1
        refine c1.mono ?_
        clear c1
        rintro e w7 ⟨rfl, n7, rfl⟩
        go_wp2_with fail
        have c1 := check_any (S := fun _ => True) (some ⟨w6.heap.size, 0, none⟩) [lg L] 1 ((w6.alloc (.cells #[.string (lg L)] 9)).drewN n7) (fun _ => ⟨w6.heap.size, 0, rfl, trivial, by show w6.heap.size < (w6.alloc _).heap.size; simp, fun j u hu => by rw [Nat.zero_add, ((Blk.new w6 _ _).drewN n7).cell j, ← hu]; simp⟩) (by simp)
        rw [HCL.out] at c1
        refine c1.mono ?_
        clear c1
        rintro e w8 ⟨rfl, n8, rfl⟩
        go_wp2_with fail
        go_ret
        exact ⟨rfl, only_drewN (only_alloc G6.out _) _⟩
end Go.Proofs.Ytgaomilmljepoaa
