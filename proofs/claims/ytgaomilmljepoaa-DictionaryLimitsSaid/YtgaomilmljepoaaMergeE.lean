/- Merge of dictionaries that have too many words together. -/
import Derived.Test.YtgaomilmljepoaaMerge
namespace Go.Proofs.Ytgaomilmljepoaa
open Go.RowKit
set_option linter.unusedVariables false
set_option linter.unusedSimpArgs false

def MgErr (w : World) (e : Ending) (w' : World) : Prop := e = .returned (.tuple #[.slice none 0 0, .slice none 0 0, .slice none 0 0, .int .i64 4]) ∧ w.grownBy w' none
set_option maxHeartbeats 4000000 in
set_option maxRecDepth 100000 in
theorem merge_err {S S' : Nat → Prop} (A B : Option Addr) (a b : List ByteArray) (c d : Nat) (w : World) (ha : Rd S w A (a.map .string)) (hb : Rd S' w B (b.map .string)) (hl : a.length ≤ 1000000) (hl2 : b.length ≤ 1000000) (hun : 32768 < (un a b).length) :
    Calls Try.prog 18 #[.slice A a.length c, .slice B b.length d] w (MgErr w) := by
  have HA := Lib.hid (ha.mono (S' := (· < w.heap.size)) (fun _ _ h => h))
  have HB := Lib.hid (hb.mono (S' := (· < w.heap.size)) (fun _ _ h => h))
  have HUN := Lib.hid hun
  clear ha hb hun
  go_enter Try.func18, Try.ntmps18
  go_wp2_with fail
  go_loopw [4, 5, 6, 8, 9] (fun o x y i' k' wr => ∃ (i k : Nat) (zs : List ByteArray) (xs ys : List Int), i ≤ a.length ∧ k ≤ b.length ∧ i' = .int .i64 i ∧ k' = .int .i64 k ∧ zs.length ≤ 32768 ∧ MgRel w a b i k o x y zs xs ys wr) (fun _ _ _ i' k' _ => (a.length - (intOf i').toNat) + (b.length - (intOf k').toNat))
  case atStart => exact ⟨0, 0, [], [], [], Nat.zero_le _, Nat.zero_le _, rfl, rfl, by simp, ⟨World.ownsRow_nil _ _ _ _, World.ownsRow_nil _ _ _ _, World.ownsRow_nil _ _ _ _, .inl rfl, .inl rfl, only_refl _ _⟩, by simp, rfl, rfl, Ixs.nil _ _, Ixs.nil _ _⟩
  case round =>
    obtain ⟨i, k, zs, xs, ys, hi, hk, rfl, rfl, hzb, hR⟩ := hrel
    have HR := Lib.hid hR
    obtain ⟨⟨ho, hx, hy, hxy, hyx, hG⟩, heq, hxl, hyl, hix, hiy⟩ := hR
    have hsz := hG.size
    have hRA := (HA.out.grown hG (by simp))
    have hRB := (HB.out.grown hG (by simp))
    obtain ⟨AO, co, rfl, hco, hcom, -, hro⟩ := Rd.of_own ho (by decide)
    obtain ⟨AX, cx, rfl, hcx, hcxm, -, hrx⟩ := Rd.of_own hx (by decide)
    obtain ⟨AY, cy, rfl, hcy, hcym, -, hry⟩ := Rd.of_own hy (by decide)
    have HC := Lib.hid (And.intro hcom (And.intro hro (And.intro hrx hry)))
    have HEQ := Lib.hid heq
    have HXL := Lib.hid hxl
    have HYL := Lib.hid hyl
    have HIX := Lib.hid hix
    have HIY := Lib.hid hiy
    have hx1 : xs.length ≤ i := by omega
    have hy1 : ys.length ≤ k := by omega
    clear hG hro hrx hry heq hxy hyx hxl hyl hix hiy hcom hcxm hcym ho hx hy
    by_cases hia : i < a.length
    · obtain ⟨ba, oa, sx, rfl, hca, hsx⟩ := hRA.str_at hia
      by_cases hkb : k < b.length
      · obtain ⟨bb, ob, sy, rfl, hcb, hsy⟩ := hRB.str_at hkb
        clear hRA hRB
        have t1 : ((k : Int) == (b.length : Int)) = false := by rw [beq_eq_false_iff_ne]; omega
        have t2 : ((i : Int) == (a.length : Int)) = false := by rw [beq_eq_false_iff_ne]; omega
        by_cases hab : sl sx sy = true
        · have t3 : Op.bytesLess sx.toList sy.toList = true := hab
          have t4 : Op.bytesLess sy.toList sx.toList = false := sl_asymm hab
          have t5 : (sy.toList == sx.toList) = false := by rw [beq_eq_false_iff_ne]; intro e; rw [e, bl_irrefl] at t3; cases t3
          have huneq := un_a hsx.out (.inr ⟨sy, hsy.out, hab⟩)
          by_cases hq : zs.length = 32768
          · have hzn : ((zs.length : Int) == 32768) = true := by simp [hq]
            clear hq hab huneq
            go_wp2_with fail
            go_quiet (fail)
            obtain ⟨q1, hq1⟩ : ∃ q1, q1 = nq := ⟨_, rfl⟩
            rw [← hq1]
            clear hq1 nq
            go_wp2_with fail
            go_quiet (fail)
            go_wp2_with fail
            refine bodyPost_ret (results_tmp4 (by rfl) _ _ _) rfl ?_
            exact ⟨rfl, only_drewN HR.out.1.2.2.2.2.2 _⟩
          have hzlt : zs.length < 32768 := by omega
          have hzn : ((zs.length : Int) == 32768) = false := by rw [beq_eq_false_iff_ne]; omega
          clear hq
          have HUE := Lib.hid huneq
          clear hab huneq
          go_wp2_with fail
          go_quiet (fail)
          obtain ⟨q1, hq1⟩ : ∃ q1, q1 = nq := ⟨_, rfl⟩
          rw [← hq1]
          clear hq1 nq
          go_wp2_with fail
          go_quiet (fail)
          have HRq := Lib.hid (HR.out.1.drewN (q1 + nq))
          have hszq : w.heap.size ≤ (wr.drewN (q1 + nq)).heap.size := hsz
          go_wp2_with (first | (have tk := S1; at_builtin; refine wpList_append1 rfl _ _ 34 rfl w.heap.size Try.underlying34 intInfo rfl (by decide) (v := _) (by rfl) (w0 := _) (cs := #[.int .i64 (zs.length : Int)]) S1.out.2.1 (by rfl) rfl (by simp [Value.oneCell']) (by decide) (by omega) (by omega) ?_; intro v2 w2 hv2 hg2 hob2; have S2 := Lib.hid (S1.out.setx hv2 hg2 hob2); have hz2 := S2.out.2.2.2.2.2.size; clear hv2 hg2 hob2 tk) | (at_builtin; refine wpList_append1 rfl _ _ 26 rfl w.heap.size Try.underlying26 strInfo rfl (by decide) (v := _) (by rfl) (w0 := _) (cs := #[.string sx]) HRq.out.1 (by rfl) rfl (by simp [Value.oneCell']) (by decide) (by omega) (by omega) ?_; intro v1 w1 hv1 hg1 hob1; have S1 := Lib.hid (Six.seto HRq.out HRq.out.1 rfl hv1 hg1); have hz1 := S1.out.2.2.2.2.2.size; clear hv1 hg1 hob1))
          have hfin : MgRel w a b (i + 1) k _ _ _ _ _ _ _ := ⟨S2.out, by rw [List.append_assoc, List.singleton_append, ← HUE.out]; exact HEQ.out, by simp [HXL.out], HYL.out, HIX.out.snoc (by rw [HXL.out]; exact hsx.out), HIY.out.more sx⟩
          clear S1 S2
          go_wp2_with fail
          go_roundw
          case rel => exact ⟨i + 1, k, _, _, _, by omega, hk, by go_num, rfl, by simp; omega, hfin⟩
          case measure => simp [intOf]; omega
        · have hab' : sl sx sy = false := by simpa using hab
          have t3 : Op.bytesLess sx.toList sy.toList = false := hab'
          clear hab
          by_cases hba : sl sy sx = true
          · have t4 : Op.bytesLess sy.toList sx.toList = true := hba
            have t5 : (sx.toList == sy.toList) = false := by rw [beq_eq_false_iff_ne]; intro e; rw [e, bl_irrefl] at t4; cases t4
            have huneq := un_b hsy.out (.inr ⟨sx, hsx.out, hab', hba⟩)
            by_cases hq : zs.length = 32768
            · have hzn : ((zs.length : Int) == 32768) = true := by simp [hq]
              clear hq hab' hba huneq
              go_wp2_with fail
              go_quiet (fail)
              obtain ⟨q1, hq1⟩ : ∃ q1, q1 = nq := ⟨_, rfl⟩
              rw [← hq1]
              clear hq1 nq
              go_wp2_with fail
              go_quiet (fail)
              go_wp2_with fail
              refine bodyPost_ret (results_tmp4 (by rfl) _ _ _) rfl ?_
              exact ⟨rfl, only_drewN HR.out.1.2.2.2.2.2 _⟩
            have hzlt : zs.length < 32768 := by omega
            have hzn : ((zs.length : Int) == 32768) = false := by rw [beq_eq_false_iff_ne]; omega
            clear hq
            have HUE := Lib.hid huneq
            clear hab' hba huneq
            go_wp2_with fail
            go_quiet (fail)
            obtain ⟨q1, hq1⟩ : ∃ q1, q1 = nq := ⟨_, rfl⟩
            rw [← hq1]
            clear hq1 nq
            go_wp2_with fail
            go_quiet (fail)
            have HRq := Lib.hid (HR.out.1.drewN (q1 + nq))
            have hszq : w.heap.size ≤ (wr.drewN (q1 + nq)).heap.size := hsz
            have hcoi : (zs.length : Int) ≤ (co : Int) := by omega
            have hkbi : (k : Int) < (b.length : Int) := by omega
            go_wp2_with fail
            go_region_law (first | (go_must (refine step_append1 rfl _ _ 26 rfl w.heap.size Try.underlying26 strInfo rfl (by decide) (v := _) (by rfl) (w0 := (wr.drewN (q1 + nq))) (cs := #[.string sy]) (by rfl) (by rfl) (by rfl) (by rfl) HRq.out.1 (by rfl) rfl (by simp [Value.oneCell']) (by decide) (by omega) (by omega) ?_); intro v1 w1 hv1 hg1 hob1; have S1 := Lib.hid (Six.seto HRq.out HRq.out.1 rfl hv1 hg1); have hz1 := S1.out.2.2.2.2.2.size; clear hv1 hg1 hob1))
            all_goals
              go_wp2_with (first | (have tk := S1; at_builtin; refine wpList_append1 rfl _ _ 34 rfl w.heap.size Try.underlying34 intInfo rfl (by decide) (v := _) (by rfl) (w0 := _) (cs := #[.int .i64 (zs.length : Int)]) S1.out.2.2.1 (by rfl) rfl (by simp [Value.oneCell']) (by decide) (by omega) (by omega) ?_; intro v2 w2 hv2 hg2 hob2; have S2 := Lib.hid (S1.out.sety hv2 hg2 hob2); have hz2 := S2.out.2.2.2.2.2.size; clear hv2 hg2 hob2 tk))
              have hfin : MgRel w a b i (k + 1) _ _ _ _ _ _ _ := ⟨S2.out, by rw [List.append_assoc, List.singleton_append, ← HUE.out]; exact HEQ.out, HXL.out, by simp [HYL.out], HIX.out.more sy, HIY.out.snoc (by rw [HYL.out]; exact hsy.out)⟩
              clear S1 S2
              go_wp2_with fail
              go_roundw
              case rel => exact ⟨i, k + 1, _, _, _, hi, by omega, rfl, by go_num, by simp; omega, hfin⟩
              case measure => simp [intOf]; omega
          · have hba' : sl sy sx = false := by simpa using hba
            have t4 : Op.bytesLess sy.toList sx.toList = false := hba'
            have hxy : sx = sy := sl_tri hab' hba'
            have t5 : (sx.toList == sy.toList) = true := by simp [hxy]
            have t6 : (sy.toList == sx.toList) = true := by simp [hxy]
            have huneq := un_ab hsx.out hsy.out hab' hba'
            by_cases hq : zs.length = 32768
            · have hzn : ((zs.length : Int) == 32768) = true := by simp [hq]
              clear hq hab' hba hba' huneq hxy
              go_wp2_with fail
              go_quiet (fail)
              obtain ⟨q1, hq1⟩ : ∃ q1, q1 = nq := ⟨_, rfl⟩
              rw [← hq1]
              clear hq1 nq
              go_wp2_with fail
              go_quiet (fail)
              go_wp2_with fail
              refine bodyPost_ret (results_tmp4 (by rfl) _ _ _) rfl ?_
              exact ⟨rfl, only_drewN HR.out.1.2.2.2.2.2 _⟩
            have hzlt : zs.length < 32768 := by omega
            have hzn : ((zs.length : Int) == 32768) = false := by rw [beq_eq_false_iff_ne]; omega
            clear hq
            have HUE := Lib.hid huneq
            have HXY := Lib.hid hxy
            clear hab' hba hba' huneq hxy
            go_wp2_with fail
            go_quiet (fail)
            obtain ⟨q1, hq1⟩ : ∃ q1, q1 = nq := ⟨_, rfl⟩
            rw [← hq1]
            clear hq1 nq
            go_wp2_with fail
            go_quiet (fail)
            have HRq := Lib.hid (HR.out.1.drewN (q1 + nq))
            have hszq : w.heap.size ≤ (wr.drewN (q1 + nq)).heap.size := hsz
            have hkbi : (k : Int) < (b.length : Int) := by omega
            go_wp2_with (first | (have tk := S1; at_builtin; refine wpList_append1 rfl _ _ 34 rfl w.heap.size Try.underlying34 intInfo rfl (by decide) (v := _) (by rfl) (w0 := _) (cs := #[.int .i64 (zs.length : Int)]) S1.out.2.1 (by rfl) rfl (by simp [Value.oneCell']) (by decide) (by omega) (by omega) ?_; intro v2 w2 hv2 hg2 hob2; have S2 := Lib.hid (S1.out.setx hv2 hg2 hob2); have hz2 := S2.out.2.2.2.2.2.size; clear hv2 hg2 hob2 tk) | (at_builtin; refine wpList_append1 rfl _ _ 26 rfl w.heap.size Try.underlying26 strInfo rfl (by decide) (v := _) (by rfl) (w0 := _) (cs := #[.string sx]) HRq.out.1 (by rfl) rfl (by simp [Value.oneCell']) (by decide) (by omega) (by omega) ?_; intro v1 w1 hv1 hg1 hob1; have hS1 := Six.seto HRq.out HRq.out.1 rfl hv1 hg1; clear hv1 hg1 hob1; obtain ⟨A1, c1, rfl, hc1, -, -, -⟩ := Rd.of_own hS1.1 (by decide); have S1 := Lib.hid hS1; have hz1 := hS1.2.2.2.2.2.size; clear hS1))
            have hcoi : (zs.length : Int) ≤ (c1 : Int) := by simp at hc1; omega
            have HT : Hid (w2.ownsRow w.heap.size 9 1 (.slice A1 zs.length c1) zs.length (zs.map .string)) := by
              have := own_take S2.out.1 (k := zs.length) (by simp) (by simp)
              show w2.ownsRow w.heap.size 9 1 (.slice A1 zs.length c1) zs.length (zs.map .string)
              simpa using this
            have hcb2 := Rd.str_cell (HB.out.grown S2.out.2.2.2.2.2 (by simp)) hsy.out
            go_wp2_with fail
            go_region_law (first | (go_must (refine step_append1 rfl _ _ 26 rfl w.heap.size Try.underlying26 strInfo rfl (by decide) (v := _) (by rfl) (w0 := w2) (cs := #[.string sy]) (by rfl) (by rfl) (by rfl) (by rfl) HT.out (by rfl) rfl (by simp [Value.oneCell']) (by decide) (by omega) (by omega) ?_); intro v3 w3 hv3 hg3 hob3; go_must (have S3 := Lib.hid (Six.seto S2.out HT.out (by cases A1 <;> rfl) hv3 hg3)); have hz3 := S3.out.2.2.2.2.2.size; clear hv3 hg3 hob3))
            all_goals
              go_wp2_with (first | (have tk := S3; at_builtin; refine wpList_append1 rfl _ _ 34 rfl w.heap.size Try.underlying34 intInfo rfl (by decide) (v := _) (by rfl) (w0 := _) (cs := #[.int .i64 (zs.length : Int)]) S3.out.2.2.1 (by rfl) rfl (by simp [Value.oneCell']) (by decide) (by omega) (by omega) ?_; intro v4 w4 hv4 hg4 hob4; have S4 := Lib.hid (S3.out.sety hv4 hg4 hob4); have hz4 := S4.out.2.2.2.2.2.size; clear hv4 hg4 hob4 tk))
              have hfin : MgRel w a b (i + 1) (k + 1) _ _ _ _ _ _ _ := ⟨S4.out, by rw [List.append_assoc, List.singleton_append, ← HXY.out, ← HUE.out]; exact HEQ.out, by simp [HXL.out], by simp [HYL.out], by rw [← HXY.out]; exact HIX.out.snoc (by rw [HXL.out]; exact hsx.out), HIY.out.snoc (by rw [HYL.out]; exact hsy.out)⟩
              clear S1 S2 S3 S4 HT
              go_wp2_with fail
              go_roundw
              case rel => exact ⟨i + 1, k + 1, _, _, _, by omega, by omega, by go_num, by go_num, by simp; omega, hfin⟩
              case measure => simp [intOf]; omega
      · have t1 : ((k : Int) == (b.length : Int)) = true := by rw [beq_iff_eq]; omega
        have t2 : ((i : Int) == (a.length : Int)) = false := by rw [beq_eq_false_iff_ne]; omega
        have td : decide ((k : Int) < (b.length : Int)) = false := by simp; omega
        have huneq := un_a hsx.out (.inl (List.drop_of_length_le (by omega) : b.drop k = []))
        by_cases hq : zs.length = 32768
        · have hzn : ((zs.length : Int) == 32768) = true := by simp [hq]
          clear hq hRA hRB huneq
          go_wp2_with fail
          go_quiet (fail)
          obtain ⟨q1, hq1⟩ : ∃ q1, q1 = nq := ⟨_, rfl⟩
          rw [← hq1]
          clear hq1 nq
          go_wp2_with fail
          go_quiet (fail)
          go_wp2_with fail
          refine bodyPost_ret (results_tmp4 (by rfl) _ _ _) rfl ?_
          exact ⟨rfl, only_drewN HR.out.1.2.2.2.2.2 _⟩
        have hzlt : zs.length < 32768 := by omega
        have hzn : ((zs.length : Int) == 32768) = false := by rw [beq_eq_false_iff_ne]; omega
        clear hq
        have HUE := Lib.hid huneq
        clear hRA hRB huneq
        go_wp2_with fail
        go_quiet (fail)
        obtain ⟨q1, hq1⟩ : ∃ q1, q1 = nq := ⟨_, rfl⟩
        rw [← hq1]
        clear hq1 nq
        go_wp2_with fail
        go_quiet (fail)
        have HRq := Lib.hid (HR.out.1.drewN (q1 + nq))
        have hszq : w.heap.size ≤ (wr.drewN (q1 + nq)).heap.size := hsz
        go_wp2_with (first | (have tk := S1; at_builtin; refine wpList_append1 rfl _ _ 34 rfl w.heap.size Try.underlying34 intInfo rfl (by decide) (v := _) (by rfl) (w0 := _) (cs := #[.int .i64 (zs.length : Int)]) S1.out.2.1 (by rfl) rfl (by simp [Value.oneCell']) (by decide) (by omega) (by omega) ?_; intro v2 w2 hv2 hg2 hob2; have S2 := Lib.hid (S1.out.setx hv2 hg2 hob2); have hz2 := S2.out.2.2.2.2.2.size; clear hv2 hg2 hob2 tk) | (at_builtin; refine wpList_append1 rfl _ _ 26 rfl w.heap.size Try.underlying26 strInfo rfl (by decide) (v := _) (by rfl) (w0 := _) (cs := #[.string sx]) HRq.out.1 (by rfl) rfl (by simp [Value.oneCell']) (by decide) (by omega) (by omega) ?_; intro v1 w1 hv1 hg1 hob1; have S1 := Lib.hid (Six.seto HRq.out HRq.out.1 rfl hv1 hg1); have hz1 := S1.out.2.2.2.2.2.size; clear hv1 hg1 hob1))
        have hfin : MgRel w a b (i + 1) k _ _ _ _ _ _ _ := ⟨S2.out, by rw [List.append_assoc, List.singleton_append, ← HUE.out]; exact HEQ.out, by simp [HXL.out], HYL.out, HIX.out.snoc (by rw [HXL.out]; exact hsx.out), HIY.out.more sx⟩
        clear S1 S2
        go_wp2_with fail
        go_roundw
        case rel => exact ⟨i + 1, k, _, _, _, by omega, hk, by go_num, rfl, by simp; omega, hfin⟩
        case measure => simp [intOf]; omega
    · by_cases hkb : k < b.length
      · obtain ⟨bb, ob, sy, rfl, hcb, hsy⟩ := hRB.str_at hkb
        have t1 : ((k : Int) == (b.length : Int)) = false := by rw [beq_eq_false_iff_ne]; omega
        have t2 : ((i : Int) == (a.length : Int)) = true := by rw [beq_iff_eq]; omega
        have td : decide ((i : Int) < (a.length : Int)) = false := by simp; omega
        have huneq := un_b hsy.out (.inl (List.drop_of_length_le (by omega) : a.drop i = []))
        by_cases hq : zs.length = 32768
        · have hzn : ((zs.length : Int) == 32768) = true := by simp [hq]
          clear hq hRA hRB huneq
          go_wp2_with fail
          go_quiet (fail)
          obtain ⟨q1, hq1⟩ : ∃ q1, q1 = nq := ⟨_, rfl⟩
          rw [← hq1]
          clear hq1 nq
          go_wp2_with fail
          go_quiet (fail)
          go_wp2_with fail
          refine bodyPost_ret (results_tmp4 (by rfl) _ _ _) rfl ?_
          exact ⟨rfl, only_drewN HR.out.1.2.2.2.2.2 _⟩
        have hzlt : zs.length < 32768 := by omega
        have hzn : ((zs.length : Int) == 32768) = false := by rw [beq_eq_false_iff_ne]; omega
        clear hq
        have HUE := Lib.hid huneq
        clear hRA hRB huneq
        go_wp2_with fail
        go_quiet (fail)
        obtain ⟨q1, hq1⟩ : ∃ q1, q1 = nq := ⟨_, rfl⟩
        rw [← hq1]
        clear hq1 nq
        go_wp2_with fail
        go_quiet (fail)
        have HRq := Lib.hid (HR.out.1.drewN (q1 + nq))
        have hszq : w.heap.size ≤ (wr.drewN (q1 + nq)).heap.size := hsz
        have hcoi : (zs.length : Int) ≤ (co : Int) := by omega
        have hkbi : (k : Int) < (b.length : Int) := by omega
        go_wp2_with fail
        go_region_law (first | (go_must (refine step_append1 rfl _ _ 26 rfl w.heap.size Try.underlying26 strInfo rfl (by decide) (v := _) (by rfl) (w0 := (wr.drewN (q1 + nq))) (cs := #[.string sy]) (by rfl) (by rfl) (by rfl) (by rfl) HRq.out.1 (by rfl) rfl (by simp [Value.oneCell']) (by decide) (by omega) (by omega) ?_); intro v1 w1 hv1 hg1 hob1; have S1 := Lib.hid (Six.seto HRq.out HRq.out.1 rfl hv1 hg1); have hz1 := S1.out.2.2.2.2.2.size; clear hv1 hg1 hob1))
        all_goals
          go_wp2_with (first | (have tk := S1; at_builtin; refine wpList_append1 rfl _ _ 34 rfl w.heap.size Try.underlying34 intInfo rfl (by decide) (v := _) (by rfl) (w0 := _) (cs := #[.int .i64 (zs.length : Int)]) S1.out.2.2.1 (by rfl) rfl (by simp [Value.oneCell']) (by decide) (by omega) (by omega) ?_; intro v2 w2 hv2 hg2 hob2; have S2 := Lib.hid (S1.out.sety hv2 hg2 hob2); have hz2 := S2.out.2.2.2.2.2.size; clear hv2 hg2 hob2 tk))
          have hfin : MgRel w a b i (k + 1) _ _ _ _ _ _ _ := ⟨S2.out, by rw [List.append_assoc, List.singleton_append, ← HUE.out]; exact HEQ.out, HXL.out, by simp [HYL.out], HIX.out.more sy, HIY.out.snoc (by rw [HYL.out]; exact hsy.out)⟩
          clear S1 S2
          go_wp2_with fail
          go_roundw
          case rel => exact ⟨i, k + 1, _, _, _, hi, by omega, rfl, by go_num, by simp; omega, hfin⟩
          case measure => simp [intOf]; omega
      · exfalso
        have hfin : zs = un a b := by rw [← HEQ.out, List.drop_of_length_le (by omega), List.drop_of_length_le (by omega)]; simp [un]
        have := HUN.out
        rw [← hfin] at this
        omega
end Go.Proofs.Ytgaomilmljepoaa
