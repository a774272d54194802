/- Merge of dictionaries. Conditions: at most 32768 words in the result. -/
import Derived.Test.YtgaomilmljepoaaUnion
import Derived.Deep.DeepMust
namespace Go.Proofs.Ytgaomilmljepoaa
open Go.RowKit
set_option linter.unusedVariables false
set_option linter.unusedSimpArgs false

theorem own_take {w : World} {base e size n k c : Nat} {A : Option Addr} {xs : List Value} (h : w.ownsRow base e size (.slice A n c) n xs) (hk : k ≤ n) (hA : 0 < n) : w.ownsRow base e size (.slice A k c) k (xs.take (k * size)) := by
  obtain ⟨hl, h2⟩ := h
  have hkn : k * size ≤ n * size := Nat.mul_le_mul_right _ hk
  refine ⟨by rw [List.length_take, hl, Nat.min_eq_left hkn], ?_⟩
  rcases h2 with ⟨h3, h4⟩ | ⟨g, cap, cur, h3, h4, h5, h6, h7, h8, h9⟩
  · omega
  · injection h3 with e1 e2 e3
    subst e1 e3
    exact .inr ⟨g, c, cur, rfl, h4, h5, by omega, h7, h8, by rw [← h9, List.take_take, Nat.min_eq_left hkn]⟩

/-- indexes of the first words of a in z -/
def Ixs (xs : List Int) (zs a : List ByteArray) : Prop := ∀ (j : Nat) (n : Int), xs[j]? = some n → ∃ m : Nat, n = (m : Int) ∧ ∃ s, zs[m]? = some s ∧ a[j]? = some s
theorem Ixs.nil (zs a : List ByteArray) : Ixs [] zs a := fun j n h => by simp at h
theorem Ixs.more {xs : List Int} {zs a : List ByteArray} (h : Ixs xs zs a) (s : ByteArray) : Ixs xs (zs ++ [s]) a := fun j n hj => by
  obtain ⟨m, hm, t, ht, ha⟩ := h j n hj
  exact ⟨m, hm, t, by rw [List.getElem?_append_left (List.getElem?_eq_some_iff.1 ht).1]; exact ht, ha⟩
theorem Ixs.snoc {xs : List Int} {zs a : List ByteArray} (h : Ixs xs zs a) {s : ByteArray} (hs : a[xs.length]? = some s) : Ixs (xs ++ [(zs.length : Int)]) (zs ++ [s]) a := fun j n hj => by
  rcases Nat.lt_or_ge j xs.length with hlt | hge
  · rw [List.getElem?_append_left hlt] at hj
    exact h.more s j n hj
  · have hl := (List.getElem?_eq_some_iff.1 hj).1
    simp at hl
    obtain rfl : j = xs.length := by omega
    rw [List.getElem?_append_right (Nat.le_refl _)] at hj
    simp at hj
    exact ⟨zs.length, hj.symm, s, by simp, hs⟩
def MgRel (w : World) (a b : List ByteArray) (i k : Nat) (o x y : Value) (zs : List ByteArray) (xs ys : List Int) (wr : World) : Prop :=
  Six w o x y zs xs ys wr ∧ zs ++ un (a.drop i) (b.drop k) = un a b ∧ xs.length = i ∧ ys.length = k ∧ Ixs xs zs a ∧ Ixs ys zs b
def MgPost (w : World) (a b : List ByteArray) (e : Ending) (w' : World) : Prop :=
  ∃ (A B C : Option Addr) (c d f : Nat) (xs ys : List Int), e = .returned (.tuple #[.slice A (un a b).length c, .slice B a.length d, .slice C b.length f, .int .i64 0]) ∧ xs.length = a.length ∧ ys.length = b.length ∧ Ixs xs (un a b) a ∧ Ixs ys (un a b) b ∧
    (un a b).length ≤ c ∧ c ≤ maxLen ∧ Rd (w.heap.size ≤ ·) w' A ((un a b).map .string) ∧ Rd (w.heap.size ≤ ·) w' B (xs.map (.int .i64)) ∧ Rd (w.heap.size ≤ ·) w' C (ys.map (.int .i64)) ∧ w.grownBy w' none

theorem results_tmp4 {fn : Func} {t u v x : Tmp} (h : fn.results = #[.tmp t, .tmp u, .tmp v, .tmp x]) (tmps : Array Value) (P : Program) (w : World) :
    (results fn tmps).run P w = .ok (.tuple #[tmps.getD t undef, tmps.getD u undef, tmps.getD v undef, tmps.getD x undef]) w := by simp [results, h]
theorem Six.drewN {w wr : World} {o x y : Value} {zs : List ByteArray} {xs ys : List Int} (h : Six w o x y zs xs ys wr) (n : Nat) : Six w o x y zs xs ys (wr.drewN n) := ⟨h.1, h.2.1, h.2.2.1, h.2.2.2.1, h.2.2.2.2.1, only_drewN h.2.2.2.2.2 n⟩
theorem Six.seto {w w1 w2 : World} {o o' x y v : Value} {zs us : List ByteArray} {xs ys : List Int} {z : ByteArray} (h : Six w o x y us xs ys w1) (ho : w1.ownsRow w.heap.size 9 1 o' zs.length (zs.map .string)) (hoo : o'.ownBlock = o.ownBlock)
    (hv : w2.ownsRow w.heap.size 9 1 v (zs.length + 1) (zs.map .string ++ #[Value.string z].toList)) (hg : w1.grownBy w2 o'.ownBlock) : Six w v x y (zs ++ [z]) xs ys w2 := by
  obtain ⟨s1, s2, s3, s4, s5, s6⟩ := h
  exact ⟨own_snoc_str hv, s2.kept hg (own_ne s2 ho (by decide)), s3.kept hg (own_ne s3 ho (by decide)), s4, s5, only_own s6 hg ho (Nat.le_refl _)⟩

set_option maxHeartbeats 4000000 in
set_option maxRecDepth 100000 in
theorem merge_any {S S' : Nat → Prop} (A B : Option Addr) (a b : List ByteArray) (c d : Nat) (w : World) (ha : Rd S w A (a.map .string)) (hb : Rd S' w B (b.map .string)) (hl : a.length ≤ 1000000) (hl2 : b.length ≤ 1000000) (hun : (un a b).length ≤ 32768) :
    Calls Try.prog 18 #[.slice A a.length c, .slice B b.length d] w (MgPost w a b) := by
  have HA := Lib.hid (ha.mono (S' := (· < w.heap.size)) (fun _ _ h => h))
  have HB := Lib.hid (hb.mono (S' := (· < w.heap.size)) (fun _ _ h => h))
  have HUN := Lib.hid hun
  clear ha hb hun
  go_enter Try.func18, Try.ntmps18
  go_wp2_with fail
  go_loopw [4, 5, 6, 8, 9] (fun o x y i' k' wr => ∃ (i k : Nat) (zs : List ByteArray) (xs ys : List Int), i ≤ a.length ∧ k ≤ b.length ∧ i' = .int .i64 i ∧ k' = .int .i64 k ∧ MgRel w a b i k o x y zs xs ys wr) (fun _ _ _ i' k' _ => (a.length - (intOf i').toNat) + (b.length - (intOf k').toNat))
  case atStart => exact ⟨0, 0, [], [], [], Nat.zero_le _, Nat.zero_le _, rfl, rfl, ⟨World.ownsRow_nil _ _ _ _, World.ownsRow_nil _ _ _ _, World.ownsRow_nil _ _ _ _, .inl rfl, .inl rfl, only_refl _ _⟩, by simp, rfl, rfl, Ixs.nil _ _, Ixs.nil _ _⟩
  case round =>
    obtain ⟨i, k, zs, xs, ys, hi, hk, rfl, rfl, hR⟩ := hrel
    have HR := Lib.hid hR
    obtain ⟨⟨ho, hx, hy, hxy, hyx, hG⟩, heq, hxl, hyl, hix, hiy⟩ := hR
    have hsz := hG.size
    have hRA := (HA.out.grown hG (by simp))
    have hRB := (HB.out.grown hG (by simp))
    obtain ⟨AO, co, rfl, hco, hcom, -, hro⟩ := Rd.of_own ho (by decide)
    obtain ⟨AX, cx, rfl, hcx, hcxm, -, hrx⟩ := Rd.of_own hx (by decide)
    obtain ⟨AY, cy, rfl, hcy, hcym, -, hry⟩ := Rd.of_own hy (by decide)
    have HC := Lib.hid (And.intro hcom (And.intro hro (And.intro hrx hry)))
    have HEQ := Lib.hid heq
    have HXL := Lib.hid hxl
    have HYL := Lib.hid hyl
    have HIX := Lib.hid hix
    have HIY := Lib.hid hiy
    have hzl : zs.length + (un (a.drop i) (b.drop k)).length ≤ 32768 := by have := HUN.out; rw [← heq, List.length_append] at this; exact this
    have hx1 : xs.length ≤ i := by omega
    have hy1 : ys.length ≤ k := by omega
    clear hG hro hrx hry heq hxy hyx hxl hyl hix hiy hcom hcxm hcym ho hx hy
    by_cases hia : i < a.length
    · obtain ⟨ba, oa, sx, rfl, hca, hsx⟩ := hRA.str_at hia
      by_cases hkb : k < b.length
      · obtain ⟨bb, ob, sy, rfl, hcb, hsy⟩ := hRB.str_at hkb
        clear hRA hRB
        have t1 : ((k : Int) == (b.length : Int)) = false := by rw [beq_eq_false_iff_ne]; omega
        have t2 : ((i : Int) == (a.length : Int)) = false := by rw [beq_eq_false_iff_ne]; omega
        by_cases hab : sl sx sy = true
        · have t3 : Op.bytesLess sx.toList sy.toList = true := hab
          have t4 : Op.bytesLess sy.toList sx.toList = false := sl_asymm hab
          have t5 : (sy.toList == sx.toList) = false := by rw [beq_eq_false_iff_ne]; intro e; rw [e, bl_irrefl] at t3; cases t3
          have huneq := un_a hsx.out (.inr ⟨sy, hsy.out, hab⟩)
          have hzn : ((zs.length : Int) == 32768) = false := by rw [beq_eq_false_iff_ne]; rw [huneq] at hzl; simp at hzl; omega
          have hzb : zs.length ≤ 32768 := by omega
          have HUE := Lib.hid huneq
          clear hab huneq hzl
          go_wp2_with fail
          go_quiet (fail)
          obtain ⟨q1, hq1⟩ : ∃ q1, q1 = nq := ⟨_, rfl⟩
          rw [← hq1]
          clear hq1 nq
          go_wp2_with fail
          go_quiet (fail)
          have HRq := Lib.hid (HR.out.1.drewN (q1 + nq))
          have hszq : w.heap.size ≤ (wr.drewN (q1 + nq)).heap.size := hsz
          go_wp2_with (first | (have tk := S1; at_builtin; refine wpList_append1 rfl _ _ 34 rfl w.heap.size Try.underlying34 intInfo rfl (by decide) (v := _) (by rfl) (w0 := _) (cs := #[.int .i64 (zs.length : Int)]) S1.out.2.1 (by rfl) rfl (by simp [Value.oneCell']) (by decide) (by omega) (by omega) ?_; intro v2 w2 hv2 hg2 hob2; have S2 := Lib.hid (S1.out.setx hv2 hg2 hob2); have hz2 := S2.out.2.2.2.2.2.size; clear hv2 hg2 hob2 tk) | (at_builtin; refine wpList_append1 rfl _ _ 26 rfl w.heap.size Try.underlying26 strInfo rfl (by decide) (v := _) (by rfl) (w0 := _) (cs := #[.string sx]) HRq.out.1 (by rfl) rfl (by simp [Value.oneCell']) (by decide) (by omega) (by omega) ?_; intro v1 w1 hv1 hg1 hob1; have S1 := Lib.hid (Six.seto HRq.out HRq.out.1 rfl hv1 hg1); have hz1 := S1.out.2.2.2.2.2.size; clear hv1 hg1 hob1))
          have hfin : MgRel w a b (i + 1) k _ _ _ _ _ _ _ := ⟨S2.out, by rw [List.append_assoc, List.singleton_append, ← HUE.out]; exact HEQ.out, by simp [HXL.out], HYL.out, HIX.out.snoc (by rw [HXL.out]; exact hsx.out), HIY.out.more sx⟩
          clear S1 S2
          go_wp2_with fail
          go_roundw
          case rel => exact ⟨i + 1, k, _, _, _, by omega, hk, by go_num, rfl, hfin⟩
          case measure => simp [intOf]; omega
        · have hab' : sl sx sy = false := by simpa using hab
          have t3 : Op.bytesLess sx.toList sy.toList = false := hab'
          clear hab
          by_cases hba : sl sy sx = true
          · have t4 : Op.bytesLess sy.toList sx.toList = true := hba
            have t5 : (sx.toList == sy.toList) = false := by rw [beq_eq_false_iff_ne]; intro e; rw [e, bl_irrefl] at t4; cases t4
            have huneq := un_b hsy.out (.inr ⟨sx, hsx.out, hab', hba⟩)
            have hzn : ((zs.length : Int) == 32768) = false := by rw [beq_eq_false_iff_ne]; rw [huneq] at hzl; simp at hzl; omega
            have hzb : zs.length ≤ 32768 := by omega
            have HUE := Lib.hid huneq
            clear hab' hba huneq hzl
            go_wp2_with fail
            go_quiet (fail)
            obtain ⟨q1, hq1⟩ : ∃ q1, q1 = nq := ⟨_, rfl⟩
            rw [← hq1]
            clear hq1 nq
            go_wp2_with fail
            go_quiet (fail)
            have HRq := Lib.hid (HR.out.1.drewN (q1 + nq))
            have hszq : w.heap.size ≤ (wr.drewN (q1 + nq)).heap.size := hsz
            have hcoi : (zs.length : Int) ≤ (co : Int) := by omega
            have hkbi : (k : Int) < (b.length : Int) := by omega
            go_wp2_with fail
            go_region_law (first | (go_must (refine step_append1 rfl _ _ 26 rfl w.heap.size Try.underlying26 strInfo rfl (by decide) (v := _) (by rfl) (w0 := (wr.drewN (q1 + nq))) (cs := #[.string sy]) (by rfl) (by rfl) (by rfl) (by rfl) HRq.out.1 (by rfl) rfl (by simp [Value.oneCell']) (by decide) (by omega) (by omega) ?_); intro v1 w1 hv1 hg1 hob1; have S1 := Lib.hid (Six.seto HRq.out HRq.out.1 rfl hv1 hg1); have hz1 := S1.out.2.2.2.2.2.size; clear hv1 hg1 hob1))
            all_goals
              go_wp2_with (first | (have tk := S1; at_builtin; refine wpList_append1 rfl _ _ 34 rfl w.heap.size Try.underlying34 intInfo rfl (by decide) (v := _) (by rfl) (w0 := _) (cs := #[.int .i64 (zs.length : Int)]) S1.out.2.2.1 (by rfl) rfl (by simp [Value.oneCell']) (by decide) (by omega) (by omega) ?_; intro v2 w2 hv2 hg2 hob2; have S2 := Lib.hid (S1.out.sety hv2 hg2 hob2); have hz2 := S2.out.2.2.2.2.2.size; clear hv2 hg2 hob2 tk))
              have hfin : MgRel w a b i (k + 1) _ _ _ _ _ _ _ := ⟨S2.out, by rw [List.append_assoc, List.singleton_append, ← HUE.out]; exact HEQ.out, HXL.out, by simp [HYL.out], HIX.out.more sy, HIY.out.snoc (by rw [HYL.out]; exact hsy.out)⟩
              clear S1 S2
              go_wp2_with fail
              go_roundw
              case rel => exact ⟨i, k + 1, _, _, _, hi, by omega, rfl, by go_num, hfin⟩
              case measure => simp [intOf]; omega
          · have hba' : sl sy sx = false := by simpa using hba
            have t4 : Op.bytesLess sy.toList sx.toList = false := hba'
            have hxy : sx = sy := sl_tri hab' hba'
            have t5 : (sx.toList == sy.toList) = true := by simp [hxy]
            have t6 : (sy.toList == sx.toList) = true := by simp [hxy]
            have huneq := un_ab hsx.out hsy.out hab' hba'
            have hzn : ((zs.length : Int) == 32768) = false := by rw [beq_eq_false_iff_ne]; rw [huneq] at hzl; simp at hzl; omega
            have hzb : zs.length ≤ 32768 := by omega
            have HUE := Lib.hid huneq
            have HXY := Lib.hid hxy
            clear hab' hba hba' huneq hzl hxy
            go_wp2_with fail
            go_quiet (fail)
            obtain ⟨q1, hq1⟩ : ∃ q1, q1 = nq := ⟨_, rfl⟩
            rw [← hq1]
            clear hq1 nq
            go_wp2_with fail
            go_quiet (fail)
            have HRq := Lib.hid (HR.out.1.drewN (q1 + nq))
            have hszq : w.heap.size ≤ (wr.drewN (q1 + nq)).heap.size := hsz
            have hkbi : (k : Int) < (b.length : Int) := by omega
            go_wp2_with (first | (have tk := S1; at_builtin; refine wpList_append1 rfl _ _ 34 rfl w.heap.size Try.underlying34 intInfo rfl (by decide) (v := _) (by rfl) (w0 := _) (cs := #[.int .i64 (zs.length : Int)]) S1.out.2.1 (by rfl) rfl (by simp [Value.oneCell']) (by decide) (by omega) (by omega) ?_; intro v2 w2 hv2 hg2 hob2; have S2 := Lib.hid (S1.out.setx hv2 hg2 hob2); have hz2 := S2.out.2.2.2.2.2.size; clear hv2 hg2 hob2 tk) | (at_builtin; refine wpList_append1 rfl _ _ 26 rfl w.heap.size Try.underlying26 strInfo rfl (by decide) (v := _) (by rfl) (w0 := _) (cs := #[.string sx]) HRq.out.1 (by rfl) rfl (by simp [Value.oneCell']) (by decide) (by omega) (by omega) ?_; intro v1 w1 hv1 hg1 hob1; have hS1 := Six.seto HRq.out HRq.out.1 rfl hv1 hg1; clear hv1 hg1 hob1; obtain ⟨A1, c1, rfl, hc1, -, -, -⟩ := Rd.of_own hS1.1 (by decide); have S1 := Lib.hid hS1; have hz1 := hS1.2.2.2.2.2.size; clear hS1))
            have hcoi : (zs.length : Int) ≤ (c1 : Int) := by simp at hc1; omega
            have HT : Hid (w2.ownsRow w.heap.size 9 1 (.slice A1 zs.length c1) zs.length (zs.map .string)) := by
              have := own_take S2.out.1 (k := zs.length) (by simp) (by simp)
              show w2.ownsRow w.heap.size 9 1 (.slice A1 zs.length c1) zs.length (zs.map .string)
              simpa using this
            have hcb2 := Rd.str_cell (HB.out.grown S2.out.2.2.2.2.2 (by simp)) hsy.out
            go_wp2_with fail
            go_region_law (first | (go_must (refine step_append1 rfl _ _ 26 rfl w.heap.size Try.underlying26 strInfo rfl (by decide) (v := _) (by rfl) (w0 := w2) (cs := #[.string sy]) (by rfl) (by rfl) (by rfl) (by rfl) HT.out (by rfl) rfl (by simp [Value.oneCell']) (by decide) (by omega) (by omega) ?_); intro v3 w3 hv3 hg3 hob3; go_must (have S3 := Lib.hid (Six.seto S2.out HT.out (by cases A1 <;> rfl) hv3 hg3)); have hz3 := S3.out.2.2.2.2.2.size; clear hv3 hg3 hob3))
            all_goals
              go_wp2_with (first | (have tk := S3; at_builtin; refine wpList_append1 rfl _ _ 34 rfl w.heap.size Try.underlying34 intInfo rfl (by decide) (v := _) (by rfl) (w0 := _) (cs := #[.int .i64 (zs.length : Int)]) S3.out.2.2.1 (by rfl) rfl (by simp [Value.oneCell']) (by decide) (by omega) (by omega) ?_; intro v4 w4 hv4 hg4 hob4; have S4 := Lib.hid (S3.out.sety hv4 hg4 hob4); have hz4 := S4.out.2.2.2.2.2.size; clear hv4 hg4 hob4 tk))
              have hfin : MgRel w a b (i + 1) (k + 1) _ _ _ _ _ _ _ := ⟨S4.out, by rw [List.append_assoc, List.singleton_append, ← HXY.out, ← HUE.out]; exact HEQ.out, by simp [HXL.out], by simp [HYL.out], by rw [← HXY.out]; exact HIX.out.snoc (by rw [HXL.out]; exact hsx.out), HIY.out.snoc (by rw [HYL.out]; exact hsy.out)⟩
              clear S1 S2 S3 S4 HT
              go_wp2_with fail
              go_roundw
              case rel => exact ⟨i + 1, k + 1, _, _, _, by omega, by omega, by go_num, by go_num, hfin⟩
              case measure => simp [intOf]; omega
      · have t1 : ((k : Int) == (b.length : Int)) = true := by rw [beq_iff_eq]; omega
        have t2 : ((i : Int) == (a.length : Int)) = false := by rw [beq_eq_false_iff_ne]; omega
        have td : decide ((k : Int) < (b.length : Int)) = false := by simp; omega
        have huneq := un_a hsx.out (.inl (List.drop_of_length_le (by omega) : b.drop k = []))
        have hzn : ((zs.length : Int) == 32768) = false := by rw [beq_eq_false_iff_ne]; rw [huneq] at hzl; simp at hzl; omega
        have hzb : zs.length ≤ 32768 := by omega
        have HUE := Lib.hid huneq
        clear hRA hRB huneq hzl
        go_wp2_with fail
        go_quiet (fail)
        obtain ⟨q1, hq1⟩ : ∃ q1, q1 = nq := ⟨_, rfl⟩
        rw [← hq1]
        clear hq1 nq
        go_wp2_with fail
        go_quiet (fail)
        have HRq := Lib.hid (HR.out.1.drewN (q1 + nq))
        have hszq : w.heap.size ≤ (wr.drewN (q1 + nq)).heap.size := hsz
        go_wp2_with (first | (have tk := S1; at_builtin; refine wpList_append1 rfl _ _ 34 rfl w.heap.size Try.underlying34 intInfo rfl (by decide) (v := _) (by rfl) (w0 := _) (cs := #[.int .i64 (zs.length : Int)]) S1.out.2.1 (by rfl) rfl (by simp [Value.oneCell']) (by decide) (by omega) (by omega) ?_; intro v2 w2 hv2 hg2 hob2; have S2 := Lib.hid (S1.out.setx hv2 hg2 hob2); have hz2 := S2.out.2.2.2.2.2.size; clear hv2 hg2 hob2 tk) | (at_builtin; refine wpList_append1 rfl _ _ 26 rfl w.heap.size Try.underlying26 strInfo rfl (by decide) (v := _) (by rfl) (w0 := _) (cs := #[.string sx]) HRq.out.1 (by rfl) rfl (by simp [Value.oneCell']) (by decide) (by omega) (by omega) ?_; intro v1 w1 hv1 hg1 hob1; have S1 := Lib.hid (Six.seto HRq.out HRq.out.1 rfl hv1 hg1); have hz1 := S1.out.2.2.2.2.2.size; clear hv1 hg1 hob1))
        have hfin : MgRel w a b (i + 1) k _ _ _ _ _ _ _ := ⟨S2.out, by rw [List.append_assoc, List.singleton_append, ← HUE.out]; exact HEQ.out, by simp [HXL.out], HYL.out, HIX.out.snoc (by rw [HXL.out]; exact hsx.out), HIY.out.more sx⟩
        clear S1 S2
        go_wp2_with fail
        go_roundw
        case rel => exact ⟨i + 1, k, _, _, _, by omega, hk, by go_num, rfl, hfin⟩
        case measure => simp [intOf]; omega
    · by_cases hkb : k < b.length
      · obtain ⟨bb, ob, sy, rfl, hcb, hsy⟩ := hRB.str_at hkb
        have t1 : ((k : Int) == (b.length : Int)) = false := by rw [beq_eq_false_iff_ne]; omega
        have t2 : ((i : Int) == (a.length : Int)) = true := by rw [beq_iff_eq]; omega
        have td : decide ((i : Int) < (a.length : Int)) = false := by simp; omega
        have huneq := un_b hsy.out (.inl (List.drop_of_length_le (by omega) : a.drop i = []))
        have hzn : ((zs.length : Int) == 32768) = false := by rw [beq_eq_false_iff_ne]; rw [huneq] at hzl; simp at hzl; omega
        have hzb : zs.length ≤ 32768 := by omega
        have HUE := Lib.hid huneq
        clear hRA hRB huneq hzl
        go_wp2_with fail
        go_quiet (fail)
        obtain ⟨q1, hq1⟩ : ∃ q1, q1 = nq := ⟨_, rfl⟩
        rw [← hq1]
        clear hq1 nq
        go_wp2_with fail
        go_quiet (fail)
        have HRq := Lib.hid (HR.out.1.drewN (q1 + nq))
        have hszq : w.heap.size ≤ (wr.drewN (q1 + nq)).heap.size := hsz
        have hcoi : (zs.length : Int) ≤ (co : Int) := by omega
        have hkbi : (k : Int) < (b.length : Int) := by omega
        go_wp2_with fail
        go_region_law (first | (go_must (refine step_append1 rfl _ _ 26 rfl w.heap.size Try.underlying26 strInfo rfl (by decide) (v := _) (by rfl) (w0 := (wr.drewN (q1 + nq))) (cs := #[.string sy]) (by rfl) (by rfl) (by rfl) (by rfl) HRq.out.1 (by rfl) rfl (by simp [Value.oneCell']) (by decide) (by omega) (by omega) ?_); intro v1 w1 hv1 hg1 hob1; have S1 := Lib.hid (Six.seto HRq.out HRq.out.1 rfl hv1 hg1); have hz1 := S1.out.2.2.2.2.2.size; clear hv1 hg1 hob1))
        all_goals
          go_wp2_with (first | (have tk := S1; at_builtin; refine wpList_append1 rfl _ _ 34 rfl w.heap.size Try.underlying34 intInfo rfl (by decide) (v := _) (by rfl) (w0 := _) (cs := #[.int .i64 (zs.length : Int)]) S1.out.2.2.1 (by rfl) rfl (by simp [Value.oneCell']) (by decide) (by omega) (by omega) ?_; intro v2 w2 hv2 hg2 hob2; have S2 := Lib.hid (S1.out.sety hv2 hg2 hob2); have hz2 := S2.out.2.2.2.2.2.size; clear hv2 hg2 hob2 tk))
          have hfin : MgRel w a b i (k + 1) _ _ _ _ _ _ _ := ⟨S2.out, by rw [List.append_assoc, List.singleton_append, ← HUE.out]; exact HEQ.out, HXL.out, by simp [HYL.out], HIX.out.more sy, HIY.out.snoc (by rw [HYL.out]; exact hsy.out)⟩
          clear S1 S2
          go_wp2_with fail
          go_roundw
          case rel => exact ⟨i, k + 1, _, _, _, hi, by omega, rfl, by go_num, hfin⟩
          case measure => simp [intOf]; omega
      · have hfin : zs = un a b := by rw [← HEQ.out, List.drop_of_length_le (by omega), List.drop_of_length_le (by omega)]; simp [un]
        have hxe : xs.length = a.length := by rw [HXL.out]; omega
        have hye : ys.length = b.length := by rw [HYL.out]; omega
        subst hfin
        have HF := Lib.hid (And.intro hxe hye)
        clear hRA hRB hxe hye
        go_wp2_with fail
        refine bodyPost_ret (results_tmp4 (by rfl) _ _ _) rfl ?_
        have HIX2 := HIX.out
        have HIY2 := HIY.out
        refine ⟨AO, AX, AY, co, cx, cy, xs, ys, ?_, HF.out.1, HF.out.2, HIX2, HIY2, hco, HC.out.1, HC.out.2.1, HC.out.2.2.1, HC.out.2.2.2, HR.out.1.2.2.2.2.2⟩
        have e1 := HF.out.1
        have e2 := HF.out.2
        rw [← e1, ← e2]; rfl
end Go.Proofs.Ytgaomilmljepoaa
