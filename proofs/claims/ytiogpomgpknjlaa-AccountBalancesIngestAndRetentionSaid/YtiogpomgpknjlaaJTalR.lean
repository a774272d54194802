/- Sum and Merge of the reference of chapter 42 (printed by mkrmerge.py). No condition. -/
import Derived.Test.YtiogpomgpknjlaaJTalM
import Derived.Test.YtiogpomgpknjlaaJTal
namespace Go.Proofs.Ytiogpomgpknjlaa
open Go.RowKit
set_option linter.unusedVariables false
set_option linter.unusedSimpArgs false

set_option maxHeartbeats 2000000 in
theorem rsum_any {S : Nat → Prop} (A : Option Addr) (ts : List Tal) (c : Nat) (h : Int) (w : World) (hr : Rd S w A (ts.flatMap Tal.cells)) (hl : ts.length ≤ 100000) (hi : TIn 1000000 ts) :
    Calls Try.prog 14 #[.slice A ts.length c, .int .i64 h] w (SumPost w (sumT h ts)) := by
  have HR := Lib.hid (hr.mono (S' := (· < w.heap.size)) (fun b _ hb => hb))
  have HI := Lib.hid hi
  clear hr hi
  go_enter Try.func14, Try.ntmps14
  go_wp2
  go_loop [5, 6] (fun n i => ∃ k : Nat, k ≤ ts.length ∧ i = .int .i64 k ∧ n = .int .i64 (sumT h (ts.take k))) (fun _ i => ts.length - (intOf i).toNat)
  case atStart => exact ⟨0, Nat.zero_le _, rfl, rfl⟩
  case round =>
    obtain ⟨k, hk, rfl, rfl⟩ := hrel
    have hb := sumT_le h (tin_take HI.out k) (by omega)
    have hlk : (ts.take k).length ≤ 100000 := by rw [List.length_take]; omega
    have hb2 : sumT h (ts.take k) ≤ 100000000000 := by omega
    have hb1 := hb.1
    clear hb
    by_cases hlt : k < ts.length
    · obtain ⟨t, ht⟩ : ∃ t, ts[k]? = some t := ⟨_, List.getElem?_eq_getElem hlt⟩
      obtain ⟨b1, o1, rfl, x0, x1, x2⟩ := HR.out.tal ht
      have ht2 := HI.out t (List.mem_of_getElem? ht)
      have HS : Hid (sumT h (ts.take (k + 1)) = sumT h (ts.take k) + if t.host = h then t.lines else 0) := by
        rw [List.take_succ_eq_append_getElem hlt, sumT_snoc]
        rw [List.getElem?_eq_getElem hlt] at ht
        injection ht with ht
        rw [ht]
        exact rfl
      clear ht
      have i1 : (k : Int) < (ts.length : Int) := by omega
      by_cases hh : t.host = h
      · have d1 : (t.host == h) = true := by simp [hh]
        have HH := Lib.hid hh
        clear hh
        go_wp2
        go_round
        case rel => exact ⟨k + 1, by omega, by go_num, by rw [HS.out, if_pos HH.out]⟩
        case measure => simp [intOf]; omega
      · have d1 : (t.host == h) = false := by simp [hh]
        have HH := Lib.hid hh
        clear hh
        go_wp2
        go_round
        case rel => exact ⟨k + 1, by omega, by go_num, by rw [HS.out, if_neg HH.out, Int.add_zero]⟩
        case measure => simp [intOf]; omega
    · go_wp2
      go_ret
      exact ⟨ret_int (by rw [List.take_of_length_le (by omega)]), only_refl _ _⟩
theorem Blk.rdl {w : World} {g : Nat} {t : TypeId} {cs : Array Value} (h : Blk w g t cs) : Rd (fun _ => True) w (some ⟨g, 0, none⟩) cs.toList := fun _ =>
  ⟨g, 0, rfl, trivial, h.lt, fun j u hu => by rw [Nat.zero_add, h.cell j]; simpa using hu⟩
def RRel (w : World) (a b : List Tal) (v vi vk : Value) (wr : World) : Prop :=
  ∃ (i k : Nat) (zs : List Tal), (∃ A c, v = .slice A zs.length c) ∧ vi = .int .i64 i ∧ vk = .int .i64 k ∧ i ≤ a.length ∧ k ≤ b.length ∧ zs ++ mrg (a.drop i) (b.drop k) = mrg a b ∧ zs.length ≤ i + k ∧
    wr.ownsRow w.heap.size 62 3 v zs.length (zs.flatMap Tal.cells) ∧ w.grownBy wr none
set_option maxHeartbeats 4000000 in
set_option maxRecDepth 100000 in
theorem rmerge_any {S : Nat → Prop} (A B : Option Addr) (a b : List Tal) (c d : Nat) (w : World) (ha : Rd S w A (a.flatMap Tal.cells)) (hb : Rd S w B (b.flatMap Tal.cells)) (hl : a.length ≤ 1000) (hl2 : b.length ≤ 1000) (hia : TIn 1000000 a) (hib : TIn 1000000 b) :
    Calls Try.prog 17 #[.slice A a.length c, .slice B b.length d] w (TalsPost w (mrg a b)) := by
  have RA := Lib.hid (ha.mono (S' := (· < w.heap.size)) (fun b _ hb => hb))
  have RB := Lib.hid (hb.mono (S' := (· < w.heap.size)) (fun b _ hb => hb))
  have IA := Lib.hid hia
  have IB := Lib.hid hib
  clear ha hb hia hib
  go_enter Try.func17, Try.ntmps17
  go_wp2_with fail
  go_loopw [5, 6, 7] (fun v vi vk wr => RRel w a b v vi vk wr) (fun _ vi vk _ => a.length - (intOf vi).toNat + (b.length - (intOf vk).toNat))
  case atStart => exact ⟨0, 0, [], ⟨none, 0, rfl⟩, rfl, rfl, Nat.zero_le _, Nat.zero_le _, rfl, Nat.le_refl _, World.ownsRow_nil _ _ _ _, only_refl _ _⟩
  case round =>
    obtain ⟨i, k, zs, ⟨AO, cO, rfl⟩, rfl, rfl, hi1, hk1, hmr, hzl, hown, hG⟩ := hrel
    have MR := Lib.hid hmr
    have G := Lib.hid hG
    have hsz := hG.size
    have O := Lib.hid hown
    clear hmr hG hown
    by_cases hi : i < a.length
    · skip
      obtain ⟨x, hxe⟩ : ∃ x, a[i]? = some x := ⟨_, List.getElem?_eq_getElem hi⟩
      obtain ⟨bA, oA, rfl, x0, x1, x2⟩ := (RA.out.grown G.out (by simp)).tal hxe
      have hx := IA.out x (List.mem_of_getElem? hxe)
      have HDA : Hid (a.drop i = x :: a.drop (i + 1)) := Lib.hid (by rw [List.drop_eq_getElem_cons hi]; rw [List.getElem?_eq_getElem hi] at hxe; injection hxe with h; rw [h])
      have hbA : bA < wr.heap.size := by obtain ⟨b', o', e', hb', -, -⟩ := RA.out (by rw [tflat_len]; omega); injection e' with e'; injection e' with e1 e2; omega
      have hbnA : bA ≠ wr.heap.size := by omega
      have iA : (i : Int) < (a.length : Int) := by omega
      have tA : ((i : Int) == (a.length : Int)) = false := by rw [beq_eq_false_iff_ne]; omega
      clear hxe
      by_cases hk : k < b.length
      · skip
        obtain ⟨y, hye⟩ : ∃ y, b[k]? = some y := ⟨_, List.getElem?_eq_getElem hk⟩
        obtain ⟨bB, oB, rfl, y0, y1, y2⟩ := (RB.out.grown G.out (by simp)).tal hye
        have hy := IB.out y (List.mem_of_getElem? hye)
        have HDB : Hid (b.drop k = y :: b.drop (k + 1)) := Lib.hid (by rw [List.drop_eq_getElem_cons hk]; rw [List.getElem?_eq_getElem hk] at hye; injection hye with h; rw [h])
        have hbB : bB < wr.heap.size := by obtain ⟨b', o', e', hb', -, -⟩ := RB.out (by rw [tflat_len]; omega); injection e' with e'; injection e' with e1 e2; omega
        have hbnB : bB ≠ wr.heap.size := by omega
        have iB : (k : Int) < (b.length : Int) := by omega
        have tB : ((k : Int) == (b.length : Int)) = false := by rw [beq_eq_false_iff_ne]; omega
        clear hye
        by_cases hkl : kl x y
        · have HM : Hid (mrg (a.drop i) (b.drop k) = x :: mrg (a.drop (i + 1)) (b.drop k)) := Lib.hid (by rw [HDA.out, HDB.out, mrg, if_pos hkl])
          by_cases q1 : x.host < y.host
          · have d1 : decide (x.host < y.host) = true := by simp [q1]
            clear hkl
            go_wp2_with fail
            go_quiet (fail)
            have O3 := Lib.hid (own_ext O.out (show wr.grownBy (wr.drewN nq) none from only_drewN (only_refl _ _) _))
            go_wp2_with (at_builtin; go_must (refine wpList_append1 rfl _ _ 26 rfl w.heap.size Try.underlying26 talInfo rfl (by decide) (v := .slice AO zs.length cO) (by rfl) (w0 := wr.drewN nq) (cs := (x : Tal).cells.toArray) O3.out (by rfl) rfl (by simpa using Tal.one x) (by decide) (by omega) (by simp; omega) ?_); intro v7 w7 hown7 hg7 hob7; obtain ⟨A7, c7, rfl, hc7, hm7, -, -⟩ := Rd.of_own hown7 (by decide))
            have FN := Lib.hid (show w7.ownsRow w.heap.size 62 3 (.slice A7 (zs.length + 1) c7) (zs ++ [x]).length ((zs ++ [x]).flatMap Tal.cells) by simpa using hown7)
            have GN : Hid (w.grownBy w7 none) := only_own (only_trans G.out (show wr.grownBy (wr.drewN nq) none from only_drewN (only_refl _ _) _)) hg7 O3.out (Nat.le_refl _)
            clear hown7 hg7 hob7
            go_roundw
            case rel => exact ⟨i + 1, k, zs ++ [x], by simp, by go_num, by go_num, by omega, by omega, by rw [← MR.out, HM.out]; simp, by simp; omega, FN.out, GN.out⟩
            case measure => simp [intOf]; omega
          · have q2 : x.host = y.host ∧ sl x.rule y.rule = true := by rcases hkl with h | h; exact absurd h q1; exact h
            have d1 : decide (x.host < y.host) = false := by simp; omega
            have d2 : (x.host == y.host) = true := by simp [q2.1]
            have d3 : Op.bytesLess x.rule.toList y.rule.toList = true := q2.2
            clear hkl q2 q1
            go_wp2_with fail
            go_quiet (fail)
            have O3 := Lib.hid (own_ext O.out (show wr.grownBy (wr.drewN nq) none from only_drewN (only_refl _ _) _))
            go_wp2_with (at_builtin; go_must (refine wpList_append1 rfl _ _ 26 rfl w.heap.size Try.underlying26 talInfo rfl (by decide) (v := .slice AO zs.length cO) (by rfl) (w0 := wr.drewN nq) (cs := (x : Tal).cells.toArray) O3.out (by rfl) rfl (by simpa using Tal.one x) (by decide) (by omega) (by simp; omega) ?_); intro v7 w7 hown7 hg7 hob7; obtain ⟨A7, c7, rfl, hc7, hm7, -, -⟩ := Rd.of_own hown7 (by decide))
            have FN := Lib.hid (show w7.ownsRow w.heap.size 62 3 (.slice A7 (zs.length + 1) c7) (zs ++ [x]).length ((zs ++ [x]).flatMap Tal.cells) by simpa using hown7)
            have GN : Hid (w.grownBy w7 none) := only_own (only_trans G.out (show wr.grownBy (wr.drewN nq) none from only_drewN (only_refl _ _) _)) hg7 O3.out (Nat.le_refl _)
            clear hown7 hg7 hob7
            go_roundw
            case rel => exact ⟨i + 1, k, zs ++ [x], by simp, by go_num, by go_num, by omega, by omega, by rw [← MR.out, HM.out]; simp, by simp; omega, FN.out, GN.out⟩
            case measure => simp [intOf]; omega
        · by_cases hkl2 : kl y x
          · have HM : Hid (mrg (a.drop i) (b.drop k) = y :: mrg (a.drop i) (b.drop (k + 1))) := Lib.hid (by rw [HDA.out, HDB.out, mrg, if_neg hkl, if_pos hkl2])
            by_cases q1 : y.host < x.host
            · have d1 : decide (x.host < y.host) = false := by simp; omega
              have d2 : (x.host == y.host) = false := by simp; omega
              have d3 : (x.host != y.host) = true := by simp; omega
              clear hkl hkl2
              go_wp2_with fail
              go_quiet (fail)

              generalize nq = n1

              go_wp2_with fail
              go_quiet (fail)
              have O3 := Lib.hid (own_ext O.out (show wr.grownBy (wr.drewN (n1 + nq)) none from only_drewN (only_refl _ _) _))
              go_wp2_with (at_builtin; go_must (refine wpList_append1 rfl _ _ 26 rfl w.heap.size Try.underlying26 talInfo rfl (by decide) (v := .slice AO zs.length cO) (by rfl) (w0 := wr.drewN (n1 + nq)) (cs := (y : Tal).cells.toArray) O3.out (by rfl) rfl (by simpa using Tal.one y) (by decide) (by omega) (by simp; omega) ?_); intro v7 w7 hown7 hg7 hob7; obtain ⟨A7, c7, rfl, hc7, hm7, -, -⟩ := Rd.of_own hown7 (by decide))
              have FN := Lib.hid (show w7.ownsRow w.heap.size 62 3 (.slice A7 (zs.length + 1) c7) (zs ++ [y]).length ((zs ++ [y]).flatMap Tal.cells) by simpa using hown7)
              have GN : Hid (w.grownBy w7 none) := only_own (only_trans G.out (show wr.grownBy (wr.drewN (n1 + nq)) none from only_drewN (only_refl _ _) _)) hg7 O3.out (Nat.le_refl _)
              clear hown7 hg7 hob7
              go_roundw
              case rel => exact ⟨i, k + 1, zs ++ [y], by simp, by go_num, by go_num, by omega, by omega, by rw [← MR.out, HM.out]; simp, by simp; omega, FN.out, GN.out⟩
              case measure => simp [intOf]; omega
            · have q2 : y.host = x.host ∧ sl y.rule x.rule = true := by rcases hkl2 with h | h; exact absurd h q1; exact h
              have q3 : sl x.rule y.rule = false := by
                cases h3 : sl x.rule y.rule with
                | false => rfl
                | true => exact absurd (.inr ⟨q2.1.symm, h3⟩) hkl
              have d1 : decide (x.host < y.host) = false := by simp; omega
              have d2 : (x.host == y.host) = true := by simp [q2.1]
              have d3 : (x.host != y.host) = false := by simp [q2.1]
              have d4 : Op.bytesLess x.rule.toList y.rule.toList = false := q3
              have d5 : (x.rule.toList == y.rule.toList) = false := by
                rw [beq_eq_false_iff_ne]; intro e; rw [toList_inj e, sl_irrefl] at q2; cases q2.2
              have d6 : (x.rule.toList != y.rule.toList) = true := by rw [bne, d5]; rfl
              clear hkl hkl2 q2 q1 q3
              go_wp2_with fail
              go_quiet (fail)

              generalize nq = n1

              go_wp2_with fail
              go_quiet (fail)
              have O3 := Lib.hid (own_ext O.out (show wr.grownBy (wr.drewN (n1 + nq)) none from only_drewN (only_refl _ _) _))
              go_wp2_with (at_builtin; go_must (refine wpList_append1 rfl _ _ 26 rfl w.heap.size Try.underlying26 talInfo rfl (by decide) (v := .slice AO zs.length cO) (by rfl) (w0 := wr.drewN (n1 + nq)) (cs := (y : Tal).cells.toArray) O3.out (by rfl) rfl (by simpa using Tal.one y) (by decide) (by omega) (by simp; omega) ?_); intro v7 w7 hown7 hg7 hob7; obtain ⟨A7, c7, rfl, hc7, hm7, -, -⟩ := Rd.of_own hown7 (by decide))
              have FN := Lib.hid (show w7.ownsRow w.heap.size 62 3 (.slice A7 (zs.length + 1) c7) (zs ++ [y]).length ((zs ++ [y]).flatMap Tal.cells) by simpa using hown7)
              have GN : Hid (w.grownBy w7 none) := only_own (only_trans G.out (show wr.grownBy (wr.drewN (n1 + nq)) none from only_drewN (only_refl _ _) _)) hg7 O3.out (Nat.le_refl _)
              clear hown7 hg7 hob7
              go_roundw
              case rel => exact ⟨i, k + 1, zs ++ [y], by simp, by go_num, by go_num, by omega, by omega, by rw [← MR.out, HM.out]; simp, by simp; omega, FN.out, GN.out⟩
              case measure => simp [intOf]; omega
          · have e := kl_tri hkl hkl2
            have HM : Hid (mrg (a.drop i) (b.drop k) = (⟨y.host, y.rule, x.lines + y.lines⟩ : Tal) :: mrg (a.drop (i + 1)) (b.drop (k + 1))) := Lib.hid (by rw [HDA.out, HDB.out, mrg, if_neg hkl, if_neg hkl2])
            have HE := Lib.hid e
            have d1 : decide (x.host < y.host) = false := by simp; omega
            have d2 : (x.host == y.host) = true := by simp [e.1]
            have d3 : (x.host != y.host) = false := by simp [e.1]
            have d4 : Op.bytesLess x.rule.toList y.rule.toList = false := by have := sl_irrefl y.rule; rw [← e.2] at this; exact (by rw [← e.2]; exact this)
            have d5 : (x.rule.toList == y.rule.toList) = true := by simp [e.2]
            have d6 : (x.rule.toList != y.rule.toList) = false := by simp [e.2]
            clear hkl hkl2 e
            go_wp2_with fail
            go_quiet (fail)

            generalize nq = n1

            go_wp2_with fail
            go_quiet (fail)
            have hw : IntKind.i64.wrap (x.lines + y.lines) = x.lines + y.lines := IntWalk.i64_in _ (by omega)
            go_wp2_with fail
            refine wp_region_inv 24 (Rab (((wr.drewN n1).drewN nq).heap.size)) (fun wx => ((wr.drewN n1).drewN nq).grownBy wx none) [(fun v _ => v = .slice AO zs.length cO), (fun v _ => v = .slice (some ⟨bA, oA, none⟩) (a.length) (c)), (fun v _ => v = .int .i64 (i)), (fun v _ => v = .pointer (some ⟨bA, oA + i * 3, none⟩)), (fun v _ => v = .pointer (some ⟨bA, oA + i * 3, none⟩)), (fun v _ => v = .int .i64 (x.host)), (fun v _ => v = .slice (some ⟨bA, oA, none⟩) (a.length) (c)), (fun v _ => v = .int .i64 (i)), (fun v _ => v = .pointer (some ⟨bA, oA + i * 3, none⟩)), (fun v _ => v = .pointer (some ⟨bA, oA + i * 3 + 1, none⟩)), (fun v _ => v = .string (x.rule)), (fun v _ => v = .slice (some ⟨bA, oA, none⟩) (a.length) (c)), (fun v _ => v = .int .i64 (i)), (fun v _ => v = .pointer (some ⟨bA, oA + i * 3, none⟩)), (fun v _ => v = .pointer (some ⟨bA, oA + i * 3 + 2, none⟩)), (fun v _ => v = .int .i64 (x.lines)), (fun v _ => v = .slice (some ⟨bB, oB, none⟩) (b.length) (d)), (fun v _ => v = .int .i64 (k)), (fun v _ => v = .pointer (some ⟨bB, oB + k * 3, none⟩)), (fun v _ => v = .pointer (some ⟨bB, oB + k * 3 + 2, none⟩)), (fun v _ => v = .int .i64 (y.lines)), (fun v _ => v = .int .i64 (x.lines + y.lines)), (fun v _ => v = .agg #[.int .i64 (x.host), .string (x.rule), .int .i64 (x.lines + y.lines)]), IsNew (((wr.drewN n1).drewN nq).heap.size) 62 1 #[.int .i64 x.host, .string x.rule, .int .i64 (x.lines + y.lines)]] (by kernel_rfl) (by kernel_rfl) ?_ ?_ ?_ ?_
            · intro p hp
              simp only [List.mem_cons, List.not_mem_nil, or_false] at hp
              rcases hp with rfl | rfl | rfl | rfl | rfl | rfl | rfl | rfl | rfl | rfl | rfl | rfl | rfl | rfl | rfl | rfl | rfl | rfl | rfl | rfl | rfl | rfl | rfl | rfl
              · exact St.const _
              · exact St.const _
              · exact St.const _
              · exact St.const _
              · exact St.const _
              · exact St.const _
              · exact St.const _
              · exact St.const _
              · exact St.const _
              · exact St.const _
              · exact St.const _
              · exact St.const _
              · exact St.const _
              · exact St.const _
              · exact St.const _
              · exact St.const _
              · exact St.const _
              · exact St.const _
              · exact St.const _
              · exact St.const _
              · exact St.const _
              · exact St.const _
              · exact St.const _
              · exact St.new_
            · exact (only_drew (only_refl _ _))
            · generalize hA : Act.mk _ _ = AA
              have hasz : AA.tmps.size = 147 := by rw [← hA]; kernel_rfl
              have ea5 : AA.eval (.tmp 5) = .slice AO zs.length cO := by rw [← hA]; kernel_rfl
              have ea0 : AA.eval (.tmp 0) = .slice (some ⟨bA, oA, none⟩) (a.length) (c) := by rw [← hA]; kernel_rfl
              have ea1 : AA.eval (.tmp 1) = .slice (some ⟨bB, oB, none⟩) (b.length) (d) := by rw [← hA]; kernel_rfl
              have ea6 : AA.eval (.tmp 6) = .int .i64 (i) := by rw [← hA]; kernel_rfl
              have ea7 : AA.eval (.tmp 7) = .int .i64 (k) := by rw [← hA]; kernel_rfl
              clear hA
              have RR : ∀ w, (Rab (((wr.drewN n1).drewN nq).heap.size)) w w := fun w => Rab.refl _ w
              simp only [List.take_succ_cons, List.take_zero]
              refine .cons ?_ (.cons ?_ (.cons ?_ (.cons ?_ (.cons ?_ (.cons ?_ (.cons ?_ (.cons ?_ (.cons ?_ (.cons ?_ (.cons ?_ (.cons ?_ (.cons ?_ (.cons ?_ (.cons ?_ (.cons ?_ (.cons ?_ (.cons ?_ (.cons ?_ (.cons ?_ (.cons ?_ (.cons ?_ (.cons ?_ (.cons ?_ (.nil))))))))))))))))))))))))
              · exact sd_gen rfl (by kernel_rfl) RR (fun u ρ w kn => by
                  have e0 := kn.own 5 (c := .slice AO zs.length cO) (by kernel_rfl) ea5
                  simp [execOp, kn.rho.con, e0, go_sem]) rfl
              · exact sd_gen rfl (by kernel_rfl) RR (fun u ρ w kn => by
                  have e0 := kn.own 0 (c := .slice (some ⟨bA, oA, none⟩) (a.length) (c)) (by kernel_rfl) ea0
                  simp [execOp, kn.rho.con, e0, go_sem]) rfl
              · exact sd_gen rfl (by kernel_rfl) RR (fun u ρ w kn => by
                  have e0 := kn.own 6 (c := .int .i64 (i)) (by kernel_rfl) ea6
                  simp [execOp, kn.rho.con, e0, go_sem]) rfl
              · exact sd_gen rfl (by kernel_rfl) RR (fun u ρ w kn => by
                  have e0 := kn.con 1 19 (c := .slice (some ⟨bA, oA, none⟩) (a.length) (c)) (by kernel_rfl) (by omega) (by kernel_rfl) rfl
                  have e1 := kn.con 2 20 (c := .int .i64 (i)) (by kernel_rfl) (by omega) (by kernel_rfl) rfl
                  simp [execOp, kn.rho.con, e0, e1, go_sem, iA]) rfl
              · exact sd_gen rfl (by kernel_rfl) RR (fun u ρ w kn => by
                  have e0 := kn.con 3 21 (c := .pointer (some ⟨bA, oA + i * 3, none⟩)) (by kernel_rfl) (by omega) (by kernel_rfl) rfl
                  simp [execOp, kn.rho.con, e0, go_sem]) rfl
              · exact sd_gen rfl (by kernel_rfl) RR (fun u ρ w kn => by
                  have e0 := kn.con 4 22 (c := .pointer (some ⟨bA, oA + i * 3, none⟩)) (by kernel_rfl) (by omega) (by kernel_rfl) rfl
                  have f0 := (cell_gr kn.good (by first | exact hbA | simpa using hbA)).trans x0
                  simp [execOp, kn.rho.con, e0, f0, go_sem]) rfl
              · exact sd_gen rfl (by kernel_rfl) RR (fun u ρ w kn => by
                  have e0 := kn.own 0 (c := .slice (some ⟨bA, oA, none⟩) (a.length) (c)) (by kernel_rfl) ea0
                  simp [execOp, kn.rho.con, e0, go_sem]) rfl
              · exact sd_gen rfl (by kernel_rfl) RR (fun u ρ w kn => by
                  have e0 := kn.own 6 (c := .int .i64 (i)) (by kernel_rfl) ea6
                  simp [execOp, kn.rho.con, e0, go_sem]) rfl
              · exact sd_gen rfl (by kernel_rfl) RR (fun u ρ w kn => by
                  have e0 := kn.con 6 24 (c := .slice (some ⟨bA, oA, none⟩) (a.length) (c)) (by kernel_rfl) (by omega) (by kernel_rfl) rfl
                  have e1 := kn.con 7 25 (c := .int .i64 (i)) (by kernel_rfl) (by omega) (by kernel_rfl) rfl
                  simp [execOp, kn.rho.con, e0, e1, go_sem, iA]) rfl
              · exact sd_gen rfl (by kernel_rfl) RR (fun u ρ w kn => by
                  have e0 := kn.con 8 26 (c := .pointer (some ⟨bA, oA + i * 3, none⟩)) (by kernel_rfl) (by omega) (by kernel_rfl) rfl
                  simp [execOp, kn.rho.con, e0, go_sem]) rfl
              · exact sd_gen rfl (by kernel_rfl) RR (fun u ρ w kn => by
                  have e0 := kn.con 9 27 (c := .pointer (some ⟨bA, oA + i * 3 + 1, none⟩)) (by kernel_rfl) (by omega) (by kernel_rfl) rfl
                  have f0 := (cell_gr kn.good (by first | exact hbA | simpa using hbA)).trans x1
                  simp [execOp, kn.rho.con, e0, f0, go_sem]) rfl
              · exact sd_gen rfl (by kernel_rfl) RR (fun u ρ w kn => by
                  have e0 := kn.own 0 (c := .slice (some ⟨bA, oA, none⟩) (a.length) (c)) (by kernel_rfl) ea0
                  simp [execOp, kn.rho.con, e0, go_sem]) rfl
              · exact sd_gen rfl (by kernel_rfl) RR (fun u ρ w kn => by
                  have e0 := kn.own 6 (c := .int .i64 (i)) (by kernel_rfl) ea6
                  simp [execOp, kn.rho.con, e0, go_sem]) rfl
              · exact sd_gen rfl (by kernel_rfl) RR (fun u ρ w kn => by
                  have e0 := kn.con 11 29 (c := .slice (some ⟨bA, oA, none⟩) (a.length) (c)) (by kernel_rfl) (by omega) (by kernel_rfl) rfl
                  have e1 := kn.con 12 30 (c := .int .i64 (i)) (by kernel_rfl) (by omega) (by kernel_rfl) rfl
                  simp [execOp, kn.rho.con, e0, e1, go_sem, iA]) rfl
              · exact sd_gen rfl (by kernel_rfl) RR (fun u ρ w kn => by
                  have e0 := kn.con 13 31 (c := .pointer (some ⟨bA, oA + i * 3, none⟩)) (by kernel_rfl) (by omega) (by kernel_rfl) rfl
                  simp [execOp, kn.rho.con, e0, go_sem]) rfl
              · exact sd_gen rfl (by kernel_rfl) RR (fun u ρ w kn => by
                  have e0 := kn.con 14 32 (c := .pointer (some ⟨bA, oA + i * 3 + 2, none⟩)) (by kernel_rfl) (by omega) (by kernel_rfl) rfl
                  have f0 := (cell_gr kn.good (by first | exact hbA | simpa using hbA)).trans x2
                  simp [execOp, kn.rho.con, e0, f0, go_sem]) rfl
              · exact sd_gen rfl (by kernel_rfl) RR (fun u ρ w kn => by
                  have e0 := kn.own 1 (c := .slice (some ⟨bB, oB, none⟩) (b.length) (d)) (by kernel_rfl) ea1
                  simp [execOp, kn.rho.con, e0, go_sem]) rfl
              · exact sd_gen rfl (by kernel_rfl) RR (fun u ρ w kn => by
                  have e0 := kn.own 7 (c := .int .i64 (k)) (by kernel_rfl) ea7
                  simp [execOp, kn.rho.con, e0, go_sem]) rfl
              · exact sd_gen rfl (by kernel_rfl) RR (fun u ρ w kn => by
                  have e0 := kn.con 16 34 (c := .slice (some ⟨bB, oB, none⟩) (b.length) (d)) (by kernel_rfl) (by omega) (by kernel_rfl) rfl
                  have e1 := kn.con 17 35 (c := .int .i64 (k)) (by kernel_rfl) (by omega) (by kernel_rfl) rfl
                  simp [execOp, kn.rho.con, e0, e1, go_sem, iB]) rfl
              · exact sd_gen rfl (by kernel_rfl) RR (fun u ρ w kn => by
                  have e0 := kn.con 18 36 (c := .pointer (some ⟨bB, oB + k * 3, none⟩)) (by kernel_rfl) (by omega) (by kernel_rfl) rfl
                  simp [execOp, kn.rho.con, e0, go_sem]) rfl
              · exact sd_gen rfl (by kernel_rfl) RR (fun u ρ w kn => by
                  have e0 := kn.con 19 37 (c := .pointer (some ⟨bB, oB + k * 3 + 2, none⟩)) (by kernel_rfl) (by omega) (by kernel_rfl) rfl
                  have f0 := (cell_gr kn.good (by first | exact hbB | simpa using hbB)).trans y2
                  simp [execOp, kn.rho.con, e0, f0, go_sem]) rfl
              · exact sd_gen rfl (by kernel_rfl) RR (fun u ρ w kn => by
                  have e0 := kn.con 15 33 (c := .int .i64 (x.lines)) (by kernel_rfl) (by omega) (by kernel_rfl) rfl
                  have e1 := kn.con 20 38 (c := .int .i64 (y.lines)) (by kernel_rfl) (by omega) (by kernel_rfl) rfl
                  simp [execOp, kn.rho.con, e0, e1, go_sem, hw]) rfl
              · exact sd_gen rfl (by kernel_rfl) RR (fun u ρ w kn => by
                  have e0 := kn.con 5 23 (c := .int .i64 (x.host)) (by kernel_rfl) (by omega) (by kernel_rfl) rfl
                  have e1 := kn.con 10 28 (c := .string (x.rule)) (by kernel_rfl) (by omega) (by kernel_rfl) rfl
                  have e2 := kn.con 21 39 (c := .int .i64 (x.lines + y.lines)) (by kernel_rfl) (by omega) (by kernel_rfl) rfl
                  simp [execOp, kn.rho.con, e0, e1, e2, go_sem]) rfl
              · exact sd_row rfl (by kernel_rfl) (fun u ρ w kn => by
                  have e0 := kn.con 22 40 (c := .agg #[.int .i64 (x.host), .string (x.rule), .int .i64 (x.lines + y.lines)]) (by kernel_rfl) (by omega) (by kernel_rfl) rfl
                  simp [execOp, kn.rho.con, e0, go_sem]) (fun _ o h => by first | exact only_alloc h o | exact h.alloc o) (fun _ h => by first | exact h.size | exact h.r) rfl
            · intro u w3 hg3 hu
              have e0 : u 0 = .slice AO zs.length cO := hu 0 (by omega)
              obtain ⟨gb, e23, hgb, hB⟩ : IsNew _ _ _ _ (u 23) w3 := hu 23 (by omega)
              simp only [List.take_succ_cons, List.take_zero, List.drop_succ_cons, List.drop_zero, putAll]
              rw [e0, e23]
              have G3 := Lib.hid (show wr.grownBy w3 none from only_trans (only_drewN (only_drewN (only_refl _ _) _) _) hg3)
              have O3 := Lib.hid (own_ext O.out G3.out)
              have hs3 := hg3.size
              have RD := Lib.hid hB.rdl
              clear hw hu e0 e23 hg3 hB
              refine wpList_appendN rfl _ _ 26 rfl w.heap.size Try.underlying26 talInfo rfl (by decide) (v := .slice AO zs.length cO) (by kernel_rfl) O3.out (some ⟨gb, 0, none⟩) 1 1 (by kernel_rfl) RD.out (by rfl) (by simp [Value.oneCell']) (by decide) (by omega) (by simp at hs3; omega) ?_
              intro v7 w7 hown7 hg7 hob7
              obtain ⟨A7, c7, rfl, hc7, hm7, -, -⟩ := Rd.of_own hown7 (by decide)
              have FN := Lib.hid (show w7.ownsRow w.heap.size 62 3 (.slice A7 (zs.length + 1) c7) (zs ++ [(⟨x.host, x.rule, x.lines + y.lines⟩ : Tal)]).length ((zs ++ [(⟨x.host, x.rule, x.lines + y.lines⟩ : Tal)]).flatMap Tal.cells) by simpa [Tal.cells] using hown7)
              have GN : Hid (w.grownBy w7 none) := only_own (only_trans G.out G3.out) hg7 O3.out (Nat.le_refl _)
              clear hown7 hg7 hob7
              go_wp2_with fail
              go_roundw
              case rel => exact ⟨i + 1, k + 1, zs ++ [(⟨x.host, x.rule, x.lines + y.lines⟩ : Tal)], by simp, by go_num, by go_num, by omega, by omega, by rw [← MR.out, HM.out, HE.out.1, HE.out.2]; simp, by simp; omega, FN.out, GN.out⟩
              case measure => simp [intOf]; omega
      · have HM : Hid (mrg (a.drop i) (b.drop k) = x :: mrg (a.drop (i + 1)) (b.drop k)) := Lib.hid (by rw [HDA.out, show b.drop k = [] from List.drop_eq_nil_of_le (by omega), mrg, mrg_nil])
        have tB : ((k : Int) == (b.length : Int)) = true := by rw [beq_iff_eq]; omega
        go_wp2_with fail
        go_quiet (fail)
        have O3 := Lib.hid (own_ext O.out (show wr.grownBy (wr.drewN nq) none from only_drewN (only_refl _ _) _))
        go_wp2_with (at_builtin; go_must (refine wpList_append1 rfl _ _ 26 rfl w.heap.size Try.underlying26 talInfo rfl (by decide) (v := .slice AO zs.length cO) (by rfl) (w0 := wr.drewN nq) (cs := (x : Tal).cells.toArray) O3.out (by rfl) rfl (by simpa using Tal.one x) (by decide) (by omega) (by simp; omega) ?_); intro v7 w7 hown7 hg7 hob7; obtain ⟨A7, c7, rfl, hc7, hm7, -, -⟩ := Rd.of_own hown7 (by decide))
        have FN := Lib.hid (show w7.ownsRow w.heap.size 62 3 (.slice A7 (zs.length + 1) c7) (zs ++ [x]).length ((zs ++ [x]).flatMap Tal.cells) by simpa using hown7)
        have GN : Hid (w.grownBy w7 none) := only_own (only_trans G.out (show wr.grownBy (wr.drewN nq) none from only_drewN (only_refl _ _) _)) hg7 O3.out (Nat.le_refl _)
        clear hown7 hg7 hob7
        go_roundw
        case rel => exact ⟨i + 1, k, zs ++ [x], by simp, by go_num, by go_num, by omega, by omega, by rw [← MR.out, HM.out]; simp, by simp; omega, FN.out, GN.out⟩
        case measure => simp [intOf]; omega
    · have tA : ((i : Int) == (a.length : Int)) = true := by rw [beq_iff_eq]; omega
      by_cases hk : k < b.length
      · skip
        obtain ⟨y, hye⟩ : ∃ y, b[k]? = some y := ⟨_, List.getElem?_eq_getElem hk⟩
        obtain ⟨bB, oB, rfl, y0, y1, y2⟩ := (RB.out.grown G.out (by simp)).tal hye
        have hy := IB.out y (List.mem_of_getElem? hye)
        have HDB : Hid (b.drop k = y :: b.drop (k + 1)) := Lib.hid (by rw [List.drop_eq_getElem_cons hk]; rw [List.getElem?_eq_getElem hk] at hye; injection hye with h; rw [h])
        have hbB : bB < wr.heap.size := by obtain ⟨b', o', e', hb', -, -⟩ := RB.out (by rw [tflat_len]; omega); injection e' with e'; injection e' with e1 e2; omega
        have hbnB : bB ≠ wr.heap.size := by omega
        have iB : (k : Int) < (b.length : Int) := by omega
        have tB : ((k : Int) == (b.length : Int)) = false := by rw [beq_eq_false_iff_ne]; omega
        clear hye
        have HM : Hid (mrg (a.drop i) (b.drop k) = y :: mrg (a.drop i) (b.drop (k + 1))) := Lib.hid (by rw [HDB.out, show a.drop i = [] from List.drop_eq_nil_of_le (by omega), mrg, mrg])
        go_wp2_with fail
        go_quiet (fail)

        generalize nq = n1

        go_wp2_with fail
        go_quiet (fail)
        have O3 := Lib.hid (own_ext O.out (show wr.grownBy (wr.drewN (n1 + nq)) none from only_drewN (only_refl _ _) _))
        go_wp2_with (at_builtin; go_must (refine wpList_append1 rfl _ _ 26 rfl w.heap.size Try.underlying26 talInfo rfl (by decide) (v := .slice AO zs.length cO) (by rfl) (w0 := wr.drewN (n1 + nq)) (cs := (y : Tal).cells.toArray) O3.out (by rfl) rfl (by simpa using Tal.one y) (by decide) (by omega) (by simp; omega) ?_); intro v7 w7 hown7 hg7 hob7; obtain ⟨A7, c7, rfl, hc7, hm7, -, -⟩ := Rd.of_own hown7 (by decide))
        have FN := Lib.hid (show w7.ownsRow w.heap.size 62 3 (.slice A7 (zs.length + 1) c7) (zs ++ [y]).length ((zs ++ [y]).flatMap Tal.cells) by simpa using hown7)
        have GN : Hid (w.grownBy w7 none) := only_own (only_trans G.out (show wr.grownBy (wr.drewN (n1 + nq)) none from only_drewN (only_refl _ _) _)) hg7 O3.out (Nat.le_refl _)
        clear hown7 hg7 hob7
        go_roundw
        case rel => exact ⟨i, k + 1, zs ++ [y], by simp, by go_num, by go_num, by omega, by omega, by rw [← MR.out, HM.out]; simp, by simp; omega, FN.out, GN.out⟩
        case measure => simp [intOf]; omega
      · go_wp2_with fail
        go_ret
        obtain ⟨A9, c9, e9, f1, f2, -, f3⟩ := Rd.of_own O.out (by decide)
        injection e9 with e1 e2 e3
        subst e1 e3
        have hz : zs = mrg a b := by have := MR.out; rw [show a.drop i = [] from List.drop_eq_nil_of_le (by omega), show b.drop k = [] from List.drop_eq_nil_of_le (by omega)] at this; simpa [mrg] using this
        subst hz
        exact ⟨AO, cO, rfl, f1, f2, f3, G.out⟩
end Go.Proofs.Ytiogpomgpknjlaa
