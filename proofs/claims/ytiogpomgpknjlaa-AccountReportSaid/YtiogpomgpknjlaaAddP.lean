/- ingest.Add. Condition: sizes. -/
import Derived.Test.YtiogpomgpknjlaaBsfT
import Derived.Test.YtiogpomgpknjlaaCloneT
import Derived.Test.YtiogpomgpknjlaaInsT
import Derived.Test.YtiogpomgpknjlaaTalB
import Derived.Deep.DeepCutAuto
namespace Go.Proofs.Ytiogpomgpknjlaa
open Go.RowKit
set_option linter.unusedVariables false
set_option linter.unusedSimpArgs false

theorem cfTal_lt {t x : Tal} : cfTal x.host x.rule t < 0 ↔ kl t x := by
  unfold cfTal cmpI cmpS kl
  by_cases h1 : t.host < x.host
  · simp [h1]
  · by_cases h2 : x.host < t.host
    · have : ¬ t.host = x.host := by omega
      simp [h1, h2, this]
    · have e : t.host = x.host := by omega
      simp [h1, h2, e]
      cases h3 : sl t.rule x.rule with
      | true => simp
      | false => simp; split <;> omega
theorem cfTal_gt {t x : Tal} (h : ¬ cfTal x.host x.rule t < 0) (h0 : ¬ cfTal x.host x.rule t = 0) : kl x t := by
  unfold cfTal cmpI cmpS at h h0
  unfold kl
  by_cases h1 : t.host < x.host
  · simp [h1] at h
  · by_cases h2 : x.host < t.host
    · exact .inl h2
    · have e : t.host = x.host := by omega
      refine .inr ⟨e.symm, ?_⟩
      simp [h1, h2, e] at h h0
      cases h3 : sl x.rule t.rule with
      | true => rfl
      | false => simp [h3] at h h0; split at h <;> simp_all
theorem cfTal_eq {t x : Tal} (h0 : cfTal x.host x.rule t = 0) : ¬ kl t x ∧ ¬ kl x t := by
  refine ⟨fun h => ?_, fun h => ?_⟩
  · have := cfTal_lt.2 h; omega
  · unfold cfTal cmpI cmpS at h0
    rcases h with h | ⟨h, h2⟩
    · have h1 : ¬ t.host < x.host := by omega
      simp [h1, h] at h0
    · have h1 : ¬ t.host < x.host := by omega
      have h3 : ¬ x.host < t.host := by omega
      have h4 : sl t.rule x.rule = false := sl_asymm h2
      simp [h, h1, h3, h4, h2] at h0
theorem TSrt.mono {l : List Tal} (h : TSrt l) (x : Tal) : MonoC (cfTal x.host x.rule) l := by
  intro p q a b hpq ha hb hc
  obtain ⟨p1, p2⟩ := List.getElem?_eq_some_iff.1 ha
  obtain ⟨q1, q2⟩ := List.getElem?_eq_some_iff.1 hb
  have := List.pairwise_iff_getElem.1 h p q p1 q1 hpq
  rw [p2, q2] at this
  rw [cfTal_lt] at hc ⊢
  exact kl_trans this hc
theorem okC_false {α : Type} {cf : α → Int} {xs : List α} (h : okC cf xs = false) {x : α} (hx : xs[lowC cf xs]? = some x) : ¬ cf x = 0 := by
  unfold okC at h
  rw [hx] at h
  simpa using h
theorem okC_some {α : Type} {cf : α → Int} {xs : List α} (h : okC cf xs = true) : ∃ x, xs[lowC cf xs]? = some x ∧ cf x = 0 := by
  unfold okC at h
  cases hx : xs[lowC cf xs]? with
  | none => rw [hx] at h; cases h
  | some x => rw [hx] at h; exact ⟨x, rfl, by simpa using h⟩
set_option maxHeartbeats 4000000 in
set_option maxRecDepth 100000 in
theorem addp_any {S : Nat → Prop} (A : Option Addr) (l : List Tal) (c : Nat) (x : Tal) (w : World) (h : Rd S w A (l.flatMap Tal.cells)) (hl : l.length ≤ 1000) (hA : A = none → l.length = 0) (hs : TSrt l) (hx : 1 ≤ x.lines ∧ x.lines ≤ 1000000) (hin : TIn 1000000 l) :
    Calls Try.prog 39 #[.slice A l.length c, .int .i64 x.host, .string x.rule, .int .i64 x.lines] w (TalsPost w (mrg l [x])) := by
  have KC := Lib.hid (cloneTa_any A l.length c (l.flatMap Tal.cells) w h (tflat_len l) (by omega) (tflat_one l) hA)
  have HS := Lib.hid hs
  have HIN := Lib.hid hin
  have hlow := lowC_le (cf := cfTal x.host x.rule) l
  have i1 : ¬ (x.lines < 1) := by omega
  clear h hs hin hA
  go_enter Try.func39, Try.ntmps39
  go_wp2_with fail
  refine KC.out.mono ?_
  rintro e w1 ⟨A1, c1, rfl, ho1, hg1⟩
  obtain ⟨A9, c9, e9, hc9, hm9, -, hr9⟩ := Rd.of_own ho1 (by decide)
  injection e9 with e91 e92 e93
  subst e91 e93
  have O1 := Lib.hid ho1
  have G1 := Lib.hid hg1
  have hs1 := hg1.size
  have KF := Lib.hid (findTal_any A1 l c1 x.host x.rule w1 hr9 (by omega) (HS.out.mono x))
  clear ho1 hg1 hr9 KC
  go_wp2_with fail
  refine KF.out.mono ?_
  rintro e w2 ⟨rfl, hg2⟩
  have O2 := Lib.hid (own_ext O1.out hg2)
  have G2 := Lib.hid (only_trans G1.out hg2)
  have hs2 := hg2.size
  clear hg2 KF O1
  obtain ⟨m, hm⟩ : ∃ m, m = lowC (cfTal x.host x.rule) l := ⟨_, rfl⟩
  have hml : m ≤ l.length := by omega
  have LT : Hid (∀ j t, j < m → l[j]? = some t → kl t x) := Lib.hid (fun j t hj ht => cfTal_lt.1 (lowC_lt (by rw [← hm]; exact hj) ht))
  cases hok : okC (cfTal x.host x.rule) l with
  | true =>
    obtain ⟨t, ht, h0⟩ := okC_some hok
    rw [← hm] at ht ⊢
    have HT := Lib.hid ht
    have hmt : m < l.length := (List.getElem?_eq_some_iff.1 ht).1
    have HV : Hid (mrg l [x] = l.set m ⟨t.host, t.rule, t.lines + x.lines⟩) := Lib.hid (mrg_hit m LT.out ht (cfTal_eq h0).1 (cfTal_eq h0).2)
    have htl := HIN.out t (List.mem_of_getElem? ht)
    rcases O2.out.2 with ⟨e, h0'⟩ | ⟨g, cap, cur, e, hb, hh, hnc, hcm, hcs, htk⟩
    · omega
    · injection e with e1 e2 e3
      subst e1 e3
      obtain ⟨hset, hgs⟩ := tals_set O2.out ht (t.lines + x.lines)
      have HO := Lib.hid hset
      have HGS := Lib.hid hgs
      have hci := own_cellR (k := m * 3 + 2) O2.out (by omega)
      have hcv : w2.cell? ⟨g, m * 3 + 2, none⟩ = some (.int .i64 t.lines) := by
        rw [hci.1]; exact tflat_at ht 2 (by omega)
      have hfz : w2.frozen? ⟨g, m * 3 + 2, none⟩ = false := hci.2
      have hadd : IntKind.i64.wrap (t.lines + x.lines) = t.lines + x.lines := IntWalk.i64_in _ (by omega)
      have j1 : (m : Int) < (l.length : Int) := by omega
      clear hset hgs hci hm hok ht h0 htl hh hnc hcm hcs htk O2
      go_wp2_with fail
      go_ret
      have hfin := only_fresh G2.out HGS.out hb
      obtain ⟨A8, c8, e8, hc8, hm8, -, hr8⟩ := Rd.of_own HO.out (by decide)
      injection e8 with e81 e82 e83
      subst e81 e83
      have hll : (l.set m ⟨t.host, t.rule, t.lines + x.lines⟩).length = l.length := List.length_set
      rw [HV.out]
      exact ⟨some ⟨g, 0, none⟩, c1, by rw [hll]; rfl, by rw [hll]; exact hc8, hm8, hr8, hfin⟩
  | false =>
    have HV : Hid (mrg l [x] = l.take m ++ x :: l.drop m) := Lib.hid (mrg_at m LT.out (fun t ht => by
      rw [hm] at ht
      exact cfTal_gt (lowC_ge ht) (okC_false hok ht)))
    rw [← hm]
    obtain ⟨x0, hx0⟩ : ∃ x0 : Tal, x0 = ⟨x.host, x.rule, 0⟩ := ⟨_, rfl⟩
    obtain ⟨vb, hvb⟩ : ∃ vb, vb = w2.heap.size := ⟨_, rfl⟩
    obtain ⟨W3, hW3⟩ : ∃ W3, W3 = w2.alloc (.cells #[.int .i64 x.host, .string x.rule, .int .i64 0] 62) := ⟨_, rfl⟩
    have hB3 : Blk W3 vb 62 x0.cells.toArray := by rw [hW3, hvb, hx0]; exact Blk.new w2 _ _
    have ga : w2.grownBy W3 none := by rw [hW3]; exact only_alloc (only_refl _ _) _
    have O3 := Lib.hid (own_ext O2.out ga)
    have hne : (Value.slice A1 l.length c1).ownBlock ≠ some vb := fun e => by have := (O2.out.lt vb e).2; omega
    have G3 := Lib.hid (only_trans G2.out ga)
    have hs3 : w.heap.size ≤ W3.heap.size := G3.out.size
    have KI := Lib.hid (insertTal_any A1 l c1 m vb w.heap.size x0 W3 O3.out hB3 hml (by omega) hne hs3)
    have HW3 := Lib.hid hW3.symm
    have HVB := Lib.hid hvb.symm
    have HX0 := Lib.hid hx0
    clear hm hok hW3 hvb hB3 ga hne hx0 O2
    go_upto_region 6 with fail
    go_wp2_with fail
    rw [HW3.out, HVB.out]
    refine KI.out.mono ?_
    rintro e w4 ⟨A4, c4, rfl, ho4, hg4⟩
    obtain ⟨ys, hys⟩ : ∃ ys, ys = l.take m ++ x0 :: l.drop m := ⟨_, rfl⟩
    rw [← hys] at ho4 ⊢
    have hym : ys[m]? = some x0 := by
      rw [hys, List.getElem?_append_right (by rw [List.length_take]; omega), List.length_take, Nat.min_eq_left hml]; simp
    have hyl : ys.length = l.length + 1 := by rw [hys]; simp; omega
    have hyset : ys.set m ⟨x0.host, x0.rule, x.lines⟩ = mrg l [x] := by
      have e1 : x0.host = x.host := by rw [HX0.out]
      have e2 : x0.rule = x.rule := by rw [HX0.out]
      rw [HV.out, hys, List.set_append_right _ _ (by rw [List.length_take]; omega), List.length_take, Nat.min_eq_left hml, Nat.sub_self, List.set_cons_zero, e1, e2]
    have G4 : Hid (w.grownBy w4 none) := Lib.hid (only_own G3.out hg4 O3.out (Nat.le_refl _))
    rcases ho4.2 with ⟨e, h0'⟩ | ⟨g, cap, cur, e, hb, hh, hnc, hcm, hcs, htk⟩
    · omega
    · injection e with e1 e2 e3
      subst e1 e3
      obtain ⟨hset, hgs⟩ := tals_set ho4 hym x.lines
      have HO := Lib.hid hset
      have HGS := Lib.hid hgs
      have hci := own_cellR (k := m * 3 + 2) ho4 (by omega)
      have hcv : w4.cell? ⟨g, m * 3 + 2, none⟩ = some (.int .i64 0) := by
        rw [hci.1, tflat_at hym 2 (by omega)]; rw [HX0.out]; rfl
      have hfz : w4.frozen? ⟨g, m * 3 + 2, none⟩ = false := hci.2
      have hadd : IntKind.i64.wrap (0 + x.lines) = x.lines := by rw [Int.zero_add]; exact IntWalk.i64_in _ (by omega)
      have hadd2 : IntKind.i64.wrap x.lines = x.lines := IntWalk.i64_in _ (by omega)
      have j1 : (m : Int) < (ys.length : Int) := by omega
      have HYS := Lib.hid hyset
      have HYL := Lib.hid hyl
      clear hset hgs hci hh hnc hcm hcs htk ho4 hg4 hys hym hyset hyl O3 KI HW3 HVB
      go_wp2_with fail
      go_ret
      have hfin := only_fresh G4.out HGS.out hb
      obtain ⟨A8, c8, e8, hc8, hm8, -, hr8⟩ := Rd.of_own HO.out (by decide)
      injection e8 with e81 e82 e83
      subst e81 e83
      have hll : (ys.set m ⟨x0.host, x0.rule, x.lines⟩).length = ys.length := List.length_set
      rw [← HYS.out]
      exact ⟨some ⟨g, 0, none⟩, c4, by rw [hll]; rfl, by rw [hll]; exact hc8, hm8, hr8, hfin⟩
end Go.Proofs.Ytiogpomgpknjlaa
