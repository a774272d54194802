/- tiers.Put and tiers.Delete. Condition: sizes, the order of the shelf. -/
import Derived.Test.YtganfhmjklcchaaDelT
import Derived.Test.YtganfhmjklcchaaInsB
import Derived.Test.YtganfhmjklcchaaCloneB
import Derived.Test.YtganfhmjklcchaaApart
import Derived.Deep.DeepCutAuto
import Derived.Deep.RegionLaw
namespace Go.Proofs.Ytganfhmjklcchaa
open Go.RowKit
set_option linter.unusedVariables false
set_option linter.unusedSimpArgs false

theorem rd_none {S : Nat → Prop} {w : World} {bs : List BlobD} (h : Rd S w none (bs.flatMap BlobD.cells)) : bs.length = 0 := by
  rcases bs with _ | ⟨y, ys⟩
  · rfl
  · exact absurd rfl (h.ne_none (by simp [BlobD.cells]))
theorem put_sub {bs : List BlobD} {i t : Int} {x : BlobD} {S : Nat → Prop} {w : World} (h : ∀ y ∈ bs, y.Sub S w) (hx : x.Sub S w) : ∀ y ∈ putB bs i t x, y.Sub S w := fun y hy => by
  unfold putB at hy
  split at hy
  · rcases List.mem_or_eq_of_mem_set hy with hy | rfl
    · exact h y hy
    · exact hx
  · rcases List.mem_append.1 hy with hy | hy
    · exact h y (List.mem_of_mem_take hy)
    · rcases List.mem_cons.1 hy with rfl | hy
      · exact hx
      · exact h y (List.mem_of_mem_drop hy)
theorem del_sub {bs : List BlobD} {i t : Int} {y : BlobD} (h : y ∈ delB bs i t) : y ∈ bs := by
  unfold delB at h
  split at h
  · rcases List.mem_append.1 h with h | h
    · exact List.mem_of_mem_take h
    · exact List.mem_of_mem_drop h
  · exact h
theorem put_set {w : World} {base g c m : Nat} {bs : List BlobD} {x : BlobD} (h : w.ownsRow base 30 3 (.slice (some ⟨g, 0, none⟩) bs.length c) bs.length (bs.flatMap BlobD.cells)) (hm : m < bs.length) :
    (((w.setCell ⟨g, m * 3, none⟩ (.int .i64 x.id)).setCell ⟨g, m * 3 + 1, none⟩ (.int .i64 x.tier)).setCell ⟨g, m * 3 + 2, none⟩ (.slice x.A x.data.length x.c)).ownsRow base 30 3 (.slice (some ⟨g, 0, none⟩) bs.length c) bs.length ((bs.set m x).flatMap BlobD.cells) := by
  have h1 := own_putk (k := m * 3) (u := .int .i64 x.id) h (by omega)
  have h2 := own_putk (k := m * 3 + 1) (u := .int .i64 x.tier) h1 (by omega)
  have h3 := own_putk (k := m * 3 + 2) (u := .slice x.A x.data.length x.c) h2 (by omega)
  have e : (bs.set m x).flatMap BlobD.cells = (((bs.flatMap BlobD.cells).set (m * 3) (.int .i64 x.id)).set (m * 3 + 1) (.int .i64 x.tier)).set (m * 3 + 2) (.slice x.A x.data.length x.c) := by
    clear h h1 h2 h3
    induction bs generalizing m with
    | nil => simp at hm
    | cons y ys ih =>
      rcases m with _ | m
      · simp [BlobD.cells]
      · have := ih (m := m) (by simpa using hm)
        have q0 : (m + 1) * 3 = (m * 3) + 3 := by omega
        simp only [List.set_cons_succ, List.flatMap_cons, this, q0]
        simp [BlobD.cells, List.set_cons_succ, Nat.add_assoc]
  rw [e]; exact h3
theorem put_mid {w : World} {base g c m : Nat} {bs : List BlobD} {x : BlobD} (h : w.ownsRow base 30 3 (.slice (some ⟨g, 0, none⟩) bs.length c) bs.length (bs.flatMap BlobD.cells)) (hm : m < bs.length) :
    (∃ v, w.cell? ⟨g, m * 3, none⟩ = some v) ∧ w.frozen? ⟨g, m * 3, none⟩ = false ∧
    (∃ v, (w.setCell ⟨g, m * 3, none⟩ (.int .i64 x.id)).cell? ⟨g, m * 3 + 1, none⟩ = some v) ∧ (w.setCell ⟨g, m * 3, none⟩ (.int .i64 x.id)).frozen? ⟨g, m * 3 + 1, none⟩ = false ∧
    (∃ v, ((w.setCell ⟨g, m * 3, none⟩ (.int .i64 x.id)).setCell ⟨g, m * 3 + 1, none⟩ (.int .i64 x.tier)).cell? ⟨g, m * 3 + 2, none⟩ = some v) ∧ ((w.setCell ⟨g, m * 3, none⟩ (.int .i64 x.id)).setCell ⟨g, m * 3 + 1, none⟩ (.int .i64 x.tier)).frozen? ⟨g, m * 3 + 2, none⟩ = false := by
  have hl : (bs.flatMap BlobD.cells).length = bs.length * 3 := flat_len _ 3 BlobD.cells_len bs
  have h1 := own_putk (k := m * 3) (u := .int .i64 x.id) h (by omega)
  have h2 := own_putk (k := m * 3 + 1) (u := .int .i64 x.tier) h1 (by omega)
  have q0 := own_cellR (k := m * 3) h (by omega)
  have q1 := own_cellR (k := m * 3 + 1) h1 (by omega)
  have q2 := own_cellR (k := m * 3 + 2) h2 (by omega)
  refine ⟨⟨_, q0.1.trans (List.getElem?_eq_getElem (by omega))⟩, q0.2, ⟨_, q1.1.trans (List.getElem?_eq_getElem (by simp only [List.length_set]; omega))⟩, q1.2, ⟨_, q2.1.trans (List.getElem?_eq_getElem (by simp only [List.length_set]; omega))⟩, q2.2⟩
set_option maxHeartbeats 8000000 in
set_option maxRecDepth 100000 in
theorem put_any {S : Nat → Prop} (A : Option Addr) (bs : List BlobD) (c : Nat) (x : BlobD) (w : World) (hr : Rd S w A (bs.flatMap BlobD.cells)) (hs : ∀ y ∈ bs, y.Sub S w) (hx : x.Sub S w) (hS : ∀ b, w.heap.size ≤ b → S b) (hl : bs.length ≤ 1000) (hc : bs.length ≤ c) (hcm : c ≤ maxLen) (hz : A = none → c = 0) (hb : BSrt bs) :
    Calls Try.prog 11 #[.slice A bs.length c, .agg x.cells.toArray] w (ShPost S w (fun bs' => ∃ x', x'.key = x.key ∧ bs' = putB bs x.id x.tier x')) := by
  obtain ⟨xb, hxb⟩ : ∃ b, b = w.heap.size := ⟨_, rfl⟩
  obtain ⟨W1, hW1⟩ : ∃ W, W = w.alloc (.cells x.cells.toArray 30) := ⟨_, rfl⟩
  have HB1 : Hid (Blk W1 xb 30 x.cells.toArray) := Lib.hid (by rw [hW1, hxb]; exact Blk.new w _ _)
  have g1 : w.grownBy W1 none := by rw [hW1]; exact only_alloc (only_refl _ _) _
  have G1 := Lib.hid g1
  have hxw : w.heap.size ≤ xb := by omega
  have hsz1 : w.heap.size ≤ W1.heap.size := g1.size
  have HRW := Lib.hid (hr.mono (S' := (· < w.heap.size)) (fun b _ hlt => hlt))
  have HSB := Lib.hid hs
  have HXS := Lib.hid hx
  have HS0 := Lib.hid hS
  have KC := Lib.hid (cloneBy_any x.A x.data.length x.c (x.data.map (.int .u8)) W1 (hx.1.grown g1 (by simp)) (by simp) hx.2.2.2 (by simp [Value.oneCell']) (fun hA => by
    by_cases h0 : 0 < (x.data.map (Value.int .u8)).length
    · obtain ⟨b', o', e', -⟩ := hx.1 h0; rw [hA] at e'; cases e'
    · simpa using h0))
  have hlow := lowC_le (cf := cfBlob x.id x.tier) bs
  have b2 := HB1.out.cell 2
  simp [BlobD.cells] at b2
  have HW1 := Lib.hid hW1.symm
  have HXE := Lib.hid hxb.symm
  have HMo := Lib.hid (hb.mono x.id x.tier)
  clear hW1 hxb g1 hr hs hx hS hz hb
  go_enter Try.func11, Try.ntmps11
  go_upto_region 1 with fail
  rw [HW1.out, HXE.out]
  clear HW1 HXE
  go_wp2_with fail
  refine KC.out.mono ?_
  rintro e w3 ⟨A3, c3, rfl, ho3, hg3⟩
  have D3 := Lib.hid ho3
  have G3 := Lib.hid hg3
  have hB3 := Lib.hid (HB1.out.grown hg3 (by simp))
  have c2' := hB3.out.cell 2
  have f2' := hB3.out.frozen 2
  simp [BlobD.cells] at c2'
  clear ho3 hg3 KC b2
  go_upto_region 2 with fail
  obtain ⟨x', hx'⟩ : ∃ x' : BlobD, x' = { x with A := A3, c := c3 } := ⟨_, rfl⟩
  obtain ⟨W4, hW4⟩ : ∃ W, W = w3.setCell ⟨xb, 2, none⟩ (.slice A3 x.data.length c3) := ⟨_, rfl⟩
  have gs : w3.grownBy W4 (some xb) := by rw [hW4]; exact only_setCell (only_refl _ _) (p := ⟨xb, 2, none⟩) (.inl rfl) _
  have HB4 : Hid (Blk W4 xb 30 x'.cells.toArray) := Lib.hid (by
    have := hB3.out.set_ 2 (.slice A3 x.data.length c3)
    rw [hW4, hx']; simpa [BlobD.cells] using this)
  have D4 := Lib.hid (D3.out.kept gs (by
    have := blk_norow hB3.out D3.out (by decide)
    exact .inr this))
  have G4 := Lib.hid (only_fresh (only_trans G1.out G3.out) gs hxw)
  have hsz4 : w.heap.size ≤ W4.heap.size := G4.out.size
  have HX' := Lib.hid hx'
  have HW4 := Lib.hid hW4.symm
  clear hB3 gs hW4 hx' D3
  rw [HW4.out]
  clear c2' f2' HW4
  have b0 := HB4.out.cell 0
  have b1 := HB4.out.cell 1
  rw [HX'.out] at b0 b1
  simp [BlobD.cells] at b0 b1
  have R4 := Lib.hid (HRW.out.grown G4.out (by simp))
  have KF := Lib.hid (findBlob_any A bs c x.id x.tier W4 R4.out (by omega) HMo.out)
  go_wp2_with fail
  refine KF.out.mono ?_
  rintro e w5 ⟨rfl, hg5⟩
  have G5 := Lib.hid (only_trans G4.out hg5)
  have HB5 := Lib.hid (HB4.out.grown hg5 (by simp))
  have D5 := Lib.hid (own_ext D4.out hg5)
  have R5 := Lib.hid (R4.out.grown hg5 (by simp))
  have hsz5 : w.heap.size ≤ w5.heap.size := G5.out.size
  clear hg5 KF b0 b1 D4 HB4
  cases hok : okC (cfBlob x.id x.tier) bs with
  | true =>
    have hok2 := hok
    obtain ⟨y, hy, -⟩ := okC_some hok
    obtain ⟨m, hm⟩ : ∃ m, m = lowC (cfBlob x.id x.tier) bs := ⟨_, rfl⟩
    have PV : Hid (putB bs x.id x.tier x' = bs.set m x') := Lib.hid (by unfold putB; rw [hok, if_pos rfl, hm])
    rw [← hm] at hy hlow ⊢
    have hml : m < bs.length := (List.getElem?_eq_some_iff.1 hy).1
    have KL := Lib.hid (cloneBl_any A bs.length c (bs.flatMap BlobD.cells) w5 R5.out (flat_len _ 3 BlobD.cells_len bs) (by omega) (flat_one BlobD.one _) (fun e => by have := R5.out; rw [e] at this; exact rd_none this))
    clear hok hok2 hm hy
    go_wp2_with fail
    refine KL.out.mono ?_
    rintro e w6 ⟨A6, c6, rfl, ho6, hg6⟩
    rcases ho6.2 with ⟨e, h0'⟩ | ⟨g, cap, cur, e, hb, hh, hnc, hcm6, hcs, htk⟩
    · injection e; omega
    · injection e with e1 e2 e3
      subst e1 e3
      have hset := put_set (x := x') ho6 hml
      have HB6 := HB5.out.grown hg6 (by simp)
      have b0 := HB6.cell 0
      have b1 := HB6.cell 1
      have b2 := HB6.cell 2
      rw [HX'.out] at b0 b1 b2
      simp [BlobD.cells] at b0 b1 b2
      have hgl : g < w6.heap.size := (Array.getElem?_eq_some_iff.1 hh).1
      obtain ⟨⟨v0, s0⟩, f0, ⟨v1, s1⟩, f1, ⟨v2, s2⟩, f2⟩ := put_mid (x := x') ho6 hml
      have e1 : x'.id = x.id := by rw [HX'.out]
      have e2 : x'.tier = x.tier := by rw [HX'.out]
      have e3 : x'.A = A3 := by rw [HX'.out]
      have e4 : x'.data = x.data := by rw [HX'.out]
      have e5 : x'.c = c3 := by rw [HX'.out]
      rw [e1] at s1 f1 s2 f2
      rw [e2] at s2 f2
      rw [e1, e2, e3, e4, e5] at hset
      have HO := Lib.hid hset
      have hgs : w6.grownBy (((w6.setCell ⟨g, m * 3, none⟩ (.int .i64 x.id)).setCell ⟨g, m * 3 + 1, none⟩ (.int .i64 x.tier)).setCell ⟨g, m * 3 + 2, none⟩ (.slice A3 x.data.length c3)) (some g) := only_setCell (only_setCell (only_setCell (only_refl _ _) (p := ⟨g, m * 3, none⟩) (.inl rfl) _) (p := ⟨g, m * 3 + 1, none⟩) (.inl rfl) _) (p := ⟨g, m * 3 + 2, none⟩) (.inl rfl) _
      have HGS := Lib.hid hgs
      have G6 := Lib.hid (only_fresh (only_trans G5.out hg6) hgs (Nat.le_trans hsz5 hb))
      have D6 := Lib.hid ((own_ext D5.out hg6).kept hgs (by
        have := blk_norow (show Blk w6 g 30 cur from hh) (own_ext D5.out hg6) (by decide)
        exact .inr this))
      clear e1 e2 e3 e4 e5 hset hgs
      have j1 : (m : Int) < (bs.length : Int) := by omega
      clear hcs htk hh hnc KL HB6 ho6
      go_wp2_with fail
      go_ret
      obtain ⟨A8, c8, e8, hc8, hm8, -, hr8⟩ := Rd.of_own HO.out (by decide)
      injection e8 with e81 e82 e83
      subst e81 e83
      obtain ⟨A7, c7, e7, hc7, hm7, -, hr7⟩ := Rd.of_own D6.out (by decide)
      injection e7 with e71 e72 e73
      subst e71 e73
      have hll : (bs.set m x').length = bs.length := List.length_set
      rw [← hll] at hc8
      exact ⟨some ⟨g, 0, none⟩, c6, bs.set m x', by rw [hll]; rfl, ⟨x', by rw [HX'.out]; rfl, PV.out.symm⟩, hc8, hm8, (by simp), hr8.mono (fun b hb' _ => HS0.out b (Nat.le_trans hsz5 hb')), (by
        rw [← PV.out]
        exact put_sub (fun y hy => (HSB.out y hy).grown G6.out (by simp)) (by
          rw [HX'.out]; exact ⟨hr7.mono (fun b hb' _ => HS0.out b (Nat.le_trans hsz1 hb')), hc7, hm7, HXS.out.2.2.2⟩)), G6.out⟩
  | false =>
    obtain ⟨m, hm⟩ : ∃ m, m = lowC (cfBlob x.id x.tier) bs := ⟨_, rfl⟩
    have PV : Hid (putB bs x.id x.tier x' = bs.take m ++ x' :: bs.drop m) := Lib.hid (by rw [hm]; exact putB_no hok)
    obtain ⟨ys, hys⟩ : ∃ ys, bs.take m ++ x' :: bs.drop m = ys := ⟨_, rfl⟩
    rw [hys] at PV
    have HYL : Hid (0 < ys.length) := Lib.hid (by rw [← hys]; simp; omega)
    have HYS := Lib.hid hys
    rw [← hm] at hlow ⊢
    have KLw := Lib.hid (fun (wx : World) (hx : w5.grownBy wx none) => cloneBl_any A bs.length c (bs.flatMap BlobD.cells) wx (R5.out.grown hx (by simp)) (flat_len _ 3 BlobD.cells_len bs) (by omega) (flat_one BlobD.one _) (fun e => by have := R5.out; rw [e] at this; exact rd_none this))
    have HB5' := HB5.out
    have b0 := HB5'.cell 0
    have b1 := HB5'.cell 1
    have b2 := HB5'.cell 2
    rw [HX'.out] at b0 b1 b2
    simp [BlobD.cells] at b0 b1 b2
    clear hok hm HB5' hys
    go_wp2_with fail
    go_region_law (first
      | (have htok := hO6a; go_simp; go_at_call 30; go_must (refine Calls.mono (insertBlob_any A6 bs c6 m w6.heap.size w.heap.size x' (w6.alloc (.cells #[.int .i64 x.id, .int .i64 x.tier, .slice A3 x.data.length c3] 30)) (own_ext hO6 (only_alloc (only_refl _ _) (.cells #[.int .i64 x.id, .int .i64 x.tier, .slice A3 x.data.length c3] 30))) (by rw [HX'.out]; exact Blk.new w6 _ _) hlow (by omega) (fun e => by have := (hO6.lt _ e).2; omega) (Nat.le_trans G6.size (by simp))) ?_); go_must (rintro e w8 ⟨A8, c8, rfl, hO8, hg8⟩); go_must (rw [HYS.out] at hO8 ⊢); go_must (have hO7 := own_ext hO6 (only_alloc (only_refl w6 none) (.cells #[.int .i64 x.id, .int .i64 x.tier, .slice A3 x.data.length c3] 30))); go_must (have D7 := own_ext D6 (only_alloc (only_refl w6 none) (.cells #[.int .i64 x.id, .int .i64 x.tier, .slice A3 x.data.length c3] 30))); go_must (have G8 : Hid (w.grownBy w8 none) := Lib.hid (only_own (only_alloc G6 (.cells #[.int .i64 x.id, .int .i64 x.tier, .slice A3 x.data.length c3] 30)) hg8 (own_ext hO6 (only_alloc (only_refl _ _) (.cells #[.int .i64 x.id, .int .i64 x.tier, .slice A3 x.data.length c3] 30))) (Nat.le_refl _))); go_must (have D8 : Hid (w8.ownsRow W1.heap.size 5 1 (.slice A3 x.data.length c3) x.data.length (x.data.map (.int .u8))) := Lib.hid (D7.kept hg8 (own_two D7 hO7 (by decide)))))
      | (have htok := hO6b; go_simp; go_at_call 30; go_must (refine Calls.mono (insertBlob_any A6 bs c6 m w5.heap.size w.heap.size x' w6 hO6 (by rw [HX'.out]; exact (Blk.new w5.drew _ _).grown hg6 (by simp)) hlow (by omega) (fun e => by have := (hO6b.lt _ e).1; simp at this; omega) G6.size) ?_); go_must (rintro e w8 ⟨A8, c8, rfl, hO8, hg8⟩); go_must (rw [HYS.out] at hO8 ⊢); go_must (have G8 : Hid (w.grownBy w8 none) := Lib.hid (only_own G6 hg8 hO6 (Nat.le_refl _))); go_must (have D8 : Hid (w8.ownsRow W1.heap.size 5 1 (.slice A3 x.data.length c3) x.data.length (x.data.map (.int .u8))) := Lib.hid (D6.kept hg8 (own_two D6 hO6 (by decide)))))
      | (go_simp; go_at_call 25; (with_reducible refine Calls.mono (KLw.out w5.drew (only_drew (only_refl _ _))) ?_); rintro e w6 ⟨A6, c6, rfl, hO6a, hg6⟩; have HB6 := HB5.out.drew.grown hg6 (by simp); have d0 := HB6.cell 0; have d1 := HB6.cell 1; have d2 := HB6.cell 2; rw [HX'.out] at d0 d1 d2; simp [BlobD.cells] at d0 d1 d2; have hO6 := own_low hO6a (b2 := w.heap.size) (by simp; omega); have G6 : w.grownBy w6 none := only_trans (only_drew G5.out) hg6; have D6 := own_ext (own_ext D5.out (only_drew (only_refl _ _))) hg6)
      | (go_simp; go_at_call 25; go_must (refine Calls.mono (KLw.out (w5.drew.alloc (.cells #[.int .i64 x.id, .int .i64 x.tier, .slice A3 x.data.length c3] 30)) (only_alloc (only_drew (only_refl _ _)) _)) ?_); rintro e w6 ⟨A6, c6, rfl, hO6b, hg6⟩; have HB6 := (HB5.out.drew.alloc (.cells #[.int .i64 x.id, .int .i64 x.tier, .slice A3 x.data.length c3] 30)).grown hg6 (by simp); have d0 := HB6.cell 0; have d1 := HB6.cell 1; have d2 := HB6.cell 2; rw [HX'.out] at d0 d1 d2; simp [BlobD.cells] at d0 d1 d2; have hO6 := own_low hO6b (b2 := w.heap.size) (by simp; omega); have G6 : w.grownBy w6 none := only_trans (only_alloc (only_drew G5.out) _) hg6; have D6 := own_ext (own_ext D5.out (only_alloc (only_drew (only_refl _ _)) (.cells #[.int .i64 x.id, .int .i64 x.tier, .slice A3 x.data.length c3] 30))) hg6))
    all_goals
      have O8 : Hid (w8.ownsRow w.heap.size 30 3 (.slice A8 ys.length c8) ys.length (ys.flatMap BlobD.cells)) := Lib.hid hO8
      clear hO8 hg8 hO6 hg6 HB6 d0 d1 d2 b0 b1 b2 G6 D6 KLw
      go_wp2_with fail
      go_ret
      obtain ⟨A9, c9, e9, hc9, hm9, -, hr9⟩ := Rd.of_own O8.out (by decide)
      injection e9 with e91 e92 e93
      subst e91 e93
      obtain ⟨A7, c7, e7, hc7, hm7, -, hr7⟩ := Rd.of_own D8.out (by decide)
      injection e7 with e71 e72 e73
      subst e71 e73
      exact ⟨A8, c8, ys, rfl, ⟨x', by rw [HX'.out]; rfl, PV.out.symm⟩, hc9, hm9, (fun e => absurd e (hr9.ne_none (by rw [flat_len _ 3 BlobD.cells_len]; have := HYL.out; omega))), hr9.mono (fun b hb' _ => HS0.out b hb'), (by
        rw [← PV.out]
        exact put_sub (fun y hy => (HSB.out y hy).grown G8.out (by simp)) (by
          rw [HX'.out]; exact ⟨hr7.mono (fun b hb' _ => HS0.out b (Nat.le_trans hsz1 hb')), hc7, hm7, HXS.out.2.2.2⟩)), G8.out⟩
set_option maxHeartbeats 8000000 in
set_option maxRecDepth 100000 in
theorem del_any {S : Nat → Prop} (A : Option Addr) (bs : List BlobD) (c : Nat) (i t : Int) (w : World) (hr : Rd S w A (bs.flatMap BlobD.cells)) (hs : ∀ y ∈ bs, y.Sub S w) (hS : ∀ b, w.heap.size ≤ b → S b) (hl : bs.length ≤ 1000) (hb : BSrt bs) :
    Calls Try.prog 9 #[.slice A bs.length c, .int .i64 i, .int .i64 t] w (ShPost S w (fun bs' => bs' = delB bs i t)) := by
  have KC := Lib.hid (cloneBl_any A bs.length c (bs.flatMap BlobD.cells) w hr (flat_len _ 3 BlobD.cells_len bs) (by omega) (flat_one BlobD.one _) (fun e => by rw [e] at hr; exact rd_none hr))
  have HSB := Lib.hid hs
  have HS0 := Lib.hid hS
  have HMo := Lib.hid (hb.mono i t)
  have hlow := lowC_le (cf := cfBlob i t) bs
  clear hr hs hS hb
  go_enter Try.func9, Try.ntmps9
  go_wp2_with fail
  refine KC.out.mono ?_
  rintro e w1 ⟨A1, c1, rfl, ho1, hg1⟩
  obtain ⟨A9, c9, e9, hc9, hm9, -, hr9⟩ := Rd.of_own ho1 (by decide)
  injection e9 with e91 e92 e93
  subst e91 e93
  have O1 := Lib.hid ho1
  have G1 := Lib.hid hg1
  have HC9 := Lib.hid hc9
  have KF := Lib.hid (findBlob_any A1 bs c1 i t w1 hr9 (by omega) HMo.out)
  clear ho1 hg1 hr9 KC
  go_wp2_with fail
  refine KF.out.mono ?_
  rintro e w2 ⟨rfl, hg2⟩
  have O2 := Lib.hid (own_ext O1.out hg2)
  have G2 := Lib.hid (only_trans G1.out hg2)
  clear hg2 KF O1
  cases hok : okC (cfBlob i t) bs with
  | true =>
    obtain ⟨y, hy, -⟩ := okC_some hok
    have PV : Hid (delB bs i t = bs.take (lowC (cfBlob i t) bs) ++ bs.drop (lowC (cfBlob i t) bs + 1)) := Lib.hid (by unfold delB; rw [hok, if_pos rfl])
    obtain ⟨m, hm⟩ : ∃ m, m = lowC (cfBlob i t) bs := ⟨_, rfl⟩
    rw [← hm] at hy hlow PV ⊢
    have hml : m < bs.length := (List.getElem?_eq_some_iff.1 hy).1
    obtain ⟨k, hk⟩ : ∃ k, bs.length = k + 1 := ⟨bs.length - 1, by omega⟩
    obtain ⟨ys, hys⟩ : ∃ ys, bs.take m ++ bs.drop (m + 1) = ys := ⟨_, rfl⟩
    rw [hys] at PV
    have hO := O2.out
    rw [hk] at hO ⊢
    rcases hO.2 with ⟨e, h0'⟩ | ⟨g, cap, cur, e, hb, hh, hnc, hcm6, hcs, htk⟩
    · injection e; omega
    · injection e with e1 e2 e3
      subst e1 e3
      have KD := Lib.hid (deleteBlob_any g c1 m w.heap.size k bs w2 hk hO (by omega))
      rw [hys] at KD
      have hwm : IntKind.i64.wrap ((m : Int) + 1) = (m : Int) + 1 := IntWalk.i64_in _ (by omega)
      have SUB : Hid (∀ y ∈ ys, y ∈ bs) := Lib.hid (fun y hy => by rw [← PV.out] at hy; exact del_sub hy)
      clear hok hm hy hys hO hh hnc hcs htk hk O2
      go_wp2_with fail
      refine KD.out.mono ?_
      rintro e w3 ⟨rfl, ho3, hg3⟩
      obtain ⟨A8, c8, e8, hc8, hm8, -, hr8⟩ := Rd.of_own ho3 (by decide)
      injection e8 with e81 e82 e83
      subst e81 e83
      have G3 := Lib.hid (only_fresh G2.out hg3 hb)
      have R3 := Lib.hid hr8
      clear ho3 hg3 hr8 KD
      go_wp2_with fail
      go_ret
      exact ⟨some ⟨g, 0, none⟩, c1, ys, rfl, PV.out.symm, hc8, hm8, (by simp), R3.out.mono (fun b hb' _ => HS0.out b hb'), (fun y hy => (HSB.out y (SUB.out y hy)).grown G3.out (by simp)), G3.out⟩
  | false =>
    have PV : Hid (delB bs i t = bs) := Lib.hid (by unfold delB; rw [hok]; simp)
    clear hok
    obtain ⟨A8, c8, e8, hc8, hm8, -, hr8⟩ := Rd.of_own O2.out (by decide)
    injection e8 with e81 e82 e83
    subst e81 e83
    have HN : Hid (A1 = none → c1 = 0) := Lib.hid (fun e => by have := O2.out; rw [e] at this; exact own_none this)
    have R2 := Lib.hid hr8
    clear hr8 hc9
    go_wp2_with fail
    go_ret
    exact ⟨A1, c1, bs, rfl, PV.out.symm, hc8, hm8, HN.out, R2.out.mono (fun b hb' _ => HS0.out b hb'), (fun y hy => (HSB.out y hy).grown G2.out (by simp)), G2.out⟩
end Go.Proofs.Ytganfhmjklcchaa
