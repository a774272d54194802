/- Remove of the reference of chapter 30, at identifiers that are there. Condition: sizes. -/
import Derived.Test.YtphglalphejppaaRemP
import Derived.Test.YtphglalphejppaaMLevR
import Derived.Test.YtphglalphejppaaCutG
import Derived.StillTailTactics
import Derived.Deep.DeepCutAuto
namespace Go.Proofs.Ytphglalphejppaa
open Go.RowKit
set_option linter.unusedVariables false
set_option linter.unusedSimpArgs false

theorem segSize : (Try.prog.info? 29).map (·.size) = some 7 := by kernel_rfl
theorem only_set7 {a w : World} {b : Nat} (h : a.grownBy w (some b)) (v0 v1 v2 v3 v4 v5 v6 : Value) : a.grownBy (((((((w.setCell ⟨b, 0, none⟩ v0).setCell ⟨b, 1, none⟩ v1).setCell ⟨b, 2, none⟩ v2).setCell ⟨b, 3, none⟩ v3).setCell ⟨b, 4, none⟩ v4).setCell ⟨b, 5, none⟩ v5).setCell ⟨b, 6, none⟩ v6) (some b) :=
  only_setCell (only_setCell (only_setCell (only_setCell (only_setCell (only_setCell (only_setCell h (p := ⟨b, 0, none⟩) (.inl rfl) v0) (p := ⟨b, 1, none⟩) (.inl rfl) v1) (p := ⟨b, 2, none⟩) (.inl rfl) v2) (p := ⟨b, 3, none⟩) (.inl rfl) v3) (p := ⟨b, 4, none⟩) (.inl rfl) v4) (p := ⟨b, 5, none⟩) (.inl rfl) v5) (p := ⟨b, 6, none⟩) (.inl rfl) v6
theorem blk_put7 {w : World} {g : Nat} {t : TypeId} {a0 a1 a2 a3 a4 a5 a6 : Value} (h : Blk w g t #[a0, a1, a2, a3, a4, a5, a6]) (v0 v1 v2 v3 v4 v5 v6 : Value) :
    Blk (((((((w.setCell ⟨g, 0, none⟩ v0).setCell ⟨g, 1, none⟩ v1).setCell ⟨g, 2, none⟩ v2).setCell ⟨g, 3, none⟩ v3).setCell ⟨g, 4, none⟩ v4).setCell ⟨g, 5, none⟩ v5).setCell ⟨g, 6, none⟩ v6) g t #[v0, v1, v2, v3, v4, v5, v6] := by
  simpa using ((((((h.set_ 0 v0).set_ 1 v1).set_ 2 v2).set_ 3 v3).set_ 4 v4).set_ 5 v5).set_ 6 v6
/-- a manifest and no error -/
def ManiOut (w : World) (num nid jn : Int) (B : Option Addr) (nb d : Nat) (C : Option Addr) (nc f : Nat) (E : Option Addr) (ne h : Nat) (ss : List SegD) (e : Ending) (w' : World) : Prop :=
  ∃ A c, e = .returned (.tuple #[.agg #[.int .i64 num, .int .i64 nid, .int .i64 jn, .slice A ss.length c, .slice B nb d, .slice C nc f, .slice E ne h], .int .i64 0]) ∧ ss.length ≤ c ∧ c ≤ maxLen ∧ Rd (w.heap.size ≤ ·) w' A (ss.flatMap SegD.cells) ∧ w.grownBy w' none
theorem seg_ones (ss : List SegD) : ∀ u ∈ ss.flatMap SegD.cells, u.oneCell' = true := by
  intro u hu
  obtain ⟨s, hs, h⟩ := List.mem_flatMap.1 hu
  exact s.one u h
set_option maxHeartbeats 8000000 in
set_option maxRecDepth 100000 in
theorem rremove_any {S S' S2 S3 S4 : Nat → Prop} (num nid jn : Int) (A : Option Addr) (ss : List SegD) (c : Nat) (B : Option Addr) (ms : List MarkD) (d : Nat) (C : Option Addr) (ts : List Tal) (f : Nat) (E : Option Addr) (xs : List Tal) (h : Nat) (I : Option Addr) (ids : List Int) (ci : Nat) (w : World) (hr : Rd S w A (ss.flatMap SegD.cells)) (hm : Rd S' w B (ms.flatMap MarkD.cells)) (ht : Rd S2 w C (ts.flatMap Tal.cells)) (hx : Rd S3 w E (xs.flatMap Tal.cells)) (hi : Rd S4 w I (ids.map (.int .i64))) (hil : ids.length ≤ 1000) (hk : MOk num nid jn ss ms ts xs) (hn : num < 1000) (hids : IdsIn ss ids) :
    Calls Try.prog 26 #[.agg #[.int .i64 num, .int .i64 nid, .int .i64 jn, .slice A ss.length c, .slice B ms.length d, .slice C ts.length f, .slice E xs.length h], .slice I ids.length ci] w (ManiOut w (num + 1) nid jn B ms.length d C ts.length f E xs.length h (remL ss ids)) := by
  obtain ⟨W1, hW1⟩ : ∃ W1, W1 = (w.alloc (.cells #[.int .i64 num, .int .i64 nid, .int .i64 jn, .slice A ss.length c, .slice B ms.length d, .slice C ts.length f, .slice E xs.length h] 52)).alloc (.cells #[.int .i64 0, .int .i64 0, .int .i64 0, .slice none 0 0, .slice none 0 0, .slice none 0 0, .slice none 0 0] 52) := ⟨_, rfl⟩
  have G1 : Hid (w.grownBy W1 none) := Lib.hid (by rw [hW1]; exact only_alloc (only_alloc (only_refl _ _) _) _)
  have hs1 : w.heap.size + 2 = W1.heap.size := by rw [hW1]; simp
  obtain ⟨mb, hmb⟩ : ∃ b, b = w.heap.size := ⟨_, rfl⟩
  obtain ⟨rb, hrb⟩ : ∃ b, b = w.heap.size + 1 := ⟨_, rfl⟩
  have B1 : Hid (Blk W1 mb 52 #[.int .i64 num, .int .i64 nid, .int .i64 jn, .slice A ss.length c, .slice B ms.length d, .slice C ts.length f, .slice E xs.length h]) := Lib.hid (by rw [hW1, hmb]; exact (Blk.new w _ _).alloc _)
  have R1 : Hid (Blk W1 rb 52 #[.int .i64 0, .int .i64 0, .int .i64 0, .slice none 0 0, .slice none 0 0, .slice none 0 0, .slice none 0 0]) := Lib.hid (by
    have := Blk.new (w.alloc (.cells #[.int .i64 num, .int .i64 nid, .int .i64 jn, .slice A ss.length c, .slice B ms.length d, .slice C ts.length f, .slice E xs.length h] 52)) 52 #[.int .i64 0, .int .i64 0, .int .i64 0, .slice none 0 0, .slice none 0 0, .slice none 0 0, .slice none 0 0]
    rw [World.size_alloc] at this
    rw [hW1, hrb]; exact this)
  have HR := Lib.hid ((hr.mono (S' := (· < w.heap.size)) (fun b _ hb => hb)).grown G1.out (by simp))
  have HM := Lib.hid ((hm.mono (S' := (· < w.heap.size)) (fun b _ hb => hb)).grown G1.out (by simp))
  have HT := Lib.hid ((ht.mono (S' := (· < w.heap.size)) (fun b _ hb => hb)).grown G1.out (by simp))
  have HX := Lib.hid ((hx.mono (S' := (· < w.heap.size)) (fun b _ hb => hb)).grown G1.out (by simp))
  have HI := Lib.hid ((hi.mono (S' := (· < w.heap.size)) (fun b _ hb => hb)).grown G1.out (by simp))
  have HK := Lib.hid hk
  have HIDS := Lib.hid hids
  have HW := Lib.hid hW1.symm
  have HMB := Lib.hid hmb
  have HRB := Lib.hid hrb
  have hsl := hk.len
  have hnum := hk.hnum
  have KC := Lib.hid (fun W (hW : W1.grownBy W none) => rcheckm_any num nid jn A ss c B ms d C ts f E xs h W (HR.out.grown hW (by simp)) (HM.out.grown hW (by simp)) (HT.out.grown hW (by simp)) (HX.out.grown hW (by simp)) HK.out)
  clear hW1 hmb hrb hr hm ht hx hi hk hids
  go_enter Try.func26, Try.ntmps26
  go_upto_region 1 with fail
  rw [HW.out, ← HRB.out, ← HMB.out]
  clear HW
  have hmr : mb ≠ rb := by rw [HMB.out, HRB.out]; omega
  have b0 := B1.out.cell 0
  have b1 := B1.out.cell 1
  have b2 := B1.out.cell 2
  have b3 := B1.out.cell 3
  have b4 := B1.out.cell 4
  have b5 := B1.out.cell 5
  have b6 := B1.out.cell 6
  simp at b0 b1 b2 b3 b4 b5 b6
  go_wp2_with fail
  refine (KC.out _ (only_refl _ _)).mono ?_
  rintro e w2 ⟨rfl, hg2⟩
  clear b0 b1 b2 b3 b4 b5 b6
  have G2 := Lib.hid hg2
  have hB2 := B1.out.grown hg2 (by simp)
  have b3 := hB2.cell 3
  simp at b3
  have hs2 := hg2.size
  clear hg2 hB2
  go_wp2_with (at_builtin; refine wpList_appendN rfl _ _ 46 rfl w2.heap.size Try.underlying46 segInfo rfl (by decide) (v := .slice none 0 0) (by rfl) (World.ownsRow_nil _ _ _ _) (S := (· < w.heap.size)) A ss.length c (news := ss.flatMap SegD.cells) (by rfl) (HR.out.grown G2.out (by simp)) (flat_len _ 7 SegD.cells_len _) (seg_ones ss) (by decide) (by omega) (Nat.le_refl _) ?_; intro v3 w3 hown3 hg3 hob3)
  have O3 : Hid (w3.ownsRow w2.heap.size 29 7 v3 ss.length (ss.flatMap SegD.cells)) := Lib.hid (by simpa using hown3)
  have G3 : Hid (w2.grownBy w3 none) := Lib.hid hg3
  clear hown3 hg3 hob3 b3
  obtain ⟨A3, c3, rfl, -, -, -, -⟩ := Rd.of_own O3.out (by decide)
  go_loopw [7, 8] (fun vl vi wr => ∃ (i : Nat) (A' : Option Addr) (c' : Nat), vi = .int .i64 i ∧ i ≤ ids.length ∧ vl = .slice A' (remL ss (ids.take i)).length c' ∧ wr.ownsRow w2.heap.size 29 7 (.slice A' (remL ss (ids.take i)).length c') (remL ss (ids.take i)).length ((remL ss (ids.take i)).flatMap SegD.cells) ∧ w2.grownBy wr none) (fun _ vi _ => ids.length - (intOf vi).toNat)
  case atStart => exact ⟨0, A3, c3, rfl, Nat.zero_le _, rfl, O3.out, G3.out⟩
  case round =>
    obtain ⟨i, A', c', rfl, hi, rfl, hO, hG⟩ := hrel
    have O := Lib.hid hO
    have G := Lib.hid hG
    have GI := Lib.hid (only_trans G2.out hG)
    have hszr := hG.size
    have hll := HIDS.out.len HK.out.asc i hi
    clear hO hG
    by_cases hlt : i < ids.length
    · obtain ⟨b, o, x, rfl, hc, hx⟩ := (HI.out.grown GI.out (by simp)).int_at hlt
      have hx : Hid (ids[i]? = some x) := Lib.hid (by rw [List.getElem?_eq_getElem hlt, ← hx.out, getD_lt ids 0 hlt])
      obtain ⟨k, s, hsI, hks, hsx⟩ := HIDS.out.at hx.out
      have hkl := (List.getElem?_eq_some_iff.1 hks).1
      have HN : Hid (remL ss (ids.take (i + 1)) = (remL ss (ids.take i)).take k ++ (remL ss (ids.take i)).drop (k + 1)) := Lib.hid (by
        obtain ⟨q1, q2⟩ := List.getElem?_eq_some_iff.1 hx.out
        rw [List.take_succ_eq_append_getElem q1, q2, remL_snoc, ← hsx, del1_at (remL_asc HK.out.asc _) hks])
      obtain ⟨l, hl⟩ : ∃ l, l = remL ss (ids.take i) := ⟨_, rfl⟩
      rw [← hl] at hsI hkl O hll HN ⊢
      have HL := Lib.hid hl
      have KI := Lib.hid (rindex_any A' l c' x wr ((by obtain ⟨_, _, e0, -, -, -, hrd⟩ := Rd.of_own O.out (by decide); injection e0 with e1 e2 e3; subst e1; exact hrd)) (by omega))
      rw [hsI] at KI
      have i1 : (i : Int) < (ids.length : Int) := by omega
      have i2 : (0 : Int) ≤ (i : Int) := by omega
      clear hl hsI hks hsx
      go_wp2_with fail
      refine KI.out.mono ?_
      rintro e w5 ⟨rfl, rfl⟩
      obtain ⟨A6, c6, e6, hc6, hm6, -, hr6⟩ := Rd.of_own O.out (by decide)
      injection e6 with e61 e62 e63
      subst e61 e63
      obtain ⟨ba, oa, rfl, -, -, -⟩ := hr6 (by rw [flat_len _ 7 SegD.cells_len]; omega)
      have OP := Lib.hid (own_prefix (k := k) O.out (by omega) (by omega))
      have HRd := Lib.hid hr6
      unfold maxLen at hm6
      have i3 : (k : Int) + 1 ≤ (l.length : Int) := by omega
      have i4 : (l.length : Int) ≤ (c' : Int) := by omega
      have i5 : (0 : Int) ≤ (k : Int) := by omega
      have i6 : (k : Int) ≤ (c' : Int) := by omega
      have hwk : IntKind.i64.wrap ((k : Int) + 1) = (k : Int) + 1 := IntWalk.i64_in _ (by omega)
      clear hr6 KI hc
      have hrd := HRd.out.cutG_ (z := 7) (n := l.length) (c := c') (k := k + 1) (flat_len _ 7 SegD.cells_len _) hc6 (by omega)
      have hnl : ((l.flatMap SegD.cells).drop ((k + 1) * 7)).length = (l.length - (k + 1)) * 7 := by rw [List.length_drop, flat_len _ 7 SegD.cells_len]; omega
      have hn1 : ∀ u ∈ (l.flatMap SegD.cells).drop ((k + 1) * 7), u.oneCell' = true := fun u hu => seg_ones l u (List.drop_subset _ _ hu)
      go_upto_region 11 with fail
      go_still_tail 7, (by kernel_rfl)
      refine wpStill_cutG (k := k + 1) rfl rfl Try.underlying46 segSize (by rfl) (by rfl) (by omega) (by omega) ?_
      repeat still_step
      refine wpStill_nil ?_
      change wpList _ _ _ _ _ wr.drew
      refine wpList_appendN rfl _ _ 46 rfl w2.heap.size Try.underlying46 segInfo rfl (by decide) (v := .slice (some ⟨ba, oa, none⟩) k c') (by rfl) (own_drew OP.out) (S := (w2.heap.size ≤ ·)) (some ⟨ba, cutG oa 7 c' (k + 1), none⟩) (l.length - (k + 1)) (c' - (k + 1)) (news := (l.flatMap SegD.cells).drop ((k + 1) * 7)) (by rfl) (by exact hrd) hnl hn1 (by decide) (by omega) (by show w2.heap.size ≤ wr.heap.size; omega) ?_
      intro v5 w5 hown5 hg5 hob5
      have hcl : (l.flatMap SegD.cells).take (k * 7) ++ (l.flatMap SegD.cells).drop ((k + 1) * 7) = (remL ss (ids.take (i + 1))).flatMap SegD.cells := by
        rw [HN.out, List.flatMap_append, flat_take SegD.cells_len, flat_drop SegD.cells_len]
      have hll2 : k + (l.length - (k + 1)) = (remL ss (ids.take (i + 1))).length := by
        rw [HN.out, List.length_append, List.length_take, List.length_drop]; omega
      rw [hcl, hll2] at hown5
      have G5 : Hid (w2.grownBy w5 none) := Lib.hid (only_own (only_drew G.out) hg5 (own_drew OP.out) (Nat.le_refl _))
      obtain ⟨A5, c5, rfl, -, -, -, -⟩ := Rd.of_own hown5 (by decide)
      have O5 := Lib.hid hown5
      clear hown5 hg5 hob5 hcl hll2 hrd hnl hn1
      go_wp2_with fail
      go_roundw
      case rel => exact ⟨i + 1, A5, c5, by go_num, by omega, rfl, O5.out, G5.out⟩
      case measure => simp [intOf]; omega
    · have i1 : ¬ ((i : Int) < (ids.length : Int)) := by omega
      have hii : i = ids.length := by omega
      rw [List.take_of_length_le (show ids.length ≤ i by omega)] at O ⊢
      have hB := B1.out.grown GI.out (by simp)
      have b0 := hB.cell 0
      have b3 := hB.cell 3
      have f0 := hB.frozen 0
      have f3 := hB.frozen 3
      simp at b0 b3
      have hwn : IntKind.i64.wrap (num + 1) = num + 1 := IntWalk.i64_in _ (by omega)
      clear hB hii
      go_upto_region 14 with fail
      obtain ⟨W6, hW6⟩ : ∃ W6, W6 = (wr.setCell ⟨mb, 3, none⟩ (.slice A' (remL ss ids).length c')).setCell ⟨mb, 0, none⟩ (.int .i64 (num + 1)) := ⟨_, rfl⟩
      have g6 : wr.grownBy W6 (some mb) := by rw [hW6]; exact only_setCell (only_setCell (only_refl _ _) (p := ⟨mb, 3, none⟩) (.inl rfl) _) (p := ⟨mb, 0, none⟩) (.inl rfl) _
      have hmbw : mb < w2.heap.size := by have := HMB.out; omega
      have hmbW : w.heap.size ≤ mb := by have := HMB.out; omega
      have B6 := Lib.hid ((show Blk W6 mb 52 #[.int .i64 (num + 1), .int .i64 nid, .int .i64 jn, .slice A' (remL ss ids).length c', .slice B ms.length d, .slice C ts.length f, .slice E xs.length h] from by
        rw [hW6]; simpa using ((B1.out.grown GI.out (by simp)).set_ 3 (.slice A' (remL ss ids).length c')).set_ 0 (.int .i64 (num + 1))))
      have R6 := Lib.hid ((R1.out.grown GI.out (by simp)).grown g6 (by intro e; injection e with e; exact hmr e.symm))
      have O6 := Lib.hid (O.out.kept g6 (by
        cases hu : (Value.slice A' (remL ss ids).length c').ownBlock with
        | none => exact .inl rfl
        | some j => have := (O.out.lt j hu).1; exact .inr (by intro e; injection e with e; omega)))
      have G6 := Lib.hid (only_fresh (only_trans G1.out GI.out) g6 hmbW)
      have hM : W1.grownBy W6 (some mb) := only_trans (only_of_none GI.out _) g6
      obtain ⟨A7, c7, e7, hc7, hm7, -, hr7⟩ := Rd.of_own O6.out (by decide)
      injection e7 with e71 e72 e73
      subst e71 e73
      have HR6 := Lib.hid hr7
      have hs6 : w2.heap.size ≤ W6.heap.size := by have := g6.size; omega
      have hmb1 : ∀ b, b < w.heap.size → some b ≠ some mb := fun b hb e => by injection e with e; omega
      have HM6 := Lib.hid (HM.out.grown hM hmb1)
      have HT6 := Lib.hid (HT.out.grown hM hmb1)
      have HX6 := Lib.hid (HX.out.grown hM hmb1)
      have KC6 := Lib.hid (rcheckm_any (num + 1) nid jn A' (remL ss ids) c' B ms d C ts f E xs h W6 HR6.out HM6.out HT6.out HX6.out (HK.out.rem hn ids))
      have HW6 := Lib.hid hW6.symm
      have LD := Lib.hid (load_mani W6 mb B6.out)
      clear hW6 g6 hM hr7 b0 b3 f0 f3 O
      rw [HW6.out]
      have b0 := B6.out.cell 0
      have b1 := B6.out.cell 1
      have b2 := B6.out.cell 2
      have b3 := B6.out.cell 3
      have b4 := B6.out.cell 4
      have b5 := B6.out.cell 5
      have b6 := B6.out.cell 6
      simp at b0 b1 b2 b3 b4 b5 b6
      go_wp2_with fail
      refine KC6.out.mono ?_
      rintro e w8 ⟨rfl, hg8⟩
      have B8 := B6.out.grown hg8 (by simp)
      have R8 := R6.out.grown hg8 (by simp)
      have O8 := Lib.hid (O6.out.kept hg8 (by cases (Value.slice A' (remL ss ids).length c').ownBlock <;> simp))
      have G8 := Lib.hid (only_trans G6.out hg8)
      have hs8 := hg8.size
      clear b0 b1 b2 b3 b4 b5 b6 hg8
      have b0 := B8.cell 0
      have b1 := B8.cell 1
      have b2 := B8.cell 2
      have b3 := B8.cell 3
      have b4 := B8.cell 4
      have b5 := B8.cell 5
      have b6 := B8.cell 6
      have r0 := R8.cell 0
      have r1 := R8.cell 1
      have r2 := R8.cell 2
      have r3 := R8.cell 3
      have r4 := R8.cell 4
      have r5 := R8.cell 5
      have r6 := R8.cell 6
      have z0 := R8.frozen 0
      have z1 := R8.frozen 1
      have z2 := R8.frozen 2
      have z3 := R8.frozen 3
      have z4 := R8.frozen 4
      have z5 := R8.frozen 5
      have z6 := R8.frozen 6
      simp at b0 b1 b2 b3 b4 b5 b6 r0 r1 r2 r3 r4 r5 r6
      have P9 := blk_put7 R8 (.int .i64 (num + 1)) (.int .i64 nid) (.int .i64 jn) (.slice A' (remL ss ids).length c') (.slice B ms.length d) (.slice C ts.length f) (.slice E xs.length h)
      have g9 : w8.grownBy _ (some rb) := only_set7 (only_refl w8 (some rb)) (b := rb) (.int .i64 (num + 1)) (.int .i64 nid) (.int .i64 jn) (.slice A' (remL ss ids).length c') (.slice B ms.length d) (.slice C ts.length f) (.slice E xs.length h)
      have hrbW : w.heap.size ≤ rb := by have := HRB.out; omega
      have hrbw : rb < w2.heap.size := by have := HRB.out; omega
      clear B8 R8
      go_wp2_with fail
      obtain ⟨W9, hW9⟩ : ∃ W9, W9 = ((((((w8.setCell ⟨rb, 0, none⟩ (.int .i64 (num + 1))).setCell ⟨rb, 1, none⟩ (.int .i64 nid)).setCell ⟨rb, 2, none⟩ (.int .i64 jn)).setCell ⟨rb, 3, none⟩ (.slice A' (remL ss ids).length c')).setCell ⟨rb, 4, none⟩ (.slice B ms.length d)).setCell ⟨rb, 5, none⟩ (.slice C ts.length f)).setCell ⟨rb, 6, none⟩ (.slice E xs.length h) := ⟨_, rfl⟩
      rw [← hW9] at P9 g9 ⊢
      clear hW9
      have q0 := P9.cell 0
      have q1 := P9.cell 1
      have q2 := P9.cell 2
      have q3 := P9.cell 3
      have q4 := P9.cell 4
      have q5 := P9.cell 5
      have q6 := P9.cell 6
      simp at q0 q1 q2 q3 q4 q5 q6
      have O9 := O8.out.kept g9 (by
        cases hu : (Value.slice A' (remL ss ids).length c').ownBlock with
        | none => exact .inl rfl
        | some j => have := (O8.out.lt j hu).1; exact .inr (by intro e; injection e with e; omega))
      obtain ⟨A9, c9, e9, hc9, hm9, -, hr9⟩ := Rd.of_own O9 (by decide)
      injection e9 with e91 e92 e93
      subst e91 e93
      refine bodyPost_ret (v := .tuple #[.agg #[.int .i64 (num + 1), .int .i64 nid, .int .i64 jn, .slice A' (remL ss ids).length c', .slice B ms.length d, .slice C ts.length f, .slice E xs.length h], .int .i64 0]) (by simp [results, Try.results26, go_sem, q0, q1, q2, q3, q4, q5, q6]) rfl ?_
      exact ⟨A', c', rfl, hc9, hm9, hr9.mono (fun b hb _ => by have : w2.heap.size ≤ b := hb; omega), only_fresh G8.out g9 hrbW⟩
end Go.Proofs.Ytphglalphejppaa
