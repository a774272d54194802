/- match.Times; Times of the reference. No condition. -/
import Derived.Test.YtceebhgbebkafaaGreatDoorPTimes
import Derived.Deep.RegionLaw
namespace Go.Proofs.YtceebhgbebkafaaGreatDoor
open Go.RowKit
set_option linter.unusedVariables false
set_option linter.unusedSimpArgs false

def pairV (p : Int × Int) : Value := .tuple #[.int .i64 p.1, .int .i64 p.2]
def PairP (w : World) (p : Int × Int) (e : Ending) (w' : World) : Prop := e = .returned (pairV p) ∧ w.grownBy w' none
set_option maxHeartbeats 2000000 in
theorem mtimes_any {n : Nat} {t : TT} {S : Nat → Prop} {w : World} (hok : t.Ok n) (hsub : t.Sub n S w) (hw : Whole w) : Calls Tryz.prog 22 #[.agg t.cells.toArray] w (PairP w (normT (pTimes n t))) := by
  have HP : Hid (∀ w', w.grownBy w' none → Calls Tryz.prog 50 #[.agg t.cells.toArray] w' (SpanP w' (pTimes n t))) := fun w' hg => ptimes_any n t S w' hok (hsub.grown hg (by simp)) (hw.grown hg (by simp))
  clear hok hsub hw
  obtain ⟨p, hp⟩ : ∃ p, p = pTimes n t := ⟨_, rfl⟩
  rw [← hp] at HP ⊢
  clear hp
  obtain ⟨p1, p2⟩ := p
  obtain ⟨op, nm, tx, num, ka, kc, kids⟩ := t
  show Calls _ _ #[.agg #[.int .i64 op, .string nm, .string tx, .int .i64 num, .slice ka kids.length kc]] w _
  go_enter Tryz.func22, Tryz.ntmps22
  go_wp2_with fail
  refine (HP.out _ (only_alloc (only_refl _ _) _)).mono ?_
  rintro e w1 ⟨rfl, hg1⟩
  simp only [spanV]
  have G1 : Hid (w.grownBy w1 none) := only_trans (only_alloc (only_refl _ _) _) hg1
  clear hg1
  by_cases h : p2 < p1
  · have hd : decide (p2 < p1) = true := by simp [h]
    have hv : normT (p1, p2) = (1, 0) := by simp [normT, h]
    have HE := empty_any (p1, p2)
    simp only [hd] at HE
    have HE' := Lib.hid HE
    clear h hd HE
    go_wp2_with fail
    refine (HE'.out _).mono ?_
    rintro e w2 ⟨rfl, hg2⟩
    have G2 := Lib.hid hg2
    clear hg2
    go_wp2_with fail
    rw [hv]
    exact bodyPost_ret (v := pairV (1, 0)) (by simp [results, Tryz.results22, go_sem, pairV]) rfl ⟨rfl, only_trans (only_alloc G1.out _) G2.out⟩
  · have hd : decide (p2 < p1) = false := by simp [h]
    have hv : normT (p1, p2) = (p1, p2) := by simp [normT, h]
    have HE := empty_any (p1, p2)
    simp only [hd] at HE
    have HE' := Lib.hid HE
    clear h hd HE
    go_wp2_with fail
    refine (HE'.out _).mono ?_
    rintro e w2 ⟨rfl, hg2⟩
    have hB := (Blk.new w1 _ _).grown hg2 (by simp)
    have q0 := hB.cell 0; have q1 := hB.cell 1
    simp at q0 q1
    have G2 := Lib.hid hg2
    clear hg2 hB
    go_wp2
    go_region_law fail
    all_goals
      go_wp2_with fail
      rw [hv]
      exact bodyPost_ret (v := pairV (p1, p2)) (by simp [results, Tryz.results22, go_sem, pairV]) rfl ⟨rfl, only_drew (only_trans (only_alloc G1.out _) G2.out)⟩
set_option maxHeartbeats 2000000 in
theorem norm_any (f t : Int) (w : World) : Calls Tryz.prog 52 #[.int .i64 f, .int .i64 t] w (fun e w' => e = .returned (pairV (rNorm f t)) ∧ w' = w) := by
  have hv : rNorm f t = if min t 253402300799999 < max f 0 then (1, 0) else (max f 0, min t 253402300799999) := rfl
  obtain ⟨p, hp⟩ : ∃ p, p = rNorm f t := ⟨_, rfl⟩
  rw [← hp] at hv ⊢
  clear hp
  have HV := Lib.hid hv
  clear hv
  go_enter Tryz.func52, Tryz.ntmps52
  go_wp2
  all_goals
    first
    | (have hp : p = (1, 0) := by rw [HV.out, if_pos (by omega)]
       rw [hp]
       exact bodyPost_ret (v := pairV (1, 0)) (by simp [results, Tryz.results52, go_sem, pairV]) rfl ⟨rfl, rfl⟩)
    | (have hp : p = (max f 0, min t 253402300799999) := by rw [HV.out, if_neg (by omega)]
       rw [hp]
       refine bodyPost_ret (v := pairV (max f 0, min t 253402300799999)) (by simp [results, Tryz.results52, go_sem, pairV]; omega) rfl ⟨rfl, rfl⟩)
set_option maxHeartbeats 4000000 in
set_option maxRecDepth 100000 in
theorem rtimes_any (n : Nat) : ∀ (t : TT) (S : Nat → Prop) (w : World), t.Ok n → t.Sub n S w → Calls Tryz.prog 23 #[.agg t.cells.toArray] w (PairP w (rTimes n t)) := by
  induction n with
  | zero => intro t S w hok; exact hok.elim
  | succ n IH' =>
  intro t S w hok hsub
  obtain ⟨op, nm, tx, num, ka, kc, kids⟩ := t
  have IH : Hid (∀ y ∈ kids, ∀ w', w.grownBy w' none → Calls Tryz.prog 23 #[.agg #[.int .i64 y.op, .string y.nm, .string y.tx, .int .i64 y.num, .slice y.ka y.kids.length y.kc]] w' (PairP w' (rTimes n y))) := fun y hy w' hg => IH' y S w' (hok.2.2.2.2.2 y hy) ((hsub.2.2.2 y hy).grown hg (by simp))
  have HK : Hid (Rd S w ka (kids.flatMap TT.cells)) := hsub.1
  have hl3 : kids.length ≤ 3 := hok.len
  have hnum : -5 ≤ num ∧ num ≤ 999999999999999999 := hok.2.2.1
  have hop : 0 ≤ op ∧ op ≤ 11 := hok.1
  obtain ⟨hn1, hn2⟩ := hnum
  obtain ⟨ho1, ho2⟩ := hop
  clear IH' hok hsub
  show Calls _ _ #[.agg #[.int .i64 op, .string nm, .string tx, .int .i64 num, .slice ka kids.length kc]] w _
  go_enter Tryz.func23, Tryz.ntmps23
  go_upto_region 1 with fail
  obtain ⟨w1, hw1⟩ : ∃ w1, w1 = w.alloc (.cells #[.int .i64 op, .string nm, .string tx, .int .i64 num, .slice ka kids.length kc] 26) := ⟨_, rfl⟩
  obtain ⟨r, hr⟩ : ∃ r, r = w.heap.size := ⟨_, rfl⟩
  have HB := Lib.hid (Blk.new w 26 #[.int .i64 op, .string nm, .string tx, .int .i64 num, .slice ka kids.length kc])
  have G := Lib.hid (only_alloc (only_refl w none) (.cells #[.int .i64 op, .string nm, .string tx, .int .i64 num, .slice ka kids.length kc] 26))
  rw [← hw1, ← hr] at HB ⊢
  rw [← hw1] at G
  clear hw1 hr
  have b0 := HB.out.cell 0; have b1 := HB.out.cell 1; have b2 := HB.out.cell 2; have b3 := HB.out.cell 3; have b4 := HB.out.cell 4
  simp at b0 b1 b2 b3 b4
  by_cases h6 : op = 6
  · have g9 : (op == 9) = false := by simp [h6]
    have g10 : (op == 10) = false := by simp [h6]
    have g11 : (op == 11) = false := by simp [h6]
    have g6 : (op == 6) = true := by simp [h6]
    have H6 := Lib.hid h6
    clear h6
    go_wp2_with fail
    go_loopw [4, 5, 6] (fun f t i wr => ∃ (k : Nat) (p : Int × Int), i = .int .i64 k ∧ f = .int .i64 p.1 ∧ t = .int .i64 p.2 ∧ k ≤ kids.length ∧ rTimes (n + 1) (.mk op nm tx num ka kc kids) = rAnd ((kids.drop k).map (rTimes n)) p ∧ Blk wr r 26 #[.int .i64 op, .string nm, .string tx, .int .i64 num, .slice ka kids.length kc] ∧ w.grownBy wr none) (fun _ _ i _ => kids.length - (intOf i).toNat)
    case atStart => exact ⟨0, (0, 253402300799999), rfl, rfl, rfl, Nat.zero_le _, by simp [rTimes, TT.op, TT.kids, H6.out], HB.out, G.out⟩
    case round =>
      obtain ⟨k, ⟨f, t⟩, rfl, rfl, rfl, hk, hs, hB, hG⟩ := hrel
      have HB' := Lib.hid hB
      have GR := Lib.hid hG
      have HS := Lib.hid hs
      clear hB hG hs HB G
      by_cases hlt : k < kids.length
      · obtain ⟨y, hy⟩ : ∃ y, kids[k]? = some y := ⟨_, List.getElem?_eq_getElem hlt⟩
        obtain ⟨kb, ko, rfl, hkw, z0, z1, z2, z3, z4⟩ := kid_in (HK.out.grown GR.out (by simp)) hy
        have HI := Lib.hid (IH.out y (List.mem_of_getElem? hy))
        have HT : Hid ((kids.drop k).map (rTimes n) = rTimes n y :: (kids.drop (k + 1)).map (rTimes n)) := by
          rw [List.getElem?_eq_getElem hlt] at hy
          injection hy with hy
          rw [← List.getElem_cons_drop hlt, hy]
          rfl
        clear hy
        have b0 := HB'.out.cell 0; have b1 := HB'.out.cell 1; have b2 := HB'.out.cell 2; have b3 := HB'.out.cell 3; have b4 := HB'.out.cell 4
        simp at b0 b1 b2 b3 b4
        go_wp2_with fail
        refine (HI.out _ GR.out).mono ?_
        obtain ⟨p, hp⟩ : ∃ p, p = rTimes n y := ⟨_, rfl⟩
        rw [← hp] at HT ⊢
        clear hp HI
        obtain ⟨a, b⟩ := p
        rintro e w6 ⟨rfl, hg6⟩
        simp only [pairV]
        have HB6 := Lib.hid (HB'.out.grown hg6 (by simp))
        have G6 := Lib.hid (only_trans GR.out hg6)
        clear hg6 HB' GR
        by_cases hab : b < a
        · have hd : decide (b < a) = true := by simp [hab]
          have hv : Hid (rTimes (n + 1) (.mk op nm tx num (some ⟨kb, ko, none⟩) kc kids) = (1, 0)) := Lib.hid (by rw [HS.out, HT.out]; unfold rAnd; rw [if_pos hab])
          clear HS HT hd
          go_wp2_with fail
          rw [hv.out]
          exact bodyPost_ret (v := pairV (1, 0)) (by simp [results, Tryz.results23, go_sem, pairV]) rfl ⟨rfl, G6.out⟩
        · have hd : decide (b < a) = false := by simp [hab]
          have hv : Hid (rTimes (n + 1) (.mk op nm tx num (some ⟨kb, ko, none⟩) kc kids) = rAnd ((kids.drop (k + 1)).map (rTimes n)) (max f a, min t b)) := Lib.hid (by rw [HS.out, HT.out]; rw [rAnd]; rw [if_neg hab]; rfl)
          clear HS HT hd
          go_wp2_with fail
          all_goals
            go_roundw
            case rel => exact ⟨k + 1, (max f a, min t b), by go_num, by simp; try omega, by simp; try omega, by omega, hv.out, HB6.out, G6.out⟩
            case measure => simp [intOf]; omega
      · have hv : Hid (rTimes (n + 1) (.mk op nm tx num ka kc kids) = rNorm f t) := Lib.hid (by rw [HS.out, List.drop_eq_nil_of_le (by omega)]; rfl)
        clear HS
        have b0 := HB'.out.cell 0; have b1 := HB'.out.cell 1; have b2 := HB'.out.cell 2; have b3 := HB'.out.cell 3; have b4 := HB'.out.cell 4
        simp at b0 b1 b2 b3 b4
        go_wp2_with fail
        refine (norm_any (f) (t) _).mono ?_
        rintro e w6 ⟨rfl, rfl⟩
        simp only [pairV]
        go_wp2_with fail
        rw [hv.out]
        exact bodyPost_ret (v := pairV (rNorm (f) (t))) (by simp [results, Tryz.results23, go_sem, pairV]) rfl ⟨rfl, GR.out⟩
  have g6 : (op == 6) = false := by simp [h6]
  by_cases h7 : op = 7
  · have g9 : (op == 9) = false := by simp [h7]
    have g10 : (op == 10) = false := by simp [h7]
    have g11 : (op == 11) = false := by simp [h7]
    have g7 : (op == 7) = true := by simp [h7]
    have H7 := Lib.hid h7
    clear h7 h6
    go_wp2_with fail
    go_loopw [9, 10, 11] (fun f t i wr => ∃ (k : Nat) (p : Int × Int), i = .int .i64 k ∧ f = .int .i64 p.1 ∧ t = .int .i64 p.2 ∧ k ≤ kids.length ∧ p = ((kids.take k).map (rTimes n)).foldl rOr (1, 0) ∧ Blk wr r 26 #[.int .i64 op, .string nm, .string tx, .int .i64 num, .slice ka kids.length kc] ∧ w.grownBy wr none) (fun _ _ i _ => kids.length - (intOf i).toNat)
    case atStart => exact ⟨0, (1, 0), rfl, rfl, rfl, Nat.zero_le _, rfl, HB.out, G.out⟩
    case round =>
      obtain ⟨k, ⟨f, t⟩, rfl, rfl, rfl, hk, hs, hB, hG⟩ := hrel
      have HB' := Lib.hid hB
      have GR := Lib.hid hG
      have HS := Lib.hid hs
      clear hB hG hs HB G
      by_cases hlt : k < kids.length
      · obtain ⟨y, hy⟩ : ∃ y, kids[k]? = some y := ⟨_, List.getElem?_eq_getElem hlt⟩
        obtain ⟨kb, ko, rfl, hkw, z0, z1, z2, z3, z4⟩ := kid_in (HK.out.grown GR.out (by simp)) hy
        have HI := Lib.hid (IH.out y (List.mem_of_getElem? hy))
        have HT : Hid (((kids.take (k + 1)).map (rTimes n)).foldl rOr (1, 0) = rOr (f, t) (rTimes n y)) := by
          rw [List.getElem?_eq_getElem hlt] at hy
          injection hy with hy
          rw [List.take_succ_eq_append_getElem hlt, List.map_append, List.foldl_append, ← HS.out, hy]
          rfl
        clear hy
        have b0 := HB'.out.cell 0; have b1 := HB'.out.cell 1; have b2 := HB'.out.cell 2; have b3 := HB'.out.cell 3; have b4 := HB'.out.cell 4
        simp at b0 b1 b2 b3 b4
        go_wp2_with fail
        refine (HI.out _ GR.out).mono ?_
        obtain ⟨p, hp⟩ : ∃ p, p = rTimes n y := ⟨_, rfl⟩
        rw [← hp] at HT ⊢
        clear hp HI
        obtain ⟨a, b⟩ := p
        rintro e w6 ⟨rfl, hg6⟩
        simp only [pairV]
        have HB6 := Lib.hid (HB'.out.grown hg6 (by simp))
        have G6 := Lib.hid (only_trans GR.out hg6)
        clear hg6 HB' GR
        by_cases hab : b < a
        · have hd : decide (b < a) = true := by simp [hab]
          have HQ := Lib.hid (HT.out.trans (show rOr (f, t) (a, b) = (f, t) from by simp [rOr, hab]))
          clear HS HT
          go_wp2_with fail
          all_goals
            go_roundw
            case rel => exact ⟨k + 1, (f, t), by go_num, by simp; try omega, by simp; try omega, by omega, HQ.out.symm, HB6.out, G6.out⟩
            case measure => simp [intOf]; omega
        have hd : decide (b < a) = false := by simp [hab]
        by_cases hft : t < f
        · have hd2 : decide (t < f) = true := by simp [hft]
          have HQ := Lib.hid (HT.out.trans (show rOr (f, t) (a, b) = (a, b) from by simp [rOr, hab, hft]))
          clear HS HT
          go_wp2_with fail
          all_goals
            go_roundw
            case rel => exact ⟨k + 1, (a, b), by go_num, by simp; try omega, by simp; try omega, by omega, HQ.out.symm, HB6.out, G6.out⟩
            case measure => simp [intOf]; omega
        · have hd2 : decide (t < f) = false := by simp [hft]
          have HQ := Lib.hid (HT.out.trans (show rOr (f, t) (a, b) = (min f a, max t b) from by simp [rOr, hab, hft]))
          clear HS HT
          go_wp2_with fail
          all_goals
            go_roundw
            case rel => exact ⟨k + 1, (min f a, max t b), by go_num, by simp; try omega, by simp; try omega, by omega, HQ.out.symm, HB6.out, G6.out⟩
            case measure => simp [intOf]; omega
      · have hv : Hid (rTimes (n + 1) (.mk op nm tx num ka kc kids) = (f, t)) := Lib.hid (by rw [HS.out, List.take_of_length_le (by omega)]; simp [rTimes, TT.op, TT.kids, H7.out])
        clear HS
        have b0 := HB'.out.cell 0; have b1 := HB'.out.cell 1; have b2 := HB'.out.cell 2; have b3 := HB'.out.cell 3; have b4 := HB'.out.cell 4
        simp at b0 b1 b2 b3 b4
        go_wp2_with fail
        rw [hv.out]
        exact bodyPost_ret (v := pairV (f, t)) (by simp [results, Tryz.results23, go_sem, pairV]) rfl ⟨rfl, GR.out⟩
  have g7 : (op == 7) = false := by simp [h7]
  have H67 : Hid (op ≠ 6 ∧ op ≠ 7) := ⟨h6, h7⟩
  clear h6 h7
  by_cases hnm : nm = timeName
  · have gn : (nm.toList == [64, 116, 105, 109, 101]) = true := by rw [hnm, timeList]; simp
    have HN := Lib.hid hnm
    clear hnm
    by_cases h9 : op = 9
    · have g9 : (op == 9) = true := by simp [h9]
      have hv : Hid (rTimes (n + 1) (.mk op nm tx num ka kc kids) = rNorm 0 (num - 1)) := Lib.hid (by simp [rTimes, TT.op, TT.nm, TT.num, HN.out, h9])
      clear h9
      go_wp2_with fail
      refine (norm_any (0) (num - 1) _).mono ?_
      rintro e w6 ⟨rfl, rfl⟩
      simp only [pairV]
      go_wp2_with fail
      rw [hv.out]
      exact bodyPost_ret (v := pairV (rNorm (0) (num - 1))) (by simp [results, Tryz.results23, go_sem, pairV]) rfl ⟨rfl, G.out⟩
    have g9 : (op == 9) = false := by simp [h9]
    by_cases h10 : op = 10
    · have g10 : (op == 10) = true := by simp [h10]
      have hv : Hid (rTimes (n + 1) (.mk op nm tx num ka kc kids) = rNorm (num + 1) 253402300799999) := Lib.hid (by simp [rTimes, TT.op, TT.nm, TT.num, HN.out, h10])
      clear h10 h9
      go_wp2_with fail
      refine (norm_any (num + 1) (253402300799999) _).mono ?_
      rintro e w6 ⟨rfl, rfl⟩
      simp only [pairV]
      go_wp2_with fail
      rw [hv.out]
      exact bodyPost_ret (v := pairV (rNorm (num + 1) (253402300799999))) (by simp [results, Tryz.results23, go_sem, pairV]) rfl ⟨rfl, G.out⟩
    have g10 : (op == 10) = false := by simp [h10]
    by_cases h11 : op = 11
    · have g11 : (op == 11) = true := by simp [h11]
      have hv : Hid (rTimes (n + 1) (.mk op nm tx num ka kc kids) = rNorm num num) := Lib.hid (by simp [rTimes, TT.op, TT.nm, TT.num, HN.out, h11])
      clear h11 h10 h9
      go_wp2_with fail
      refine (norm_any (num) (num) _).mono ?_
      rintro e w6 ⟨rfl, rfl⟩
      simp only [pairV]
      go_wp2_with fail
      rw [hv.out]
      exact bodyPost_ret (v := pairV (rNorm (num) (num))) (by simp [results, Tryz.results23, go_sem, pairV]) rfl ⟨rfl, G.out⟩
    have g11 : (op == 11) = false := by simp [h11]
    have hv : Hid (rTimes (n + 1) (.mk op nm tx num ka kc kids) = (0, 253402300799999)) := Lib.hid (by simp [rTimes, TT.op, TT.nm, TT.num, HN.out, H67.out.1, H67.out.2, h9, h10, h11])
    clear h9 h10 h11
    go_wp2_with fail
    rw [hv.out]
    exact bodyPost_ret (v := pairV (0, 253402300799999)) (by simp [results, Tryz.results23, go_sem, pairV]) rfl ⟨rfl, G.out⟩
  · have gn : (nm.toList == [64, 116, 105, 109, 101]) = false := by
      rw [beq_eq_false_iff_ne]; intro e; rw [← timeList] at e; exact hnm (toList_inj e)
    have hv : Hid (rTimes (n + 1) (.mk op nm tx num ka kc kids) = (0, 253402300799999)) := Lib.hid (by simp [rTimes, TT.op, TT.nm, H67.out.1, H67.out.2, hnm])
    clear hnm
    by_cases h9 : op = 9
    · have g9 : (op == 9) = true := by simp [h9]
      have g10 : (op == 10) = false := by simp [h9]
      have g11 : (op == 11) = false := by simp [h9]
      clear h9
      go_wp2_with fail
      rw [hv.out]
      exact bodyPost_ret (v := pairV (0, 253402300799999)) (by simp [results, Tryz.results23, go_sem, pairV]) rfl ⟨rfl, G.out⟩
    have g9 : (op == 9) = false := by simp [h9]
    by_cases h10 : op = 10
    · have g10 : (op == 10) = true := by simp [h10]
      have g11 : (op == 11) = false := by simp [h10]
      clear h9 h10
      go_wp2_with fail
      rw [hv.out]
      exact bodyPost_ret (v := pairV (0, 253402300799999)) (by simp [results, Tryz.results23, go_sem, pairV]) rfl ⟨rfl, G.out⟩
    have g10 : (op == 10) = false := by simp [h10]
    by_cases h11 : op = 11
    · have g11 : (op == 11) = true := by simp [h11]
      clear h9 h10 h11
      go_wp2_with fail
      rw [hv.out]
      exact bodyPost_ret (v := pairV (0, 253402300799999)) (by simp [results, Tryz.results23, go_sem, pairV]) rfl ⟨rfl, G.out⟩
    have g11 : (op == 11) = false := by simp [h11]
    clear h9 h10 h11
    go_wp2_with fail
    rw [hv.out]
    exact bodyPost_ret (v := pairV (0, 253402300799999)) (by simp [results, Tryz.results23, go_sem, pairV]) rfl ⟨rfl, G.out⟩
end Go.Proofs.YtceebhgbebkafaaGreatDoor
