/- The words of an encoded dictionary: the iterator. Condition: sizes. -/
import Derived.Test.YtgaomilmljepoaaDRdB
import Derived.RangeFuncNested
import Derived.RangeFuncBound
import Derived.RangeFuncCalls
import Derived.RangeFuncLeaves
import Derived.OwnWalkIn
import Derived.TacticsInMore
import Derived.LoopNIn
import Derived.LoopIn
import Derived.Deep.DeepCutAuto
import Derived.Deep.RegionWith
import Derived.StillTailTactics
namespace Go.Proofs.Ytgaomilmljepoaa
open Go.RowKit
set_option linter.unusedVariables false
set_option linter.unusedSimpArgs false

theorem long_still (s : ByteArray) (w : World) : Calls Try.prog 40 #[.string s] w (fun e w' => e = .returned (.bool (decide (2048 < s.size))) ∧ w' = w) := by
  go_enter Try.func40, Try.ntmps40
  go_wp2
  go_ret
  exact ⟨by show Ending.returned (.bool (decide ((2048 : Int) < (s.size : Int)))) = _; congr 2; rw [decide_eq_decide]; omega, rfl⟩
theorem rdO_less {most : Nat} {bs : List Int} {bad : Bool} (h : (rdO most bs bad).2.2 = false) : (rdO most bs bad).2.1.length + 1 ≤ bs.length ∧ bad = false := by
  unfold rdO at *
  cases hr : rdN most bs 0 0 with
  | none => rw [hr] at h; simp at h
  | some p => rw [hr] at h; obtain ⟨n, k⟩ := p; have := rdN_le _ _ _ _ _ hr; simp at h ⊢; exact ⟨by omega, h⟩
theorem rdT_less {bs : List Int} {bad : Bool} (h : (rdT bs bad).2.2 = false) : (rdT bs bad).2.1.length + 1 ≤ bs.length ∧ bad = false := by
  unfold rdT at *
  split at h
  · cases h
  · rename_i hn
    have := rdO_less h
    rw [if_neg hn]
    simp only [List.length_drop]
    exact ⟨by omega, this.2⟩
/-- the start of a word -/
def shO (i : Nat) (last : ByteArray) (bs : List Int) : Nat × List Int × Bool := if i % 16 = 0 then (0, bs, false) else rdO last.size bs false
def wordO (i : Nat) (last : ByteArray) (bs : List Int) : ByteArray × List Int × Bool :=
  (last.extract 0 (shO i last bs).1 ++ (rdT (shO i last bs).2.1 (shO i last bs).2.2).1, (rdT (shO i last bs).2.1 (shO i last bs).2.2).2.1, (rdT (shO i last bs).2.1 (shO i last bs).2.2).2.2 || decide (2048 < (last.extract 0 (shO i last bs).1 ++ (rdT (shO i last bs).2.1 (shO i last bs).2.2).1).size))
/-- the words that the iterator yields, what is left, and whether it has stopped at a bad one -/
def wrdTo : Nat → Nat → ByteArray → List Int → List ByteArray × List Int × Bool
  | 0, _, _, bs => ([], bs, false)
  | m + 1, i, last, bs =>
    if (wordO i last bs).2.2 = true then ([], (wordO i last bs).2.1, true)
    else ((wordO i last bs).1 :: (wrdTo m (i + 1) (wordO i last bs).1 (wordO i last bs).2.1).1, (wrdTo m (i + 1) (wordO i last bs).1 (wordO i last bs).2.1).2)
theorem shO_le (i : Nat) (last : ByteArray) (bs : List Int) : (shO i last bs).1 ≤ last.size ∧ (shO i last bs).2.1.length ≤ bs.length := by
  unfold shO
  split
  · exact ⟨Nat.zero_le _, Nat.le_refl _⟩
  · exact rdO_le _ _ _
theorem wordO_less {i : Nat} {last : ByteArray} {bs : List Int} (h : (wordO i last bs).2.2 = false) : (wordO i last bs).2.1.length + 1 ≤ bs.length ∧ (wordO i last bs).1.size ≤ 2048 := by
  unfold wordO at *
  simp only [Bool.or_eq_false_iff, decide_eq_false_iff_not] at h
  have h1 := rdT_less h.1
  have h2 := shO_le i last bs
  simp only
  omega
theorem wrdTo_len : ∀ (m i : Nat) (last : ByteArray) (bs : List Int), (wrdTo m i last bs).1.length ≤ bs.length := by
  intro m
  induction m with
  | zero => intro i last bs; simp [wrdTo]
  | succ m ih =>
    intro i last bs
    rw [wrdTo]
    split
    · simp
    · rename_i h
      have h1 := wordO_less (by simpa using h)
      have h2 := ih (i + 1) (wordO i last bs).1 (wordO i last bs).2.1
      simp only [List.length_cons]
      omega
/-- what the body of a round keeps: all blocks below lim but the variable's -/
def KpD (lim bd : Nat) (W W' : World) : Prop := W.heap.size ≤ W'.heap.size ∧ ∀ b, b < lim → b ≠ bd → W'.heap[b]? = W.heap[b]?
theorem KpD.blk {lim bd g t : Nat} {W W' : World} {cs : Array Value} (h : KpD lim bd W W') (hB : Blk W g t cs) (h1 : g < lim) (h2 : g ≠ bd) : Blk W' g t cs := (h.2 g h1 h2).trans hB
theorem KpD.rdr {lim bd g : Nat} {W W' : World} {bs : List Int} {bad : Bool} (h : KpD lim bd W W') (hR : RdrAt W g bs bad) (h1 : g < lim) (h2 : g < bd) : RdrAt W' g bs bad := by
  obtain ⟨A, c, hb, hrd, h3, h4, h5, h6⟩ := hR
  exact ⟨A, c, h.blk hb h1 (by omega), hrd.keep (fun b hb hlt => h.2 b (by omega) (by omega)) h.1, h3, h4, h5, h6⟩
def IterPost (J : List ByteArray → World → Prop) (g : Nat) (r : List ByteArray × List Int × Bool) (bad : Bool) (e : Ending) (w' : World) : Prop :=
  (∃ v, e = .returned v) ∧ J r.1 w' ∧ RdrAt w' g r.2.1 (bad || r.2.2)
def TxtW (g : Nat) (W0 : World) (x : ByteArray) (cs : List Int) (bd : Bool) (wx : World) : Prop := RdrAt wx g cs bd ∧ W0.grownBy wx (some g)

set_option maxHeartbeats 4000000 in
set_option maxRecDepth 100000 in
theorem words_iter (m : Nat) (g bd bn br lim l n : Nat) (bad0 : Bool) (bs : List Int) (J : List ByteArray → World → Prop) (W : World)
    (hJ : ∀ s A B, J s A → A.grownBy B (some g) → J s B)
    (hY : ∀ pre x W1, J pre W1 → pre.length ≤ 1000000 → x.size ≤ 2048 → YieldAt .wide m Try.prog l #[.string x] W1 fun e W' => e = .returned (.bool true) ∧ J (pre ++ [x]) W' ∧ KpD lim bd W1 W')
    (h0 : J [] W) (hR : RdrAt W g bs bad0) (hb0 : bad0 = true → n = 0) (hbn : Blk W bn 3 #[.int .i64 n]) (hbr : Blk W br 72 #[.pointer (some ⟨g, 0, none⟩)])
    (hg : g < bd) (hb1 : bd < bn) (hb2 : bd < br) (hl1 : bn < lim) (hl2 : br < lim) (hn : n ≤ 100000) :
    Calls Try.prog 58 #[.func (.yield l) #[] #[], .pointer (some ⟨bn, 0, none⟩), .pointer (some ⟨br, 0, none⟩)] W (IterPost J g (wrdTo n 0 ⟨#[]⟩ bs) bad0) := by
  have HJ := Lib.hid hJ
  have HY := Lib.hid hY
  have H0 := Lib.hid h0
  have HR := Lib.hid hR
  have HB0 := Lib.hid hb0
  clear hb0
  have HN := Lib.hid hbn
  have HB := Lib.hid hbr
  have n0 := hbn.cell 0
  simp at n0
  have hlb : bs.length ≤ 1000000 := by obtain ⟨A, c, _, _, _, _, h, _⟩ := hR; exact h
  clear hJ hY h0 hR hbn hbr
  go_enter Try.func58, Try.ntmps58
  go_wp2_with fail
  clear n0
  go_loopw [4, 8] (fun v i wr => ∃ (k : Nat) (pre : List ByteArray) (last : ByteArray) (cs : List Int), k ≤ n ∧ i = .int .i64 k ∧ v = .string last ∧ last.size ≤ 2048 ∧ pre.length + cs.length ≤ bs.length ∧ pre ++ (wrdTo (n - k) k last cs).1 = (wrdTo n 0 ⟨#[]⟩ bs).1 ∧ (wrdTo (n - k) k last cs).2 = (wrdTo n 0 ⟨#[]⟩ bs).2 ∧ J pre wr ∧ RdrAt wr g cs bad0 ∧ Blk wr bn 3 #[.int .i64 n] ∧ Blk wr br 72 #[.pointer (some ⟨g, 0, none⟩)]) (fun _ i _ => n - (intOf i).toNat)
  case atStart => exact ⟨0, [], ⟨#[]⟩, bs, Nat.zero_le _, rfl, rfl, by decide, by simp, rfl, rfl, H0.out, HR.out, HN.out, HB.out⟩
  case round =>
    obtain ⟨k, pre, last, cs, hk, rfl, rfl, hls, hpl, hw1, hw2, hJ1, hR1, hbn1, hbr1⟩ := hrel
    have W1 := Lib.hid hw1
    have W2 := Lib.hid hw2
    have J1 := Lib.hid hJ1
    have R1 := Lib.hid hR1
    have BN := Lib.hid hbn1
    have BR := Lib.hid hbr1
    have r0 := hbr1.cell 0
    simp at r0
    clear hw1 hw2 hJ1 hR1 hbn1 hbr1 H0 HR HN HB
    by_cases hlt : k < n
    · obtain rfl : bad0 = false := by
        cases hbb : bad0 with
        | false => rfl
        | true => have := HB0.out hbb; omega
      obtain ⟨m2, hm2⟩ : ∃ m2, n - k = m2 + 1 := ⟨n - k - 1, by omega⟩
      have kI : (k : Int) < (n : Int) := by omega
      have HSH := shO_le k last cs
      have HM2 := Lib.hid hm2
      clear hm2
      by_cases h16 : k % 16 = 0
      · have t1 : (((k : Int) % 16) != 0) = false := by simp; omega
        have HSO : Hid (shO k last cs = (0, cs, false)) := Lib.hid (by unfold shO; rw [if_pos h16])
        have J2 := Lib.hid J1.out
        have R2 := Lib.hid R1.out
        have BN2 := Lib.hid BN.out
        have BR2 := Lib.hid BR.out
        have q0 := r0
        obtain ⟨w1, hw1⟩ : ∃ w1, w1 = wr := ⟨_, rfl⟩
        subst hw1
        clear h16 R1 J1 BN BR r0
        have hsh := HSH.1
        rw [HSO.out] at hsh
        have hshI : (0 : Int) ≤ (last.size : Int) := by have h : 0 ≤ last.size := hsh; omega
        obtain ⟨tx, htx⟩ : ∃ t, t = rdT cs false := ⟨_, rfl⟩
        have TX : Hid (∀ W, RdrAt W g cs false → Calls Try.prog 59 #[.pointer (some ⟨g, 0, none⟩)] W (TxPost W g tx)) := Lib.hid (fun W h => by rw [htx]; exact text_any g cs false W h)
        have HTL : Hid (tx.1.size ≤ 2048) := Lib.hid (by rw [htx]; exact (rdT_le _ _).1)
        obtain ⟨x, hx⟩ : ∃ x, x = last.extract 0 0 ++ tx.1 := ⟨_, rfl⟩
        have HWO : Hid (wordO k last cs = (x, tx.2.1, tx.2.2 || decide (2048 < x.size))) := Lib.hid (by unfold wordO; rw [HSO.out]; simp only; rw [← htx, ← hx])
        have HX := Lib.hid hx
        have hxs : x.size ≤ 5000 := by
          have h1 := HTL.out
          have h2 : x.size = (last.extract 0 0).size + tx.1.size := by rw [hx, ByteArray.size_append]
          have h3 : (last.extract 0 0).size ≤ last.size := by rw [ByteArray.size_extract]; omega
          omega
        have hts : tx.1.size ≤ 2048 := HTL.out
        have hes : (last.extract 0 0).size ≤ 2048 := by rw [ByteArray.size_extract]; omega
        clear htx hx hsh HSH
        have hbg : br ≠ g := by omega
        have hbg2 : bn ≠ g := by omega
        go_wp2_with fail
        go_cut [4] (fun v wx => v = .string x ∧ TxtW g w1 x tx.2.1 tx.2.2 wx)
        case first =>
          go_region_with (go_at_call 59; refine (TX.out _ R2.out.drew).mono ?_; rintro e w2 ⟨rfl, hR2, hg2⟩)
          all_goals
            go_wp2_with fail
            go_meet
            exact ⟨by rw [HX.out] <;> (congr 1; apply ByteArray.ext; simp), hR2, only_trans (only_drew (only_refl _ _)) hg2⟩
        case rest =>
          obtain ⟨rfl, hR3, hg3⟩ := hcut
          have R3 := Lib.hid hR3
          have J3 := Lib.hid (HJ.out _ _ _ J2.out hg3)
          have BN3 := Lib.hid (BN2.out.grown hg3 (by simpa using hbg2))
          have BR3 := Lib.hid (BR2.out.grown hg3 (by simpa using hbg))
          clear q0 hR3 hg3 TX HTL R2 J2 BN2 BR2 hts hes
          obtain ⟨A3, c3, hb3, -, -, -, -, -⟩ := R3.out
          have c0 := hb3.cell 1
          have f0 := hb3.frozen 1
          have r0 := BR3.out.cell 0
          simp at c0 r0
          clear hb3
          cases hb : tx.2.2 with
          | true =>
            rw [hb] at HWO c0
            clear hb
            go_wp2_with fail
            refine wp_region_still_tail 11 (by kernel_rfl) (by kernel_rfl) ?_
            change wpStill _ _ (World.drew _) (fun a' => wpList _ _ _ _ a' (World.drew _)) _ _
            simp only [List.take_succ_cons, List.take_zero, List.drop_succ_cons, List.drop_zero]
            repeat still_step
            refine wpStill_nil ?_
            go_wp2_with fail
            go_end0
            have hf : wrdTo (n - k) k last cs = ([], tx.2.1, true) := by rw [HM2.out, wrdTo, HWO.out]; simp
            have e1 : (wrdTo n 0 ⟨#[]⟩ bs).1 = pre := by rw [← W1.out, hf]; simp
            have e2 : (wrdTo n 0 ⟨#[]⟩ bs).2 = (tx.2.1, true) := by rw [← W2.out, hf]
            refine ⟨⟨_, rfl⟩, ?_, ?_⟩
            · rw [e1]; exact HJ.out _ _ _ J3.out (only_setCell (only_drew (only_refl _ _)) (.inl rfl) _)
            · rw [e2]; exact R3.out.drew.setBad true
          | false =>
            rw [hb] at HWO c0
            clear hb
            have LG : Hid (∀ w1, Calls Try.prog 40 #[.string x] w1 (fun e w' => e = .returned (.bool (decide (2048 < x.size))) ∧ w' = w1)) := Lib.hid (fun w1 => long_still x w1)
            by_cases hlg : 2048 < x.size
            · have q : decide (2048 < x.size) = true := by simpa using hlg
              have hlgI : (2048 : Int) < (x.size : Int) := by omega
              have HQ := Lib.hid q
              rw [q] at LG
              clear q hlg
              go_wp2_with fail
              refine wp_region_still_tail 11 (by kernel_rfl) (by kernel_rfl) ?_
              change wpStill _ _ (World.drew _) (fun a' => wpList _ _ _ _ a' (World.drew _)) _ _
              simp only [List.take_succ_cons, List.take_zero, List.drop_succ_cons, List.drop_zero]
              repeat still_step
              still_call (LG.out _)
              repeat still_step
              refine wpStill_nil ?_
              go_wp2_with fail
              go_end0
              have hf : wrdTo (n - k) k last cs = ([], tx.2.1, true) := by rw [HM2.out, wrdTo, HWO.out]; simp; omega
              have e1 : (wrdTo n 0 ⟨#[]⟩ bs).1 = pre := by rw [← W1.out, hf]; simp
              have e2 : (wrdTo n 0 ⟨#[]⟩ bs).2 = (tx.2.1, true) := by rw [← W2.out, hf]
              refine ⟨⟨_, rfl⟩, ?_, ?_⟩
              · rw [e1]; exact HJ.out _ _ _ J3.out (only_setCell (only_drew (only_refl _ _)) (.inl rfl) _)
              · rw [e2]; exact R3.out.drew.setBad true
            · have q : decide (2048 < x.size) = false := by simpa using hlg
              have hlgI : (x.size : Int) ≤ 2048 := by omega
              have HQ := Lib.hid q
              rw [q] at LG
              clear q hlg
              go_wp2_with fail
              refine wp_region_still_tail 11 (by kernel_rfl) (by kernel_rfl) ?_
              change wpStill _ _ (World.drew _) (fun a' => wpList _ _ _ _ a' (World.drew _)) _ _
              simp only [List.take_succ_cons, List.take_zero, List.drop_succ_cons, List.drop_zero]
              repeat still_step
              still_call (LG.out _)
              repeat still_step
              refine wpStill_nil ?_
              go_upto_region 9 with fail
              have R4' := R3.out.drew.setBad false
              have J4' := HJ.out _ _ _ J3.out (only_setCell (only_drew (only_refl wc _)) (p := ⟨g, 1, none⟩) (.inl rfl) (.bool false))
              have BN4' := BN3.out.grown (only_setCell (only_drew (only_refl wc _)) (p := ⟨g, 1, none⟩) (.inl rfl) (.bool false)) (by simpa using hbg2)
              have BR4' := BR3.out.grown (only_setCell (only_drew (only_refl wc _)) (p := ⟨g, 1, none⟩) (.inl rfl) (.bool false)) (by simpa using hbg)
              obtain ⟨w4, hw4⟩ : ∃ w4, w4 = wc.drew.setCell ⟨g, 1, none⟩ (.bool false) := ⟨_, rfl⟩
              change Code.wp _ _ _ _ (wc.drew.setCell ⟨g, 1, none⟩ (.bool false))
              rw [← hw4] at R4' J4' BN4' BR4' ⊢
              clear hw4
              have R4 := Lib.hid R4'
              have J4 := Lib.hid J4'
              have BN4 := Lib.hid BN4'
              have BR4 := Lib.hid BR4'
              obtain ⟨A4, c4, hb4, -, -, -, -, -⟩ := R4'
              have d0 := hb4.cell 1
              have d1 := BR4'.cell 0
              simp at d0 d1
              clear J4' BN4' BR4' hb4 c0 f0 r0 R3 J3 BN3 BR3
              obtain ⟨fn, tmps, assign, body, hy, hRd⟩ := HY.out pre x w4 J4.out (by omega) (by omega)
              refine (wpIn_wide (n := m + 1)).1 ?_
              gi_wp2
              refine hRd.mono ?_
              rintro e w5 ⟨rfl, hJ5, hk5⟩
              have R5 := Lib.hid (hk5.rdr R4.out (by omega) hg)
              have BN5 := Lib.hid (hk5.blk BN4.out hl1 (by omega))
              have BR5 := Lib.hid (hk5.blk BR4.out hl2 (by omega))
              have J5 := Lib.hid hJ5
              have hlw := wordO_less (i := k) (last := last) (bs := cs) (by rw [HWO.out]; exact HQ.out)
              rw [HWO.out] at hlw
              have hlw1 : tx.2.1.length + 1 ≤ cs.length := hlw.1
              have hf : wrdTo (n - k) k last cs = (x :: (wrdTo m2 (k + 1) x tx.2.1).1, (wrdTo m2 (k + 1) x tx.2.1).2) := by rw [HM2.out, wrdTo, HWO.out]; simp [HQ.out]
              have HF := Lib.hid hf
              have hm2' : n - (k + 1) = m2 := by have := HM2.out; omega
              have HM3 := Lib.hid hm2'
              clear hJ5 hk5 hlw hf hm2' d0 d1 R4 J4 BN4 BR4 hRd hy
              gi_wp2
              go_wp2_with fail
              go_roundw
              case rel => exact ⟨k + 1, pre ++ [x], x, tx.2.1, by omega, by go_num, rfl, by omega, by simp; omega, by rw [HM3.out, ← W1.out, HF.out]; simp, by rw [HM3.out, ← W2.out, HF.out], J5.out, R5.out, BN5.out, BR5.out⟩
              case measure => simp [intOf]; omega
      · obtain ⟨⟨sh, cs1, b1⟩, hso⟩ : ∃ r, shO k last cs = r := ⟨_, rfl⟩
        have HSO := Lib.hid hso
        have hso2 : rdO last.size cs false = (sh, cs1, b1) := by rw [← hso]; unfold shO; rw [if_neg h16]
        have NM : Hid (∀ W, RdrAt W g cs false → Calls Try.prog 47 #[.pointer (some ⟨g, 0, none⟩), .int .i64 last.size] W (NmPost W g (sh, cs1, b1))) := Lib.hid (fun W h => by rw [← hso2]; exact number_any g last.size cs false W h (by omega))
        have t1 : (((k : Int) % 16) != 0) = true := by simp; omega
        clear hso hso2 h16
        go_wp2_with (go_at_call 47; refine (NM.out _ R1.out).mono ?_; rintro e w1 ⟨rfl, hR2, hg2⟩; have R2 : Hid (RdrAt w1 g cs1 b1) := Lib.hid hR2; have J2 := Lib.hid (HJ.out _ _ _ J1.out hg2); have BN2 := Lib.hid (BN.out.grown hg2 (by simp; omega)); have hbr2 := BR.out.grown hg2 (by simp; omega); have BR2 := Lib.hid hbr2; have q0 := hbr2.cell 0; simp at q0; clear r0 hR2 hg2 hbr2 R1 J1 BN BR)
        have hsh := HSH.1
        rw [HSO.out] at hsh
        have hshI : (sh : Int) ≤ (last.size : Int) := by have h : sh ≤ last.size := hsh; omega
        obtain ⟨tx, htx⟩ : ∃ t, t = rdT cs1 b1 := ⟨_, rfl⟩
        have TX : Hid (∀ W, RdrAt W g cs1 b1 → Calls Try.prog 59 #[.pointer (some ⟨g, 0, none⟩)] W (TxPost W g tx)) := Lib.hid (fun W h => by rw [htx]; exact text_any g cs1 b1 W h)
        have HTL : Hid (tx.1.size ≤ 2048) := Lib.hid (by rw [htx]; exact (rdT_le _ _).1)
        obtain ⟨x, hx⟩ : ∃ x, x = last.extract 0 sh ++ tx.1 := ⟨_, rfl⟩
        have HWO : Hid (wordO k last cs = (x, tx.2.1, tx.2.2 || decide (2048 < x.size))) := Lib.hid (by unfold wordO; rw [HSO.out]; simp only; rw [← htx, ← hx])
        have HX := Lib.hid hx
        have hxs : x.size ≤ 5000 := by
          have h1 := HTL.out
          have h2 : x.size = (last.extract 0 sh).size + tx.1.size := by rw [hx, ByteArray.size_append]
          have h3 : (last.extract 0 sh).size ≤ last.size := by rw [ByteArray.size_extract]; omega
          omega
        have hts : tx.1.size ≤ 2048 := HTL.out
        have hes : (last.extract 0 sh).size ≤ 2048 := by rw [ByteArray.size_extract]; omega
        clear htx hx hsh HSH
        have hbg : br ≠ g := by omega
        have hbg2 : bn ≠ g := by omega
        go_wp2_with fail
        go_cut [4] (fun v wx => v = .string x ∧ TxtW g w1 x tx.2.1 tx.2.2 wx)
        case first =>
          go_region_with (go_at_call 59; refine (TX.out _ R2.out.drew).mono ?_; rintro e w2 ⟨rfl, hR2, hg2⟩)
          all_goals
            go_wp2_with fail
            go_meet
            exact ⟨by rw [HX.out] <;> (congr 1; apply ByteArray.ext; simp), hR2, only_trans (only_drew (only_refl _ _)) hg2⟩
        case rest =>
          obtain ⟨rfl, hR3, hg3⟩ := hcut
          have R3 := Lib.hid hR3
          have J3 := Lib.hid (HJ.out _ _ _ J2.out hg3)
          have BN3 := Lib.hid (BN2.out.grown hg3 (by simpa using hbg2))
          have BR3 := Lib.hid (BR2.out.grown hg3 (by simpa using hbg))
          clear q0 hR3 hg3 TX HTL R2 J2 BN2 BR2 hts hes
          obtain ⟨A3, c3, hb3, -, -, -, -, -⟩ := R3.out
          have c0 := hb3.cell 1
          have f0 := hb3.frozen 1
          have r0 := BR3.out.cell 0
          simp at c0 r0
          clear hb3
          cases hb : tx.2.2 with
          | true =>
            rw [hb] at HWO c0
            clear hb
            go_wp2_with fail
            refine wp_region_still_tail 11 (by kernel_rfl) (by kernel_rfl) ?_
            change wpStill _ _ (World.drew _) (fun a' => wpList _ _ _ _ a' (World.drew _)) _ _
            simp only [List.take_succ_cons, List.take_zero, List.drop_succ_cons, List.drop_zero]
            repeat still_step
            refine wpStill_nil ?_
            go_wp2_with fail
            go_end0
            have hf : wrdTo (n - k) k last cs = ([], tx.2.1, true) := by rw [HM2.out, wrdTo, HWO.out]; simp
            have e1 : (wrdTo n 0 ⟨#[]⟩ bs).1 = pre := by rw [← W1.out, hf]; simp
            have e2 : (wrdTo n 0 ⟨#[]⟩ bs).2 = (tx.2.1, true) := by rw [← W2.out, hf]
            refine ⟨⟨_, rfl⟩, ?_, ?_⟩
            · rw [e1]; exact HJ.out _ _ _ J3.out (only_setCell (only_drew (only_refl _ _)) (.inl rfl) _)
            · rw [e2]; exact R3.out.drew.setBad true
          | false =>
            rw [hb] at HWO c0
            clear hb
            have LG : Hid (∀ w1, Calls Try.prog 40 #[.string x] w1 (fun e w' => e = .returned (.bool (decide (2048 < x.size))) ∧ w' = w1)) := Lib.hid (fun w1 => long_still x w1)
            by_cases hlg : 2048 < x.size
            · have q : decide (2048 < x.size) = true := by simpa using hlg
              have hlgI : (2048 : Int) < (x.size : Int) := by omega
              have HQ := Lib.hid q
              rw [q] at LG
              clear q hlg
              go_wp2_with fail
              refine wp_region_still_tail 11 (by kernel_rfl) (by kernel_rfl) ?_
              change wpStill _ _ (World.drew _) (fun a' => wpList _ _ _ _ a' (World.drew _)) _ _
              simp only [List.take_succ_cons, List.take_zero, List.drop_succ_cons, List.drop_zero]
              repeat still_step
              still_call (LG.out _)
              repeat still_step
              refine wpStill_nil ?_
              go_wp2_with fail
              go_end0
              have hf : wrdTo (n - k) k last cs = ([], tx.2.1, true) := by rw [HM2.out, wrdTo, HWO.out]; simp; omega
              have e1 : (wrdTo n 0 ⟨#[]⟩ bs).1 = pre := by rw [← W1.out, hf]; simp
              have e2 : (wrdTo n 0 ⟨#[]⟩ bs).2 = (tx.2.1, true) := by rw [← W2.out, hf]
              refine ⟨⟨_, rfl⟩, ?_, ?_⟩
              · rw [e1]; exact HJ.out _ _ _ J3.out (only_setCell (only_drew (only_refl _ _)) (.inl rfl) _)
              · rw [e2]; exact R3.out.drew.setBad true
            · have q : decide (2048 < x.size) = false := by simpa using hlg
              have hlgI : (x.size : Int) ≤ 2048 := by omega
              have HQ := Lib.hid q
              rw [q] at LG
              clear q hlg
              go_wp2_with fail
              refine wp_region_still_tail 11 (by kernel_rfl) (by kernel_rfl) ?_
              change wpStill _ _ (World.drew _) (fun a' => wpList _ _ _ _ a' (World.drew _)) _ _
              simp only [List.take_succ_cons, List.take_zero, List.drop_succ_cons, List.drop_zero]
              repeat still_step
              still_call (LG.out _)
              repeat still_step
              refine wpStill_nil ?_
              go_upto_region 9 with fail
              have R4' := R3.out.drew.setBad false
              have J4' := HJ.out _ _ _ J3.out (only_setCell (only_drew (only_refl wc _)) (p := ⟨g, 1, none⟩) (.inl rfl) (.bool false))
              have BN4' := BN3.out.grown (only_setCell (only_drew (only_refl wc _)) (p := ⟨g, 1, none⟩) (.inl rfl) (.bool false)) (by simpa using hbg2)
              have BR4' := BR3.out.grown (only_setCell (only_drew (only_refl wc _)) (p := ⟨g, 1, none⟩) (.inl rfl) (.bool false)) (by simpa using hbg)
              obtain ⟨w4, hw4⟩ : ∃ w4, w4 = wc.drew.setCell ⟨g, 1, none⟩ (.bool false) := ⟨_, rfl⟩
              change Code.wp _ _ _ _ (wc.drew.setCell ⟨g, 1, none⟩ (.bool false))
              rw [← hw4] at R4' J4' BN4' BR4' ⊢
              clear hw4
              have R4 := Lib.hid R4'
              have J4 := Lib.hid J4'
              have BN4 := Lib.hid BN4'
              have BR4 := Lib.hid BR4'
              obtain ⟨A4, c4, hb4, -, -, -, -, -⟩ := R4'
              have d0 := hb4.cell 1
              have d1 := BR4'.cell 0
              simp at d0 d1
              clear J4' BN4' BR4' hb4 c0 f0 r0 R3 J3 BN3 BR3
              obtain ⟨fn, tmps, assign, body, hy, hRd⟩ := HY.out pre x w4 J4.out (by omega) (by omega)
              refine (wpIn_wide (n := m + 1)).1 ?_
              gi_wp2
              refine hRd.mono ?_
              rintro e w5 ⟨rfl, hJ5, hk5⟩
              have R5 := Lib.hid (hk5.rdr R4.out (by omega) hg)
              have BN5 := Lib.hid (hk5.blk BN4.out hl1 (by omega))
              have BR5 := Lib.hid (hk5.blk BR4.out hl2 (by omega))
              have J5 := Lib.hid hJ5
              have hlw := wordO_less (i := k) (last := last) (bs := cs) (by rw [HWO.out]; exact HQ.out)
              rw [HWO.out] at hlw
              have hlw1 : tx.2.1.length + 1 ≤ cs.length := hlw.1
              have hf : wrdTo (n - k) k last cs = (x :: (wrdTo m2 (k + 1) x tx.2.1).1, (wrdTo m2 (k + 1) x tx.2.1).2) := by rw [HM2.out, wrdTo, HWO.out]; simp [HQ.out]
              have HF := Lib.hid hf
              have hm2' : n - (k + 1) = m2 := by have := HM2.out; omega
              have HM3 := Lib.hid hm2'
              clear hJ5 hk5 hlw hf hm2' d0 d1 R4 J4 BN4 BR4 hRd hy
              gi_wp2
              go_wp2_with fail
              go_roundw
              case rel => exact ⟨k + 1, pre ++ [x], x, tx.2.1, by omega, by go_num, rfl, by omega, by simp; omega, by rw [HM3.out, ← W1.out, HF.out]; simp, by rw [HM3.out, ← W2.out, HF.out], J5.out, R5.out, BN5.out, BR5.out⟩
              case measure => simp [intOf]; omega
    · obtain rfl : k = n := by omega
      go_wp2_with fail
      go_end0
      have e1 : (wrdTo k 0 ⟨#[]⟩ bs).1 = pre := by have := W1.out; rw [Nat.sub_self] at this; simpa [wrdTo] using this.symm
      have e2 : (wrdTo k 0 ⟨#[]⟩ bs).2 = (cs, false) := by have := W2.out; rw [Nat.sub_self] at this; simpa [wrdTo] using this.symm
      refine ⟨⟨_, rfl⟩, ?_, ?_⟩
      · rw [e1]; exact J1.out
      · rw [e2]; simpa using R1.out
end Go.Proofs.Ytgaomilmljepoaa
