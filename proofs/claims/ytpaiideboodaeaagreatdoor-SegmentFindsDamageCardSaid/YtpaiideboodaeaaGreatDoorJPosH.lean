/- postings.Encode: the program's. Conditions: a good list that is not empty, its length at most 4096. -/
import Derived.Test.YtpaiideboodaeaaGreatDoorJPosG
import Derived.Test.YtpaiideboodaeaaGreatDoorJShelf36
import Derived.Test.YtpaiideboodaeaaGreatDoorJStr
import Derived.Test.YtpaiideboodaeaaGreatDoorJREnc
import Derived.Test.YtpaiideboodaeaaGreatDoorJRIdx
import Derived.Sort.OwnSorted
namespace Go.Proofs.YtpaiideboodaeaaGreatDoor
open Go.RowKit
set_option linter.unusedVariables false
set_option linter.unusedSimpArgs false
attribute [local go_sem] Oper.semAt_some

/-- the identifier ahead of the j-th one of the block at q -/
def lastN (ds : List Int) (q j : Nat) : Int := if j = 0 then 0 else ds.getD (q + (j - 1)) 0
theorem gapTo_step (ds : List Int) (q j : Nat) : gapTo ds q (j + 1) = gapTo ds q j ++ vint (ds.getD (q + j) 0 - lastN ds q j).toNat := by
  unfold lastN
  rw [gapTo]
  by_cases h : j = 0
  · subst h; simp
  · rw [if_neg h, if_neg h]
theorem lastN_step (ds : List Int) (q j : Nat) : lastN ds q (j + 1) = ds.getD (q + j) 0 := by unfold lastN; rw [if_neg (by omega), Nat.add_sub_cancel]
theorem lastN_le {ds : List Int} (ha : AscN ds) {q j : Nat} (h : q + j < ds.length) : 0 ≤ lastN ds q j ∧ lastN ds q j ≤ ds.getD (q + j) 0 ∧ ds.getD (q + j) 0 < 4096 := by
  have h1 := ha.1 (q + j) h
  unfold lastN
  by_cases hj : j = 0
  · rw [if_pos hj]; omega
  · rw [if_neg hj]
    have h2 := ha.1 (q + (j - 1)) (by omega)
    have h3 := ha.2 (q + (j - 1)) (by omega)
    rw [show q + (j - 1) + 1 = q + j from by omega] at h3
    omega
def PoI (base B : Nat) (w1 : World) (ds : List Int) (pre : List Nat) (X : World) : Prop :=
  ∃ vH vB, PoS base B w1 (headP ds pre.length) (bodyP ds pre.length) vH vB X
set_option maxHeartbeats 8000000 in
set_option maxRecDepth 100000 in
theorem ppost_any {S : Nat → Prop} (A : Option Addr) (ds : List Int) (c : Nat) (w : World) (h : Rd S w A (ds.map (.int .i64))) (hl : ds.length ≤ 4096) (h0 : 0 < ds.length) (ha : AscN ds) (hc : ds.length ≤ c) (hm : c ≤ maxLen) :
    Calls Tryz.prog 113 #[.slice A ds.length c] w (PostP w ds) := by
  have H := Lib.hid (h.mono (S' := (· < w.heap.size)) (fun b _ hb => hb))
  have HAS := Lib.hid ha
  have KC := Lib.hid (postcheck_any A ds c w h hl ha)
  have HHL := Lib.hid (headP_len ds ha.1 hl)
  have HBL := Lib.hid (bodyP_len ds ha.1)
  have HGL := Lib.hid (gapTo_len ds ha.1)
  obtain ⟨b, o, rfl⟩ : ∃ b o, A = some ⟨b, o, none⟩ := by
    obtain ⟨b, o, e, -⟩ := h (by rw [List.length_map]; exact h0)
    exact ⟨b, o, e⟩
  clear h ha
  have HM := Lib.hid hm
  clear hm
  refine (callsIn_wide (n := 9)).1 ?_
  refine callsIn_of_wp_marks Tryz.func113 rfl trivial ?_
  refine wpIn_wide.2 ?_
  simp only [Tryz.ntmps113, List.size_toArray, List.length_cons, List.length_nil, Nat.reduceAdd, Nat.reduceSub, Array.replicate_succ, Array.replicate_zero, List.push_toArray, List.append_toArray, List.nil_append, List.cons_append]
  go_wp2_with fail
  refine KC.out.mono ?_
  rintro e w1 ⟨rfl, n1, hw1⟩
  have H1 : Hid (Rd (· < w.heap.size) w1 (some ⟨b, o, none⟩) (ds.map (.int .i64))) := Lib.hid (by rw [hw1]; exact H.out)
  have G1 : Hid (w.grownBy w1 none) := Lib.hid (by rw [hw1]; exact only_drewN (only_refl _ _) n1)
  have hz1 := G1.out.size
  clear hw1 KC H
  go_wp2_with fail
  refine (pvarint_any w1.heap.size _ [] ds.length _ (Byts.nil _ _) (by simp) (by omega) (Nat.le_refl _)).mono ?_
  rintro e w2 ⟨v2, rfl, hB2, hO2⟩
  have B2 : Hid (Byts w1.heap.size w2 v2 (headP ds 0)) := Lib.hid hB2
  have G2 : Hid (w1.grownBy w2 none) := Byts.only (Byts.nil w1.heap.size w1) hO2 (only_refl _ _) (Nat.le_refl _)
  have hz2 := G2.out.size
  clear hB2 hO2
  obtain ⟨A2, c2, hv2, -, -, -⟩ := B2.out.rd
  subst hv2
  obtain ⟨V2, hV2⟩ : ∃ V, V = Value.slice A2 (headP ds 0).length c2 := ⟨_, rfl⟩
  obtain ⟨B, hBe⟩ : ∃ B, B = w2.heap.size := ⟨_, rfl⟩
  obtain ⟨W3, hW3⟩ : ∃ W, W = (w2.alloc (.cells #[V2] 22)).alloc (.cells #[.slice none 0 0] 22) := ⟨_, rfl⟩
  have HS3 : Hid (W3.heap.size = B + 2) := Lib.hid (by rw [hW3, hBe]; simp)
  have HBE := Lib.hid hBe
  have HWE := Lib.hid hW3
  have HVE := Lib.hid hV2
  go_upto_region 6 with fail
  rw [← hV2] at B2 ⊢
  rw [← hW3]
  rw [show w2.heap.size + 1 = B + 1 from by rw [hBe], ← hBe]
  clear hBe hW3 hV2
  go_wp2_with fail
  refine (chunkmk_any (some ⟨b, o, none⟩) ds.length c W3).mono ?_
  rintro e w3 ⟨rfl, hw3⟩
  rw [HS3.out]
  have HZ3 : Hid (w3.heap.size = B + 4) := Lib.hid (by rw [hw3]; have := HS3.out; simp; omega)
  have g13 : w2.grownBy w3 none := by rw [hw3, HWE.out]; exact only_alloc (only_alloc (only_alloc (only_alloc (only_refl _ _) _) _) _) _
  have G3 : Hid (w1.grownBy w3 none) := Lib.hid (only_trans G2.out g13)
  have bl0 : Blk w3 B 22 #[V2] := by rw [hw3, HWE.out, HBE.out]; exact (((Blk.new _ _ _).alloc _).alloc _).alloc _
  have bl1 : Blk w3 (B + 1) 22 #[.slice none 0 0] := by
    rw [hw3, HWE.out, HBE.out]
    have h := Blk.new (w2.alloc (.cells #[V2] 22)) 22 #[.slice none 0 0]
    rw [World.size_alloc] at h
    exact (h.alloc _).alloc _
  have bl2 : Blk w3 (B + 2) 47 #[.slice (some ⟨b, o, none⟩) ds.length c] := by
    rw [hw3, ← HS3.out]; exact (Blk.new _ _ _).alloc _
  have bl3 : Blk w3 (B + 3) 3 #[.int .i64 32] := by
    rw [hw3]
    have h := Blk.new (W3.alloc (.cells #[.slice (some ⟨b, o, none⟩) ds.length c] 47)) 3 #[.int .i64 32]
    rw [World.size_alloc, HS3.out] at h
    exact h
  have bv : Byts w1.heap.size w3 V2 (headP ds 0) := own_ext B2.out g13
  have HLV : Hid (∀ g, V2.ownBlock = some g → g < B) := Lib.hid (fun g e => by rw [HBE.out]; exact (World.ownsRow.lt B2.out g e).2)
  have hBb : w1.heap.size ≤ B := by rw [HBE.out]; exact hz2
  have P0 : Hid (∀ W, w3.grownBy W none → W.heap.size = w3.heap.size + 2 → PoI w1.heap.size B w1 ds [] W) := Lib.hid (fun W hg hs => ⟨V2, .slice none 0 0, bl0.grown hg (by simp), bl1.grown hg (by simp), own_ext bv hg, Byts.nil _ _, fun g _ h => by simp [Value.ownBlock] at h, fun g e => .inl (HLV.out g e), fun g e => by simp [Value.ownBlock] at e, only_trans G3.out hg, by have := HZ3.out; omega⟩)
  have BL2 := Lib.hid bl2
  have BL3 := Lib.hid bl3
  clear bl0 bl1 bl2 bl3 bv hw3 HWE HVE B2 g13 HBE HLV
  have hz3 := HZ3.out
  go_wp2_with fail
  refine wp_range_mine 8 (B + 2) (gf := 213) (lb := #[.pointer (some ⟨B + 2, 0, none⟩), .pointer (some ⟨B + 3, 0, none⟩)]) rfl (enters_of Tryz.func213 (by kernel_rfl) rfl) (by omega) (encs := fun m : Nat => #[chunkV b o ds.length m]) (fun _ => rfl) (fun pre x => x = pre.length ∧ 32 * x < ds.length) (KpC (B + 2) (B + 3)) (fun h k b hb => (k b hb).trans (h b hb)) (fun W l ob h1 _ b hb => World.putObj_heap_other (by omega))
    (List.range ((ds.length + 31) / 32)) (fun _ => True) (fun _ _ _ _ => trivial) ?hseq (PoI w1.heap.size B w1 ds) ?hI ?h0
    (fun m => { tmps := #[.slice (some ⟨b, o, none⟩) ds.length c, undef, .slice none 0 0, .int .i64 0, .int .i64 0, .pointer (some ⟨B, 0, none⟩), .pointer (some ⟨B + 1, 0, none⟩), chunkV b o ds.length m, undef, undef, undef, undef, .slice (some ⟨b, o, none⟩) ds.length c, .int .i64 0, .int .i64 0, .bool false, undef, .slice (some ⟨b, o, none⟩) ds.length c, .int .i64 ds.length, V2, .slice (some ⟨b, o, none⟩) ds.length c, .func (.func 213) #[] #[.pointer (some ⟨B + 2, 0, none⟩), .pointer (some ⟨B + 3, 0, none⟩)], chunkV b o ds.length m, undef, undef, undef, undef, undef, undef, undef, undef, undef, undef, undef, undef, undef, undef, undef, undef, undef, undef, undef, undef, undef, undef, undef, undef, undef, undef], defers := [] }) ?hassign ?hbody ?hdone
  case hseq =>
    rintro J W ⟨hJ, hY⟩ hJ0 hgW hsW
    refine (chunk_iter 8 (B + 2) (B + 3) (w3.heap.size + 1) b o ds.length c J W hJ (fun pre x W1 h1 h2 h3 => hY pre x W1 h1 h2 h3) hJ0 (BL2.out.grown hgW (by simp)) (BL3.out.grown hgW (by simp)) hc HM.out hl).mono ?_
    rintro e W2 ⟨h1, h2⟩
    exact ⟨h1, h2, trivial⟩
  case hI =>
    rintro s X Y r ⟨vH, vB, h⟩ hg hr
    exact ⟨vH, vB, h.still hg (by omega) (by omega) hBb⟩
  case h0 => exact P0.out
  case hassign =>
    intro m W K hK
    gi_wp2
    exact hK
  case hbody =>
    rintro pre m W ⟨vH, vB, hP⟩ ⟨rfl, hx⟩ hlen hsz
    obtain ⟨m, hm⟩ : ∃ m, m = pre.length := ⟨_, rfl⟩
    rw [← hm] at hP hx ⊢
    have HM1 := Lib.hid hm
    obtain ⟨q, hq⟩ : ∃ q, q = 32 * m := ⟨_, rfl⟩
    have HQ := Lib.hid hq
    obtain ⟨L, hL⟩ : ∃ L, L = blL ds m := ⟨_, rfl⟩
    have HL := Lib.hid hL
    have hL0 : 0 < L ∧ L ≤ 32 ∧ q + L ≤ ds.length := by rw [hL, hq]; unfold blL; omega
    obtain ⟨hLp, hL32, hLn⟩ := hL0
    have HV : Hid (chunkV b o ds.length m = .slice (some ⟨b, o + q, none⟩) L L) := Lib.hid (by unfold chunkV; rw [← hq, show min 32 (ds.length - q) = L from by rw [hL, hq]; unfold blL; omega])
    rw [HV.out]
    have PP := Lib.hid hP
    have HRw : Hid (∀ X, w1.grownBy X none → Rd (· < w.heap.size) X (some ⟨b, o, none⟩) (ds.map (.int .i64))) := Lib.hid (fun X hg => H1.out.grown hg (by simp))
    obtain ⟨AB, cB, hvB, -, -, -⟩ := hP.b.rd
    have c0 := hP.cB.cell 0
    simp at c0
    have hszW := hP.z
    rw [hvB] at c0
    have HVB := Lib.hid hvB
    clear hP hm hq hL hvB P0 BL2 BL3
    gi_wp2_with fail
    gi_loopw [9, 27] (fun vl vi wr => ∃ j : Nat, j ≤ L ∧ vi = .int .i64 j ∧ vl = .int .i64 (lastN ds q j) ∧ ∃ vB', PoS w1.heap.size B w1 (headP ds m) (bodyP ds m ++ gapTo ds q j) vH vB' wr ∧ KpP B W wr) (fun _ vi _ => L - (intOf vi).toNat)
    case atStart => exact ⟨0, Nat.zero_le _, rfl, rfl, vB, by simpa [gapTo] using PP.out, KpP.refl _ _⟩
    case round =>
      clear PP c0 HVB HV
      obtain ⟨j, hj, rfl, rfl, vB', hP, hKp⟩ := hrel
      have PP := Lib.hid hP
      have KK := Lib.hid hKp
      have hbl := HBL.out m (by rw [← HQ.out]; omega)
      have hgl := HGL.out q j (by omega)
      have hqm := HQ.out
      obtain ⟨AB', cB', hvB, -, -, -⟩ := hP.b.rd
      have c0 := hP.cB.cell 0
      simp at c0
      rw [hvB] at c0
      have HVB := Lib.hid hvB
      have hzr := hP.z
      have hxl : (bodyP ds m ++ gapTo ds q j).length ≤ 50000 := by rw [List.length_append]; omega
      by_cases hjl : j < L
      · obtain ⟨x, hcx, hx⟩ := (HRw.out wr hP.g).int_at' (k := q + j) (by omega)
        obtain ⟨l0, l1, l2⟩ := lastN_le HAS.out (q := q) (j := j) (by omega)
        have hxx := HAS.out.1 (q + j) (by omega)
        rw [hx.out] at l1 l2 hxx
        obtain ⟨xn, rfl⟩ : ∃ n : Nat, x = (n : Int) := ⟨x.toNat, by omega⟩
        obtain ⟨ln, hln⟩ : ∃ n : Nat, lastN ds q j = (n : Int) := ⟨(lastN ds q j).toNat, by omega⟩
        have HG1 : Hid (gapTo ds q (j + 1) = gapTo ds q j ++ vint (xn - ln)) := Lib.hid (by rw [gapTo_step, hx.out, hln, show ((xn : Int) - (ln : Int)).toNat = xn - ln from by omega])
        have HLN : Hid (lastN ds q (j + 1) = (xn : Int)) := Lib.hid (by rw [lastN_step, hx.out])
        rw [hln] at l0 l1 ⊢
        rw [← Nat.add_assoc] at hcx
        have HSUB : Hid (((xn : Int) - (ln : Int)) = ((xn - ln : Nat) : Int)) := Lib.hid (by omega)
        have i1 : (j : Int) < (L : Int) := by omega
        have i2 : (0 : Int) ≤ (j : Int) := by omega
        have KV := Lib.hid (pvarint_any w1.heap.size vB' (bodyP ds m ++ gapTo ds q j) (xn - ln) wr hP.b (by omega) (by omega) (by omega))
        rw [hvB, List.length_append] at KV
        clear hx hln hP hKp hqm hvB
        gi_wp2_with fail
        rw [HSUB.out]
        refine ⟨trivial, (CallsIn.inRound _ (callsIn_wide.2 KV.out)).mono ?_⟩
        rintro e w5 ⟨v5, rfl, hB5, hO5⟩
        rw [← List.length_append, ← HVB.out] at hO5
        have hB5' : Byts w1.heap.size w5 v5 (bodyP ds m ++ gapTo ds q (j + 1)) := by rw [HG1.out, ← List.append_assoc]; exact hB5
        obtain ⟨hP5, hK5⟩ := PP.out.putB hO5 hB5' (Nat.le_refl _) hBb
        have hbk := PP.out.cB.grown hO5.1 (fun e => by have := PP.out.lB (B + 1) e.symm; omega)
        obtain ⟨A5, c5, hv5, -, -, -⟩ := hB5'.rd
        subst hv5
        have P5 := Lib.hid hP5
        have K5 := Lib.hid (KK.out.trans hK5)
        have d0 := hbk.cell 0
        have f0 := hbk.frozen 0
        simp at d0
        rw [List.length_append] at P5 K5
        clear hB5 hO5 hB5' hP5 hK5 hbk KV c0 hcx
        gi_wp2_with fail
        go_roundw
        case rel => exact ⟨j + 1, by omega, by go_num, by rw [HLN.out], _, P5.out, K5.out⟩
        case measure => simp [intOf]; omega
      · obtain rfl : j = L := by omega
        obtain ⟨L', hL'⟩ : ∃ L', j = L' + 1 := ⟨j - 1, by omega⟩
        have h9 := HAS.out.1 (q + L') (by omega)
        obtain ⟨ln, hln⟩ : ∃ n : Nat, lastN ds q j = (n : Int) := ⟨(lastN ds q j).toNat, by rw [hL', lastN_step]; omega⟩
        have hdl : ds.getD (q + L') 0 = (ln : Int) := by rw [← hln, hL', lastN_step]
        rw [hdl] at h9
        have HH1 : Hid (headP ds (m + 1) = headP ds m ++ vint ln ++ vint (gapTo ds q j).length) := Lib.hid (by
          rw [headP, ← HL.out, ← HQ.out, show q + (j - 1) = q + L' from by omega, hdl, Int.toNat_natCast, List.append_assoc])
        have HB1 : Hid (bodyP ds (m + 1) = bodyP ds m ++ gapTo ds q j) := Lib.hid (by rw [bodyP, ← HL.out, ← HQ.out])
        rw [hln]
        have hhl := HHL.out m (by rw [← HQ.out]; omega)
        have hvl := vint_len10 (n := ln) (by omega)
        have i1 : ¬ (j : Int) < (j : Int) := by omega
        obtain ⟨AH, cH, hvH, -, -, -⟩ := hP.h.rd
        have e0 := hP.cH.cell 0
        have g0 := hP.cH.frozen 0
        simp at e0
        rw [hvH] at e0
        have HVH := Lib.hid hvH
        have KV := Lib.hid (fun (X : World) (hg : wr.grownBy X none) => pvarint_any w1.heap.size vH (headP ds m) ln X (own_ext hP.h hg) (by omega) (by omega) (by have := hg.size; omega))
        rw [hvH] at KV
        clear hP hKp hqm hvB hvH hL' hdl hln h9 hjl
        gi_wp2_with fail
        have KV2 := Lib.hid (fun (v : Value) (X : World) (hb : Byts w1.heap.size X v (headP ds m ++ vint ln)) (hz : w1.heap.size ≤ X.heap.size) => pvarint_any w1.heap.size v (headP ds m ++ vint ln) (gapTo ds q j).length X hb (by rw [List.length_append]; omega) (by omega) hz)
        have HZW : Hid (w1.heap.size ≤ wr.heap.size) := Lib.hid (by omega)
        have HLH : Hid (∀ (X : World) (v : Value), Onto wr.drew vH v X → Blk X (B + 1) 22 #[vB'] ∧ Blk X B 22 #[vH]) := Lib.hid (fun X v hO => ⟨PP.out.cB.drew.grown hO.1 (fun e => by have := PP.out.lH (B + 1) e.symm; omega), PP.out.cH.drew.grown hO.1 (fun e => by have := PP.out.lH B e.symm; omega)⟩)
        have HFIN : Hid (∀ (X : World) (v : Value), PoS w1.heap.size B w1 (headP ds (m + 1)) (bodyP ds m ++ gapTo ds q j) v vB' X → KpP B wr.drew X → RoundOk w3.heap.size (KpC (B + 2) (B + 3)) (PoI w1.heap.size B w1 ds (pre ++ [m])) W Exit.normal X) := Lib.hid (fun X v hP hK => by
          have k : KpP B W X := (KK.out.trans (show KpP B wr wr.drew from ⟨Nat.le_refl _, fun _ _ _ => rfl⟩)).trans hK
          have hz := HZ3.out
          refine ⟨rfl, fun b hb => k.2 b (by omega) (by omega), k.1, fun b hb => k.2 b (by omega) (by omega), v, vB', ?_⟩
          rw [List.length_append, List.length_singleton, ← HM1.out, HB1.out]
          exact hP)
        have hwg : IntKind.i64.wrap ((((bodyP ds m).length : Nat) : Int) + ((gapTo ds q j).length : Nat) - ((bodyP ds m).length : Nat)) = ((gapTo ds q j).length : Nat) := by rw [show (((bodyP ds m).length : Nat) : Int) + ((gapTo ds q j).length : Nat) - ((bodyP ds m).length : Nat) = ((gapTo ds q j).length : Nat) from by omega]; exact IntWalk.i64_in _ (by omega)
        have hmx : Tryz.prog.follows .mixedOrders = true := by kernel_rfl
        have PD := Lib.hid (PP.out.quiet (show wr.grownBy wr.drew none from only_drew (only_refl _ _)))
        gi_region_with_o (first | (refine ⟨trivial, (CallsIn.inRound _ (callsIn_wide.2 (KV.out _ (only_drew (only_refl _ _))))).mono ?_⟩; rintro e w6 ⟨v6, rfl, hB6, hO6⟩; have HB6 := Lib.hid hB6; have HO6 : Hid (Onto wr.drew vH v6 w6) := Lib.hid (by rw [HVH.out]; exact hO6); have HZ6 := Lib.hid hO6.1.size; have q0 := (HLH.out _ _ HO6.out).1.cell 0; rw [HVB.out] at q0; simp at q0; clear hB6 hO6 KV) | (refine ⟨trivial, (CallsIn.inRound _ (callsIn_wide.2 (KV2.out v6 w6 HB6.out (Nat.le_trans HZW.out HZ6.out)))).mono ?_⟩; rintro e w7 ⟨v7, rfl, hB7, hO7⟩; have hB7' : Byts w1.heap.size w7 v7 (headP ds (m + 1)) := (by rw [HH1.out]; exact hB7); obtain ⟨hP7, hK7⟩ := PD.out.putH (HO6.out.trans hO7) hB7' (Nat.le_refl _) hBb; have hbk := (HLH.out _ _ (HO6.out.trans hO7)).2; obtain ⟨A7, c7, hv7, -, -, -⟩ := hB7'.rd; subst hv7; have P7 := Lib.hid hP7; have K7 := Lib.hid hK7; have d0 := hbk.cell 0; have f0 := hbk.frozen 0; rw [HVH.out] at d0; simp at d0; clear hB7 hO7 hB7' hP7 hK7 hbk))
        all_goals gi_wp2_with fail
        all_goals exact HFIN.out _ _ P7.out K7.out
  case hdone =>
    rintro W ⟨vH, vB, hP⟩ - hD
    rw [List.length_range] at hP
    obtain ⟨mm, hmm⟩ : ∃ mm, mm = (ds.length + 31) / 32 := ⟨_, rfl⟩
    rw [← hmm] at hP
    have hhl := HHL.out mm (by omega)
    have hbl := HBL.out mm (by omega)
    have hm2 : mm ≤ 128 := by omega
    have HX : Hid (postX ds = headP ds mm ++ bodyP ds mm) := Lib.hid (by rw [hmm]; rfl)
    have PP := Lib.hid hP
    have hz3' := HZ3.out
    have hzW := hP.z
    obtain ⟨AH, cH, hvH, -, -, -⟩ := hP.h.rd
    obtain ⟨AB, cB, hvB, -, -, hrB⟩ := hP.b.rd
    have c0 := hP.cH.cell 0
    have c1 := hP.cB.cell 0
    simp at c0 c1
    rw [hvH] at c0
    rw [hvB] at c1
    have BH : Hid (Byts w1.heap.size W (.slice AH (headP ds mm).length cH) (headP ds mm)) := Lib.hid (by rw [← hvH]; exact hP.h)
    have RB := Lib.hid hrB
    have GW := Lib.hid hP.g
    have HD := Lib.hid hD
    have HDL : Hid (some w3.heap.size ≠ (Value.slice AH (headP ds mm).length cH).ownBlock) := Lib.hid (fun e => by rw [← hvH] at e; have := hP.lH _ e.symm; omega)
    have hDlt := (Array.getElem?_eq_some_iff.1 hD).1
    clear hP hD hmm hvH hvB hrB P0 BL2 BL3
    go_wp2_with (at_builtin; go_must (refine wpList_appendN rfl _ _ 22 rfl w1.heap.size Tryz.underlying22 byteInfo rfl (by decide) (v := .slice AH (headP ds mm).length cH) (by rfl) BH.out AB (bodyP ds mm).length cB (by rfl) RB.out (by simp) (byte_ones _) (by decide) (by omega) (by omega) ?_); intro v7 w7 hown7 hg7 hob7)
    have B7 : Byts w1.heap.size w7 v7 (postX ds) := by
      rw [HX.out]
      unfold Byts
      rw [List.length_append, List.map_append]
      exact hown7
    have HD7 : Hid (w7.heap[B + 4]? = some (.deferred (some []))) := Lib.hid (by rw [← HZ3.out]; exact (hg7.block _ hDlt HDL.out).trans HD.out)
    have G7 : w.grownBy w7 none := only_trans G1.out (only_own GW.out hg7 BH.out (Nat.le_refl _))
    have hne : v7.ownBlock ≠ some w3.heap.size := fun e => by
      rcases (onto_apN hg7 hob7).2 with e1 | ⟨k, hk, e1⟩
      · rw [e1] at e; exact HDL.out e.symm
      · rw [e1] at e; injection e with e; omega
    have HF : Hid (∀ ob, Byts w.heap.size (w7.putObj (B + 4) ob) v7 (postX ds) ∧ w.grownBy (w7.putObj (B + 4) ob) none) := Lib.hid (fun ob => by rw [← HZ3.out]; exact ⟨own_off (B7.base hz1) (grownBy_putObj' w7 _ ob) hne, own_putObj G7 (by omega) ob⟩)
    clear hown7 hg7 hob7 B7 G7 hne
    exact ⟨by simp, .inl ⟨_, _, rfl, run_takeDeferred HD7.out, _, results_tmp2 rfl _ _ _, v7, rfl, (HF.out _).1, (HF.out _).2⟩⟩
end Go.Proofs.YtpaiideboodaeaaGreatDoor


namespace Go.Proofs.YtpaiideboodaeaaGreatDoor
open Go.RowKit
set_option linter.unusedVariables false
set_option linter.unusedSimpArgs false

theorem isnan1_any (s : ByteArray) (w : World) : Calls Tryz.prog 167 #[.string s] w (Quiet (.bool false) w) := by
  go_enter Tryz.func167, Tryz.ntmps167
  go_wp2
  go_ret
  exact ⟨by simp, 0, rfl⟩
theorem isnan2_any (s : ByteArray) (w : World) : Calls Tryz.prog 191 #[.string s] w (Quiet (.bool false) w) := by
  go_enter Tryz.func191, Tryz.ntmps191
  go_wp2
  go_ret
  exact ⟨by simp, 0, rfl⟩
set_option maxHeartbeats 400000 in
theorem cmpless_any (a b : ByteArray) (w : World) : Calls Tryz.prog 132 #[.string a, .string b] w (Quiet (.bool (sl a b)) w) := by
  go_enter Tryz.func132, Tryz.ntmps132
  go_wp2_with (go_at_call 191; refine (isnan2_any _ _).mono ?_; rintro e w' ⟨rfl, n, rfl⟩)
  go_ret
  exact ⟨rfl, _, rfl⟩

set_option maxHeartbeats 1000000 in
theorem bsearch_any {S : Nat → Prop} (A : Option Addr) (ds : List ByteArray) (c : Nat) (t : ByteArray) (w : World) (h : Rd S w A (ds.map .string)) (hl : ds.length ≤ 10000000) :
    Calls Tryz.prog 107 #[.slice A ds.length c, .string t] w (Quiet (.tuple #[.int .i64 (ixOf ds t), .bool (found ds t)]) w) := by
  have H := Lib.hid h
  clear h
  obtain ⟨R, hR⟩ : ∃ R, R = ixOf ds t := ⟨_, rfl⟩
  have HR := Lib.hid hR
  go_enter Tryz.func107, Tryz.ntmps107
  go_wp2
  clear hR
  go_loopw [7, 8] (fun x y wr => ∃ i j f : Nat, i ≤ j ∧ j ≤ ds.length ∧ j - i ≤ f ∧ x = .int .i64 i ∧ y = .int .i64 j ∧ Hid (bs (lt ds t) f i j = R) ∧ ∃ q, wr = w.drewN q) (fun x y _ => (intOf y).toNat - (intOf x).toNat)
  case atStart => exact ⟨0, ds.length, ds.length, Nat.zero_le _, Nat.le_refl _, Nat.le_refl _, rfl, rfl, HR.out.symm, 0, rfl⟩
  case round =>
    obtain ⟨i, j, f, hij, hj, hf, rfl, rfl, hbs, q, rfl⟩ := hrel
    by_cases hlt : i < j
    · obtain ⟨b, off, x, rfl, hc, hx⟩ := H.out.str_at (k := (i + j) / 2) (by omega)
      obtain ⟨f, rfl⟩ : ∃ f', f = f' + 1 := ⟨f - 1, by omega⟩
      have hp : lt ds t ((i + j) / 2) = sl x t := by simp [lt, List.getD_eq_getElem?_getD, hx.out]
      have HB := Lib.hid hp
      clear hp
      by_cases hs : sl x t = true
      · have hb2 : Hid (bs (lt ds t) f ((i + j) / 2 + 1) j = R) := by
          have := hbs.out; simp only [bs] at this; rw [if_pos hlt, HB.out, if_pos hs] at this; exact this
        go_wp2_with (go_at_call 132; refine (cmpless_any x t _).mono ?_; rintro e w' ⟨rfl, n, rfl⟩)
        go_roundw
        case rel => exact ⟨(i + j) / 2 + 1, j, f, by omega, by omega, by omega, by go_num, rfl, hb2, _, rfl⟩
        case measure => simp [intOf]; omega
      · have hs' : sl x t = false := by simpa using hs
        clear hs
        have hb2 : Hid (bs (lt ds t) f i ((i + j) / 2) = R) := by
          have := hbs.out; simp only [bs] at this; rw [if_pos hlt, HB.out, hs'] at this; exact this
        go_wp2_with (go_at_call 132; refine (cmpless_any x t _).mono ?_; rintro e w' ⟨rfl, n, rfl⟩)
        go_roundw
        case rel => exact ⟨i, (i + j) / 2, f, by omega, by omega, by omega, rfl, by go_num, hb2, _, rfl⟩
        case measure => simp [intOf]; omega
    · have hiR : i = R := by have := hbs.out; rw [bs_done _ _ _ _ (by omega)] at this; exact this
      have hil : i ≤ ds.length := by omega
      clear hbs
      subst hiR
      by_cases hin : i < ds.length
      · obtain ⟨b, off, x, rfl, hc, hx⟩ := H.out.str_at (k := i) hin
        have hfd : found ds t = (x.toList == t.toList) := by
          unfold found
          rw [← HR.out, hx.out, Bool.eq_iff_iff]
          simp
          exact ⟨fun h => by rw [h], fun h => toList_inj h⟩
        have HFD := Lib.hid hfd
        clear hfd
        by_cases hxt : x.toList = t.toList
        · have hb1 : (x.toList == t.toList) = true := by simp [hxt]
          have HXT := Lib.hid hxt
          clear hxt
          go_wp2_with fail
          go_ret2
          exact ⟨ret_ib (by rw [← HR.out]) (by rw [HFD.out, hb1]), _, rfl⟩
        · have hb1 : (x.toList == t.toList) = false := by simp [hxt]
          clear hxt
          go_wp2_with (go_at_call 167; refine (isnan1_any _ _).mono ?_; rintro e w' ⟨rfl, n, rfl⟩)
          go_ret2
          exact ⟨ret_ib (by rw [← HR.out]) (by rw [HFD.out, hb1]), _, rfl⟩
      · have hfd : found ds t = false := by
          unfold found
          rw [← HR.out, List.getElem?_eq_none (by omega)]
          simp
        have HFD := Lib.hid hfd
        clear hfd
        go_wp2_with fail
        go_ret2
        exact ⟨ret_ib (by rw [← HR.out]) (by rw [HFD.out]), _, rfl⟩

set_option maxHeartbeats 400000 in
theorem pindex_any {S : Nat → Prop} (A : Option Addr) (ds : List ByteArray) (c : Nat) (t : ByteArray) (w : World) (h : Rd S w A (ds.map .string)) (hl : ds.length ≤ 10000000) :
    Calls Tryz.prog 58 #[.slice A ds.length c, .string t] w (Quiet (.tuple #[.int .i64 (ixOf ds t), .bool (found ds t)]) w) := by
  have H := Lib.hid h
  clear h
  go_enter Tryz.func58, Tryz.ntmps58
  go_wp2_with (go_at_call 107; refine (bsearch_any A ds c t _ H.out hl).mono ?_; rintro e w' ⟨rfl, n, rfl⟩)
  go_ret2
  exact ⟨rfl, _, rfl⟩
end Go.Proofs.YtpaiideboodaeaaGreatDoor

namespace Go.Proofs.YtpaiideboodaeaaGreatDoor
open Go.RowKit
set_option linter.unusedVariables false
set_option linter.unusedSimpArgs false

theorem dist_long (ws : List ByteArray) : Long (dist ws) ↔ Long ws :=
  ⟨fun ⟨x, hx, h⟩ => ⟨x, (dist_mem ws x).1 hx, h⟩, fun ⟨x, hx, h⟩ => ⟨x, (dist_mem ws x).2 hx, h⟩⟩
open Classical in
noncomputable def bErr (ws : List ByteArray) : Int := if Long ws then 3 else if 32768 < (dist ws).length then 4 else 0
open Classical in
noncomputable def bOut (ws : List ByteArray) : List ByteArray := if bErr ws = 0 then dist ws else []
def BPost (w : World) (ws : List ByteArray) (e : Ending) (w' : World) : Prop :=
  ∃ A c, e = .returned (.tuple #[.slice A (bOut ws).length c, .int .i64 (bErr ws)]) ∧ Rd (w.heap.size ≤ ·) w' A ((bOut ws).map .string) ∧ w.grownBy w' none
theorem only_below {w w' : World} (h : Below w.heap.size w w') : w.grownBy w' none := ⟨h.os, h.tape, h.output, h.size, fun k hk _ => h.block k hk⟩
theorem str_enc (ws : List ByteArray) : (ws.map ofB).map encStr = ws.map .string := by
  rw [List.map_map]
  apply List.map_congr_left
  intro s _
  show Value.string ⟨(ofB s).toArray⟩ = Value.string s
  exact congrArg Value.string (toB_ofB s)
theorem enc_str (ls : List (List UInt8)) : ls.map encStr = (ls.map toB).map .string := by
  rw [List.map_map]; rfl
theorem compact_le (ls : List (List UInt8)) : (Lib.compact ls).length ≤ ls.length := by
  unfold Lib.compact Lib.compactUpTo
  rw [List.length_map]
  exact Nat.le_trans (List.length_filter_le _ _) (by simp)

open Classical in
set_option maxHeartbeats 2000000 in
set_option maxRecDepth 100000 in
theorem build_any {S : Nat → Prop} (A : Option Addr) (ws : List ByteArray) (c : Nat) (w : World) (h : Rd S w A (ws.map .string)) (hl : ws.length ≤ 1000000) (hc : ws.length ≤ c) (hnil : A = none → c = 0) :
    Calls Tryz.prog 57 #[.slice A ws.length c] w (BPost w ws) := by
  have H := Lib.hid h
  clear h
  by_cases h0 : ws.length = 0
  · obtain rfl : ws = [] := List.eq_nil_of_length_eq_zero h0
    have HE : Hid (bErr [] = 0 ∧ bOut [] = []) := by
      have hd : dist [] = [] := by
        apply List.eq_nil_iff_forall_not_mem.2
        intro x hx
        have := (dist_mem [] x).1 hx
        simp at this
      have he : bErr [] = 0 := by unfold bErr; rw [if_neg (fun ⟨x, hx, _⟩ => by simp at hx), if_neg (by rw [hd]; simp)]
      exact ⟨he, by unfold bOut; rw [if_pos he, hd]⟩
    have hLn : decide (Long ([] : List ByteArray)) = false := by simp [Long]
    clear h0
    cases A with
    | none =>
      obtain rfl : c = 0 := hnil rfl
      clear hnil
      go_enter Tryz.func57, Tryz.ntmps57
      go_wp2_with fail
      refine (Tryz.slices_Clone_string_nil 0 0 _).mono ?_
      rintro e w1 ⟨rfl, rfl⟩
      go_wp2_with fail
      refine (Tryz.slices_Sort_string_none none 0 _).mono ?_
      rintro e w2 ⟨rfl, rfl⟩
      go_wp2_with fail
      refine (Tryz.slices_Compact_string_empty none 0 _).mono ?_
      rintro e w3 ⟨rfl, rfl⟩
      go_wp2_with fail
      refine (contains_any none [] 0 _ (Rd.nil (S := fun _ => True)) (by simp)).mono ?_
      rw [hLn]
      rintro e w4 ⟨rfl, n4, rfl⟩
      go_wp2_with fail
      go_ret2
      exact ⟨none, 0, by rw [HE.out.1, HE.out.2]; rfl, by rw [HE.out.2]; exact Rd.nil, only_drewN (only_refl _ _) _⟩
    | some a =>
      clear hnil
      go_enter Tryz.func57, Tryz.ntmps57
      go_wp2_with fail
      refine (Tryz.slices_Clone_string_zero a c _).mono ?_
      rintro e w1 ⟨v1, rfl, hown, -, hbel⟩
      obtain ⟨A1, c1, rfl, hc1, hm1, -, -⟩ := Rd.of_own hown (by decide)
      have G1 : Hid (w.grownBy w1 none) := only_below hbel
      clear hown hbel
      go_wp2_with fail
      refine (Tryz.slices_Sort_string_none A1 c1 _).mono ?_
      rintro e w2 ⟨rfl, rfl⟩
      go_wp2_with fail
      refine (Tryz.slices_Compact_string_empty A1 c1 _).mono ?_
      rintro e w3 ⟨rfl, rfl⟩
      go_wp2_with fail
      refine (contains_any A1 [] c1 _ (Rd.nil (S := fun _ => True)) (by simp)).mono ?_
      rw [hLn]
      rintro e w4 ⟨rfl, n4, rfl⟩
      go_wp2_with fail
      go_ret2
      exact ⟨A1, c1, by rw [HE.out.1, HE.out.2]; rfl, by rw [HE.out.2]; exact Rd.nil, only_drewN G1.out _⟩
  · obtain ⟨b, off, rfl, -, hb, hcell⟩ := H.out (by simp; omega)
    have HC := Lib.hid hcell
    have hp : 0 < ws.length := by omega
    clear hcell h0 hnil
    go_enter Tryz.func57, Tryz.ntmps57
    go_wp2_with fail
    refine (Tryz.slices_Clone_string b off ws.length c ws _ (Nat.le_refl _) (by omega) (fun j hj => HC.out j _ (by rw [getD_lt ws _ hj]; simp [hj]))).mono ?_
    rintro e w1 ⟨v1, rfl, hown, -, hbel⟩
    have hg1 := only_below hbel
    rw [List.take_length] at hown
    obtain ⟨-, hown2⟩ := hown
    rcases hown2 with ⟨-, h2⟩ | ⟨g, cap, cur, rfl, hg, hblk, hnc, hcm, hcs, htk⟩
    · omega
    have hH1 : Go.Sort.Holds encStr w1 g 0 (ws.map ofB).toArray := holds_of_block hblk (by rw [List.length_map, str_enc]; simpa using htk)
    have hgl : g < w1.heap.size := (Array.getElem?_eq_some_iff.1 hblk).1
    have H1 := Lib.hid hH1
    have G1 := Lib.hid hg1
    have BK := Lib.hid hblk
    clear hH1 hg1 hblk htk hbel
    go_wp2_with fail
    have c1 := Tryz.slices_Sort_string g 0 cap (ws.map ofB) w1 H1.out hgl (by rw [List.length_map]; omega)
    rw [List.length_map] at c1
    refine c1.mono ?_
    clear c1
    rintro e w2 ⟨rfl, n2, os, hw2⟩
    have hb2 : w2.heap[g]? = some (.cells (Go.Sort.putCells encStr 0 (sorted (ws.map ofB)).toArray cur) 9 (0, 0)) := by rw [hw2]; exact heap_sorted _ BK.out
    have hg2 : w1.grownBy w2 (some g) := by rw [hw2]; exact grownBy_sorted _
    have ht2 : (Go.Sort.putCells encStr 0 (sorted (ws.map ofB)).toArray cur).toList.take (sorted (ws.map ofB)).length = (sorted (ws.map ofB)).map encStr := take_putCells cur _ (by rw [sorted_len, List.length_map]; omega)
    have hH2 : Go.Sort.Holds encStr w2 g 0 (sorted (ws.map ofB)).toArray := holds_of_block hb2 ht2
    have hz2 : (Go.Sort.putCells encStr 0 (sorted (ws.map ofB)).toArray cur).size = cur.size := by simp [Go.Sort.putCells]
    have H2 := Lib.hid hH2
    have G2 : Hid (w.grownBy w2 none) := only_fresh G1.out hg2 hg
    have B2 := Lib.hid (And.intro hb2 hz2)
    clear hw2 hb2 hg2 ht2 hH2 hz2 H1 G1 BK
    have hsl : (sorted (ws.map ofB)).length = ws.length := by rw [sorted_len, List.length_map]
    have HSL := Lib.hid hsl
    go_wp2_with fail
    have c1 := Tryz.slices_Compact_string g 0 cap (sorted (ws.map ofB)) w2 H2.out (by omega) (by omega)
    rw [HSL.out] at c1
    refine c1.mono ?_
    clear c1 hsl
    rintro e w3 ⟨rfl, q3, hw3⟩
    have hw3' : w3 = Go.Sort.grow (Go.Sort.putRow encStr (Go.Sort.ahead w2 q3) g 0 (Lib.compact (sorted (ws.map ofB)) ++ List.replicate ((sorted (ws.map ofB)).length - (Lib.compact (sorted (ws.map ofB))).length) []).toArray) #[] := by rw [Go.Sort.grow_empty, HSL.out]; exact hw3
    have hb3 := heap_sorted (n := q3) (os := #[]) (Lib.compact (sorted (ws.map ofB)) ++ List.replicate ((sorted (ws.map ofB)).length - (Lib.compact (sorted (ws.map ofB))).length) []).toArray B2.out.1
    rw [← hw3'] at hb3
    have hg3 : w2.grownBy w3 (some g) := by rw [hw3']; exact grownBy_sorted _
    have hcl := compact_le (sorted (ws.map ofB))
    have htl : (Lib.compact (sorted (ws.map ofB)) ++ List.replicate ((sorted (ws.map ofB)).length - (Lib.compact (sorted (ws.map ofB))).length) ([] : List UInt8)).length = ws.length := by
      rw [List.length_append, List.length_replicate, HSL.out] at *; omega
    have ht3 := take_putCells (Go.Sort.putCells encStr 0 (sorted (ws.map ofB)).toArray cur) (Lib.compact (sorted (ws.map ofB)) ++ List.replicate ((sorted (ws.map ofB)).length - (Lib.compact (sorted (ws.map ofB))).length) []) (by rw [htl, B2.out.2]; omega)
    have hR : Rd (w.heap.size ≤ ·) w3 (some ⟨g, 0, none⟩) ((dist ws).map .string) := fun _ => by
      refine ⟨g, 0, rfl, hg, (Array.getElem?_eq_some_iff.1 hb3).1, fun j u hu => ?_⟩
      rw [Nat.zero_add, cell_of_row w3 g j _ _ (0, 0) hb3, ← Array.getElem?_toList]
      have hj : j < (Lib.compact (sorted (ws.map ofB))).length := by
        have := (List.getElem?_eq_some_iff.1 hu).1
        simpa [dist] using this
      have h1 := congrArg (fun l => l[j]?) ht3
      rw [List.getElem?_take_of_lt (by rw [List.length_append]; omega)] at h1
      rw [h1, List.map_append, List.getElem?_append_left (by simpa using hj), enc_str]
      exact hu
    have R3 := Lib.hid hR
    have G3 : Hid (w.grownBy w3 none) := only_fresh G2.out hg3 hg
    have hdl : (Lib.compact (sorted (ws.map ofB))).length = (dist ws).length := by simp [dist]
    have hd1 : (dist ws).length ≤ 1000000 := by rw [← hdl]; rw [HSL.out] at hcl; omega
    rw [hdl]
    clear hw3 hw3' hb3 hg3 hcl htl ht3 hR hdl H2 B2 G2 HC H
    go_wp2_with fail
    refine (contains_any (some ⟨g, 0, none⟩) (dist ws) cap _ R3.out (by omega)).mono ?_
    by_cases hL : Long ws
    · have hd : decide (Long (dist ws)) = true := by simp [dist_long, hL]
      have HE : Hid (bErr ws = 3 ∧ bOut ws = []) := by
        have he : bErr ws = 3 := by unfold bErr; rw [if_pos hL]
        exact ⟨he, by unfold bOut; rw [if_neg (by rw [he]; decide)]⟩
      clear hL
      rw [hd]
      rintro e w4 ⟨rfl, n4, rfl⟩
      go_wp2_with fail
      go_ret2
      exact ⟨none, 0, by rw [HE.out.1, HE.out.2]; rfl, by rw [HE.out.2]; exact Rd.nil, only_drewN G3.out _⟩
    · have hd : decide (Long (dist ws)) = false := by simp [dist_long, hL]
      rw [hd]
      rintro e w4 ⟨rfl, n4, rfl⟩
      by_cases hbig : 32768 < (dist ws).length
      · have HE : Hid (bErr ws = 4 ∧ bOut ws = []) := by
          have he : bErr ws = 4 := by unfold bErr; rw [if_neg hL, if_pos hbig]
          exact ⟨he, by unfold bOut; rw [if_neg (by rw [he]; decide)]⟩
        have d1 : decide ((32768 : Int) < ((dist ws).length : Int)) = true := decide_eq_true (by omega)
        clear hL hd
        go_wp2_with fail
        go_ret2
        exact ⟨none, 0, by rw [HE.out.1, HE.out.2]; rfl, by rw [HE.out.2]; exact Rd.nil, only_drewN G3.out _⟩
      · have HE : Hid (bErr ws = 0 ∧ bOut ws = dist ws) := by
          have he : bErr ws = 0 := by unfold bErr; rw [if_neg hL, if_neg hbig]
          exact ⟨he, by unfold bOut; rw [if_pos he]⟩
        have d1 : decide ((32768 : Int) < ((dist ws).length : Int)) = false := decide_eq_false (by omega)
        clear hL hd
        go_wp2_with fail
        go_ret2
        exact ⟨_, cap, by rw [HE.out.1, HE.out.2]; rfl, by rw [HE.out.2]; exact R3.out, only_drewN G3.out _⟩
end Go.Proofs.YtpaiideboodaeaaGreatDoor
