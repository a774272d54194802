/- Check of lists of places: the reference of chapter 25, at a good list. Condition: the list is good. -/
import Derived.Test.YtodaabofpkafjaaGreatJSegV
namespace Go.Proofs.YtodaabofpkafjaaGreat
open Go.RowKit
set_option linter.unusedVariables false
set_option linter.unusedSimpArgs false

/-- places that rise -/
def AscN (ds : List Int) : Prop := (∀ i, i < ds.length → 0 ≤ ds.getD i 0 ∧ ds.getD i 0 < 4096) ∧ ∀ i, i + 1 < ds.length → ds.getD i 0 < ds.getD (i + 1) 0
set_option maxHeartbeats 4000000 in
set_option maxRecDepth 100000 in
theorem pcheck_any {S : Nat → Prop} (A : Option Addr) (ds : List Int) (c : Nat) (w : World) (h : Rd S w A (ds.map (.int .i64))) (hl : ds.length ≤ 4096) (ha : AscN ds) :
    Calls Tryz.prog 120 #[.slice A ds.length c] w (Quiet (.int .i64 0) w) := by
  have H := Lib.hid h
  have HA1 := Lib.hid ha.1
  have HA2 := Lib.hid ha.2
  clear h ha
  have hdb : decide ((4096 : Int) < (ds.length : Int)) = false := by simp; omega
  go_enter Tryz.func120, Tryz.ntmps120
  go_wp2_with fail
  go_loopw [3] (fun i wr => ∃ k : Nat, k ≤ ds.length ∧ i = .int .i64 k ∧ ∃ q, wr = w.drewN q) (fun i _ => ds.length - (intOf i).toNat)
  case atStart => exact ⟨0, Nat.zero_le _, rfl, 0, rfl⟩
  case round =>
    obtain ⟨k, hk, rfl, q, rfl⟩ := hrel
    by_cases hlt : k < ds.length
    · obtain ⟨b, off, x, rfl, hc, hx⟩ := H.out.int_at hlt
      obtain ⟨h0, h1⟩ := HA1.out k hlt
      rw [hx.out] at h0 h1
      have i1 : (k : Int) < (ds.length : Int) := by omega
      have n0 : ¬ x < 0 := by omega
      have n1 : ¬ (4096 : Int) ≤ x := by omega
      clear hx
      go_wp2_with fail
      go_roundw
      case rel => exact ⟨k + 1, by omega, by go_num, _, rfl⟩
      case measure => simp [intOf]; omega
    · have i1 : ¬ (k : Int) < (ds.length : Int) := by omega
      go_wp2_with fail
      clear hlt hk i1
      go_loopw [4] (fun i wr => ∃ k : Nat, 1 ≤ k ∧ k ≤ ds.length + 1 ∧ i = .int .i64 k ∧ ∃ q, wr = w.drewN q) (fun i _ => ds.length + 1 - (intOf i).toNat)
      case atStart => exact ⟨1, by omega, by omega, rfl, _, rfl⟩
      case round =>
        obtain ⟨k, hk0, hk1, rfl, q, rfl⟩ := hrel
        by_cases hlt : k < ds.length
        · obtain ⟨k, rfl⟩ : ∃ k', k = k' + 1 := ⟨k - 1, by omega⟩
          obtain ⟨b, off, x, rfl, hc, hx⟩ := H.out.int_at (k := k) (by omega)
          obtain ⟨y, hcy, hy⟩ := H.out.int_at' hlt
          have hxy := HA2.out k hlt
          rw [hx.out, hy.out] at hxy
          have hwk : IntKind.i64.wrap (k : Int) = (k : Int) := IntWalk.i64_in _ (by omega)
          have i1 : (k : Int) < (ds.length : Int) := by omega
          have i2 : (k : Int) + 1 < (ds.length : Int) := by omega
          have i3 : (0 : Int) ≤ (k : Int) := by omega
          have i4 : (0 : Int) ≤ (k : Int) + 1 := by omega
          have i5 : ((k : Int) + 1).toNat = k + 1 := by omega
          have i6 : ¬ y ≤ x := by omega
          clear hx hy
          go_wp2
          go_quiet (fail)
          go_wp2
          go_roundw
          case rel => exact ⟨k + 1 + 1, by omega, by omega, by go_num, _, rfl⟩
          case measure => simp [intOf]; omega
        · have i1 : ¬ (k : Int) < (ds.length : Int) := by omega
          go_wp2
          go_ret
          exact ⟨rfl, _, rfl⟩
end Go.Proofs.YtodaabofpkafjaaGreat

namespace Go.Proofs.YtodaabofpkafjaaGreat
open Go.RowKit
set_option linter.unusedVariables false
set_option linter.unusedSimpArgs false

/-- the bytes of the first j steps of the block at k -/
def gapTo (ds : List Int) (k : Nat) : Nat → List Int
  | 0 => []
  | j + 1 => gapTo ds k j ++ vint (if j = 0 then ds.getD k 0 else ds.getD (k + j) 0 - ds.getD (k + (j - 1)) 0).toNat
def blL (ds : List Int) (m : Nat) : Nat := min ds.length (32 * m + 32) - 32 * m
def headP (ds : List Int) : Nat → List Int
  | 0 => vint ds.length
  | m + 1 => headP ds m ++ (vint (ds.getD (32 * m + (blL ds m - 1)) 0).toNat ++ vint (gapTo ds (32 * m) (blL ds m)).length)
def bodyP (ds : List Int) : Nat → List Int
  | 0 => []
  | m + 1 => bodyP ds m ++ gapTo ds (32 * m) (blL ds m)
def postX (ds : List Int) : List Int := headP ds ((ds.length + 31) / 32) ++ bodyP ds ((ds.length + 31) / 32)
theorem gapTo_len (ds : List Int) (h : ∀ i, i < ds.length → 0 ≤ ds.getD i 0 ∧ ds.getD i 0 < 4096) (k : Nat) : ∀ j, k + j ≤ ds.length → (gapTo ds k j).length ≤ 10 * j
  | 0, _ => by simp [gapTo]
  | j + 1, hj => by
    have h1 := gapTo_len ds h k j (by omega)
    have h2 := h (k + j) (by omega)
    have h3 := h (k + (j - 1)) (by omega)
    have h4 := h k (by omega)
    simp only [gapTo, List.length_append]
    have h5 := vint_len10 (n := (if j = 0 then ds.getD k 0 else ds.getD (k + j) 0 - ds.getD (k + (j - 1)) 0).toNat) (by split <;> omega)
    omega
theorem blL_le (ds : List Int) (m : Nat) : blL ds m ≤ 32 ∧ (32 * m ≤ ds.length → 32 * m + blL ds m ≤ ds.length) := by unfold blL; omega
theorem headP_len (ds : List Int) (h : ∀ i, i < ds.length → 0 ≤ ds.getD i 0 ∧ ds.getD i 0 < 4096) (hl : ds.length ≤ 4096) : ∀ m, 32 * m ≤ ds.length + 31 → (headP ds m).length ≤ 10 + 20 * m
  | 0, _ => vint_len10 (by omega)
  | m + 1, hm => by
    have h1 := headP_len ds h hl m (by omega)
    have h2 : (ds.getD (32 * m + (blL ds m - 1)) 0).toNat < 4096 := by have := h (32 * m + (blL ds m - 1)) (by unfold blL; omega); omega
    have h3 := gapTo_len ds h (32 * m) (blL ds m) ((blL_le ds m).2 (by omega))
    have h4 := (blL_le ds m).1
    have h5 := vint_len10 (n := (ds.getD (32 * m + (blL ds m - 1)) 0).toNat) (by omega)
    have h6 := vint_len10 (n := (gapTo ds (32 * m) (blL ds m)).length) (by omega)
    simp only [headP, List.length_append]
    omega
theorem bodyP_len (ds : List Int) (h : ∀ i, i < ds.length → 0 ≤ ds.getD i 0 ∧ ds.getD i 0 < 4096) : ∀ m, 32 * m ≤ ds.length + 31 → (bodyP ds m).length ≤ 320 * m
  | 0, _ => by simp [bodyP]
  | m + 1, hm => by
    have h1 := bodyP_len ds h m (by omega)
    have h3 := gapTo_len ds h (32 * m) (blL ds m) ((blL_le ds m).2 (by omega))
    have h4 := (blL_le ds m).1
    simp only [bodyP, List.length_append]
    omega
theorem Apt.onto {w w' : World} {a b b' : Value} (h : Apt a b) (k : Onto w b b' w') (hlt : ∀ g, a.ownBlock = some g → g < w.heap.size) : Apt a b' := by
  intro g h1 h2
  rcases k.2 with e | ⟨n, hn, e⟩
  · exact h g h1 (e ▸ h2)
  · rw [e] at h2
    injection h2 with h2
    have := hlt g h1
    omega
theorem Byts.below {base : Nat} {w : World} {v : Value} {xs : List Int} (h : Byts base w v xs) : ∀ g, v.ownBlock = some g → g < w.heap.size := fun g e => (World.ownsRow.lt h g e).2
theorem Byts.apt {b1 b2 : Nat} {w w' : World} {v v' : Value} {xs ys : List Int} (h : Byts b1 w v xs) (h' : Byts b2 w' v' ys) (hb : w.heap.size ≤ b2) : Apt v v' := by
  intro g h1 h2
  have h3 := h.below g h1
  have h4 := (World.ownsRow.lt h' g h2).1
  omega
theorem Byts.keepA {base : Nat} {w w' : World} {a b b' : Value} {xs : List Int} (h : Byts base w a xs) (hA : Apt a b) (k : Onto w b b' w') : Byts base w' a xs := hA.keep h k.1
def PostP (w : World) (ds : List Int) (e : Ending) (w' : World) : Prop :=
  ∃ v, e = .returned (.tuple #[v, .int .i64 0]) ∧ Byts w.heap.size w' v (postX ds) ∧ w.grownBy w' none
set_option maxHeartbeats 8000000 in
set_option maxRecDepth 100000 in
theorem pencode_any {S : Nat → Prop} (A : Option Addr) (ds : List Int) (c : Nat) (w : World) (h : Rd S w A (ds.map (.int .i64))) (hl : ds.length ≤ 4096) (ha : AscN ds) (hc : ds.length ≤ c) (hm : c ≤ maxLen) :
    Calls Tryz.prog 108 #[.slice A ds.length c] w (PostP w ds) := by
  have H := Lib.hid h
  have HA1 := Lib.hid ha.1
  have HA2 := Lib.hid ha.2
  have HM := Lib.hid hm
  have KC := Lib.hid (pcheck_any A ds c w h hl ha)
  have HHL := Lib.hid (headP_len ds ha.1 hl)
  have HBL := Lib.hid (bodyP_len ds ha.1)
  have HGL := Lib.hid (gapTo_len ds ha.1)
  have HX : Hid (postX ds = headP ds ((ds.length + 31) / 32) ++ bodyP ds ((ds.length + 31) / 32)) := Lib.hid rfl
  obtain ⟨R, hR⟩ : ∃ r, r = postX ds := ⟨_, rfl⟩
  have HP : Hid (∀ e w', (∃ v, e = .returned (.tuple #[v, .int .i64 0]) ∧ Byts w.heap.size w' v R ∧ w.grownBy w' none) → PostP w ds e w') := Lib.hid (fun e w' h => by rw [hR] at h; exact h)
  rw [← hR] at HX
  clear h ha hm hR
  refine Calls.mono (R := fun e w' => ∃ v, e = .returned (.tuple #[v, .int .i64 0]) ∧ Byts w.heap.size w' v R ∧ w.grownBy w' none) ?_ HP.out
  clear HP
  go_enter Tryz.func108, Tryz.ntmps108
  go_wp2_with fail
  refine KC.out.mono ?_
  rintro e w1 ⟨rfl, n1, hw1⟩
  have H1 : Hid (Rd S w1 A (ds.map (.int .i64))) := Lib.hid (by rw [hw1]; exact H.out)
  have G1 : Hid (w.grownBy w1 none) := Lib.hid (by rw [hw1]; exact only_drewN (only_refl _ _) n1)
  have hz1 := G1.out.size
  clear hw1 KC H
  go_wp2_with fail
  refine (rvarint_any w1.heap.size _ [] ds.length _ (Byts.nil _ _) (by simp) (by omega) (Nat.le_refl _)).mono ?_
  rintro e w2 ⟨v2, rfl, hB2, hO2⟩
  have B2 : Hid (Byts w1.heap.size w2 v2 (headP ds 0)) := Lib.hid hB2
  have G2 : Hid (w1.grownBy w2 none) := Byts.only (Byts.nil w1.heap.size w1) hO2 (only_refl _ _) (Nat.le_refl _)
  clear hB2 hO2
  go_wp2_with fail
  go_loopw [5, 6, 7] (fun vh vb vi wr => ∃ m : Nat, 32 * m ≤ ds.length + 31 ∧ vi = .int .i64 ((32 * m : Nat) : Int) ∧ Byts w1.heap.size wr vh (headP ds m) ∧ Byts w1.heap.size wr vb (bodyP ds m) ∧ Apt vh vb ∧ w1.grownBy wr none) (fun _ _ vi _ => ds.length - (intOf vi).toNat)
  case atStart => exact ⟨0, by omega, rfl, B2.out, Byts.nil _ _, fun g _ h => by simp [Value.ownBlock] at h, G2.out⟩
  case round =>
    obtain ⟨m, hm, rfl, hH, hB, hA, hG⟩ := hrel
    have BH := Lib.hid hH
    have BB := Lib.hid hB
    have AP := Lib.hid hA
    have G := Lib.hid hG
    have hbase : w1.heap.size ≤ wr.heap.size := hG.size
    obtain ⟨vH, hvH⟩ : ∃ v, v = u5 := ⟨_, rfl⟩
    obtain ⟨vB, hvB⟩ : ∃ v, v = u6 := ⟨_, rfl⟩
    rw [← hvH] at BH AP ⊢
    rw [← hvB] at BB AP ⊢
    obtain ⟨q, hq⟩ : ∃ q, q = 32 * m := ⟨_, rfl⟩
    have HQ := Lib.hid hq
    rw [← hq] at hm ⊢
    clear hH hB hA hG hvH hvB B2 G2
    by_cases hlt : q < ds.length
    · obtain ⟨L, hL⟩ : ∃ L, L = blL ds m := ⟨_, rfl⟩
      have HL := Lib.hid hL
      have hL0 : 0 < L ∧ L ≤ 32 ∧ q + L ≤ ds.length ∧ (q + L = ds.length ∨ L = 32) := by rw [hL, hq]; rw [hq] at hlt; unfold blL; omega
      obtain ⟨hLp, hL32, hLn, hLe⟩ := hL0
      have HMIN : Hid (min (ds.length : Int) ((q : Int) + 32) = ((q + L : Nat) : Int)) := Lib.hid (by omega)
      obtain ⟨b, off, x0, rfl, hc0, -⟩ := (H1.out.grown G.out (by simp)).int_at hlt
      have HRw := Lib.hid (H1.out.grown G.out (by simp))
      have i1 : (q : Int) < (ds.length : Int) := by omega
      clear hq hL hc0
      go_wp2_with fail
      have HLEN : Hid ((min (ds.length : Int) ((q : Int) + 32)).toNat - q = L) := Lib.hid (by rw [HMIN.out]; omega)
      rw [HLEN.out]
      clear HLEN HMIN
      obtain ⟨wo, rfl⟩ : ∃ wo : World, wo = wr := ⟨_, rfl⟩
      go_loopw [9, 10] (fun vg vj wr => ∃ j : Nat, vj = .int .i64 j ∧ j ≤ L ∧ Byts wo.heap.size wr vg (gapTo ds q j) ∧ wo.grownBy wr none) (fun _ vj _ => L - (intOf vj).toNat)
      case atStart => exact ⟨0, rfl, Nat.zero_le _, Byts.nil _ _, only_refl _ _⟩
      case round =>
        obtain ⟨j, rfl, hj, hB2, hG2⟩ := hrel
        have BG := Lib.hid hB2
        have G2 := Lib.hid hG2
        have hb2 : wo.heap.size ≤ wr.heap.size := hG2.size
        have hgl := HGL.out q j (by omega)
        obtain ⟨vG, hvG⟩ : ∃ v, v = u9 := ⟨_, rfl⟩
        rw [← hvG] at BG ⊢
        clear hB2 hG2 hvG
        by_cases hjl : j < L
        · obtain ⟨x, hcx, hx⟩ := (HRw.out.grown G2.out (by simp)).int_at' (k := q + j) (by omega)
          obtain ⟨hx0, hx1⟩ := HA1.out (q + j) (by omega)
          rw [hx.out] at hx0 hx1
          obtain ⟨xn, rfl⟩ : ∃ n : Nat, x = (n : Int) := ⟨x.toNat, by omega⟩
          rw [← Nat.add_assoc] at hcx
          have i2 : (j : Int) < (L : Int) := by omega
          by_cases hj0 : j = 0
          · subst hj0
            have HN : Hid (gapTo ds q 1 = gapTo ds q 0 ++ vint xn) := Lib.hid (by
              have h9 := hx.out
              simp only [Nat.add_zero] at h9
              simp only [gapTo, if_pos, h9, Int.toNat_natCast])
            clear hx
            simp only [Nat.add_zero] at hcx
            go_wp2_with fail
            refine (rvarint_any wo.heap.size vG (gapTo ds q 0) xn _ BG.out (by omega) (by omega) hb2).mono ?_
            rintro e w5 ⟨v5, rfl, hB5, hO5⟩
            have B5 : Hid (Byts wo.heap.size w5 v5 (gapTo ds q 1)) := Lib.hid (by rw [HN.out]; exact hB5)
            have G5 : Hid (wo.grownBy w5 none) := BG.out.only hO5 G2.out (Nat.le_refl _)
            clear hB5 hO5
            go_wp2_with fail
            go_roundw
            case rel => exact ⟨1, by go_num, by omega, B5.out, G5.out⟩
            case measure => simp [intOf]; omega
          · obtain ⟨j, rfl⟩ : ∃ i, j = i + 1 := ⟨j - 1, by omega⟩
            obtain ⟨y, hcy, hy⟩ := (HRw.out.grown G2.out (by simp)).int_at' (k := q + j) (by omega)
            obtain ⟨hy0, hy1⟩ := HA1.out (q + j) (by omega)
            have hxy := HA2.out (q + j) (by omega)
            rw [show q + j + 1 = q + (j + 1) from rfl, hx.out] at hxy
            rw [hy.out] at hy0 hy1 hxy
            obtain ⟨yn, rfl⟩ : ∃ n : Nat, y = (n : Int) := ⟨y.toNat, by omega⟩
            rw [← Nat.add_assoc] at hcy
            have HN : Hid (gapTo ds q (j + 1 + 1) = gapTo ds q (j + 1) ++ vint (xn - yn)) := Lib.hid (by
              rw [gapTo, if_neg (by omega), show j + 1 - 1 = j from rfl, hx.out, hy.out]
              rw [show ((xn : Int) - (yn : Int)).toNat = xn - yn from by omega])
            have i3 : (0 : Int) ≤ (j : Int) := by omega
            have i4 : (j : Int) < (L : Int) := by omega
            have i5 : (0 : Int) < (j : Int) + 1 := by omega
            have i6 : (j : Int) + 1 < (L : Int) := by omega
            have i7 : ((j : Int) + 1).toNat = j + 1 := by omega
            have HSUB : Hid (((xn : Int) - (yn : Int)) = ((xn - yn : Nat) : Int)) := Lib.hid (by omega)
            clear hx hy
            go_wp2_with fail
            rw [HSUB.out]
            refine (rvarint_any wo.heap.size vG (gapTo ds q (j + 1)) (xn - yn) _ BG.out (by omega) (by omega) hb2).mono ?_
            rintro e w5 ⟨v5, rfl, hB5, hO5⟩
            have B5 : Hid (Byts wo.heap.size w5 v5 (gapTo ds q (j + 1 + 1))) := Lib.hid (by rw [HN.out]; exact hB5)
            have G5 : Hid (wo.grownBy w5 none) := BG.out.only hO5 G2.out (Nat.le_refl _)
            clear hB5 hO5
            go_wp2_with fail
            go_roundw
            case rel => exact ⟨j + 1 + 1, by go_num, by omega, B5.out, G5.out⟩
            case measure => simp [intOf]; omega
        · obtain rfl : j = L := by omega
          obtain ⟨L', hL'⟩ : ∃ L', j = L' + 1 := ⟨j - 1, by omega⟩
          obtain ⟨x, hcx, hx⟩ := (HRw.out.grown G2.out (by simp)).int_at' (k := q + L') (by omega)
          obtain ⟨hx0, hx1⟩ := HA1.out (q + L') (by omega)
          rw [hx.out] at hx0 hx1
          obtain ⟨xn, rfl⟩ : ∃ n : Nat, x = (n : Int) := ⟨x.toNat, by omega⟩
          rw [← Nat.add_assoc] at hcx
          subst hL'
          have HH1 : Hid (headP ds (m + 1) = headP ds m ++ (vint xn ++ vint (gapTo ds q (L' + 1)).length)) := Lib.hid (by
            rw [headP, ← HL.out, ← HQ.out, show L' + 1 - 1 = L' from rfl, hx.out, Int.toNat_natCast])
          have HB1 : Hid (bodyP ds (m + 1) = bodyP ds m ++ gapTo ds q (L' + 1)) := Lib.hid (by rw [bodyP, ← HL.out, ← HQ.out])
          have hhl := HHL.out m (by rw [← HQ.out]; omega)
          have hbl := HBL.out m (by rw [← HQ.out]; omega)
          have hvl := vint_len10 (n := xn) (by omega)
          have hq9 := HQ.out
          have hm2 : m ≤ 128 := by omega
          have G3 := Lib.hid (only_trans G.out G2.out)
          have BH3 : Hid (Byts w1.heap.size wr vH (headP ds m)) := Lib.hid (own_ext BH.out G2.out)
          have BB3 : Hid (Byts w1.heap.size wr vB (bodyP ds m)) := Lib.hid (own_ext BB.out G2.out)
          have APH : Hid (Apt vH vG) := Lib.hid (BH.out.apt BG.out (Nat.le_refl _))
          have APB : Hid (Apt vB vG) := Lib.hid (BB.out.apt BG.out (Nat.le_refl _))
          have i2 : ¬ (L' : Int) + 1 < (L' : Int) + 1 := by omega
          have i3 : (0 : Int) ≤ (L' : Int) := by omega
          have i4 : (L' : Int) < (L' : Int) + 1 := by omega
          clear hx hq9
          go_wp2_with fail
          refine (rvarint_any w1.heap.size vH (headP ds m) xn _ BH3.out (by omega) (by omega) (by omega)).mono ?_
          rintro e w5 ⟨v5, rfl, hB5, hO5⟩
          have BH5 := Lib.hid hB5
          have BB5 : Hid (Byts w1.heap.size w5 vB (bodyP ds m)) := Lib.hid (BB3.out.keepA AP.out.symm hO5)
          have BG5 : Hid (Byts wo.heap.size w5 vG (gapTo ds q (L' + 1))) := Lib.hid (BG.out.keepA APH.out.symm hO5)
          have AP5 : Hid (Apt v5 vB) := Lib.hid (AP.out.symm.onto hO5 BB3.out.below).symm
          have APG5 : Hid (Apt v5 vG) := Lib.hid (APH.out.symm.onto hO5 BG.out.below).symm
          have G5 : Hid (w1.grownBy w5 none) := BH3.out.only hO5 G3.out (Nat.le_refl _)
          have hb5 := G5.out.size
          clear hB5 hO5 hcx
          obtain ⟨AG, cG, hvG2, -, -, -⟩ := BG5.out.rd
          subst hvG2
          go_wp2_with fail
          refine (rvarint_any w1.heap.size v5 (headP ds m ++ vint xn) (gapTo ds q (L' + 1)).length _ BH5.out (by rw [List.length_append]; omega) (by omega) (by omega)).mono ?_
          rintro e w6 ⟨v6, rfl, hB6, hO6⟩
          have BH6 : Hid (Byts w1.heap.size w6 v6 (headP ds (m + 1))) := Lib.hid (by rw [HH1.out, ← List.append_assoc]; exact hB6)
          have BB6 : Hid (Byts w1.heap.size w6 vB (bodyP ds m)) := Lib.hid (BB5.out.keepA AP5.out.symm hO6)
          have BG6 : Hid (Byts wo.heap.size w6 _ (gapTo ds q (L' + 1))) := Lib.hid (BG5.out.keepA APG5.out.symm hO6)
          have AP6 : Hid (Apt v6 vB) := Lib.hid (AP5.out.symm.onto hO6 BB5.out.below).symm
          have G6 : Hid (w1.grownBy w6 none) := BH5.out.only hO6 G5.out (Nat.le_refl _)
          have hb6 := G6.out.size
          clear hB6 hO6
          obtain ⟨AG', cG', e9, -, -, g3⟩ := BG6.out.rd
          injection e9 with e1 e2 e3
          subst e1 e3
          have RG := Lib.hid g3
          clear g3 e2
          go_wp2_with (at_builtin; go_must (refine wpList_appendN rfl _ _ 22 rfl w1.heap.size Tryz.underlying22 byteInfo rfl (by decide) (v := vB) (by rfl) BB6.out AG (gapTo ds q (L' + 1)).length cG (by rfl) RG.out (by simp) (byte_ones _) (by decide) (by omega) (by omega) ?_); intro v7 w7 hown7 hg7 hob7)
          have BB7 : Hid (Byts w1.heap.size w7 v7 (bodyP ds (m + 1))) := Lib.hid (by
            rw [HB1.out]
            unfold Byts
            rw [List.length_append, List.map_append]
            exact hown7)
          have hO7 : Onto w6 vB v7 w7 := onto_apN hg7 hob7
          have BH7 : Hid (Byts w1.heap.size w7 v6 (headP ds (m + 1))) := Lib.hid (BH6.out.keepA AP6.out hO7)
          have AP7 : Hid (Apt v6 v7) := Lib.hid (AP6.out.onto hO7 BH6.out.below)
          have G7 : Hid (w1.grownBy w7 none) := Lib.hid (BB6.out.only hO7 G6.out (Nat.le_refl _))
          clear hown7 hg7 hob7 hO7
          go_wp2_with fail
          go_roundw
          case rel =>
            have hq9 := HQ.out
            exact ⟨m + 1, by omega, by go_num, BH7.out, BB7.out, AP7.out, G7.out⟩
          case measure => simp [intOf]; omega
    · have hq9 := HQ.out
      have hmE : m = (ds.length + 31) / 32 := by omega
      have HE : Hid (R = headP ds m ++ bodyP ds m) := Lib.hid (by rw [hmE]; exact HX.out)
      have hhl := HHL.out m (by omega)
      have hbl := HBL.out m (by omega)
      have hm2 : m ≤ 128 := by omega
      have i1 : ¬ (q : Int) < (ds.length : Int) := by omega
      obtain ⟨AB, cB, hvB, -, -, g3⟩ := BB.out.rd
      have RB := Lib.hid g3
      rw [hvB]
      clear g3 hvB hq9 hmE
      go_wp2_with (at_builtin; go_must (refine wpList_appendN rfl _ _ 22 rfl w1.heap.size Tryz.underlying22 byteInfo rfl (by decide) (v := vH) (by rfl) BH.out AB (bodyP ds m).length cB (by rfl) RB.out (by simp) (byte_ones _) (by decide) (by omega) (by omega) ?_); intro v7 w7 hown7 hg7 hob7)
      have B7 : Hid (Byts w1.heap.size w7 v7 (headP ds m ++ bodyP ds m)) := Lib.hid (by
        unfold Byts
        rw [List.length_append, List.map_append]
        exact hown7)
      have G7 : Hid (w1.grownBy w7 none) := Lib.hid (BH.out.only (onto_apN hg7 hob7) G.out (Nat.le_refl _))
      clear hown7 hg7 hob7
      go_wp2_with fail
      go_ret2
      rw [HE.out]
      exact ⟨v7, rfl, B7.out.base hz1, only_trans G1.out G7.out⟩
end Go.Proofs.YtodaabofpkafjaaGreat

namespace Go.Proofs.YtodaabofpkafjaaGreat
open Go.RowKit
set_option linter.unusedVariables false
set_option linter.unusedSimpArgs false

set_option maxHeartbeats 4000000 in
theorem postings_any {S : Nat → Prop} (A : Option Addr) (ds : List Int) (c : Nat) (w : World) (h : Rd S w A (ds.map (.int .i64))) (hl : ds.length ≤ 4096) (ha : AscN ds) (hc : ds.length ≤ c) (hm : c ≤ maxLen) :
    Calls Tryz.prog 90 #[.slice A ds.length c] w (NewB w (postX ds)) := by
  have K := Lib.hid (pencode_any A ds c w h hl ha hc hm)
  clear h ha hc hm
  go_enter Tryz.func90, Tryz.ntmps90
  go_wp2_with fail
  refine K.out.mono ?_
  rintro e w1 ⟨v, rfl, hB, hG⟩
  have B := Lib.hid hB
  have G := Lib.hid hG
  clear hB hG
  go_wp2_with fail
  go_ret
  exact ⟨v, rfl, B.out, G.out⟩
theorem postX_len (ds : List Int) (h : ∀ i, i < ds.length → 0 ≤ ds.getD i 0 ∧ ds.getD i 0 < 4096) (hl : ds.length ≤ 4096) : (postX ds).length ≤ 100000 := by
  have h1 := headP_len ds h hl ((ds.length + 31) / 32) (by omega)
  have h2 := bodyP_len ds h ((ds.length + 31) / 32) (by omega)
  unfold postX
  rw [List.length_append]
  omega
/-- places of values rise -/
theorem valsTo_bound (es : List Ev) (nm : ByteArray) : ∀ k, ∀ p ∈ valsTo es nm k, p.1 < k
  | 0, p, h => by cases h
  | k + 1, p, h => by
    have ih := valsTo_bound es nm k
    simp only [valsTo] at h
    rcases List.mem_append.1 h with h | h
    · have := ih p h; omega
    · split at h
      · split at h
        · rw [List.mem_singleton] at h; subst h; exact Nat.lt_succ_self k
        · cases h
      · cases h
theorem valsTo_pw (es : List Ev) (nm : ByteArray) : ∀ k, ((valsTo es nm k).map (·.1)).Pairwise (· < ·)
  | 0 => List.Pairwise.nil
  | k + 1 => by
    have ih := valsTo_pw es nm k
    have hb := valsTo_bound es nm k
    simp only [valsTo, List.map_append]
    rw [List.pairwise_append]
    refine ⟨ih, ?_, ?_⟩
    · split
      · split <;> simp
      · simp
    · intro a ha b hb'
      obtain ⟨p, hp, rfl⟩ := List.mem_map.1 ha
      have h1 := hb p hp
      split at hb'
      · split at hb'
        · simp at hb'; omega
        · simp at hb'
      · simp at hb'
theorem valsTo_asc (es : List Ev) (nm : ByteArray) (k : Nat) (hk : k ≤ 4096) : AscN (posV (valsTo es nm k)) := by
  have hpw := valsTo_pw es nm k
  have hb := valsTo_bound es nm k
  obtain ⟨ps, hps⟩ : ∃ ps, ps = valsTo es nm k := ⟨_, rfl⟩
  rw [← hps] at hpw hb ⊢
  have hl : (posV ps).length = ps.length := by unfold posV; rw [List.length_map]
  have hg : ∀ (i : Nat) (hi : i < ps.length), (posV ps).getD i 0 = ((ps[i]'hi).1 : Int) := fun i hi => by
    rw [List.getD_eq_getElem?_getD]
    simp [posV, hi]
  refine ⟨fun i hi => ?_, fun i hi => ?_⟩
  · rw [hl] at hi
    rw [hg i hi]
    have := hb _ (List.getElem_mem hi)
    omega
  · rw [hl] at hi
    rw [hg i (by omega), hg (i + 1) hi]
    have h1 := List.pairwise_iff_getElem.1 hpw i (i + 1) (by simp; omega) (by simpa using hi) (Nat.lt_succ_self i)
    simp at h1
    omega
end Go.Proofs.YtodaabofpkafjaaGreat
