/- Load of tiers and of the reference of chapter 33 (printed by mk33l.py). Conditions: sizes, bytes, the order of the shelf. -/
import Derived.Test.YtganfhmjklcchaaGreatJHdrW
import Derived.Test.YtganfhmjklcchaaGreatJManiJ
import Derived.Lib.SliceRun
namespace Go.Proofs.YtganfhmjklcchaaGreat
open Go.RowKit
set_option linter.unusedVariables false
set_option linter.unusedSimpArgs false

def ldO : Option (List Int) → Int × List Int
  | some d => if errS d = 0 then (0, d) else (25, [])
  | none => (25, [])
def loadB (ss : List SegD) (bs : List BlobD) (id : Int) : Int × List Int := match segF ss id with
  | none => (9, [])
  | some s => ldO (getB bs id s.tier)
def LoadPost (w : World) (p : Int × List Int) (e : Ending) (w' : World) : Prop :=
  ∃ A c, e = .returned (.tuple #[.slice A p.2.length c, .int .i64 p.1]) ∧ p.2.length ≤ c ∧ c ≤ maxLen ∧ Rd (w.heap.size ≤ ·) w' A (p.2.map (.int .u8)) ∧ w.grownBy w' none
/-- the world behind 'alloc, store' of an entry -/
def segW (w : World) (s : SegD) : World := w.alloc (.cells #[.int .i64 s.id, .int .i64 s.level, .int .i64 s.tier, .int .i64 s.count, .int .i64 s.min, .int .i64 s.max, .int .i64 s.size] 54)
theorem segW_blk (w : World) (s : SegD) : Blk (segW w s) w.heap.size 54 s.cells.toArray := Blk.new w _ _
theorem segW_only (w : World) (s : SegD) : w.grownBy (segW w s) none := only_alloc (only_refl _ _) _
theorem only_sets3 {a w : World} {b : Nat} {v0 v1 v2 : Value} (h : a.grownBy w none) (hb : a.heap.size ≤ b) : a.grownBy (((w.setCell ⟨b, 0, none⟩ v0).setCell ⟨b, 1, none⟩ v1).setCell ⟨b, 2, none⟩ v2) none := by
  refine only_fresh h (g := b) ?_ hb
  exact only_setCell (only_setCell (only_setCell (only_refl _ _) (p := ⟨b, 0, none⟩) (.inl rfl) v0) (p := ⟨b, 1, none⟩) (.inl rfl) v1) (p := ⟨b, 2, none⟩) (.inl rfl) v2
set_option maxHeartbeats 600000 in
set_option maxRecDepth 100000 in
theorem pload_any {S S2 S3 : Nat → Prop} (A : Option Addr) (bs : List BlobD) (c : Nat) (num nid jn : Int) (A2 : Option Addr) (ss : List SegD) (c2 : Nat) (id : Int) (w : World) (hr : Rd S w A (bs.flatMap BlobD.cells)) (hs : ∀ x ∈ bs, x.Sub S2 w) (hl : bs.length ≤ 100000) (hb : BSrt bs) (hi : ∀ x ∈ bs, InH x.data) (hr2 : Rd S3 w A2 (ss.flatMap SegD.cells)) (hl2 : ss.length ≤ 100000) :
    Calls Tryz.prog 12 #[.slice A bs.length c, .agg #[.int .i64 num, .int .i64 nid, .int .i64 jn, .slice A2 ss.length c2, .slice none 0 0, .slice none 0 0, .slice none 0 0], .int .i64 id] w (LoadPost w (loadB ss bs id)) := by
  obtain ⟨mb, hmb⟩ : ∃ b, b = w.heap.size := ⟨_, rfl⟩
  obtain ⟨W1, hW1⟩ : ∃ W, W = w.alloc (.cells #[.int .i64 num, .int .i64 nid, .int .i64 jn, .slice A2 ss.length c2, .slice none 0 0, .slice none 0 0, .slice none 0 0] 31) := ⟨_, rfl⟩
  have G1 : Hid (w.grownBy W1 none) := Lib.hid (by rw [hW1]; exact only_alloc (only_refl _ _) _)
  have B1 : Hid (Blk W1 mb 31 #[.int .i64 num, .int .i64 nid, .int .i64 jn, .slice A2 ss.length c2, .slice none 0 0, .slice none 0 0, .slice none 0 0]) := Lib.hid (by rw [hW1, hmb]; exact Blk.new w _ _)
  have KF := Lib.hid (mfind_any num nid jn A2 ss c2 none 0 0 none 0 0 none 0 0 id W1 (hr2.grown G1.out (by simp)) hl2)
  have KG := Lib.hid (fun (t : Int) (W : World) (hW : w.grownBy W none) => get_any A bs c id t W (hr.grown hW (by simp)) (fun x hx => (hs x hx).grown hW (by simp)) hl hb)
  have HD : Hid (∀ t d, getB bs id t = some d → InH d ∧ d.length ≤ 10000000) := Lib.hid (fun t d hd => getB_in hs hi hd)
  have b0 := B1.out.cell 0
  have b1 := B1.out.cell 1
  have b2 := B1.out.cell 2
  have b3 := B1.out.cell 3
  have b4 := B1.out.cell 4
  have b5 := B1.out.cell 5
  have b6 := B1.out.cell 6
  simp at b0 b1 b2 b3 b4 b5 b6
  have HW := Lib.hid hW1.symm
  have HMB := Lib.hid hmb.symm
  clear hW1 hmb hr hs hb hi hr2
  go_enter Tryz.func12, Tryz.ntmps12
  go_upto_region 1 with fail
  rw [HW.out, HMB.out]
  clear HW HMB
  go_wp2_with fail
  refine KF.out.mono ?_
  rintro e w2 h2
  have G2 := Lib.hid (only_trans G1.out h2.1)
  clear b0 b1 b2 b3 b4 b5 b6 KF
  cases hF : segF ss id with
  | none =>
    obtain ⟨rfl, -⟩ := find_none hF h2
    have HV : Hid (loadB ss bs id = (9, [])) := Lib.hid (by unfold loadB; rw [hF])
    clear hF h2
    go_wp2_with fail
    go_ret2
    rw [HV.out]
    refine ⟨none, 0, rfl, Nat.zero_le _, Nat.zero_le _, Rd.nil, ?_⟩
    exact only_alloc G2.out _
  | some s =>
    obtain ⟨rfl, -⟩ := find_some hF h2
    obtain ⟨r, hrr⟩ : ∃ r, r = getB bs id s.tier := ⟨_, rfl⟩
    have HV : Hid (loadB ss bs id = ldO r) := Lib.hid (by unfold loadB; rw [hF, hrr])
    have HD2 : Hid (∀ d, r = some d → InH d ∧ d.length ≤ 10000000) := Lib.hid (fun d hd => HD.out s.tier d (by rw [← hrr]; exact hd))
    obtain ⟨rb, hrb⟩ : ∃ b, b = w2.heap.size := ⟨_, rfl⟩
    obtain ⟨W3, hW3⟩ : ∃ W, W = segW w2 s := ⟨_, rfl⟩
    have B3 : Hid (Blk W3 rb 54 s.cells.toArray) := Lib.hid (by rw [hW3, hrb]; exact segW_blk w2 s)
    have G3 : Hid (w.grownBy W3 none) := Lib.hid (only_trans G2.out (by rw [hW3]; exact segW_only w2 s))
    have HW3 : Hid (segW w2 s = W3) := Lib.hid hW3.symm
    have HRB := Lib.hid hrb.symm
    have KG3 : Hid (Calls Tryz.prog 21 #[.slice A bs.length c, .int .i64 id, .int .i64 s.tier] W3 (GetPost W3 r)) := Lib.hid (by rw [hrr]; exact KG.out s.tier W3 G3.out)
    clear hF h2 hrr hW3 hrb KG HD
    go_upto_region 4 with fail
    have HWU := HW3.out
    unfold segW at HWU
    rw [HWU, HRB.out]
    clear HWU HW3 HRB
    have q2 := B3.out.cell 2
    simp [SegD.cells] at q2
    go_wp2_with fail
    cases r with
    | none =>
      refine KG3.out.mono ?_
      rintro e w4 ⟨hg4, rfl⟩
      have G4 := Lib.hid (only_trans G3.out hg4)
      clear hg4 KG3 HD2 q2
      go_wp2_with fail
      refine ((ssummary_any (S := fun _ => True) none [] 0 w4 Rd.nil (by simp [InH]) (by simp) (by simp) (by simp)).mono (fun e w' h => SumP.q h)).mono ?_
      rintro e w5 ⟨x, y, z, E, rfl, -, hg5⟩
      have G5 := Lib.hid (only_trans G4.out hg5)
      clear hg5
      go_wp2_with fail
      go_ret2
      rw [HV.out]
      refine ⟨none, 0, rfl, Nat.zero_le _, Nat.zero_le _, Rd.nil, ?_⟩
      exact only_alloc G5.out _
    | some d =>
      obtain ⟨hin, hdl⟩ := HD2.out d rfl
      refine KG3.out.mono ?_
      rintro e w4 ⟨hg4, A1, c1, rfl, hc1, hm1, hr1⟩
      have KS := Lib.hid ((ssummary_any A1 d c1 w4 hr1 hin (by omega) hc1 (by unfold maxLen at hm1; omega)).mono (fun e w' h => SumP.q h))
      have hs3 := G3.out.size
      have R1 := Lib.hid (hr1.mono (S' := (w.heap.size ≤ ·)) (fun b hb _ => Nat.le_trans hs3 hb))
      have G4 := Lib.hid (only_trans G3.out hg4)
      clear hg4 hr1 KG3 HD2 q2
      go_wp2_with fail
      refine KS.out.mono ?_
      rintro e w5 ⟨x, y, z, E, rfl, hE, hg5⟩
      have R5 := Lib.hid (R1.out.grown hg5 (by simp))
      have G5 := Lib.hid (only_trans G4.out hg5)
      have HE := Lib.hid hE
      have hs5 := hg5.size
      clear hg5 hE KS R1
      by_cases h0 : E = 0
      · subst h0
        have HX : Hid (ldO (some d) = (0, d)) := Lib.hid (by unfold ldO; simp only; rw [if_pos (by have := HE.out; omega)])
        go_wp2_with fail
        go_ret2
        rw [HV.out, HX.out]
        have hg : w5.grownBy _ none := only_alloc (only_refl w5 none) (.cells #[.int .i64 x, .int .i64 y, .int .i64 z] 78)
        exact ⟨A1, c1, rfl, hc1, hm1, R5.out.grown hg (by simp), only_trans G5.out hg⟩
      · have e1 : (E == 0) = false := by simp [h0]
        have HX : Hid (ldO (some d) = (25, [])) := Lib.hid (by unfold ldO; simp only; rw [if_neg (fun h => h0 (by rw [HE.out, h]; rfl))])
        clear h0
        go_wp2_with fail
        go_ret2
        rw [HV.out, HX.out]
        refine ⟨none, 0, rfl, Nat.zero_le _, Nat.zero_le _, Rd.nil, ?_⟩
        exact only_alloc G5.out _
set_option maxHeartbeats 600000 in
set_option maxRecDepth 100000 in
theorem rload_any {S S2 S3 : Nat → Prop} (A : Option Addr) (bs : List BlobD) (c : Nat) (num nid jn : Int) (A2 : Option Addr) (ss : List SegD) (c2 : Nat) (id : Int) (w : World) (hr : Rd S w A (bs.flatMap BlobD.cells)) (hs : ∀ x ∈ bs, x.Sub S2 w) (hl : bs.length ≤ 100000) (hb : BSrt bs) (hi : ∀ x ∈ bs, InH x.data) (hr2 : Rd S3 w A2 (ss.flatMap SegD.cells)) (hl2 : ss.length ≤ 100000) :
    Calls Tryz.prog 13 #[.slice A bs.length c, .agg #[.int .i64 num, .int .i64 nid, .int .i64 jn, .slice A2 ss.length c2, .slice none 0 0, .slice none 0 0, .slice none 0 0], .int .i64 id] w (LoadPost w (loadB ss bs id)) := by
  obtain ⟨mb, hmb⟩ : ∃ b, b = w.heap.size := ⟨_, rfl⟩
  obtain ⟨W1, hW1⟩ : ∃ W, W = w.alloc (.cells #[.int .i64 num, .int .i64 nid, .int .i64 jn, .slice A2 ss.length c2, .slice none 0 0, .slice none 0 0, .slice none 0 0] 31) := ⟨_, rfl⟩
  have G1 : Hid (w.grownBy W1 none) := Lib.hid (by rw [hW1]; exact only_alloc (only_refl _ _) _)
  have B1 : Hid (Blk W1 mb 31 #[.int .i64 num, .int .i64 nid, .int .i64 jn, .slice A2 ss.length c2, .slice none 0 0, .slice none 0 0, .slice none 0 0]) := Lib.hid (by rw [hW1, hmb]; exact Blk.new w _ _)
  have KF := Lib.hid (rfind_any num nid jn A2 ss c2 none 0 0 none 0 0 none 0 0 id W1 (hr2.grown G1.out (by simp)) hl2)
  have KG := Lib.hid (fun (t : Int) (W : World) (hW : w.grownBy W none) => rget33_any A bs c id t W (hr.grown hW (by simp)) (fun x hx => (hs x hx).grown hW (by simp)) hl)
  have HD : Hid (∀ t d, getB bs id t = some d → InH d ∧ d.length ≤ 10000000) := Lib.hid (fun t d hd => getB_in hs hi hd)
  have b0 := B1.out.cell 0
  have b1 := B1.out.cell 1
  have b2 := B1.out.cell 2
  have b3 := B1.out.cell 3
  have b4 := B1.out.cell 4
  have b5 := B1.out.cell 5
  have b6 := B1.out.cell 6
  simp at b0 b1 b2 b3 b4 b5 b6
  have HW := Lib.hid hW1.symm
  have HMB := Lib.hid hmb.symm
  clear hW1 hmb hr hs hb hi hr2
  go_enter Tryz.func13, Tryz.ntmps13
  go_upto_region 1 with fail
  rw [HW.out, HMB.out]
  clear HW HMB
  go_wp2_with fail
  refine KF.out.mono ?_
  rintro e w2 h2
  have G2 := Lib.hid (only_trans G1.out h2.1)
  clear b0 b1 b2 b3 b4 b5 b6 KF
  cases hF : segF ss id with
  | none =>
    obtain ⟨rfl, -⟩ := find_none hF h2
    have HV : Hid (loadB ss bs id = (9, [])) := Lib.hid (by unfold loadB; rw [hF])
    clear hF h2
    go_wp2_with fail
    go_ret2
    rw [HV.out]
    refine ⟨none, 0, rfl, Nat.zero_le _, Nat.zero_le _, Rd.nil, ?_⟩
    exact only_alloc G2.out _
  | some s =>
    obtain ⟨rfl, -⟩ := find_some hF h2
    obtain ⟨r, hrr⟩ : ∃ r, r = getB bs id s.tier := ⟨_, rfl⟩
    have HV : Hid (loadB ss bs id = ldO r) := Lib.hid (by unfold loadB; rw [hF, hrr])
    have HD2 : Hid (∀ d, r = some d → InH d ∧ d.length ≤ 10000000) := Lib.hid (fun d hd => HD.out s.tier d (by rw [← hrr]; exact hd))
    obtain ⟨rb, hrb⟩ : ∃ b, b = w2.heap.size := ⟨_, rfl⟩
    obtain ⟨W3, hW3⟩ : ∃ W, W = segW w2 s := ⟨_, rfl⟩
    have B3 : Hid (Blk W3 rb 54 s.cells.toArray) := Lib.hid (by rw [hW3, hrb]; exact segW_blk w2 s)
    have G3 : Hid (w.grownBy W3 none) := Lib.hid (only_trans G2.out (by rw [hW3]; exact segW_only w2 s))
    have HW3 : Hid (segW w2 s = W3) := Lib.hid hW3.symm
    have HRB := Lib.hid hrb.symm
    have KG3 : Hid (Calls Tryz.prog 34 #[.slice A bs.length c, .int .i64 id, .int .i64 s.tier] W3 (GetPost W3 r)) := Lib.hid (by rw [hrr]; exact KG.out s.tier W3 G3.out)
    clear hF h2 hrr hW3 hrb KG HD
    go_upto_region 4 with fail
    have HWU := HW3.out
    unfold segW at HWU
    rw [HWU, HRB.out]
    clear HWU HW3 HRB
    have q2 := B3.out.cell 2
    simp [SegD.cells] at q2
    go_wp2_with fail
    cases r with
    | none =>
      refine KG3.out.mono ?_
      rintro e w4 ⟨hg4, rfl⟩
      have G4 := Lib.hid (only_trans G3.out hg4)
      clear hg4 KG3 HD2 q2
      go_wp2_with fail
      refine ((rsummary_any (S := fun _ => True) none [] 0 w4 Rd.nil (by simp [InH]) (by simp) (by simp) (by simp)).mono (fun e w' h => SumP.q h)).mono ?_
      rintro e w5 ⟨x, y, z, E, rfl, -, hg5⟩
      have G5 := Lib.hid (only_trans G4.out hg5)
      clear hg5
      go_wp2_with fail
      go_ret2
      rw [HV.out]
      refine ⟨none, 0, rfl, Nat.zero_le _, Nat.zero_le _, Rd.nil, ?_⟩
      exact only_alloc G5.out _
    | some d =>
      obtain ⟨hin, hdl⟩ := HD2.out d rfl
      refine KG3.out.mono ?_
      rintro e w4 ⟨hg4, A1, c1, rfl, hc1, hm1, hr1⟩
      have KS := Lib.hid ((rsummary_any A1 d c1 w4 hr1 hin (by omega) hc1 (by unfold maxLen at hm1; omega)).mono (fun e w' h => SumP.q h))
      have hs3 := G3.out.size
      have R1 := Lib.hid (hr1.mono (S' := (w.heap.size ≤ ·)) (fun b hb _ => Nat.le_trans hs3 hb))
      have G4 := Lib.hid (only_trans G3.out hg4)
      clear hg4 hr1 KG3 HD2 q2
      go_wp2_with fail
      refine KS.out.mono ?_
      rintro e w5 ⟨x, y, z, E, rfl, hE, hg5⟩
      have R5 := Lib.hid (R1.out.grown hg5 (by simp))
      have G5 := Lib.hid (only_trans G4.out hg5)
      have HE := Lib.hid hE
      have hs5 := hg5.size
      clear hg5 hE KS R1
      by_cases h0 : E = 0
      · subst h0
        have HX : Hid (ldO (some d) = (0, d)) := Lib.hid (by unfold ldO; simp only; rw [if_pos (by have := HE.out; omega)])
        go_wp2_with fail
        go_ret2
        rw [HV.out, HX.out]
        have hg : w5.grownBy _ none := only_alloc (only_refl w5 none) (.cells #[.int .i64 x, .int .i64 y, .int .i64 z] 78)
        exact ⟨A1, c1, rfl, hc1, hm1, R5.out.grown hg (by simp), only_trans G5.out hg⟩
      · have e1 : (E == 0) = false := by simp [h0]
        have HX : Hid (ldO (some d) = (25, [])) := Lib.hid (by unfold ldO; simp only; rw [if_neg (fun h => h0 (by rw [HE.out, h]; rfl))])
        clear h0
        go_wp2_with fail
        go_ret2
        rw [HV.out, HX.out]
        refine ⟨none, 0, rfl, Nat.zero_le _, Nat.zero_le _, Rd.nil, ?_⟩
        exact only_alloc G5.out _
end Go.Proofs.YtganfhmjklcchaaGreat

namespace Go.Proofs.YtganfhmjklcchaaGreat
open Go.RowKit
set_option linter.unusedVariables false
set_option linter.unusedSimpArgs false

def tierE (t : Int) : Int := if t < 0 ∨ 2 < t then 2 else 0
def ChkPost (w : World) (ss : List SegD) (id tier : Int) (e : Ending) (w' : World) : Prop :=
  w.grownBy w' none ∧ ((segF ss id = none ∧ e = .returned (.tuple #[.agg #[.int .i64 0, .int .i64 0, .int .i64 0, .int .i64 0, .int .i64 0, .int .i64 0, .int .i64 0], .int .i64 9])) ∨ ∃ s, segF ss id = some s ∧ e = .returned (.tuple #[.agg #[.int .i64 s.id, .int .i64 s.level, .int .i64 s.tier, .int .i64 s.count, .int .i64 s.min, .int .i64 s.max, .int .i64 s.size], .int .i64 (tierE tier)]))
set_option maxHeartbeats 1000000 in
set_option maxRecDepth 100000 in
theorem check_any {S3 : Nat → Prop} (num nid jn : Int) (A2 : Option Addr) (ss : List SegD) (c2 : Nat) (id tier : Int) (w : World) (hr2 : Rd S3 w A2 (ss.flatMap SegD.cells)) (hl2 : ss.length ≤ 100000) :
    Calls Tryz.prog 36 #[.agg #[.int .i64 num, .int .i64 nid, .int .i64 jn, .slice A2 ss.length c2, .slice none 0 0, .slice none 0 0, .slice none 0 0], .int .i64 id, .int .i64 tier] w (ChkPost w ss id tier) := by
  obtain ⟨mb, hmb⟩ : ∃ b, b = w.heap.size := ⟨_, rfl⟩
  obtain ⟨rb, hrb⟩ : ∃ b, b = w.heap.size + 1 := ⟨_, rfl⟩
  obtain ⟨W1, hW1⟩ : ∃ W, W = (w.alloc (.cells #[.int .i64 num, .int .i64 nid, .int .i64 jn, .slice A2 ss.length c2, .slice none 0 0, .slice none 0 0, .slice none 0 0] 31)).alloc (.cells #[.int .i64 0, .int .i64 0, .int .i64 0, .int .i64 0, .int .i64 0, .int .i64 0, .int .i64 0] 54) := ⟨_, rfl⟩
  have G1 : Hid (w.grownBy W1 none) := Lib.hid (by rw [hW1]; exact only_alloc (only_alloc (only_refl _ _) _) _)
  have B1 : Hid (Blk W1 mb 31 #[.int .i64 num, .int .i64 nid, .int .i64 jn, .slice A2 ss.length c2, .slice none 0 0, .slice none 0 0, .slice none 0 0]) := Lib.hid (by rw [hW1, hmb]; exact (Blk.new w _ _).alloc _)
  have R1 : Hid (Blk W1 rb 54 #[.int .i64 0, .int .i64 0, .int .i64 0, .int .i64 0, .int .i64 0, .int .i64 0, .int .i64 0]) := Lib.hid (by rw [hW1, hrb]; have := Blk.new (w.alloc (.cells #[.int .i64 num, .int .i64 nid, .int .i64 jn, .slice A2 ss.length c2, .slice none 0 0, .slice none 0 0, .slice none 0 0] 31)) 54 #[.int .i64 0, .int .i64 0, .int .i64 0, .int .i64 0, .int .i64 0, .int .i64 0, .int .i64 0]; simpa using this)
  have KF := Lib.hid (mfind_any num nid jn A2 ss c2 none 0 0 none 0 0 none 0 0 id W1 (hr2.grown G1.out (by simp)) hl2)
  have b0 := B1.out.cell 0
  have b1 := B1.out.cell 1
  have b2 := B1.out.cell 2
  have b3 := B1.out.cell 3
  have b4 := B1.out.cell 4
  have b5 := B1.out.cell 5
  have b6 := B1.out.cell 6
  simp at b0 b1 b2 b3 b4 b5 b6
  have HW := Lib.hid hW1.symm
  have HMB := Lib.hid hmb
  have HRB := Lib.hid hrb
  clear hW1 hmb hrb hr2
  go_enter Tryz.func36, Tryz.ntmps36
  go_upto_region 1 with fail
  rw [HW.out, ← HRB.out, ← HMB.out]
  clear HW
  go_wp2_with fail
  refine KF.out.mono ?_
  rintro e w2 h2
  have G2 := Lib.hid (only_trans G1.out h2.1)
  have R2 := R1.out.grown h2.1 (by simp)
  have hrl : rb < w2.heap.size := R2.lt
  have hrn : rb ≠ w2.heap.size := by omega
  have hwr : w.heap.size ≤ rb := by have := HRB.out; omega
  have q0 := R2.cell 0; have p0 := R2.frozen 0; have q1 := R2.cell 1; have p1 := R2.frozen 1; have q2 := R2.cell 2; have p2 := R2.frozen 2; have q3 := R2.cell 3; have p3 := R2.frozen 3; have q4 := R2.cell 4; have p4 := R2.frozen 4; have q5 := R2.cell 5; have p5 := R2.frozen 5; have q6 := R2.cell 6; have p6 := R2.frozen 6; simp at q0 q1 q2 q3 q4 q5 q6
  clear b0 b1 b2 b3 b4 b5 b6 KF
  cases hF : segF ss id with
  | none =>
    obtain ⟨rfl, -⟩ := find_none hF h2
    have HF := Lib.hid hF
    have P9 := (blk_put7 R2 (.int .i64 0) (.int .i64 0) (.int .i64 0) (.int .i64 0) (.int .i64 0) (.int .i64 0) (.int .i64 0)).alloc (.cells #[.int .i64 0, .int .i64 0, .int .i64 0, .int .i64 0, .int .i64 0, .int .i64 0, .int .i64 0] 54)
    have d0 := P9.cell 0; have d1 := P9.cell 1; have d2 := P9.cell 2; have d3 := P9.cell 3; have d4 := P9.cell 4; have d5 := P9.cell 5; have d6 := P9.cell 6
    simp at d0 d1 d2 d3 d4 d5 d6
    have D := Lib.hid (And.intro d0 (And.intro d1 (And.intro d2 (And.intro d3 (And.intro d4 (And.intro d5 d6))))))
    clear hF h2 R2 P9 d0 d1 d2 d3 d4 d5 d6
    go_wp2_with fail
    obtain ⟨d0, d1, d2, d3, d4, d5, d6⟩ := D.out
    refine bodyPost_ret (v := .tuple #[.agg #[.int .i64 0, .int .i64 0, .int .i64 0, .int .i64 0, .int .i64 0, .int .i64 0, .int .i64 0], .int .i64 9]) (by simp [results, Tryz.results36, go_sem, d0, d1, d2, d3, d4, d5, d6]) rfl ⟨?_, .inl ⟨HF.out, rfl⟩⟩
    exact only_alloc (sets7 G2.out hwr _ _ _ _ _ _ _) _
  | some s =>
    obtain ⟨rfl, -⟩ := find_some hF h2
    have HF := Lib.hid hF
    have P9 := (blk_put7 R2 (.int .i64 s.id) (.int .i64 s.level) (.int .i64 s.tier) (.int .i64 s.count) (.int .i64 s.min) (.int .i64 s.max) (.int .i64 s.size)).alloc (.cells #[.int .i64 s.id, .int .i64 s.level, .int .i64 s.tier, .int .i64 s.count, .int .i64 s.min, .int .i64 s.max, .int .i64 s.size] 54)
    have d0 := P9.cell 0; have d1 := P9.cell 1; have d2 := P9.cell 2; have d3 := P9.cell 3; have d4 := P9.cell 4; have d5 := P9.cell 5; have d6 := P9.cell 6
    simp at d0 d1 d2 d3 d4 d5 d6
    have D := Lib.hid (And.intro d0 (And.intro d1 (And.intro d2 (And.intro d3 (And.intro d4 (And.intro d5 d6))))))
    clear hF h2 R2 P9 d0 d1 d2 d3 d4 d5 d6
    by_cases h0 : tier < 0
    · have HT : Hid (tierE tier = 2) := Lib.hid (by unfold tierE; rw [if_pos (.inl h0)])
      go_wp2_with fail
      obtain ⟨d0, d1, d2, d3, d4, d5, d6⟩ := D.out
      refine bodyPost_ret (v := .tuple #[.agg #[.int .i64 s.id, .int .i64 s.level, .int .i64 s.tier, .int .i64 s.count, .int .i64 s.min, .int .i64 s.max, .int .i64 s.size], .int .i64 2]) (by simp [results, Tryz.results36, go_sem, d0, d1, d2, d3, d4, d5, d6]) rfl ⟨?_, .inr ⟨s, HF.out, by rw [HT.out]⟩⟩
      exact only_alloc (sets7 G2.out hwr _ _ _ _ _ _ _) _
    · by_cases h1 : 2 < tier
      · have HT : Hid (tierE tier = 2) := Lib.hid (by unfold tierE; rw [if_pos (.inr h1)])
        go_wp2_with fail
        obtain ⟨d0, d1, d2, d3, d4, d5, d6⟩ := D.out
        refine bodyPost_ret (v := .tuple #[.agg #[.int .i64 s.id, .int .i64 s.level, .int .i64 s.tier, .int .i64 s.count, .int .i64 s.min, .int .i64 s.max, .int .i64 s.size], .int .i64 2]) (by simp [results, Tryz.results36, go_sem, d0, d1, d2, d3, d4, d5, d6]) rfl ⟨?_, .inr ⟨s, HF.out, by rw [HT.out]⟩⟩
        exact only_alloc (sets7 G2.out hwr _ _ _ _ _ _ _) _
      · have HT : Hid (tierE tier = 0) := Lib.hid (by unfold tierE; rw [if_neg (by omega)])
        go_wp2_with fail
        obtain ⟨d0, d1, d2, d3, d4, d5, d6⟩ := D.out
        refine bodyPost_ret (v := .tuple #[.agg #[.int .i64 s.id, .int .i64 s.level, .int .i64 s.tier, .int .i64 s.count, .int .i64 s.min, .int .i64 s.max, .int .i64 s.size], .int .i64 0]) (by simp [results, Tryz.results36, go_sem, d0, d1, d2, d3, d4, d5, d6]) rfl ⟨?_, .inr ⟨s, HF.out, by rw [HT.out]⟩⟩
        exact only_alloc (sets7 G2.out hwr _ _ _ _ _ _ _) _
def copyO (ss : List SegD) (bs : List BlobD) (id tier : Int) : Int × List Int := match segF ss id with
  | none => (9, [])
  | some s => if tier < 0 ∨ 2 < tier then (2, []) else match wholeB bs id s.tier with
    | none => (25, [])
    | some d => (0, d)
def CopyPost (S : Nat → Prop) (w : World) (bs : List BlobD) (id tier : Int) (p : Int × List Int) (e : Ending) (w' : World) : Prop :=
  w.grownBy w' none ∧ ∃ (A : Option Addr) (n c : Nat), e = .returned (.tuple #[.slice A n c, .int .i64 p.1]) ∧ (p.1 = 0 → ∃ (x' : BlobD) (bs' : List BlobD), x'.key = (id, tier, p.2) ∧ bs' = putB bs id tier x' ∧ n = bs'.length ∧ n ≤ c ∧ c ≤ maxLen ∧ (A = none → c = 0) ∧ Rd S w' A (bs'.flatMap BlobD.cells) ∧ ∀ x ∈ bs', x.Sub S w')
theorem CopyPost.no {S : Nat → Prop} {w w' : World} {bs : List BlobD} {id tier k : Int} {A : Option Addr} {n c : Nat} (hk : k ≠ 0) (hg : w.grownBy w' none) : CopyPost S w bs id tier (k, []) (.returned (.tuple #[.slice A n c, .int .i64 k])) w' := ⟨hg, A, n, c, rfl, fun h => absurd h hk⟩
theorem copyO_no {ss : List SegD} {bs : List BlobD} {id tier : Int} (h : segF ss id = none) : copyO ss bs id tier = (9, []) := by unfold copyO; rw [h]
theorem copyO_tier {ss : List SegD} {bs : List BlobD} {id tier : Int} {s : SegD} (h : segF ss id = some s) (ht : tier < 0 ∨ 2 < tier) : copyO ss bs id tier = (2, []) := by unfold copyO; rw [h]; simp only; rw [if_pos ht]
theorem copyO_lost {ss : List SegD} {bs : List BlobD} {id tier : Int} {s : SegD} (h : segF ss id = some s) (ht : ¬ (tier < 0 ∨ 2 < tier)) (hd : wholeB bs id s.tier = none) : copyO ss bs id tier = (25, []) := by unfold copyO; rw [h]; simp only; rw [if_neg ht, hd]
theorem copyO_yes {ss : List SegD} {bs : List BlobD} {id tier : Int} {s : SegD} {d : List Int} (h : segF ss id = some s) (ht : ¬ (tier < 0 ∨ 2 < tier)) (hd : wholeB bs id s.tier = some d) : copyO ss bs id tier = (0, d) := by unfold copyO; rw [h]; simp only; rw [if_neg ht, hd]
theorem wholeB_len {bs : List BlobD} {i t : Int} {S : Nat → Prop} {w : World} (hs : ∀ x ∈ bs, x.Sub S w) (hi : ∀ x ∈ bs, InH x.data) {d : List Int} (h : wholeB bs i t = some d) : d.length ≤ 10000000 := by
  unfold wholeB whO at h
  cases hg : getB bs i t with
  | none => rw [hg] at h; cases h
  | some d' =>
    rw [hg] at h
    simp only at h
    split at h
    · injection h with h; subst h; exact (getB_in hs hi hg).2
    · cases h
set_option maxHeartbeats 2000000 in
set_option maxRecDepth 100000 in
theorem pcopy_any {S S3 : Nat → Prop} (A : Option Addr) (bs : List BlobD) (c : Nat) (num nid jn : Int) (A2 : Option Addr) (ss : List SegD) (c2 : Nat) (id tier : Int) (w : World) (hr : Rd S w A (bs.flatMap BlobD.cells)) (hs : ∀ x ∈ bs, x.Sub S w) (hS : ∀ b, w.heap.size ≤ b → S b) (hl : bs.length ≤ 1000) (hc : bs.length ≤ c) (hcm : c ≤ maxLen) (hz : A = none → c = 0) (hb : BSrt bs) (hi : ∀ x ∈ bs, InH x.data) (hr2 : Rd S3 w A2 (ss.flatMap SegD.cells)) (hl2 : ss.length ≤ 100000) :
    Calls Tryz.prog 16 #[.slice A bs.length c, .agg #[.int .i64 num, .int .i64 nid, .int .i64 jn, .slice A2 ss.length c2, .slice none 0 0, .slice none 0 0, .slice none 0 0], .int .i64 id, .int .i64 tier] w (CopyPost S w bs id tier (copyO ss bs id tier)) := by
  obtain ⟨mb, hmb⟩ : ∃ b, b = w.heap.size := ⟨_, rfl⟩
  obtain ⟨W1, hW1⟩ : ∃ W, W = w.alloc (.cells #[.int .i64 num, .int .i64 nid, .int .i64 jn, .slice A2 ss.length c2, .slice none 0 0, .slice none 0 0, .slice none 0 0] 31) := ⟨_, rfl⟩
  have G1 : Hid (w.grownBy W1 none) := Lib.hid (by rw [hW1]; exact only_alloc (only_refl _ _) _)
  have B1 : Hid (Blk W1 mb 31 #[.int .i64 num, .int .i64 nid, .int .i64 jn, .slice A2 ss.length c2, .slice none 0 0, .slice none 0 0, .slice none 0 0]) := Lib.hid (by rw [hW1, hmb]; exact Blk.new w _ _)
  have KF := Lib.hid (check_any num nid jn A2 ss c2 id tier W1 (hr2.grown G1.out (by simp)) hl2)
  have KG := Lib.hid (fun (t : Int) (W : World) (hW : w.grownBy W none) => pwhole_any A bs c id t W (hr.grown hW (by simp)) (fun x hx => (hs x hx).grown hW (by simp)) (by omega) hb hi)
  have HL : Hid (∀ t d, wholeB bs id t = some d → d.length ≤ 10000000) := Lib.hid (fun t d hd => wholeB_len hs hi hd)
  have HR := Lib.hid hr
  have HS := Lib.hid hs
  have HSS := Lib.hid hS
  have HB := Lib.hid hb
  have HZ := Lib.hid hz
  have b0 := B1.out.cell 0
  have b1 := B1.out.cell 1
  have b2 := B1.out.cell 2
  have b3 := B1.out.cell 3
  have b4 := B1.out.cell 4
  have b5 := B1.out.cell 5
  have b6 := B1.out.cell 6
  simp at b0 b1 b2 b3 b4 b5 b6
  have HW := Lib.hid hW1.symm
  have HMB := Lib.hid hmb.symm
  clear hW1 hmb hr hs hb hi hr2 hz hS
  go_enter Tryz.func16, Tryz.ntmps16
  go_upto_region 1 with fail
  rw [HW.out, HMB.out]
  clear HW HMB
  go_wp2_with fail
  refine KF.out.mono ?_
  rintro e w2 ⟨hg2, ⟨hF, rfl⟩ | ⟨s, hF, rfl⟩⟩
  · have HX := Lib.hid (copyO_no (bs := bs) (tier := tier) hF)
    have G2 := Lib.hid (only_trans G1.out hg2)
    clear b0 b1 b2 b3 b4 b5 b6 KF hF hg2
    go_wp2_with fail
    go_ret2
    rw [HX.out]
    refine ⟨?_, none, 0, 0, rfl, fun h => absurd h (by decide)⟩
    exact only_alloc G2.out _
  have G2 := Lib.hid (only_trans G1.out hg2)
  clear b0 b1 b2 b3 b4 b5 b6 KF hg2
  obtain ⟨rb, hrb⟩ : ∃ b, b = w2.heap.size := ⟨_, rfl⟩
  obtain ⟨W3, hW3⟩ : ∃ W, W = segW w2 s := ⟨_, rfl⟩
  have B3 : Hid (Blk W3 rb 54 s.cells.toArray) := Lib.hid (by rw [hW3, hrb]; exact segW_blk w2 s)
  have G3 : Hid (w.grownBy W3 none) := Lib.hid (only_trans G2.out (by rw [hW3]; exact segW_only w2 s))
  have HW3 : Hid (segW w2 s = W3) := Lib.hid hW3.symm
  have HRB := Lib.hid hrb.symm
  have KG3 := Lib.hid (KG.out s.tier W3 G3.out)
  have HF := Lib.hid hF
  clear hF hW3 hrb KG
  by_cases ht : tier < 0 ∨ 2 < tier
  · have HX := Lib.hid (copyO_tier (bs := bs) HF.out ht)
    have HT : Hid (tierE tier = 2) := Lib.hid (by unfold tierE; rw [if_pos ht])
    rw [HT.out]
    clear ht
    go_wp2_with fail
    go_ret2
    rw [HX.out]
    refine ⟨?_, none, 0, 0, rfl, fun h => absurd h (by decide)⟩
    exact only_alloc G2.out _
  have HT : Hid (tierE tier = 0) := Lib.hid (by unfold tierE; rw [if_neg ht])
  rw [HT.out]
  have HTT := Lib.hid ht
  clear ht
  go_upto_region 4 with fail
  have HWU := HW3.out
  unfold segW at HWU
  rw [HWU, HRB.out]
  clear HWU HW3 HRB
  have q2 := B3.out.cell 2
  simp [SegD.cells] at q2
  obtain ⟨r, hrr⟩ : ∃ r, r = wholeB bs id s.tier := ⟨_, rfl⟩
  have HRR := Lib.hid hrr.symm
  rw [← hrr] at KG3
  clear hrr
  go_wp2_with fail
  cases r with
  | none =>
    refine KG3.out.mono ?_
    rintro e w4 ⟨hg4, A4, n4, c4, rfl⟩
    have G4 := Lib.hid (only_trans G3.out hg4)
    have HX := Lib.hid (copyO_lost HF.out HTT.out HRR.out)
    clear hg4 KG3 q2
    go_wp2_with fail
    go_ret2
    rw [HX.out]
    refine ⟨?_, none, 0, 0, rfl, fun h => absurd h (by decide)⟩
    exact G4.out
  | some d =>
    have hdl := HL.out s.tier d HRR.out
    refine KG3.out.mono ?_
    rintro e w4 ⟨hg4, A1, c1, rfl, hc1, hm1, hr1⟩
    have G4 := Lib.hid (only_trans G3.out hg4)
    have HX := Lib.hid (copyO_yes HF.out HTT.out HRR.out)
    have hs3 := G3.out.size
    have hs4 := hg4.size
    have KP := Lib.hid (put_any (S := S) A bs c ⟨id, tier, d, A1, c1⟩ w4 (HR.out.grown G4.out (by simp)) (fun y hy => (HS.out y hy).grown G4.out (by simp)) ⟨hr1.mono (fun b hb _ => HSS.out b (Nat.le_trans hs3 hb)), hc1, hm1, hdl⟩ (fun b hb => HSS.out b (by omega)) hl hc hcm HZ.out HB.out)
    clear hg4 hr1 KG3 q2
    go_wp2_with fail
    refine KP.out.mono ?_
    rintro e w5 ⟨A5, c5, bs', rfl, ⟨x', hk, hbs⟩, z1, z2, z3, z4, z5, hg5⟩
    have Z := Lib.hid (And.intro z4 z5)
    have HK := Lib.hid hk
    have HBS := Lib.hid hbs
    have G5 := Lib.hid (only_trans G4.out hg5)
    clear z4 z5 hk hbs hg5 KP
    go_wp2_with fail
    go_ret2
    rw [HX.out]
    exact ⟨G5.out, A5, bs'.length, c5, rfl, fun _ => ⟨x', bs', HK.out, HBS.out, rfl, z1, z2, z3, Z.out.1, Z.out.2⟩⟩
set_option maxHeartbeats 2000000 in
set_option maxRecDepth 100000 in
theorem rcopy_any {S S3 : Nat → Prop} (A : Option Addr) (bs : List BlobD) (c : Nat) (num nid jn : Int) (A2 : Option Addr) (ss : List SegD) (c2 : Nat) (id tier : Int) (w : World) (hr : Rd S w A (bs.flatMap BlobD.cells)) (hs : ∀ x ∈ bs, x.Sub S w) (hS : ∀ b, w.heap.size ≤ b → S b) (hl : bs.length ≤ 1000) (hc : bs.length ≤ c) (hcm : c ≤ maxLen) (hz : A = none → c = 0) (hb : BSrt bs) (hi : ∀ x ∈ bs, InH x.data) (hr2 : Rd S3 w A2 (ss.flatMap SegD.cells)) (hl2 : ss.length ≤ 100000) :
    Calls Tryz.prog 17 #[.slice A bs.length c, .agg #[.int .i64 num, .int .i64 nid, .int .i64 jn, .slice A2 ss.length c2, .slice none 0 0, .slice none 0 0, .slice none 0 0], .int .i64 id, .int .i64 tier] w (CopyPost S w bs id tier (copyO ss bs id tier)) := by
  obtain ⟨mb, hmb⟩ : ∃ b, b = w.heap.size := ⟨_, rfl⟩
  obtain ⟨W1, hW1⟩ : ∃ W, W = w.alloc (.cells #[.int .i64 num, .int .i64 nid, .int .i64 jn, .slice A2 ss.length c2, .slice none 0 0, .slice none 0 0, .slice none 0 0] 31) := ⟨_, rfl⟩
  have G1 : Hid (w.grownBy W1 none) := Lib.hid (by rw [hW1]; exact only_alloc (only_refl _ _) _)
  have B1 : Hid (Blk W1 mb 31 #[.int .i64 num, .int .i64 nid, .int .i64 jn, .slice A2 ss.length c2, .slice none 0 0, .slice none 0 0, .slice none 0 0]) := Lib.hid (by rw [hW1, hmb]; exact Blk.new w _ _)
  have KF := Lib.hid (rfind_any num nid jn A2 ss c2 none 0 0 none 0 0 none 0 0 id W1 (hr2.grown G1.out (by simp)) hl2)
  have KG := Lib.hid (fun (t : Int) (W : World) (hW : w.grownBy W none) => rwhole_any A bs c id t W (hr.grown hW (by simp)) (fun x hx => (hs x hx).grown hW (by simp)) (by omega) hb hi)
  have HL : Hid (∀ t d, wholeB bs id t = some d → d.length ≤ 10000000) := Lib.hid (fun t d hd => wholeB_len hs hi hd)
  have HR := Lib.hid hr
  have HS := Lib.hid hs
  have HSS := Lib.hid hS
  have HB := Lib.hid hb
  have HZ := Lib.hid hz
  have b0 := B1.out.cell 0
  have b1 := B1.out.cell 1
  have b2 := B1.out.cell 2
  have b3 := B1.out.cell 3
  have b4 := B1.out.cell 4
  have b5 := B1.out.cell 5
  have b6 := B1.out.cell 6
  simp at b0 b1 b2 b3 b4 b5 b6
  have HW := Lib.hid hW1.symm
  have HMB := Lib.hid hmb.symm
  clear hW1 hmb hr hs hb hi hr2 hz hS
  go_enter Tryz.func17, Tryz.ntmps17
  go_upto_region 1 with fail
  rw [HW.out, HMB.out]
  clear HW HMB
  go_wp2_with fail
  refine KF.out.mono ?_
  rintro e w2 h2
  have G2 := Lib.hid (only_trans G1.out h2.1)
  clear b0 b1 b2 b3 b4 b5 b6 KF
  cases hF : segF ss id with
  | none =>
    obtain ⟨rfl, -⟩ := find_none hF h2
    have HX := Lib.hid (copyO_no (bs := bs) (tier := tier) hF)
    clear hF h2
    go_wp2_with fail
    go_ret2
    rw [HX.out]
    refine ⟨?_, A, bs.length, c, rfl, fun h => absurd h (by decide)⟩
    exact only_alloc G2.out _
  | some s =>
  obtain ⟨rfl, -⟩ := find_some hF h2
  clear h2
  obtain ⟨rb, hrb⟩ : ∃ b, b = w2.heap.size := ⟨_, rfl⟩
  obtain ⟨W3, hW3⟩ : ∃ W, W = segW w2 s := ⟨_, rfl⟩
  have B3 : Hid (Blk W3 rb 54 s.cells.toArray) := Lib.hid (by rw [hW3, hrb]; exact segW_blk w2 s)
  have G3 : Hid (w.grownBy W3 none) := Lib.hid (only_trans G2.out (by rw [hW3]; exact segW_only w2 s))
  have HW3 : Hid (segW w2 s = W3) := Lib.hid hW3.symm
  have HRB := Lib.hid hrb.symm
  have KG3 := Lib.hid (KG.out s.tier W3 G3.out)
  have HF := Lib.hid hF
  clear hF hW3 hrb KG
  by_cases ht : tier < 0 ∨ 2 < tier
  · have HX := Lib.hid (copyO_tier (bs := bs) HF.out ht)
    by_cases h0 : tier < 0
    · clear ht
      go_wp2_with fail
      go_ret2
      rw [HX.out]
      refine ⟨?_, A, bs.length, c, rfl, fun h => absurd h (by decide)⟩
      exact only_alloc G2.out _
    · have h1 : 2 < tier := by omega
      clear ht
      go_wp2_with fail
      go_ret2
      rw [HX.out]
      refine ⟨?_, A, bs.length, c, rfl, fun h => absurd h (by decide)⟩
      exact only_alloc G2.out _
  have h0 : ¬ tier < 0 := by omega
  have h1 : ¬ 2 < tier := by omega
  have HTT := Lib.hid ht
  clear ht
  go_upto_region 6 with fail
  have HWU := HW3.out
  unfold segW at HWU
  rw [HWU, HRB.out]
  clear HWU HW3 HRB
  have q2 := B3.out.cell 2
  simp [SegD.cells] at q2
  obtain ⟨r, hrr⟩ : ∃ r, r = wholeB bs id s.tier := ⟨_, rfl⟩
  have HRR := Lib.hid hrr.symm
  rw [← hrr] at KG3
  clear hrr
  go_wp2_with fail
  cases r with
  | none =>
    refine KG3.out.mono ?_
    rintro e w4 ⟨hg4, A4, n4, c4, rfl⟩
    have G4 := Lib.hid (only_trans G3.out hg4)
    have HX := Lib.hid (copyO_lost HF.out HTT.out HRR.out)
    clear hg4 KG3 q2
    go_wp2_with fail
    go_ret2
    rw [HX.out]
    refine ⟨?_, A, bs.length, c, rfl, fun h => absurd h (by decide)⟩
    exact G4.out
  | some d =>
    have hdl := HL.out s.tier d HRR.out
    refine KG3.out.mono ?_
    rintro e w4 ⟨hg4, A1, c1, rfl, hc1, hm1, hr1⟩
    have G4 := Lib.hid (only_trans G3.out hg4)
    have HX := Lib.hid (copyO_yes HF.out HTT.out HRR.out)
    have hs3 := G3.out.size
    have hs4 := hg4.size
    have KP := Lib.hid (rput_any (S := S) A bs c ⟨id, tier, d, A1, c1⟩ w4 (HR.out.grown G4.out (by simp)) (fun y hy => (HS.out y hy).grown G4.out (by simp)) ⟨hr1.mono (fun b hb _ => HSS.out b (Nat.le_trans hs3 hb)), hc1, hm1, hdl⟩ (fun b hb => HSS.out b (by omega)) hl hc hcm HZ.out)
    clear hg4 hr1 KG3 q2
    go_wp2_with fail
    refine KP.out.mono ?_
    rintro e w5 ⟨A5, c5, bs', rfl, ⟨x', hk, hbs⟩, z1, z2, z3, z4, z5, hg5⟩
    have Z := Lib.hid (And.intro z4 z5)
    have HK := Lib.hid hk
    have HBS := Lib.hid hbs
    have G5 := Lib.hid (only_trans G4.out hg5)
    clear z4 z5 hk hbs hg5 KP
    go_wp2_with fail
    go_ret2
    rw [HX.out]
    exact ⟨G5.out, A5, bs'.length, c5, rfl, fun _ => ⟨x', bs', HK.out, HBS.out, rfl, z1, z2, z3, Z.out.1, Z.out.2⟩⟩
end Go.Proofs.YtganfhmjklcchaaGreat

namespace Go.Proofs.YtganfhmjklcchaaGreat
open Go.RowKit
set_option linter.unusedVariables false
set_option linter.unusedSimpArgs false

def CloneSgPost (w : World) (n : Nat) (xs : List Value) (e : Ending) (w' : World) : Prop := ∃ A' c', e = .returned (.slice A' n c') ∧ w'.ownsRow w.heap.size 54 7 (.slice A' n c') n xs ∧ w.grownBy w' none
set_option maxHeartbeats 1000000 in
set_option maxRecDepth 100000 in
theorem cloneSg_any {S : Nat → Prop} (A : Option Addr) (n c : Nat) (xs : List Value) (w : World) (hr : Rd S w A xs) (hn : xs.length = n * 7) (hl : n ≤ 1000000) (h1 : ∀ u ∈ xs, u.oneCell' = true) (hA : A = none → n = 0) :
    Calls Tryz.prog 40 #[.slice A n c] w (CloneSgPost w n xs) := by
  have q22 : ∀ (w : World) (a : Option Addr) (n c n' c' : Nat), (binOp .eql 25 (.slice a n c) (.slice none n' c')).run Tryz.prog w = .ok (.bool a.isNone) w := fun w a n c n' c' => Lib.run_eql_slice_nil w _ _ a n c n' c' Tryz.underlying25
  have H1 := Lib.hid h1
  have HR := Lib.hid hr
  clear h1 hr
  cases A with
  | none =>
    obtain rfl := hA rfl
    obtain rfl : xs = [] := List.eq_nil_of_length_eq_zero (by omega)
    clear hA
    go_enter Tryz.func40, Tryz.ntmps40
    go_wp2_with fail
    go_ret
    exact ⟨none, 0, rfl, World.ownsRow_nil _ _ _ _, only_refl _ _⟩
  | some a =>
    clear hA
    go_enter Tryz.func40, Tryz.ntmps40
    go_wp2_with (at_builtin; refine wpList_appendN rfl _ _ 25 rfl w.heap.size Tryz.underlying25 segInfo rfl (by decide) (v := .slice (some ⟨w.heap.size, 0, none⟩) 0 0) (by rfl) (World.ownsRow_made w #[] 0 (Nat.le_refl _) (Nat.zero_le _) (by simp)) (some a) n c (news := xs) (by rfl) (HR.out.alloc _) hn H1.out (by decide) (by omega) (by simp) ?_; intro v3 w3 hown3 hg3 hob3)
    have O3 : Hid (w3.ownsRow w.heap.size 54 7 v3 n xs) := Lib.hid (by simpa using hown3)
    have G3 : Hid (w.grownBy w3 none) := Lib.hid (only_fresh (only_alloc (only_refl _ _) _) (by simpa [Value.ownBlock] using hg3) (Nat.le_refl _))
    clear hown3 hg3 hob3
    obtain ⟨A3, c3, rfl, -, -, -, -⟩ := Rd.of_own O3.out (by decide)
    go_wp2_with fail
    go_ret
    exact ⟨A3, c3, rfl, O3.out, G3.out⟩
end Go.Proofs.YtganfhmjklcchaaGreat
