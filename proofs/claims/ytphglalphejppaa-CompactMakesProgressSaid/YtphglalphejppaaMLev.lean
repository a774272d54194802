/- compact.Level. No condition. -/
import Derived.Test.YtphglalphejppaaMIdx
namespace Go.Proofs.Ytphglalphejppaa
open Go.RowKit
set_option linter.unusedVariables false
set_option linter.unusedSimpArgs false

/-- the level of a segment that is made of others -/
def lvl1 (ss : List SegD) (a : Int) (id : Int) : Int := match segF ss id with
  | none => a
  | some s => if a < s.level + 1 then s.level + 1 else a
def lvl (ss : List SegD) (ids : List Int) : Int := ids.foldl (lvl1 ss) 0
theorem lvl_snoc (ss : List SegD) (ids : List Int) (id : Int) : lvl ss (ids ++ [id]) = lvl1 ss (lvl ss ids) id := by unfold lvl; rw [List.foldl_append]; rfl
theorem segF_mem {ss : List SegD} {id : Int} {s : SegD} (h : segF ss id = some s) : s ∈ ss := List.mem_of_find?_eq_some h
theorem lvl_bd {ss : List SegD} (hb : ∀ s ∈ ss, 0 ≤ s.level ∧ s.level ≤ 1000) (ids : List Int) : 0 ≤ lvl ss ids ∧ lvl ss ids ≤ 1001 := by
  have key : ∀ (ids : List Int) (a : Int), 0 ≤ a ∧ a ≤ 1001 → 0 ≤ ids.foldl (lvl1 ss) a ∧ ids.foldl (lvl1 ss) a ≤ 1001 := by
    intro ids
    induction ids with
    | nil => intro a h; exact h
    | cons x ids ih =>
      intro a h
      rw [List.foldl_cons]
      refine ih _ ?_
      unfold lvl1
      split
      · exact h
      · rename_i s hs
        have := hb s (segF_mem hs)
        split <;> omega
  exact key ids 0 ⟨by omega, by omega⟩
def LevPost (v : Int) (w : World) (e : Ending) (w' : World) : Prop := e = .returned (.int .i64 v) ∧ w.grownBy w' none
set_option maxHeartbeats 4000000 in
set_option maxRecDepth 100000 in
theorem level_any {S S' : Nat → Prop} (num nid jn : Int) (A : Option Addr) (ss : List SegD) (c : Nat) (B : Option Addr) (nb d : Nat) (C : Option Addr) (nc f : Nat) (E : Option Addr) (ne h : Nat) (I : Option Addr) (ids : List Int) (ci : Nat) (w : World) (hr : Rd S w A (ss.flatMap SegD.cells)) (hi : Rd S' w I (ids.map (.int .i64))) (hl : ss.length ≤ 100000) (hil : ids.length ≤ 100000) (hb : ∀ s ∈ ss, 0 ≤ s.level ∧ s.level ≤ 1000) :
    Calls Try.prog 24 #[.agg #[.int .i64 num, .int .i64 nid, .int .i64 jn, .slice A ss.length c, .slice B nb d, .slice C nc f, .slice E ne h], .slice I ids.length ci] w (LevPost (lvl ss ids) w) := by
  obtain ⟨W1, hW1⟩ : ∃ W1, W1 = w.alloc (.cells #[.int .i64 num, .int .i64 nid, .int .i64 jn, .slice A ss.length c, .slice B nb d, .slice C nc f, .slice E ne h] 52) := ⟨_, rfl⟩
  have G1 : Hid (w.grownBy W1 none) := Lib.hid (by rw [hW1]; exact only_alloc (only_refl _ _) _)
  obtain ⟨mb, hmb⟩ : ∃ b, b = w.heap.size := ⟨_, rfl⟩
  have B1 : Hid (Blk W1 mb 52 #[.int .i64 num, .int .i64 nid, .int .i64 jn, .slice A ss.length c, .slice B nb d, .slice C nc f, .slice E ne h]) := Lib.hid (by rw [hW1, hmb]; exact Blk.new w _ _)
  have HR := Lib.hid (hr.grown G1.out (by simp))
  have HI := Lib.hid (hi.grown G1.out (by simp))
  have HB := Lib.hid hb
  have HW := Lib.hid hW1.symm
  have HMB := Lib.hid hmb
  clear hW1 hmb hr hi hb
  go_enter Try.func24, Try.ntmps24
  go_upto_region 1 with fail
  rw [HW.out, ← HMB.out]
  clear HW
  go_wp2_with fail
  go_loopw [5, 12] (fun vl vi wr => ∃ k : Nat, vi = .int .i64 k ∧ k ≤ ids.length ∧ vl = .int .i64 (lvl ss (ids.take k)) ∧ W1.grownBy wr none) (fun _ vi _ => ids.length - (intOf vi).toNat)
  case atStart => exact ⟨0, rfl, Nat.zero_le _, rfl, only_refl _ _⟩
  case round =>
    obtain ⟨k, rfl, hk, rfl, hG⟩ := hrel
    have G := Lib.hid hG
    have hbd := lvl_bd HB.out (ids.take k)
    obtain ⟨L, hL⟩ : ∃ L, L = lvl ss (ids.take k) := ⟨_, rfl⟩
    rw [← hL] at hbd ⊢
    have HLV := Lib.hid hL
    clear hG hL
    by_cases hkl : k < ids.length
    · obtain ⟨b, o, x, rfl, hc, hx⟩ := (HI.out.grown G.out (by simp)).int_at hkl
      have HX : Hid (ids.take (k + 1) = ids.take k ++ [x]) := Lib.hid (by rw [take_snoc ids 0 hkl, hx.out])
      have hB := B1.out.grown G.out (by simp)
      have b0 := hB.cell 0
      have b1 := hB.cell 1
      have b2 := hB.cell 2
      have b3 := hB.cell 3
      have b4 := hB.cell 4
      have b5 := hB.cell 5
      have b6 := hB.cell 6
      simp at b0 b1 b2 b3 b4 b5 b6
      have KF : Hid (Calls Try.prog 46 #[.agg #[.int .i64 num, .int .i64 nid, .int .i64 jn, .slice A ss.length c, .slice B nb d, .slice C nc f, .slice E ne h], .int .i64 x] wr (FindPost wr ss x)) := Lib.hid (mfind_any num nid jn A ss c B nb d C nc f E ne h x wr (HR.out.grown G.out (by simp)) hl)
      have i1 : (k : Int) < (ids.length : Int) := by omega
      have i2 : (0 : Int) ≤ (k : Int) := by omega
      clear hB hx
      go_wp2_with fail
      refine KF.out.mono ?_
      clear b0 b1 b2 b3 b4 b5 b6 hc KF
      rintro e w2 ⟨hg2, ⟨hF, rfl⟩ | ⟨s, hF, rfl⟩⟩
      · have HF : Hid (lvl ss (ids.take (k + 1)) = L) := Lib.hid (by rw [HX.out, lvl_snoc, ← HLV.out]; unfold lvl1; rw [hF])
        have G2 : Hid (W1.grownBy w2 none) := Lib.hid (only_trans G.out hg2)
        clear hF hg2
        go_wp2_with fail
        go_roundw
        case rel => exact ⟨k + 1, by go_num, by omega, by rw [HF.out], only_alloc G2.out _⟩
        case measure => simp [intOf]; omega
      · have hsl := HB.out s (segF_mem hF)
        have G2 : Hid (W1.grownBy w2 none) := Lib.hid (only_trans G.out hg2)
        simp only [SegD.cells]
        by_cases hlt : L < s.level + 1
        · have HF : Hid (lvl ss (ids.take (k + 1)) = s.level + 1) := Lib.hid (by rw [HX.out, lvl_snoc, ← HLV.out]; unfold lvl1; rw [hF]; simp only []; rw [if_pos hlt])
          have i3 : ¬ (s.level + 1 ≤ L) := by omega
          have i4 : max L (s.level + 1) = s.level + 1 := by omega
          clear hF hg2
          go_wp2_with fail
          go_roundw
          case rel => exact ⟨k + 1, by go_num, by omega, by rw [HF.out], only_alloc G2.out _⟩
          case measure => simp [intOf]; omega
        · have HF : Hid (lvl ss (ids.take (k + 1)) = L) := Lib.hid (by rw [HX.out, lvl_snoc, ← HLV.out]; unfold lvl1; rw [hF]; simp only []; rw [if_neg hlt])
          have i3 : s.level + 1 ≤ L := by omega
          have i4 : max L (s.level + 1) = L := by omega
          clear hF hg2
          go_wp2_with fail
          go_roundw
          case rel => exact ⟨k + 1, by go_num, by omega, by rw [HF.out], only_alloc G2.out _⟩
          case measure => simp [intOf]; omega
    · have i1 : ¬ ((k : Int) < (ids.length : Int)) := by omega
      have HL2 : Hid (lvl ss ids = L) := Lib.hid (by rw [HLV.out, List.take_of_length_le (by omega)])
      go_wp2_with fail
      go_ret
      exact ⟨ret_int HL2.out.symm, only_trans G1.out G.out⟩
end Go.Proofs.Ytphglalphejppaa
