/- tiers.Target and the reference's. No condition. -/
import Derived.Test.YtganfhmjklcchaaMani0
import Derived.Test.YtganfhmjklcchaaCmpI
import Derived.Deep.DeepCutAuto
namespace Go.Proofs.Ytganfhmjklcchaa
open Go.RowKit
set_option linter.unusedVariables false
set_option linter.unusedSimpArgs false

/-- the tier in which a segment belongs -/
def tgt (s : SegD) (now : Int) : Int :=
  if now < 0 ∨ 253402300799999 < now then s.tier
  else if s.max < now - 2592000000 then (if s.tier ≤ 2 then 2 else s.tier)
  else if s.max < now - 604800000 then (if s.tier ≤ 1 then 1 else s.tier)
  else if s.tier ≤ 0 then 0 else s.tier
theorem tgt_le (s : SegD) (now : Int) : s.tier ≤ tgt s now := by unfold tgt; (repeat' split) <;> omega
theorem tgt_cold {s : SegD} (h : s.tier ≤ 2) (now : Int) : tgt s now ≤ 2 := by unfold tgt; (repeat' split) <;> omega
theorem tgt_same {s t : SegD} (now : Int) (h : t.tier = tgt s now) (hm : t.max = s.max) : tgt t now = tgt s now := by
  unfold tgt at *
  rw [hm, h]
  (repeat' split) <;> omega
set_option maxHeartbeats 1000000 in
set_option maxRecDepth 100000 in
theorem target_any (s : SegD) (now : Int) (w : World) :
    Calls Try.prog 20 #[.agg s.cells.toArray, .int .i64 now] w (ExtV (.int .i64 (tgt s now)) w) := by
  have hgr : w.grownBy (w.alloc (.cells s.cells.toArray 38)) none := only_alloc (only_refl _ _) _
  have hB : Blk (w.alloc (.cells s.cells.toArray 38)) w.heap.size 38 s.cells.toArray := Blk.new w _ _
  obtain ⟨W1, hW1⟩ : ∃ W, W = w.alloc (.cells s.cells.toArray 38) := ⟨_, rfl⟩
  obtain ⟨g, hg⟩ : ∃ g, g = w.heap.size := ⟨_, rfl⟩
  rw [← hW1, ← hg] at hB
  rw [← hW1] at hgr
  have HG := Lib.hid hgr
  have c2 := hB.cell 2
  have c5 := hB.cell 5
  simp [SegD.cells] at c2 c5
  have HW : Hid (w.alloc (.cells s.cells.toArray 38) = W1) := Lib.hid hW1.symm
  have HGG := Lib.hid hg.symm
  clear hW1 hg hB hgr
  go_enter Try.func20, Try.ntmps20
  go_upto_region 2 with fail
  rw [HW.out, HGG.out]
  by_cases h0 : now < 0
  · have T : Hid (s.tier = tgt s now) := Lib.hid (by unfold tgt; rw [if_pos (.inl h0)])
    go_wp2_with fail
    go_ret
    exact ⟨ret_int T.out, HG.out⟩
  · by_cases h1 : 253402300799999 < now
    · have T : Hid (s.tier = tgt s now) := Lib.hid (by unfold tgt; rw [if_pos (.inr h1)])
      go_wp2_with fail
      go_ret
      exact ⟨ret_int T.out, HG.out⟩
    · have hw1 : IntKind.i64.wrap (now - 2592000000) = now - 2592000000 := IntWalk.i64_in _ (by omega)
      have hw2 : IntKind.i64.wrap (now - 604800000) = now - 604800000 := IntWalk.i64_in _ (by omega)
      by_cases h2 : s.max < now - 2592000000
      · by_cases h3 : s.tier ≤ 2
        · have T : Hid (2 = tgt s now) := Lib.hid (by unfold tgt; rw [if_neg (by omega), if_pos h2, if_pos h3])
          have i4 : max 2 s.tier = 2 := by omega
          go_wp2_with fail
          go_ret
          exact ⟨ret_int T.out, HG.out⟩
        · have T : Hid (s.tier = tgt s now) := Lib.hid (by unfold tgt; rw [if_neg (by omega), if_pos h2, if_neg h3])
          have i4 : max 2 s.tier = s.tier := by omega
          go_wp2_with fail
          go_ret
          exact ⟨ret_int T.out, HG.out⟩
      · by_cases h5 : s.max < now - 604800000
        · by_cases h3 : s.tier ≤ 1
          · have T : Hid (1 = tgt s now) := Lib.hid (by unfold tgt; rw [if_neg (by omega), if_neg h2, if_pos h5, if_pos h3])
            have i4 : max 1 s.tier = 1 := by omega
            go_wp2_with fail
            go_ret
            exact ⟨ret_int T.out, HG.out⟩
          · have T : Hid (s.tier = tgt s now) := Lib.hid (by unfold tgt; rw [if_neg (by omega), if_neg h2, if_pos h5, if_neg h3])
            have i4 : max 1 s.tier = s.tier := by omega
            go_wp2_with fail
            go_ret
            exact ⟨ret_int T.out, HG.out⟩
        · by_cases h3 : s.tier ≤ 0
          · have T : Hid (0 = tgt s now) := Lib.hid (by unfold tgt; rw [if_neg (by omega), if_neg h2, if_neg h5, if_pos h3])
            have i4 : max 0 s.tier = 0 := by omega
            go_wp2_with fail
            go_ret
            exact ⟨ret_int T.out, HG.out⟩
          · have T : Hid (s.tier = tgt s now) := Lib.hid (by unfold tgt; rw [if_neg (by omega), if_neg h2, if_neg h5, if_neg h3])
            have i4 : max 0 s.tier = s.tier := by omega
            go_wp2_with fail
            go_ret
            exact ⟨ret_int T.out, HG.out⟩
set_option maxHeartbeats 1000000 in
set_option maxRecDepth 100000 in
theorem rtarget_any (s : SegD) (now : Int) (w : World) :
    Calls Try.prog 21 #[.agg s.cells.toArray, .int .i64 now] w (ExtV (.int .i64 (tgt s now)) w) := by
  have hgr : w.grownBy (w.alloc (.cells s.cells.toArray 38)) none := only_alloc (only_refl _ _) _
  have hB : Blk (w.alloc (.cells s.cells.toArray 38)) w.heap.size 38 s.cells.toArray := Blk.new w _ _
  obtain ⟨W1, hW1⟩ : ∃ W, W = w.alloc (.cells s.cells.toArray 38) := ⟨_, rfl⟩
  obtain ⟨g, hg⟩ : ∃ g, g = w.heap.size := ⟨_, rfl⟩
  rw [← hW1, ← hg] at hB
  rw [← hW1] at hgr
  have HG := Lib.hid hgr
  have c2 := hB.cell 2
  have c5 := hB.cell 5
  simp [SegD.cells] at c2 c5
  have HW : Hid (w.alloc (.cells s.cells.toArray 38) = W1) := Lib.hid hW1.symm
  have HGG := Lib.hid hg.symm
  clear hW1 hg hB hgr
  go_enter Try.func21, Try.ntmps21
  go_upto_region 1 with fail
  rw [HW.out, HGG.out]
  by_cases h0 : now < 0
  · have T : Hid (s.tier = tgt s now) := Lib.hid (by unfold tgt; rw [if_pos (.inl h0)])
    go_wp2_with fail
    go_ret
    exact ⟨ret_int T.out, HG.out⟩
  · by_cases h1 : 253402300799999 < now
    · have T : Hid (s.tier = tgt s now) := Lib.hid (by unfold tgt; rw [if_pos (.inr h1)])
      go_wp2_with fail
      go_ret
      exact ⟨ret_int T.out, HG.out⟩
    · have hw1 : IntKind.i64.wrap (now - 2592000000) = now - 2592000000 := IntWalk.i64_in _ (by omega)
      have hw2 : IntKind.i64.wrap (now - 604800000) = now - 604800000 := IntWalk.i64_in _ (by omega)
      by_cases h2 : s.max < now - 2592000000
      · have h5 : s.max < now - 604800000 := by omega
        have T : Hid (tgt s now = if s.tier ≤ 2 then 2 else s.tier) := Lib.hid (by unfold tgt; rw [if_neg (by omega), if_pos h2])
        go_wp2_with fail
        all_goals go_ret
        all_goals exact ⟨ret_int (by have := T.out; split at this <;> omega), HG.out⟩
      · by_cases h5 : s.max < now - 604800000
        · have T : Hid (tgt s now = if s.tier ≤ 1 then 1 else s.tier) := Lib.hid (by unfold tgt; rw [if_neg (by omega), if_neg h2, if_pos h5])
          go_wp2_with fail
          all_goals go_ret
          all_goals exact ⟨ret_int (by have := T.out; split at this <;> omega), HG.out⟩
        · have T : Hid (tgt s now = if s.tier ≤ 0 then 0 else s.tier) := Lib.hid (by unfold tgt; rw [if_neg (by omega), if_neg h2, if_neg h5])
          go_wp2_with fail
          all_goals go_ret
          all_goals exact ⟨ret_int (by have := T.out; split at this <;> omega), HG.out⟩
theorem tmod_gt (x : Int) {n : Int} (h : 1 ≤ n) : -n < x.tmod n := by
  have h1 := Int.tmod_lt_of_pos (-x) (show 0 < n by omega)
  rw [Int.neg_tmod] at h1
  omega
set_option maxHeartbeats 400000 in
/-- a number between 0 and n - 1 -/
theorem mod_some (x n : Int) (w : World) (h1 : 1 ≤ n) (h2 : n ≤ 1000000000000000) :
    Calls Try.prog 19 #[.int .i64 x, .int .i64 n] w (fun e w' => (∃ r, e = .returned (.int .i64 r)) ∧ w' = w) := by
  have i1 : ¬ n < 1 := by omega
  have i2 : ¬ n = 0 := by omega
  have b1 : -n < x.tmod n ∧ x.tmod n < n := ⟨tmod_gt x h1, Int.tmod_lt_of_pos x (by omega)⟩
  obtain ⟨y, hy⟩ : ∃ y, y = x.tmod n := ⟨_, rfl⟩
  rw [← hy] at b1
  have w1 : IntKind.i64.wrap y = y := IntWalk.i64_in _ (by omega)
  have w2 : IntKind.i64.wrap (y + n) = y + n := IntWalk.i64_in _ (by omega)
  have b2 : -n < (y + n).tmod n ∧ (y + n).tmod n < n := ⟨tmod_gt _ h1, Int.tmod_lt_of_pos _ (by omega)⟩
  obtain ⟨z, hz⟩ : ∃ z, z = (y + n).tmod n := ⟨_, rfl⟩
  rw [← hz] at b2
  have w3 : IntKind.i64.wrap z = z := IntWalk.i64_in _ (by omega)
  have hy' := hy.symm
  have hz' := hz.symm
  clear hy hz b1 b2
  go_enter Try.func19, Try.ntmps19
  go_wp2_with fail
  go_ret
  exact ⟨⟨_, rfl⟩, rfl⟩
end Go.Proofs.Ytganfhmjklcchaa
