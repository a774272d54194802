/- slices.Delete of one element at api.Blob. Condition: sizes. -/
import Derived.Test.YtganfhmjklcchaaPut0
import Derived.Test.YtganfhmjklcchaaRowK
import Derived.Test.YtganfhmjklcchaaCutG
import Derived.StillTailTactics
import Derived.Deep.DeepCutAuto
namespace Go.Proofs.Ytganfhmjklcchaa
open Go.RowKit
set_option linter.unusedVariables false
set_option linter.unusedSimpArgs false

/-- clear of one element of several cells -/
theorem run_clear1 {P : Program} (w : World) (t e ty : TypeId) (z : Value) (ht : P.underlying t = some (.slice e)) (hv : ∀ w, (zeroValue e).run P w = .ok z w) (g o c : Nat) (cur : Array Value) (t' : TypeId) (hg : w.heap[g]? = some (.cells cur t' (0, 0))) (hfit : o + z.cells.toList.length ≤ cur.size) (h1 : ∀ u ∈ z.cells.toList, u.oneCell' = true) :
    (Builtin.clear_ #[t] ty #[.slice (some ⟨g, o, none⟩) 1 c]).run P w = .ok (.tuple #[]) (w.setRow g (cur.toList.take o ++ z.cells.toList ++ cur.toList.drop (o + z.cells.toList.length)).toArray) := by
  have hzc : (Builtin.zeroCells z.cells 1).toList = z.cells.toList := by
    apply List.ext_getElem
    · simp [Builtin.zeroCells]
    · intro i h1 h2
      simp [Builtin.zeroCells] at h1
      simp [Builtin.zeroCells, Nat.mod_eq_of_lt h1]
      exact getElem!_pos z.cells i h1
  have hst := run_storeCells_at P g o t' z.cells.toList 0 cur w hg (by simpa using hfit) h1
  simp only [Nat.add_zero] at hst
  simp [Builtin.clear_, run_underlying ht, hv, hzc, hst]
def DelPost (w : World) (base g c : Nat) (ys : List BlobD) (e : Ending) (w' : World) : Prop :=
  e = .returned (.slice (some ⟨g, 0, none⟩) ys.length c) ∧ w'.ownsRow base 30 3 (.slice (some ⟨g, 0, none⟩) ys.length c) ys.length (ys.flatMap BlobD.cells) ∧ w.grownBy w' (some g)
theorem zeroBlob : ∀ w, (zeroValue 30).run Try.prog w = .ok (.agg #[.int .i64 0, .int .i64 0, .slice none 0 0]) w := fun w => by rfl
set_option maxHeartbeats 4000000 in
set_option maxRecDepth 100000 in
theorem deleteBlob_any (g c i base k : Nat) (xs : List BlobD) (w : World) (hk : xs.length = k + 1) (hown : w.ownsRow base 30 3 (.slice (some ⟨g, 0, none⟩) (k + 1) c) (k + 1) (xs.flatMap BlobD.cells)) (hi : i ≤ k) :
    Calls Try.prog 27 #[.slice (some ⟨g, 0, none⟩) (k + 1) c, .int .i64 i, .int .i64 ((i : Int) + 1)] w (DelPost w base g c (xs.take i ++ xs.drop (i + 1))) := by
  have hlen : (xs.take i ++ xs.drop (i + 1)).length = k := by simp; omega
  have HLEN := Lib.hid hlen
  rcases hown.2 with ⟨e, h0⟩ | ⟨g', cap, cur, e, hb, hh, hnc, hcm, hcs, ht⟩
  · cases e
  · injection e with e1 e2 e3
    injection e1 with e1
    injection e1 with e1
    subst e1 e3
    obtain ⟨i0, hi0, hz0, hz1, hz2⟩ := info_parts blobInfo
    have hcl : cur.toList.length = c * 3 := by simpa using hcs
    have lA : ((xs.take i).flatMap BlobD.cells).length = i * 3 := by rw [flat_len _ 3 BlobD.cells_len, List.length_take]; omega
    have lB : ((xs.drop (i + 1)).flatMap BlobD.cells).length = (k - i) * 3 := by rw [flat_len _ 3 BlobD.cells_len, List.length_drop]; congr 1; omega
    obtain ⟨news, hnews⟩ : ∃ news, news = (xs.drop (i + 1)).flatMap BlobD.cells := ⟨_, rfl⟩
    rw [← hnews] at lB
    have h1N : ∀ u ∈ news, u.oneCell' = true := by rw [hnews]; exact flat_one BlobD.one _
    have hct : cur.toList.take (i * 3) = (xs.take i).flatMap BlobD.cells := by
      have h1 : (cur.toList.take ((k + 1) * 3)).take (i * 3) = (xs.take i).flatMap BlobD.cells := by rw [ht, flat_take BlobD.cells_len]
      rw [List.take_take, Nat.min_eq_left (by omega)] at h1
      exact h1
    obtain ⟨cur1, hc1⟩ : ∃ cur1, cur1 = cur.toList.take (i * 3) ++ news ++ cur.toList.drop (i * 3 + news.length) := ⟨_, rfl⟩
    have l1 : cur1.length = c * 3 := by
      rw [hc1]; simp only [List.length_append, List.length_take, List.length_drop, lB, hcl]; omega
    obtain ⟨zs, hzs⟩ : ∃ zs : List Value, zs = [.int .i64 0, .int .i64 0, .slice none 0 0] := ⟨_, rfl⟩
    obtain ⟨cur2, hc2⟩ : ∃ cur2, cur2 = cur1.take (k * 3) ++ zs ++ cur1.drop (k * 3 + zs.length) := ⟨_, rfl⟩
    have l2 : cur2.length = c * 3 := by
      have : zs.length = 3 := by rw [hzs]; rfl
      rw [hc2]; simp only [List.length_append, List.length_take, List.length_drop, l1, this]; omega
    have t2 : cur2.take (k * 3) = (xs.take i ++ xs.drop (i + 1)).flatMap BlobD.cells := by
      rw [hc2, List.append_assoc, List.take_left' (by rw [List.length_take]; omega), hc1, List.take_left' (by simp only [List.length_append, List.length_take, lB, hcl]; omega), hct, List.flatMap_append, hnews]
    obtain ⟨W1, hW1⟩ : ∃ W1, W1 = w.drew.setRow g cur1.toArray := ⟨_, rfl⟩
    obtain ⟨W2, hW2⟩ : ∃ W2, W2 = W1.setRow g cur2.toArray := ⟨_, rfl⟩
    have hh1 : W1.heap[g]? = some (.cells cur1.toArray 30 (0, 0)) := by rw [hW1]; exact setRow_heap w.drew g cur _ 30 (0, 0) hh
    have hap : ∀ ty c2, (Builtin.append_ #[26, 26] ty #[.slice (some ⟨g, 0, none⟩) i c, .slice (some ⟨g, cutG 0 3 c (i + 1), none⟩) (k - i) c2]).run Try.prog w.drew = .ok (.slice (some ⟨g, 0, none⟩) k c) W1 := fun ty c2 => by
      have := run_append_room (P := Try.prog) w.drew 26 ty 30 i0 Try.underlying26 hi0 g i c cur hh ⟨g, cutG 0 3 c (i + 1), none⟩ (k - i) c2 news (by rw [hz1]; exact lB) (fun j u hj => by
        have hj1 := (List.getElem?_eq_some_iff.1 hj).1
        have hne : ¬ (c = i + 1) := fun h => by
          have hik : k - i = 0 := by omega
          rw [lB, hik] at hj1; omega
        have e1 : cutG 0 3 c (i + 1) = (i + 1) * 3 := by unfold cutG; rw [if_neg hne]; omega
        rw [Addr.add_lit, e1]
        show w.cell? ⟨g, (i + 1) * 3 + j, none⟩ = some u
        rw [cell_of_row w g _ cur 30 (0, 0) hh, ← Array.getElem?_toList]
        rw [hnews, flat_drop BlobD.cells_len, ← ht, List.getElem?_drop, List.getElem?_take] at hj
        split at hj
        · exact hj
        · cases hj) h1N (by omega) (by rw [hz1, lB, hcs]; omega)
      rw [hz1, show i + (k - i) = k by omega] at this
      rw [hW1, hc1]; exact this
    have hap2 : ∀ ty c2, (Builtin.append_ #[26, 26] ty #[.slice (some ⟨g, 0, none⟩) i c, .slice (if c = i + 1 then some ⟨g, 0, none⟩ else some ⟨g, (i + 1) * 3, none⟩) (k - i) c2]).run Try.prog w.drew = .ok (.slice (some ⟨g, 0, none⟩) k c) W1 := fun ty c2 => by
      have := hap ty c2
      unfold cutG at this
      split
      · rw [if_pos (by assumption)] at this; exact this
      · rw [if_neg (by assumption), Nat.zero_add] at this; exact this
    have hclr : ∀ ty c2, (Builtin.clear_ #[26] ty #[.slice (some ⟨g, k * 3, none⟩) 1 c2]).run Try.prog W1 = .ok (.tuple #[]) W2 := fun ty c2 => by
      rw [hW2, hc2, hzs]
      exact run_clear1 W1 26 30 ty _ Try.underlying26 zeroBlob g (k * 3) c2 cur1.toArray 30 hh1 (by simp only [List.size_toArray, l1]; simp [Value.cells]; omega) (by simp [Value.cells, Value.oneCell'])
    have HF : Hid (DelPost w base g c (xs.take i ++ xs.drop (i + 1)) (.returned (.slice (some ⟨g, 0, none⟩) k c)) W2) := Lib.hid (by
      refine ⟨by rw [HLEN.out], ?_, ?_⟩
      · rw [HLEN.out, hW2]
        exact own_setRow hh1 hb (by omega) hcm (by simp only [List.size_toArray, l2]) (by rw [flat_len _ 3 BlobD.cells_len, HLEN.out]) (by simpa using t2)
      · rw [hW2, hW1]; exact only_trans (only_trans (only_drew (only_refl w _)) (grown_setRow _ _ _)) (grown_setRow _ _ _))
    have hmx := hcm
    unfold maxLen at hmx
    clear hlen hown hh hcm hcs ht hcl lA lB hnews h1N hct hc1 l1 hzs hc2 l2 t2 hW1 hW2 hh1 hi0 hz0 hz1 hz2 hk
    have j1 : ¬ ((i : Int) = (i : Int) + 1) := by omega
    have j2 : (0 : Int) ≤ (i : Int) := by omega
    have j3 : (i : Int) ≤ (i : Int) + 1 := by omega
    have j4 : (i : Int) + 1 ≤ (k : Int) + 1 := by omega
    have j5 : (k : Int) + 1 ≤ (c : Int) := by omega
    have j6 : (i : Int) ≤ (c : Int) := by omega
    have j7 : (i : Int) ≤ (k : Int) + 1 := by omega
    have j8 : (0 : Int) ≤ (i : Int) + 1 := by omega
    have j9 : (k : Int) ≤ (k : Int) + 1 := by omega
    have j10 : ¬ (c = k) := by omega
    have j11 : ¬ (c = i) := by omega
    by_cases hci : c = i + 1
    · clear hap2
      obtain rfl : i = k := by omega
      subst hci
      clear j4 j5 j6 j7 j10 j11
      have j5 : (i : Int) + 1 ≤ ((i + 1 : Nat) : Int) := by omega
      have hapP : ∀ ty c2, (Builtin.append_ #[26, 26] ty #[.slice (some ⟨g, 0, none⟩) i (i + 1), .slice (some ⟨g, 0, none⟩) 0 c2]).run Try.prog w.drew = .ok (.slice (some ⟨g, 0, none⟩) i (i + 1)) W1 := fun ty c2 => by
        have := hap ty c2
        rw [Nat.sub_self, show cutG 0 3 (i + 1) (i + 1) = 0 by unfold cutG; simp] at this
        exact this
      clear hap
      go_enter Try.func27, Try.ntmps27
      go_wp2_with fail
      go_still_tail 6, (by kernel_rfl)
      change wpList _ _ _ _ _ w.drew
      refine Lib.wpList_append_run _ rfl _ _ _ _ rfl _ _ rfl rfl _ _ (hapP _ _) ?_
      clear hapP
      go_wp2_with fail
      go_ret
      exact HF.out
    · have hapN := hap2
      simp only [if_neg hci] at hapN
      clear hap2 hap
      go_enter Try.func27, Try.ntmps27
      go_wp2_with fail
      go_still_tail 6, (by kernel_rfl)
      change wpList _ _ _ _ _ w.drew
      refine Lib.wpList_append_run _ rfl _ _ _ _ rfl _ _ rfl rfl _ _ (hapN _ _) ?_
      clear hapN
      go_wp2_with fail
      go_ret
      exact HF.out
end Go.Proofs.Ytganfhmjklcchaa
