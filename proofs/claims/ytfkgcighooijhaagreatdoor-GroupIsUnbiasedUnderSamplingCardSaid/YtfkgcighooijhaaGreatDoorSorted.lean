/- Sorting and compacting lists of strings, as plain data. No condition. -/
import Derived.Test.YtfkgcighooijhaaGreatDoorUnion
import Derived.Lib.SlicesCompact
import Derived.Lib.RowBridge
import Derived.Sort.Walk0
namespace Go.Proofs.YtfkgcighooijhaaGreatDoor
open Go.RowKit
set_option linter.unusedVariables false
set_option linter.unusedSimpArgs false

theorem le_bl (x y : List UInt8) : (decide (x ≤ y) = true) ↔ Op.bytesLess y x = false := by
  rw [Go.Proofs.bytesLess_eq]; simp
def Up (d : Array (List UInt8)) : Prop := ∀ i j, i < j → j < d.size → Op.bytesLess d[j]! d[i]! = false
theorem bl_le_lt {x y z : List UInt8} (h1 : Op.bytesLess y x = false) (h2 : Op.bytesLess y z = true) : Op.bytesLess x z = true := by
  cases h : Op.bytesLess x y with
  | true => exact bl_trans _ _ _ h h2
  | false => rw [bl_tri _ _ h h1]; exact h2
theorem cu_succ (d : Array (List UInt8)) (m : Nat) : Lib.compactUpTo d (m + 1) = Lib.compactUpTo d m ++ (if Lib.keeps d m = true then [d[m]!] else []) := by
  unfold Lib.compactUpTo
  rw [List.range_succ, List.filter_append, List.map_append]
  congr 1
  by_cases h : Lib.keeps d m = true
  · simp [h]
  · simp [h]
theorem cu_all (d : Array (List UInt8)) (hu : Up d) : ∀ m, m ≤ d.size →
    (Lib.compactUpTo d m).Pairwise (fun a b => Op.bytesLess a b = true) ∧ (∀ x ∈ Lib.compactUpTo d m, ∃ j, j < m ∧ x = d[j]!) ∧ (∀ j, j < m → d[j]! ∈ Lib.compactUpTo d m)
  | 0, _ => ⟨by simp [Lib.compactUpTo], by simp [Lib.compactUpTo], fun j h => absurd h (by omega)⟩
  | m + 1, h => by
    obtain ⟨h1, h2, h3⟩ := cu_all d hu m (by omega)
    rw [cu_succ]
    by_cases hk : Lib.keeps d m = true
    · rw [if_pos hk]
      refine ⟨?_, ?_, ?_⟩
      · rw [List.pairwise_append]
        refine ⟨h1, List.pairwise_singleton _ _, fun a ha b hb => ?_⟩
        rw [List.mem_singleton.1 hb]
        obtain ⟨j, hj, rfl⟩ := h2 a ha
        have hm : 0 < m := by omega
        have hne : d[m]! ≠ d[m - 1]! := by
          unfold Lib.keeps at hk
          rcases of_decide_eq_true hk with e | e
          · omega
          · exact e
        have hlt : Op.bytesLess d[m - 1]! d[m]! = true := by
          cases hb : Op.bytesLess d[m - 1]! d[m]! with
          | true => rfl
          | false => exact absurd (bl_tri _ _ (hu (m - 1) m (by omega) (by omega)) hb) hne
        by_cases hjm : j = m - 1
        · rw [hjm]; exact hlt
        · exact bl_le_lt (hu j (m - 1) (by omega) (by omega)) hlt
      · intro x hx
        rcases List.mem_append.1 hx with hx | hx
        · obtain ⟨j, hj, e⟩ := h2 x hx; exact ⟨j, by omega, e⟩
        · exact ⟨m, by omega, List.mem_singleton.1 hx⟩
      · intro j hj
        rcases Nat.lt_or_ge j m with hlt | hge
        · exact List.mem_append_left _ (h3 j hlt)
        · rw [show j = m from by omega]; exact List.mem_append_right _ (List.mem_singleton.2 rfl)
    · rw [if_neg hk, List.append_nil]
      refine ⟨h1, fun x hx => ?_, fun j hj => ?_⟩
      · obtain ⟨j, hj, e⟩ := h2 x hx; exact ⟨j, by omega, e⟩
      · rcases Nat.lt_or_ge j m with hlt | hge
        · exact h3 j hlt
        · rw [show j = m from by omega]
          have hk' : ¬ (m = 0 ∨ d[m]! ≠ d[m - 1]!) := fun e => hk (by unfold Lib.keeps; exact decide_eq_true e)
          have e : d[m]! = d[m - 1]! := by
            by_cases e : d[m]! = d[m - 1]!
            · exact e
            · exact absurd (.inr e) hk'
          have hm : m ≠ 0 := fun e => hk' (.inl e)
          rw [e]; exact h3 (m - 1) (by omega)
def sorted (ss : List (List UInt8)) : List (List UInt8) := ss.mergeSort fun x y => decide (x ≤ y)
theorem sorted_up (ss : List (List UInt8)) : Up (sorted ss).toArray := fun i j hij hj => by
  have hp : (sorted ss).Pairwise (fun x y => decide (x ≤ y) = true) := List.pairwise_mergeSort (le := fun x y => decide (x ≤ y)) (fun a b c h1 h2 => by
    rw [le_bl] at *
    cases h : Op.bytesLess c a with
    | false => rfl
    | true =>
      have := bl_le_lt h2 h
      rw [h1] at this; cases this) (fun a b => by
    rw [Bool.or_eq_true, le_bl, le_bl]
    cases h : Op.bytesLess b a with
    | false => exact .inl rfl
    | true => exact .inr (bl_asymm _ _ h)) ss
  have hj' : j < (sorted ss).length := by simpa using hj
  have := List.pairwise_iff_getElem.1 hp i j (by omega) hj' hij
  rw [le_bl] at this
  rw [show (sorted ss).toArray[j]! = (sorted ss)[j] from by simp [hj'], show (sorted ss).toArray[i]! = (sorted ss)[i]'(by omega) from by simp [show i < (sorted ss).length by omega]]
  exact this
theorem sorted_mem (ss : List (List UInt8)) (x : List UInt8) : x ∈ sorted ss ↔ x ∈ ss := List.mem_mergeSort
theorem sorted_len (ss : List (List UInt8)) : (sorted ss).length = ss.length := List.length_mergeSort ss
def toB (l : List UInt8) : ByteArray := ⟨l.toArray⟩
def ofB (s : ByteArray) : List UInt8 := s.data.toList
theorem toB_ofB (s : ByteArray) : toB (ofB s) = s := by cases s; simp [toB, ofB]
theorem ofB_toB (l : List UInt8) : ofB (toB l) = l := by simp [toB, ofB]
/-- the distinct words in order -/
def dist (ws : List ByteArray) : List ByteArray := (Lib.compact (sorted (ws.map ofB))).map toB
theorem dist_srt (ws : List ByteArray) : Srt (dist ws) := by
  have h := (cu_all _ (sorted_up (ws.map ofB)) (sorted (ws.map ofB)).length (by simp)).1
  unfold Srt dist Lib.compact
  rw [List.pairwise_map]
  apply List.pairwise_iff_getElem.2
  intro i j hi hj hij
  have := List.pairwise_iff_getElem.1 h i j hi hj hij
  unfold sl
  rw [ByteArray.toList_eq, ByteArray.toList_eq]
  simpa [toB] using this
theorem dist_mem (ws : List ByteArray) (s : ByteArray) : s ∈ dist ws ↔ s ∈ ws := by
  have h := cu_all _ (sorted_up (ws.map ofB)) (sorted (ws.map ofB)).length (by simp)
  unfold dist Lib.compact
  constructor
  · intro hs
    obtain ⟨l, hl, rfl⟩ := List.mem_map.1 hs
    obtain ⟨j, hj, e⟩ := h.2.1 l hl
    have hm : l ∈ sorted (ws.map ofB) := by
      rw [e, show (sorted (ws.map ofB)).toArray[j]! = (sorted (ws.map ofB))[j] from by simp [hj]]
      exact List.getElem_mem hj
    rw [sorted_mem] at hm
    obtain ⟨t, ht, rfl⟩ := List.mem_map.1 hm
    rw [toB_ofB]; exact ht
  · intro hs
    have hm : ofB s ∈ sorted (ws.map ofB) := by rw [sorted_mem]; exact List.mem_map.2 ⟨s, hs, rfl⟩
    obtain ⟨j, hj, e⟩ := List.mem_iff_getElem.1 hm
    have := h.2.2 j hj
    rw [show (sorted (ws.map ofB)).toArray[j]! = (sorted (ws.map ofB))[j] from by simp [hj], e] at this
    exact List.mem_map.2 ⟨_, this, toB_ofB s⟩
theorem dist_len (ws : List ByteArray) : (dist ws).length ≤ ws.length := by
  have h := Lib.compact_length_le (sorted (ws.map ofB))
  rw [sorted_len, List.length_map] at h
  unfold dist
  rw [List.length_map]; exact h
end Go.Proofs.YtfkgcighooijhaaGreatDoor
