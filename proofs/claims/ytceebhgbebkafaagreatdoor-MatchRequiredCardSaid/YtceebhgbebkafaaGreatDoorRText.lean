/- Text of the reference of chapter 12. Condition: sizes. -/
import Derived.Test.YtceebhgbebkafaaGreatDoorText
namespace Go.Proofs.YtceebhgbebkafaaGreatDoor
open Go.RowKit
set_option linter.unusedVariables false
set_option linter.unusedSimpArgs false

theorem textOf_nil : textOf [] = ⟨#[]⟩ := rfl
theorem textOf_step {ls : List LineD} {k : Nat} {y : LineD} (h : ls[k]? = some y) : textOf (ls.take (k + 1)) = if k = 0 then y.text else textOf (ls.take k) ++ ⟨#[10]⟩ ++ y.text := by
  cases ls with
  | nil => simp at h
  | cons a r =>
    rcases k with _ | k
    · simp at h
      subst h
      rw [if_pos rfl]
      simp [textOf, Lib.join_one]
    · rw [if_neg (by omega)]
      simp at h
      have e : ∀ m, textOf ((a :: r).take (m + 1)) = ⟨(a.text.data.toList ++ Lib.joinTail [10] ((r.map (·.text.data.toList)).take m)).toArray⟩ := fun m => by
        unfold textOf
        rw [List.take_succ_cons, List.map_cons, Lib.join_cons, List.map_take]
      rw [e (k + 1), e k, Lib.joinTail_take_succ [10] _ k y.text.data.toList (by rw [List.getElem?_map, h]; rfl)]
      apply ByteArray.ext
      simp [ByteArray.data_append]
theorem textOf_size {ls : List LineD} (ht : ∀ l ∈ ls, l.text.size ≤ 100000) : ∀ k, k ≤ ls.length → (textOf (ls.take k)).size ≤ k * 100001 := by
  intro k
  induction k with
  | zero => intro _; simp [textOf_nil, ByteArray.size]
  | succ k ih =>
    intro hk
    have h := ih (by omega)
    have hy : ls[k]? = some (ls[k]'(by omega)) := List.getElem?_eq_getElem _
    have hm := ht _ (List.getElem_mem (by omega : k < ls.length))
    rw [textOf_step hy]
    split
    · omega
    · rw [ByteArray.size_append, ByteArray.size_append]
      have : (⟨#[10]⟩ : ByteArray).size = 1 := rfl
      omega
set_option maxHeartbeats 2000000 in
set_option maxRecDepth 100000 in
theorem rtext_any {S : Nat → Prop} (e : Ev) (w : World) (hs : e.Sub S w) (hl : e.lines.length ≤ 1000) (ht : ∀ l ∈ e.lines, l.text.size ≤ 100000) :
    Calls Tryz.prog 35 #[.agg e.cells.toArray] w (TextP w (textOf e.lines)) := by
  obtain ⟨xb, hxb⟩ : ∃ b, b = w.heap.size := ⟨_, rfl⟩
  obtain ⟨W1, hW1⟩ : ∃ W, W = w.alloc (.cells e.cells.toArray 35) := ⟨_, rfl⟩
  have hB1 : Blk W1 xb 35 e.cells.toArray := by rw [hW1, hxb]; exact Blk.new w _ _
  have g1 : w.grownBy W1 none := by rw [hW1]; exact only_alloc (only_refl _ _) _
  have G1 := Lib.hid g1
  have HR := Lib.hid (hs.1.grown g1 (by simp))
  have HT := Lib.hid ht
  have b4 := hB1.cell 4
  simp [Ev.cells] at b4
  have HW1 := Lib.hid hW1.symm
  have HXE := Lib.hid hxb.symm
  obtain ⟨ls, hls⟩ : ∃ ls, ls = e.lines := ⟨_, rfl⟩
  rw [← hls] at HR HT b4 hl ⊢
  clear hs ht hW1 hxb hB1 g1 hls
  go_enter Tryz.func35, Tryz.ntmps35
  go_upto_region 1 with fail
  rw [HW1.out, HXE.out]
  clear HW1 HXE
  go_wp2_with fail
  go_loop [3, 4] (fun v i => ∃ k : Nat, k ≤ ls.length ∧ i = .int .i64 k ∧ v = .string (textOf (ls.take k))) (fun _ i => ls.length - (intOf i).toNat)
  case atStart => exact ⟨0, Nat.zero_le _, rfl, rfl⟩
  case round =>
    obtain ⟨k, hk, rfl, rfl⟩ := hrel
    obtain ⟨t, ht⟩ : ∃ t, t = textOf (ls.take k) := ⟨_, rfl⟩
    have hts := textOf_size HT.out k hk
    have hts2 : k * 100001 ≤ 100001000 := by omega
    rw [← ht] at hts ⊢
    have htz : t.size ≤ 100001000 := Nat.le_trans hts hts2
    have HTT := Lib.hid ht
    clear ht hts hts2
    by_cases hlt : k < ls.length
    · obtain ⟨y, hy⟩ : ∃ y, ls[k]? = some y := ⟨_, List.getElem?_eq_getElem hlt⟩
      obtain ⟨b, o, ela, hbl, -, -⟩ := HR.out (by rw [flat_len _ 3 LineD.cells_len]; omega)
      have hrr := HR.out
      rw [ela] at hrr
      have d2 : W1.cell? ⟨b, o + k * 3 + 2, none⟩ = some (.string y.text) := hrr.flatAt LineD.cells_len hy 2 (by omega)
      have i1 : (k : Int) < (ls.length : Int) := by omega
      rw [ela] at b4
      have HST := Lib.hid (textOf_step hy)
      have hyz := HT.out y (List.mem_of_getElem? hy)
      clear hy hrr hbl ela
      by_cases h0 : k = 0
      · have HV : Hid (textOf (ls.take (k + 1)) = y.text) := Lib.hid (by rw [HST.out, if_pos h0])
        have HV0 : Hid (t = ⟨#[]⟩) := Lib.hid (by rw [HTT.out, h0]; rfl)
        subst h0
        have et := HV0.out
        subst et
        have he : (⟨#[]⟩ : ByteArray) ++ y.text = y.text := ByteArray.empty_append
        go_wp2_with fail
        go_round
        case rel => exact ⟨1, by omega, by go_num, by rw [HV.out]⟩
        case measure => simp [intOf]; omega
      · have i2 : (0 : Int) < (k : Int) := by omega
        have HV : Hid (textOf (ls.take (k + 1)) = t ++ ⟨#[10]⟩ ++ y.text) := Lib.hid (by rw [HST.out, if_neg h0, HTT.out])
        have hs1 : (⟨#[10]⟩ : ByteArray).size = 1 := rfl
        have hs2 : (t ++ (⟨#[10]⟩ : ByteArray)).size ≤ 100001001 := by rw [ByteArray.size_append, hs1]; omega
        clear h0
        go_wp2_with fail
        go_round
        case rel => exact ⟨k + 1, by omega, by go_num, by rw [HV.out]⟩
        case measure => simp [intOf]; omega
    · have HE : Hid (t = textOf ls) := Lib.hid (by rw [HTT.out, List.take_of_length_le (by omega)])
      go_wp2_with fail
      go_ret
      exact ⟨by rw [← HE.out]; rfl, G1.out⟩
end Go.Proofs.YtceebhgbebkafaaGreatDoor
