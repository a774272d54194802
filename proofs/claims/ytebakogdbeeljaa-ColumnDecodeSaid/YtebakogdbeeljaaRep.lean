/- slices.Repeat of one number. Condition: sizes. -/
import Derived.Test.YtebakogdbeeljaaRdD
import Derived.Test.YtebakogdbeeljaaColP
import Derived.Test.YtebakogdbeeljaaShelf24m
import Derived.Laws.CopyOwn
import Derived.Deep.RegionLaw
namespace Go.Proofs.Ytebakogdbeeljaa
open Go.RowKit
set_option linter.unusedVariables false
set_option linter.unusedSimpArgs false

def rp (x : Int) (k m : Nat) : List Value := (List.replicate m x ++ List.replicate (k - m) 0).map (Value.int .i64)
theorem rp_len {x : Int} {k m : Nat} (h : m ≤ k) : (rp x k m).length = k := by simp [rp]; omega
theorem rp_splice {x : Int} {k m c : Nat} (h : m + c ≤ k) : splice (rp x k m) m ((List.replicate c x).map (.int .i64)) = rp x k (m + c) := by
  have e1 : (List.replicate m x ++ List.replicate (k - m) 0).take m = List.replicate m x := List.take_left' (by simp)
  have e2 : (List.replicate m x ++ List.replicate (k - m) 0).drop (m + c) = List.replicate (k - (m + c)) 0 := by
    rw [← List.drop_drop, List.drop_left' (by simp), List.drop_replicate]; congr 1; omega
  unfold splice rp
  rw [List.length_map, List.length_replicate, ← List.map_take, ← List.map_drop, e1, e2, ← List.map_append, ← List.map_append, ← List.append_assoc, List.replicate_append_replicate]
theorem intSz : (Try.prog.info? 3).map (·.size) = some 1 := by kernel_rfl
def RpPost (w : World) (x : Int) (k : Nat) (e : Ending) (w' : World) : Prop :=
  ∃ g, e = .returned (.slice (some ⟨g, 0, none⟩) k k) ∧ w.heap.size ≤ g ∧ Blk w' g 3 ((List.replicate k x).map (Value.int .i64)).toArray ∧ w.grownBy w' none
theorem only_below' {w w' : World} (h : Below w.heap.size w w') : w.grownBy w' none := ⟨h.os, h.tape, h.output, h.size, fun k hk _ => h.block k hk⟩

set_option maxHeartbeats 1000000 in
set_option maxRecDepth 100000 in
theorem repeat_any (b off c : Nat) (x : Int) (k : Nat) (w : World) (hc : w.cell? ⟨b, off, none⟩ = some (.int .i64 x)) (hb : b < w.heap.size) (hk : k ≤ 16384) :
    Calls Try.prog 57 #[.slice (some ⟨b, off, none⟩) 1 c, .int .i64 k] w (RpPost w x k) := by
  have hmk := make_any (P := Try.prog) Try.underlying22 intInfo' rfl (by decide) k (by omega)
  have hml := Try.bits_Mul 1 k (by omega) (by omega) w
  rw [Nat.one_mul, Nat.div_eq_of_lt (by omega), Nat.mod_eq_of_lt (by omega)] at hml
  have HML := Lib.hid hml
  have HC := Lib.hid hc
  clear hml hc
  go_enter Try.func57, Try.ntmps57
  go_wp2_with fail
  refine HML.out.mono ?_
  rintro e w1 ⟨rfl, rfl⟩
  obtain ⟨m1, hm1⟩ : ∃ m1, m1 = Nat.min 1 k := ⟨_, rfl⟩
  have hm1k : m1 ≤ k := by rw [hm1]; exact Nat.min_le_right _ _
  have hm11 : m1 ≤ 1 := by rw [hm1]; exact Nat.min_le_left _ _
  have HM1 := Lib.hid hm1
  clear hm1
  go_wp2_with (refine wpList_copy_splice rfl (.tmp 31) (.tmp 32) 22 22 rfl 3 Try.underlying22 intSz (some ⟨w1.heap.size, 0, none⟩) (some ⟨b, off, none⟩) k k 1 c (by rfl) (by rfl) w1.heap.size 0 (rp x k 0) 3 (by rw [show (rp x k 0).toArray = Array.replicate k (Value.int .i64 0) from by simp [rp]]; exact heap_alloc_new w1 _) ((List.replicate m1 x).map (.int .i64)) (by rw [List.length_map, List.length_replicate]; exact HM1.out) (fun h => ⟨rfl, _, rfl, fun j v hj => by
    have hj' := (List.getElem?_eq_some_iff.1 hj).1
    rw [List.length_map, List.length_replicate] at hj'
    obtain rfl : j = 0 := by omega
    rw [List.getElem?_map, List.getElem?_replicate, if_pos (by omega)] at hj
    have hv : Value.int .i64 x = v := by simpa using hj
    rw [← hv]
    have : (⟨b, off, none⟩ : Addr).add 0 = ⟨b, off, none⟩ := by simp [Addr.add]
    rw [this]
    exact (World.cell?_of_block (w := w1) (a := ⟨b, off, none⟩) (Below.heap_alloc w1 _ b hb)).trans HC.out⟩) (by rw [rp_len (by omega)]; simp; omega) (by simp [Value.oneCell']) w1.heap.size w1 ((Below.refl _ _).alloc (Nat.le_refl _) _) (Nat.le_refl _) ?_; intro w2 hg2 hb2)
  have B2 : Hid (Blk w2 w1.heap.size 3 (rp x k m1).toArray) := by
    have h := hg2.out
    rw [rp_splice (by omega), Nat.zero_add] at h
    exact h
  have W2 := Lib.hid hb2
  have HK0 : Hid (0 < m1 ∨ k = 0) := by
    have := HM1.out
    rcases Nat.eq_zero_or_pos k with h | h
    · exact .inr h
    · exact .inl (by rw [this]; exact Nat.lt_min.2 ⟨by omega, h⟩)
  clear hg2 hb2 hmk HML
  obtain ⟨g, hg⟩ : ∃ g, g = w1.heap.size := ⟨_, rfl⟩
  have hgl : w1.heap.size ≤ g := by omega
  rw [← hg]
  rw [← hg] at B2
  clear hg
  go_loopw [8] (fun n wr => ∃ m : Nat, m ≤ k ∧ n = .int .i64 m ∧ (0 < m ∨ k = 0) ∧ Blk wr g 3 (rp x k m).toArray ∧ Below w1.heap.size w1 wr) (fun n _ => k - (intOf n).toNat)
  case atStart => exact ⟨m1, hm1k, by simp [goInt], HK0.out, B2.out, W2.out⟩
  case round =>
    obtain ⟨m, hm, rfl, hm0, hB, hW⟩ := hrel
    have HB := Lib.hid hB
    have HW := Lib.hid hW
    clear hB hW
    by_cases hlt : m < k
    · have d1 : decide ((m : Int) < (k : Int)) = true := decide_eq_true (by omega)
      obtain ⟨q, hq⟩ : ∃ q, q = Nat.min m (k - m) := ⟨_, rfl⟩
      have hq1 : q ≤ m := by rw [hq]; exact Nat.min_le_left _ _
      have hq2 : q ≤ k - m := by rw [hq]; exact Nat.min_le_right _ _
      have hq3 : 0 < q := by rw [hq]; exact Nat.lt_min.2 ⟨by omega, by omega⟩
      have HQ := Lib.hid hq
      have i1 : (m : Int) ≤ (k : Int) := by omega
      have ine : ¬ k = m := by omega
      have HWD : Hid (Below w1.heap.size w1 wr.drew) := ⟨HW.out.os, HW.out.tape, HW.out.output, HW.out.size, HW.out.block⟩
      clear hq
      go_wp2_with fail
      go_region_law (refine step_copy_splice rfl (.tmp 41) (.tmp 44) 22 22 rfl 3 Try.underlying22 intSz (some ⟨g, m, none⟩) (some ⟨g, 0, none⟩) (k - m) (k - m) m k (by go_simp) (by go_simp) g m (rp x k m) 3 (by exact HB.out) ((List.replicate q x).map (.int .i64)) (by rw [List.length_map, List.length_replicate]; exact HQ.out) (fun h => ⟨rfl, _, rfl, fun j v hj => by
        have hj' := (List.getElem?_eq_some_iff.1 hj).1
        rw [List.length_map, List.length_replicate] at hj'
        rw [List.getElem?_map, List.getElem?_replicate, if_pos hj'] at hj
        have hv : Value.int .i64 x = v := by simpa using hj
        rw [← hv]
        have : (⟨g, 0, none⟩ : Addr).add j = ⟨g, j, none⟩ := by unfold Addr.add; split <;> simp_all
        rw [this]
        refine (HB.out.cell j).trans ?_
        simp [rp, List.getElem?_append, List.getElem?_replicate, show j < m by omega]⟩) (by rw [rp_len hm]; simp; omega) (by simp [Value.oneCell']) w1.heap.size w1 HWD.out hgl ?_; intro w3 hg3 hb3)
      have B3 : Hid (Blk w3 g 3 (rp x k (m + q)).toArray) := by
        have h := hg3.out
        rw [rp_splice (by omega)] at h
        exact h
      have W3 := Lib.hid hb3
      clear hg3 hb3
      go_wp2_with fail
      go_roundw
      case rel =>
        have hwq : IntKind.i64.wrap ((m : Int) + (q : Int)) = ((m + q : Nat) : Int) := by rw [IntWalk.i64_in _ (by omega)]; omega
        refine ⟨_, _, _, _, _, _, _, _, _, _, _, _, _, _, ⟨m + q, by omega, ?_, .inl (by omega), B3.out, W3.out⟩, rfl⟩
        show Value.int .i64 (IntKind.i64.wrap ((m : Int) + (q : Int))) = .int .i64 ((m + q : Nat) : Int)
        rw [hwq]
      case measure =>
        show k - (intOf (.int .i64 (IntKind.i64.wrap ((m : Int) + (q : Int))))).toNat < k - (intOf (.int .i64 (m : Int))).toNat
        rw [IntWalk.i64_in _ (by omega)]
        simp [intOf]; omega
    · obtain rfl : m = k := by omega
      have d1 : decide ((m : Int) < (m : Int)) = false := by simp
      go_wp2_with fail
      go_ret
      exact ⟨g, rfl, hgl, by simpa [rp] using HB.out, only_below' HW.out⟩
end Go.Proofs.Ytebakogdbeeljaa
