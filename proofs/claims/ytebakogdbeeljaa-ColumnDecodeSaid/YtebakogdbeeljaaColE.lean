/- The encoders plain and delta of chapter 24. Conditions: sizes. -/
import Derived.Test.YtebakogdbeeljaaColV
import Derived.Deep.DeepMust
namespace Go.Proofs.Ytebakogdbeeljaa
open Go.RowKit
set_option linter.unusedVariables false
set_option linter.unusedSimpArgs false

def I64 (x : Int) : Prop := -9223372036854775808 ≤ x ∧ x ≤ 9223372036854775807
theorem wrap_I64 (x : Int) : I64 (IntKind.i64.wrap x) := by unfold I64; rw [IntKind.wrap_i64]; omega
theorem Byts.ne {base : Nat} {w : World} {v : Value} {xs : List Int} (h : Byts base w v xs) : ∀ b, b < base → some b ≠ v.ownBlock := fun b hb e => by
  have := (World.ownsRow.lt h b e.symm).1
  omega
def genTo (f : Nat → List Int) : Nat → List Int
  | 0 => []
  | k + 1 => genTo f k ++ f k
theorem genTo_len (f : Nat → List Int) (m : Nat) (h : ∀ i, (f i).length ≤ m) : ∀ k, (genTo f k).length ≤ m * k
  | 0 => by simp [genTo]
  | k + 1 => by
    have h1 := genTo_len f m h k
    have h2 := h k
    simp only [genTo, List.length_append, Nat.mul_add]
    omega
def plF (vs : List Int) (i : Nat) : List Int := vint (zz (vs.getD i 0))
def dl (vs : List Int) (i : Nat) : Int := if i = 0 then vs.getD 0 0 else IntKind.i64.wrap (vs.getD i 0 - vs.getD (i - 1) 0)
def dlF (vs : List Int) (i : Nat) : List Int := vint (zz (dl vs i))
theorem getD_I64 {vs : List Int} (h : ∀ x ∈ vs, I64 x) (i : Nat) : I64 (vs.getD i 0) := by
  by_cases hi : i < vs.length
  · exact h _ (getD_mem vs 0 hi)
  · rw [List.getD_eq_getElem?_getD, List.getElem?_eq_none (by omega)]; unfold I64; simp
theorem plF_len {vs : List Int} (h : ∀ x ∈ vs, I64 x) (i : Nat) : (plF vs i).length ≤ 10 := vint_len10 (zz_lt (getD_I64 h i))
theorem dl_I64 {vs : List Int} (h : ∀ x ∈ vs, I64 x) (i : Nat) : I64 (dl vs i) := by
  unfold dl; split
  · exact getD_I64 h 0
  · exact wrap_I64 _
theorem dlF_len {vs : List Int} (h : ∀ x ∈ vs, I64 x) (i : Nat) : (dlF vs i).length ≤ 10 := vint_len10 (zz_lt (dl_I64 h i))

set_option maxHeartbeats 1000000 in
set_option maxRecDepth 100000 in
theorem plain_any (base : Nat) (v : Value) (xs : List Int) (A : Option Addr) (vs : List Int) (c : Nat) (w : World) (h : Byts base w v xs) (hr : Rd (· < base) w A (vs.map (.int .i64))) (hx : xs.length ≤ 1000000) (hl : vs.length ≤ 20000) (hi : ∀ x ∈ vs, I64 x) (hb : base ≤ w.heap.size) :
    Calls Try.prog 43 #[v, .slice A vs.length c] w (VPost base w v (xs ++ genTo (plF vs) vs.length)) := by
  have H := Lib.hid h
  have HR := Lib.hid hr
  have HI := Lib.hid hi
  clear h hr hi
  go_enter Try.func43, Try.ntmps43
  go_wp2_with fail
  go_loopw [0, 9] (fun u i wr => ∃ k : Nat, k ≤ vs.length ∧ i = .int .i64 k ∧ Byts base wr u (xs ++ genTo (plF vs) k) ∧ Rd (· < base) wr A (vs.map (.int .i64)) ∧ Onto w v u wr) (fun _ i _ => vs.length - (intOf i).toNat)
  case atStart => exact ⟨0, Nat.zero_le _, rfl, by simpa [genTo] using H.out, HR.out, Onto.refl _ _⟩
  case round =>
    obtain ⟨k, hk, rfl, hB, hRd, hO⟩ := hrel
    have HB := Lib.hid hB
    have HO := Lib.hid hO
    have RD := Lib.hid hRd
    have hz := hO.1.size
    have hg := genTo_len (plF vs) 10 (plF_len HI.out) k
    clear hB hO hRd
    by_cases hlt : k < vs.length
    · obtain ⟨b, off, x, rfl, hc, hx2⟩ := RD.out.int_at hlt
      have HX : Hid (I64 x) := by show I64 x; rw [← hx2.out]; exact getD_I64 HI.out k
      go_wp2_with fail
      refine (zigzag_any x _ HX.out).mono ?_
      rintro e w1 ⟨rfl, n1, rfl⟩
      go_wp2_with fail
      refine (cvarint_any base _ _ (zz x) _ (HB.out.drewN _) (by rw [List.length_append]; omega) (zz_lt HX.out) (by show base ≤ wr.heap.size; omega)).mono ?_
      rintro e w2 ⟨v2, rfl, hB2, hO2⟩
      have B2 : Hid (Byts base w2 v2 (xs ++ genTo (plF vs) (k + 1))) := by
        show Byts base w2 v2 (xs ++ (genTo (plF vs) k ++ vint (zz (vs.getD k 0))))
        rw [hx2.out, ← List.append_assoc]; exact hB2
      have R2 : Hid (Rd (· < base) w2 (some ⟨b, off, none⟩) (vs.map (.int .i64))) := (RD.out.drewN n1).onto hO2 HB.out.ne
      have O2 : Hid (Onto w v v2 w2) := (HO.out.drewN n1).trans hO2
      clear hB2 hO2
      go_wp2_with fail
      go_roundw
      case rel => exact ⟨k + 1, by omega, by go_num, B2.out, R2.out, O2.out⟩
      case measure => simp [intOf]; omega
    · obtain rfl : k = vs.length := by omega
      go_wp2_with fail
      go_ret
      exact ⟨_, rfl, HB.out, HO.out⟩

set_option maxHeartbeats 1000000 in
set_option maxRecDepth 100000 in
theorem delta_any (base : Nat) (v : Value) (xs : List Int) (A : Option Addr) (vs : List Int) (c : Nat) (w : World) (h : Byts base w v xs) (hr : Rd (· < base) w A (vs.map (.int .i64))) (hx : xs.length ≤ 1000000) (hl : vs.length ≤ 20000) (hi : ∀ x ∈ vs, I64 x) (hb : base ≤ w.heap.size) :
    Calls Try.prog 44 #[v, .slice A vs.length c] w (VPost base w v (xs ++ genTo (dlF vs) vs.length)) := by
  have H := Lib.hid h
  have HR := Lib.hid hr
  have HI := Lib.hid hi
  clear h hr hi
  go_enter Try.func44, Try.ntmps44
  go_wp2_with fail
  go_loopw [0, 5, 10] (fun u la i wr => ∃ (k : Nat) (y : Int), k ≤ vs.length ∧ i = .int .i64 k ∧ la = .int .i64 y ∧ y = (if k = 0 then 0 else vs.getD (k - 1) 0) ∧ Byts base wr u (xs ++ genTo (dlF vs) k) ∧ Rd (· < base) wr A (vs.map (.int .i64)) ∧ Onto w v u wr) (fun _ _ i _ => vs.length - (intOf i).toNat)
  case atStart => exact ⟨0, 0, Nat.zero_le _, rfl, rfl, rfl, by simpa [genTo] using H.out, HR.out, Onto.refl _ _⟩
  case round =>
    obtain ⟨k, y, hk, rfl, rfl, hy, hB, hRd, hO⟩ := hrel
    have HY := Lib.hid hy
    have HB := Lib.hid hB
    have HO := Lib.hid hO
    have RD := Lib.hid hRd
    have hz := hO.1.size
    have hg := genTo_len (dlF vs) 10 (dlF_len HI.out) k
    clear hB hO hRd hy
    by_cases hlt : k < vs.length
    · obtain ⟨b, off, x, rfl, hc, hx2⟩ := RD.out.int_at hlt
      have HX : Hid (I64 x) := by show I64 x; rw [← hx2.out]; exact getD_I64 HI.out k
      have HD : Hid (wrap64 (x - y) = dl vs k) := by
        show wrap64 (x - y) = dl vs k
        rw [← IntWalk.i64_left]
        rw [HY.out]
        unfold dl
        have := HX.out
        by_cases h0 : k = 0
        · subst h0
          rw [if_pos rfl, if_pos rfl, hx2.out, IntKind.wrap_i64]; unfold I64 at this; omega
        · rw [if_neg h0, if_neg h0, hx2.out]
      have HW : Hid (I64 (wrap64 (x - y))) := by show I64 (wrap64 (x - y)); rw [HD.out]; exact dl_I64 HI.out k
      have HN : Hid (x = if k + 1 = 0 then 0 else vs.getD (k + 1 - 1) 0) := by
        show x = if k + 1 = 0 then 0 else vs.getD (k + 1 - 1) 0
        rw [if_neg (by omega)]; exact hx2.out.symm
      go_wp2_with fail
      refine (zigzag_any _ _ HW.out).mono ?_
      rintro e w1 ⟨rfl, n1, rfl⟩
      go_wp2_with fail
      refine (cvarint_any base _ _ (zz (wrap64 (x - y))) _ (HB.out.drewN _) (by rw [List.length_append]; omega) (zz_lt HW.out) (by show base ≤ wr.heap.size; omega)).mono ?_
      rintro e w2 ⟨v2, rfl, hB2, hO2⟩
      have B2 : Hid (Byts base w2 v2 (xs ++ genTo (dlF vs) (k + 1))) := by
        show Byts base w2 v2 (xs ++ (genTo (dlF vs) k ++ vint (zz (dl vs k))))
        rw [← HD.out, ← List.append_assoc]; exact hB2
      have R2 : Hid (Rd (· < base) w2 (some ⟨b, off, none⟩) (vs.map (.int .i64))) := (RD.out.drewN n1).onto hO2 HB.out.ne
      have O2 : Hid (Onto w v v2 w2) := (HO.out.drewN n1).trans hO2
      clear hB2 hO2
      go_wp2_with fail
      go_roundw
      case rel => exact ⟨k + 1, x, by omega, by go_num, rfl, HN.out, B2.out, R2.out, O2.out⟩
      case measure => simp [intOf]; omega
    · obtain rfl : k = vs.length := by omega
      go_wp2_with fail
      go_ret
      exact ⟨_, rfl, HB.out, HO.out⟩
end Go.Proofs.Ytebakogdbeeljaa
