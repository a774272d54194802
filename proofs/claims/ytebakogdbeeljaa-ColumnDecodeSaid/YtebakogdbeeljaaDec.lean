/- column.Decode, all kinds. Conditions: sizes. -/
import Derived.Test.YtebakogdbeeljaaDec0
import Derived.Test.YtebakogdbeeljaaDec1
import Derived.Test.YtebakogdbeeljaaDec2
import Derived.Test.YtebakogdbeeljaaDec3
namespace Go.Proofs.Ytebakogdbeeljaa
open Go.RowKit
set_option linter.unusedVariables false
set_option linter.unusedSimpArgs false

set_option maxHeartbeats 1000000 in
set_option maxRecDepth 100000 in
theorem dec_any (A : Option Addr) (bs : List Int) (c : Nat) (w : World) (h : Rd (fun _ => True) w A (bs.map (.int .u8))) (hc : bs.length ≤ c) (hm : c ≤ maxLen) (hl : bs.length ≤ 1000000) (hx : ∀ x ∈ bs, 0 ≤ x ∧ x ≤ 255) :
    Calls Try.prog 21 #[.slice A bs.length c] w (DecPost w bs) := by
  by_cases hk : (kindOf bs).2 = true
  · obtain ⟨k, l, rfl, _, hk4⟩ := kindOf_ok hx hk
    have h4 : k = 0 ∨ k = 1 ∨ k = 2 ∨ k = 3 := by omega
    rcases h4 with rfl | rfl | rfl | rfl
    · exact dec_0 A l c w h hc hm hl hx
    · exact dec_1 A l c w h hc hm hl hx
    · exact dec_2 A l c w h hc hm hl hx
    · exact dec_3 A l c w h hc hm hl hx
  · have KC := Lib.hid (kind_any A bs c w h hl hx)
    have HN : Hid (∀ v, ¬ IsCol bs v) := fun v h => hk h.1
    have hf : (kindOf bs).2 = false := by simpa using hk
    rw [hf] at KC
    clear h hx hk hf
    go_enter Try.func21, Try.ntmps21
    go_wp2_with fail
    refine KC.out.mono ?_
    rintro e w1 ⟨rfl, n1, rfl⟩
    go_wp2_with fail
    go_ret2
    exact dec_no HN.out rfl (only_drewN (only_refl _ _) _)
theorem isCol_colB {k : Int} {v : List Int} (hk : 0 ≤ k ∧ k < 4) (hl : v.length ≤ 16384) (hi : ∀ x ∈ v, I64 x) : IsCol (colB k v) v ∧ (kindOf (colB k v)) = (k, true) := by
  have e : colB k v = k :: (vint v.length ++ bodyB k v) := by rw [colB_ok (colErr_ok hk hl)]; rfl
  have ek : kindOf (colB k v) = (k, true) := by rw [e, kindOf, if_pos hk.2]
  exact ⟨⟨by rw [ek], hl, hi, by rw [ek]⟩, ek⟩
/-- Decode of the bytes of a column: the column -/
def DecYes (w : World) (v : List Int) (e : Ending) (w' : World) : Prop :=
  ∃ row, e = .returned (.tuple #[row, .int .i64 0]) ∧ w'.ownsRow w.heap.size 3 1 row v.length (v.map (.int .i64)) ∧ w.grownBy w' none
theorem dec_back {k : Int} {v : List Int} (hk : 0 ≤ k ∧ k < 4) (hv : v.length ≤ 16384) (hi : ∀ x ∈ v, I64 x) (hb : (colB k v).length ≤ 1000000) (A : Option Addr) (c : Nat) (w : World) (h : Rd (fun _ => True) w A ((colB k v).map (.int .u8))) (hc : (colB k v).length ≤ c) (hm : c ≤ maxLen) :
    Calls Try.prog 21 #[.slice A (colB k v).length c] w (DecYes w v) := by
  have hu := colB_u8 hk hi hv
  have hI := (isCol_colB hk hv hi).1
  refine (dec_any A (colB k v) c w h hc hm hb hu).mono ?_
  rintro e w' ⟨hg, h1 | h1⟩
  · obtain ⟨v', row, h2, h3, h4⟩ := h1
    obtain rfl := isCol_uniq hu hI h2
    exact ⟨row, h3, h4, hg⟩
  · exact absurd hI (h1.1 v)
/-- the shortest encoding, with the smallest kind -/
theorem best_is (vs : List Int) : ∀ m : Nat, 1 ≤ m → m ≤ 4 → ∃ k : Nat, k < m ∧ bestTo vs m = colB (k : Nat) vs ∧ ∀ n : Nat, n < m → (bestTo vs m).length ≤ (colB (n : Nat) vs).length ∧ (n < k → (colB (n : Nat) vs).length ≠ (bestTo vs m).length)
  | 1, _, _ => ⟨0, by omega, rfl, fun n hn => by
      obtain rfl : n = 0 := by omega
      exact ⟨Nat.le_refl _, fun h => absurd h (by omega)⟩⟩
  | m + 2, _, h4 => by
    obtain ⟨k, hk, hb, hn⟩ := best_is vs (m + 1) (by omega) (by omega)
    rw [best_step vs (by omega), sh]
    by_cases hlt : (colB ((m + 1 : Nat) : Int) vs).length < (bestTo vs (m + 1)).length
    · rw [if_pos hlt]
      refine ⟨m + 1, by omega, rfl, fun n hn2 => ?_⟩
      by_cases he : n = m + 1
      · subst he; exact ⟨Nat.le_refl _, fun h => absurd h (by omega)⟩
      · have := (hn n (by omega)).1
        exact ⟨by omega, fun _ => by omega⟩
    · rw [if_neg hlt]
      refine ⟨k, by omega, hb, fun n hn2 => ?_⟩
      by_cases he : n = m + 1
      · subst he; exact ⟨by omega, fun h => absurd h (by omega)⟩
      · exact hn n (by omega)
end Go.Proofs.Ytebakogdbeeljaa
