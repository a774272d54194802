/- GetInt of the reference of chapter 24. Condition: sizes. -/
import Derived.Test.YtebakogdbeeljaaGetV
import Derived.Test.YtebakogdbeeljaaRdF
namespace Go.Proofs.Ytebakogdbeeljaa
open Go.RowKit
set_option linter.unusedVariables false
set_option linter.unusedSimpArgs false

theorem gNum_lt : ∀ (l : List Int) (k acc : Nat) (r : Nat × Nat), acc < 18446744073709551616 → gNum l k acc = some r → r.1 < 18446744073709551616
  | [], _, _, _, _, h => by simp [gNum] at h
  | d :: l, k, acc, r, ha, h => by
    rw [gNum] at h
    split at h
    · cases h
    · split at h
      · cases h
      · split at h
        · split at h
          · cases h
          · injection h with h
            rw [← h]; exact gacc_lt ha
        · exact gNum_lt l _ _ r (gacc_lt ha) h
def giOut (bs : List Int) (p : Nat) : Value := match gNum (bs.drop p) 0 0 with
  | none => .tuple #[.int .i64 0, .int .i64 0, .bool false]
  | some (v, c) => .tuple #[.int .i64 (uz v), .int .i64 ((p + c : Nat) : Int), .bool true]
set_option maxHeartbeats 1000000 in
set_option maxRecDepth 100000 in
theorem geti_any {S : Nat → Prop} (A : Option Addr) (bs : List Int) (c : Nat) (p : Nat) (w : World) (h : Rd S w A (bs.map (.int .u8))) (hl : bs.length ≤ 2000000) (hp : p ≤ 3000000) (hx : ∀ x ∈ bs, 0 ≤ x ∧ x ≤ 255) :
    Calls Try.prog 54 #[.slice A bs.length c, .int .i64 p] w (Quiet (giOut bs p) w) := by
  have C := Lib.hid (getv_any A bs c p w h hl hp hx)
  clear h hx
  cases hg : gNum (bs.drop p) 0 0 with
  | none =>
    have HF : Hid (giOut bs p = .tuple #[.int .i64 0, .int .i64 0, .bool false]) := by show giOut bs p = _; unfold giOut; rw [hg]
    have HO := Lib.hid (gout_none hg)
    clear hg
    go_enter Try.func54, Try.ntmps54
    go_wp2_with fail
    refine C.out.mono ?_
    rw [HO.out]
    rintro e w1 ⟨rfl, n1, rfl⟩
    go_wp2_with fail
    refine (runzig_any 0 _ (by omega)).mono ?_
    rintro e w2 ⟨rfl, n2, rfl⟩
    go_wp2_with fail
    go_ret3
    exact ⟨by rw [HF.out]; rfl, _, rfl⟩
  | some r =>
    obtain ⟨v, k⟩ := r
    have hv := gNum_lt _ _ _ _ (by omega) hg
    have HV := Lib.hid hv
    have HF : Hid (giOut bs p = .tuple #[.int .i64 (uz v), .int .i64 ((p + k : Nat) : Int), .bool true]) := by show giOut bs p = _; unfold giOut; rw [hg]
    have HO := Lib.hid (gout_some hg)
    clear hg hv
    go_enter Try.func54, Try.ntmps54
    go_wp2_with fail
    refine C.out.mono ?_
    rw [HO.out]
    rintro e w1 ⟨rfl, n1, rfl⟩
    go_wp2_with fail
    refine (runzig_any v _ HV.out).mono ?_
    rintro e w2 ⟨rfl, n2, rfl⟩
    go_wp2_with fail
    go_ret3
    exact ⟨by rw [HF.out]; rfl, _, rfl⟩
end Go.Proofs.Ytebakogdbeeljaa
