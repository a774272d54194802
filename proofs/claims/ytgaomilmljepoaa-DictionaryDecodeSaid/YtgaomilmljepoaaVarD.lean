/- varint of chapter 23. No condition but the size. -/
import Derived.Test.YtgaomilmljepoaaBits
import Derived.Deep.DeepMust
namespace Go.Proofs.Ytgaomilmljepoaa
open Go.RowKit
set_option linter.unusedVariables false
set_option linter.unusedSimpArgs false

set_option maxHeartbeats 1000000 in
set_option maxRecDepth 100000 in
theorem dvarint_any (base : Nat) (v : Value) (xs : List Int) (n : Nat) (w : World) (h : Byts base w v xs) (hx : xs.length ≤ 5000000) (hn : n ≤ 1000000) (hb : base ≤ w.heap.size) :
    Calls Try.prog 42 #[v, .int .i64 n] w (VPost base w v (xs ++ vint n)) := by
  have H := Lib.hid h
  clear h
  go_enter Try.func42, Try.ntmps42
  go_wp2_with fail
  go_loopw [0, 1] (fun u i wr => ∃ (m : Nat) (ys : List Int), m ≤ n ∧ i = .int .i64 m ∧ Byts base wr u ys ∧ ys ++ vint m = xs ++ vint n ∧ ys.length + m ≤ xs.length + n ∧ Onto w v u wr) (fun _ i _ => (intOf i).toNat)
  case atStart => exact ⟨n, xs, Nat.le_refl _, rfl, H.out, rfl, Nat.le_refl _, Onto.refl _ _⟩
  case round =>
    obtain ⟨m, ys, hm, rfl, hB, he, hl, hO⟩ := hrel
    have HO := Lib.hid hO
    have HE := Lib.hid he
    have HB := Lib.hid hB
    have hz := hO.1.size
    clear hO he hB
    by_cases hc : 127 < m
    · have HV := Lib.hid (vb_i64 m (by omega))
      have HV2 := Lib.hid (vint_ge (n := m) (by omega))
      go_wp2_with (at_builtin; refine wpList_append1 rfl _ _ 22 rfl base Try.underlying22 byteInfo rfl (by decide) (v := _) (by rfl) (w0 := _) (cs := #[.int .u8 (bits BinOp.or IntKind.i64 (bits BinOp.and IntKind.i64 (↑m) 127) 128 % 256)]) HB.out (by rfl) rfl (by simp [Value.oneCell']) (by decide) (by omega) (by omega) ?_; intro v1 w1 hv1 hg1 hob1)
      rw [HV.out] at hv1
      have B1 := Lib.hid (Byts.snoc hv1)
      have O1 := Lib.hid (HO.out.trans (onto_ap hg1 hob1))
      clear hv1 hg1 hob1
      go_wp2_with fail
      go_roundw
      case rel => exact ⟨m / 128, ys ++ [((m % 128 + 128 : Nat) : Int)], by omega, by simp, B1.out, by rw [← HE.out, HV2.out]; simp, by simp; omega, O1.out⟩
      case measure => simp [intOf]; omega
    · have HV2 := Lib.hid (vint_lt (n := m) (by omega))
      have hd : decide ((127 : Int) < (m : Int)) = false := by simp; omega
      go_wp2_with (at_builtin; refine wpList_append1 rfl _ _ 22 rfl base Try.underlying22 byteInfo rfl (by decide) (v := _) (by rfl) (w0 := _) (cs := #[.int .u8 (m : Int)]) HB.out (by rfl) rfl (by simp [Value.oneCell']) (by decide) (by omega) (by omega) ?_; intro v1 w1 hv1 hg1 hob1)
      have B1 := Lib.hid (Byts.snoc hv1)
      have O1 := Lib.hid (HO.out.trans (onto_ap hg1 hob1))
      clear hv1 hg1 hob1
      go_wp2_with fail
      go_ret
      exact ⟨v1, rfl, by rw [← HE.out, HV2.out]; exact B1.out, O1.out⟩
end Go.Proofs.Ytgaomilmljepoaa
