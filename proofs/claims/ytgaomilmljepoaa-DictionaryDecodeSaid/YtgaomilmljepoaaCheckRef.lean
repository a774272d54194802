/- Check of dictionaries, the reference. No condition. -/
import Derived.Test.YtgaomilmljepoaaCheck
namespace Go.Proofs.Ytgaomilmljepoaa
open Go.RowKit
set_option linter.unusedVariables false
set_option linter.unusedSimpArgs false

open Classical in
set_option maxHeartbeats 1000000 in
set_option maxRecDepth 100000 in
theorem rcheck_any {S : Nat → Prop} (A : Option Addr) (ds : List ByteArray) (c : Nat) (w : World) (h : Rd S w A (ds.map .string)) (hl : ds.length ≤ 10000000) :
    Calls Try.prog 32 #[.slice A ds.length c] w (Quiet (.int .i64 (chk ds)) w) := by
  have H := Lib.hid h
  clear h
  by_cases hbig : 32768 < ds.length
  · have HA : Hid (chk ds = 4) := by show chk ds = _; unfold chk; rw [if_pos hbig]
    go_enter Try.func32, Try.ntmps32
    go_wp2_with fail
    go_ret
    exact ⟨by rw [HA.out]; rfl, 0, rfl⟩
  have hdb : decide ((32768 : Int) < (ds.length : Int)) = false := by simp; omega
  go_enter Try.func32, Try.ntmps32
  go_wp2_with fail
  go_loopw [3] (fun i wr => ∃ k : Nat, k ≤ ds.length ∧ i = .int .i64 k ∧ (∀ i x, i < k → ds[i]? = some x → x.size ≤ 2048) ∧ ∃ q, wr = w.drewN q) (fun i _ => ds.length - (intOf i).toNat)
  case atStart => exact ⟨0, Nat.zero_le _, rfl, fun i x hi => absurd hi (by omega), 0, rfl⟩
  case round =>
    obtain ⟨k, hk, rfl, hall, q, rfl⟩ := hrel
    have AL := Lib.hid hall
    clear hall
    by_cases hlt : k < ds.length
    · obtain ⟨b, off, x, rfl, hc, hx⟩ := H.out.str_at hlt
      by_cases hs : 2048 < x.size
      · have HA : Hid (chk ds = 3) := by show chk ds = _; unfold chk; rw [if_neg hbig, if_pos ⟨x, List.mem_of_getElem? hx.out, hs⟩]
        go_wp2_with fail
        go_ret
        exact ⟨by rw [HA.out]; rfl, _, rfl⟩
      · go_wp2_with fail
        go_roundw
        case rel =>
          refine ⟨k + 1, by omega, by go_num, fun i y hi hy => ?_, _, rfl⟩
          rcases Nat.lt_or_ge i k with h | h
          · exact AL.out i y h hy
          · obtain rfl : i = k := by omega
            rw [hx.out] at hy; injection hy with hy; rw [← hy]; omega
        case measure => simp [intOf]; omega
    · have hL : ¬ Long ds := by
        rintro ⟨x, hx, hs⟩
        obtain ⟨i, hi, hix⟩ := List.mem_iff_getElem.1 hx
        have := AL.out i x (by omega) (by rw [List.getElem?_eq_getElem hi, hix])
        omega
      have HA : Hid (chk ds = if Asc ds then 0 else 19) := by show chk ds = _; unfold chk; rw [if_neg (by omega), if_neg hL]
      clear hL AL
      go_wp2_with fail
      clear hlt hk
      go_loopw [4] (fun i wr => ∃ k : Nat, 1 ≤ k ∧ k ≤ ds.length + 1 ∧ (k ≤ ds.length ∨ ds.length = 0) ∧ i = .int .i64 k ∧ (∀ i x y, i + 1 < k → ds[i]? = some x → ds[i + 1]? = some y → sl x y = true) ∧ ∃ q, wr = w.drewN q) (fun i _ => ds.length - (intOf i).toNat)
      case atStart => exact ⟨1, by omega, by omega, by omega, rfl, (fun i x y hi => absurd hi (by omega)), _, rfl⟩
      case round =>
        obtain ⟨k, hk0, hk1, hk2, rfl, hall, q, rfl⟩ := hrel
        have AL := Lib.hid hall
        clear hall
        by_cases hlt : k < ds.length
        · obtain ⟨k, rfl⟩ : ∃ k', k = k' + 1 := ⟨k - 1, by omega⟩
          obtain ⟨b, off, x, rfl, hc, hx⟩ := H.out.str_at (k := k) (by omega)
          obtain ⟨y, hcy, hy⟩ := H.out.str_at' hlt
          have hwk : IntKind.i64.wrap (k : Int) = (k : Int) := IntWalk.i64_in _ (by omega)
          have i1 : (k : Int) < (ds.length : Int) := by omega
          have i2 : (k : Int) + 1 < (ds.length : Int) := by omega
          have i3 : (0 : Int) ≤ (k : Int) := by omega
          have i4 : (0 : Int) ≤ (k : Int) + 1 := by omega
          have i5 : ((k : Int) + 1).toNat = k + 1 := by omega
          by_cases hs : sl x y = true
          · have t1 : Op.bytesLess x.toList y.toList = true := hs
            have t2 : Op.bytesLess y.toList x.toList = false := sl_asymm hs
            have t3 : (y.toList == x.toList) = false := by
              rw [beq_eq_false_iff_ne]; intro e; rw [e, bl_irrefl] at t1; cases t1
            have HS := Lib.hid hs
            clear hs
            go_wp2
            go_quiet (fail)
            go_wp2
            go_roundw
            case rel =>
              refine ⟨k + 1 + 1, by omega, by omega, by omega, by go_num, fun i a b hi ha hb => ?_, _, rfl⟩
              rcases Nat.lt_or_ge (i + 1) (k + 1) with h | h
              · exact AL.out i a b h ha hb
              · obtain rfl : i = k := by omega
                rw [hx.out] at ha; rw [hy.out] at hb; injection ha with ha; injection hb with hb; rw [← ha, ← hb]; exact HS.out
            case measure => simp [intOf]; omega
          · have hs' : sl x y = false := by simpa using hs
            have t1 : Op.bytesLess x.toList y.toList = false := hs'
            have hr : chk ds = 19 := by
              rw [HA.out, if_neg (fun h => by have := h k x y hx.out hy.out; rw [hs'] at this; cases this)]
            have HR := Lib.hid hr
            clear hs hs' hr
            have t4 : (Op.bytesLess y.toList x.toList || y.toList == x.toList) = true := by
              cases h : Op.bytesLess y.toList x.toList with
              | true => rfl
              | false => simp; exact bl_tri _ _ h t1
            go_wp2
            go_quiet (fail)
            go_wp2
            go_ret
            exact ⟨by rw [HR.out]; rfl, _, World.drewN_drewN _ _ _⟩
        · have hr : chk ds = 0 := by
            rw [HA.out, if_pos (show Asc ds from fun i a b ha hb => AL.out i a b (by have := (List.getElem?_eq_some_iff.1 hb).1; omega) ha hb)]
          have HR := Lib.hid hr
          clear hr
          go_wp2
          go_ret
          exact ⟨by rw [HR.out]; rfl, _, rfl⟩
end Go.Proofs.Ytgaomilmljepoaa
