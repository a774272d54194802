/- Check of dictionaries, both texts. No condition. -/
import Derived.Test.YtgaomilmljepoaaStr
namespace Go.Proofs.Ytgaomilmljepoaa
open Go.RowKit
set_option linter.unusedVariables false
set_option linter.unusedSimpArgs false

def Asc (ds : List ByteArray) : Prop := ∀ i x y, ds[i]? = some x → ds[i + 1]? = some y → sl x y = true
def Long (ds : List ByteArray) : Prop := ∃ x ∈ ds, 2048 < x.size
open Classical in
/-- what keeps a list from being a dictionary -/
noncomputable def chk (ds : List ByteArray) : Int := if 32768 < ds.length then 4 else if Long ds then 3 else if Asc ds then 0 else 19

theorem long_any (s : ByteArray) (w : World) : Calls Try.prog 40 #[.string s] w (Quiet (.bool (decide (2048 < s.size))) w) := by
  go_enter Try.func40, Try.ntmps40
  go_wp2
  go_ret
  exact ⟨by simp; omega, 0, rfl⟩
def IdxPost (ds : List ByteArray) (w : World) (e : Ending) (w' : World) : Prop :=
  ∃ n : Int, e = .returned (.int .i64 n) ∧ (0 ≤ n ↔ Long ds) ∧ ∃ q, w' = w.drewN q
set_option maxHeartbeats 1000000 in
theorem indexfunc_any {S : Nat → Prop} (A : Option Addr) (ds : List ByteArray) (c : Nat) (w : World) (h : Rd S w A (ds.map .string)) (hl : ds.length ≤ 10000000) :
    Calls Try.prog 57 #[.slice A ds.length c, .func (.func 40) #[] #[]] w (IdxPost ds w) := by
  have H := Lib.hid h
  clear h
  go_enter Try.func57, Try.ntmps57
  go_wp2_with fail
  go_loopw [8] (fun i wr => ∃ k : Nat, k ≤ ds.length ∧ i = .int .i64 k ∧ (∀ i x, i < k → ds[i]? = some x → x.size ≤ 2048) ∧ ∃ q, wr = w.drewN q) (fun i _ => ds.length - (intOf i).toNat)
  case atStart => exact ⟨0, Nat.zero_le _, rfl, fun i x hi => absurd hi (by omega), 0, rfl⟩
  case round =>
    obtain ⟨k, hk, rfl, hall, q, rfl⟩ := hrel
    have AL := Lib.hid hall
    clear hall
    by_cases hlt : k < ds.length
    · obtain ⟨b, off, x, rfl, hc, hx⟩ := H.out.str_at hlt
      by_cases hs : 2048 < x.size
      · have hd : decide (2048 < x.size) = true := by simp [hs]
        go_wp2_with (go_at_call 40; refine (long_any _ _).mono ?_; rintro e w' ⟨rfl, n, rfl⟩)
        go_ret
        exact ⟨k, rfl, ⟨fun _ => ⟨x, List.mem_of_getElem? hx.out, hs⟩, fun _ => by omega⟩, _, rfl⟩
      · have hd : decide (2048 < x.size) = false := by simp; omega
        go_wp2_with (go_at_call 40; refine (long_any _ _).mono ?_; rintro e w' ⟨rfl, n, rfl⟩)
        go_roundw
        case rel =>
          refine ⟨k + 1, by omega, by go_num, fun i y hi hy => ?_, _, rfl⟩
          rcases Nat.lt_or_ge i k with h | h
          · exact AL.out i y h hy
          · obtain rfl : i = k := by omega
            rw [hx.out] at hy; injection hy with hy; rw [← hy]; omega
        case measure => simp [intOf]; omega
    · go_wp2_with fail
      go_ret
      refine ⟨-1, rfl, ⟨fun h => absurd h (by omega), ?_⟩, _, rfl⟩
      rintro ⟨x, hx, hs⟩
      obtain ⟨i, hi, hix⟩ := List.mem_iff_getElem.1 hx
      have := AL.out i x (by omega) (by rw [List.getElem?_eq_getElem hi, hix])
      omega
open Classical in
set_option maxHeartbeats 1000000 in
theorem contains_any {S : Nat → Prop} (A : Option Addr) (ds : List ByteArray) (c : Nat) (w : World) (h : Rd S w A (ds.map .string)) (hl : ds.length ≤ 10000000) :
    Calls Try.prog 39 #[.slice A ds.length c, .func (.func 40) #[] #[]] w (Quiet (.bool (decide (Long ds))) w) := by
  have H := Lib.hid h
  clear h
  go_enter Try.func39, Try.ntmps39
  go_wp2_with fail
  refine (indexfunc_any A ds c _ H.out hl).mono ?_
  rintro e w1 ⟨n, rfl, hn, q, rfl⟩
  have HN := Lib.hid hn
  clear hn
  go_wp2_with fail
  go_ret
  refine ⟨?_, _, rfl⟩
  have : decide (Long ds) = decide (0 ≤ n) := by rw [decide_eq_decide]; exact HN.out.symm
  rw [this]; rfl

open Classical in
set_option maxHeartbeats 1000000 in
theorem check_any {S : Nat → Prop} (A : Option Addr) (ds : List ByteArray) (c : Nat) (w : World) (h : Rd S w A (ds.map .string)) (hl : ds.length ≤ 10000000) :
    Calls Try.prog 19 #[.slice A ds.length c] w (Quiet (.int .i64 (chk ds)) w) := by
  have H := Lib.hid h
  clear h
  by_cases hbig : 32768 < ds.length
  · have HA : Hid (chk ds = 4) := by show chk ds = _; unfold chk; rw [if_pos hbig]
    go_enter Try.func19, Try.ntmps19
    go_wp2_with fail
    go_ret
    exact ⟨by rw [HA.out]; rfl, 0, rfl⟩
  have hdb : decide ((32768 : Int) < (ds.length : Int)) = false := by simp; omega
  by_cases hL : Long ds
  · have HA : Hid (chk ds = 3) := by show chk ds = _; unfold chk; rw [if_neg hbig, if_pos hL]
    have hd : decide (Long ds) = true := by simp [hL]
    clear hL
    go_enter Try.func19, Try.ntmps19
    go_wp2_with (go_at_call 39; refine (contains_any A ds c _ H.out hl).mono ?_; rintro e w' ⟨rfl, n, rfl⟩)
    go_ret
    exact ⟨by rw [HA.out]; rfl, _, rfl⟩
  have HA : Hid (chk ds = if Asc ds then 0 else 19) := by show chk ds = _; unfold chk; rw [if_neg (by omega), if_neg hL]
  have hd : decide (Long ds) = false := by simp [hL]
  clear hL
  go_enter Try.func19, Try.ntmps19
  go_wp2_with (go_at_call 39; refine (contains_any A ds c _ H.out hl).mono ?_; rintro e w' ⟨rfl, n, rfl⟩)
  go_loopw [3] (fun i wr => ∃ k : Nat, 1 ≤ k ∧ k ≤ ds.length + 1 ∧ (k ≤ ds.length ∨ ds.length = 0) ∧ i = .int .i64 k ∧ (∀ i x y, i + 1 < k → ds[i]? = some x → ds[i + 1]? = some y → sl x y = true) ∧ ∃ q, wr = w.drewN q) (fun i _ => ds.length - (intOf i).toNat)
  case atStart => exact ⟨1, by omega, by omega, by omega, rfl, (fun i x y hi => absurd hi (by omega)), _, rfl⟩
  case round =>
    obtain ⟨k, hk0, hk1, hk2, rfl, hall, q, rfl⟩ := hrel
    have AL := Lib.hid hall
    clear hall
    by_cases hlt : k < ds.length
    · obtain ⟨k, rfl⟩ : ∃ k', k = k' + 1 := ⟨k - 1, by omega⟩
      obtain ⟨b, off, x, rfl, hc, hx⟩ := H.out.str_at (k := k) (by omega)
      obtain ⟨y, hcy, hy⟩ := H.out.str_at' hlt
      have hwk : IntKind.i64.wrap (k : Int) = (k : Int) := IntWalk.i64_in _ (by omega)
      have i1 : (k : Int) < (ds.length : Int) := by omega
      have i2 : (k : Int) + 1 < (ds.length : Int) := by omega
      have i3 : (0 : Int) ≤ (k : Int) := by omega
      have i4 : (0 : Int) ≤ (k : Int) + 1 := by omega
      have i5 : ((k : Int) + 1).toNat = k + 1 := by omega
      by_cases hs : sl x y = true
      · have t1 : Op.bytesLess x.toList y.toList = true := hs
        have t2 : Op.bytesLess y.toList x.toList = false := sl_asymm hs
        have t3 : (y.toList == x.toList) = false := by
          rw [beq_eq_false_iff_ne]; intro e; rw [e, bl_irrefl] at t1; cases t1
        have HS := Lib.hid hs
        clear hs
        go_wp2
        go_quiet (fail)
        go_wp2
        go_roundw
        case rel =>
          refine ⟨k + 1 + 1, by omega, by omega, by omega, by go_num, fun i a b hi ha hb => ?_, _, rfl⟩
          rcases Nat.lt_or_ge (i + 1) (k + 1) with h | h
          · exact AL.out i a b h ha hb
          · obtain rfl : i = k := by omega
            rw [hx.out] at ha; rw [hy.out] at hb; injection ha with ha; injection hb with hb; rw [← ha, ← hb]; exact HS.out
        case measure => simp [intOf]; omega
      · have hs' : sl x y = false := by simpa using hs
        have t1 : Op.bytesLess x.toList y.toList = false := hs'
        have hr : chk ds = 19 := by
          rw [HA.out, if_neg (fun h => by have := h k x y hx.out hy.out; rw [hs'] at this; cases this)]
        have HR := Lib.hid hr
        clear hs hs' hr
        go_wp2
        go_quiet (fail)
        go_wp2
        go_ret
        exact ⟨by rw [HR.out]; rfl, _, World.drewN_drewN _ _ _⟩
    · have hr : chk ds = 0 := by
        rw [HA.out, if_pos (show Asc ds from fun i a b ha hb => AL.out i a b (by have := (List.getElem?_eq_some_iff.1 hb).1; omega) ha hb)]
      have HR := Lib.hid hr
      clear hr
      go_wp2
      go_ret
      exact ⟨by rw [HR.out]; rfl, _, rfl⟩
end Go.Proofs.Ytgaomilmljepoaa
