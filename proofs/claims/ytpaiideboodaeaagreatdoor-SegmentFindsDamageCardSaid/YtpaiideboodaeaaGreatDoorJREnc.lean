/- XVarD, XCommon, XCheck, XCheckRef, XEnc, XEncR: what this seat has of them (joined by partseat.py). Conditions: as there. -/
import Derived.Test.YtpaiideboodaeaaGreatDoorJRTermsJ
import Derived.Deep.DeepMust
import Derived.Test.YtpaiideboodaeaaGreatDoorJStr
namespace Go.Proofs.YtpaiideboodaeaaGreatDoor
open Go.RowKit
set_option linter.unusedVariables false
set_option linter.unusedSimpArgs false

set_option maxHeartbeats 1000000 in
set_option maxRecDepth 100000 in
theorem dvarint_any (base : Nat) (v : Value) (xs : List Int) (n : Nat) (w : World) (h : Byts base w v xs) (hx : xs.length ≤ 5000000) (hn : n ≤ 1000000) (hb : base ≤ w.heap.size) :
    Calls Tryz.prog 169 #[v, .int .i64 n] w (VPost base w v (xs ++ vint n)) := by
  have H := Lib.hid h
  clear h
  go_enter Tryz.func169, Tryz.ntmps169
  go_wp2_with fail
  go_loopw [0, 1] (fun u i wr => ∃ (m : Nat) (ys : List Int), m ≤ n ∧ i = .int .i64 m ∧ Byts base wr u ys ∧ ys ++ vint m = xs ++ vint n ∧ ys.length + m ≤ xs.length + n ∧ Onto w v u wr) (fun _ i _ => (intOf i).toNat)
  case atStart => exact ⟨n, xs, Nat.le_refl _, rfl, H.out, rfl, Nat.le_refl _, Onto.refl _ _⟩
  case round =>
    obtain ⟨m, ys, hm, rfl, hB, he, hl, hO⟩ := hrel
    have HO := Lib.hid hO
    have HE := Lib.hid he
    have HB := Lib.hid hB
    have hz := hO.1.size
    clear hO he hB
    by_cases hc : 127 < m
    · have HV := Lib.hid (vb_i64 m (by omega))
      have HV2 := Lib.hid (vint_ge (n := m) (by omega))
      go_wp2_with (at_builtin; refine wpList_append1 rfl _ _ 22 rfl base Tryz.underlying22 byteInfo rfl (by decide) (v := _) (by rfl) (w0 := _) (cs := #[.int .u8 (bits BinOp.or IntKind.i64 (bits BinOp.and IntKind.i64 (↑m) 127) 128 % 256)]) HB.out (by rfl) rfl (by simp [Value.oneCell']) (by decide) (by omega) (by omega) ?_; intro v1 w1 hv1 hg1 hob1)
      rw [HV.out] at hv1
      have B1 := Lib.hid (Byts.snoc hv1)
      have O1 := Lib.hid (HO.out.trans (onto_ap hg1 hob1))
      clear hv1 hg1 hob1
      go_wp2_with fail
      go_roundw
      case rel => exact ⟨m / 128, ys ++ [((m % 128 + 128 : Nat) : Int)], by omega, by simp, B1.out, by rw [← HE.out, HV2.out]; simp, by simp; omega, O1.out⟩
      case measure => simp [intOf]; omega
    · have HV2 := Lib.hid (vint_lt (n := m) (by omega))
      have hd : decide ((127 : Int) < (m : Int)) = false := by simp; omega
      go_wp2_with (at_builtin; refine wpList_append1 rfl _ _ 22 rfl base Tryz.underlying22 byteInfo rfl (by decide) (v := _) (by rfl) (w0 := _) (cs := #[.int .u8 (m : Int)]) HB.out (by rfl) rfl (by simp [Value.oneCell']) (by decide) (by omega) (by omega) ?_; intro v1 w1 hv1 hg1 hob1)
      have B1 := Lib.hid (Byts.snoc hv1)
      have O1 := Lib.hid (HO.out.trans (onto_ap hg1 hob1))
      clear hv1 hg1 hob1
      go_wp2_with fail
      go_ret
      exact ⟨v1, rfl, by rw [← HE.out, HV2.out]; exact B1.out, O1.out⟩
end Go.Proofs.YtpaiideboodaeaaGreatDoor

namespace Go.Proofs.YtpaiideboodaeaaGreatDoor
open Go.RowKit
set_option linter.unusedVariables false
set_option linter.unusedSimpArgs false

def cmn : List UInt8 → List UInt8 → Nat
  | a :: x, b :: y => if a = b then cmn x y + 1 else 0
  | _, _ => 0
theorem cmn_comm : ∀ x y, cmn x y = cmn y x
  | [], [] => rfl
  | [], _ :: _ => rfl
  | _ :: _, [] => rfl
  | a :: x, b :: y => by
    by_cases h : a = b
    · subst h; simp [cmn, cmn_comm x y]
    · simp [cmn, h, Ne.symm h]
theorem cmn_eq : ∀ (k : Nat) (x y : List UInt8), (∀ i, i < k → x[i]? = y[i]?) → k ≤ x.length → k ≤ y.length → (k = x.length ∨ k = y.length ∨ x[k]? ≠ y[k]?) → cmn x y = k
  | 0, [], _, _, _, _, _ => by simp [cmn]
  | 0, _ :: _, [], _, _, _, _ => by simp [cmn]
  | 0, a :: x, b :: y, _, _, _, h => by
    simp at h
    simp [cmn, h]
  | k + 1, [], _, _, h, _, _ => by simp at h
  | k + 1, _ :: _, [], _, _, h, _ => by simp at h
  | k + 1, a :: x, b :: y, h, h1, h2, h3 => by
    have e : a = b := by have := h 0 (by omega); simpa using this
    subst e
    simp at h1 h2 h3
    simp [cmn, cmn_eq k x y (fun i hi => by have := h (i + 1) (by omega); simpa using this) h1 h2 (by simpa using h3)]
/-- the length of the longest common beginning -/
def cm (a b : ByteArray) : Nat := cmn a.data.toList b.data.toList
theorem cm_comm (a b : ByteArray) : cm a b = cm b a := cmn_comm _ _
theorem cmn_le : ∀ x y, cmn x y ≤ x.length ∧ cmn x y ≤ y.length
  | [], [] => by simp [cmn]
  | [], _ :: _ => by simp [cmn]
  | _ :: _, [] => by simp [cmn]
  | a :: x, b :: y => by
    have := cmn_le x y
    by_cases h : a = b <;> simp [cmn, h] <;> omega
theorem cm_le (a b : ByteArray) : cm a b ≤ a.size ∧ cm a b ≤ b.size := by
  have := cmn_le a.data.toList b.data.toList
  simpa [cm] using this
theorem cm_is {a b : ByteArray} {k : Nat} (h : ∀ i, i < k → a.data.toList[i]? = b.data.toList[i]?) (h1 : k ≤ a.size) (h2 : k ≤ b.size) (h3 : k = a.size ∨ k = b.size ∨ a.data.toList[k]? ≠ b.data.toList[k]?) : cm a b = k :=
  cmn_eq k _ _ h (by simpa using h1) (by simpa using h2) (by simpa using h3)
theorem byte_at {a : ByteArray} {k : Nat} (h : k < a.size) : a.data.toList[k]? = some a[k] := by
  rw [List.getElem?_eq_getElem (by simpa using h)]; rfl

set_option maxHeartbeats 1000000 in
set_option maxRecDepth 100000 in
theorem dcommon_any (a b : ByteArray) (w : World) (ha : a.size ≤ 5000000) (hb : b.size ≤ 5000000) : Calls Tryz.prog 170 #[.string a, .string b] w (Quiet (.int .i64 (cm a b : Nat)) w) := by
  go_enter Tryz.func170, Tryz.ntmps170
  go_wp2_with fail
  go_loopw [5] (fun i wr => ∃ k : Nat, k ≤ a.size ∧ k ≤ b.size ∧ i = .int .i64 k ∧ (∀ i, i < k → a.data.toList[i]? = b.data.toList[i]?) ∧ ∃ q, wr = w.drewN q) (fun i _ => a.size - (intOf i).toNat)
  case atStart => exact ⟨0, Nat.zero_le _, Nat.zero_le _, rfl, (fun i hi => absurd hi (by omega)), 0, rfl⟩
  case round =>
    obtain ⟨k, hka, hkb, rfl, hall, q, rfl⟩ := hrel
    have AL := Lib.hid hall
    clear hall
    by_cases h1 : k < a.size
    · have i1 : (k : Int) < (a.size : Int) := by omega
      by_cases h2 : k < b.size
      · have i2 : (k : Int) < (b.size : Int) := by omega
        by_cases he : a[k] = b[k]
        · have t1 : ((a[k].toNat : Int) == (b[k].toNat : Int)) = true := by simp [he]
          have HE := Lib.hid he
          clear he
          go_wp2_with fail
          go_quiet (fail)
          go_wp2_with fail
          go_roundw
          case rel =>
            refine ⟨k + 1, by omega, by omega, by go_num, fun i hi => ?_, _, rfl⟩
            rcases Nat.lt_or_ge i k with h | h
            · exact AL.out i h
            · obtain rfl : i = k := by omega
              rw [byte_at h1, byte_at h2, HE.out]
          case measure => simp [intOf]; omega
        · have t1 : ((a[k].toNat : Int) == (b[k].toNat : Int)) = false := by
            rw [beq_eq_false_iff_ne]; intro e; exact he (UInt8.toNat_inj.1 (by omega))
          have HC : Hid (cm a b = k) := cm_is AL.out hka hkb (.inr (.inr (by rw [byte_at h1, byte_at h2]; simpa using he)))
          clear he
          go_wp2_with fail
          go_quiet (fail)
          go_wp2_with fail
          go_ret
          exact ⟨by rw [HC.out]; rfl, _, World.drewN_drewN _ _ _⟩
      · have d1 : decide ((k : Int) < (b.size : Int)) = false := by simp; omega
        have HC : Hid (cm a b = k) := cm_is AL.out hka hkb (.inr (.inl (by omega)))
        go_wp2_with fail
        go_quiet (fail)
        go_wp2_with fail
        go_ret
        exact ⟨by rw [HC.out]; rfl, _, World.drewN_drewN _ _ _⟩
    · have d1 : decide ((k : Int) < (a.size : Int)) = false := by simp; omega
      have HC : Hid (cm a b = k) := cm_is AL.out hka hkb (.inl (by omega))
      go_wp2_with fail
      go_quiet (fail)
      go_wp2_with fail
      go_ret
      exact ⟨by rw [HC.out]; rfl, _, World.drewN_drewN _ _ _⟩

set_option maxHeartbeats 1000000 in
set_option maxRecDepth 100000 in
theorem rcommon_any (a b : ByteArray) (w : World) (ha : a.size ≤ 5000000) (hb : b.size ≤ 5000000) : Calls Tryz.prog 227 #[.string a, .string b] w (Quiet (.int .i64 (cm a b : Nat)) w) := by
  go_enter Tryz.func227, Tryz.ntmps227
  go_wp2_with fail
  go_loopw [5] (fun i wr => ∃ k : Nat, k ≤ a.size ∧ k ≤ b.size ∧ i = .int .i64 k ∧ (∀ i, i < k → a.data.toList[i]? = b.data.toList[i]?) ∧ ∃ q, wr = w.drewN q) (fun i _ => a.size - (intOf i).toNat)
  case atStart => exact ⟨0, Nat.zero_le _, Nat.zero_le _, rfl, (fun i hi => absurd hi (by omega)), 0, rfl⟩
  case round =>
    obtain ⟨k, hka, hkb, rfl, hall, q, rfl⟩ := hrel
    have AL := Lib.hid hall
    clear hall
    by_cases h1 : k < a.size
    · have i1 : (k : Int) < (a.size : Int) := by omega
      by_cases h2 : k < b.size
      · have i2 : (k : Int) < (b.size : Int) := by omega
        by_cases he : a[k] = b[k]
        · have t1 : ((a[k].toNat : Int) == (b[k].toNat : Int)) = true := by simp [he]
          have HE := Lib.hid he
          clear he
          go_wp2_with fail
          go_quiet (fail)
          go_wp2_with fail
          go_roundw
          case rel =>
            refine ⟨k + 1, by omega, by omega, by go_num, fun i hi => ?_, _, rfl⟩
            rcases Nat.lt_or_ge i k with h | h
            · exact AL.out i h
            · obtain rfl : i = k := by omega
              rw [byte_at h1, byte_at h2, HE.out]
          case measure => simp [intOf]; omega
        · have t1 : ((a[k].toNat : Int) == (b[k].toNat : Int)) = false := by
            rw [beq_eq_false_iff_ne]; intro e; exact he (UInt8.toNat_inj.1 (by omega))
          have HC : Hid (cm a b = k) := cm_is AL.out hka hkb (.inr (.inr (by rw [byte_at h1, byte_at h2]; simpa using he)))
          clear he
          go_wp2_with fail
          go_quiet (fail)
          go_wp2_with fail
          go_ret
          exact ⟨by rw [HC.out]; rfl, _, World.drewN_drewN _ _ _⟩
      · have d1 : decide ((k : Int) < (b.size : Int)) = false := by simp; omega
        have HC : Hid (cm a b = k) := cm_is AL.out hka hkb (.inr (.inl (by omega)))
        go_wp2_with fail
        go_quiet (fail)
        go_wp2_with fail
        go_ret
        exact ⟨by rw [HC.out]; rfl, _, World.drewN_drewN _ _ _⟩
    · have d1 : decide ((k : Int) < (a.size : Int)) = false := by simp; omega
      have HC : Hid (cm a b = k) := cm_is AL.out hka hkb (.inl (by omega))
      go_wp2_with fail
      go_quiet (fail)
      go_wp2_with fail
      go_ret
      exact ⟨by rw [HC.out]; rfl, _, World.drewN_drewN _ _ _⟩
end Go.Proofs.YtpaiideboodaeaaGreatDoor

namespace Go.Proofs.YtpaiideboodaeaaGreatDoor
open Go.RowKit
set_option linter.unusedVariables false
set_option linter.unusedSimpArgs false

def Asc (ds : List ByteArray) : Prop := ∀ i x y, ds[i]? = some x → ds[i + 1]? = some y → sl x y = true
def Long (ds : List ByteArray) : Prop := ∃ x ∈ ds, 2048 < x.size
open Classical in
/-- what keeps a list from being a dictionary -/
noncomputable def chk (ds : List ByteArray) : Int := if 32768 < ds.length then 4 else if Long ds then 3 else if Asc ds then 0 else 19

theorem long_any (s : ByteArray) (w : World) : Calls Tryz.prog 106 #[.string s] w (Quiet (.bool (decide (2048 < s.size))) w) := by
  go_enter Tryz.func106, Tryz.ntmps106
  go_wp2
  go_ret
  exact ⟨by simp; omega, 0, rfl⟩
def IdxPost (ds : List ByteArray) (w : World) (e : Ending) (w' : World) : Prop :=
  ∃ n : Int, e = .returned (.int .i64 n) ∧ (0 ≤ n ↔ Long ds) ∧ ∃ q, w' = w.drewN q
set_option maxHeartbeats 1000000 in
theorem indexfunc_any {S : Nat → Prop} (A : Option Addr) (ds : List ByteArray) (c : Nat) (w : World) (h : Rd S w A (ds.map .string)) (hl : ds.length ≤ 10000000) :
    Calls Tryz.prog 166 #[.slice A ds.length c, .func (.func 106) #[] #[]] w (IdxPost ds w) := by
  have H := Lib.hid h
  clear h
  go_enter Tryz.func166, Tryz.ntmps166
  go_wp2_with fail
  go_loopw [8] (fun i wr => ∃ k : Nat, k ≤ ds.length ∧ i = .int .i64 k ∧ (∀ i x, i < k → ds[i]? = some x → x.size ≤ 2048) ∧ ∃ q, wr = w.drewN q) (fun i _ => ds.length - (intOf i).toNat)
  case atStart => exact ⟨0, Nat.zero_le _, rfl, fun i x hi => absurd hi (by omega), 0, rfl⟩
  case round =>
    obtain ⟨k, hk, rfl, hall, q, rfl⟩ := hrel
    have AL := Lib.hid hall
    clear hall
    by_cases hlt : k < ds.length
    · obtain ⟨b, off, x, rfl, hc, hx⟩ := H.out.str_at hlt
      by_cases hs : 2048 < x.size
      · have hd : decide (2048 < x.size) = true := by simp [hs]
        go_wp2_with (go_at_call 106; refine (long_any _ _).mono ?_; rintro e w' ⟨rfl, n, rfl⟩)
        go_ret
        exact ⟨k, rfl, ⟨fun _ => ⟨x, List.mem_of_getElem? hx.out, hs⟩, fun _ => by omega⟩, _, rfl⟩
      · have hd : decide (2048 < x.size) = false := by simp; omega
        go_wp2_with (go_at_call 106; refine (long_any _ _).mono ?_; rintro e w' ⟨rfl, n, rfl⟩)
        go_roundw
        case rel =>
          refine ⟨k + 1, by omega, by go_num, fun i y hi hy => ?_, _, rfl⟩
          rcases Nat.lt_or_ge i k with h | h
          · exact AL.out i y h hy
          · obtain rfl : i = k := by omega
            rw [hx.out] at hy; injection hy with hy; rw [← hy]; omega
        case measure => simp [intOf]; omega
    · go_wp2_with fail
      go_ret
      refine ⟨-1, rfl, ⟨fun h => absurd h (by omega), ?_⟩, _, rfl⟩
      rintro ⟨x, hx, hs⟩
      obtain ⟨i, hi, hix⟩ := List.mem_iff_getElem.1 hx
      have := AL.out i x (by omega) (by rw [List.getElem?_eq_getElem hi, hix])
      omega
open Classical in
set_option maxHeartbeats 1000000 in
theorem contains_any {S : Nat → Prop} (A : Option Addr) (ds : List ByteArray) (c : Nat) (w : World) (h : Rd S w A (ds.map .string)) (hl : ds.length ≤ 10000000) :
    Calls Tryz.prog 105 #[.slice A ds.length c, .func (.func 106) #[] #[]] w (Quiet (.bool (decide (Long ds))) w) := by
  have H := Lib.hid h
  clear h
  go_enter Tryz.func105, Tryz.ntmps105
  go_wp2_with fail
  refine (indexfunc_any A ds c _ H.out hl).mono ?_
  rintro e w1 ⟨n, rfl, hn, q, rfl⟩
  have HN := Lib.hid hn
  clear hn
  go_wp2_with fail
  go_ret
  refine ⟨?_, _, rfl⟩
  have : decide (Long ds) = decide (0 ≤ n) := by rw [decide_eq_decide]; exact HN.out.symm
  rw [this]; rfl

open Classical in
set_option maxHeartbeats 1000000 in
theorem check_any {S : Nat → Prop} (A : Option Addr) (ds : List ByteArray) (c : Nat) (w : World) (h : Rd S w A (ds.map .string)) (hl : ds.length ≤ 10000000) :
    Calls Tryz.prog 168 #[.slice A ds.length c] w (Quiet (.int .i64 (chk ds)) w) := by
  have H := Lib.hid h
  clear h
  by_cases hbig : 32768 < ds.length
  · have HA : Hid (chk ds = 4) := by show chk ds = _; unfold chk; rw [if_pos hbig]
    go_enter Tryz.func168, Tryz.ntmps168
    go_wp2_with fail
    go_ret
    exact ⟨by rw [HA.out]; rfl, 0, rfl⟩
  have hdb : decide ((32768 : Int) < (ds.length : Int)) = false := by simp; omega
  by_cases hL : Long ds
  · have HA : Hid (chk ds = 3) := by show chk ds = _; unfold chk; rw [if_neg hbig, if_pos hL]
    have hd : decide (Long ds) = true := by simp [hL]
    clear hL
    go_enter Tryz.func168, Tryz.ntmps168
    go_wp2_with (go_at_call 105; refine (contains_any A ds c _ H.out hl).mono ?_; rintro e w' ⟨rfl, n, rfl⟩)
    go_ret
    exact ⟨by rw [HA.out]; rfl, _, rfl⟩
  have HA : Hid (chk ds = if Asc ds then 0 else 19) := by show chk ds = _; unfold chk; rw [if_neg (by omega), if_neg hL]
  have hd : decide (Long ds) = false := by simp [hL]
  clear hL
  go_enter Tryz.func168, Tryz.ntmps168
  go_wp2_with (go_at_call 105; refine (contains_any A ds c _ H.out hl).mono ?_; rintro e w' ⟨rfl, n, rfl⟩)
  go_loopw [3] (fun i wr => ∃ k : Nat, 1 ≤ k ∧ k ≤ ds.length + 1 ∧ (k ≤ ds.length ∨ ds.length = 0) ∧ i = .int .i64 k ∧ (∀ i x y, i + 1 < k → ds[i]? = some x → ds[i + 1]? = some y → sl x y = true) ∧ ∃ q, wr = w.drewN q) (fun i _ => ds.length - (intOf i).toNat)
  case atStart => exact ⟨1, by omega, by omega, by omega, rfl, (fun i x y hi => absurd hi (by omega)), _, rfl⟩
  case round =>
    obtain ⟨k, hk0, hk1, hk2, rfl, hall, q, rfl⟩ := hrel
    have AL := Lib.hid hall
    clear hall
    by_cases hlt : k < ds.length
    · obtain ⟨k, rfl⟩ : ∃ k', k = k' + 1 := ⟨k - 1, by omega⟩
      obtain ⟨b, off, x, rfl, hc, hx⟩ := H.out.str_at (k := k) (by omega)
      obtain ⟨y, hcy, hy⟩ := H.out.str_at' hlt
      have hwk : IntKind.i64.wrap (k : Int) = (k : Int) := IntWalk.i64_in _ (by omega)
      have i1 : (k : Int) < (ds.length : Int) := by omega
      have i2 : (k : Int) + 1 < (ds.length : Int) := by omega
      have i3 : (0 : Int) ≤ (k : Int) := by omega
      have i4 : (0 : Int) ≤ (k : Int) + 1 := by omega
      have i5 : ((k : Int) + 1).toNat = k + 1 := by omega
      by_cases hs : sl x y = true
      · have t1 : Op.bytesLess x.toList y.toList = true := hs
        have t2 : Op.bytesLess y.toList x.toList = false := sl_asymm hs
        have t3 : (y.toList == x.toList) = false := by
          rw [beq_eq_false_iff_ne]; intro e; rw [e, bl_irrefl] at t1; cases t1
        have HS := Lib.hid hs
        clear hs
        go_wp2
        go_quiet (fail)
        go_wp2
        go_roundw
        case rel =>
          refine ⟨k + 1 + 1, by omega, by omega, by omega, by go_num, fun i a b hi ha hb => ?_, _, rfl⟩
          rcases Nat.lt_or_ge (i + 1) (k + 1) with h | h
          · exact AL.out i a b h ha hb
          · obtain rfl : i = k := by omega
            rw [hx.out] at ha; rw [hy.out] at hb; injection ha with ha; injection hb with hb; rw [← ha, ← hb]; exact HS.out
        case measure => simp [intOf]; omega
      · have hs' : sl x y = false := by simpa using hs
        have t1 : Op.bytesLess x.toList y.toList = false := hs'
        have hr : chk ds = 19 := by
          rw [HA.out, if_neg (fun h => by have := h k x y hx.out hy.out; rw [hs'] at this; cases this)]
        have HR := Lib.hid hr
        clear hs hs' hr
        go_wp2
        go_quiet (fail)
        go_wp2
        go_ret
        exact ⟨by rw [HR.out]; rfl, _, World.drewN_drewN _ _ _⟩
    · have hr : chk ds = 0 := by
        rw [HA.out, if_pos (show Asc ds from fun i a b ha hb => AL.out i a b (by have := (List.getElem?_eq_some_iff.1 hb).1; omega) ha hb)]
      have HR := Lib.hid hr
      clear hr
      go_wp2
      go_ret
      exact ⟨by rw [HR.out]; rfl, _, rfl⟩
end Go.Proofs.YtpaiideboodaeaaGreatDoor

namespace Go.Proofs.YtpaiideboodaeaaGreatDoor
open Go.RowKit
set_option linter.unusedVariables false
set_option linter.unusedSimpArgs false

open Classical in
set_option maxHeartbeats 1000000 in
set_option maxRecDepth 100000 in
theorem rcheck_any {S : Nat → Prop} (A : Option Addr) (ds : List ByteArray) (c : Nat) (w : World) (h : Rd S w A (ds.map .string)) (hl : ds.length ≤ 10000000) :
    Calls Tryz.prog 226 #[.slice A ds.length c] w (Quiet (.int .i64 (chk ds)) w) := by
  have H := Lib.hid h
  clear h
  by_cases hbig : 32768 < ds.length
  · have HA : Hid (chk ds = 4) := by show chk ds = _; unfold chk; rw [if_pos hbig]
    go_enter Tryz.func226, Tryz.ntmps226
    go_wp2_with fail
    go_ret
    exact ⟨by rw [HA.out]; rfl, 0, rfl⟩
  have hdb : decide ((32768 : Int) < (ds.length : Int)) = false := by simp; omega
  go_enter Tryz.func226, Tryz.ntmps226
  go_wp2_with fail
  go_loopw [3] (fun i wr => ∃ k : Nat, k ≤ ds.length ∧ i = .int .i64 k ∧ (∀ i x, i < k → ds[i]? = some x → x.size ≤ 2048) ∧ ∃ q, wr = w.drewN q) (fun i _ => ds.length - (intOf i).toNat)
  case atStart => exact ⟨0, Nat.zero_le _, rfl, fun i x hi => absurd hi (by omega), 0, rfl⟩
  case round =>
    obtain ⟨k, hk, rfl, hall, q, rfl⟩ := hrel
    have AL := Lib.hid hall
    clear hall
    by_cases hlt : k < ds.length
    · obtain ⟨b, off, x, rfl, hc, hx⟩ := H.out.str_at hlt
      by_cases hs : 2048 < x.size
      · have HA : Hid (chk ds = 3) := by show chk ds = _; unfold chk; rw [if_neg hbig, if_pos ⟨x, List.mem_of_getElem? hx.out, hs⟩]
        go_wp2_with fail
        go_ret
        exact ⟨by rw [HA.out]; rfl, _, rfl⟩
      · go_wp2_with fail
        go_roundw
        case rel =>
          refine ⟨k + 1, by omega, by go_num, fun i y hi hy => ?_, _, rfl⟩
          rcases Nat.lt_or_ge i k with h | h
          · exact AL.out i y h hy
          · obtain rfl : i = k := by omega
            rw [hx.out] at hy; injection hy with hy; rw [← hy]; omega
        case measure => simp [intOf]; omega
    · have hL : ¬ Long ds := by
        rintro ⟨x, hx, hs⟩
        obtain ⟨i, hi, hix⟩ := List.mem_iff_getElem.1 hx
        have := AL.out i x (by omega) (by rw [List.getElem?_eq_getElem hi, hix])
        omega
      have HA : Hid (chk ds = if Asc ds then 0 else 19) := by show chk ds = _; unfold chk; rw [if_neg (by omega), if_neg hL]
      clear hL AL
      go_wp2_with fail
      clear hlt hk
      go_loopw [4] (fun i wr => ∃ k : Nat, 1 ≤ k ∧ k ≤ ds.length + 1 ∧ (k ≤ ds.length ∨ ds.length = 0) ∧ i = .int .i64 k ∧ (∀ i x y, i + 1 < k → ds[i]? = some x → ds[i + 1]? = some y → sl x y = true) ∧ ∃ q, wr = w.drewN q) (fun i _ => ds.length - (intOf i).toNat)
      case atStart => exact ⟨1, by omega, by omega, by omega, rfl, (fun i x y hi => absurd hi (by omega)), _, rfl⟩
      case round =>
        obtain ⟨k, hk0, hk1, hk2, rfl, hall, q, rfl⟩ := hrel
        have AL := Lib.hid hall
        clear hall
        by_cases hlt : k < ds.length
        · obtain ⟨k, rfl⟩ : ∃ k', k = k' + 1 := ⟨k - 1, by omega⟩
          obtain ⟨b, off, x, rfl, hc, hx⟩ := H.out.str_at (k := k) (by omega)
          obtain ⟨y, hcy, hy⟩ := H.out.str_at' hlt
          have hwk : IntKind.i64.wrap (k : Int) = (k : Int) := IntWalk.i64_in _ (by omega)
          have i1 : (k : Int) < (ds.length : Int) := by omega
          have i2 : (k : Int) + 1 < (ds.length : Int) := by omega
          have i3 : (0 : Int) ≤ (k : Int) := by omega
          have i4 : (0 : Int) ≤ (k : Int) + 1 := by omega
          have i5 : ((k : Int) + 1).toNat = k + 1 := by omega
          by_cases hs : sl x y = true
          · have t1 : Op.bytesLess x.toList y.toList = true := hs
            have t2 : Op.bytesLess y.toList x.toList = false := sl_asymm hs
            have t3 : (y.toList == x.toList) = false := by
              rw [beq_eq_false_iff_ne]; intro e; rw [e, bl_irrefl] at t1; cases t1
            have HS := Lib.hid hs
            clear hs
            go_wp2
            go_quiet (fail)
            go_wp2
            go_roundw
            case rel =>
              refine ⟨k + 1 + 1, by omega, by omega, by omega, by go_num, fun i a b hi ha hb => ?_, _, rfl⟩
              rcases Nat.lt_or_ge (i + 1) (k + 1) with h | h
              · exact AL.out i a b h ha hb
              · obtain rfl : i = k := by omega
                rw [hx.out] at ha; rw [hy.out] at hb; injection ha with ha; injection hb with hb; rw [← ha, ← hb]; exact HS.out
            case measure => simp [intOf]; omega
          · have hs' : sl x y = false := by simpa using hs
            have t1 : Op.bytesLess x.toList y.toList = false := hs'
            have hr : chk ds = 19 := by
              rw [HA.out, if_neg (fun h => by have := h k x y hx.out hy.out; rw [hs'] at this; cases this)]
            have HR := Lib.hid hr
            clear hs hs' hr
            have t4 : (Op.bytesLess y.toList x.toList || y.toList == x.toList) = true := by
              cases h : Op.bytesLess y.toList x.toList with
              | true => rfl
              | false => simp; exact bl_tri _ _ h t1
            go_wp2
            go_quiet (fail)
            go_wp2
            go_ret
            exact ⟨by rw [HR.out]; rfl, _, World.drewN_drewN _ _ _⟩
        · have hr : chk ds = 0 := by
            rw [HA.out, if_pos (show Asc ds from fun i a b ha hb => AL.out i a b (by have := (List.getElem?_eq_some_iff.1 hb).1; omega) ha hb)]
          have HR := Lib.hid hr
          clear hr
          go_wp2
          go_ret
          exact ⟨by rw [HR.out]; rfl, _, rfl⟩
end Go.Proofs.YtpaiideboodaeaaGreatDoor

namespace Go.Proofs.YtpaiideboodaeaaGreatDoor
open Go.RowKit
set_option linter.unusedVariables false
set_option linter.unusedSimpArgs false

/-- the bytes of the word at i -/
def wordB (ds : List ByteArray) (i : Nat) : List Int :=
  match ds[i]? with
  | none => []
  | some x => if i % 16 = 0 then vint x.size ++ bts x else
    match ds[i - 1]? with
    | none => []
    | some y => vint (cm y x) ++ (vint (x.size - cm y x) ++ bts (x.extract (cm y x) x.size))
def encTo (ds : List ByteArray) : Nat → List Int
  | 0 => vint ds.length
  | k + 1 => encTo ds k ++ wordB ds k
def encB (ds : List ByteArray) : List Int := encTo ds ds.length
theorem wordB_0 {ds : List ByteArray} {i : Nat} {x : ByteArray} (hx : ds[i]? = some x) (h : i % 16 = 0) : wordB ds i = vint x.size ++ bts x := by
  simp [wordB, hx, h]
theorem wordB_1 {ds : List ByteArray} {i : Nat} {x y : ByteArray} (hx : ds[i]? = some x) (hy : ds[i - 1]? = some y) (h : ¬ i % 16 = 0) : wordB ds i = vint (cm y x) ++ (vint (x.size - cm y x) ++ bts (x.extract (cm y x) x.size)) := by
  simp [wordB, hx, hy, h]
theorem vint_len3 {n : Nat} (h : n ≤ 2000000) : (vint n).length ≤ 3 := vint_len_pow 2 n (Nat.lt_of_le_of_lt h (by decide))
theorem wordB_len {ds : List ByteArray} (h : ¬ Long ds) (i : Nat) : (wordB ds i).length ≤ 2060 := by
  unfold wordB
  cases hx : ds[i]? with
  | none => simp
  | some x =>
    have hs : x.size ≤ 2048 := by
      rcases Nat.lt_or_ge 2048 x.size with h1 | h1
      · exact absurd ⟨x, List.mem_of_getElem? hx, h1⟩ h
      · exact h1
    simp only
    split
    · have := vint_len3 (n := x.size) (by omega)
      rw [List.length_append, bts_len]; omega
    · cases hy : ds[i - 1]? with
      | none => simp
      | some y =>
        have hc := cm_le y x
        have h1 := vint_len3 (n := cm y x) (by omega)
        have h2 := vint_len3 (n := x.size - cm y x) (by omega)
        simp only [List.length_append, bts_len, ByteArray.size_extract]
        omega
theorem wordB_len2 {ds : List ByteArray} (h : ∀ x ∈ ds, x.size ≤ 250) (i : Nat) : (wordB ds i).length ≤ 256 := by
  unfold wordB
  cases hx : ds[i]? with
  | none => simp
  | some x =>
    have hs : x.size ≤ 250 := h x (List.mem_of_getElem? hx)
    simp only
    split
    · have := vint_len3 (n := x.size) (by omega)
      rw [List.length_append, bts_len]; omega
    · cases hy : ds[i - 1]? with
      | none => simp
      | some y =>
        have hc := cm_le y x
        have h1 := vint_len3 (n := cm y x) (by omega)
        have h2 := vint_len3 (n := x.size - cm y x) (by omega)
        simp only [List.length_append, bts_len, ByteArray.size_extract]
        omega
theorem encTo_len {ds : List ByteArray} (h : ¬ Long ds) (hl : ds.length ≤ 32768) : ∀ k, (encTo ds k).length ≤ 3 + 2060 * k
  | 0 => by have := vint_len3 (n := ds.length) (by omega); simpa [encTo] using this
  | k + 1 => by
    have h1 := encTo_len h hl k
    have h2 := wordB_len h k
    simp only [encTo, List.length_append]
    omega
theorem encTo_len2 {ds : List ByteArray} (h : ∀ x ∈ ds, x.size ≤ 250) (hl : ds.length ≤ 32768) : ∀ k, (encTo ds k).length ≤ 3 + 256 * k
  | 0 => by have := vint_len3 (n := ds.length) (by omega); simpa [encTo] using this
  | k + 1 => by
    have h1 := encTo_len2 h hl k
    have h2 := wordB_len2 h k
    simp only [encTo, List.length_append]
    omega
theorem chk_long {ds : List ByteArray} (h : chk ds = 0) : ¬ Long ds ∧ ds.length ≤ 32768 := by
  unfold chk at h
  split at h
  · cases h
  · split at h
    · cases h
    · rename_i h1 h2; exact ⟨h2, by omega⟩
/-- what Encode hands back -/
noncomputable def encR (ds : List ByteArray) : List Int := if chk ds = 0 then encB ds else []
theorem encR_ok {ds : List ByteArray} (h : chk ds = 0) : encR ds = encB ds := by unfold encR; rw [if_pos h]
theorem encR_no {ds : List ByteArray} (h : ¬ chk ds = 0) : encR ds = [] := by unfold encR; rw [if_neg h]
theorem encR_len (ds : List ByteArray) (hl : ds.length ≤ 8000) : (encR ds).length ≤ 17000000 := by
  by_cases h : chk ds = 0
  · rw [encR_ok h]; have := encTo_len (chk_long h).1 (chk_long h).2 ds.length; unfold encB; omega
  · rw [encR_no h]; simp
theorem encR_len2 {ds : List ByteArray} (h : ∀ x ∈ ds, x.size ≤ 250) (hl : ds.length ≤ 8000) : (encR ds).length ≤ 2100000 := by
  by_cases h2 : chk ds = 0
  · rw [encR_ok h2]; have := encTo_len2 h (by omega) ds.length; unfold encB; omega
  · rw [encR_no h2]; simp
def EncPost (w : World) (ds : List ByteArray) (e : Ending) (w' : World) : Prop :=
  ∃ v, e = .returned (.tuple #[v, .int .i64 (chk ds)]) ∧ Byts w.heap.size w' v (encR ds) ∧ w.grownBy w' none

set_option maxHeartbeats 2000000 in
set_option maxRecDepth 100000 in
theorem dencode_any {S : Nat → Prop} (A : Option Addr) (ds : List ByteArray) (c : Nat) (w : World) (h : Rd S w A (ds.map .string)) (hl : ds.length ≤ 8000) (hz8 : ∀ x ∈ ds, x.size ≤ 250) :
    Calls Tryz.prog 109 #[.slice A ds.length c] w (EncPost w ds) := by
  have H := Lib.hid h
  have HZ8 := Lib.hid hz8
  clear h hz8
  by_cases hk : chk ds = 0
  · have HK := Lib.hid hk
    have hq : (chk ds != 0) = false := by simp [hk]
    obtain ⟨hL, -⟩ := chk_long hk
    have HL := Lib.hid hL
    clear hk hL
    go_enter Tryz.func109, Tryz.ntmps109
    go_wp2_with fail
    refine (check_any A ds c _ H.out (by omega)).mono ?_
    rintro e w1 ⟨rfl, n1, rfl⟩
    go_wp2_with fail
    refine (dvarint_any w.heap.size (.slice none 0 0) [] ds.length _ (Byts.nil _ _) (by simp) (by omega) (by exact Nat.le_refl _)).mono ?_
    rintro e w2 ⟨v2, rfl, hB2, hO2⟩
    have G2 : Hid (w.grownBy w2 none) := only_trans (only_drewN (only_refl _ _) n1) hO2.1
    have B2 := Lib.hid hB2
    clear hB2 hO2
    go_wp2_with fail
    go_loopw [5, 19] (fun v i wr => ∃ k : Nat, k ≤ ds.length ∧ i = .int .i64 k ∧ Byts w.heap.size wr v (encTo ds k) ∧ w.grownBy wr none) (fun _ i _ => ds.length - (intOf i).toNat)
    case atStart => exact ⟨0, Nat.zero_le _, rfl, by simpa [encTo] using B2.out, G2.out⟩
    case round =>
      obtain ⟨k, hk, rfl, hB, hG⟩ := hrel
      have HB := Lib.hid hB
      have HG := Lib.hid hG
      have hz := hG.size
      have hel := encTo_len2 HZ8.out (by omega) k
      clear hB hG B2 G2
      by_cases hlt : k < ds.length
      · obtain ⟨b, off, x, rfl, hc, hx⟩ := (H.out.grown HG.out (by simp)).str_at hlt
        have hxs : x.size ≤ 2048 := by
          rcases Nat.lt_or_ge 2048 x.size with h1 | h1
          · exact absurd ⟨x, List.mem_of_getElem? hx.out, h1⟩ HL.out
          · exact h1
        by_cases h16 : k % 16 = 0
        · have t1 : (((k : Int) % 16) != 0) = false := by simp; omega
          have HW := Lib.hid (wordB_0 hx.out h16)
          clear h16
          go_wp2_with fail
          refine (dvarint_any w.heap.size _ _ x.size _ HB.out (by omega) (by omega) hz).mono ?_
          rintro e w3 ⟨v3, rfl, hB3, hO3⟩
          have HB3 := Lib.hid hB3
          have G3 : Hid (w.grownBy w3 none) := HB.out.only hO3 HG.out (Nat.le_refl _)
          have hz3 := G3.out.size
          have hl3 := vint_len3 (n := x.size) (by omega)
          clear hB3 hO3
          go_wp2_with (at_builtin; refine wpList_appendS rfl _ _ 22 9 rfl w.heap.size Tryz.underlying22 Tryz.underlying9 byteInfo (v := _) (by rfl) HB3.out x (by rfl) (by rw [List.length_append]; omega) hz3 ?_; intro v4 w4 hB4 hg4)
          have HB4 : Hid (Byts w.heap.size w4 v4 (encTo ds (k + 1))) := by
            show Byts w.heap.size w4 v4 (encTo ds k ++ wordB ds k)
            rw [HW.out, ← List.append_assoc]; exact hB4
          have G4 : Hid (w.grownBy w4 none) := only_own G3.out hg4 HB3.out (Nat.le_refl _)
          clear hB4 hg4
          go_wp2_with fail
          go_roundw
          case rel => exact ⟨k + 1, by omega, by go_num, HB4.out, G4.out⟩
          case measure => simp [intOf]; omega
        · obtain ⟨j, rfl⟩ : ∃ j, k = j + 1 := ⟨k - 1, by omega⟩
          obtain ⟨y, hcy, hy⟩ := (H.out.grown HG.out (by simp)).str_at' (k := j) (by omega)
          have hys : y.size ≤ 2048 := by
            rcases Nat.lt_or_ge 2048 y.size with h1 | h1
            · exact absurd ⟨y, List.mem_of_getElem? hy.out, h1⟩ HL.out
            · exact h1
          have HW := Lib.hid (wordB_1 hx.out (by simpa using hy.out) h16)
          have t1 : ((((j + 1 : Nat) : Int) % 16) != 0) = true := by simp; omega
          have t2 : ((((j : Nat) : Int) + 1) % 16 != 0) = true := by simp; omega
          have hcl := cm_le y x
          clear h16
          go_wp2_with fail
          refine (dcommon_any y x _ (by omega) (by omega)).mono ?_
          rintro e w3 ⟨rfl, n3, rfl⟩
          go_wp2_with fail
          refine (dvarint_any w.heap.size _ _ (cm y x) _ (HB.out.drewN _) (by omega) (by omega) (by exact hz)).mono ?_
          rintro e w4 ⟨v4, rfl, hB4, hO4⟩
          have HB4 := Lib.hid hB4
          have G4 : Hid (w.grownBy w4 none) := Byts.only (HB.out.drewN n3) hO4 (only_drewN HG.out n3) (Nat.le_refl _)
          have hz4 := G4.out.size
          have hl4 := vint_len3 (n := cm y x) (by omega)
          have hci : (cm y x : Int) ≤ (x.size : Int) := by omega
          clear hB4 hO4
          go_wp2_with fail
          refine (dvarint_any w.heap.size _ _ (x.size - cm y x) _ HB4.out (by rw [List.length_append]; omega) (by omega) hz4).mono ?_
          rintro e w5 ⟨v5, rfl, hB5, hO5⟩
          have HB5 := Lib.hid hB5
          have G5 : Hid (w.grownBy w5 none) := Byts.only HB4.out hO5 G4.out (Nat.le_refl _)
          have hz5 := G5.out.size
          have hl5 := vint_len3 (n := x.size - cm y x) (by omega)
          clear hB5 hO5
          go_wp2_with (at_builtin; refine wpList_appendS rfl _ _ 22 9 rfl w.heap.size Tryz.underlying22 Tryz.underlying9 byteInfo (v := _) (by rfl) HB5.out (x.extract (cm y x) x.size) (by rfl) (by rw [List.length_append, List.length_append, ByteArray.size_extract]; omega) hz5 ?_; intro v6 w6 hB6 hg6)
          have HB6 : Hid (Byts w.heap.size w6 v6 (encTo ds (j + 1 + 1))) := by
            show Byts w.heap.size w6 v6 (encTo ds (j + 1) ++ wordB ds (j + 1))
            rw [HW.out, ← List.append_assoc, ← List.append_assoc]; exact hB6
          have G6 : Hid (w.grownBy w6 none) := only_own G5.out hg6 HB5.out (Nat.le_refl _)
          clear hB6 hg6
          go_wp2_with fail
          go_roundw
          case rel => exact ⟨j + 1 + 1, by omega, by go_num, HB6.out, G6.out⟩
          case measure => simp [intOf]; omega
      · obtain rfl : k = ds.length := by omega
        go_wp2_with fail
        go_ret2
        exact ⟨_, by rw [HK.out]; rfl, by rw [encR_ok HK.out]; exact HB.out, HG.out⟩
  · have hq : (chk ds != 0) = true := by simp [hk]
    have HK := Lib.hid hk
    clear hk
    go_enter Tryz.func109, Tryz.ntmps109
    go_wp2_with fail
    refine (check_any A ds c _ H.out (by omega)).mono ?_
    rintro e w1 ⟨rfl, n1, rfl⟩
    go_wp2_with fail
    go_ret2
    exact ⟨_, rfl, by rw [encR_no HK.out]; exact Byts.nil _ _, only_drewN (only_refl _ _) _⟩
end Go.Proofs.YtpaiideboodaeaaGreatDoor

namespace Go.Proofs.YtpaiideboodaeaaGreatDoor
open Go.RowKit
set_option linter.unusedVariables false
set_option linter.unusedSimpArgs false

set_option maxHeartbeats 2000000 in
set_option maxRecDepth 100000 in
theorem rencode_any {S : Nat → Prop} (A : Option Addr) (ds : List ByteArray) (c : Nat) (w : World) (h : Rd S w A (ds.map .string)) (hl : ds.length ≤ 8000) (hz8 : ∀ x ∈ ds, x.size ≤ 250) :
    Calls Tryz.prog 196 #[.slice A ds.length c] w (EncPost w ds) := by
  have H := Lib.hid h
  have HZ8 := Lib.hid hz8
  clear h hz8
  by_cases hk : chk ds = 0
  · have HK := Lib.hid hk
    have hq : (chk ds != 0) = false := by simp [hk]
    obtain ⟨hL, -⟩ := chk_long hk
    have HL := Lib.hid hL
    clear hk hL
    go_enter Tryz.func196, Tryz.ntmps196
    go_wp2_with fail
    refine (rcheck_any A ds c _ H.out (by omega)).mono ?_
    rintro e w1 ⟨rfl, n1, rfl⟩
    go_wp2_with fail
    refine (rvarint_any w.heap.size (.slice none 0 0) [] ds.length _ (Byts.nil _ _) (by simp) (by omega) (by exact Nat.le_refl _)).mono ?_
    rintro e w2 ⟨v2, rfl, hB2, hO2⟩
    have G2 : Hid (w.grownBy w2 none) := only_trans (only_drewN (only_refl _ _) n1) hO2.1
    have B2 := Lib.hid hB2
    clear hB2 hO2
    go_wp2_with fail
    go_loopw [5, 6] (fun v i wr => ∃ k : Nat, k ≤ ds.length ∧ i = .int .i64 k ∧ Byts w.heap.size wr v (encTo ds k) ∧ w.grownBy wr none) (fun _ i _ => ds.length - (intOf i).toNat)
    case atStart => exact ⟨0, Nat.zero_le _, rfl, by simpa [encTo] using B2.out, G2.out⟩
    case round =>
      obtain ⟨k, hk, rfl, hB, hG⟩ := hrel
      have HB := Lib.hid hB
      have HG := Lib.hid hG
      have hz := hG.size
      have hel := encTo_len2 HZ8.out (by omega) k
      clear hB hG B2 G2
      by_cases hlt : k < ds.length
      · obtain ⟨b, off, x, rfl, hc, hx⟩ := (H.out.grown HG.out (by simp)).str_at hlt
        have hxs : x.size ≤ 2048 := by
          rcases Nat.lt_or_ge 2048 x.size with h1 | h1
          · exact absurd ⟨x, List.mem_of_getElem? hx.out, h1⟩ HL.out
          · exact h1
        by_cases h16 : k % 16 = 0
        · have t1 : (((k : Int) % 16) != 0) = false := by simp; omega
          have HW := Lib.hid (wordB_0 hx.out h16)
          clear h16
          go_wp2_with fail
          refine (rvarint_any w.heap.size _ _ x.size _ HB.out (by omega) (by omega) hz).mono ?_
          rintro e w3 ⟨v3, rfl, hB3, hO3⟩
          have HB3 := Lib.hid hB3
          have G3 : Hid (w.grownBy w3 none) := HB.out.only hO3 HG.out (Nat.le_refl _)
          have hz3 := G3.out.size
          have hl3 := vint_len3 (n := x.size) (by omega)
          have hc3 := Rd.str_cell (H.out.grown G3.out (by simp)) hx.out
          clear hB3 hO3
          go_wp2_with (at_builtin; refine wpList_appendS rfl _ _ 22 9 rfl w.heap.size Tryz.underlying22 Tryz.underlying9 byteInfo (v := _) (by rfl) HB3.out x (by rfl) (by rw [List.length_append]; omega) hz3 ?_; intro v4 w4 hB4 hg4)
          have HB4 : Hid (Byts w.heap.size w4 v4 (encTo ds (k + 1))) := by
            show Byts w.heap.size w4 v4 (encTo ds k ++ wordB ds k)
            rw [HW.out, ← List.append_assoc]; exact hB4
          have G4 : Hid (w.grownBy w4 none) := only_own G3.out hg4 HB3.out (Nat.le_refl _)
          clear hB4 hg4
          go_wp2_with fail
          go_roundw
          case rel => exact ⟨k + 1, by omega, by go_num, HB4.out, G4.out⟩
          case measure => simp [intOf]; omega
        · obtain ⟨j, rfl⟩ : ∃ j, k = j + 1 := ⟨k - 1, by omega⟩
          obtain ⟨y, hcy, hy⟩ := (H.out.grown HG.out (by simp)).str_at' (k := j) (by omega)
          have hys : y.size ≤ 2048 := by
            rcases Nat.lt_or_ge 2048 y.size with h1 | h1
            · exact absurd ⟨y, List.mem_of_getElem? hy.out, h1⟩ HL.out
            · exact h1
          have HW := Lib.hid (wordB_1 hx.out (by simpa using hy.out) h16)
          have t1 : ((((j + 1 : Nat) : Int) % 16) != 0) = true := by simp; omega
          have t2 : ((((j : Nat) : Int) + 1) % 16 != 0) = true := by simp; omega
          have hcl := cm_le y x
          have HCC := Lib.hid (cm_comm x y)
          have hwk : IntKind.i64.wrap (j : Int) = (j : Int) := IntWalk.i64_in _ (by omega)
          have i1 : (j : Int) < (ds.length : Int) := by omega
          have i2 : (j : Int) + 1 < (ds.length : Int) := by omega
          have i3 : (0 : Int) ≤ (j : Int) := by omega
          have i4 : (0 : Int) ≤ (j : Int) + 1 := by omega
          have i5 : ((j : Int) + 1).toNat = j + 1 := by omega
          clear h16
          go_wp2_with fail
          go_quiet ((go_at_call 227; exact quiet_of0 (rcommon_any x y _ (by omega) (by omega))))
          rw [HCC.out]
          have hci : (cm y x : Int) ≤ (x.size : Int) := by omega
          have hcj : (0 : Int) ≤ (x.size : Int) - (cm y x : Int) := by omega
          clear hwk i5
          go_wp2_with fail
          refine (rvarint_any w.heap.size _ _ (cm y x) _ (HB.out.drewN _) (by omega) (by omega) (by exact hz)).mono ?_
          rintro e w4 ⟨v4, rfl, hB4, hO4⟩
          have HB4 := Lib.hid hB4
          have G4 : Hid (w.grownBy w4 none) := Byts.only (HB.out.drewN nq) hO4 (only_drewN HG.out nq) (Nat.le_refl _)
          have hz4 := G4.out.size
          have hl4 := vint_len3 (n := cm y x) (by omega)
          have hc4 := Rd.str_cell (H.out.grown G4.out (by simp)) hx.out
          clear hB4 hO4
          go_wp2_with fail
          rw [show ((x.size : Int) - (cm y x : Int)) = ((x.size - cm y x : Nat) : Int) from by omega]
          refine (rvarint_any w.heap.size _ _ (x.size - cm y x) _ HB4.out (by rw [List.length_append]; omega) (by omega) hz4).mono ?_
          rintro e w5 ⟨v5, rfl, hB5, hO5⟩
          have HB5 := Lib.hid hB5
          have G5 : Hid (w.grownBy w5 none) := Byts.only HB4.out hO5 G4.out (Nat.le_refl _)
          have hz5 := G5.out.size
          have hl5 := vint_len3 (n := x.size - cm y x) (by omega)
          have hc5 := Rd.str_cell (H.out.grown G5.out (by simp)) hx.out
          clear hB5 hO5
          go_wp2_with (at_builtin; refine wpList_appendS rfl _ _ 22 9 rfl w.heap.size Tryz.underlying22 Tryz.underlying9 byteInfo (v := _) (by rfl) HB5.out (x.extract (cm y x) x.size) (by rfl) (by rw [List.length_append, List.length_append, ByteArray.size_extract]; omega) hz5 ?_; intro v6 w6 hB6 hg6)
          have HB6 : Hid (Byts w.heap.size w6 v6 (encTo ds (j + 1 + 1))) := by
            show Byts w.heap.size w6 v6 (encTo ds (j + 1) ++ wordB ds (j + 1))
            rw [HW.out, ← List.append_assoc, ← List.append_assoc]; exact hB6
          have G6 : Hid (w.grownBy w6 none) := only_own G5.out hg6 HB5.out (Nat.le_refl _)
          clear hB6 hg6
          go_wp2_with fail
          go_roundw
          case rel => exact ⟨j + 1 + 1, by omega, by go_num, HB6.out, G6.out⟩
          case measure => simp [intOf]; omega
      · obtain rfl : k = ds.length := by omega
        go_wp2_with fail
        go_ret2
        exact ⟨_, by rw [HK.out]; rfl, by rw [encR_ok HK.out]; exact HB.out, HG.out⟩
  · have hq : (chk ds != 0) = true := by simp [hk]
    have HK := Lib.hid hk
    clear hk
    go_enter Tryz.func196, Tryz.ntmps196
    go_wp2_with fail
    refine (rcheck_any A ds c _ H.out (by omega)).mono ?_
    rintro e w1 ⟨rfl, n1, rfl⟩
    go_wp2_with fail
    go_ret2
    exact ⟨_, rfl, by rw [encR_no HK.out]; exact Byts.nil _ _, only_drewN (only_refl _ _) _⟩
end Go.Proofs.YtpaiideboodaeaaGreatDoor
