/- slices.Compare at strings, cmp.Compare at strings; the order of keys. Condition: sizes. -/
import Derived.Test.YtfkgcighooijhaaGreatDoorStr
import Derived.Deep.RegionLaw
namespace Go.Proofs.YtfkgcighooijhaaGreatDoor
open Go.RowKit
set_option linter.unusedVariables false
set_option linter.unusedSimpArgs false

/-- the order of two keys: -1, 0 or 1 -/
def cmpK : List ByteArray → List ByteArray → Int
  | [], [] => 0
  | [], _ :: _ => -1
  | _ :: _, [] => 1
  | x :: xs, y :: ys => if sl x y then -1 else if sl y x then 1 else cmpK xs ys
theorem cmpK_self : ∀ a : List ByteArray, cmpK a a = 0
  | [] => rfl
  | x :: xs => by simp [cmpK, sl_irrefl, cmpK_self xs]
theorem cmpK_anti : ∀ a b : List ByteArray, cmpK a b = -cmpK b a
  | [], [] => rfl
  | [], _ :: _ => rfl
  | _ :: _, [] => rfl
  | x :: xs, y :: ys => by
    unfold cmpK
    by_cases h1 : sl x y = true
    · have h2 : sl y x = false := sl_asymm h1
      simp [h1, h2]
    · have h1' : sl x y = false := by simpa using h1
      by_cases h2 : sl y x = true
      · simp [h1', h2]
      · have h2' : sl y x = false := by simpa using h2
        simp [h1', h2']
        exact cmpK_anti xs ys
theorem cmpK_range : ∀ a b : List ByteArray, -1 ≤ cmpK a b ∧ cmpK a b ≤ 1
  | [], [] => by decide
  | [], _ :: _ => by simp [cmpK]
  | _ :: _, [] => by simp [cmpK]
  | x :: xs, y :: ys => by
    unfold cmpK
    split
    · omega
    · split
      · omega
      · exact cmpK_range xs ys
structure AggD where
  kind : Int
  field : ByteArray
def AggD.cells (x : AggD) : List Value := [.int .i64 x.kind, .string x.field]
theorem AggD.cells_len (e : AggD) : e.cells.length = 2 := rfl
def AggOk (a : AggD) : Prop := 0 ≤ a.kind ∧ a.kind ≤ 4 ∧ a.field.size ≤ 20
/-- the order of two strings -/
def cmpS (x y : ByteArray) : Int := if sl x y then -1 else if sl y x then 1 else 0
theorem cmpS_eq {x y : ByteArray} (h : cmpS x y = 0) : x = y := by
  unfold cmpS at h
  by_cases h1 : sl x y = true
  · simp [h1] at h
  · have h1' : sl x y = false := by simpa using h1
    by_cases h2 : sl y x = true
    · simp [h1', h2] at h
    · exact sl_tri h1' (by simpa using h2)
theorem cmpK_cons (x y : ByteArray) (xs ys : List ByteArray) : cmpK (x :: xs) (y :: ys) = if cmpS x y = 0 then cmpK xs ys else cmpS x y := by
  unfold cmpS
  rw [cmpK]
  by_cases h1 : sl x y = true
  · simp [h1]
  · have h1' : sl x y = false := by simpa using h1
    by_cases h2 : sl y x = true
    · simp [h1', h2]
    · have h2' : sl y x = false := by simpa using h2
      simp [h1', h2']
theorem cmpK_at {a b : List ByteArray} {k : Nat} {x y : ByteArray} (hx : a[k]? = some x) (hy : b[k]? = some y) : cmpK (a.drop k) (b.drop k) = if cmpS x y = 0 then cmpK (a.drop (k + 1)) (b.drop (k + 1)) else cmpS x y := by
  obtain ⟨h1, rfl⟩ := List.getElem?_eq_some_iff.1 hx
  obtain ⟨h2, rfl⟩ := List.getElem?_eq_some_iff.1 hy
  rw [← List.getElem_cons_drop h1, ← List.getElem_cons_drop h2, cmpK_cons]
theorem cmpK_end1 {a b : List ByteArray} {k : Nat} (h1 : a.length ≤ k) (h2 : k < b.length) : cmpK (a.drop k) (b.drop k) = -1 := by
  rw [List.drop_eq_nil_of_le h1, ← List.getElem_cons_drop h2]; rfl
theorem cmpK_end2 {a b : List ByteArray} {k : Nat} (h1 : k < a.length) (h2 : b.length ≤ k) : cmpK (a.drop k) (b.drop k) = 1 := by
  rw [List.drop_eq_nil_of_le h2, ← List.getElem_cons_drop h1]; rfl
theorem cmpK_end3 {a b : List ByteArray} {k : Nat} (h1 : a.length ≤ k) (h2 : b.length ≤ k) : cmpK (a.drop k) (b.drop k) = 0 := by
  rw [List.drop_eq_nil_of_le h2, List.drop_eq_nil_of_le h1]; rfl
def IntP (n : Int) (w : World) (e : Ending) (w' : World) : Prop := e = .returned (.int .i64 n) ∧ w' = w
theorem isnan_any (x : ByteArray) (w : World) : Calls Tryz.prog 76 #[.string x] w (fun e w' => e = .returned (.bool false) ∧ w' = w) := by
  have h0 : (!(x.toList == x.toList)) = false := by simp
  go_enter Tryz.func76, Tryz.ntmps76
  go_wp2_with fail
  go_ret
  exact ⟨rfl, rfl⟩
theorem cmps_any (x y : ByteArray) (w : World) : Calls Tryz.prog 56 #[.string x, .string y] w (IntP (cmpS x y) w) := by
  by_cases h1 : sl x y = true
  · have hv : cmpS x y = -1 := by simp [cmpS, h1]
    rw [hv]
    have q1 : Op.bytesLess x.toList y.toList = true := h1
    clear h1 hv
    go_enter Tryz.func56, Tryz.ntmps56
    go_wp2_with (go_at_call 76; refine (isnan_any _ _).mono ?_; rintro e w' ⟨rfl, rfl⟩)
    go_ret
    exact ⟨rfl, rfl⟩
  · have h1' : sl x y = false := by simpa using h1
    by_cases h2 : sl y x = true
    · have hv : cmpS x y = 1 := by simp [cmpS, h1', h2]
      rw [hv]
      have q1 : Op.bytesLess x.toList y.toList = false := h1'
      have q2 : Op.bytesLess y.toList x.toList = true := h2
      have q3 : (x.toList == y.toList) = false := by rw [beq_eq_false_iff_ne]; intro e; rw [toList_inj e, sl_irrefl] at h2; cases h2
      clear h1 h1' h2 hv
      go_enter Tryz.func56, Tryz.ntmps56
      go_wp2_with (go_at_call 76; refine (isnan_any _ _).mono ?_; rintro e w' ⟨rfl, rfl⟩)
      go_ret
      exact ⟨rfl, rfl⟩
    · have h2' : sl y x = false := by simpa using h2
      have hv : cmpS x y = 0 := by simp [cmpS, h1', h2']
      rw [hv]
      have q1 : Op.bytesLess x.toList y.toList = false := h1'
      have q2 : Op.bytesLess y.toList x.toList = false := h2'
      have q3 : (x.toList == y.toList) = true := by rw [beq_iff_eq, sl_tri h1' h2']
      clear h1 h1' h2 h2' hv
      go_enter Tryz.func56, Tryz.ntmps56
      go_wp2_with (go_at_call 76; refine (isnan_any _ _).mono ?_; rintro e w' ⟨rfl, rfl⟩)
      go_ret
      exact ⟨rfl, rfl⟩
set_option maxHeartbeats 2000000 in
theorem scmp_any {S T : Nat → Prop} (A B : Option Addr) (a b : List ByteArray) (c d : Nat) (w : World) (ha : Rd S w A (a.map .string)) (hb : Rd T w B (b.map .string)) (hl : a.length ≤ 10000000) (hm : b.length ≤ 10000000) :
    Calls Tryz.prog 37 #[.slice A a.length c, .slice B b.length d] w (IntP (cmpK a b) w) := by
  have HA := Lib.hid ha
  have HB := Lib.hid hb
  obtain ⟨R, hR⟩ : ∃ R, R = cmpK a b := ⟨_, rfl⟩
  rw [← hR]
  have HR := Lib.hid hR
  clear hR ha hb
  go_enter Tryz.func37, Tryz.ntmps37
  go_wp2_with fail
  go_loopw [11] (fun x wr => ∃ k : Nat, x = .int .i64 k ∧ k ≤ a.length ∧ k ≤ b.length ∧ Hid (R = cmpK (a.drop k) (b.drop k)) ∧ Hid (wr = w)) (fun x _ => a.length - (intOf x).toNat)
  case atStart => exact ⟨0, rfl, Nat.zero_le _, Nat.zero_le _, Lib.hid HR.out, Lib.hid rfl⟩
  case round =>
    obtain ⟨k, rfl, hk, hk2, HK, HW⟩ := hrel
    have hw := HW.out
    subst hw
    by_cases hlt : k < a.length
    · have i1 : (k : Int) < (a.length : Int) := by omega
      obtain ⟨b1, o1, x, rfl, hc1, hx⟩ := HA.out.str_at hlt
      by_cases hlt2 : k < b.length
      · have i2 : ¬ (k : Int) ≥ (b.length : Int) := by omega
        obtain ⟨b2, o2, y, rfl, hc2, hy⟩ := HB.out.str_at hlt2
        have hst := cmpK_at hx.out hy.out
        have HC := Lib.hid (fun w' => cmps_any x y w')
        obtain ⟨v, hv⟩ : ∃ v, v = cmpS x y := ⟨_, rfl⟩
        rw [← hv] at hst HC
        clear hv
        by_cases h0 : v = 0
        · rw [if_pos h0] at hst
          have HK2 : Hid (R = cmpK (a.drop (k + 1)) (b.drop (k + 1))) := Lib.hid (HK.out.trans hst)
          clear hst
          have z1 : (v != 0) = false := by simp [h0]
          clear h0
          go_wp2_with fail
          refine (HC.out _).mono ?_
          rintro e w' ⟨rfl, rfl⟩
          go_wp2_with fail
          go_roundw
          case rel => exact ⟨k + 1, by go_num, by omega, by omega, HK2, Lib.hid trivial⟩
          case measure => simp [intOf]; omega
        · rw [if_neg h0] at hst
          have HK2 : Hid (R = v) := Lib.hid (HK.out.trans hst)
          clear hst
          have z1 : (v != 0) = true := by simp [h0]
          clear h0
          go_wp2_with fail
          refine (HC.out _).mono ?_
          rintro e w' ⟨rfl, rfl⟩
          go_wp2_with fail
          go_ret
          exact ⟨ret_int HK2.out.symm, rfl⟩
      · have i2 : (k : Int) ≥ (b.length : Int) := by omega
        have HK2 : Hid (R = 1) := Lib.hid (HK.out.trans (cmpK_end2 hlt (by omega)))
        go_wp2_with fail
        go_ret
        exact ⟨ret_int HK2.out.symm, rfl⟩
    · have i1 : ¬ (k : Int) < (a.length : Int) := by omega
      by_cases hlt2 : k < b.length
      · have i2 : (a.length : Int) < (b.length : Int) := by omega
        have HK2 : Hid (R = -1) := Lib.hid (HK.out.trans (cmpK_end1 (by omega) hlt2))
        go_wp2_with fail
        go_ret
        exact ⟨ret_int HK2.out.symm, rfl⟩
      · have i2 : ¬ (a.length : Int) < (b.length : Int) := by omega
        have HK2 : Hid (R = 0) := Lib.hid (HK.out.trans (cmpK_end3 (by omega) (by omega)))
        go_wp2_with fail
        go_ret
        exact ⟨ret_int HK2.out.symm, rfl⟩
theorem pcmp_any {S T : Nat → Prop} (A B : Option Addr) (a b : List ByteArray) (c d : Nat) (w : World) (ha : Rd S w A (a.map .string)) (hb : Rd T w B (b.map .string)) (hl : a.length ≤ 10000000) (hm : b.length ≤ 10000000) :
    Calls Tryz.prog 15 #[.slice A a.length c, .slice B b.length d] w (IntP (cmpK a b) w) := by
  have HC := Lib.hid (fun w' (h : w' = w) => by subst h; exact scmp_any A B a b c d _ ha hb hl hm : ∀ w', w' = w → Calls Tryz.prog 37 #[.slice A a.length c, .slice B b.length d] w' (IntP (cmpK a b) w'))
  obtain ⟨R, hR⟩ : ∃ R, R = cmpK a b := ⟨_, rfl⟩
  rw [← hR] at HC ⊢
  clear hR ha hb
  go_enter Tryz.func15, Tryz.ntmps15
  go_wp2_with fail
  refine (HC.out _ rfl).mono ?_
  rintro e w' ⟨rfl, rfl⟩
  go_wp2_with fail
  go_ret
  exact ⟨rfl, rfl⟩
def IntQ (n : Int) (w : World) (e : Ending) (w' : World) : Prop := e = .returned (.int .i64 n) ∧ ∃ q, w' = w.drewN q
set_option maxHeartbeats 2000000 in
theorem rcmp_any {S T : Nat → Prop} (A B : Option Addr) (a b : List ByteArray) (c d : Nat) (w : World) (ha : Rd S w A (a.map .string)) (hb : Rd T w B (b.map .string)) (hl : a.length ≤ 10000000) (hm : b.length ≤ 10000000) :
    Calls Tryz.prog 33 #[.slice A a.length c, .slice B b.length d] w (IntQ (cmpK a b) w) := by
  have HA := Lib.hid ha
  have HB := Lib.hid hb
  obtain ⟨R, hR⟩ : ∃ R, R = cmpK a b := ⟨_, rfl⟩
  rw [← hR]
  have HR := Lib.hid hR
  clear hR ha hb
  go_enter Tryz.func33, Tryz.ntmps33
  go_wp2_with fail
  go_loopw [5] (fun x wr => ∃ k : Nat, x = .int .i64 k ∧ k ≤ a.length ∧ k ≤ b.length ∧ Hid (R = cmpK (a.drop k) (b.drop k)) ∧ ∃ q, wr = w.drewN q) (fun x _ => a.length - (intOf x).toNat)
  case atStart => exact ⟨0, rfl, Nat.zero_le _, Nat.zero_le _, Lib.hid HR.out, 0, rfl⟩
  case round =>
    obtain ⟨k, rfl, hk, hk2, HK, q, rfl⟩ := hrel
    by_cases hlt : k < a.length
    · have i1 : (k : Int) < (a.length : Int) := by omega
      obtain ⟨b1, o1, x, rfl, hc1, hx⟩ := HA.out.str_at hlt
      by_cases hlt2 : k < b.length
      · have i2 : (k : Int) < (b.length : Int) := by omega
        obtain ⟨b2, o2, y, rfl, hc2, hy⟩ := HB.out.str_at hlt2
        have hst := cmpK_at hx.out hy.out
        by_cases h1 : sl x y = true
        · have hv : cmpS x y = -1 := by simp [cmpS, h1]
          have q1 : Op.bytesLess x.toList y.toList = true := h1
          rw [hv, if_neg (by decide)] at hst
          have HK2 : Hid (R = -1) := Lib.hid (HK.out.trans hst)
          clear h1 hv hst
          go_wp2_with fail
          go_quiet (fail)
          go_wp2_with fail
          go_ret
          exact ⟨ret_int HK2.out.symm, _, World.drewN_drewN _ _ _⟩
        · have h1' : sl x y = false := by simpa using h1
          by_cases h2 : sl y x = true
          · have hv : cmpS x y = 1 := by simp [cmpS, h1', h2]
            have q1 : Op.bytesLess x.toList y.toList = false := h1'
            have q2 : Op.bytesLess y.toList x.toList = true := h2
            have q3 : (x.toList == y.toList) = false := by rw [beq_eq_false_iff_ne]; intro e; rw [toList_inj e, sl_irrefl] at h2; cases h2
            rw [hv, if_neg (by decide)] at hst
            have HK2 : Hid (R = 1) := Lib.hid (HK.out.trans hst)
            clear h1 h1' h2 hv hst
            go_wp2_with fail
            go_quiet (fail)
            go_wp2_with fail
            go_quiet (fail)
            go_wp2_with fail
            go_ret
            exact ⟨ret_int HK2.out.symm, _, by rw [World.drewN_drewN, World.drewN_drewN]⟩
          · have h2' : sl y x = false := by simpa using h2
            have hv : cmpS x y = 0 := by simp [cmpS, h1', h2']
            have q1 : Op.bytesLess x.toList y.toList = false := h1'
            have q2 : Op.bytesLess y.toList x.toList = false := h2'
            have q3 : (x.toList == y.toList) = true := by rw [beq_iff_eq, sl_tri h1' h2']
            rw [hv, if_pos rfl] at hst
            have HK2 : Hid (R = cmpK (a.drop (k + 1)) (b.drop (k + 1))) := Lib.hid (HK.out.trans hst)
            clear h1 h1' h2 h2' hv hst
            go_wp2_with fail
            go_quiet (fail)
            go_wp2_with fail
            go_quiet (fail)
            go_wp2_with fail
            go_roundw
            case rel => exact ⟨k + 1, by go_num, by omega, by omega, HK2, _, rfl⟩
            case measure => simp [intOf]; omega
      · have i2 : ¬ (k : Int) < (b.length : Int) := by omega
        have j1 : ¬ (a.length : Int) < (b.length : Int) := by omega
        have j2 : (b.length : Int) < (a.length : Int) := by omega
        have HK2 : Hid (R = 1) := Lib.hid (HK.out.trans (cmpK_end2 hlt (by omega)))
        go_wp2_with fail
        go_ret
        exact ⟨ret_int HK2.out.symm, _, rfl⟩
    · have i1 : ¬ (k : Int) < (a.length : Int) := by omega
      by_cases hlt2 : k < b.length
      · have i2 : (a.length : Int) < (b.length : Int) := by omega
        have HK2 : Hid (R = -1) := Lib.hid (HK.out.trans (cmpK_end1 (by omega) hlt2))
        go_wp2_with fail
        go_ret
        exact ⟨ret_int HK2.out.symm, _, rfl⟩
      · have i2 : ¬ (a.length : Int) < (b.length : Int) := by omega
        have i3 : ¬ (b.length : Int) < (a.length : Int) := by omega
        have HK2 : Hid (R = 0) := Lib.hid (HK.out.trans (cmpK_end3 (by omega) (by omega)))
        go_wp2_with fail
        go_ret
        exact ⟨ret_int HK2.out.symm, _, rfl⟩
end Go.Proofs.YtfkgcighooijhaaGreatDoor
