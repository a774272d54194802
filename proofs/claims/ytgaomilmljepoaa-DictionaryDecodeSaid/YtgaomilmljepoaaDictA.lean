/- dictionary: Index of both texts, the comparison of strings. No condition. -/
import Derived.Test.YtgaomilmljepoaaStr
namespace Go.Proofs.Ytgaomilmljepoaa
open Go.RowKit
set_option linter.unusedVariables false
set_option linter.unusedSimpArgs false

theorem ret_ib {k : IntKind} {a b : Int} {c d : Bool} (h : a = b) (h' : d = c) : Ending.returned (.tuple #[.int k a, .bool c]) = .returned (.tuple #[.int k b, .bool d]) := by rw [h, h']
theorem isnan1_any (s : ByteArray) (w : World) : Calls Try.prog 55 #[.string s] w (Quiet (.bool false) w) := by
  go_enter Try.func55, Try.ntmps55
  go_wp2
  go_ret
  exact ⟨by simp, 0, rfl⟩
theorem isnan2_any (s : ByteArray) (w : World) : Calls Try.prog 62 #[.string s] w (Quiet (.bool false) w) := by
  go_enter Try.func62, Try.ntmps62
  go_wp2
  go_ret
  exact ⟨by simp, 0, rfl⟩
set_option maxHeartbeats 400000 in
theorem cmpless_any (a b : ByteArray) (w : World) : Calls Try.prog 54 #[.string a, .string b] w (Quiet (.bool (sl a b)) w) := by
  go_enter Try.func54, Try.ntmps54
  go_wp2_with (go_at_call 62; refine (isnan2_any _ _).mono ?_; rintro e w' ⟨rfl, n, rfl⟩)
  go_ret
  exact ⟨rfl, _, rfl⟩

/-- binary search, with a bound on its rounds -/
def bs (p : Nat → Bool) : Nat → Nat → Nat → Nat
  | 0, i, _ => i
  | f + 1, i, j => if i < j then (if p ((i + j) / 2) then bs p f ((i + j) / 2 + 1) j else bs p f i ((i + j) / 2)) else i
theorem bs_done (p : Nat → Bool) (f i j : Nat) (h : j ≤ i) : bs p f i j = i := by
  cases f with
  | zero => rfl
  | succ f => simp [bs, show ¬ i < j by omega]
theorem bs_le (p : Nat → Bool) (f : Nat) : ∀ i j, i ≤ j → j - i ≤ f → i ≤ bs p f i j ∧ bs p f i j ≤ j := by
  induction f with
  | zero => intro i j h1 h2; simp [bs]; omega
  | succ f ih =>
    intro i j h1 h2
    simp only [bs]
    split
    · split
      · have := ih ((i + j) / 2 + 1) j (by omega) (by omega); omega
      · have := ih i ((i + j) / 2) (by omega) (by omega); omega
    · omega
def lt (ds : List ByteArray) (t : ByteArray) (i : Nat) : Bool := sl (ds.getD i ⟨#[]⟩) t
def ixOf (ds : List ByteArray) (t : ByteArray) : Nat := bs (lt ds t) ds.length 0 ds.length
def found (ds : List ByteArray) (t : ByteArray) : Bool := decide (ds[ixOf ds t]? = some t)

set_option maxHeartbeats 1000000 in
theorem bsearch_any {S : Nat → Prop} (A : Option Addr) (ds : List ByteArray) (c : Nat) (t : ByteArray) (w : World) (h : Rd S w A (ds.map .string)) (hl : ds.length ≤ 10000000) :
    Calls Try.prog 34 #[.slice A ds.length c, .string t] w (Quiet (.tuple #[.int .i64 (ixOf ds t), .bool (found ds t)]) w) := by
  have H := Lib.hid h
  clear h
  obtain ⟨R, hR⟩ : ∃ R, R = ixOf ds t := ⟨_, rfl⟩
  have HR := Lib.hid hR
  go_enter Try.func34, Try.ntmps34
  go_wp2
  clear hR
  go_loopw [7, 8] (fun x y wr => ∃ i j f : Nat, i ≤ j ∧ j ≤ ds.length ∧ j - i ≤ f ∧ x = .int .i64 i ∧ y = .int .i64 j ∧ Hid (bs (lt ds t) f i j = R) ∧ ∃ q, wr = w.drewN q) (fun x y _ => (intOf y).toNat - (intOf x).toNat)
  case atStart => exact ⟨0, ds.length, ds.length, Nat.zero_le _, Nat.le_refl _, Nat.le_refl _, rfl, rfl, HR.out.symm, 0, rfl⟩
  case round =>
    obtain ⟨i, j, f, hij, hj, hf, rfl, rfl, hbs, q, rfl⟩ := hrel
    by_cases hlt : i < j
    · obtain ⟨b, off, x, rfl, hc, hx⟩ := H.out.str_at (k := (i + j) / 2) (by omega)
      obtain ⟨f, rfl⟩ : ∃ f', f = f' + 1 := ⟨f - 1, by omega⟩
      have hp : lt ds t ((i + j) / 2) = sl x t := by simp [lt, List.getD_eq_getElem?_getD, hx.out]
      have HB := Lib.hid hp
      clear hp
      by_cases hs : sl x t = true
      · have hb2 : Hid (bs (lt ds t) f ((i + j) / 2 + 1) j = R) := by
          have := hbs.out; simp only [bs] at this; rw [if_pos hlt, HB.out, if_pos hs] at this; exact this
        go_wp2_with (go_at_call 54; refine (cmpless_any x t _).mono ?_; rintro e w' ⟨rfl, n, rfl⟩)
        go_roundw
        case rel => exact ⟨(i + j) / 2 + 1, j, f, by omega, by omega, by omega, by go_num, rfl, hb2, _, rfl⟩
        case measure => simp [intOf]; omega
      · have hs' : sl x t = false := by simpa using hs
        clear hs
        have hb2 : Hid (bs (lt ds t) f i ((i + j) / 2) = R) := by
          have := hbs.out; simp only [bs] at this; rw [if_pos hlt, HB.out, hs'] at this; exact this
        go_wp2_with (go_at_call 54; refine (cmpless_any x t _).mono ?_; rintro e w' ⟨rfl, n, rfl⟩)
        go_roundw
        case rel => exact ⟨i, (i + j) / 2, f, by omega, by omega, by omega, rfl, by go_num, hb2, _, rfl⟩
        case measure => simp [intOf]; omega
    · have hiR : i = R := by have := hbs.out; rw [bs_done _ _ _ _ (by omega)] at this; exact this
      have hil : i ≤ ds.length := by omega
      clear hbs
      subst hiR
      by_cases hin : i < ds.length
      · obtain ⟨b, off, x, rfl, hc, hx⟩ := H.out.str_at (k := i) hin
        have hfd : found ds t = (x.toList == t.toList) := by
          unfold found
          rw [← HR.out, hx.out, Bool.eq_iff_iff]
          simp
          exact ⟨fun h => by rw [h], fun h => toList_inj h⟩
        have HFD := Lib.hid hfd
        clear hfd
        by_cases hxt : x.toList = t.toList
        · have hb1 : (x.toList == t.toList) = true := by simp [hxt]
          have HXT := Lib.hid hxt
          clear hxt
          go_wp2_with fail
          go_ret2
          exact ⟨ret_ib (by rw [← HR.out]) (by rw [HFD.out, hb1]), _, rfl⟩
        · have hb1 : (x.toList == t.toList) = false := by simp [hxt]
          clear hxt
          go_wp2_with (go_at_call 55; refine (isnan1_any _ _).mono ?_; rintro e w' ⟨rfl, n, rfl⟩)
          go_ret2
          exact ⟨ret_ib (by rw [← HR.out]) (by rw [HFD.out, hb1]), _, rfl⟩
      · have hfd : found ds t = false := by
          unfold found
          rw [← HR.out, List.getElem?_eq_none (by omega)]
          simp
        have HFD := Lib.hid hfd
        clear hfd
        go_wp2_with fail
        go_ret2
        exact ⟨ret_ib (by rw [← HR.out]) (by rw [HFD.out]), _, rfl⟩

set_option maxHeartbeats 400000 in
theorem index_any {S : Nat → Prop} (A : Option Addr) (ds : List ByteArray) (c : Nat) (t : ByteArray) (w : World) (h : Rd S w A (ds.map .string)) (hl : ds.length ≤ 10000000) :
    Calls Try.prog 14 #[.slice A ds.length c, .string t] w (Quiet (.tuple #[.int .i64 (ixOf ds t), .bool (found ds t)]) w) := by
  have H := Lib.hid h
  clear h
  go_enter Try.func14, Try.ntmps14
  go_wp2_with (go_at_call 34; refine (bsearch_any A ds c t _ H.out hl).mono ?_; rintro e w' ⟨rfl, n, rfl⟩)
  go_ret2
  exact ⟨rfl, _, rfl⟩
end Go.Proofs.Ytgaomilmljepoaa
