/- Index of the reference, begins (parts of XDictA, XDictB). No condition. -/
import Derived.Test.YtceebhgbebkafaaGreatDoorStr
import Derived.Deep.RegionLaw
namespace Go.Proofs.YtceebhgbebkafaaGreatDoor
open Go.RowKit
set_option linter.unusedVariables false
set_option linter.unusedSimpArgs false

theorem ret_ib {k : IntKind} {a b : Int} {c d : Bool} (h : a = b) (h' : d = c) : Ending.returned (.tuple #[.int k a, .bool c]) = .returned (.tuple #[.int k b, .bool d]) := by rw [h, h']
/-- binary search, with a bound on its rounds -/
def bs (p : Nat → Bool) : Nat → Nat → Nat → Nat
  | 0, i, _ => i
  | f + 1, i, j => if i < j then (if p ((i + j) / 2) then bs p f ((i + j) / 2 + 1) j else bs p f i ((i + j) / 2)) else i
theorem bs_done (p : Nat → Bool) (f i j : Nat) (h : j ≤ i) : bs p f i j = i := by
  cases f with
  | zero => rfl
  | succ f => simp [bs, show ¬ i < j by omega]
theorem bs_le (p : Nat → Bool) (f : Nat) : ∀ i j, i ≤ j → j - i ≤ f → i ≤ bs p f i j ∧ bs p f i j ≤ j := by
  induction f with
  | zero => intro i j h1 h2; simp [bs]; omega
  | succ f ih =>
    intro i j h1 h2
    simp only [bs]
    split
    · split
      · have := ih ((i + j) / 2 + 1) j (by omega) (by omega); omega
      · have := ih i ((i + j) / 2) (by omega) (by omega); omega
    · omega
def lt (ds : List ByteArray) (t : ByteArray) (i : Nat) : Bool := sl (ds.getD i ⟨#[]⟩) t
def ixOf (ds : List ByteArray) (t : ByteArray) : Nat := bs (lt ds t) ds.length 0 ds.length
def found (ds : List ByteArray) (t : ByteArray) : Bool := decide (ds[ixOf ds t]? = some t)

set_option maxHeartbeats 1000000 in
theorem rindex_any {S : Nat → Prop} (A : Option Addr) (ds : List ByteArray) (c : Nat) (t : ByteArray) (w : World) (h : Rd S w A (ds.map .string)) (hl : ds.length ≤ 10000000) :
    Calls Tryz.prog 28 #[.slice A ds.length c, .string t] w (Quiet (.tuple #[.int .i64 (ixOf ds t), .bool (found ds t)]) w) := by
  have H := Lib.hid h
  clear h
  obtain ⟨R, hR⟩ : ∃ R, R = ixOf ds t := ⟨_, rfl⟩
  have HR := Lib.hid hR
  go_enter Tryz.func28, Tryz.ntmps28
  go_wp2
  clear hR
  go_loopw [6, 7] (fun x y wr => ∃ i j f : Nat, i ≤ j ∧ j ≤ ds.length ∧ j - i ≤ f ∧ x = .int .i64 i ∧ y = .int .i64 j ∧ Hid (bs (lt ds t) f i j = R) ∧ ∃ q, wr = w.drewN q) (fun x y _ => (intOf y).toNat - (intOf x).toNat)
  case atStart => exact ⟨0, ds.length, ds.length, Nat.zero_le _, Nat.le_refl _, Nat.le_refl _, rfl, rfl, HR.out.symm, 0, rfl⟩
  case round =>
    obtain ⟨i, j, f, hij, hj, hf, rfl, rfl, hbs, q, rfl⟩ := hrel
    by_cases hlt : i < j
    · obtain ⟨b, off, x, rfl, hc, hx⟩ := H.out.str_at (k := (i + j) / 2) (by omega)
      obtain ⟨f, rfl⟩ : ∃ f', f = f' + 1 := ⟨f - 1, by omega⟩
      have hp : lt ds t ((i + j) / 2) = sl x t := by simp [lt, List.getD_eq_getElem?_getD, hx.out]
      have HB := Lib.hid hp
      clear hp
      by_cases hs : sl x t = true
      · have hs2 : Op.bytesLess x.toList t.toList = true := hs
        have hb2 : Hid (bs (lt ds t) f ((i + j) / 2 + 1) j = R) := by
          have := hbs.out; simp only [bs] at this; rw [if_pos hlt, HB.out, if_pos hs] at this; exact this
        go_wp2
        go_roundw
        case rel => exact ⟨(i + j) / 2 + 1, j, f, by omega, by omega, by omega, by go_num, rfl, hb2, _, rfl⟩
        case measure => simp [intOf]; omega
      · have hs' : sl x t = false := by simpa using hs
        have hs2 : Op.bytesLess x.toList t.toList = false := hs'
        clear hs
        have hb2 : Hid (bs (lt ds t) f i ((i + j) / 2) = R) := by
          have := hbs.out; simp only [bs] at this; rw [if_pos hlt, HB.out, hs'] at this; exact this
        go_wp2
        go_roundw
        case rel => exact ⟨i, (i + j) / 2, f, by omega, by omega, by omega, rfl, by go_num, hb2, _, rfl⟩
        case measure => simp [intOf]; omega
    · have hiR : i = R := by have := hbs.out; rw [bs_done _ _ _ _ (by omega)] at this; exact this
      have hil : i ≤ ds.length := by omega
      clear hbs
      subst hiR
      by_cases hin : i < ds.length
      · obtain ⟨b, off, x, rfl, hc, hx⟩ := H.out.str_at (k := i) hin
        have hfd : found ds t = (x.toList == t.toList) := by
          unfold found
          rw [← HR.out, hx.out, Bool.eq_iff_iff]
          simp
          exact ⟨fun h => by rw [h], fun h => toList_inj h⟩
        have HFD := Lib.hid hfd
        clear hfd
        by_cases hxt : x.toList = t.toList
        · have hb1 : (x.toList == t.toList) = true := by simp [hxt]
          have hii : (i : Int) < (ds.length : Int) := by omega
          have HXT := Lib.hid hxt
          clear hxt
          go_wp2
          go_quiet (fail)
          go_wp2
          go_ret2
          exact ⟨ret_ib (by rw [← HR.out]) (by rw [HFD.out, hb1]), _, World.drewN_drewN _ _ _⟩
        · have hb1 : (x.toList == t.toList) = false := by simp [hxt]
          clear hxt
          go_wp2
          go_quiet (fail)
          go_wp2
          go_ret2
          exact ⟨ret_ib (by rw [← HR.out]) (by rw [HFD.out, hb1]), _, World.drewN_drewN _ _ _⟩
      · have hfd : found ds t = false := by
          unfold found
          rw [← HR.out, List.getElem?_eq_none (by omega)]
          simp
        have HFD := Lib.hid hfd
        clear hfd
        have hdd : decide ((i : Int) < (ds.length : Int)) = false := by simp; omega
        go_wp2
        go_quiet (fail)
        go_wp2
        go_ret2
        exact ⟨ret_ib (by rw [← HR.out]) (by rw [HFD.out]), _, World.drewN_drewN _ _ _⟩


def hp (s p : ByteArray) : Bool := Lib.hasPrefix s.data.toList p.data.toList
theorem hp_yes {s p : ByteArray} (h : p.size ≤ s.size) : hp s p = ((s.extract 0 p.size).toList == p.toList) := by
  unfold hp; rw [← Lib.hasPrefix_raw]; simp [h]
theorem hp_no {s p : ByteArray} (h : ¬ p.size ≤ s.size) : hp s p = false := by
  unfold hp; rw [← Lib.hasPrefix_raw]; simp [h]

set_option maxHeartbeats 400000 in
theorem begins_any (s p : ByteArray) (w : World) : Calls Tryz.prog 96 #[.string s, .string p] w (Quiet (.bool (hp s p)) w) := by
  by_cases h : p.size ≤ s.size
  · have hh := hp_yes h
    have HH := Lib.hid hh
    clear hh
    go_enter Tryz.func96, Tryz.ntmps96
    go_wp2
    go_ret
    exact ⟨by rw [HH.out]; rfl, 0, rfl⟩
  · rw [hp_no h]
    go_enter Tryz.func96, Tryz.ntmps96
    go_wp2
    go_ret
    exact ⟨rfl, 0, rfl⟩

def endsAt (ds : List ByteArray) (t : ByteArray) (from_ : Nat) : Nat := bs (fun i => hp (ds.getD (from_ + i) ⟨#[]⟩) t) (ds.length - from_) 0 (ds.length - from_)
theorem ixOf_le (ds : List ByteArray) (t : ByteArray) : ixOf ds t ≤ ds.length := (bs_le _ _ 0 ds.length (Nat.zero_le _) (by omega)).2
theorem endsAt_le (ds : List ByteArray) (t : ByteArray) (k : Nat) : endsAt ds t k ≤ ds.length - k := (bs_le _ _ 0 (ds.length - k) (Nat.zero_le _) (by omega)).2
end Go.Proofs.YtceebhgbebkafaaGreatDoor
