/- dictionary: Index of the reference, prefixes, Prefix of both texts. No condition. -/
import Derived.Test.YtgaomilmljepoaaDictA
namespace Go.Proofs.Ytgaomilmljepoaa
open Go.RowKit
set_option linter.unusedVariables false
set_option linter.unusedSimpArgs false

set_option maxHeartbeats 1000000 in
theorem rindex_any {S : Nat → Prop} (A : Option Addr) (ds : List ByteArray) (c : Nat) (t : ByteArray) (w : World) (h : Rd S w A (ds.map .string)) (hl : ds.length ≤ 10000000) :
    Calls Try.prog 15 #[.slice A ds.length c, .string t] w (Quiet (.tuple #[.int .i64 (ixOf ds t), .bool (found ds t)]) w) := by
  have H := Lib.hid h
  clear h
  obtain ⟨R, hR⟩ : ∃ R, R = ixOf ds t := ⟨_, rfl⟩
  have HR := Lib.hid hR
  go_enter Try.func15, Try.ntmps15
  go_wp2
  clear hR
  go_loopw [6, 7] (fun x y wr => ∃ i j f : Nat, i ≤ j ∧ j ≤ ds.length ∧ j - i ≤ f ∧ x = .int .i64 i ∧ y = .int .i64 j ∧ Hid (bs (lt ds t) f i j = R) ∧ ∃ q, wr = w.drewN q) (fun x y _ => (intOf y).toNat - (intOf x).toNat)
  case atStart => exact ⟨0, ds.length, ds.length, Nat.zero_le _, Nat.le_refl _, Nat.le_refl _, rfl, rfl, HR.out.symm, 0, rfl⟩
  case round =>
    obtain ⟨i, j, f, hij, hj, hf, rfl, rfl, hbs, q, rfl⟩ := hrel
    by_cases hlt : i < j
    · obtain ⟨b, off, x, rfl, hc, hx⟩ := H.out.str_at (k := (i + j) / 2) (by omega)
      obtain ⟨f, rfl⟩ : ∃ f', f = f' + 1 := ⟨f - 1, by omega⟩
      have hp : lt ds t ((i + j) / 2) = sl x t := by simp [lt, List.getD_eq_getElem?_getD, hx.out]
      have HB := Lib.hid hp
      clear hp
      by_cases hs : sl x t = true
      · have hs2 : Op.bytesLess x.toList t.toList = true := hs
        have hb2 : Hid (bs (lt ds t) f ((i + j) / 2 + 1) j = R) := by
          have := hbs.out; simp only [bs] at this; rw [if_pos hlt, HB.out, if_pos hs] at this; exact this
        go_wp2
        go_roundw
        case rel => exact ⟨(i + j) / 2 + 1, j, f, by omega, by omega, by omega, by go_num, rfl, hb2, _, rfl⟩
        case measure => simp [intOf]; omega
      · have hs' : sl x t = false := by simpa using hs
        have hs2 : Op.bytesLess x.toList t.toList = false := hs'
        clear hs
        have hb2 : Hid (bs (lt ds t) f i ((i + j) / 2) = R) := by
          have := hbs.out; simp only [bs] at this; rw [if_pos hlt, HB.out, hs'] at this; exact this
        go_wp2
        go_roundw
        case rel => exact ⟨i, (i + j) / 2, f, by omega, by omega, by omega, rfl, by go_num, hb2, _, rfl⟩
        case measure => simp [intOf]; omega
    · have hiR : i = R := by have := hbs.out; rw [bs_done _ _ _ _ (by omega)] at this; exact this
      have hil : i ≤ ds.length := by omega
      clear hbs
      subst hiR
      by_cases hin : i < ds.length
      · obtain ⟨b, off, x, rfl, hc, hx⟩ := H.out.str_at (k := i) hin
        have hfd : found ds t = (x.toList == t.toList) := by
          unfold found
          rw [← HR.out, hx.out, Bool.eq_iff_iff]
          simp
          exact ⟨fun h => by rw [h], fun h => toList_inj h⟩
        have HFD := Lib.hid hfd
        clear hfd
        by_cases hxt : x.toList = t.toList
        · have hb1 : (x.toList == t.toList) = true := by simp [hxt]
          have hii : (i : Int) < (ds.length : Int) := by omega
          have HXT := Lib.hid hxt
          clear hxt
          go_wp2
          go_quiet (fail)
          go_wp2
          go_ret2
          exact ⟨ret_ib (by rw [← HR.out]) (by rw [HFD.out, hb1]), _, World.drewN_drewN _ _ _⟩
        · have hb1 : (x.toList == t.toList) = false := by simp [hxt]
          clear hxt
          go_wp2
          go_quiet (fail)
          go_wp2
          go_ret2
          exact ⟨ret_ib (by rw [← HR.out]) (by rw [HFD.out, hb1]), _, World.drewN_drewN _ _ _⟩
      · have hfd : found ds t = false := by
          unfold found
          rw [← HR.out, List.getElem?_eq_none (by omega)]
          simp
        have HFD := Lib.hid hfd
        clear hfd
        have hdd : decide ((i : Int) < (ds.length : Int)) = false := by simp; omega
        go_wp2
        go_quiet (fail)
        go_wp2
        go_ret2
        exact ⟨ret_ib (by rw [← HR.out]) (by rw [HFD.out]), _, World.drewN_drewN _ _ _⟩


def hp (s p : ByteArray) : Bool := Lib.hasPrefix s.data.toList p.data.toList
theorem hp_yes {s p : ByteArray} (h : p.size ≤ s.size) : hp s p = ((s.extract 0 p.size).toList == p.toList) := by
  unfold hp; rw [← Lib.hasPrefix_raw]; simp [h]
theorem hp_no {s p : ByteArray} (h : ¬ p.size ≤ s.size) : hp s p = false := by
  unfold hp; rw [← Lib.hasPrefix_raw]; simp [h]

set_option maxHeartbeats 400000 in
theorem lhp_any (s p : ByteArray) (w : World) : Calls Try.prog 56 #[.string s, .string p] w (Quiet (.bool (hp s p)) w) := by
  by_cases h : p.size ≤ s.size
  · have hh := hp_yes h
    have HH := Lib.hid hh
    clear hh
    go_enter Try.func56, Try.ntmps56
    go_wp2
    go_ret
    exact ⟨by rw [HH.out]; rfl, 0, rfl⟩
  · rw [hp_no h]
    go_enter Try.func56, Try.ntmps56
    go_wp2
    go_ret
    exact ⟨rfl, 0, rfl⟩

set_option maxHeartbeats 400000 in
theorem begins_any (s p : ByteArray) (w : World) : Calls Try.prog 38 #[.string s, .string p] w (Quiet (.bool (hp s p)) w) := by
  by_cases h : p.size ≤ s.size
  · have hh := hp_yes h
    have HH := Lib.hid hh
    clear hh
    go_enter Try.func38, Try.ntmps38
    go_wp2
    go_ret
    exact ⟨by rw [HH.out]; rfl, 0, rfl⟩
  · rw [hp_no h]
    go_enter Try.func38, Try.ntmps38
    go_wp2
    go_ret
    exact ⟨rfl, 0, rfl⟩

set_option maxHeartbeats 400000 in
theorem hasprefix_any (s p : ByteArray) (w : World) : Calls Try.prog 37 #[.string s, .string p] w (Quiet (.bool (hp s p)) w) := by
  go_enter Try.func37, Try.ntmps37
  go_wp2_with (go_at_call 56; refine (lhp_any _ _ _).mono ?_; rintro e w' ⟨rfl, n, rfl⟩)
  go_ret
  exact ⟨rfl, _, rfl⟩

/-- the closure of Prefix: its captured variables lie in three blocks -/
def Caps (w : World) (d f p : Nat) (A : Option Addr) (ds : List ByteArray) (c : Nat) (from_ : Nat) (t : ByteArray) : Prop :=
  w.cell? ⟨d, 0, none⟩ = some (.slice A ds.length c) ∧ w.cell? ⟨f, 0, none⟩ = some (.int .i64 from_) ∧ w.cell? ⟨p, 0, none⟩ = some (.string t)
set_option maxHeartbeats 400000 in
theorem clos_any {S : Nat → Prop} (d f p : Nat) (A : Option Addr) (ds : List ByteArray) (c from_ : Nat) (t : ByteArray) (i : Nat) (w : World) (h : Rd S w A (ds.map .string)) (hl : ds.length ≤ 10000000) (hi : from_ + i < ds.length) (hC : Caps w d f p A ds c from_ t) :
    Calls Try.prog 36 #[.int .i64 (i : Int), .pointer (some ⟨d, 0, none⟩), .pointer (some ⟨f, 0, none⟩), .pointer (some ⟨p, 0, none⟩)] w (Quiet (.bool (!hp (ds.getD (from_ + i) ⟨#[]⟩) t)) w) := by
  obtain ⟨c1, c2, c3⟩ := hC
  obtain ⟨b, off, x, rfl, hc, hx⟩ := h.str_at hi
  have hg : ds.getD (from_ + i) ⟨#[]⟩ = x := by simp [List.getD_eq_getElem?_getD, hx.out]
  rw [hg]
  clear hg h
  have hwk : IntKind.i64.wrap ((from_ : Int) + (i : Int)) = (from_ : Int) + (i : Int) := IntWalk.i64_in _ (by omega)
  have h1 : (0 : Int) ≤ (from_ : Int) + (i : Int) := by omega
  have h2 : (from_ : Int) + (i : Int) < (ds.length : Int) := by omega
  have h3 : ((from_ : Int) + (i : Int)).toNat = from_ + i := by omega
  go_enter Try.func36, Try.ntmps36
  go_wp2
  go_quiet ((go_at_call 37; exact quiet_of0 (hasprefix_any _ _ _)))
  go_wp2
  go_ret
  exact ⟨by simp, _, rfl⟩

theorem Caps.drewN {w : World} {d f p : Nat} {A : Option Addr} {ds : List ByteArray} {c from_ : Nat} {t : ByteArray} (h : Caps w d f p A ds c from_ t) (n : Nat) : Caps (w.drewN n) d f p A ds c from_ t := h
def endsAt (ds : List ByteArray) (t : ByteArray) (from_ : Nat) : Nat := bs (fun i => hp (ds.getD (from_ + i) ⟨#[]⟩) t) (ds.length - from_) 0 (ds.length - from_)
set_option maxHeartbeats 1000000 in
theorem search_any {S : Nat → Prop} (d f p : Nat) (A : Option Addr) (ds : List ByteArray) (c from_ : Nat) (t : ByteArray) (w : World) (h : Rd S w A (ds.map .string)) (hl : ds.length ≤ 10000000) (hfr : from_ ≤ ds.length) (hC : Caps w d f p A ds c from_ t) :
    Calls Try.prog 35 #[.int .i64 ((ds.length : Int) - (from_ : Int)), .func (.func 36) #[] #[.pointer (some ⟨d, 0, none⟩), .pointer (some ⟨f, 0, none⟩), .pointer (some ⟨p, 0, none⟩)]] w (Quiet (.int .i64 (endsAt ds t from_)) w) := by
  obtain ⟨n, hn⟩ : ∃ n, n = ds.length - from_ := ⟨_, rfl⟩
  have e1 : (ds.length : Int) - (from_ : Int) = (n : Int) := by omega
  rw [e1]
  obtain ⟨R, hR⟩ : ∃ R, R = endsAt ds t from_ := ⟨_, rfl⟩
  have hR' : bs (fun i => hp (ds.getD (from_ + i) ⟨#[]⟩) t) n 0 n = R := by rw [hR, hn]; rfl
  have HR := Lib.hid hR
  have HR' := Lib.hid hR'
  have H := Lib.hid h
  have HC := Lib.hid hC
  have hn1 : from_ + n ≤ ds.length := by omega
  clear hR hR' e1 hn h hC
  go_enter Try.func35, Try.ntmps35
  go_wp2_with fail
  go_loopw [5, 6] (fun x y wr => ∃ i j f : Nat, i ≤ j ∧ j ≤ n ∧ j - i ≤ f ∧ x = .int .i64 i ∧ y = .int .i64 j ∧ Hid (bs (fun i => hp (ds.getD (from_ + i) ⟨#[]⟩) t) f i j = R) ∧ ∃ q, wr = w.drewN q) (fun x y _ => (intOf y).toNat - (intOf x).toNat)
  case atStart => exact ⟨0, n, n, Nat.zero_le _, Nat.le_refl _, Nat.le_refl _, rfl, rfl, HR'.out, 0, rfl⟩
  case round =>
    obtain ⟨i, j, f', hij, hj, hf, rfl, rfl, hbs, q, rfl⟩ := hrel
    by_cases hlt : i < j
    · obtain ⟨f', rfl⟩ : ∃ f'', f' = f'' + 1 := ⟨f' - 1, by omega⟩
      by_cases hs : hp (ds.getD (from_ + (i + j) / 2) ⟨#[]⟩) t = true
      · have hb2 : Hid (bs (fun i => hp (ds.getD (from_ + i) ⟨#[]⟩) t) f' ((i + j) / 2 + 1) j = R) := by
          have := hbs.out; simp only [bs] at this; rw [if_pos hlt, if_pos hs] at this; exact this
        have HS := Lib.hid hs
        clear hs hbs
        go_wp2_with (go_at_call 36; refine (clos_any d f p A ds c from_ t ((i + j) / 2) _ (by exact H.out.drewN _) hl (by omega) (HC.out.drewN _)).mono ?_; rw [HS.out]; rintro e w' ⟨rfl, n, rfl⟩)
        go_roundw
        case rel => exact ⟨(i + j) / 2 + 1, j, f', by omega, by omega, by omega, by go_num, rfl, hb2, _, rfl⟩
        case measure => simp [intOf]; omega
      · have hb2 : Hid (bs (fun i => hp (ds.getD (from_ + i) ⟨#[]⟩) t) f' i ((i + j) / 2) = R) := by
          have := hbs.out; simp only [bs] at this; rw [if_pos hlt, if_neg hs] at this; exact this
        have hs' : hp (ds.getD (from_ + (i + j) / 2) ⟨#[]⟩) t = false := by simpa using hs
        have HS := Lib.hid hs'
        clear hs hs' hbs
        go_wp2_with (go_at_call 36; refine (clos_any d f p A ds c from_ t ((i + j) / 2) _ (by exact H.out.drewN _) hl (by omega) (HC.out.drewN _)).mono ?_; rw [HS.out]; rintro e w' ⟨rfl, n, rfl⟩)
        go_roundw
        case rel => exact ⟨i, (i + j) / 2, f', by omega, by omega, by omega, rfl, by go_num, hb2, _, rfl⟩
        case measure => simp [intOf]; omega
    · have hiR : i = R := by have := hbs.out; rw [bs_done _ _ _ _ (by omega)] at this; exact this
      have HI := Lib.hid hiR
      clear hbs hiR
      go_wp2_with fail
      go_ret
      exact ⟨ret_int (by rw [← HR.out, HI.out]), _, rfl⟩
end Go.Proofs.Ytgaomilmljepoaa
