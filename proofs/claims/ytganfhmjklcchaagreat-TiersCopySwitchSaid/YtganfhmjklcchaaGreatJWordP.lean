/- XWordP: what this seat has of them (joined by partseat.py). Conditions: as there. -/
import Derived.Test.YtganfhmjklcchaaGreatJPutJ
import Derived.Deep.DeepCutAuto
import Derived.Test.YtganfhmjklcchaaGreatJBase
import Derived.Deep.RegionLaw
import Derived.Test.YtganfhmjklcchaaGreatJRCol
import Derived.Test.YtganfhmjklcchaaGreatJUnion
import Derived.Lib.Join
import Derived.Test.YtganfhmjklcchaaGreatJGenC
import Derived.Lib.ConvBytes
import Derived.Shelf.Bytes.SlEqualAll
import Derived.Lib.ItoaLen
import Derived.Deep.DeepMust
import Derived.Deep.RegionWith
namespace Go.Proofs.YtganfhmjklcchaaGreat
open Go.RowKit
set_option linter.unusedVariables false
set_option linter.unusedSimpArgs false

/-- a letter in lower case -/
def lowI (c : Int) : Option Int := if 65 ≤ c ∧ c ≤ 90 then some (c + 32) else if (97 ≤ c ∧ c ≤ 122) ∨ (48 ≤ c ∧ c ≤ 57) ∨ c = 95 then some c else none
def flushW (cur : List Int) (out : List ByteArray) : List ByteArray := if 0 < cur.length ∧ cur.length ≤ 40 then out ++ [strOfNums cur] else out
def stepW (st : List Int × List ByteArray) (c : Int) : List Int × List ByteArray := match lowI c with
  | some d => (st.1 ++ [d], st.2)
  | none => ([], flushW st.1 st.2)
def wst (cs : List Int) : List Int × List ByteArray := cs.foldl stepW ([], [])
/-- all words, one after the other -/
def rawW (cs : List Int) : List ByteArray := flushW (wst cs).1 (wst cs).2
theorem wst_snoc (cs : List Int) (c : Int) : wst (cs ++ [c]) = stepW (wst cs) c := by unfold wst; rw [List.foldl_append]; rfl
theorem wst_len : ∀ (n : Nat) (cs : List Int), cs.length ≤ n → (wst cs).1.length ≤ cs.length ∧ (wst cs).2.length ≤ cs.length := by
  intro n
  induction n with
  | zero => intro cs h; have : cs = [] := List.eq_nil_of_length_eq_zero (by omega); subst this; simp [wst]
  | succ n ih =>
    intro cs h
    rcases List.eq_nil_or_concat cs with rfl | ⟨l, c, rfl⟩
    · simp [wst]
    · have e : l.concat c = l ++ [c] := List.concat_eq_append
      rw [e] at h ⊢
      rw [wst_snoc]
      have hl : l.length ≤ n := by simp at h; omega
      obtain ⟨h1, h2⟩ := ih l hl
      unfold stepW
      cases lowI c with
      | some d =>
        show ((wst l).1 ++ [d]).length ≤ _ ∧ (wst l).2.length ≤ _
        simp only [List.length_append, List.length_singleton]
        omega
      | none =>
        show ([] : List Int).length ≤ _ ∧ (flushW (wst l).1 (wst l).2).length ≤ _
        unfold flushW
        simp only [List.length_append, List.length_singleton, List.length_nil]
        split
        · rw [List.length_append, List.length_singleton]; omega
        · omega
theorem rawW_len (cs : List Int) : (rawW cs).length ≤ cs.length + 1 := by
  have h := wst_len cs.length cs (Nat.le_refl _)
  unfold rawW flushW
  split
  · rw [List.length_append, List.length_singleton]; omega
  · omega
theorem lowI_in {c d : Int} (h : lowI c = some d) : 0 ≤ d ∧ d ≤ 255 ∧ d ≠ 0 := by
  unfold lowI at h
  split at h
  · injection h; omega
  · split at h
    · injection h; omega
    · cases h
theorem wst_bytes : ∀ (cs : List Int), ∀ x ∈ (wst cs).1, 0 ≤ x ∧ x ≤ 255 := by
  intro cs
  have key : ∀ (n : Nat) (cs : List Int), cs.length ≤ n → ∀ x ∈ (wst cs).1, 0 ≤ x ∧ x ≤ 255 := by
    intro n
    induction n with
    | zero => intro cs h; have : cs = [] := List.eq_nil_of_length_eq_zero (by omega); subst this; simp [wst]
    | succ n ih =>
      intro cs h
      rcases List.eq_nil_or_concat cs with rfl | ⟨l, c, rfl⟩
      · simp [wst]
      · rw [show l.concat c = l ++ [c] from List.concat_eq_append, wst_snoc]
        have hl : l.length ≤ n := by simp at h; omega
        unfold stepW
        cases hc : lowI c with
        | some d =>
          intro x hx
          rcases List.mem_append.1 hx with hx | hx
          · exact ih l hl x hx
          · rw [List.mem_singleton.1 hx]; have := lowI_in hc; omega
        | none => intro x hx; cases hx
  exact key cs.length cs (Nat.le_refl _)
end Go.Proofs.YtganfhmjklcchaaGreat
namespace Go.Proofs.YtganfhmjklcchaaGreat
open Go.RowKit
set_option linter.unusedVariables false
set_option linter.unusedSimpArgs false

def LowP (c : Int) (w : World) (e : Ending) (w' : World) : Prop := e = .returned (.tuple #[.int .u8 ((lowI c).getD 0), .bool (lowI c).isSome]) ∧ w' = w
def LetP (c : Int) (w : World) (e : Ending) (w' : World) : Prop := e = .returned (.int .u8 ((lowI c).getD 0)) ∧ w' = w
theorem lowI_up {c : Int} (h1 : 65 ≤ c) (h2 : c ≤ 90) : lowI c = some (c + 32) := by unfold lowI; rw [if_pos ⟨h1, h2⟩]
theorem lowI_lo {c : Int} (h : (97 ≤ c ∧ c ≤ 122) ∨ (48 ≤ c ∧ c ≤ 57) ∨ c = 95) : lowI c = some c := by unfold lowI; rw [if_neg (by omega), if_pos h]
theorem lowI_no {c : Int} (h1 : ¬ (65 ≤ c ∧ c ≤ 90)) (h : ¬ ((97 ≤ c ∧ c ≤ 122) ∨ (48 ≤ c ∧ c ≤ 57) ∨ c = 95)) : lowI c = none := by unfold lowI; rw [if_neg h1, if_neg h]
theorem nine (c : Int) : c ≤ 47 ∨ (48 ≤ c ∧ c ≤ 57) ∨ (58 ≤ c ∧ c ≤ 64) ∨ (65 ≤ c ∧ c ≤ 90) ∨ (91 ≤ c ∧ c ≤ 94) ∨ c = 95 ∨ c = 96 ∨ (97 ≤ c ∧ c ≤ 122) ∨ 123 ≤ c := by omega
set_option maxHeartbeats 2000000 in
set_option maxRecDepth 100000 in
theorem letter_any (c : Int) (w : World) (h0 : 0 ≤ c) (h255 : c ≤ 255) : Calls Tryz.prog 116 #[.int .u8 c] w (LetP c w) := by
  rcases nine c with h | ⟨h, h'⟩ | ⟨h, h'⟩ | ⟨h, h'⟩ | ⟨h, h'⟩ | h | h | ⟨h, h'⟩ | h
  · have HV := Lib.hid (lowI_no (c := c) (by omega) (by omega))
    have a1 : ¬ (65 ≤ c) := by omega
    have a2 : ¬ (97 ≤ c) := by omega
    have a3 : ¬ (48 ≤ c) := by omega
    have a4 : (c == 95) = false := by simp; omega
    go_enter Tryz.func116, Tryz.ntmps116
    go_wp2
    go_ret
    exact ⟨by rw [HV.out]; rfl, rfl⟩
  · have HV := Lib.hid (lowI_lo (c := c) (by omega))
    have a2 : ¬ (97 ≤ c) := by omega
    go_enter Tryz.func116, Tryz.ntmps116
    go_wp2
    go_ret
    exact ⟨by rw [HV.out]; rfl, rfl⟩
  · have HV := Lib.hid (lowI_no (c := c) (by omega) (by omega))
    have a1 : ¬ (65 ≤ c) := by omega
    have a2 : ¬ (97 ≤ c) := by omega
    have a3 : (48 ≤ c) := by omega
    have a5 : ¬ (c ≤ 57) := by omega
    have a4 : (c == 95) = false := by simp; omega
    go_enter Tryz.func116, Tryz.ntmps116
    go_wp2
    go_ret
    exact ⟨by rw [HV.out]; rfl, rfl⟩
  · have HV := Lib.hid (lowI_up (c := c) h h')
    have hw2 : IntKind.u8.wrap (c + 32) = c + 32 := IntWalk.u8_in _ (by omega)
    have a2 : ¬ (97 ≤ c) := by omega
    have a3 : (48 ≤ c) := by omega
    have a5 : ¬ (c ≤ 57) := by omega
    have a4 : (c == 95) = false := by simp; omega
    go_enter Tryz.func116, Tryz.ntmps116
    go_wp2
    go_ret
    exact ⟨by rw [HV.out]; rfl, rfl⟩
  · have HV := Lib.hid (lowI_no (c := c) (by omega) (by omega))
    have a1 : (65 ≤ c) := by omega
    have a6 : ¬ (c ≤ 90) := by omega
    have a2 : ¬ (97 ≤ c) := by omega
    have a3 : (48 ≤ c) := by omega
    have a5 : ¬ (c ≤ 57) := by omega
    have a4 : (c == 95) = false := by simp; omega
    go_enter Tryz.func116, Tryz.ntmps116
    go_wp2
    go_ret
    exact ⟨by rw [HV.out]; rfl, rfl⟩
  · subst h
    go_enter Tryz.func116, Tryz.ntmps116
    go_wp2
    go_ret
    exact ⟨rfl, rfl⟩
  · subst h
    go_enter Tryz.func116, Tryz.ntmps116
    go_wp2
    go_ret
    exact ⟨rfl, rfl⟩
  · have HV := Lib.hid (lowI_lo (c := c) (by omega))
    go_enter Tryz.func116, Tryz.ntmps116
    go_wp2
    go_ret
    exact ⟨by rw [HV.out]; rfl, rfl⟩
  · have HV := Lib.hid (lowI_no (c := c) (by omega) (by omega))
    have a1 : (65 ≤ c) := by omega
    have a6 : ¬ (c ≤ 90) := by omega
    have a2 : (97 ≤ c) := by omega
    have a7 : ¬ (c ≤ 122) := by omega
    have a3 : (48 ≤ c) := by omega
    have a5 : ¬ (c ≤ 57) := by omega
    have a4 : (c == 95) = false := by simp; omega
    go_enter Tryz.func116, Tryz.ntmps116
    go_wp2
    go_ret
    exact ⟨by rw [HV.out]; rfl, rfl⟩
end Go.Proofs.YtganfhmjklcchaaGreat

namespace Go.Proofs.YtganfhmjklcchaaGreat
open Go.RowKit
set_option linter.unusedVariables false
set_option linter.unusedSimpArgs false

theorem ret_ib {k : IntKind} {a b : Int} {c d : Bool} (h : a = b) (h' : d = c) : Ending.returned (.tuple #[.int k a, .bool c]) = .returned (.tuple #[.int k b, .bool d]) := by rw [h, h']
/-- binary search, with a bound on its rounds -/
def bs (p : Nat → Bool) : Nat → Nat → Nat → Nat
  | 0, i, _ => i
  | f + 1, i, j => if i < j then (if p ((i + j) / 2) then bs p f ((i + j) / 2 + 1) j else bs p f i ((i + j) / 2)) else i
theorem bs_done (p : Nat → Bool) (f i j : Nat) (h : j ≤ i) : bs p f i j = i := by
  cases f with
  | zero => rfl
  | succ f => simp [bs, show ¬ i < j by omega]
theorem bs_le (p : Nat → Bool) (f : Nat) : ∀ i j, i ≤ j → j - i ≤ f → i ≤ bs p f i j ∧ bs p f i j ≤ j := by
  induction f with
  | zero => intro i j h1 h2; simp [bs]; omega
  | succ f ih =>
    intro i j h1 h2
    simp only [bs]
    split
    · split
      · have := ih ((i + j) / 2 + 1) j (by omega) (by omega); omega
      · have := ih i ((i + j) / 2) (by omega) (by omega); omega
    · omega
def lt (ds : List ByteArray) (t : ByteArray) (i : Nat) : Bool := sl (ds.getD i ⟨#[]⟩) t
def ixOf (ds : List ByteArray) (t : ByteArray) : Nat := bs (lt ds t) ds.length 0 ds.length
def found (ds : List ByteArray) (t : ByteArray) : Bool := decide (ds[ixOf ds t]? = some t)

set_option maxHeartbeats 1000000 in
theorem rindex_any {S : Nat → Prop} (A : Option Addr) (ds : List ByteArray) (c : Nat) (t : ByteArray) (w : World) (h : Rd S w A (ds.map .string)) (hl : ds.length ≤ 10000000) :
    Calls Tryz.prog 102 #[.slice A ds.length c, .string t] w (Quiet (.tuple #[.int .i64 (ixOf ds t), .bool (found ds t)]) w) := by
  have H := Lib.hid h
  clear h
  obtain ⟨R, hR⟩ : ∃ R, R = ixOf ds t := ⟨_, rfl⟩
  have HR := Lib.hid hR
  go_enter Tryz.func102, Tryz.ntmps102
  go_wp2
  clear hR
  go_loopw [6, 7] (fun x y wr => ∃ i j f : Nat, i ≤ j ∧ j ≤ ds.length ∧ j - i ≤ f ∧ x = .int .i64 i ∧ y = .int .i64 j ∧ Hid (bs (lt ds t) f i j = R) ∧ ∃ q, wr = w.drewN q) (fun x y _ => (intOf y).toNat - (intOf x).toNat)
  case atStart => exact ⟨0, ds.length, ds.length, Nat.zero_le _, Nat.le_refl _, Nat.le_refl _, rfl, rfl, HR.out.symm, 0, rfl⟩
  case round =>
    obtain ⟨i, j, f, hij, hj, hf, rfl, rfl, hbs, q, rfl⟩ := hrel
    by_cases hlt : i < j
    · obtain ⟨b, off, x, rfl, hc, hx⟩ := H.out.str_at (k := (i + j) / 2) (by omega)
      obtain ⟨f, rfl⟩ : ∃ f', f = f' + 1 := ⟨f - 1, by omega⟩
      have hp : lt ds t ((i + j) / 2) = sl x t := by simp [lt, List.getD_eq_getElem?_getD, hx.out]
      have HB := Lib.hid hp
      clear hp
      by_cases hs : sl x t = true
      · have hs2 : Op.bytesLess x.toList t.toList = true := hs
        have hb2 : Hid (bs (lt ds t) f ((i + j) / 2 + 1) j = R) := by
          have := hbs.out; simp only [bs] at this; rw [if_pos hlt, HB.out, if_pos hs] at this; exact this
        go_wp2
        go_roundw
        case rel => exact ⟨(i + j) / 2 + 1, j, f, by omega, by omega, by omega, by go_num, rfl, hb2, _, rfl⟩
        case measure => simp [intOf]; omega
      · have hs' : sl x t = false := by simpa using hs
        have hs2 : Op.bytesLess x.toList t.toList = false := hs'
        clear hs
        have hb2 : Hid (bs (lt ds t) f i ((i + j) / 2) = R) := by
          have := hbs.out; simp only [bs] at this; rw [if_pos hlt, HB.out, hs'] at this; exact this
        go_wp2
        go_roundw
        case rel => exact ⟨i, (i + j) / 2, f, by omega, by omega, by omega, rfl, by go_num, hb2, _, rfl⟩
        case measure => simp [intOf]; omega
    · have hiR : i = R := by have := hbs.out; rw [bs_done _ _ _ _ (by omega)] at this; exact this
      have hil : i ≤ ds.length := by omega
      clear hbs
      subst hiR
      by_cases hin : i < ds.length
      · obtain ⟨b, off, x, rfl, hc, hx⟩ := H.out.str_at (k := i) hin
        have hfd : found ds t = (x.toList == t.toList) := by
          unfold found
          rw [← HR.out, hx.out, Bool.eq_iff_iff]
          simp
          exact ⟨fun h => by rw [h], fun h => toList_inj h⟩
        have HFD := Lib.hid hfd
        clear hfd
        by_cases hxt : x.toList = t.toList
        · have hb1 : (x.toList == t.toList) = true := by simp [hxt]
          have hii : (i : Int) < (ds.length : Int) := by omega
          have HXT := Lib.hid hxt
          clear hxt
          go_wp2
          go_quiet (fail)
          go_wp2
          go_ret2
          exact ⟨ret_ib (by rw [← HR.out]) (by rw [HFD.out, hb1]), _, World.drewN_drewN _ _ _⟩
        · have hb1 : (x.toList == t.toList) = false := by simp [hxt]
          clear hxt
          go_wp2
          go_quiet (fail)
          go_wp2
          go_ret2
          exact ⟨ret_ib (by rw [← HR.out]) (by rw [HFD.out, hb1]), _, World.drewN_drewN _ _ _⟩
      · have hfd : found ds t = false := by
          unfold found
          rw [← HR.out, List.getElem?_eq_none (by omega)]
          simp
        have HFD := Lib.hid hfd
        clear hfd
        have hdd : decide ((i : Int) < (ds.length : Int)) = false := by simp; omega
        go_wp2
        go_quiet (fail)
        go_wp2
        go_ret2
        exact ⟨ret_ib (by rw [← HR.out]) (by rw [HFD.out]), _, World.drewN_drewN _ _ _⟩


def hp (s p : ByteArray) : Bool := Lib.hasPrefix s.data.toList p.data.toList
theorem hp_yes {s p : ByteArray} (h : p.size ≤ s.size) : hp s p = ((s.extract 0 p.size).toList == p.toList) := by
  unfold hp; rw [← Lib.hasPrefix_raw]; simp [h]
theorem hp_no {s p : ByteArray} (h : ¬ p.size ≤ s.size) : hp s p = false := by
  unfold hp; rw [← Lib.hasPrefix_raw]; simp [h]

def endsAt (ds : List ByteArray) (t : ByteArray) (from_ : Nat) : Nat := bs (fun i => hp (ds.getD (from_ + i) ⟨#[]⟩) t) (ds.length - from_) 0 (ds.length - from_)
theorem ixOf_le (ds : List ByteArray) (t : ByteArray) : ixOf ds t ≤ ds.length := (bs_le _ _ 0 ds.length (Nat.zero_le _) (by omega)).2
theorem endsAt_le (ds : List ByteArray) (t : ByteArray) (k : Nat) : endsAt ds t k ≤ ds.length - k := (bs_le _ _ 0 (ds.length - k) (Nat.zero_le _) (by omega)).2
end Go.Proofs.YtganfhmjklcchaaGreat

namespace Go.Proofs.YtganfhmjklcchaaGreat
open Go.RowKit
set_option linter.unusedVariables false
set_option linter.unusedSimpArgs false

/-- the lowest bytes of a number, the highest first -/
def beB : Nat → Nat → List Int
  | 0, _ => []
  | k + 1, v => ((v / 256 ^ k % 256 : Nat) : Int) :: beB k v
theorem beB_len : ∀ (k v : Nat), (beB k v).length = k
  | 0, _ => rfl
  | k + 1, v => by rw [beB, List.length_cons, beB_len]
def blkP (b : List Int) : List Int := vint b.length ++ b
def colX (vs : List Int) : List Int := bestTo vs 4
noncomputable def dicX (ds : List ByteArray) : List Int := encR ds
noncomputable def idxX (ts : List ByteArray) : List Int := blkP (dicX (dist ts)) ++ blkP (colX (ts.map (fun t => (ixOf (dist ts) t : Int))))
end Go.Proofs.YtganfhmjklcchaaGreat

namespace Go.Proofs.YtganfhmjklcchaaGreat
open Go.RowKit
set_option linter.unusedVariables false
set_option linter.unusedSimpArgs false

theorem xor_u32 (a b : Nat) (ha : a < 4294967296) (hb : b < 4294967296) : bits .xor .u32 (a : Int) (b : Int) = ((a ^^^ b : Nat) : Int) := by
  have hx : a ^^^ b < 2 ^ 32 := Nat.xor_lt_two_pow (n := 32) ha hb
  show IntKind.u32.wrap ((BitVec.ofInt 32 (a : Int) ^^^ BitVec.ofInt 32 (b : Int)).toNat : Int) = _
  rw [BitVec.toNat_xor, ofInt_nat 32 a (by omega), ofInt_nat 32 b (by omega)]
  simp [IntKind.wrap, IntKind.signed, IntKind.bits]
  omega
theorem and_u32 (a b : Nat) (ha : a < 4294967296) (hb : b < 4294967296) : bits .and .u32 (a : Int) (b : Int) = ((a &&& b : Nat) : Int) := by
  have hx : a &&& b < 2 ^ 32 := Nat.and_lt_two_pow (n := 32) _ hb
  show IntKind.u32.wrap ((BitVec.ofInt 32 (a : Int) &&& BitVec.ofInt 32 (b : Int)).toNat : Int) = _
  rw [BitVec.toNat_and, ofInt_nat 32 a (by omega), ofInt_nat 32 b (by omega)]
  simp [IntKind.wrap, IntKind.signed, IntKind.bits]
  omega
theorem xor_lt32 {a b : Nat} (ha : a < 4294967296) (hb : b < 4294967296) : a ^^^ b < 4294967296 := Nat.xor_lt_two_pow (n := 32) ha hb
def crc1 (c : Nat) : Nat := if c % 2 = 1 then (c / 2) ^^^ 3988292384 else c / 2
theorem crc1_lt {c : Nat} (h : c < 4294967296) : crc1 c < 4294967296 := by
  unfold crc1
  split
  · exact xor_lt32 (by omega) (by decide)
  · omega
def crcK : Nat → Nat → Nat
  | 0, c => c
  | k + 1, c => crc1 (crcK k c)
theorem crcK_lt {c : Nat} (h : c < 4294967296) : ∀ k, crcK k c < 4294967296
  | 0 => h
  | k + 1 => crc1_lt (crcK_lt h k)
def crcS (c : Nat) (b : Int) : Nat := crcK 8 (c ^^^ (b % 4294967296).toNat)
def crcT (bs : List Int) : Nat := bs.foldl crcS 4294967295
def crcN (bs : List Int) : Nat := crcT bs ^^^ 4294967295
theorem crcT_lt (bs : List Int) : crcT bs < 4294967296 := by
  have key : ∀ (l : List Int) (c : Nat), c < 4294967296 → l.foldl crcS c < 4294967296 := by
    intro l
    induction l with
    | nil => intro c h; exact h
    | cons x xs ih =>
      intro c hc
      exact ih _ (crcK_lt (xor_lt32 hc (by omega)) 8)
  exact key bs _ (by decide)
theorem crcN_lt (bs : List Int) : crcN bs < 4294967296 := xor_lt32 (crcT_lt bs) (by decide)
theorem crcT_snoc (bs : List Int) (b : Int) : crcT (bs ++ [b]) = crcS (crcT bs) b := by unfold crcT; rw [List.foldl_append]; rfl
theorem and_one32 (c : Nat) : c &&& 1 = c % 2 := Nat.and_two_pow_sub_one_eq_mod c 1
end Go.Proofs.YtganfhmjklcchaaGreat

namespace Go.Proofs.YtganfhmjklcchaaGreat
open Go.RowKit
set_option linter.unusedVariables false
set_option linter.unusedSimpArgs false

theorem byte_ones (bs : List Int) : ∀ u ∈ bs.map (Value.int .u8), u.oneCell' = true := by
  intro u hu
  obtain ⟨x, -, rfl⟩ := List.mem_map.1 hu
  rfl
theorem onto_apN {w0 w1 : World} {v v' : Value} (hg : w0.grownBy w1 v.ownBlock) (hob : v'.ownBlock = v.ownBlock ∨ v'.ownBlock = some w0.heap.size) : Onto w0 v v' w1 := ⟨hg, hob.elim .inl fun h => .inr ⟨_, Nat.le_refl _, h⟩⟩
/-- a new row of bytes -/
def NewB (w : World) (xs : List Int) (e : Ending) (w' : World) : Prop := ∃ v, e = .returned v ∧ Byts w.heap.size w' v xs ∧ w.grownBy w' none
set_option maxHeartbeats 4000000 in
theorem putblock_big {S : Nat → Prop} (base : Nat) (v : Value) (xs : List Int) (A : Option Addr) (bs : List Int) (c : Nat) (w : World) (h : Byts base w v xs) (hr : Rd S w A (bs.map (.int .u8))) (hne : ∀ b, S b → some b ≠ v.ownBlock) (hx : xs.length ≤ 9000000) (hl : bs.length ≤ 4000000) (hxl : xs.length + bs.length ≤ 9900000) (hb : base ≤ w.heap.size) :
    Calls Tryz.prog 103 #[v, .slice A bs.length c] w (VPost base w v (xs ++ blkP bs)) := by
  have H := Lib.hid h
  have HR := Lib.hid (hr.mono (S' := fun b => S b ∧ b < w.heap.size) (fun b h1 h2 => ⟨h1, h2⟩))
  have HNE := Lib.hid hne
  have hvl := vint_len10 (n := bs.length) (by omega)
  clear h hr hne
  go_enter Tryz.func103, Tryz.ntmps103
  go_wp2_with fail
  refine (rvarint_any base v xs bs.length _ H.out (by omega) (by omega) hb).mono ?_
  rintro e w1 ⟨v1, rfl, hB1, hO1⟩
  have B1 := Lib.hid hB1
  have O1 := Lib.hid hO1
  have R1 := Lib.hid (HR.out.grown hO1.1 (fun b hb => HNE.out b hb.1))
  have hz1 := hO1.1.size
  have hne1 : Hid (∀ b, (S b ∧ b < w.heap.size) → some b ≠ v1.ownBlock) := Lib.hid (hO1.ne (fun b hb => hb.2) (fun b hb => HNE.out b hb.1))
  clear hB1 hO1
  go_wp2_with (at_builtin; go_must (refine wpList_appendN rfl _ _ 22 rfl base Tryz.underlying22 byteInfo rfl (by decide) (v := v1) (by rfl) B1.out A bs.length c (by rfl) R1.out (by simp) (byte_ones bs) (by decide) (by rw [List.length_append]; omega) (by omega) ?_); intro v2 w2 hown2 hg2 hob2)
  have B2 : Hid (Byts base w2 v2 (xs ++ blkP bs)) := Lib.hid (by
    unfold Byts blkP
    have h9 := hown2
    rw [List.length_append] at h9
    rw [← List.append_assoc, List.map_append, List.length_append, List.length_append]
    exact h9)
  have O2 := Lib.hid (O1.out.trans (onto_apN hg2 hob2))
  clear hown2 hg2 hob2
  go_wp2_with fail
  go_ret
  exact ⟨v2, rfl, B2.out, O2.out⟩
theorem putblock_any {S : Nat → Prop} (base : Nat) (v : Value) (xs : List Int) (A : Option Addr) (bs : List Int) (c : Nat) (w : World) (h : Byts base w v xs) (hr : Rd S w A (bs.map (.int .u8))) (hne : ∀ b, S b → some b ≠ v.ownBlock) (hx : xs.length ≤ 4000000) (hl : bs.length ≤ 4000000) (hb : base ≤ w.heap.size) :
    Calls Tryz.prog 103 #[v, .slice A bs.length c] w (VPost base w v (xs ++ blkP bs)) := putblock_big base v xs A bs c w h hr hne (by omega) hl (by omega) hb
theorem column_any (A : Option Addr) (vs : List Int) (c : Nat) (w : World) (hr : Rd (fun _ => True) w A (vs.map (.int .i64))) (hl : vs.length ≤ 16384) (hi : ∀ x ∈ vs, I64 x) :
    Calls Tryz.prog 78 #[.slice A vs.length c] w (NewB w (colX vs)) := by
  have K := Lib.hid (rcenc_any A vs c w hr (by omega) hi)
  clear hr hi
  go_enter Tryz.func78, Tryz.ntmps78
  go_wp2_with fail
  refine K.out.mono ?_
  rintro e w1 ⟨v, rfl, hB, hG⟩
  have B := Lib.hid hB
  have G := Lib.hid hG
  clear hB hG
  go_wp2_with fail
  go_ret
  exact ⟨v, rfl, B.out, G.out⟩
theorem dictionary_any {S : Nat → Prop} (A : Option Addr) (ds : List ByteArray) (c : Nat) (w : World) (h : Rd S w A (ds.map .string)) (hl : ds.length ≤ 8000) (hz8 : ∀ x ∈ ds, x.size ≤ 250) :
    Calls Tryz.prog 104 #[.slice A ds.length c] w (NewB w (dicX ds)) := by
  have K := Lib.hid (rencode_any A ds c w h hl hz8)
  clear h hz8
  go_enter Tryz.func104, Tryz.ntmps104
  go_wp2_with fail
  refine K.out.mono ?_
  rintro e w1 ⟨v, rfl, hB, hG⟩
  have B := Lib.hid hB
  have G := Lib.hid hG
  clear hB hG
  go_wp2_with fail
  go_ret
  exact ⟨v, rfl, B.out, G.out⟩
theorem be_el (n j : Nat) : (n : Int) / 2 ^ (8 * j) % 256 = ((n / 256 ^ j % 256 : Nat) : Int) := by
  have h1 : (2 : Int) ^ (8 * j) = ((256 ^ j : Nat) : Int) := by
    rw [Int.pow_mul, show (2 : Int) ^ 8 = ((256 : Nat) : Int) from rfl, Int.natCast_pow]
  obtain ⟨m, hm⟩ : ∃ m, m = 256 ^ j := ⟨_, rfl⟩
  rw [← hm] at h1
  rw [h1, ← hm]
  omega
set_option maxHeartbeats 4000000 in
set_option maxRecDepth 100000 in
theorem sput_any (base : Nat) (v : Value) (xs : List Int) (n width : Nat) (w : World) (h : Byts base w v xs) (hx : xs.length ≤ 4000000) (hw : width ≤ 8) (hn : n < 18446744073709551616) (hb : base ≤ w.heap.size) :
    Calls Tryz.prog 48 #[v, .int .u64 n, .int .i64 (width : Int)] w (VPost base w v (xs ++ beB width n)) := by
  have H := Lib.hid h
  clear h
  go_enter Tryz.func48, Tryz.ntmps48
  go_wp2_with fail
  go_loopw [0, 7] (fun u i wr => ∃ (m : Nat) (ys : List Int), m ≤ width ∧ i = .int .i64 ((m : Int) - 1) ∧ Byts base wr u ys ∧ ys ++ beB m n = xs ++ beB width n ∧ Onto w v u wr) (fun _ i _ => (intOf i + 1).toNat)
  case atStart => exact ⟨width, xs, Nat.le_refl _, rfl, H.out, rfl, Onto.refl _ _⟩
  case round =>
    obtain ⟨m, ys, hm, rfl, hB, he, hO⟩ := hrel
    have hl : ys.length ≤ 4000010 := by
      have h1 := congrArg List.length he
      simp [beB_len] at h1
      omega
    have HO := Lib.hid hO
    have HE := Lib.hid he
    have HB := Lib.hid hB
    have hz := hO.1.size
    clear hO he hB
    by_cases hc : 1 ≤ m
    · obtain ⟨j, rfl⟩ : ∃ j, m = j + 1 := ⟨m - 1, by omega⟩
      have hjj : (((j + 1 : Nat) : Int) - 1) = (j : Int) := by omega
      rw [hjj]
      have i1 : (0 : Int) ≤ (j : Int) := by omega
      clear hjj
      go_wp2_with (at_builtin; go_must (refine wpList_append1 rfl _ _ 22 rfl base Tryz.underlying22 byteInfo rfl (by decide) (v := u0) (by rfl) (w0 := wr) (cs := #[.int .u8 ((n : Int) / 2 ^ (8 * j) % 256)]) HB.out (by rfl) rfl (by simp [Value.oneCell']) (by decide) (by omega) (by omega) ?_); intro v1 w1 hv1 hg1 hob1)
      rw [be_el] at hv1
      have B1 := Lib.hid (Byts.snoc hv1)
      have O1 := Lib.hid (HO.out.trans (onto_ap hg1 hob1))
      clear hv1 hg1 hob1
      go_wp2_with fail
      go_roundw
      case rel => exact ⟨j, ys ++ [((n / 256 ^ j % 256 : Nat) : Int)], by omega, rfl, B1.out, by rw [← HE.out, beB]; simp, O1.out⟩
      case measure => simp [intOf] <;> omega
    · have hm0 : m = 0 := by omega
      subst hm0
      have HE2 : Hid (ys = xs ++ beB width n) := Lib.hid (by have h := HE.out; simpa [beB] using h)
      have B9 : Hid (Byts base wr u0 (xs ++ beB width n)) := Lib.hid (by rw [← HE2.out]; exact HB.out)
      go_wp2_with fail
      go_ret
      exact ⟨u0, rfl, B9.out, HO.out⟩
set_option maxHeartbeats 4000000 in
set_option maxRecDepth 100000 in
theorem crc_any {S : Nat → Prop} (A : Option Addr) (bs : List Int) (c : Nat) (w : World) (hr : Rd S w A (bs.map (.int .u8))) (hl : bs.length ≤ 10000000) :
    Calls Tryz.prog 50 #[.slice A bs.length c] w (fun e w' => e = .returned (.int .u32 (crcN bs : Nat)) ∧ w' = w) := by
  have HR := Lib.hid hr
  clear hr
  go_enter Tryz.func50, Tryz.ntmps50
  go_wp2_with fail
  go_loopw [3, 4] (fun vc vi wr => ∃ (k s : Nat), vi = .int .i64 k ∧ vc = .int .u32 s ∧ k ≤ bs.length ∧ Hid (crcT (bs.take k) = s) ∧ s < 4294967296 ∧ wr = w) (fun _ vi _ => bs.length - (intOf vi).toNat)
  case atStart => exact ⟨0, 4294967295, rfl, rfl, Nat.zero_le _, Lib.hid rfl, by decide, rfl⟩
  case round =>
    obtain ⟨k, s, rfl, rfl, hk, HS, hs, rfl⟩ := hrel
    by_cases hlt : k < bs.length
    · obtain ⟨x, hx⟩ : ∃ x, bs[k]? = some x := ⟨_, List.getElem?_eq_getElem hlt⟩
      obtain ⟨xn, hxn⟩ : ∃ n : Nat, n = (x % 4294967296).toNat := ⟨_, rfl⟩
      have hxw : x % 4294967296 = (xn : Int) := by omega
      obtain ⟨b, off, eA, hS, hlt2, hc⟩ := HR.out (by simp; omega)
      subst eA
      have c0 := hc k (.int .u8 x) (by simp [hx])
      have i1 : (k : Int) < (bs.length : Int) := by omega
      have HN : Hid (crcT (bs.take (k + 1)) = crcK 8 (s ^^^ xn)) := Lib.hid (by
        obtain ⟨h1, h2⟩ := List.getElem?_eq_some_iff.1 hx
        rw [List.take_succ_eq_append_getElem h1, h2, crcT_snoc, HS.out, crcS, ← hxn])
      have hxs : s ^^^ xn < 4294967296 := xor_lt32 hs (by omega)
      have HXR := Lib.hid (xor_u32 s xn hs (by omega))
      clear hc hx hxn
      go_wp2_with fail
      rw [HXR.out]
      obtain ⟨wo, rfl⟩ : ∃ wo : World, wo = wr := ⟨_, rfl⟩
      go_loopw [3, 5] (fun vc vj wr => ∃ (j t : Nat), vj = .int .i64 j ∧ vc = .int .u32 t ∧ j ≤ 8 ∧ Hid (t = crcK j (s ^^^ xn)) ∧ t < 4294967296 ∧ wr = wo) (fun _ vj _ => 8 - (intOf vj).toNat)
      case atStart => exact ⟨0, s ^^^ xn, rfl, rfl, Nat.zero_le _, Lib.hid rfl, hxs, rfl⟩
      case round =>
        obtain ⟨j, t, rfl, rfl, hj, HT, ht, rfl⟩ := hrel
        by_cases hlt8 : j < 8
        · have i2 : (j : Int) < 8 := by omega
          by_cases hodd : t % 2 = 1
          · have ha : bits BinOp.and IntKind.u32 (t : Int) 1 = 1 := by
              have h := and_u32 t 1 ht (by decide)
              rw [and_one32, hodd] at h
              exact h
            have HT2 : Hid (t / 2 ^^^ 3988292384 = crcK (j + 1) (s ^^^ xn)) := Lib.hid (by rw [crcK, ← HT.out, crc1, if_pos hodd])
            have HX2 := Lib.hid (xor_u32 (t / 2) 3988292384 (by omega) (by decide))
            have hl2 : t / 2 ^^^ 3988292384 < 4294967296 := xor_lt32 (by omega) (by decide)
            clear hodd
            go_wp2_with fail
            go_roundw
            case rel => exact ⟨j + 1, t / 2 ^^^ 3988292384, by go_num, congrArg (Value.int .u32) HX2.out, by omega, HT2, hl2, trivial⟩
            case measure => simp [intOf]; omega
          · have ha : bits BinOp.and IntKind.u32 (t : Int) 1 = 0 := by
              have h := and_u32 t 1 ht (by decide)
              rw [and_one32, show t % 2 = 0 by omega] at h
              exact h
            have HT2 : Hid (t / 2 = crcK (j + 1) (s ^^^ xn)) := Lib.hid (by rw [crcK, ← HT.out, crc1, if_neg hodd])
            clear hodd
            go_wp2_with fail
            go_roundw
            case rel => exact ⟨j + 1, t / 2, by go_num, by go_num, by omega, HT2, by omega, trivial⟩
            case measure => simp [intOf]; omega
        · have i2 : ¬ (j : Int) < 8 := by omega
          have hj8 : j = 8 := by omega
          have HT2 : Hid (crcT (bs.take (k + 1)) = t) := Lib.hid (by rw [HN.out, HT.out, hj8])
          clear hj8
          go_wp2_with fail
          go_roundw
          case rel => exact ⟨k + 1, t, by go_num, rfl, by omega, HT2, ht, trivial⟩
          case measure => simp [intOf]; omega
    · have i1 : ¬ (k : Int) < (bs.length : Int) := by omega
      have HE : Hid (crcN bs = s ^^^ 4294967295) := Lib.hid (by have h := HS.out; rw [List.take_of_length_le (by omega)] at h; unfold crcN; rw [h])
      have HX3 : Hid (bits BinOp.xor IntKind.u32 IntKind.u32.max (s : Int) = ((s ^^^ 4294967295 : Nat) : Int)) := Lib.hid (by rw [Nat.xor_comm]; exact xor_u32 4294967295 s (by decide) hs)
      go_wp2_with fail
      go_ret
      exact ⟨congrArg (fun x => Ending.returned (Value.int .u32 x)) (HX3.out.trans (congrArg (fun (x : Nat) => (x : Int)) HE.out.symm)), rfl⟩
end Go.Proofs.YtganfhmjklcchaaGreat

namespace Go.Proofs.YtganfhmjklcchaaGreat
open Go.RowKit
set_option linter.unusedVariables false
set_option linter.unusedSimpArgs false

/-- the number in some bytes -/
def getN (bs : List Int) : Nat := bs.foldl (fun v b => v * 256 + b.toNat) 0
theorem getN_snoc (bs : List Int) (x : Int) : getN (bs ++ [x]) = getN bs * 256 + x.toNat := by unfold getN; rw [List.foldl_append]; rfl
theorem getN_lt : ∀ (n : Nat) (bs : List Int), bs.length = n → (∀ x ∈ bs, 0 ≤ x ∧ x ≤ 255) → getN bs < 256 ^ n
  | 0, bs, h, _ => by rw [List.eq_nil_of_length_eq_zero h]; decide
  | n + 1, bs, h, hx => by
    rcases List.eq_nil_or_concat bs with rfl | ⟨l, x, rfl⟩
    · simp at h
    · rw [List.concat_eq_append] at h hx ⊢
      have h1 := getN_lt n l (by simp at h; exact h) (fun y hy => hx y (List.mem_append_left _ hy))
      have h2 := hx x (by simp)
      rw [getN_snoc, Nat.pow_succ]
      omega
theorem getN_lt8 {bs : List Int} (h : bs.length ≤ 8) (hx : ∀ x ∈ bs, 0 ≤ x ∧ x ≤ 255) : getN bs < 18446744073709551616 :=
  Nat.lt_of_lt_of_le (getN_lt _ bs rfl hx) (Nat.le_trans (Nat.pow_le_pow_right (by decide) h) (by decide))
def cutB (bs : List Int) (a k : Nat) : List Int := (bs.drop a).take k
theorem cutB_len {bs : List Int} {a k : Nat} (h : a + k ≤ bs.length) : (cutB bs a k).length = k := by unfold cutB; rw [List.length_take, List.length_drop]; omega
def cutN (bs : List Int) (a k : Nat) : Nat := getN (cutB bs a k)
/-- the bytes of the header are bytes -/
def InH (bs : List Int) : Prop := ∀ x ∈ bs.take 124, 0 ≤ x ∧ x ≤ 255
theorem InH.cut {bs : List Int} (h : InH bs) {a k : Nat} (hk : a + k ≤ 124) : ∀ x ∈ cutB bs a k, 0 ≤ x ∧ x ≤ 255 := by
  intro x hx
  unfold cutB at hx
  obtain ⟨i, hi⟩ := List.mem_iff_getElem?.1 hx
  rw [List.getElem?_take] at hi
  split at hi
  · rw [List.getElem?_drop] at hi
    refine h x (List.mem_iff_getElem?.2 ⟨a + i, ?_⟩)
    rw [List.getElem?_take, if_pos (by omega)]
    exact hi
  · cases hi
theorem cutN_lt4 {bs : List Int} (h : InH bs) {a : Nat} (hk : a + 4 ≤ 124) (hl : a + 4 ≤ bs.length) : cutN bs a 4 < 4294967296 := getN_lt 4 _ (cutB_len hl) (h.cut hk)
theorem cutN_lt8 {bs : List Int} (h : InH bs) {a : Nat} (hk : a + 8 ≤ 124) (hl : a + 8 ≤ bs.length) : cutN bs a 8 < 18446744073709551616 := getN_lt 8 _ (cutB_len hl) (h.cut hk)
/-- what the header says of section k -/
def lenH (bs : List Int) (k : Nat) : Nat := cutN bs (16 + 8 * k) 4
def crcH (bs : List Int) (k : Nat) : Nat := cutN bs (20 + 8 * k) 4
def offH (bs : List Int) : Nat → Nat
  | 0 => 124
  | k + 1 => offH bs k + lenH bs (k + 1)
theorem lenH_lt {bs : List Int} (h : InH bs) {k : Nat} (hk : k ≤ 12) (hl : 124 ≤ bs.length) : lenH bs k < 4294967296 := cutN_lt4 h (by omega) (by omega)
theorem crcH_lt {bs : List Int} (h : InH bs) {k : Nat} (hk : k ≤ 12) (hl : 124 ≤ bs.length) : crcH bs k < 4294967296 := cutN_lt4 h (by omega) (by omega)
theorem offH_le {bs : List Int} (h : InH bs) (hl : 124 ≤ bs.length) : ∀ k, k ≤ 12 → offH bs k ≤ 124 + k * 4294967296
  | 0, _ => Nat.le_refl _
  | k + 1, hk => by
    have h1 := offH_le h hl k (by omega)
    have h2 := lenH_lt h hk hl
    simp only [offH]
    omega
theorem offH_mono (bs : List Int) {i j : Nat} (h : i ≤ j) : offH bs i ≤ offH bs j := by
  obtain ⟨d, rfl⟩ : ∃ d, j = i + d := ⟨j - i, by omega⟩
  clear h
  induction d with
  | zero => exact Nat.le_refl _
  | succ d ih => exact Nat.le_trans ih (by rw [show i + (d + 1) = (i + d) + 1 by omega]; simp only [offH]; omega)
/-- are the first bytes those of a segment? -/
def magicB (bs : List Int) : Bool := (strOfNums (bs.take 4)).toList == (⟨#[76, 84, 83, 49]⟩ : ByteArray).toList
/-- the error of the header -/
def errS (bs : List Int) : Nat := if bs.length < 124 then 14 else if magicB bs = false then 1 else if cutN bs 120 4 ≠ crcN (bs.take 120) then 15 else if bs.length ≠ offH bs 12 then 14 else 0
def secH (bs : List Int) (k : Nat) : List Int := cutB bs (offH bs (k - 1)) (lenH bs k)
/-- is the checksum of section k right? -/
def rightH (bs : List Int) (k : Nat) : Bool := crcH bs k == crcN (secH bs k)
def damH (bs : List Int) : Nat → List Int
  | 0 => []
  | k + 1 => damH bs k ++ (if rightH bs (k + 1) then [] else [((k + 1 : Nat) : Int)])
theorem damH_len (bs : List Int) : ∀ k, (damH bs k).length ≤ k
  | 0 => Nat.le_refl _
  | k + 1 => by
    have := damH_len bs k
    simp only [damH, List.length_append]
    split <;> simp <;> omega
end Go.Proofs.YtganfhmjklcchaaGreat

namespace Go.Proofs.YtganfhmjklcchaaGreat
open Go.RowKit
set_option linter.unusedVariables false
set_option linter.unusedSimpArgs false

structure LineD where
  off : Int
  len : Int
  text : ByteArray
structure FieldD where
  name : ByteArray
  value : ByteArray
def LineD.cells (x : LineD) : List Value := [.int .i64 x.off, .int .i64 x.len, .string x.text]
def FieldD.cells (x : FieldD) : List Value := [.string x.name, .string x.value]
/-- an event, with the places of its lines and fields -/
structure Ev where
  host : Int
  file : Int
  beg : Int
  fin : Int
  lines : List LineD
  time : Int
  weight : Int
  trace : ByteArray
  stream : ByteArray
  fields : List FieldD
  la : Option Addr
  lc : Nat
  fa : Option Addr
  fc : Nat
def Ev.cells (e : Ev) : List Value :=
  [.int .i64 e.host, .int .i64 e.file, .int .i64 e.beg, .int .i64 e.fin, .slice e.la e.lines.length e.lc, .int .i64 e.time, .int .i64 e.weight, .string e.trace, .string e.stream, .slice e.fa e.fields.length e.fc]
structure It where
  rule : ByteArray
  ev : Ev
def It.cells (x : It) : List Value := .string x.rule :: x.ev.cells

def Ev.Sub (S : Nat → Prop) (w : World) (e : Ev) : Prop :=
  Rd S w e.la (e.lines.flatMap LineD.cells) ∧ Rd S w e.fa (e.fields.flatMap FieldD.cells) ∧ e.lines.length ≤ e.lc ∧ e.lc ≤ maxLen ∧ e.fields.length ≤ e.fc ∧ e.fc ≤ maxLen
theorem Ev.Sub.grown {S : Nat → Prop} {w w' : World} {e : Ev} {row : Option Nat} (h : e.Sub S w) (hg : w.grownBy w' row) (hr : ∀ b, S b → some b ≠ row) : e.Sub S w' :=
  ⟨h.1.grown hg hr, h.2.1.grown hg hr, h.2.2⟩
theorem Ev.Sub.mono {S S' : Nat → Prop} {w : World} {e : Ev} (h : e.Sub S w) (hS : ∀ b, S b → b < w.heap.size → S' b) : e.Sub S' w := ⟨h.1.mono hS, h.2.1.mono hS, h.2.2⟩
theorem Ev.Sub.drewN {S : Nat → Prop} {w : World} {e : Ev} (h : e.Sub S w) (n : Nat) : e.Sub S (w.drewN n) := h

/-- a slice of events -/
def Evs (S : Nat → Prop) (w : World) (A : Option Addr) (es : List Ev) : Prop := Rd S w A (es.flatMap Ev.cells) ∧ ∀ e ∈ es, e.Sub S w
theorem Evs.grown {S : Nat → Prop} {w w' : World} {A : Option Addr} {es : List Ev} {row : Option Nat} (h : Evs S w A es) (hg : w.grownBy w' row) (hr : ∀ b, S b → some b ≠ row) : Evs S w' A es :=
  ⟨h.1.grown hg hr, fun e he => (h.2 e he).grown hg hr⟩
theorem Evs.mono {S S' : Nat → Prop} {w : World} {A : Option Addr} {es : List Ev} (h : Evs S w A es) (hS : ∀ b, S b → b < w.heap.size → S' b) : Evs S' w A es :=
  ⟨h.1.mono hS, fun e he => (h.2 e he).mono hS⟩
theorem Evs.drewN {S : Nat → Prop} {w : World} {A : Option Addr} {es : List Ev} (h : Evs S w A es) (n : Nat) : Evs S (w.drewN n) A es := h

theorem Ev.cells_len (e : Ev) : e.cells.length = 10 := rfl
theorem It.cells_len (e : It) : e.cells.length = 11 := rfl
theorem LineD.cells_len (e : LineD) : e.cells.length = 3 := rfl
theorem FieldD.cells_len (e : FieldD) : e.cells.length = 2 := rfl

/-- lines that follow each other from one place of a file to another -/
def Chain : Int → List LineD → Int → Prop
  | a, [], b => a = b
  | a, x :: xs, b => x.off = a ∧ x.text.size + 1 ≤ x.len ∧ x.len ≤ 60 ∧ Chain (a + x.len) xs b
theorem Chain.snoc {a b : Int} {xs : List LineD} (h : Chain a xs b) (x : LineD) (h1 : x.off = b) (h2 : x.text.size + 1 ≤ x.len) (h3 : x.len ≤ 60) : Chain a (xs ++ [x]) (b + x.len) := by
  induction xs generalizing a with
  | nil => simp only [Chain] at h; subst h; exact ⟨h1, h2, h3, rfl⟩
  | cons y ys ih => exact ⟨h.1, h.2.1, h.2.2.1, ih h.2.2.2⟩
theorem Chain.le {a b : Int} {xs : List LineD} (h : Chain a xs b) : a + xs.length ≤ b ∧ b ≤ a + 60 * xs.length := by
  induction xs generalizing a with
  | nil => simp only [Chain] at h; simp; omega
  | cons y ys ih => have := ih h.2.2.2; have := h.2.1; have := h.2.2.1; simp; omega
end Go.Proofs.YtganfhmjklcchaaGreat

namespace Go.Proofs.YtganfhmjklcchaaGreat
open Go.RowKit
set_option linter.unusedVariables false
set_option linter.unusedSimpArgs false

/-- the text of an event -/
def textOf (ls : List LineD) : ByteArray := ⟨(Lib.join (ls.map (·.text.data.toList)) [10]).toArray⟩
def TextP (w : World) (t : ByteArray) (e : Ending) (w' : World) : Prop := e = .returned (.string t) ∧ w.grownBy w' none
theorem join_len : ∀ (xs : List (List UInt8)) (m : Nat), (∀ x ∈ xs, x.length ≤ m) → (Lib.join xs [10]).length ≤ xs.length * (m + 1) := by
  intro xs m
  induction xs with
  | nil => intro _; simp [Lib.join]
  | cons a t ih =>
    intro h
    have h1 := h a List.mem_cons_self
    have h2 := ih (fun x hx => h x (List.mem_cons_of_mem _ hx))
    rw [List.length_cons, Nat.add_mul]
    cases t with
    | nil => simp [Lib.join]; omega
    | cons b t => simp [Lib.join] at h2 ⊢; omega
end Go.Proofs.YtganfhmjklcchaaGreat
namespace Go.Proofs.YtganfhmjklcchaaGreat
open Go.RowKit
set_option linter.unusedVariables false
set_option linter.unusedSimpArgs false

theorem textOf_nil : textOf [] = ⟨#[]⟩ := rfl
theorem textOf_step {ls : List LineD} {k : Nat} {y : LineD} (h : ls[k]? = some y) : textOf (ls.take (k + 1)) = if k = 0 then y.text else textOf (ls.take k) ++ ⟨#[10]⟩ ++ y.text := by
  cases ls with
  | nil => simp at h
  | cons a r =>
    rcases k with _ | k
    · simp at h
      subst h
      rw [if_pos rfl]
      simp [textOf, Lib.join_one]
    · rw [if_neg (by omega)]
      simp at h
      have e : ∀ m, textOf ((a :: r).take (m + 1)) = ⟨(a.text.data.toList ++ Lib.joinTail [10] ((r.map (·.text.data.toList)).take m)).toArray⟩ := fun m => by
        unfold textOf
        rw [List.take_succ_cons, List.map_cons, Lib.join_cons, List.map_take]
      rw [e (k + 1), e k, Lib.joinTail_take_succ [10] _ k y.text.data.toList (by rw [List.getElem?_map, h]; rfl)]
      apply ByteArray.ext
      simp [ByteArray.data_append]
theorem textOf_size {ls : List LineD} (ht : ∀ l ∈ ls, l.text.size ≤ 100000) : ∀ k, k ≤ ls.length → (textOf (ls.take k)).size ≤ k * 100001 := by
  intro k
  induction k with
  | zero => intro _; simp [textOf_nil, ByteArray.size]
  | succ k ih =>
    intro hk
    have h := ih (by omega)
    have hy : ls[k]? = some (ls[k]'(by omega)) := List.getElem?_eq_getElem _
    have hm := ht _ (List.getElem_mem (by omega : k < ls.length))
    rw [textOf_step hy]
    split
    · omega
    · rw [ByteArray.size_append, ByteArray.size_append]
      have : (⟨#[10]⟩ : ByteArray).size = 1 := rfl
      omega
set_option maxHeartbeats 2000000 in
set_option maxRecDepth 100000 in
theorem rtext_any {S : Nat → Prop} (e : Ev) (w : World) (hs : e.Sub S w) (hl : e.lines.length ≤ 1000) (ht : ∀ l ∈ e.lines, l.text.size ≤ 100000) :
    Calls Tryz.prog 100 #[.agg e.cells.toArray] w (TextP w (textOf e.lines)) := by
  obtain ⟨xb, hxb⟩ : ∃ b, b = w.heap.size := ⟨_, rfl⟩
  obtain ⟨W1, hW1⟩ : ∃ W, W = w.alloc (.cells e.cells.toArray 67) := ⟨_, rfl⟩
  have hB1 : Blk W1 xb 67 e.cells.toArray := by rw [hW1, hxb]; exact Blk.new w _ _
  have g1 : w.grownBy W1 none := by rw [hW1]; exact only_alloc (only_refl _ _) _
  have G1 := Lib.hid g1
  have HR := Lib.hid (hs.1.grown g1 (by simp))
  have HT := Lib.hid ht
  have b4 := hB1.cell 4
  simp [Ev.cells] at b4
  have HW1 := Lib.hid hW1.symm
  have HXE := Lib.hid hxb.symm
  obtain ⟨ls, hls⟩ : ∃ ls, ls = e.lines := ⟨_, rfl⟩
  rw [← hls] at HR HT b4 hl ⊢
  clear hs ht hW1 hxb hB1 g1 hls
  go_enter Tryz.func100, Tryz.ntmps100
  go_upto_region 1 with fail
  rw [HW1.out, HXE.out]
  clear HW1 HXE
  go_wp2_with fail
  go_loop [3, 4] (fun v i => ∃ k : Nat, k ≤ ls.length ∧ i = .int .i64 k ∧ v = .string (textOf (ls.take k))) (fun _ i => ls.length - (intOf i).toNat)
  case atStart => exact ⟨0, Nat.zero_le _, rfl, rfl⟩
  case round =>
    obtain ⟨k, hk, rfl, rfl⟩ := hrel
    obtain ⟨t, ht⟩ : ∃ t, t = textOf (ls.take k) := ⟨_, rfl⟩
    have hts := textOf_size HT.out k hk
    have hts2 : k * 100001 ≤ 100001000 := by omega
    rw [← ht] at hts ⊢
    have htz : t.size ≤ 100001000 := Nat.le_trans hts hts2
    have HTT := Lib.hid ht
    clear ht hts hts2
    by_cases hlt : k < ls.length
    · obtain ⟨y, hy⟩ : ∃ y, ls[k]? = some y := ⟨_, List.getElem?_eq_getElem hlt⟩
      obtain ⟨b, o, ela, hbl, -, -⟩ := HR.out (by rw [flat_len _ 3 LineD.cells_len]; omega)
      have hrr := HR.out
      rw [ela] at hrr
      have d2 : W1.cell? ⟨b, o + k * 3 + 2, none⟩ = some (.string y.text) := hrr.flatAt LineD.cells_len hy 2 (by omega)
      have i1 : (k : Int) < (ls.length : Int) := by omega
      rw [ela] at b4
      have HST := Lib.hid (textOf_step hy)
      have hyz := HT.out y (List.mem_of_getElem? hy)
      clear hy hrr hbl ela
      by_cases h0 : k = 0
      · have HV : Hid (textOf (ls.take (k + 1)) = y.text) := Lib.hid (by rw [HST.out, if_pos h0])
        have HV0 : Hid (t = ⟨#[]⟩) := Lib.hid (by rw [HTT.out, h0]; rfl)
        subst h0
        have et := HV0.out
        subst et
        have he : (⟨#[]⟩ : ByteArray) ++ y.text = y.text := ByteArray.empty_append
        go_wp2_with fail
        go_round
        case rel => exact ⟨1, by omega, by go_num, by rw [HV.out]⟩
        case measure => simp [intOf]; omega
      · have i2 : (0 : Int) < (k : Int) := by omega
        have HV : Hid (textOf (ls.take (k + 1)) = t ++ ⟨#[10]⟩ ++ y.text) := Lib.hid (by rw [HST.out, if_neg h0, HTT.out])
        have hs1 : (⟨#[10]⟩ : ByteArray).size = 1 := rfl
        have hs2 : (t ++ (⟨#[10]⟩ : ByteArray)).size ≤ 100001001 := by rw [ByteArray.size_append, hs1]; omega
        clear h0
        go_wp2_with fail
        go_round
        case rel => exact ⟨k + 1, by omega, by go_num, by rw [HV.out]⟩
        case measure => simp [intOf]; omega
    · have HE : Hid (t = textOf ls) := Lib.hid (by rw [HTT.out, List.take_of_length_le (by omega)])
      go_wp2_with fail
      go_ret
      exact ⟨by rw [← HE.out]; rfl, G1.out⟩
end Go.Proofs.YtganfhmjklcchaaGreat

namespace Go.Proofs.YtganfhmjklcchaaGreat
open Go.RowKit
set_option linter.unusedVariables false
set_option linter.unusedSimpArgs false

theorem u8Info27 : (Tryz.prog.info? 5).map (fun i => (i.zero, i.size, i.bytes)) = some (some (.int .u8 0), 1, 1) := by kernel_rfl
theorem bytesin_rd {S : Nat → Prop} {w : World} {A : Option Addr} {bs : List Int} (h : Rd S w A (bs.map (.int .u8))) : Lib.BytesIn w A bs.length bs := by
  intro h0
  obtain ⟨b, o, rfl, -, -, hc⟩ := h (by simpa using h0)
  refine ⟨b, o, rfl, fun j hj => ?_⟩
  exact hc j _ (by rw [List.getElem?_map, List.getElem?_eq_getElem hj, List.getD_eq_getElem?_getD, List.getElem?_eq_getElem hj]; rfl)
def natB (l : List UInt8) : List Int := l.map (fun b => (b.toNat : Int))
theorem dig_toNat {d : Nat} (h : d < 10) : ((UInt8.ofNat (48 + d)).toNat : Int) = 48 + d := by
  have : (UInt8.ofNat (48 + d)).toNat = 48 + d := by simp [UInt8.toNat_ofNat]; omega
  rw [this]; omega
theorem nDigits_le : ∀ (k u : Nat), 1 ≤ k → u < 10 ^ k → Lib.nDigits u ≤ k
  | 0, _, h, _ => by omega
  | k + 1, u, _, h => by
    by_cases h10 : u < 10
    · rw [Lib.nDigits_small h10]; omega
    · rw [Lib.nDigits_big h10]
      by_cases hk : k = 0
      · subst hk; simp at h; omega
      · have := nDigits_le k (u / 10) (by omega) (by rw [Nat.pow_succ] at h; omega)
        omega
end Go.Proofs.YtganfhmjklcchaaGreat

namespace Go.Proofs.YtganfhmjklcchaaGreat
open Go.RowKit
set_option linter.unusedVariables false
set_option linter.unusedSimpArgs false

def DistPost (w : World) (ws : List ByteArray) (e : Ending) (w' : World) : Prop :=
  ∃ (A : Option Addr) (c : Nat) (ds : List ByteArray), e = .returned (.slice A ds.length c) ∧ ds.length ≤ c ∧ c ≤ maxLen ∧ Srt ds ∧ (∀ s, s ∈ ds ↔ s ∈ ws) ∧ ds.length ≤ ws.length ∧ Rd (w.heap.size ≤ ·) w' A (ds.map .string) ∧ w.grownBy w' none

/-- the same, and the row is the call's own -/
def DistOwn (w : World) (ws : List ByteArray) (e : Ending) (w' : World) : Prop :=
  ∃ (A : Option Addr) (c : Nat) (ds : List ByteArray), e = .returned (.slice A ds.length c) ∧ ds.length ≤ c ∧ c ≤ maxLen ∧ Srt ds ∧ (∀ s, s ∈ ds ↔ s ∈ ws) ∧ ds.length ≤ ws.length ∧ w'.ownsRow w.heap.size 9 1 (.slice A ds.length c) ds.length (ds.map .string) ∧ w.grownBy w' none
theorem DistOwn.post {w w' : World} {ws : List ByteArray} {e : Ending} (h : DistOwn w ws e w') : DistPost w ws e w' := by
  obtain ⟨A, c, ds, h1, h2, h3, h4, h5, h6, h7, h8⟩ := h
  exact ⟨A, c, ds, h1, h2, h3, h4, h5, h6, rd_own h7 (by decide), h8⟩
set_option maxHeartbeats 1000000 in
set_option maxRecDepth 100000 in
theorem distinct_own_any (k : Nat) : ∀ (A : Option Addr) (ws : List ByteArray) (n c : Nat) (w : World), n ≤ k → ws.length = n → Rd (fun _ => True) w A (ws.map .string) → n ≤ 1000000 → n ≤ c → c ≤ maxLen →
    Calls Tryz.prog 101 #[.slice A n c] w (DistOwn w ws) := by
  induction k with
  | zero =>
    intro A ws n c w hk hn h hl hc hcm
    obtain rfl : n = 0 := by omega
    obtain rfl : ws = [] := List.eq_nil_of_length_eq_zero hn
    clear h
    go_enter Tryz.func101, Tryz.ntmps101
    go_wp2_with (at_builtin; refine wpList_appendN rfl _ _ 123 rfl w.heap.size Tryz.underlying123 strInfo rfl (by decide) (v := .slice none 0 0) (by rfl) (World.ownsRow_nil _ _ _ _) A 0 c (by rfl) (Rd.nil (S := fun _ => True)) (by simp) (by simp) (by decide) (by omega) (Nat.le_refl _) ?_; intro v5 w5 hown5 hg5 hob5)
    obtain ⟨A5, c5, rfl, hc5, hm5, -, hr5⟩ := Rd.of_own hown5 (by decide)
    go_ret
    exact ⟨A5, c5, [], by simp, by simp, hm5, List.Pairwise.nil, by simp, by simp, by simpa using hown5, by simpa [Value.ownBlock] using hg5⟩
  | succ k ih =>
    intro A ws n c w hk hn h hl hc hcm
    have H := Lib.hid h
    have HN := Lib.hid hn
    have IH := Lib.hid ih
    unfold maxLen at hcm
    clear h ih hn
    by_cases h2 : n < 2
    · go_enter Tryz.func101, Tryz.ntmps101
      go_wp2_with (at_builtin; refine wpList_appendN rfl _ _ 123 rfl w.heap.size Tryz.underlying123 strInfo rfl (by decide) (v := .slice none 0 0) (by rfl) (World.ownsRow_nil _ _ _ _) A n c (by rfl) H.out (by have := HN.out; simp; omega) (by simp [Value.oneCell']) (by decide) (by omega) (Nat.le_refl _) ?_; intro v5 w5 hown5 hg5 hob5)
      obtain ⟨A5, c5, rfl, hc5, hm5, -, hr5⟩ := Rd.of_own hown5 (by decide)
      have HR5 := Lib.hid hown5
      clear hown5 hob5 hr5
      go_ret
      have e := HN.out
      refine ⟨A5, c5, ws, by rw [e]; simp, by rw [e]; omega, hm5, ?_, fun _ => Iff.rfl, Nat.le_refl _, by rw [e]; simpa using HR5.out, by simpa [Value.ownBlock] using hg5⟩
      match ws, e with
      | [], _ => exact List.Pairwise.nil
      | [x], _ => exact List.pairwise_singleton _ _
      | x :: y :: l, e => exfalso; simp at e; omega
    · have h0 : (0 : Int) ≤ (n : Int) / 2 := by omega
      have h1 : (n : Int) / 2 ≤ (n : Int) := by omega
      have hd2 : decide ((n : Int) < 2) = false := by simp; omega
      go_enter Tryz.func101, Tryz.ntmps101
      go_wp2_with fail
      have HT : Hid (Rd (fun _ => True) w A ((ws.take (n / 2)).map .string)) := by
        have := H.out.take (n / 2)
        rwa [← List.map_take] at this
      have HD : Hid (Rd (fun _ => True) w (Option.map (fun x => x.add (n / 2)) A) ((ws.drop (n / 2)).map .string)) := by
        have := H.out.drop (n / 2)
        rwa [← List.map_drop] at this
      go_region_with (first
        | (have tk := HR6; go_at_call 117; go_must (refine (union_own A5 A6 d5 d6 c5 c6 _ (S := fun _ => True) (by exact ((rd_own HR5.out (by decide)).grown hg6 (by simp)).mono (fun _ _ _ => trivial)) (by exact (rd_own HR6.out (by decide)).mono (fun _ _ _ => trivial)) (by have := HN.out; simp at hl5; omega) (by have := HN.out; simp at hl6; omega)).mono ?_); rintro e w7 ⟨A7, c7, x7, y7, rfl, hc7, hm7, hr7, hg7⟩)
        | (have tk := HR5; go_at_call 101; go_must (refine (IH.out (Option.map (fun x => x.add (n / 2)) A) (ws.drop (n / 2)) (n - n / 2) (c - n / 2) _ (by omega) (by have := HN.out; simp; omega) (by exact (HD.out.drewN 1).grown hg5 (by simp)) (by omega) (by omega) (by unfold maxLen; omega)).mono ?_); rintro e w6 ⟨A6, c6, d6, rfl, hc6, hm6, hs6, he6, hl6, hr6, hg6⟩; have HR6 := Lib.hid hr6; have HE6 := Lib.hid he6; clear hr6 he6 tk)
        | (go_at_call 101; go_must (refine (IH.out A (ws.take (n / 2)) (n / 2) c _ (by omega) (by have := HN.out; simp; omega) (by exact HT.out.drewN 1) (by omega) (by omega) (by unfold maxLen; omega)).mono ?_); rintro e w5 ⟨A5, c5, d5, rfl, hc5, hm5, hs5, he5, hl5, hr5, hg5⟩; have HR5 := Lib.hid hr5; have HE5 := Lib.hid he5; clear hr5 he5))
      have HR7 := Lib.hid hr7
      clear hr7
      go_wp2_with fail
      go_ret
      refine ⟨A7, c7, un d5 d6, rfl, hc7, hm7, un_srt _ _ hs5 hs6, fun s => ?_, ?_, own_dn HR7.out ?_, only_trans (only_trans (only_trans (only_drew (only_refl _ _)) hg5) hg6) hg7⟩
      · rw [un_mem, HE5.out, HE6.out]
        constructor
        · rintro (h | h)
          · exact List.mem_of_mem_take h
          · exact List.mem_of_mem_drop h
        · intro h
          rw [← List.take_append_drop (n / 2) ws] at h
          exact List.mem_append.1 h
      · have := un_len d5 d6
        have := HN.out
        simp at hl5 hl6
        omega
      · have h5 := hg5.size
        have h6 := hg6.size
        have h8 : w.drew.heap.size = w.heap.size := rfl
        omega
theorem distinct_any (k : Nat) (A : Option Addr) (ws : List ByteArray) (n c : Nat) (w : World) (h1 : n ≤ k) (h2 : ws.length = n) (h3 : Rd (fun _ => True) w A (ws.map .string)) (h4 : n ≤ 1000000) (h5 : n ≤ c) (h6 : c ≤ maxLen) :
    Calls Tryz.prog 101 #[.slice A n c] w (DistPost w ws) := (distinct_own_any k A ws n c w h1 h2 h3 h4 h5 h6).mono fun _ _ h => h.post
theorem distinct_post {S : Nat → Prop} (A : Option Addr) (ws : List ByteArray) (c : Nat) (w : World) (h : Rd S w A (ws.map .string)) (hl : ws.length ≤ 1000000) (hc : ws.length ≤ c) (hm : c ≤ maxLen) :
    Calls Tryz.prog 101 #[.slice A ws.length c] w (DistPost w ws) :=
  distinct_any ws.length A ws ws.length c w (Nat.le_refl _) rfl (h.mono (fun _ _ _ => trivial)) hl hc hm
theorem distinct_own {S : Nat → Prop} (A : Option Addr) (ws : List ByteArray) (c : Nat) (w : World) (h : Rd S w A (ws.map .string)) (hl : ws.length ≤ 1000000) (hc : ws.length ≤ c) (hm : c ≤ maxLen) :
    Calls Tryz.prog 101 #[.slice A ws.length c] w (DistOwn w ws) :=
  distinct_own_any ws.length A ws ws.length c w (Nat.le_refl _) rfl (h.mono (fun _ _ _ => trivial)) hl hc hm
end Go.Proofs.YtganfhmjklcchaaGreat
