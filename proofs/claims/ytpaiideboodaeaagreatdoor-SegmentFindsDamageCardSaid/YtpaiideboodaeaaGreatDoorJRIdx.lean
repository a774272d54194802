/- XRIdx: what this seat has of them (joined by partseat.py). Conditions: as there. -/
import Derived.Test.YtpaiideboodaeaaGreatDoorJStr
import Derived.Deep.RegionLaw
import Derived.Test.YtpaiideboodaeaaGreatDoorJRCol
import Derived.Test.YtpaiideboodaeaaGreatDoorJREnc
import Derived.Test.YtpaiideboodaeaaGreatDoorJShelf36
import Derived.Test.YtpaiideboodaeaaGreatDoorJBase
import Derived.Test.YtpaiideboodaeaaGreatDoorJRTermsJ
import Derived.Test.YtpaiideboodaeaaGreatDoorJFiles
import Derived.Deep.DeepCutAuto
namespace Go.Proofs.YtpaiideboodaeaaGreatDoor
open Go.RowKit
set_option linter.unusedVariables false
set_option linter.unusedSimpArgs false

theorem ret_ib {k : IntKind} {a b : Int} {c d : Bool} (h : a = b) (h' : d = c) : Ending.returned (.tuple #[.int k a, .bool c]) = .returned (.tuple #[.int k b, .bool d]) := by rw [h, h']
/-- binary search, with a bound on its rounds -/
def bs (p : Nat → Bool) : Nat → Nat → Nat → Nat
  | 0, i, _ => i
  | f + 1, i, j => if i < j then (if p ((i + j) / 2) then bs p f ((i + j) / 2 + 1) j else bs p f i ((i + j) / 2)) else i
theorem bs_done (p : Nat → Bool) (f i j : Nat) (h : j ≤ i) : bs p f i j = i := by
  cases f with
  | zero => rfl
  | succ f => simp [bs, show ¬ i < j by omega]
theorem bs_le (p : Nat → Bool) (f : Nat) : ∀ i j, i ≤ j → j - i ≤ f → i ≤ bs p f i j ∧ bs p f i j ≤ j := by
  induction f with
  | zero => intro i j h1 h2; simp [bs]; omega
  | succ f ih =>
    intro i j h1 h2
    simp only [bs]
    split
    · split
      · have := ih ((i + j) / 2 + 1) j (by omega) (by omega); omega
      · have := ih i ((i + j) / 2) (by omega) (by omega); omega
    · omega
def lt (ds : List ByteArray) (t : ByteArray) (i : Nat) : Bool := sl (ds.getD i ⟨#[]⟩) t
def ixOf (ds : List ByteArray) (t : ByteArray) : Nat := bs (lt ds t) ds.length 0 ds.length
def found (ds : List ByteArray) (t : ByteArray) : Bool := decide (ds[ixOf ds t]? = some t)

set_option maxHeartbeats 1000000 in
theorem rindex_any {S : Nat → Prop} (A : Option Addr) (ds : List ByteArray) (c : Nat) (t : ByteArray) (w : World) (h : Rd S w A (ds.map .string)) (hl : ds.length ≤ 10000000) :
    Calls Tryz.prog 146 #[.slice A ds.length c, .string t] w (Quiet (.tuple #[.int .i64 (ixOf ds t), .bool (found ds t)]) w) := by
  have H := Lib.hid h
  clear h
  obtain ⟨R, hR⟩ : ∃ R, R = ixOf ds t := ⟨_, rfl⟩
  have HR := Lib.hid hR
  go_enter Tryz.func146, Tryz.ntmps146
  go_wp2
  clear hR
  go_loopw [6, 7] (fun x y wr => ∃ i j f : Nat, i ≤ j ∧ j ≤ ds.length ∧ j - i ≤ f ∧ x = .int .i64 i ∧ y = .int .i64 j ∧ Hid (bs (lt ds t) f i j = R) ∧ ∃ q, wr = w.drewN q) (fun x y _ => (intOf y).toNat - (intOf x).toNat)
  case atStart => exact ⟨0, ds.length, ds.length, Nat.zero_le _, Nat.le_refl _, Nat.le_refl _, rfl, rfl, HR.out.symm, 0, rfl⟩
  case round =>
    obtain ⟨i, j, f, hij, hj, hf, rfl, rfl, hbs, q, rfl⟩ := hrel
    by_cases hlt : i < j
    · obtain ⟨b, off, x, rfl, hc, hx⟩ := H.out.str_at (k := (i + j) / 2) (by omega)
      obtain ⟨f, rfl⟩ : ∃ f', f = f' + 1 := ⟨f - 1, by omega⟩
      have hp : lt ds t ((i + j) / 2) = sl x t := by simp [lt, List.getD_eq_getElem?_getD, hx.out]
      have HB := Lib.hid hp
      clear hp
      by_cases hs : sl x t = true
      · have hs2 : Op.bytesLess x.toList t.toList = true := hs
        have hb2 : Hid (bs (lt ds t) f ((i + j) / 2 + 1) j = R) := by
          have := hbs.out; simp only [bs] at this; rw [if_pos hlt, HB.out, if_pos hs] at this; exact this
        go_wp2
        go_roundw
        case rel => exact ⟨(i + j) / 2 + 1, j, f, by omega, by omega, by omega, by go_num, rfl, hb2, _, rfl⟩
        case measure => simp [intOf]; omega
      · have hs' : sl x t = false := by simpa using hs
        have hs2 : Op.bytesLess x.toList t.toList = false := hs'
        clear hs
        have hb2 : Hid (bs (lt ds t) f i ((i + j) / 2) = R) := by
          have := hbs.out; simp only [bs] at this; rw [if_pos hlt, HB.out, hs'] at this; exact this
        go_wp2
        go_roundw
        case rel => exact ⟨i, (i + j) / 2, f, by omega, by omega, by omega, rfl, by go_num, hb2, _, rfl⟩
        case measure => simp [intOf]; omega
    · have hiR : i = R := by have := hbs.out; rw [bs_done _ _ _ _ (by omega)] at this; exact this
      have hil : i ≤ ds.length := by omega
      clear hbs
      subst hiR
      by_cases hin : i < ds.length
      · obtain ⟨b, off, x, rfl, hc, hx⟩ := H.out.str_at (k := i) hin
        have hfd : found ds t = (x.toList == t.toList) := by
          unfold found
          rw [← HR.out, hx.out, Bool.eq_iff_iff]
          simp
          exact ⟨fun h => by rw [h], fun h => toList_inj h⟩
        have HFD := Lib.hid hfd
        clear hfd
        by_cases hxt : x.toList = t.toList
        · have hb1 : (x.toList == t.toList) = true := by simp [hxt]
          have hii : (i : Int) < (ds.length : Int) := by omega
          have HXT := Lib.hid hxt
          clear hxt
          go_wp2
          go_quiet (fail)
          go_wp2
          go_ret2
          exact ⟨ret_ib (by rw [← HR.out]) (by rw [HFD.out, hb1]), _, World.drewN_drewN _ _ _⟩
        · have hb1 : (x.toList == t.toList) = false := by simp [hxt]
          clear hxt
          go_wp2
          go_quiet (fail)
          go_wp2
          go_ret2
          exact ⟨ret_ib (by rw [← HR.out]) (by rw [HFD.out, hb1]), _, World.drewN_drewN _ _ _⟩
      · have hfd : found ds t = false := by
          unfold found
          rw [← HR.out, List.getElem?_eq_none (by omega)]
          simp
        have HFD := Lib.hid hfd
        clear hfd
        have hdd : decide ((i : Int) < (ds.length : Int)) = false := by simp; omega
        go_wp2
        go_quiet (fail)
        go_wp2
        go_ret2
        exact ⟨ret_ib (by rw [← HR.out]) (by rw [HFD.out]), _, World.drewN_drewN _ _ _⟩


def hp (s p : ByteArray) : Bool := Lib.hasPrefix s.data.toList p.data.toList
theorem hp_yes {s p : ByteArray} (h : p.size ≤ s.size) : hp s p = ((s.extract 0 p.size).toList == p.toList) := by
  unfold hp; rw [← Lib.hasPrefix_raw]; simp [h]
theorem hp_no {s p : ByteArray} (h : ¬ p.size ≤ s.size) : hp s p = false := by
  unfold hp; rw [← Lib.hasPrefix_raw]; simp [h]

def endsAt (ds : List ByteArray) (t : ByteArray) (from_ : Nat) : Nat := bs (fun i => hp (ds.getD (from_ + i) ⟨#[]⟩) t) (ds.length - from_) 0 (ds.length - from_)
theorem ixOf_le (ds : List ByteArray) (t : ByteArray) : ixOf ds t ≤ ds.length := (bs_le _ _ 0 ds.length (Nat.zero_le _) (by omega)).2
theorem endsAt_le (ds : List ByteArray) (t : ByteArray) (k : Nat) : endsAt ds t k ≤ ds.length - k := (bs_le _ _ 0 (ds.length - k) (Nat.zero_le _) (by omega)).2
end Go.Proofs.YtpaiideboodaeaaGreatDoor

namespace Go.Proofs.YtpaiideboodaeaaGreatDoor
open Go.RowKit
set_option linter.unusedVariables false
set_option linter.unusedSimpArgs false

/-- the lowest bytes of a number, the highest first -/
def beB : Nat → Nat → List Int
  | 0, _ => []
  | k + 1, v => ((v / 256 ^ k % 256 : Nat) : Int) :: beB k v
theorem beB_len : ∀ (k v : Nat), (beB k v).length = k
  | 0, _ => rfl
  | k + 1, v => by rw [beB, List.length_cons, beB_len]
def blkP (b : List Int) : List Int := vint b.length ++ b
def colX (vs : List Int) : List Int := bestTo vs 4
noncomputable def dicX (ds : List ByteArray) : List Int := encR ds
noncomputable def idxX (ts : List ByteArray) : List Int := blkP (dicX (dist ts)) ++ blkP (colX (ts.map (fun t => (ixOf (dist ts) t : Int))))
end Go.Proofs.YtpaiideboodaeaaGreatDoor

namespace Go.Proofs.YtpaiideboodaeaaGreatDoor
open Go.RowKit
set_option linter.unusedVariables false
set_option linter.unusedSimpArgs false

theorem xor_u32 (a b : Nat) (ha : a < 4294967296) (hb : b < 4294967296) : bits .xor .u32 (a : Int) (b : Int) = ((a ^^^ b : Nat) : Int) := by
  have hx : a ^^^ b < 2 ^ 32 := Nat.xor_lt_two_pow (n := 32) ha hb
  show IntKind.u32.wrap ((BitVec.ofInt 32 (a : Int) ^^^ BitVec.ofInt 32 (b : Int)).toNat : Int) = _
  rw [BitVec.toNat_xor, ofInt_nat 32 a (by omega), ofInt_nat 32 b (by omega)]
  simp [IntKind.wrap, IntKind.signed, IntKind.bits]
  omega
theorem and_u32 (a b : Nat) (ha : a < 4294967296) (hb : b < 4294967296) : bits .and .u32 (a : Int) (b : Int) = ((a &&& b : Nat) : Int) := by
  have hx : a &&& b < 2 ^ 32 := Nat.and_lt_two_pow (n := 32) _ hb
  show IntKind.u32.wrap ((BitVec.ofInt 32 (a : Int) &&& BitVec.ofInt 32 (b : Int)).toNat : Int) = _
  rw [BitVec.toNat_and, ofInt_nat 32 a (by omega), ofInt_nat 32 b (by omega)]
  simp [IntKind.wrap, IntKind.signed, IntKind.bits]
  omega
theorem xor_lt32 {a b : Nat} (ha : a < 4294967296) (hb : b < 4294967296) : a ^^^ b < 4294967296 := Nat.xor_lt_two_pow (n := 32) ha hb
def crc1 (c : Nat) : Nat := if c % 2 = 1 then (c / 2) ^^^ 3988292384 else c / 2
theorem crc1_lt {c : Nat} (h : c < 4294967296) : crc1 c < 4294967296 := by
  unfold crc1
  split
  · exact xor_lt32 (by omega) (by decide)
  · omega
def crcK : Nat → Nat → Nat
  | 0, c => c
  | k + 1, c => crc1 (crcK k c)
theorem crcK_lt {c : Nat} (h : c < 4294967296) : ∀ k, crcK k c < 4294967296
  | 0 => h
  | k + 1 => crc1_lt (crcK_lt h k)
def crcS (c : Nat) (b : Int) : Nat := crcK 8 (c ^^^ (b % 4294967296).toNat)
def crcT (bs : List Int) : Nat := bs.foldl crcS 4294967295
def crcN (bs : List Int) : Nat := crcT bs ^^^ 4294967295
theorem crcT_lt (bs : List Int) : crcT bs < 4294967296 := by
  have key : ∀ (l : List Int) (c : Nat), c < 4294967296 → l.foldl crcS c < 4294967296 := by
    intro l
    induction l with
    | nil => intro c h; exact h
    | cons x xs ih =>
      intro c hc
      exact ih _ (crcK_lt (xor_lt32 hc (by omega)) 8)
  exact key bs _ (by decide)
theorem crcN_lt (bs : List Int) : crcN bs < 4294967296 := xor_lt32 (crcT_lt bs) (by decide)
theorem crcT_snoc (bs : List Int) (b : Int) : crcT (bs ++ [b]) = crcS (crcT bs) b := by unfold crcT; rw [List.foldl_append]; rfl
theorem and_one32 (c : Nat) : c &&& 1 = c % 2 := Nat.and_two_pow_sub_one_eq_mod c 1
end Go.Proofs.YtpaiideboodaeaaGreatDoor

namespace Go.Proofs.YtpaiideboodaeaaGreatDoor
open Go.RowKit
set_option linter.unusedVariables false
set_option linter.unusedSimpArgs false

theorem byte_ones (bs : List Int) : ∀ u ∈ bs.map (Value.int .u8), u.oneCell' = true := by
  intro u hu
  obtain ⟨x, -, rfl⟩ := List.mem_map.1 hu
  rfl
theorem onto_apN {w0 w1 : World} {v v' : Value} (hg : w0.grownBy w1 v.ownBlock) (hob : v'.ownBlock = v.ownBlock ∨ v'.ownBlock = some w0.heap.size) : Onto w0 v v' w1 := ⟨hg, hob.elim .inl fun h => .inr ⟨_, Nat.le_refl _, h⟩⟩
/-- a new row of bytes -/
def NewB (w : World) (xs : List Int) (e : Ending) (w' : World) : Prop := ∃ v, e = .returned v ∧ Byts w.heap.size w' v xs ∧ w.grownBy w' none
set_option maxHeartbeats 4000000 in
theorem putblock_big {S : Nat → Prop} (base : Nat) (v : Value) (xs : List Int) (A : Option Addr) (bs : List Int) (c : Nat) (w : World) (h : Byts base w v xs) (hr : Rd S w A (bs.map (.int .u8))) (hne : ∀ b, S b → some b ≠ v.ownBlock) (hx : xs.length ≤ 9000000) (hl : bs.length ≤ 4000000) (hxl : xs.length + bs.length ≤ 9900000) (hb : base ≤ w.heap.size) :
    Calls Tryz.prog 147 #[v, .slice A bs.length c] w (VPost base w v (xs ++ blkP bs)) := by
  have H := Lib.hid h
  have HR := Lib.hid (hr.mono (S' := fun b => S b ∧ b < w.heap.size) (fun b h1 h2 => ⟨h1, h2⟩))
  have HNE := Lib.hid hne
  have hvl := vint_len10 (n := bs.length) (by omega)
  clear h hr hne
  go_enter Tryz.func147, Tryz.ntmps147
  go_wp2_with fail
  refine (rvarint_any base v xs bs.length _ H.out (by omega) (by omega) hb).mono ?_
  rintro e w1 ⟨v1, rfl, hB1, hO1⟩
  have B1 := Lib.hid hB1
  have O1 := Lib.hid hO1
  have R1 := Lib.hid (HR.out.grown hO1.1 (fun b hb => HNE.out b hb.1))
  have hz1 := hO1.1.size
  have hne1 : Hid (∀ b, (S b ∧ b < w.heap.size) → some b ≠ v1.ownBlock) := Lib.hid (hO1.ne (fun b hb => hb.2) (fun b hb => HNE.out b hb.1))
  clear hB1 hO1
  go_wp2_with (at_builtin; go_must (refine wpList_appendN rfl _ _ 22 rfl base Tryz.underlying22 byteInfo rfl (by decide) (v := v1) (by rfl) B1.out A bs.length c (by rfl) R1.out (by simp) (byte_ones bs) (by decide) (by rw [List.length_append]; omega) (by omega) ?_); intro v2 w2 hown2 hg2 hob2)
  have B2 : Hid (Byts base w2 v2 (xs ++ blkP bs)) := Lib.hid (by
    unfold Byts blkP
    have h9 := hown2
    rw [List.length_append] at h9
    rw [← List.append_assoc, List.map_append, List.length_append, List.length_append]
    exact h9)
  have O2 := Lib.hid (O1.out.trans (onto_apN hg2 hob2))
  clear hown2 hg2 hob2
  go_wp2_with fail
  go_ret
  exact ⟨v2, rfl, B2.out, O2.out⟩
theorem putblock_any {S : Nat → Prop} (base : Nat) (v : Value) (xs : List Int) (A : Option Addr) (bs : List Int) (c : Nat) (w : World) (h : Byts base w v xs) (hr : Rd S w A (bs.map (.int .u8))) (hne : ∀ b, S b → some b ≠ v.ownBlock) (hx : xs.length ≤ 4000000) (hl : bs.length ≤ 4000000) (hb : base ≤ w.heap.size) :
    Calls Tryz.prog 147 #[v, .slice A bs.length c] w (VPost base w v (xs ++ blkP bs)) := putblock_big base v xs A bs c w h hr hne (by omega) hl (by omega) hb
theorem column_any (A : Option Addr) (vs : List Int) (c : Nat) (w : World) (hr : Rd (fun _ => True) w A (vs.map (.int .i64))) (hl : vs.length ≤ 16384) (hi : ∀ x ∈ vs, I64 x) :
    Calls Tryz.prog 90 #[.slice A vs.length c] w (NewB w (colX vs)) := by
  have K := Lib.hid (rcenc_any A vs c w hr (by omega) hi)
  clear hr hi
  go_enter Tryz.func90, Tryz.ntmps90
  go_wp2_with fail
  refine K.out.mono ?_
  rintro e w1 ⟨v, rfl, hB, hG⟩
  have B := Lib.hid hB
  have G := Lib.hid hG
  clear hB hG
  go_wp2_with fail
  go_ret
  exact ⟨v, rfl, B.out, G.out⟩
theorem dictionary_any {S : Nat → Prop} (A : Option Addr) (ds : List ByteArray) (c : Nat) (w : World) (h : Rd S w A (ds.map .string)) (hl : ds.length ≤ 8000) (hz8 : ∀ x ∈ ds, x.size ≤ 250) :
    Calls Tryz.prog 148 #[.slice A ds.length c] w (NewB w (dicX ds)) := by
  have K := Lib.hid (rencode_any A ds c w h hl hz8)
  clear h hz8
  go_enter Tryz.func148, Tryz.ntmps148
  go_wp2_with fail
  refine K.out.mono ?_
  rintro e w1 ⟨v, rfl, hB, hG⟩
  have B := Lib.hid hB
  have G := Lib.hid hG
  clear hB hG
  go_wp2_with fail
  go_ret
  exact ⟨v, rfl, B.out, G.out⟩
theorem be_el (n j : Nat) : (n : Int) / 2 ^ (8 * j) % 256 = ((n / 256 ^ j % 256 : Nat) : Int) := by
  have h1 : (2 : Int) ^ (8 * j) = ((256 ^ j : Nat) : Int) := by
    rw [Int.pow_mul, show (2 : Int) ^ 8 = ((256 : Nat) : Int) from rfl, Int.natCast_pow]
  obtain ⟨m, hm⟩ : ∃ m, m = 256 ^ j := ⟨_, rfl⟩
  rw [← hm] at h1
  rw [h1, ← hm]
  omega
set_option maxHeartbeats 4000000 in
set_option maxRecDepth 100000 in
theorem sput_any (base : Nat) (v : Value) (xs : List Int) (n width : Nat) (w : World) (h : Byts base w v xs) (hx : xs.length ≤ 4000000) (hw : width ≤ 8) (hn : n < 18446744073709551616) (hb : base ≤ w.heap.size) :
    Calls Tryz.prog 49 #[v, .int .u64 n, .int .i64 (width : Int)] w (VPost base w v (xs ++ beB width n)) := by
  have H := Lib.hid h
  clear h
  go_enter Tryz.func49, Tryz.ntmps49
  go_wp2_with fail
  go_loopw [0, 7] (fun u i wr => ∃ (m : Nat) (ys : List Int), m ≤ width ∧ i = .int .i64 ((m : Int) - 1) ∧ Byts base wr u ys ∧ ys ++ beB m n = xs ++ beB width n ∧ Onto w v u wr) (fun _ i _ => (intOf i + 1).toNat)
  case atStart => exact ⟨width, xs, Nat.le_refl _, rfl, H.out, rfl, Onto.refl _ _⟩
  case round =>
    obtain ⟨m, ys, hm, rfl, hB, he, hO⟩ := hrel
    have hl : ys.length ≤ 4000010 := by
      have h1 := congrArg List.length he
      simp [beB_len] at h1
      omega
    have HO := Lib.hid hO
    have HE := Lib.hid he
    have HB := Lib.hid hB
    have hz := hO.1.size
    clear hO he hB
    by_cases hc : 1 ≤ m
    · obtain ⟨j, rfl⟩ : ∃ j, m = j + 1 := ⟨m - 1, by omega⟩
      have hjj : (((j + 1 : Nat) : Int) - 1) = (j : Int) := by omega
      rw [hjj]
      have i1 : (0 : Int) ≤ (j : Int) := by omega
      clear hjj
      go_wp2_with (at_builtin; go_must (refine wpList_append1 rfl _ _ 22 rfl base Tryz.underlying22 byteInfo rfl (by decide) (v := u0) (by rfl) (w0 := wr) (cs := #[.int .u8 ((n : Int) / 2 ^ (8 * j) % 256)]) HB.out (by rfl) rfl (by simp [Value.oneCell']) (by decide) (by omega) (by omega) ?_); intro v1 w1 hv1 hg1 hob1)
      rw [be_el] at hv1
      have B1 := Lib.hid (Byts.snoc hv1)
      have O1 := Lib.hid (HO.out.trans (onto_ap hg1 hob1))
      clear hv1 hg1 hob1
      go_wp2_with fail
      go_roundw
      case rel => exact ⟨j, ys ++ [((n / 256 ^ j % 256 : Nat) : Int)], by omega, rfl, B1.out, by rw [← HE.out, beB]; simp, O1.out⟩
      case measure => simp [intOf] <;> omega
    · have hm0 : m = 0 := by omega
      subst hm0
      have HE2 : Hid (ys = xs ++ beB width n) := Lib.hid (by have h := HE.out; simpa [beB] using h)
      have B9 : Hid (Byts base wr u0 (xs ++ beB width n)) := Lib.hid (by rw [← HE2.out]; exact HB.out)
      go_wp2_with fail
      go_ret
      exact ⟨u0, rfl, B9.out, HO.out⟩
set_option maxHeartbeats 4000000 in
set_option maxRecDepth 100000 in
theorem crc_any {S : Nat → Prop} (A : Option Addr) (bs : List Int) (c : Nat) (w : World) (hr : Rd S w A (bs.map (.int .u8))) (hl : bs.length ≤ 10000000) :
    Calls Tryz.prog 51 #[.slice A bs.length c] w (fun e w' => e = .returned (.int .u32 (crcN bs : Nat)) ∧ w' = w) := by
  have HR := Lib.hid hr
  clear hr
  go_enter Tryz.func51, Tryz.ntmps51
  go_wp2_with fail
  go_loopw [3, 4] (fun vc vi wr => ∃ (k s : Nat), vi = .int .i64 k ∧ vc = .int .u32 s ∧ k ≤ bs.length ∧ Hid (crcT (bs.take k) = s) ∧ s < 4294967296 ∧ wr = w) (fun _ vi _ => bs.length - (intOf vi).toNat)
  case atStart => exact ⟨0, 4294967295, rfl, rfl, Nat.zero_le _, Lib.hid rfl, by decide, rfl⟩
  case round =>
    obtain ⟨k, s, rfl, rfl, hk, HS, hs, rfl⟩ := hrel
    by_cases hlt : k < bs.length
    · obtain ⟨x, hx⟩ : ∃ x, bs[k]? = some x := ⟨_, List.getElem?_eq_getElem hlt⟩
      obtain ⟨xn, hxn⟩ : ∃ n : Nat, n = (x % 4294967296).toNat := ⟨_, rfl⟩
      have hxw : x % 4294967296 = (xn : Int) := by omega
      obtain ⟨b, off, eA, hS, hlt2, hc⟩ := HR.out (by simp; omega)
      subst eA
      have c0 := hc k (.int .u8 x) (by simp [hx])
      have i1 : (k : Int) < (bs.length : Int) := by omega
      have HN : Hid (crcT (bs.take (k + 1)) = crcK 8 (s ^^^ xn)) := Lib.hid (by
        obtain ⟨h1, h2⟩ := List.getElem?_eq_some_iff.1 hx
        rw [List.take_succ_eq_append_getElem h1, h2, crcT_snoc, HS.out, crcS, ← hxn])
      have hxs : s ^^^ xn < 4294967296 := xor_lt32 hs (by omega)
      have HXR := Lib.hid (xor_u32 s xn hs (by omega))
      clear hc hx hxn
      go_wp2_with fail
      rw [HXR.out]
      obtain ⟨wo, rfl⟩ : ∃ wo : World, wo = wr := ⟨_, rfl⟩
      go_loopw [3, 5] (fun vc vj wr => ∃ (j t : Nat), vj = .int .i64 j ∧ vc = .int .u32 t ∧ j ≤ 8 ∧ Hid (t = crcK j (s ^^^ xn)) ∧ t < 4294967296 ∧ wr = wo) (fun _ vj _ => 8 - (intOf vj).toNat)
      case atStart => exact ⟨0, s ^^^ xn, rfl, rfl, Nat.zero_le _, Lib.hid rfl, hxs, rfl⟩
      case round =>
        obtain ⟨j, t, rfl, rfl, hj, HT, ht, rfl⟩ := hrel
        by_cases hlt8 : j < 8
        · have i2 : (j : Int) < 8 := by omega
          by_cases hodd : t % 2 = 1
          · have ha : bits BinOp.and IntKind.u32 (t : Int) 1 = 1 := by
              have h := and_u32 t 1 ht (by decide)
              rw [and_one32, hodd] at h
              exact h
            have HT2 : Hid (t / 2 ^^^ 3988292384 = crcK (j + 1) (s ^^^ xn)) := Lib.hid (by rw [crcK, ← HT.out, crc1, if_pos hodd])
            have HX2 := Lib.hid (xor_u32 (t / 2) 3988292384 (by omega) (by decide))
            have hl2 : t / 2 ^^^ 3988292384 < 4294967296 := xor_lt32 (by omega) (by decide)
            clear hodd
            go_wp2_with fail
            go_roundw
            case rel => exact ⟨j + 1, t / 2 ^^^ 3988292384, by go_num, congrArg (Value.int .u32) HX2.out, by omega, HT2, hl2, trivial⟩
            case measure => simp [intOf]; omega
          · have ha : bits BinOp.and IntKind.u32 (t : Int) 1 = 0 := by
              have h := and_u32 t 1 ht (by decide)
              rw [and_one32, show t % 2 = 0 by omega] at h
              exact h
            have HT2 : Hid (t / 2 = crcK (j + 1) (s ^^^ xn)) := Lib.hid (by rw [crcK, ← HT.out, crc1, if_neg hodd])
            clear hodd
            go_wp2_with fail
            go_roundw
            case rel => exact ⟨j + 1, t / 2, by go_num, by go_num, by omega, HT2, by omega, trivial⟩
            case measure => simp [intOf]; omega
        · have i2 : ¬ (j : Int) < 8 := by omega
          have hj8 : j = 8 := by omega
          have HT2 : Hid (crcT (bs.take (k + 1)) = t) := Lib.hid (by rw [HN.out, HT.out, hj8])
          clear hj8
          go_wp2_with fail
          go_roundw
          case rel => exact ⟨k + 1, t, by go_num, rfl, by omega, HT2, ht, trivial⟩
          case measure => simp [intOf]; omega
    · have i1 : ¬ (k : Int) < (bs.length : Int) := by omega
      have HE : Hid (crcN bs = s ^^^ 4294967295) := Lib.hid (by have h := HS.out; rw [List.take_of_length_le (by omega)] at h; unfold crcN; rw [h])
      have HX3 : Hid (bits BinOp.xor IntKind.u32 IntKind.u32.max (s : Int) = ((s ^^^ 4294967295 : Nat) : Int)) := Lib.hid (by rw [Nat.xor_comm]; exact xor_u32 4294967295 s (by decide) hs)
      go_wp2_with fail
      go_ret
      exact ⟨congrArg (fun x => Ending.returned (Value.int .u32 x)) (HX3.out.trans (congrArg (fun (x : Nat) => (x : Int)) HE.out.symm)), rfl⟩
end Go.Proofs.YtpaiideboodaeaaGreatDoor

namespace Go.Proofs.YtpaiideboodaeaaGreatDoor
open Go.RowKit
set_option linter.unusedVariables false
set_option linter.unusedSimpArgs false

/-- a new slice of strings -/
def NewS (w : World) (ws : List ByteArray) (e : Ending) (w' : World) : Prop := ∃ A c, e = .returned (.slice A ws.length c) ∧ ws.length ≤ c ∧ c ≤ maxLen ∧ Rd (w.heap.size ≤ ·) w' A (ws.map .string) ∧ w.grownBy w' none
theorem str_onesG {l : List ByteArray} : ∀ u ∈ l.map Value.string, u.oneCell' = true := by
  intro u hu
  obtain ⟨s, -, rfl⟩ := List.mem_map.1 hu
  rfl
theorem dist_new {S : Nat → Prop} (A : Option Addr) (ws : List ByteArray) (c : Nat) (w : World) (h : Rd S w A (ws.map .string)) (hl : ws.length ≤ 1000000) (hc : ws.length ≤ c) (hm : c ≤ maxLen) :
    Calls Tryz.prog 13 #[.slice A ws.length c] w (NewS w (dist ws)) :=
  (distinct_post A ws c w h hl hc hm).mono (by
    rintro e w' ⟨A', c', ds, rfl, h1, h2, h3, h4, h5, h6, h7⟩
    obtain rfl : ds = dist ws := srt_ext h3 (dist_srt ws) (fun s => by rw [h4, dist_mem])
    exact ⟨A', c', rfl, h1, h2, h6, h7⟩)
theorem dist_len' (ws : List ByteArray) : (dist ws).length ≤ ws.length := by
  have := dist_len ws
  exact this
/-- events whose texts and fields are small -/
def EvS (e : Ev) : Prop := e.lines.length ≤ 3 ∧ (∀ l ∈ e.lines, l.text.size ≤ 59) ∧ (textOf e.lines).size ≤ 180 ∧ e.fields.length ≤ 4 ∧ (∀ f ∈ e.fields, f.name.size ≤ 20 ∧ f.value.size ≤ 20) ∧ e.trace.size ≤ 10 ∧ e.stream.size ≤ 10
def wordsE (e : Ev) : List ByteArray := dist (rawW (bts (textOf e.lines)))
theorem wordsE_len {e : Ev} (h : EvS e) : (wordsE e).length ≤ 181 := by
  have h1 := dist_len' (rawW (bts (textOf e.lines)))
  have h2 := rawW_len (bts (textOf e.lines))
  rw [bts_length] at h2
  have := h.2.2.1
  unfold wordsE
  omega
def wordsX (es : List Ev) : List ByteArray := dist (es.flatMap wordsE)
def namesE (e : Ev) : List ByteArray := e.fields.map FieldD.name
def namesX (es : List Ev) : List ByteArray := dist (es.flatMap namesE)
theorem flat_le {α β : Type} (f : α → List β) (m : Nat) : ∀ l : List α, (∀ x ∈ l, (f x).length ≤ m) → (l.flatMap f).length ≤ l.length * m
  | [], _ => by simp
  | x :: l, h => by
    rw [List.flatMap_cons, List.length_append, List.length_cons, Nat.succ_mul]
    have h1 := h x (List.mem_cons_self ..)
    have h2 := flat_le f m l (fun y hy => h y (List.mem_cons_of_mem _ hy))
    omega
theorem flat_snoc {α β : Type} (f : α → List β) {l : List α} {k : Nat} {y : α} (hy : l[k]? = some y) : (l.take (k + 1)).flatMap f = (l.take k).flatMap f ++ f y := by
  obtain ⟨h1, e⟩ := List.getElem?_eq_some_iff.1 hy
  rw [List.take_succ_eq_append_getElem h1, e, List.flatMap_append]
  simp
theorem wE_any {S : Nat → Prop} (e : Ev) (w : World) (hs : e.Sub S w) (he : EvS e) : Calls Tryz.prog 37 #[.agg e.cells.toArray] w (TextP w (textOf e.lines)) :=
  rtext_any e w hs (by have := he.1; omega) (fun l hl => by have := he.2.1 l hl; omega)
theorem wW_any (e : Ev) (w : World) (he : EvS e) : Calls Tryz.prog 36 #[.string (textOf e.lines)] w (NewS w (wordsE e)) :=
  (rwords_any _ w (by have := he.2.2.1; omega)).mono (by
    rintro e' w' ⟨A', c', ds, rfl, h1, h2, h3, h4, h5, h6, h7⟩
    obtain rfl : ds = wordsE e := srt_ext h3 (dist_srt _) (fun s => by rw [h4]; unfold wordsE; rw [dist_mem])
    exact ⟨A', c', rfl, h1, h2, h6, h7⟩)
set_option maxHeartbeats 8000000 in
set_option maxRecDepth 100000 in
theorem words_any {S : Nat → Prop} (A : Option Addr) (es : List Ev) (c : Nat) (w : World) (hev : Evs S w A es) (hel : es.length ≤ 2000) (hs : ∀ e ∈ es, EvS e) :
    Calls Tryz.prog 82 #[.slice A es.length c] w (NewS w (wordsX es)) := by
  have HEV := Lib.hid hev
  have HS := Lib.hid hs
  have HL : Hid (∀ k, ((es.take k).flatMap wordsE).length ≤ 400000) := Lib.hid (fun k => by
    have h1 := flat_le wordsE 181 (es.take k) (fun e he => wordsE_len (hs e (List.mem_of_mem_take he)))
    rw [List.length_take] at h1
    have h2 : min k es.length * 181 ≤ 2000 * 181 := Nat.mul_le_mul (by omega) (Nat.le_refl _)
    omega)
  have KT : Hid (∀ (e : Ev) (w' : World), e ∈ es → w.grownBy w' none → Calls Tryz.prog 37 #[.agg e.cells.toArray] w' (TextP w' (textOf e.lines))) := Lib.hid (fun e w' he hg => wE_any e w' ((hev.2 e he).grown hg (by simp)) (hs e he))
  have KW : Hid (∀ (e : Ev) (w' : World), e ∈ es → Calls Tryz.prog 36 #[.string (textOf e.lines)] w' (NewS w' (wordsE e))) := Lib.hid (fun e w' he => wW_any e w' (hs e he))
  have HSN : Hid (∀ (k : Nat) (y : Ev), es[k]? = some y → (es.take (k + 1)).flatMap wordsE = (es.take k).flatMap wordsE ++ wordsE y) := Lib.hid (fun k y hy => flat_snoc wordsE hy)
  have HX : Hid (wordsX es = dist (es.flatMap wordsE)) := Lib.hid rfl
  obtain ⟨R, hR⟩ : ∃ r, r = wordsX es := ⟨_, rfl⟩
  rw [← hR] at HX ⊢
  clear hev hs hR
  go_enter Tryz.func82, Tryz.ntmps82
  go_wp2_with fail
  go_loopw [3, 4] (fun v vi wr => ∃ (k : Nat) (ws : List ByteArray), vi = .int .i64 k ∧ k ≤ es.length ∧ Hid ((es.take k).flatMap wordsE = ws) ∧ wr.ownsRow w.heap.size 9 1 v ws.length (ws.map .string) ∧ w.grownBy wr none) (fun _ vi _ => es.length - (intOf vi).toNat)
  case atStart => exact ⟨0, [], rfl, Nat.zero_le _, Lib.hid rfl, World.ownsRow_nil _ _ _ _, only_refl _ _⟩
  case round =>
    obtain ⟨k, ws, rfl, hk, HK, hO, hG⟩ := hrel
    have OO := Lib.hid hO
    have G := Lib.hid hG
    have hbase : w.heap.size ≤ wr.heap.size := hG.size
    have hwl : ws.length ≤ 400000 := by rw [← HK.out]; exact HL.out k
    obtain ⟨vO, hvOd⟩ : ∃ v, v = u3 := ⟨_, rfl⟩
    rw [← hvOd] at OO ⊢
    clear hO hG hvOd
    by_cases hlt : k < es.length
    · obtain ⟨y, hy⟩ : ∃ y, es[k]? = some y := ⟨_, List.getElem?_eq_getElem hlt⟩
      obtain ⟨kb, ko, eE, hkw, z0, z1, z2, z3, z4, z5, z6, z7, z8, z9⟩ := ev_in (HEV.out.1.grown G.out (by simp)) hy
      subst eE
      have K1 := Lib.hid (KT.out y wr (List.mem_of_getElem? hy) G.out)
      have K2 := Lib.hid (fun w' => KW.out y w' (List.mem_of_getElem? hy))
      have hycl : y.cells.toArray = #[.int .i64 y.host, .int .i64 y.file, .int .i64 y.beg, .int .i64 y.fin, .slice y.la y.lines.length y.lc, .int .i64 y.time, .int .i64 y.weight, .string y.trace, .string y.stream, .slice y.fa y.fields.length y.fc] := rfl
      rw [hycl] at K1
      have HS1 := Lib.hid (HSN.out k y hy)
      have hyl : (wordsE y).length ≤ 181 := wordsE_len (HS.out y (List.mem_of_getElem? hy))
      have i1 : (k : Int) < (es.length : Int) := by omega
      clear hy hycl
      go_wp2_with fail
      refine K1.out.mono ?_
      rintro e w2 ⟨rfl, hg2⟩
      have G2 := Lib.hid (only_trans G.out hg2)
      have O2 := Lib.hid (own_ext OO.out hg2)
      clear hg2
      go_wp2_with fail
      refine (K2.out w2).mono ?_
      rintro e w3 ⟨AW, cW, rfl, h1, h2, h3, hg3⟩
      have G3 := Lib.hid (only_trans G2.out hg3)
      have O3 := Lib.hid (own_ext O2.out hg3)
      have R3 := Lib.hid h3
      have hb3 : w.heap.size ≤ w3.heap.size := G3.out.size
      clear h1 h2 h3 hg3 z0 z1 z2 z3 z4 z5 z6 z7 z8 z9
      go_wp2_with (at_builtin; go_must (refine wpList_appendN rfl _ _ 39 rfl w.heap.size Tryz.underlying39 strInfo rfl (by decide) (v := vO) (by rfl) O3.out AW (wordsE y).length cW (by rfl) R3.out (by simp) str_onesG (by decide) (by omega) (by omega) ?_); intro v5 w5 hown5 hg5 hob5)
      have O5 : Hid (w5.ownsRow w.heap.size 9 1 v5 (ws ++ wordsE y).length ((ws ++ wordsE y).map .string)) := Lib.hid (by rw [List.length_append, List.map_append]; exact hown5)
      have G5 : Hid (w.grownBy w5 none) := Lib.hid (only_own G3.out hg5 O3.out (Nat.le_refl _))
      clear hown5 hg5 hob5
      go_wp2_with fail
      go_roundw
      case rel => exact ⟨k + 1, ws ++ wordsE y, by go_num, by omega, Lib.hid (by rw [HS1.out, HK.out]), O5.out, G5.out⟩
      case measure => simp [intOf]; omega
    · have i1 : ¬ (k : Int) < (es.length : Int) := by omega
      obtain ⟨AO, cO, hv, h1, h2, -, h3⟩ := Rd.of_own OO.out (by decide)
      have HE : Hid (R = dist ws) := Lib.hid (by have h := HK.out; rw [List.take_of_length_le (by omega)] at h; rw [HX.out, h])
      have KD := Lib.hid (dist_new AO ws cO wr h3 (by omega) h1 h2)
      rw [hv]
      clear hv h1 h2 h3 OO
      go_wp2_with fail
      refine KD.out.mono ?_
      rintro e w3 ⟨AD, cD, rfl, d1, d2, d3, hg3⟩
      have D3 := Lib.hid (d3.mono (S' := (w.heap.size ≤ ·)) (fun b hb _ => Nat.le_trans hbase hb))
      have D12 := Lib.hid (And.intro d1 d2)
      have G3 := Lib.hid (only_trans G.out hg3)
      clear d1 d2 d3 hg3
      go_wp2_with fail
      go_ret
      rw [HE.out]
      exact ⟨AD, cD, rfl, D12.out.1, D12.out.2, D3.out, G3.out⟩
set_option maxHeartbeats 8000000 in
set_option maxRecDepth 100000 in
theorem names_any {S : Nat → Prop} (A : Option Addr) (es : List Ev) (c : Nat) (w : World) (hev : Evs S w A es) (hel : es.length ≤ 2000) (hs : ∀ e ∈ es, EvS e) :
    Calls Tryz.prog 83 #[.slice A es.length c] w (NewS w (namesX es)) := by
  have HEV := Lib.hid hev
  have HS := Lib.hid hs
  have HL : Hid (∀ k, ((es.take k).flatMap namesE).length ≤ 8000) := Lib.hid (fun k => by
    have h1 := flat_le namesE 4 (es.take k) (fun e he => by unfold namesE; rw [List.length_map]; exact (hs e (List.mem_of_mem_take he)).2.2.2.1)
    rw [List.length_take] at h1
    have h2 : min k es.length * 4 ≤ 2000 * 4 := Nat.mul_le_mul (by omega) (Nat.le_refl _)
    omega)
  have HSN : Hid (∀ (k : Nat) (y : Ev), es[k]? = some y → (es.take (k + 1)).flatMap namesE = (es.take k).flatMap namesE ++ namesE y) := Lib.hid (fun k y hy => flat_snoc namesE hy)
  have HX : Hid (namesX es = dist (es.flatMap namesE)) := Lib.hid rfl
  obtain ⟨R, hR⟩ : ∃ r, r = namesX es := ⟨_, rfl⟩
  rw [← hR] at HX ⊢
  clear hev hs hR
  go_enter Tryz.func83, Tryz.ntmps83
  go_wp2_with fail
  go_loopw [3, 4] (fun v vi wr => ∃ (k : Nat) (ws : List ByteArray), vi = .int .i64 k ∧ k ≤ es.length ∧ Hid ((es.take k).flatMap namesE = ws) ∧ wr.ownsRow w.heap.size 9 1 v ws.length (ws.map .string) ∧ w.grownBy wr none) (fun _ vi _ => es.length - (intOf vi).toNat)
  case atStart => exact ⟨0, [], rfl, Nat.zero_le _, Lib.hid rfl, World.ownsRow_nil _ _ _ _, only_refl _ _⟩
  case round =>
    obtain ⟨k, ws, rfl, hk, HK, hO, hG⟩ := hrel
    have OO := Lib.hid hO
    have G := Lib.hid hG
    have hbase : w.heap.size ≤ wr.heap.size := hG.size
    have hwl : ws.length ≤ 8000 := by rw [← HK.out]; exact HL.out k
    obtain ⟨vO, hvOd⟩ : ∃ v, v = u3 := ⟨_, rfl⟩
    rw [← hvOd] at OO ⊢
    clear hO hG hvOd
    by_cases hlt : k < es.length
    · obtain ⟨y, hy⟩ : ∃ y, es[k]? = some y := ⟨_, List.getElem?_eq_getElem hlt⟩
      have HY := Lib.hid hy
      obtain ⟨kb, ko, eE, -⟩ := ev_in (HEV.out.1.grown G.out (by simp)) hy
      subst eE
      have HS1 := Lib.hid (HSN.out k y hy)
      have hfl : y.fields.length ≤ 4 := (HS.out y (List.mem_of_getElem? hy)).2.2.2.1
      have HFR := Lib.hid ((HEV.out.2 y (List.mem_of_getElem? hy)).2.1)
      have i1 : (k : Int) < (es.length : Int) := by omega
      clear hy
      go_wp2_with fail
      obtain ⟨wo, rfl⟩ : ∃ wo : World, wo = wr := ⟨_, rfl⟩
      go_loopw [3, 5] (fun v vj wr => ∃ (j : Nat), vj = .int .i64 j ∧ j ≤ y.fields.length ∧ wr.ownsRow w.heap.size 9 1 v (ws ++ (namesE y).take j).length ((ws ++ (namesE y).take j).map .string) ∧ w.grownBy wr none) (fun _ vj _ => y.fields.length - (intOf vj).toNat)
      case atStart => exact ⟨0, rfl, Nat.zero_le _, by simpa using OO.out, G.out⟩
      case round =>
        obtain ⟨j, rfl, hj, hO2, hG2⟩ := hrel
        have O2 := Lib.hid hO2
        have G2 := Lib.hid hG2
        have hbase2 : w.heap.size ≤ wr.heap.size := hG2.size
        have hzl : (ws ++ (namesE y).take j).length ≤ 8010 := by simp [namesE]; omega
        obtain ⟨kb', ko', eE', hkw, -, -, -, -, -, -, -, -, -, z9⟩ := ev_in (HEV.out.1.grown G2.out (by simp)) HY.out
        injection eE' with eE'
        injection eE' with e1 e2
        subst e1 e2
        obtain ⟨vQ, hvQd⟩ : ∃ v, v = u3 := ⟨_, rfl⟩
        rw [← hvQd] at O2 ⊢
        clear hO2 hG2 hvQd OO G
        by_cases hlt2 : j < y.fields.length
        · obtain ⟨f, hf⟩ : ∃ f, y.fields[j]? = some f := ⟨_, List.getElem?_eq_getElem hlt2⟩
          obtain ⟨fb, fo, eF, hfw, f0, f1⟩ := fld_in (HFR.out.grown G2.out (by simp)) hf
          rw [eF] at z9
          have HNX : Hid (ws ++ (namesE y).take (j + 1) = (ws ++ (namesE y).take j) ++ [f.name]) := Lib.hid (by
            have h1 : (namesE y)[j]? = some f.name := by unfold namesE; rw [List.getElem?_map, hf]; rfl
            obtain ⟨h2, h3⟩ := List.getElem?_eq_some_iff.1 h1
            rw [List.take_succ_eq_append_getElem h2, h3, List.append_assoc])
          have i2 : (j : Int) < (y.fields.length : Int) := by omega
          obtain ⟨zs, hzs⟩ : ∃ z, z = ws ++ (namesE y).take j := ⟨_, rfl⟩
          rw [← hzs] at O2 HNX hzl
          clear hf eF hzs
          go_wp2_with (at_builtin; go_must (refine wpList_append1 rfl _ _ 39 rfl w.heap.size Tryz.underlying39 strInfo rfl (by decide) (v := vQ) (by rfl) (w0 := wr) (cs := #[.string f.name]) O2.out (by rfl) rfl (by simp [Value.oneCell']) (by decide) (by omega) (by omega) ?_); intro v5 w5 hown5 hg5 hob5)
          have O5 : Hid (w5.ownsRow w.heap.size 9 1 v5 (zs ++ [f.name]).length ((zs ++ [f.name]).map .string)) := Lib.hid (by rw [List.length_append, List.map_append]; exact hown5)
          have G5 : Hid (w.grownBy w5 none) := Lib.hid (only_own G2.out hg5 O2.out (Nat.le_refl _))
          clear hown5 hg5 hob5 z9 f0 f1
          go_wp2_with fail
          go_roundw
          case rel => exact ⟨j + 1, by go_num, by omega, by rw [HNX.out]; exact O5.out, G5.out⟩
          case measure => simp [intOf]; omega
        · have i2 : ¬ (j : Int) < (y.fields.length : Int) := by omega
          have HT : Hid ((namesE y).take j = namesE y) := Lib.hid (List.take_of_length_le (by unfold namesE; rw [List.length_map]; omega))
          rw [HT.out] at O2
          go_wp2_with fail
          go_roundw
          case rel => exact ⟨k + 1, ws ++ namesE y, by go_num, by omega, Lib.hid (by rw [HS1.out, HK.out]), O2.out, G2.out⟩
          case measure => simp [intOf]; omega
    · have i1 : ¬ (k : Int) < (es.length : Int) := by omega
      obtain ⟨AO, cO, hv, h1, h2, -, h3⟩ := Rd.of_own OO.out (by decide)
      have HE : Hid (R = dist ws) := Lib.hid (by have h := HK.out; rw [List.take_of_length_le (by omega)] at h; rw [HX.out, h])
      have KD := Lib.hid (dist_new AO ws cO wr h3 (by omega) h1 h2)
      rw [hv]
      clear hv h1 h2 h3 OO
      go_wp2_with fail
      refine KD.out.mono ?_
      rintro e w3 ⟨AD, cD, rfl, d1, d2, d3, hg3⟩
      have D3 := Lib.hid (d3.mono (S' := (w.heap.size ≤ ·)) (fun b hb _ => Nat.le_trans hbase hb))
      have D12 := Lib.hid (And.intro d1 d2)
      have G3 := Lib.hid (only_trans G.out hg3)
      clear d1 d2 d3 hg3
      go_wp2_with fail
      go_ret
      rw [HE.out]
      exact ⟨AD, cD, rfl, D12.out.1, D12.out.2, D3.out, G3.out⟩
end Go.Proofs.YtpaiideboodaeaaGreatDoor

namespace Go.Proofs.YtpaiideboodaeaaGreatDoor
open Go.RowKit
set_option linter.unusedVariables false
set_option linter.unusedSimpArgs false

def getF : List FieldD → ByteArray → Option ByteArray
  | [], _ => none
  | f :: fs, nm => if f.name = nm then some f.value else getF fs nm
def valV : Option ByteArray → Value
  | some s => .tuple #[.string s, .bool true]
  | none => .tuple #[.string ⟨#[]⟩, .bool false]
def ValP (w : World) (o : Option ByteArray) (e : Ending) (w' : World) : Prop := e = .returned (valV o) ∧ w.grownBy w' none
theorem str_ne {a b : ByteArray} (h : a ≠ b) : (a.toList == b.toList) = false := by
  rw [beq_eq_false_iff_ne]; exact fun e => h (toList_inj e)
set_option maxHeartbeats 4000000 in
set_option maxRecDepth 100000 in
/-- the value of a name -/
theorem rget_any {S : Nat → Prop} (fa : Option Addr) (fields : List FieldD) (fc : Nat) (nm : ByteArray) (w : World) (hr : Rd S w fa (fields.flatMap FieldD.cells)) (hl : fields.length ≤ 1000000) :
    Calls Tryz.prog 197 #[.slice fa fields.length fc, .string nm] w (ValP w (getF fields nm)) := by
  have HR := Lib.hid hr
  clear hr
  go_enter Tryz.func197, Tryz.ntmps197
  go_wp2_with fail
  go_loopw [6] (fun i wr => ∃ k : Nat, i = .int .i64 k ∧ k ≤ fields.length ∧ Hid (getF fields nm = getF (fields.drop k) nm) ∧ w.grownBy wr none) (fun i _ => fields.length - (intOf i).toNat)
  case atStart => exact ⟨0, rfl, Nat.zero_le _, Lib.hid rfl, only_refl _ _⟩
  case round =>
    obtain ⟨k, rfl, hk, HN, hG⟩ := hrel
    have G := Lib.hid hG
    clear hG
    by_cases hlt : k < fields.length
    · obtain ⟨y, hy⟩ : ∃ y, fields[k]? = some y := ⟨_, List.getElem?_eq_getElem hlt⟩
      obtain ⟨kb, ko, rfl, hkw, z0, z1⟩ := fld_in (HR.out.grown G.out (by simp)) hy
      have hd : fields.drop k = y :: fields.drop (k + 1) := by
        rw [List.getElem?_eq_getElem hlt] at hy
        injection hy with hy
        rw [← List.getElem_cons_drop hlt, hy]
      have i1 : (k : Int) < (fields.length : Int) := by omega
      by_cases he : y.name = nm
      · have q1 : (y.name.toList == nm.toList) = true := by rw [he]; simp
        have HV : Hid (getF fields nm = some y.value) := Lib.hid (by rw [HN.out, hd, getF, if_pos he])
        clear hy hd he
        go_wp2_with fail
        rw [HV.out]
        exact bodyPost_ret (v := valV (some y.value)) (by simp [results, Tryz.results197, go_sem, valV]) rfl ⟨rfl, G.out⟩
      · have q1 : (y.name.toList == nm.toList) = false := str_ne he
        have HV : Hid (getF fields nm = getF (fields.drop (k + 1)) nm) := Lib.hid (by rw [HN.out, hd, getF, if_neg he])
        clear hy hd he
        go_wp2_with fail
        go_roundw
        case rel => exact ⟨k + 1, by go_num, by omega, HV, G.out⟩
        case measure => simp [intOf]; omega
    · have i1 : ¬ (k : Int) < (fields.length : Int) := by omega
      have HV : Hid (getF fields nm = none) := Lib.hid (by rw [HN.out, List.drop_eq_nil_of_le (by omega)]; rfl)
      go_wp2_with fail
      rw [HV.out]
      exact bodyPost_ret (v := valV none) (by simp [results, Tryz.results197, go_sem, valV]) rfl ⟨rfl, G.out⟩
end Go.Proofs.YtpaiideboodaeaaGreatDoor
