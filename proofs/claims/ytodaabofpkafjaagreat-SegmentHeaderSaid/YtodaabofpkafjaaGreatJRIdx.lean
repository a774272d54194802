/- XRIdx: what this seat has of them (joined by partseat.py). Conditions: as there. -/
import Derived.Test.YtodaabofpkafjaaGreatJNatB
import Derived.Deep.RegionLaw
import Derived.Test.YtodaabofpkafjaaGreatJRCol
import Derived.Test.YtodaabofpkafjaaGreatJREnc
import Derived.Test.YtodaabofpkafjaaGreatJSorted
import Derived.Test.YtodaabofpkafjaaGreatJBits
namespace Go.Proofs.YtodaabofpkafjaaGreat
open Go.RowKit
set_option linter.unusedVariables false
set_option linter.unusedSimpArgs false

theorem ret_ib {k : IntKind} {a b : Int} {c d : Bool} (h : a = b) (h' : d = c) : Ending.returned (.tuple #[.int k a, .bool c]) = .returned (.tuple #[.int k b, .bool d]) := by rw [h, h']
/-- binary search, with a bound on its rounds -/
def bs (p : Nat → Bool) : Nat → Nat → Nat → Nat
  | 0, i, _ => i
  | f + 1, i, j => if i < j then (if p ((i + j) / 2) then bs p f ((i + j) / 2 + 1) j else bs p f i ((i + j) / 2)) else i
theorem bs_done (p : Nat → Bool) (f i j : Nat) (h : j ≤ i) : bs p f i j = i := by
  cases f with
  | zero => rfl
  | succ f => simp [bs, show ¬ i < j by omega]
theorem bs_le (p : Nat → Bool) (f : Nat) : ∀ i j, i ≤ j → j - i ≤ f → i ≤ bs p f i j ∧ bs p f i j ≤ j := by
  induction f with
  | zero => intro i j h1 h2; simp [bs]; omega
  | succ f ih =>
    intro i j h1 h2
    simp only [bs]
    split
    · split
      · have := ih ((i + j) / 2 + 1) j (by omega) (by omega); omega
      · have := ih i ((i + j) / 2) (by omega) (by omega); omega
    · omega
def lt (ds : List ByteArray) (t : ByteArray) (i : Nat) : Bool := sl (ds.getD i ⟨#[]⟩) t
def ixOf (ds : List ByteArray) (t : ByteArray) : Nat := bs (lt ds t) ds.length 0 ds.length
def found (ds : List ByteArray) (t : ByteArray) : Bool := decide (ds[ixOf ds t]? = some t)

set_option maxHeartbeats 1000000 in
theorem rindex_any {S : Nat → Prop} (A : Option Addr) (ds : List ByteArray) (c : Nat) (t : ByteArray) (w : World) (h : Rd S w A (ds.map .string)) (hl : ds.length ≤ 10000000) :
    Calls Tryz.prog 86 #[.slice A ds.length c, .string t] w (Quiet (.tuple #[.int .i64 (ixOf ds t), .bool (found ds t)]) w) := by
  have H := Lib.hid h
  clear h
  obtain ⟨R, hR⟩ : ∃ R, R = ixOf ds t := ⟨_, rfl⟩
  have HR := Lib.hid hR
  go_enter Tryz.func86, Tryz.ntmps86
  go_wp2
  clear hR
  go_loopw [6, 7] (fun x y wr => ∃ i j f : Nat, i ≤ j ∧ j ≤ ds.length ∧ j - i ≤ f ∧ x = .int .i64 i ∧ y = .int .i64 j ∧ Hid (bs (lt ds t) f i j = R) ∧ ∃ q, wr = w.drewN q) (fun x y _ => (intOf y).toNat - (intOf x).toNat)
  case atStart => exact ⟨0, ds.length, ds.length, Nat.zero_le _, Nat.le_refl _, Nat.le_refl _, rfl, rfl, HR.out.symm, 0, rfl⟩
  case round =>
    obtain ⟨i, j, f, hij, hj, hf, rfl, rfl, hbs, q, rfl⟩ := hrel
    by_cases hlt : i < j
    · obtain ⟨b, off, x, rfl, hc, hx⟩ := H.out.str_at (k := (i + j) / 2) (by omega)
      obtain ⟨f, rfl⟩ : ∃ f', f = f' + 1 := ⟨f - 1, by omega⟩
      have hp : lt ds t ((i + j) / 2) = sl x t := by simp [lt, List.getD_eq_getElem?_getD, hx.out]
      have HB := Lib.hid hp
      clear hp
      by_cases hs : sl x t = true
      · have hs2 : Op.bytesLess x.toList t.toList = true := hs
        have hb2 : Hid (bs (lt ds t) f ((i + j) / 2 + 1) j = R) := by
          have := hbs.out; simp only [bs] at this; rw [if_pos hlt, HB.out, if_pos hs] at this; exact this
        go_wp2
        go_roundw
        case rel => exact ⟨(i + j) / 2 + 1, j, f, by omega, by omega, by omega, by go_num, rfl, hb2, _, rfl⟩
        case measure => simp [intOf]; omega
      · have hs' : sl x t = false := by simpa using hs
        have hs2 : Op.bytesLess x.toList t.toList = false := hs'
        clear hs
        have hb2 : Hid (bs (lt ds t) f i ((i + j) / 2) = R) := by
          have := hbs.out; simp only [bs] at this; rw [if_pos hlt, HB.out, hs'] at this; exact this
        go_wp2
        go_roundw
        case rel => exact ⟨i, (i + j) / 2, f, by omega, by omega, by omega, rfl, by go_num, hb2, _, rfl⟩
        case measure => simp [intOf]; omega
    · have hiR : i = R := by have := hbs.out; rw [bs_done _ _ _ _ (by omega)] at this; exact this
      have hil : i ≤ ds.length := by omega
      clear hbs
      subst hiR
      by_cases hin : i < ds.length
      · obtain ⟨b, off, x, rfl, hc, hx⟩ := H.out.str_at (k := i) hin
        have hfd : found ds t = (x.toList == t.toList) := by
          unfold found
          rw [← HR.out, hx.out, Bool.eq_iff_iff]
          simp
          exact ⟨fun h => by rw [h], fun h => toList_inj h⟩
        have HFD := Lib.hid hfd
        clear hfd
        by_cases hxt : x.toList = t.toList
        · have hb1 : (x.toList == t.toList) = true := by simp [hxt]
          have hii : (i : Int) < (ds.length : Int) := by omega
          have HXT := Lib.hid hxt
          clear hxt
          go_wp2
          go_quiet (fail)
          go_wp2
          go_ret2
          exact ⟨ret_ib (by rw [← HR.out]) (by rw [HFD.out, hb1]), _, World.drewN_drewN _ _ _⟩
        · have hb1 : (x.toList == t.toList) = false := by simp [hxt]
          clear hxt
          go_wp2
          go_quiet (fail)
          go_wp2
          go_ret2
          exact ⟨ret_ib (by rw [← HR.out]) (by rw [HFD.out, hb1]), _, World.drewN_drewN _ _ _⟩
      · have hfd : found ds t = false := by
          unfold found
          rw [← HR.out, List.getElem?_eq_none (by omega)]
          simp
        have HFD := Lib.hid hfd
        clear hfd
        have hdd : decide ((i : Int) < (ds.length : Int)) = false := by simp; omega
        go_wp2
        go_quiet (fail)
        go_wp2
        go_ret2
        exact ⟨ret_ib (by rw [← HR.out]) (by rw [HFD.out]), _, World.drewN_drewN _ _ _⟩


def hp (s p : ByteArray) : Bool := Lib.hasPrefix s.data.toList p.data.toList
theorem hp_yes {s p : ByteArray} (h : p.size ≤ s.size) : hp s p = ((s.extract 0 p.size).toList == p.toList) := by
  unfold hp; rw [← Lib.hasPrefix_raw]; simp [h]
theorem hp_no {s p : ByteArray} (h : ¬ p.size ≤ s.size) : hp s p = false := by
  unfold hp; rw [← Lib.hasPrefix_raw]; simp [h]

def endsAt (ds : List ByteArray) (t : ByteArray) (from_ : Nat) : Nat := bs (fun i => hp (ds.getD (from_ + i) ⟨#[]⟩) t) (ds.length - from_) 0 (ds.length - from_)
theorem ixOf_le (ds : List ByteArray) (t : ByteArray) : ixOf ds t ≤ ds.length := (bs_le _ _ 0 ds.length (Nat.zero_le _) (by omega)).2
theorem endsAt_le (ds : List ByteArray) (t : ByteArray) (k : Nat) : endsAt ds t k ≤ ds.length - k := (bs_le _ _ 0 (ds.length - k) (Nat.zero_le _) (by omega)).2
end Go.Proofs.YtodaabofpkafjaaGreat

namespace Go.Proofs.YtodaabofpkafjaaGreat
open Go.RowKit
set_option linter.unusedVariables false
set_option linter.unusedSimpArgs false

/-- the lowest bytes of a number, the highest first -/
def beB : Nat → Nat → List Int
  | 0, _ => []
  | k + 1, v => ((v / 256 ^ k % 256 : Nat) : Int) :: beB k v
theorem beB_len : ∀ (k v : Nat), (beB k v).length = k
  | 0, _ => rfl
  | k + 1, v => by rw [beB, List.length_cons, beB_len]
def blkP (b : List Int) : List Int := vint b.length ++ b
def colX (vs : List Int) : List Int := bestTo vs 4
noncomputable def dicX (ds : List ByteArray) : List Int := encR ds
noncomputable def idxX (ts : List ByteArray) : List Int := blkP (dicX (dist ts)) ++ blkP (colX (ts.map (fun t => (ixOf (dist ts) t : Int))))
end Go.Proofs.YtodaabofpkafjaaGreat

namespace Go.Proofs.YtodaabofpkafjaaGreat
open Go.RowKit
set_option linter.unusedVariables false
set_option linter.unusedSimpArgs false

theorem xor_u32 (a b : Nat) (ha : a < 4294967296) (hb : b < 4294967296) : bits .xor .u32 (a : Int) (b : Int) = ((a ^^^ b : Nat) : Int) := by
  have hx : a ^^^ b < 2 ^ 32 := Nat.xor_lt_two_pow (n := 32) ha hb
  show IntKind.u32.wrap ((BitVec.ofInt 32 (a : Int) ^^^ BitVec.ofInt 32 (b : Int)).toNat : Int) = _
  rw [BitVec.toNat_xor, ofInt_nat 32 a (by omega), ofInt_nat 32 b (by omega)]
  simp [IntKind.wrap, IntKind.signed, IntKind.bits]
  omega
theorem and_u32 (a b : Nat) (ha : a < 4294967296) (hb : b < 4294967296) : bits .and .u32 (a : Int) (b : Int) = ((a &&& b : Nat) : Int) := by
  have hx : a &&& b < 2 ^ 32 := Nat.and_lt_two_pow (n := 32) _ hb
  show IntKind.u32.wrap ((BitVec.ofInt 32 (a : Int) &&& BitVec.ofInt 32 (b : Int)).toNat : Int) = _
  rw [BitVec.toNat_and, ofInt_nat 32 a (by omega), ofInt_nat 32 b (by omega)]
  simp [IntKind.wrap, IntKind.signed, IntKind.bits]
  omega
theorem xor_lt32 {a b : Nat} (ha : a < 4294967296) (hb : b < 4294967296) : a ^^^ b < 4294967296 := Nat.xor_lt_two_pow (n := 32) ha hb
def crc1 (c : Nat) : Nat := if c % 2 = 1 then (c / 2) ^^^ 3988292384 else c / 2
theorem crc1_lt {c : Nat} (h : c < 4294967296) : crc1 c < 4294967296 := by
  unfold crc1
  split
  · exact xor_lt32 (by omega) (by decide)
  · omega
def crcK : Nat → Nat → Nat
  | 0, c => c
  | k + 1, c => crc1 (crcK k c)
theorem crcK_lt {c : Nat} (h : c < 4294967296) : ∀ k, crcK k c < 4294967296
  | 0 => h
  | k + 1 => crc1_lt (crcK_lt h k)
def crcS (c : Nat) (b : Int) : Nat := crcK 8 (c ^^^ (b % 4294967296).toNat)
def crcT (bs : List Int) : Nat := bs.foldl crcS 4294967295
def crcN (bs : List Int) : Nat := crcT bs ^^^ 4294967295
theorem crcT_lt (bs : List Int) : crcT bs < 4294967296 := by
  have key : ∀ (l : List Int) (c : Nat), c < 4294967296 → l.foldl crcS c < 4294967296 := by
    intro l
    induction l with
    | nil => intro c h; exact h
    | cons x xs ih =>
      intro c hc
      exact ih _ (crcK_lt (xor_lt32 hc (by omega)) 8)
  exact key bs _ (by decide)
theorem crcN_lt (bs : List Int) : crcN bs < 4294967296 := xor_lt32 (crcT_lt bs) (by decide)
theorem crcT_snoc (bs : List Int) (b : Int) : crcT (bs ++ [b]) = crcS (crcT bs) b := by unfold crcT; rw [List.foldl_append]; rfl
theorem and_one32 (c : Nat) : c &&& 1 = c % 2 := Nat.and_two_pow_sub_one_eq_mod c 1
end Go.Proofs.YtodaabofpkafjaaGreat

namespace Go.Proofs.YtodaabofpkafjaaGreat
open Go.RowKit
set_option linter.unusedVariables false
set_option linter.unusedSimpArgs false

theorem byte_ones (bs : List Int) : ∀ u ∈ bs.map (Value.int .u8), u.oneCell' = true := by
  intro u hu
  obtain ⟨x, -, rfl⟩ := List.mem_map.1 hu
  rfl
theorem onto_apN {w0 w1 : World} {v v' : Value} (hg : w0.grownBy w1 v.ownBlock) (hob : v'.ownBlock = v.ownBlock ∨ v'.ownBlock = some w0.heap.size) : Onto w0 v v' w1 := ⟨hg, hob.elim .inl fun h => .inr ⟨_, Nat.le_refl _, h⟩⟩
/-- a new row of bytes -/
def NewB (w : World) (xs : List Int) (e : Ending) (w' : World) : Prop := ∃ v, e = .returned v ∧ Byts w.heap.size w' v xs ∧ w.grownBy w' none
set_option maxHeartbeats 4000000 in
theorem putblock_big {S : Nat → Prop} (base : Nat) (v : Value) (xs : List Int) (A : Option Addr) (bs : List Int) (c : Nat) (w : World) (h : Byts base w v xs) (hr : Rd S w A (bs.map (.int .u8))) (hne : ∀ b, S b → some b ≠ v.ownBlock) (hx : xs.length ≤ 9000000) (hl : bs.length ≤ 4000000) (hxl : xs.length + bs.length ≤ 9900000) (hb : base ≤ w.heap.size) :
    Calls Tryz.prog 87 #[v, .slice A bs.length c] w (VPost base w v (xs ++ blkP bs)) := by
  have H := Lib.hid h
  have HR := Lib.hid (hr.mono (S' := fun b => S b ∧ b < w.heap.size) (fun b h1 h2 => ⟨h1, h2⟩))
  have HNE := Lib.hid hne
  have hvl := vint_len10 (n := bs.length) (by omega)
  clear h hr hne
  go_enter Tryz.func87, Tryz.ntmps87
  go_wp2_with fail
  refine (rvarint_any base v xs bs.length _ H.out (by omega) (by omega) hb).mono ?_
  rintro e w1 ⟨v1, rfl, hB1, hO1⟩
  have B1 := Lib.hid hB1
  have O1 := Lib.hid hO1
  have R1 := Lib.hid (HR.out.grown hO1.1 (fun b hb => HNE.out b hb.1))
  have hz1 := hO1.1.size
  have hne1 : Hid (∀ b, (S b ∧ b < w.heap.size) → some b ≠ v1.ownBlock) := Lib.hid (hO1.ne (fun b hb => hb.2) (fun b hb => HNE.out b hb.1))
  clear hB1 hO1
  go_wp2_with (at_builtin; go_must (refine wpList_appendN rfl _ _ 22 rfl base Tryz.underlying22 byteInfo rfl (by decide) (v := v1) (by rfl) B1.out A bs.length c (by rfl) R1.out (by simp) (byte_ones bs) (by decide) (by rw [List.length_append]; omega) (by omega) ?_); intro v2 w2 hown2 hg2 hob2)
  have B2 : Hid (Byts base w2 v2 (xs ++ blkP bs)) := Lib.hid (by
    unfold Byts blkP
    have h9 := hown2
    rw [List.length_append] at h9
    rw [← List.append_assoc, List.map_append, List.length_append, List.length_append]
    exact h9)
  have O2 := Lib.hid (O1.out.trans (onto_apN hg2 hob2))
  clear hown2 hg2 hob2
  go_wp2_with fail
  go_ret
  exact ⟨v2, rfl, B2.out, O2.out⟩
theorem putblock_any {S : Nat → Prop} (base : Nat) (v : Value) (xs : List Int) (A : Option Addr) (bs : List Int) (c : Nat) (w : World) (h : Byts base w v xs) (hr : Rd S w A (bs.map (.int .u8))) (hne : ∀ b, S b → some b ≠ v.ownBlock) (hx : xs.length ≤ 4000000) (hl : bs.length ≤ 4000000) (hb : base ≤ w.heap.size) :
    Calls Tryz.prog 87 #[v, .slice A bs.length c] w (VPost base w v (xs ++ blkP bs)) := putblock_big base v xs A bs c w h hr hne (by omega) hl (by omega) hb
theorem column_any (A : Option Addr) (vs : List Int) (c : Nat) (w : World) (hr : Rd (fun _ => True) w A (vs.map (.int .i64))) (hl : vs.length ≤ 16384) (hi : ∀ x ∈ vs, I64 x) :
    Calls Tryz.prog 61 #[.slice A vs.length c] w (NewB w (colX vs)) := by
  have K := Lib.hid (rcenc_any A vs c w hr (by omega) hi)
  clear hr hi
  go_enter Tryz.func61, Tryz.ntmps61
  go_wp2_with fail
  refine K.out.mono ?_
  rintro e w1 ⟨v, rfl, hB, hG⟩
  have B := Lib.hid hB
  have G := Lib.hid hG
  clear hB hG
  go_wp2_with fail
  go_ret
  exact ⟨v, rfl, B.out, G.out⟩
theorem dictionary_any {S : Nat → Prop} (A : Option Addr) (ds : List ByteArray) (c : Nat) (w : World) (h : Rd S w A (ds.map .string)) (hl : ds.length ≤ 8000) (hz8 : ∀ x ∈ ds, x.size ≤ 250) :
    Calls Tryz.prog 88 #[.slice A ds.length c] w (NewB w (dicX ds)) := by
  have K := Lib.hid (rencode_any A ds c w h hl hz8)
  clear h hz8
  go_enter Tryz.func88, Tryz.ntmps88
  go_wp2_with fail
  refine K.out.mono ?_
  rintro e w1 ⟨v, rfl, hB, hG⟩
  have B := Lib.hid hB
  have G := Lib.hid hG
  clear hB hG
  go_wp2_with fail
  go_ret
  exact ⟨v, rfl, B.out, G.out⟩
theorem be_el (n j : Nat) : (n : Int) / 2 ^ (8 * j) % 256 = ((n / 256 ^ j % 256 : Nat) : Int) := by
  have h1 : (2 : Int) ^ (8 * j) = ((256 ^ j : Nat) : Int) := by
    rw [Int.pow_mul, show (2 : Int) ^ 8 = ((256 : Nat) : Int) from rfl, Int.natCast_pow]
  obtain ⟨m, hm⟩ : ∃ m, m = 256 ^ j := ⟨_, rfl⟩
  rw [← hm] at h1
  rw [h1, ← hm]
  omega
set_option maxHeartbeats 4000000 in
set_option maxRecDepth 100000 in
theorem sput_any (base : Nat) (v : Value) (xs : List Int) (n width : Nat) (w : World) (h : Byts base w v xs) (hx : xs.length ≤ 4000000) (hw : width ≤ 8) (hn : n < 18446744073709551616) (hb : base ≤ w.heap.size) :
    Calls Tryz.prog 43 #[v, .int .u64 n, .int .i64 (width : Int)] w (VPost base w v (xs ++ beB width n)) := by
  have H := Lib.hid h
  clear h
  go_enter Tryz.func43, Tryz.ntmps43
  go_wp2_with fail
  go_loopw [0, 7] (fun u i wr => ∃ (m : Nat) (ys : List Int), m ≤ width ∧ i = .int .i64 ((m : Int) - 1) ∧ Byts base wr u ys ∧ ys ++ beB m n = xs ++ beB width n ∧ Onto w v u wr) (fun _ i _ => (intOf i + 1).toNat)
  case atStart => exact ⟨width, xs, Nat.le_refl _, rfl, H.out, rfl, Onto.refl _ _⟩
  case round =>
    obtain ⟨m, ys, hm, rfl, hB, he, hO⟩ := hrel
    have hl : ys.length ≤ 4000010 := by
      have h1 := congrArg List.length he
      simp [beB_len] at h1
      omega
    have HO := Lib.hid hO
    have HE := Lib.hid he
    have HB := Lib.hid hB
    have hz := hO.1.size
    clear hO he hB
    by_cases hc : 1 ≤ m
    · obtain ⟨j, rfl⟩ : ∃ j, m = j + 1 := ⟨m - 1, by omega⟩
      have hjj : (((j + 1 : Nat) : Int) - 1) = (j : Int) := by omega
      rw [hjj]
      have i1 : (0 : Int) ≤ (j : Int) := by omega
      clear hjj
      go_wp2_with (at_builtin; go_must (refine wpList_append1 rfl _ _ 22 rfl base Tryz.underlying22 byteInfo rfl (by decide) (v := u0) (by rfl) (w0 := wr) (cs := #[.int .u8 ((n : Int) / 2 ^ (8 * j) % 256)]) HB.out (by rfl) rfl (by simp [Value.oneCell']) (by decide) (by omega) (by omega) ?_); intro v1 w1 hv1 hg1 hob1)
      rw [be_el] at hv1
      have B1 := Lib.hid (Byts.snoc hv1)
      have O1 := Lib.hid (HO.out.trans (onto_ap hg1 hob1))
      clear hv1 hg1 hob1
      go_wp2_with fail
      go_roundw
      case rel => exact ⟨j, ys ++ [((n / 256 ^ j % 256 : Nat) : Int)], by omega, rfl, B1.out, by rw [← HE.out, beB]; simp, O1.out⟩
      case measure => simp [intOf] <;> omega
    · have hm0 : m = 0 := by omega
      subst hm0
      have HE2 : Hid (ys = xs ++ beB width n) := Lib.hid (by have h := HE.out; simpa [beB] using h)
      have B9 : Hid (Byts base wr u0 (xs ++ beB width n)) := Lib.hid (by rw [← HE2.out]; exact HB.out)
      go_wp2_with fail
      go_ret
      exact ⟨u0, rfl, B9.out, HO.out⟩
set_option maxHeartbeats 4000000 in
set_option maxRecDepth 100000 in
theorem crc_any {S : Nat → Prop} (A : Option Addr) (bs : List Int) (c : Nat) (w : World) (hr : Rd S w A (bs.map (.int .u8))) (hl : bs.length ≤ 10000000) :
    Calls Tryz.prog 13 #[.slice A bs.length c] w (fun e w' => e = .returned (.int .u32 (crcN bs : Nat)) ∧ w' = w) := by
  have HR := Lib.hid hr
  clear hr
  go_enter Tryz.func13, Tryz.ntmps13
  go_wp2_with fail
  go_loopw [3, 4] (fun vc vi wr => ∃ (k s : Nat), vi = .int .i64 k ∧ vc = .int .u32 s ∧ k ≤ bs.length ∧ Hid (crcT (bs.take k) = s) ∧ s < 4294967296 ∧ wr = w) (fun _ vi _ => bs.length - (intOf vi).toNat)
  case atStart => exact ⟨0, 4294967295, rfl, rfl, Nat.zero_le _, Lib.hid rfl, by decide, rfl⟩
  case round =>
    obtain ⟨k, s, rfl, rfl, hk, HS, hs, rfl⟩ := hrel
    by_cases hlt : k < bs.length
    · obtain ⟨x, hx⟩ : ∃ x, bs[k]? = some x := ⟨_, List.getElem?_eq_getElem hlt⟩
      obtain ⟨xn, hxn⟩ : ∃ n : Nat, n = (x % 4294967296).toNat := ⟨_, rfl⟩
      have hxw : x % 4294967296 = (xn : Int) := by omega
      obtain ⟨b, off, eA, hS, hlt2, hc⟩ := HR.out (by simp; omega)
      subst eA
      have c0 := hc k (.int .u8 x) (by simp [hx])
      have i1 : (k : Int) < (bs.length : Int) := by omega
      have HN : Hid (crcT (bs.take (k + 1)) = crcK 8 (s ^^^ xn)) := Lib.hid (by
        obtain ⟨h1, h2⟩ := List.getElem?_eq_some_iff.1 hx
        rw [List.take_succ_eq_append_getElem h1, h2, crcT_snoc, HS.out, crcS, ← hxn])
      have hxs : s ^^^ xn < 4294967296 := xor_lt32 hs (by omega)
      have HXR := Lib.hid (xor_u32 s xn hs (by omega))
      clear hc hx hxn
      go_wp2_with fail
      rw [HXR.out]
      obtain ⟨wo, rfl⟩ : ∃ wo : World, wo = wr := ⟨_, rfl⟩
      go_loopw [3, 5] (fun vc vj wr => ∃ (j t : Nat), vj = .int .i64 j ∧ vc = .int .u32 t ∧ j ≤ 8 ∧ Hid (t = crcK j (s ^^^ xn)) ∧ t < 4294967296 ∧ wr = wo) (fun _ vj _ => 8 - (intOf vj).toNat)
      case atStart => exact ⟨0, s ^^^ xn, rfl, rfl, Nat.zero_le _, Lib.hid rfl, hxs, rfl⟩
      case round =>
        obtain ⟨j, t, rfl, rfl, hj, HT, ht, rfl⟩ := hrel
        by_cases hlt8 : j < 8
        · have i2 : (j : Int) < 8 := by omega
          by_cases hodd : t % 2 = 1
          · have ha : bits BinOp.and IntKind.u32 (t : Int) 1 = 1 := by
              have h := and_u32 t 1 ht (by decide)
              rw [and_one32, hodd] at h
              exact h
            have HT2 : Hid (t / 2 ^^^ 3988292384 = crcK (j + 1) (s ^^^ xn)) := Lib.hid (by rw [crcK, ← HT.out, crc1, if_pos hodd])
            have HX2 := Lib.hid (xor_u32 (t / 2) 3988292384 (by omega) (by decide))
            have hl2 : t / 2 ^^^ 3988292384 < 4294967296 := xor_lt32 (by omega) (by decide)
            clear hodd
            go_wp2_with fail
            go_roundw
            case rel => exact ⟨j + 1, t / 2 ^^^ 3988292384, by go_num, congrArg (Value.int .u32) HX2.out, by omega, HT2, hl2, trivial⟩
            case measure => simp [intOf]; omega
          · have ha : bits BinOp.and IntKind.u32 (t : Int) 1 = 0 := by
              have h := and_u32 t 1 ht (by decide)
              rw [and_one32, show t % 2 = 0 by omega] at h
              exact h
            have HT2 : Hid (t / 2 = crcK (j + 1) (s ^^^ xn)) := Lib.hid (by rw [crcK, ← HT.out, crc1, if_neg hodd])
            clear hodd
            go_wp2_with fail
            go_roundw
            case rel => exact ⟨j + 1, t / 2, by go_num, by go_num, by omega, HT2, by omega, trivial⟩
            case measure => simp [intOf]; omega
        · have i2 : ¬ (j : Int) < 8 := by omega
          have hj8 : j = 8 := by omega
          have HT2 : Hid (crcT (bs.take (k + 1)) = t) := Lib.hid (by rw [HN.out, HT.out, hj8])
          clear hj8
          go_wp2_with fail
          go_roundw
          case rel => exact ⟨k + 1, t, by go_num, rfl, by omega, HT2, ht, trivial⟩
          case measure => simp [intOf]; omega
    · have i1 : ¬ (k : Int) < (bs.length : Int) := by omega
      have HE : Hid (crcN bs = s ^^^ 4294967295) := Lib.hid (by have h := HS.out; rw [List.take_of_length_le (by omega)] at h; unfold crcN; rw [h])
      have HX3 : Hid (bits BinOp.xor IntKind.u32 IntKind.u32.max (s : Int) = ((s ^^^ 4294967295 : Nat) : Int)) := Lib.hid (by rw [Nat.xor_comm]; exact xor_u32 4294967295 s (by decide) hs)
      go_wp2_with fail
      go_ret
      exact ⟨congrArg (fun x => Ending.returned (Value.int .u32 x)) (HX3.out.trans (congrArg (fun (x : Nat) => (x : Int)) HE.out.symm)), rfl⟩
end Go.Proofs.YtodaabofpkafjaaGreat
