/- The header of a segment as plain data (chapter 27). No condition. -/
import Derived.Test.YtodaabofpkafjaaGreatJRIdx
import Derived.Test.YtodaabofpkafjaaGreatJSegT
import Derived.Deep.DeepCutAuto
namespace Go.Proofs.YtodaabofpkafjaaGreat
open Go.RowKit
set_option linter.unusedVariables false
set_option linter.unusedSimpArgs false

/-- the number in some bytes -/
def getN (bs : List Int) : Nat := bs.foldl (fun v b => v * 256 + b.toNat) 0
theorem getN_snoc (bs : List Int) (x : Int) : getN (bs ++ [x]) = getN bs * 256 + x.toNat := by unfold getN; rw [List.foldl_append]; rfl
theorem getN_lt : ∀ (n : Nat) (bs : List Int), bs.length = n → (∀ x ∈ bs, 0 ≤ x ∧ x ≤ 255) → getN bs < 256 ^ n
  | 0, bs, h, _ => by rw [List.eq_nil_of_length_eq_zero h]; decide
  | n + 1, bs, h, hx => by
    rcases List.eq_nil_or_concat bs with rfl | ⟨l, x, rfl⟩
    · simp at h
    · rw [List.concat_eq_append] at h hx ⊢
      have h1 := getN_lt n l (by simp at h; exact h) (fun y hy => hx y (List.mem_append_left _ hy))
      have h2 := hx x (by simp)
      rw [getN_snoc, Nat.pow_succ]
      omega
theorem getN_lt8 {bs : List Int} (h : bs.length ≤ 8) (hx : ∀ x ∈ bs, 0 ≤ x ∧ x ≤ 255) : getN bs < 18446744073709551616 :=
  Nat.lt_of_lt_of_le (getN_lt _ bs rfl hx) (Nat.le_trans (Nat.pow_le_pow_right (by decide) h) (by decide))
def cutB (bs : List Int) (a k : Nat) : List Int := (bs.drop a).take k
theorem cutB_len {bs : List Int} {a k : Nat} (h : a + k ≤ bs.length) : (cutB bs a k).length = k := by unfold cutB; rw [List.length_take, List.length_drop]; omega
def cutN (bs : List Int) (a k : Nat) : Nat := getN (cutB bs a k)
/-- the bytes of the header are bytes -/
def InH (bs : List Int) : Prop := ∀ x ∈ bs.take 124, 0 ≤ x ∧ x ≤ 255
theorem InH.cut {bs : List Int} (h : InH bs) {a k : Nat} (hk : a + k ≤ 124) : ∀ x ∈ cutB bs a k, 0 ≤ x ∧ x ≤ 255 := by
  intro x hx
  unfold cutB at hx
  obtain ⟨i, hi⟩ := List.mem_iff_getElem?.1 hx
  rw [List.getElem?_take] at hi
  split at hi
  · rw [List.getElem?_drop] at hi
    refine h x (List.mem_iff_getElem?.2 ⟨a + i, ?_⟩)
    rw [List.getElem?_take, if_pos (by omega)]
    exact hi
  · cases hi
theorem cutN_lt4 {bs : List Int} (h : InH bs) {a : Nat} (hk : a + 4 ≤ 124) (hl : a + 4 ≤ bs.length) : cutN bs a 4 < 4294967296 := getN_lt 4 _ (cutB_len hl) (h.cut hk)
theorem cutN_lt8 {bs : List Int} (h : InH bs) {a : Nat} (hk : a + 8 ≤ 124) (hl : a + 8 ≤ bs.length) : cutN bs a 8 < 18446744073709551616 := getN_lt 8 _ (cutB_len hl) (h.cut hk)
/-- what the header says of section k -/
def lenH (bs : List Int) (k : Nat) : Nat := cutN bs (16 + 8 * k) 4
def crcH (bs : List Int) (k : Nat) : Nat := cutN bs (20 + 8 * k) 4
def offH (bs : List Int) : Nat → Nat
  | 0 => 124
  | k + 1 => offH bs k + lenH bs (k + 1)
theorem lenH_lt {bs : List Int} (h : InH bs) {k : Nat} (hk : k ≤ 12) (hl : 124 ≤ bs.length) : lenH bs k < 4294967296 := cutN_lt4 h (by omega) (by omega)
theorem crcH_lt {bs : List Int} (h : InH bs) {k : Nat} (hk : k ≤ 12) (hl : 124 ≤ bs.length) : crcH bs k < 4294967296 := cutN_lt4 h (by omega) (by omega)
theorem offH_le {bs : List Int} (h : InH bs) (hl : 124 ≤ bs.length) : ∀ k, k ≤ 12 → offH bs k ≤ 124 + k * 4294967296
  | 0, _ => Nat.le_refl _
  | k + 1, hk => by
    have h1 := offH_le h hl k (by omega)
    have h2 := lenH_lt h hk hl
    simp only [offH]
    omega
theorem offH_mono (bs : List Int) {i j : Nat} (h : i ≤ j) : offH bs i ≤ offH bs j := by
  obtain ⟨d, rfl⟩ : ∃ d, j = i + d := ⟨j - i, by omega⟩
  clear h
  induction d with
  | zero => exact Nat.le_refl _
  | succ d ih => exact Nat.le_trans ih (by rw [show i + (d + 1) = (i + d) + 1 by omega]; simp only [offH]; omega)
/-- are the first bytes those of a segment? -/
def magicB (bs : List Int) : Bool := (strOfNums (bs.take 4)).toList == (⟨#[76, 84, 83, 49]⟩ : ByteArray).toList
/-- the error of the header -/
def errS (bs : List Int) : Nat := if bs.length < 124 then 14 else if magicB bs = false then 1 else if cutN bs 120 4 ≠ crcN (bs.take 120) then 15 else if bs.length ≠ offH bs 12 then 14 else 0
def secH (bs : List Int) (k : Nat) : List Int := cutB bs (offH bs (k - 1)) (lenH bs k)
/-- is the checksum of section k right? -/
def rightH (bs : List Int) (k : Nat) : Bool := crcH bs k == crcN (secH bs k)
def damH (bs : List Int) : Nat → List Int
  | 0 => []
  | k + 1 => damH bs k ++ (if rightH bs (k + 1) then [] else [((k + 1 : Nat) : Int)])
theorem damH_len (bs : List Int) : ∀ k, (damH bs k).length ≤ k
  | 0 => Nat.le_refl _
  | k + 1 => by
    have := damH_len bs k
    simp only [damH, List.length_append]
    split <;> simp <;> omega
end Go.Proofs.YtodaabofpkafjaaGreat

namespace Go.Proofs.YtodaabofpkafjaaGreat
open Go.RowKit
set_option linter.unusedVariables false
set_option linter.unusedSimpArgs false

set_option maxRecDepth 100000 in
theorem or_byte (v x : Nat) (hx : x < 256) (hv : v * 256 + x < 18446744073709551616) : bits .or .u64 ((v : Int) * 256) (x : Int) = ((v * 256 + x : Nat) : Int) := by
  have e : (v : Int) * 256 = ((v * 256 : Nat) : Int) := by omega
  rw [e]
  have ho : v * 256 ||| x = v * 256 + x := by
    have h := Nat.shiftLeft_add_eq_or_of_lt (i := 8) (show x < 2 ^ 8 from hx) v
    rw [Nat.shiftLeft_eq] at h
    exact h.symm
  show IntKind.u64.wrap ((BitVec.ofInt 64 ((v * 256 : Nat) : Int) ||| BitVec.ofInt 64 (x : Int)).toNat : Int) = _
  rw [BitVec.toNat_or, ofInt_nat 64 (v * 256) (by omega), ofInt_nat 64 x (by omega), ho]
  simp [IntKind.wrap, IntKind.signed, IntKind.bits]
  omega
def SameW (v : Value) (w : World) (e : Ending) (w' : World) : Prop := e = .returned v ∧ w' = w
set_option maxHeartbeats 4000000 in
set_option maxRecDepth 100000 in
theorem rget27_any {S : Nat → Prop} (A : Option Addr) (bs : List Int) (c : Nat) (w : World) (hr : Rd S w A (bs.map (.int .u8))) (hl : bs.length ≤ 8) (hx : ∀ x ∈ bs, 0 ≤ x ∧ x ≤ 255) :
    Calls Tryz.prog 36 #[.slice A bs.length c] w (SameW (.int .u64 (getN bs : Nat)) w) := by
  have HR := Lib.hid hr
  have HX := Lib.hid hx
  have HB : Hid (∀ k, k ≤ 8 → getN (bs.take k) < 256 ^ (bs.take k).length) := Lib.hid (fun k _ => getN_lt _ (bs.take k) rfl (fun x h => hx x (List.mem_of_mem_take h)))
  have HSN : Hid (∀ k x, bs[k]? = some x → getN (bs.take (k + 1)) = getN (bs.take k) * 256 + x.toNat) := Lib.hid (fun k x h => by
    obtain ⟨h1, h2⟩ := List.getElem?_eq_some_iff.1 h
    rw [List.take_succ_eq_append_getElem h1, h2, getN_snoc])
  clear hr hx
  go_enter Tryz.func36, Tryz.ntmps36
  go_wp2_with fail
  go_loopw [3, 4] (fun v vi wr => ∃ (k g : Nat), vi = .int .i64 k ∧ k ≤ bs.length ∧ v = .int .u64 g ∧ Hid (getN (bs.take k) = g) ∧ wr = w) (fun _ vi _ => bs.length - (intOf vi).toNat)
  case atStart => exact ⟨0, 0, rfl, Nat.zero_le _, rfl, Lib.hid rfl, rfl⟩
  case round =>
    obtain ⟨k, g, rfl, hk, rfl, HG, rfl⟩ := hrel
    by_cases hlt : k < bs.length
    · obtain ⟨x, hx⟩ : ∃ x, bs[k]? = some x := ⟨_, List.getElem?_eq_getElem hlt⟩
      obtain ⟨hx0, hx1⟩ := HX.out x (List.mem_of_getElem? hx)
      obtain ⟨xn, rfl⟩ : ∃ n : Nat, x = (n : Int) := ⟨x.toNat, by omega⟩
      obtain ⟨b, off, eA, hS, hlt2, hc⟩ := HR.out (by rw [List.length_map]; omega)
      subst eA
      have c0 := hc k (.int .u8 (xn : Int)) (by rw [List.getElem?_map, hx]; rfl)
      have hg : g < 72057594037927936 := by
        have h := HB.out k (by omega)
        rw [HG.out, List.length_take] at h
        exact Nat.lt_of_lt_of_le h (Nat.le_trans (Nat.pow_le_pow_right (by decide) (show min k bs.length ≤ 7 by omega)) (by decide))
      have HN : Hid (getN (bs.take (k + 1)) = g * 256 + xn) := Lib.hid (by rw [HSN.out k _ hx, HG.out, Int.toNat_natCast])
      have hO := or_byte g xn (by omega) (by omega)
      have i1 : (k : Int) < (bs.length : Int) := by omega
      have HO := Lib.hid hO
      clear hx hc hO
      go_wp2_with fail
      go_roundw
      case rel => exact ⟨k + 1, g * 256 + xn, by go_num, by omega, congrArg (Value.int .u64) HO.out, HN, trivial⟩
      case measure => simp [intOf]; omega
    · have i1 : ¬ (k : Int) < (bs.length : Int) := by omega
      have HE : Hid (getN bs = g) := Lib.hid (by have h := HG.out; rw [List.take_of_length_le (by omega)] at h; exact h)
      go_wp2_with fail
      go_ret
      exact ⟨by rw [HE.out]; rfl, rfl⟩
theorem cutB_rd {S : Nat → Prop} {w : World} {b off : Nat} {bs : List Int} (h : Rd S w (some ⟨b, off, none⟩) (bs.map (.int .u8))) (a k : Nat) : Rd S w (some ⟨b, off + a, none⟩) ((cutB bs a k).map (.int .u8)) := by
  have h1 := (h.drop a).take k
  have e : (some (⟨b, off, none⟩ : Addr)).map (·.add a) = some ⟨b, off + a, none⟩ := by
    show some (Addr.add _ _) = _; unfold Addr.add; split <;> simp_all
  rw [e] at h1
  unfold cutB
  rw [List.map_take, List.map_drop]
  exact h1
/-- a number of the header is read -/
theorem rget_cut {S : Nat → Prop} {w : World} {b off : Nat} {bs : List Int} (h : Rd S w (some ⟨b, off, none⟩) (bs.map (.int .u8))) (hi : InH bs) (a k c : Nat) (hk : a + k ≤ 124) (hl : a + k ≤ bs.length) (hk8 : k ≤ 8) :
    Calls Tryz.prog 36 #[.slice (some ⟨b, off + a, none⟩) k c] w (SameW (.int .u64 (cutN bs a k : Nat)) w) := by
  have h2 := rget27_any (some ⟨b, off + a, none⟩) (cutB bs a k) c w (cutB_rd h a k) (by rw [cutB_len hl]; exact hk8) (hi.cut hk)
  rw [cutB_len hl] at h2
  exact h2
set_option maxHeartbeats 4000000 in
set_option maxRecDepth 100000 in
theorem place_at {S : Nat → Prop} (b off c : Nat) (bs : List Int) (k : Nat) (w : World) (hr : Rd S w (some ⟨b, off, none⟩) (bs.map (.int .u8))) (hi : InH bs) (hl : 124 ≤ bs.length) (hc : bs.length ≤ c) (hm : c ≤ 9223372036854775807) (hk1 : 1 ≤ k) (hk : k ≤ 12) :
    Calls Tryz.prog 37 #[.slice (some ⟨b, off, none⟩) bs.length c, .int .i64 k] w (SameW (.tuple #[.int .i64 (offH bs (k - 1) : Nat), .int .i64 (lenH bs k : Nat)]) w) := by
  have KG := Lib.hid (fun (a c : Nat) (ha : a + 4 ≤ 124) => rget_cut hr hi a 4 c ha (by omega) (by decide))
  have HOL := Lib.hid (fun j (hj : j ≤ 12) => offH_le hi hl j hj)
  have HLL := Lib.hid (fun j (hj : j ≤ 12) => lenH_lt hi hj hl)
  have HO1 : Hid (∀ j, offH bs (j + 1) = offH bs j + cutN bs (16 + 8 * (j + 1)) 4) := Lib.hid (fun j => rfl)
  have HO0 : Hid (offH bs 0 = 124) := Lib.hid rfl
  have HLK : Hid (lenH bs k = cutN bs (16 + 8 * k) 4) := Lib.hid rfl
  clear hr hi
  go_enter Tryz.func37, Tryz.ntmps37
  go_wp2_with fail
  go_loopw [6, 7] (fun va vk wr => ∃ (j : Nat), vk = .int .i64 j ∧ 1 ≤ j ∧ j ≤ k ∧ va = .int .i64 (offH bs (j - 1) : Nat) ∧ wr = w) (fun _ vk _ => 13 - (intOf vk).toNat)
  case atStart => exact ⟨1, rfl, by omega, hk1, by rw [HO0.out]; rfl, rfl⟩
  case round =>
    obtain ⟨j, rfl, hj1, hj, rfl, rfl⟩ := hrel
    have hol := HOL.out (j - 1) (by omega)
    by_cases hlt : j < k
    · have i1 : (j : Int) < (k : Int) := by omega
      have hll := HLL.out j (by omega)
      have HN : Hid (offH bs j = offH bs (j - 1) + cutN bs (16 + 8 * j) 4) := Lib.hid (by
        obtain ⟨i, rfl⟩ : ∃ i, j = i + 1 := ⟨j - 1, by omega⟩
        exact HO1.out i)
      have K1 := Lib.hid (fun c => KG.out (16 + 8 * j) c (by omega))
      have hll2 : cutN bs (16 + 8 * j) 4 < 4294967296 := hll
      obtain ⟨on, hon⟩ : ∃ n, n = offH bs (j - 1) := ⟨_, rfl⟩
      obtain ⟨ln, hln⟩ : ∃ n, n = cutN bs (16 + 8 * j) 4 := ⟨_, rfl⟩
      rw [← hon] at hol HN ⊢
      rw [← hln] at hll2 HN K1
      clear hon hln hll
      go_wp2_with fail
      rw [show 20 + 8 * j - (16 + 8 * j) = 4 by omega]
      refine (K1.out _).mono ?_
      rintro e w1 ⟨rfl, rfl⟩
      go_wp2_with fail
      go_roundw
      case rel => exact ⟨j + 1, by go_num, by omega, by omega, by rw [show j + 1 - 1 = j from rfl, HN.out]; go_num, trivial⟩
      case measure => simp [intOf]; omega
    · have i1 : ¬ (j : Int) < (k : Int) := by omega
      have hjk : j = k := by omega
      have K1 := Lib.hid (fun c => KG.out (16 + 8 * k) c (by omega))
      have hll2 : cutN bs (16 + 8 * k) 4 < 4294967296 := HLL.out k hk
      have HON : Hid (offH bs (j - 1) = offH bs (k - 1)) := Lib.hid (by rw [hjk])
      obtain ⟨on, hon⟩ : ∃ n, n = offH bs (k - 1) := ⟨_, rfl⟩
      obtain ⟨ln, hln⟩ : ∃ n, n = cutN bs (16 + 8 * k) 4 := ⟨_, rfl⟩
      rw [← hon] at HON
      rw [HON.out] at hol ⊢
      rw [← hln] at hll2 K1 HLK
      have HON2 := Lib.hid hon
      clear hon hln hjk
      go_wp2_with fail
      rw [show 20 + 8 * k - (16 + 8 * k) = 4 by omega]
      refine (K1.out _).mono ?_
      rintro e w1 ⟨rfl, rfl⟩
      go_wp2_with fail
      go_ret2
      exact ⟨by rw [← HON2.out, HLK.out]; rfl, rfl⟩
end Go.Proofs.YtodaabofpkafjaaGreat

namespace Go.Proofs.YtodaabofpkafjaaGreat
open Go.RowKit
set_option linter.unusedVariables false
set_option linter.unusedSimpArgs false

def curO (off c k : Nat) : Nat := if c = k then off else off + k
def TakeP (w : World) (g b off n c k : Nat) (e : Ending) (w' : World) : Prop := e = .returned (.slice (some ⟨b, off, none⟩) k c) ∧ Blk w' g 97 #[.slice (some ⟨b, curO off c k, none⟩) (n - k) (c - k), .bool false] ∧ w.grownBy w' (some g)
set_option maxHeartbeats 2000000 in
set_option maxRecDepth 100000 in
theorem take_at (g b off n c k : Nat) (w : World) (hB : Blk w g 97 #[.slice (some ⟨b, off, none⟩) n c, .bool false]) (hk : k ≤ n) (hc : n ≤ c) (hm : c ≤ 9223372036854775807) :
    Calls Tryz.prog 76 #[.pointer (some ⟨g, 0, none⟩), .int .i64 k] w (TakeP w g b off n c k) := by
  have HB := Lib.hid hB
  have q0 := hB.cell 0; have q1 := hB.cell 1
  have z0 := hB.frozen 0; have z1 := hB.frozen 1
  simp at q0 q1
  have hgl := hB.lt
  have i1 : decide ((k : Int) < 0) = false := by simp
  have i2 : decide ((n : Int) < (k : Int)) = false := by simp; omega
  have i3 : (k : Int) ≤ (c : Int) := by omega
  have i4 : (0 : Int) ≤ (k : Int) := by omega
  have i5 : (k : Int) ≤ (n : Int) := by omega
  clear hB
  go_enter Tryz.func76, Tryz.ntmps76
  by_cases hz : c = k
  · subst hz
    obtain rfl : n = c := by omega
    have HZ : Hid (curO off n n = off) := Lib.hid (by unfold curO; rw [if_pos rfl])
    go_wp2_with fail
    go_ret
    exact ⟨rfl, by rw [HZ.out]; have h := HB.out.set_ 0 (.slice (some ⟨b, off, none⟩) 0 0); simpa using h, only_setB w _⟩
  · have HZ : Hid (curO off c k = off + k) := Lib.hid (by unfold curO; rw [if_neg hz])
    go_wp2_with fail
    go_ret
    exact ⟨rfl, by rw [HZ.out]; have h := HB.out.set_ 0 (.slice (some ⟨b, off + k, none⟩) (n - k) (c - k)); simpa using h, only_setB w _⟩
theorem curDrop {S : Nat → Prop} {w : World} {b off : Nat} {xs : List Value} (h : Rd S w (some ⟨b, off, none⟩) xs) (m : Nat) : Rd S w (some ⟨b, off + m, none⟩) (xs.drop m) := by
  have h1 := h.drop m
  have e : (some (⟨b, off, none⟩ : Addr)).map (·.add m) = some ⟨b, off + m, none⟩ := by
    show some (Addr.add _ _) = _; unfold Addr.add; split <;> simp_all
  rw [e] at h1
  exact h1
/-- the cursor stands at byte a -/
def CurS (S : Nat → Prop) (w : World) (g b : Nat) (bs : List Int) (a : Nat) : Prop := ∃ off c, Blk w g 97 #[.slice (some ⟨b, off, none⟩) (bs.length - a) c, .bool false] ∧ bs.length - a ≤ c ∧ c ≤ 9223372036854775807 ∧ Rd S w (some ⟨b, off, none⟩) ((bs.drop a).map (.int .u8))
theorem CurS.grown {S : Nat → Prop} {w w' : World} {g b a : Nat} {bs : List Int} (h : CurS S w g b bs a) (hg : w.grownBy w' none) : CurS S w' g b bs a := by
  obtain ⟨off, c, h1, h2, h3, h4⟩ := h
  exact ⟨off, c, h1.grown hg (by simp), h2, h3, h4.grown hg (by simp)⟩
def FixP (S : Nat → Prop) (w : World) (g b : Nat) (bs : List Int) (a k : Nat) (e : Ending) (w' : World) : Prop := e = .returned (.int .u64 (cutN bs a k : Nat)) ∧ CurS S w' g b bs (a + k) ∧ w.grownBy w' (some g)
set_option maxHeartbeats 4000000 in
set_option maxRecDepth 100000 in
theorem fixed_at {S : Nat → Prop} (g b : Nat) (bs : List Int) (a k : Nat) (w : World) (hC : CurS S w g b bs a) (hS : ∀ x, S x → x ≠ g) (hi : InH bs) (hl : a + k ≤ bs.length) (hak : a + k ≤ 124) (hk8 : k ≤ 8) :
    Calls Tryz.prog 49 #[.pointer (some ⟨g, 0, none⟩), .int .i64 k] w (FixP S w g b bs a k) := by
  obtain ⟨off, c, hB, h1, h2, hr⟩ := hC
  have KT := Lib.hid (take_at g b off (bs.length - a) c k w hB (by omega) h1 h2)
  have HR := Lib.hid hr
  obtain ⟨cs, hcs⟩ : ∃ l, l = cutB bs a k := ⟨_, rfl⟩
  have hcl : cs.length = k := by rw [hcs]; exact cutB_len hl
  have HX : Hid (∀ x ∈ cs, 0 ≤ x ∧ x ≤ 255) := Lib.hid (by rw [hcs]; exact hi.cut hak)
  have HV : Hid (getN cs = cutN bs a k) := Lib.hid (by rw [hcs]; rfl)
  have HQ : Hid (∀ w', TakeP w g b off (bs.length - a) c k (.returned (.slice (some ⟨b, off, none⟩) k c)) w' → CurS S w' g b bs (a + k) ∧ Rd S w' (some ⟨b, off, none⟩) (cs.map (.int .u8)) ∧ w.grownBy w' (some g)) := Lib.hid (by
    rintro w' ⟨-, hb, hg⟩
    have hr' := hr.grown hg (fun x hx e => hS x hx (by injection e))
    refine ⟨⟨curO off c k, c - k, by rw [← Nat.sub_sub]; exact hb, by omega, by omega, ?_⟩, ?_, hg⟩
    · rw [← List.drop_drop]
      by_cases hz : c = k
      · rw [show (bs.drop a).drop k = [] from List.drop_of_length_le (by rw [List.length_drop]; omega)]
        exact Rd.nil
      · rw [show curO off c k = off + k by unfold curO; rw [if_neg hz], List.map_drop]
        exact curDrop hr' k
    · rw [hcs]
      have h := hr'.take k
      rw [← List.map_take] at h
      exact h)
  have HB : Hid (∀ j, j ≤ 8 → getN (cs.take j) < 256 ^ (cs.take j).length) := Lib.hid (fun j _ => getN_lt _ (cs.take j) rfl (fun x h => HX.out x (List.mem_of_mem_take h)))
  have HSN : Hid (∀ j x, cs[j]? = some x → getN (cs.take (j + 1)) = getN (cs.take j) * 256 + x.toNat) := Lib.hid (fun j x h => by
    obtain ⟨h1, h2⟩ := List.getElem?_eq_some_iff.1 h
    rw [List.take_succ_eq_append_getElem h1, h2, getN_snoc])
  clear hB h1 h2 hr hcs hi hl hak hS
  go_enter Tryz.func49, Tryz.ntmps49
  go_wp2_with (go_at_call 76; refine KT.out.mono ?_; intro e w2 ht; obtain rfl := ht.1; obtain ⟨hc2, hr2, hg2⟩ := HQ.out _ ht; have C2 := Lib.hid hc2; have R2 := Lib.hid hr2; have G2 := Lib.hid hg2; clear ht hc2 hr2 hg2)
  go_loopw [5, 12] (fun v vi wr => ∃ (j q : Nat), vi = .int .i64 j ∧ j ≤ k ∧ v = .int .u64 q ∧ Hid (getN (cs.take j) = q) ∧ wr = w2) (fun _ vi _ => k - (intOf vi).toNat)
  case atStart => exact ⟨0, 0, rfl, Nat.zero_le _, rfl, Lib.hid rfl, rfl⟩
  case round =>
    obtain ⟨j, q, rfl, hj, rfl, HG, rfl⟩ := hrel
    by_cases hlt : j < k
    · obtain ⟨x, hx⟩ : ∃ x, cs[j]? = some x := ⟨_, List.getElem?_eq_getElem (by omega)⟩
      obtain ⟨hx0, hx1⟩ := HX.out x (List.mem_of_getElem? hx)
      obtain ⟨xn, rfl⟩ : ∃ n : Nat, x = (n : Int) := ⟨x.toNat, by omega⟩
      obtain ⟨b', off', eA, hS, hlt2, hc⟩ := R2.out (by rw [List.length_map]; omega)
      injection eA with eA; injection eA with eb eo
      subst eb eo
      have c0 := hc j (.int .u8 (xn : Int)) (by rw [List.getElem?_map, hx]; rfl)
      have hq : q < 72057594037927936 := by
        have h := HB.out j (by omega)
        rw [HG.out, List.length_take] at h
        exact Nat.lt_of_lt_of_le h (Nat.le_trans (Nat.pow_le_pow_right (by decide) (show min j cs.length ≤ 7 by omega)) (by decide))
      have HN : Hid (getN (cs.take (j + 1)) = q * 256 + xn) := Lib.hid (by rw [HSN.out j _ hx, HG.out, Int.toNat_natCast])
      have hO := or_byte q xn (by omega) (by omega)
      have i1 : (j : Int) < (k : Int) := by omega
      have HO := Lib.hid hO
      clear hx hc hO hcl
      go_wp2_with fail
      go_roundw
      case rel => exact ⟨j + 1, q * 256 + xn, by go_num, by omega, congrArg (Value.int .u64) HO.out, HN, trivial⟩
      case measure => simp [intOf]; omega
    · have i1 : ¬ (j : Int) < (k : Int) := by omega
      have HE : Hid (getN cs = q) := Lib.hid (by have h := HG.out; rw [List.take_of_length_le (by omega)] at h; exact h)
      clear hcl
      go_wp2_with fail
      go_ret
      exact ⟨by rw [← HV.out, HE.out]; rfl, C2.out, G2.out⟩
end Go.Proofs.YtodaabofpkafjaaGreat
