/- XHdrP, XHdrR, XHdrS, XHdrT, XHdrU, XHdrV, XHdrW, XHdrX, XHdrY, XHdrZ, XHdrE: what this seat has of them (joined by partseat.py). Conditions: as there. -/
import Derived.Test.YtpaiideboodaeaaGreatDoorJRIdx
import Derived.Test.YtpaiideboodaeaaGreatDoorJSegG
import Derived.Deep.DeepCutAuto
import Derived.Test.YtpaiideboodaeaaGreatDoorJBase
import Derived.Deep.RegionLaw
import Derived.Test.YtpaiideboodaeaaGreatDoorJGenC
import Derived.Deep.QuietTactic
import Derived.BigQuiet
import Derived.Test.YtpaiideboodaeaaGreatDoorJChkA
import Derived.Test.YtpaiideboodaeaaGreatDoorJIdxP
import Derived.Test.YtpaiideboodaeaaGreatDoorJCloneY
import Derived.Test.YtpaiideboodaeaaGreatDoorJEnc27
namespace Go.Proofs.YtpaiideboodaeaaGreatDoor
open Go.RowKit
set_option linter.unusedVariables false
set_option linter.unusedSimpArgs false

/-- the number in some bytes -/
def getN (bs : List Int) : Nat := bs.foldl (fun v b => v * 256 + b.toNat) 0
theorem getN_snoc (bs : List Int) (x : Int) : getN (bs ++ [x]) = getN bs * 256 + x.toNat := by unfold getN; rw [List.foldl_append]; rfl
theorem getN_lt : ∀ (n : Nat) (bs : List Int), bs.length = n → (∀ x ∈ bs, 0 ≤ x ∧ x ≤ 255) → getN bs < 256 ^ n
  | 0, bs, h, _ => by rw [List.eq_nil_of_length_eq_zero h]; decide
  | n + 1, bs, h, hx => by
    rcases List.eq_nil_or_concat bs with rfl | ⟨l, x, rfl⟩
    · simp at h
    · rw [List.concat_eq_append] at h hx ⊢
      have h1 := getN_lt n l (by simp at h; exact h) (fun y hy => hx y (List.mem_append_left _ hy))
      have h2 := hx x (by simp)
      rw [getN_snoc, Nat.pow_succ]
      omega
theorem getN_lt8 {bs : List Int} (h : bs.length ≤ 8) (hx : ∀ x ∈ bs, 0 ≤ x ∧ x ≤ 255) : getN bs < 18446744073709551616 :=
  Nat.lt_of_lt_of_le (getN_lt _ bs rfl hx) (Nat.le_trans (Nat.pow_le_pow_right (by decide) h) (by decide))
def cutB (bs : List Int) (a k : Nat) : List Int := (bs.drop a).take k
theorem cutB_len {bs : List Int} {a k : Nat} (h : a + k ≤ bs.length) : (cutB bs a k).length = k := by unfold cutB; rw [List.length_take, List.length_drop]; omega
def cutN (bs : List Int) (a k : Nat) : Nat := getN (cutB bs a k)
/-- the bytes of the header are bytes -/
def InH (bs : List Int) : Prop := ∀ x ∈ bs.take 124, 0 ≤ x ∧ x ≤ 255
theorem InH.cut {bs : List Int} (h : InH bs) {a k : Nat} (hk : a + k ≤ 124) : ∀ x ∈ cutB bs a k, 0 ≤ x ∧ x ≤ 255 := by
  intro x hx
  unfold cutB at hx
  obtain ⟨i, hi⟩ := List.mem_iff_getElem?.1 hx
  rw [List.getElem?_take] at hi
  split at hi
  · rw [List.getElem?_drop] at hi
    refine h x (List.mem_iff_getElem?.2 ⟨a + i, ?_⟩)
    rw [List.getElem?_take, if_pos (by omega)]
    exact hi
  · cases hi
theorem cutN_lt4 {bs : List Int} (h : InH bs) {a : Nat} (hk : a + 4 ≤ 124) (hl : a + 4 ≤ bs.length) : cutN bs a 4 < 4294967296 := getN_lt 4 _ (cutB_len hl) (h.cut hk)
theorem cutN_lt8 {bs : List Int} (h : InH bs) {a : Nat} (hk : a + 8 ≤ 124) (hl : a + 8 ≤ bs.length) : cutN bs a 8 < 18446744073709551616 := getN_lt 8 _ (cutB_len hl) (h.cut hk)
/-- what the header says of section k -/
def lenH (bs : List Int) (k : Nat) : Nat := cutN bs (16 + 8 * k) 4
def crcH (bs : List Int) (k : Nat) : Nat := cutN bs (20 + 8 * k) 4
def offH (bs : List Int) : Nat → Nat
  | 0 => 124
  | k + 1 => offH bs k + lenH bs (k + 1)
theorem lenH_lt {bs : List Int} (h : InH bs) {k : Nat} (hk : k ≤ 12) (hl : 124 ≤ bs.length) : lenH bs k < 4294967296 := cutN_lt4 h (by omega) (by omega)
theorem crcH_lt {bs : List Int} (h : InH bs) {k : Nat} (hk : k ≤ 12) (hl : 124 ≤ bs.length) : crcH bs k < 4294967296 := cutN_lt4 h (by omega) (by omega)
theorem offH_le {bs : List Int} (h : InH bs) (hl : 124 ≤ bs.length) : ∀ k, k ≤ 12 → offH bs k ≤ 124 + k * 4294967296
  | 0, _ => Nat.le_refl _
  | k + 1, hk => by
    have h1 := offH_le h hl k (by omega)
    have h2 := lenH_lt h hk hl
    simp only [offH]
    omega
theorem offH_mono (bs : List Int) {i j : Nat} (h : i ≤ j) : offH bs i ≤ offH bs j := by
  obtain ⟨d, rfl⟩ : ∃ d, j = i + d := ⟨j - i, by omega⟩
  clear h
  induction d with
  | zero => exact Nat.le_refl _
  | succ d ih => exact Nat.le_trans ih (by rw [show i + (d + 1) = (i + d) + 1 by omega]; simp only [offH]; omega)
/-- are the first bytes those of a segment? -/
def magicB (bs : List Int) : Bool := (strOfNums (bs.take 4)).toList == (⟨#[76, 84, 83, 49]⟩ : ByteArray).toList
/-- the error of the header -/
def errS (bs : List Int) : Nat := if bs.length < 124 then 14 else if magicB bs = false then 1 else if cutN bs 120 4 ≠ crcN (bs.take 120) then 15 else if bs.length ≠ offH bs 12 then 14 else 0
def secH (bs : List Int) (k : Nat) : List Int := cutB bs (offH bs (k - 1)) (lenH bs k)
/-- is the checksum of section k right? -/
def rightH (bs : List Int) (k : Nat) : Bool := crcH bs k == crcN (secH bs k)
def damH (bs : List Int) : Nat → List Int
  | 0 => []
  | k + 1 => damH bs k ++ (if rightH bs (k + 1) then [] else [((k + 1 : Nat) : Int)])
theorem damH_len (bs : List Int) : ∀ k, (damH bs k).length ≤ k
  | 0 => Nat.le_refl _
  | k + 1 => by
    have := damH_len bs k
    simp only [damH, List.length_append]
    split <;> simp <;> omega
end Go.Proofs.YtpaiideboodaeaaGreatDoor

namespace Go.Proofs.YtpaiideboodaeaaGreatDoor
open Go.RowKit
set_option linter.unusedVariables false
set_option linter.unusedSimpArgs false

set_option maxRecDepth 100000 in
theorem or_byte (v x : Nat) (hx : x < 256) (hv : v * 256 + x < 18446744073709551616) : bits .or .u64 ((v : Int) * 256) (x : Int) = ((v * 256 + x : Nat) : Int) := by
  have e : (v : Int) * 256 = ((v * 256 : Nat) : Int) := by omega
  rw [e]
  have ho : v * 256 ||| x = v * 256 + x := by
    have h := Nat.shiftLeft_add_eq_or_of_lt (i := 8) (show x < 2 ^ 8 from hx) v
    rw [Nat.shiftLeft_eq] at h
    exact h.symm
  show IntKind.u64.wrap ((BitVec.ofInt 64 ((v * 256 : Nat) : Int) ||| BitVec.ofInt 64 (x : Int)).toNat : Int) = _
  rw [BitVec.toNat_or, ofInt_nat 64 (v * 256) (by omega), ofInt_nat 64 x (by omega), ho]
  simp [IntKind.wrap, IntKind.signed, IntKind.bits]
  omega
def SameW (v : Value) (w : World) (e : Ending) (w' : World) : Prop := e = .returned v ∧ w' = w
theorem cutB_rd {S : Nat → Prop} {w : World} {b off : Nat} {bs : List Int} (h : Rd S w (some ⟨b, off, none⟩) (bs.map (.int .u8))) (a k : Nat) : Rd S w (some ⟨b, off + a, none⟩) ((cutB bs a k).map (.int .u8)) := by
  have h1 := (h.drop a).take k
  have e : (some (⟨b, off, none⟩ : Addr)).map (·.add a) = some ⟨b, off + a, none⟩ := by
    show some (Addr.add _ _) = _; unfold Addr.add; split <;> simp_all
  rw [e] at h1
  unfold cutB
  rw [List.map_take, List.map_drop]
  exact h1
end Go.Proofs.YtpaiideboodaeaaGreatDoor

namespace Go.Proofs.YtpaiideboodaeaaGreatDoor
open Go.RowKit
set_option linter.unusedVariables false
set_option linter.unusedSimpArgs false

def sumV (bs : List Int) : Array Value := if errS bs = 0 then #[.int .i64 (cutN bs 4 4 : Nat), .int .i64 (IntKind.i64.wrap (cutN bs 8 8 : Nat)), .int .i64 (IntKind.i64.wrap (cutN bs 16 8 : Nat))] else #[.int .i64 0, .int .i64 0, .int .i64 0]
def SumP (w : World) (bs : List Int) (e : Ending) (w' : World) : Prop := e = .returned (.tuple #[.agg (sumV bs), .int .i64 (errS bs : Nat)]) ∧ w.grownBy w' none
theorem sumV_no {bs : List Int} {n : Nat} (h : errS bs = n) (hn : n ≠ 0) : sumV bs = #[.int .i64 0, .int .i64 0, .int .i64 0] := by unfold sumV; rw [if_neg (by omega)]
theorem errS_short {bs : List Int} (h : bs.length < 124) : errS bs = 14 := by unfold errS; rw [if_pos h]
theorem errS_syn {bs : List Int} (h : 124 ≤ bs.length) (h1 : magicB bs = false) : errS bs = 1 := by unfold errS; rw [if_neg (by omega), if_pos h1]
theorem errS_crc {bs : List Int} (h : 124 ≤ bs.length) (h1 : magicB bs = true) (h2 : cutN bs 120 4 ≠ crcN (bs.take 120)) : errS bs = 15 := by unfold errS; rw [if_neg (by omega), if_neg (by simp [h1]), if_pos h2]
theorem errS_end {bs : List Int} (h : 124 ≤ bs.length) (h1 : magicB bs = true) (h2 : cutN bs 120 4 = crcN (bs.take 120)) : errS bs = if bs.length ≠ offH bs 12 then 14 else 0 := by unfold errS; rw [if_neg (by omega), if_neg (by simp [h1]), if_neg (by simp [h2])]
theorem errS_ok {bs : List Int} (h : errS bs = 0) : 124 ≤ bs.length ∧ magicB bs = true ∧ cutN bs 120 4 = crcN (bs.take 120) ∧ bs.length = offH bs 12 := by
  unfold errS at h
  split at h
  · cases h
  · split at h
    · cases h
    · split at h
      · cases h
      · split at h
        · cases h
        · rename_i h1 h2 h3 h4
          exact ⟨by omega, by simpa using h2, by simpa using h3, by simpa using h4⟩
theorem mgl : (⟨#[76, 84, 83, 49]⟩ : ByteArray).toList = ([76, 84, 83, 49] : List UInt8) := by rw [ByteArray.toList_eq]
end Go.Proofs.YtpaiideboodaeaaGreatDoor

namespace Go.Proofs.YtpaiideboodaeaaGreatDoor
open Go.RowKit
set_option linter.unusedVariables false
set_option linter.unusedSimpArgs false

theorem sec_in {bs : List Int} (h : errS bs = 0) {k : Nat} (hk1 : 1 ≤ k) (hk : k ≤ 12) : offH bs (k - 1) + lenH bs k ≤ bs.length := by
  obtain ⟨j, rfl⟩ : ∃ j, k = j + 1 := ⟨k - 1, by omega⟩
  have h1 := offH_mono bs (i := j + 1) (j := 12) hk
  have h2 := (errS_ok h).2.2.2
  simp only [offH] at h1
  rw [Nat.add_sub_cancel]
  simp only [offH] at h2
  omega
theorem sec_len {bs : List Int} (h : errS bs = 0) {k : Nat} (hk1 : 1 ≤ k) (hk : k ≤ 12) : (secH bs k).length = lenH bs k := cutB_len (sec_in h hk1 hk)
theorem off_ge (bs : List Int) (k : Nat) : 124 ≤ offH bs k := offH_mono bs (i := 0) (Nat.zero_le k)
theorem sec_rd {S : Nat → Prop} {w : World} {b off c : Nat} {bs : List Int} (h : Rd S w (some ⟨b, off, none⟩) (bs.map (.int .u8))) (k : Nat) : Rd S w (some ⟨b, off + offH bs (k - 1), none⟩) ((secH bs k).map (.int .u8)) := cutB_rd h _ _
theorem sec_rd0 {S : Nat → Prop} {w : World} {A : Option Addr} {bs : List Int} {k : Nat} (h : bs.length ≤ offH bs (k - 1)) : Rd S w A ((secH bs k).map (.int .u8)) := by
  rw [show secH bs k = [] from by unfold secH cutB; rw [List.drop_of_length_le h]; simp]
  exact Rd.nil
def BoolExtH (v : Bool) (w : World) (e : Ending) (w' : World) : Prop := e = .returned (.bool v) ∧ w.grownBy w' none
end Go.Proofs.YtpaiideboodaeaaGreatDoor

namespace Go.Proofs.YtpaiideboodaeaaGreatDoor
open Go.RowKit
set_option linter.unusedVariables false
set_option linter.unusedSimpArgs false

/-- the error of section kind -/
def secE (bs : List Int) (kind : Int) : Nat := if kind < 1 ∨ 12 < kind then 2 else if errS bs ≠ 0 then errS bs else if rightH bs kind.toNat = true then 0 else 15
def secY (bs : List Int) (kind : Int) : List Int := if secE bs kind = 0 then secH bs kind.toNat else []
theorem secE_out {bs : List Int} {kind : Int} (h : kind < 1 ∨ 12 < kind) : secE bs kind = 2 := by unfold secE; rw [if_pos h]
theorem secE_err {bs : List Int} {kind : Int} {n : Nat} (h : 1 ≤ kind) (h2 : kind ≤ 12) (he : errS bs = n) (hn : n ≠ 0) : secE bs kind = n := by unfold secE; rw [if_neg (by omega), if_pos (by omega), he]
theorem secE_ok {bs : List Int} {k : Nat} (h : 1 ≤ k) (h2 : k ≤ 12) (he : errS bs = 0) : secE bs k = if rightH bs k = true then 0 else 15 := by unfold secE; rw [if_neg (by omega), if_neg (by omega), Int.toNat_natCast]
theorem secY_no {bs : List Int} {kind : Int} {n : Nat} (h : secE bs kind = n) (hn : n ≠ 0) : secY bs kind = [] := by unfold secY; rw [if_neg (by omega)]
theorem secY_yes {bs : List Int} {k : Nat} (h : secE bs k = 0) : secY bs k = secH bs k := by unfold secY; rw [if_pos h, Int.toNat_natCast]
def SecP (w : World) (bs : List Int) (kind : Int) (e : Ending) (w' : World) : Prop := ∃ A c, e = .returned (.tuple #[.slice A (secY bs kind).length c, .int .i64 (secE bs kind : Nat)]) ∧ Rd (w.heap.size ≤ ·) w' A ((secY bs kind).map (.int .u8)) ∧ w.grownBy w' none
theorem SecP.no {w w' : World} {bs : List Int} {kind : Int} {n : Nat} (h : secE bs kind = n) (hn : n ≠ 0) (hg : w.grownBy w' none) {c : Nat} : SecP w bs kind (.returned (.tuple #[.slice none 0 c, .int .i64 (n : Nat)])) w' :=
  ⟨none, c, by rw [secY_no h hn, h]; rfl, by rw [secY_no h hn]; exact Rd.nil, hg⟩
theorem fin22 {w w3 w7 : World} {bs : List Int} {k n : Nat} {A : Option Addr} {c : Nat} (hE : secE bs k = 0) (hX : secY bs k = secH bs k) (hn : n = (secH bs k).length) (h3 : w.grownBy w3 none) (h7 : w3.grownBy w7 (Value.slice none 0 0).ownBlock) (hr : Rd (w3.heap.size ≤ ·) w7 A ([] ++ (secH bs k).map (.int .u8))) : SecP w bs k (.returned (.tuple #[.slice A n c, .int .i64 0])) w7 :=
  ⟨A, c, by rw [hX, hE, hn]; rfl, by rw [hX]; exact hr.mono (fun b hb _ => Nat.le_trans h3.size hb), only_trans h3 h7⟩
theorem errS_le (bs : List Int) : errS bs ≤ 15 := by
  unfold errS
  repeat' split
  all_goals omega
/-- the sections whose checksum is wrong -/
def damL (bs : List Int) : List Int := if errS bs = 0 then damH bs 12 else []
theorem damL_len (bs : List Int) : (damL bs).length ≤ 12 := by
  unfold damL
  split
  · exact damH_len bs 12
  · exact Nat.zero_le _
def DamP (w : World) (bs : List Int) (e : Ending) (w' : World) : Prop := ∃ A c, e = .returned (.tuple #[.slice A (damL bs).length c, .int .i64 (errS bs : Nat)]) ∧ Rd (w.heap.size ≤ ·) w' A ((damL bs).map (.int .i64)) ∧ w.grownBy w' none
theorem DamP.no {w w' : World} {bs : List Int} {n : Nat} (h : errS bs = n) (hn : n ≠ 0) (hg : w.grownBy w' none) {c : Nat} : DamP w bs (.returned (.tuple #[.slice none 0 c, .int .i64 (n : Nat)])) w' := by
  have hd : damL bs = [] := by unfold damL; rw [if_neg (by omega)]
  exact ⟨none, c, by rw [hd, h]; rfl, by rw [hd]; exact Rd.nil, hg⟩
theorem damH_true {bs : List Int} {k : Nat} (h : rightH bs k = true) (hk : 1 ≤ k) : damH bs k = damH bs (k - 1) := by
  obtain ⟨j, rfl⟩ : ∃ j, k = j + 1 := ⟨k - 1, by omega⟩
  simp only [damH, h, if_true, List.append_nil, Nat.add_sub_cancel]
theorem damH_false {bs : List Int} {k : Nat} (h : rightH bs k = false) (hk : 1 ≤ k) : damH bs k = damH bs (k - 1) ++ [(k : Int)] := by
  obtain ⟨j, rfl⟩ : ∃ j, k = j + 1 := ⟨k - 1, by omega⟩
  simp [damH, h]
end Go.Proofs.YtpaiideboodaeaaGreatDoor

namespace Go.Proofs.YtpaiideboodaeaaGreatDoor
open Go.RowKit
set_option linter.unusedVariables false
set_option linter.unusedSimpArgs false

def curO (off c k : Nat) : Nat := if c = k then off else off + k
def TakeP (w : World) (g b off n c k : Nat) (e : Ending) (w' : World) : Prop := e = .returned (.slice (some ⟨b, off, none⟩) k c) ∧ Blk w' g 126 #[.slice (some ⟨b, curO off c k, none⟩) (n - k) (c - k), .bool false] ∧ w.grownBy w' (some g)
set_option maxHeartbeats 2000000 in
set_option maxRecDepth 100000 in
theorem take_at (g b off n c k : Nat) (w : World) (hB : Blk w g 126 #[.slice (some ⟨b, off, none⟩) n c, .bool false]) (hk : k ≤ n) (hc : n ≤ c) (hm : c ≤ 9223372036854775807) :
    Calls Tryz.prog 118 #[.pointer (some ⟨g, 0, none⟩), .int .i64 k] w (TakeP w g b off n c k) := by
  have HB := Lib.hid hB
  have q0 := hB.cell 0; have q1 := hB.cell 1
  have z0 := hB.frozen 0; have z1 := hB.frozen 1
  simp at q0 q1
  have hgl := hB.lt
  have i1 : decide ((k : Int) < 0) = false := by simp
  have i2 : decide ((n : Int) < (k : Int)) = false := by simp; omega
  have i3 : (k : Int) ≤ (c : Int) := by omega
  have i4 : (0 : Int) ≤ (k : Int) := by omega
  have i5 : (k : Int) ≤ (n : Int) := by omega
  clear hB
  go_enter Tryz.func118, Tryz.ntmps118
  by_cases hz : c = k
  · subst hz
    obtain rfl : n = c := by omega
    have HZ : Hid (curO off n n = off) := Lib.hid (by unfold curO; rw [if_pos rfl])
    go_wp2_with fail
    go_ret
    exact ⟨rfl, by rw [HZ.out]; have h := HB.out.set_ 0 (.slice (some ⟨b, off, none⟩) 0 0); simpa using h, only_setB w _⟩
  · have HZ : Hid (curO off c k = off + k) := Lib.hid (by unfold curO; rw [if_neg hz])
    go_wp2_with fail
    go_ret
    exact ⟨rfl, by rw [HZ.out]; have h := HB.out.set_ 0 (.slice (some ⟨b, off + k, none⟩) (n - k) (c - k)); simpa using h, only_setB w _⟩
theorem curDrop {S : Nat → Prop} {w : World} {b off : Nat} {xs : List Value} (h : Rd S w (some ⟨b, off, none⟩) xs) (m : Nat) : Rd S w (some ⟨b, off + m, none⟩) (xs.drop m) := by
  have h1 := h.drop m
  have e : (some (⟨b, off, none⟩ : Addr)).map (·.add m) = some ⟨b, off + m, none⟩ := by
    show some (Addr.add _ _) = _; unfold Addr.add; split <;> simp_all
  rw [e] at h1
  exact h1
/-- the cursor stands at byte a -/
def CurS (S : Nat → Prop) (w : World) (g b : Nat) (bs : List Int) (a : Nat) : Prop := ∃ off c, Blk w g 126 #[.slice (some ⟨b, off, none⟩) (bs.length - a) c, .bool false] ∧ bs.length - a ≤ c ∧ c ≤ 9223372036854775807 ∧ Rd S w (some ⟨b, off, none⟩) ((bs.drop a).map (.int .u8))
theorem CurS.grown {S : Nat → Prop} {w w' : World} {g b a : Nat} {bs : List Int} (h : CurS S w g b bs a) (hg : w.grownBy w' none) : CurS S w' g b bs a := by
  obtain ⟨off, c, h1, h2, h3, h4⟩ := h
  exact ⟨off, c, h1.grown hg (by simp), h2, h3, h4.grown hg (by simp)⟩
def FixP (S : Nat → Prop) (w : World) (g b : Nat) (bs : List Int) (a k : Nat) (e : Ending) (w' : World) : Prop := e = .returned (.int .u64 (cutN bs a k : Nat)) ∧ CurS S w' g b bs (a + k) ∧ w.grownBy w' (some g)
set_option maxHeartbeats 4000000 in
set_option maxRecDepth 100000 in
theorem fixed_at {S : Nat → Prop} (g b : Nat) (bs : List Int) (a k : Nat) (w : World) (hC : CurS S w g b bs a) (hS : ∀ x, S x → x ≠ g) (hi : InH bs) (hl : a + k ≤ bs.length) (hak : a + k ≤ 124) (hk8 : k ≤ 8) :
    Calls Tryz.prog 68 #[.pointer (some ⟨g, 0, none⟩), .int .i64 k] w (FixP S w g b bs a k) := by
  obtain ⟨off, c, hB, h1, h2, hr⟩ := hC
  have KT := Lib.hid (take_at g b off (bs.length - a) c k w hB (by omega) h1 h2)
  have HR := Lib.hid hr
  obtain ⟨cs, hcs⟩ : ∃ l, l = cutB bs a k := ⟨_, rfl⟩
  have hcl : cs.length = k := by rw [hcs]; exact cutB_len hl
  have HX : Hid (∀ x ∈ cs, 0 ≤ x ∧ x ≤ 255) := Lib.hid (by rw [hcs]; exact hi.cut hak)
  have HV : Hid (getN cs = cutN bs a k) := Lib.hid (by rw [hcs]; rfl)
  have HQ : Hid (∀ w', TakeP w g b off (bs.length - a) c k (.returned (.slice (some ⟨b, off, none⟩) k c)) w' → CurS S w' g b bs (a + k) ∧ Rd S w' (some ⟨b, off, none⟩) (cs.map (.int .u8)) ∧ w.grownBy w' (some g)) := Lib.hid (by
    rintro w' ⟨-, hb, hg⟩
    have hr' := hr.grown hg (fun x hx e => hS x hx (by injection e))
    refine ⟨⟨curO off c k, c - k, by rw [← Nat.sub_sub]; exact hb, by omega, by omega, ?_⟩, ?_, hg⟩
    · rw [← List.drop_drop]
      by_cases hz : c = k
      · rw [show (bs.drop a).drop k = [] from List.drop_of_length_le (by rw [List.length_drop]; omega)]
        exact Rd.nil
      · rw [show curO off c k = off + k by unfold curO; rw [if_neg hz], List.map_drop]
        exact curDrop hr' k
    · rw [hcs]
      have h := hr'.take k
      rw [← List.map_take] at h
      exact h)
  have HB : Hid (∀ j, j ≤ 8 → getN (cs.take j) < 256 ^ (cs.take j).length) := Lib.hid (fun j _ => getN_lt _ (cs.take j) rfl (fun x h => HX.out x (List.mem_of_mem_take h)))
  have HSN : Hid (∀ j x, cs[j]? = some x → getN (cs.take (j + 1)) = getN (cs.take j) * 256 + x.toNat) := Lib.hid (fun j x h => by
    obtain ⟨h1, h2⟩ := List.getElem?_eq_some_iff.1 h
    rw [List.take_succ_eq_append_getElem h1, h2, getN_snoc])
  clear hB h1 h2 hr hcs hi hl hak hS
  go_enter Tryz.func68, Tryz.ntmps68
  go_wp2_with (go_at_call 118; refine KT.out.mono ?_; intro e w2 ht; obtain rfl := ht.1; obtain ⟨hc2, hr2, hg2⟩ := HQ.out _ ht; have C2 := Lib.hid hc2; have R2 := Lib.hid hr2; have G2 := Lib.hid hg2; clear ht hc2 hr2 hg2)
  go_loopw [5, 12] (fun v vi wr => ∃ (j q : Nat), vi = .int .i64 j ∧ j ≤ k ∧ v = .int .u64 q ∧ Hid (getN (cs.take j) = q) ∧ wr = w2) (fun _ vi _ => k - (intOf vi).toNat)
  case atStart => exact ⟨0, 0, rfl, Nat.zero_le _, rfl, Lib.hid rfl, rfl⟩
  case round =>
    obtain ⟨j, q, rfl, hj, rfl, HG, rfl⟩ := hrel
    by_cases hlt : j < k
    · obtain ⟨x, hx⟩ : ∃ x, cs[j]? = some x := ⟨_, List.getElem?_eq_getElem (by omega)⟩
      obtain ⟨hx0, hx1⟩ := HX.out x (List.mem_of_getElem? hx)
      obtain ⟨xn, rfl⟩ : ∃ n : Nat, x = (n : Int) := ⟨x.toNat, by omega⟩
      obtain ⟨b', off', eA, hS, hlt2, hc⟩ := R2.out (by rw [List.length_map]; omega)
      injection eA with eA; injection eA with eb eo
      subst eb eo
      have c0 := hc j (.int .u8 (xn : Int)) (by rw [List.getElem?_map, hx]; rfl)
      have hq : q < 72057594037927936 := by
        have h := HB.out j (by omega)
        rw [HG.out, List.length_take] at h
        exact Nat.lt_of_lt_of_le h (Nat.le_trans (Nat.pow_le_pow_right (by decide) (show min j cs.length ≤ 7 by omega)) (by decide))
      have HN : Hid (getN (cs.take (j + 1)) = q * 256 + xn) := Lib.hid (by rw [HSN.out j _ hx, HG.out, Int.toNat_natCast])
      have hO := or_byte q xn (by omega) (by omega)
      have i1 : (j : Int) < (k : Int) := by omega
      have HO := Lib.hid hO
      clear hx hc hO hcl
      go_wp2_with fail
      go_roundw
      case rel => exact ⟨j + 1, q * 256 + xn, by go_num, by omega, congrArg (Value.int .u64) HO.out, HN, trivial⟩
      case measure => simp [intOf]; omega
    · have i1 : ¬ (j : Int) < (k : Int) := by omega
      have HE : Hid (getN cs = q) := Lib.hid (by have h := HG.out; rw [List.take_of_length_le (by omega)] at h; exact h)
      clear hcl
      go_wp2_with fail
      go_ret
      exact ⟨by rw [← HV.out, HE.out]; rfl, C2.out, G2.out⟩
end Go.Proofs.YtpaiideboodaeaaGreatDoor

namespace Go.Proofs.YtpaiideboodaeaaGreatDoor
open Go.RowKit
set_option linter.unusedVariables false
set_option linter.unusedSimpArgs false

theorem entInfo : (Tryz.prog.info? 79).map (fun i => (i.zero, i.size, i.bytes)) = some (some (.agg #[.int .i64 0, .int .u32 0]), 2, 16) := by kernel_rfl
theorem wsz (w : World) (o : Obj) : (w.alloc o).heap.size = w.heap.size + 1 := by simp
theorem wrapE (x : Int) : IntKind.i64.wrap x = wrap64 x := by rw [IntKind.wrap_i64]; unfold wrap64; rfl
/-- what the header says of the first k sections -/
def entL (bs : List Int) : Nat → List Value
  | 0 => []
  | k + 1 => entL bs k ++ [.int .i64 (lenH bs (k + 1) : Nat), .int .u32 (crcH bs (k + 1) : Nat)]
theorem entL_len (bs : List Int) : ∀ k, (entL bs k).length = 2 * k
  | 0 => rfl
  | k + 1 => by simp only [entL, List.length_append, entL_len bs k, List.length_cons, List.length_nil]; omega
theorem entL_at (bs : List Int) : ∀ k j, j < k → (entL bs k)[2 * j]? = some (.int .i64 (lenH bs (j + 1) : Nat)) ∧ (entL bs k)[2 * j + 1]? = some (.int .u32 (crcH bs (j + 1) : Nat))
  | 0, j, h => by omega
  | k + 1, j, h => by
    by_cases hj : j < k
    · have h1 := entL_at bs k j hj
      simp only [entL]
      rw [List.getElem?_append_left (by rw [entL_len]; omega), List.getElem?_append_left (by rw [entL_len]; omega)]
      exact h1
    · obtain rfl : j = k := by omega
      simp only [entL]
      rw [List.getElem?_append_right (by rw [entL_len]; omega), List.getElem?_append_right (by rw [entL_len]; omega), entL_len, Nat.sub_self, show 2 * j + 1 - 2 * j = 1 by omega]
      exact ⟨rfl, rfl⟩
theorem CurS.own {w w' : World} {g b a base e z n : Nat} {v : Value} {xs : List Value} {bs : List Int} {m : Nat} (h : CurS (· < m) w g b bs a) (hg : w.grownBy w' v.ownBlock) (ho : w.ownsRow base e z v n xs) (h1 : g < base) (h2 : m ≤ base) : CurS (· < m) w' g b bs a := by
  obtain ⟨off, c, hb, h3, h4, h5⟩ := h
  refine ⟨off, c, hb.grown hg (fun e => ?_), h3, h4, h5.grown hg (fun x hx e => ?_)⟩
  · have := (ho.lt g e.symm).1; omega
  · have := (ho.lt x e.symm).1
    have hx' : x < m := hx
    omega
theorem Blk.own' {w w' : World} {g t base e z n : Nat} {cs : Array Value} {v : Value} {xs : List Value} (h : Blk w g t cs) (hg : w.grownBy w' v.ownBlock) (ho : w.ownsRow base e z v n xs) (h1 : g < base) : Blk w' g t cs :=
  h.grown hg (fun e => by have := (ho.lt g e.symm).1; omega)
/-- what parse gives -/
def ParP (w : World) (bs : List Int) (e : Ending) (w' : World) : Prop := ∃ A n c, e = .returned (.tuple #[.agg (sumV bs), .slice A n c, .int .i64 (errS bs : Nat)]) ∧ (errS bs = 0 → n = 12 ∧ 12 ≤ c ∧ Rd (w.heap.size ≤ ·) w' A (entL bs 12)) ∧ w.grownBy w' none
theorem fin35 {w W : World} {rb : Nat} {tm : Array Value} {x0 x1 x2 V0 V1 V2 : Value} {E : Nat} {bs : List Int} {A : Option Addr} {n c : Nat} (hrb : rb = w.heap.size) (hB : Blk W rb 74 #[x0, x1, x2]) (hG : w.grownBy W none) (hV : sumV bs = #[V0, V1, V2]) (hE : errS bs = E) (hR : E = 0 → n = 12 ∧ 12 ≤ c ∧ Rd (rb < ·) W A (entL bs 12)) (h2 : tm[2]?.getD undef = .pointer (some ⟨rb, 0, none⟩)) (h3 : tm[3]?.getD undef = .slice A n c) (h4 : tm[4]?.getD undef = .int .i64 E) :
    bodyPost Tryz.prog Tryz.f33 (ParP w bs) .ret ⟨tm, []⟩ (((W.setCell ⟨rb, 0, none⟩ V0).setCell ⟨rb, 1, none⟩ V1).setCell ⟨rb, 2, none⟩ V2) := by
  have hB2 := ((hB.set_ 0 V0).set_ 1 V1).set_ 2 V2
  have q0 := hB2.cell 0; have q1 := hB2.cell 1; have q2 := hB2.cell 2
  simp at q0 q1 q2
  refine bodyPost_ret (v := .tuple #[.agg #[V0, V1, V2], .slice A n c, .int .i64 (E : Nat)]) ?_ rfl ⟨A, n, c, by rw [hV, hE], fun h => ?_, only_setN (only_setN (only_setN hG (by simp [hrb]) _) (by simp [hrb]) _) (by simp [hrb]) _⟩
  · simp [results, Tryz.results33, go_sem, h2, h3, h4, q0, q1, q2]
  · obtain ⟨e1, e2, e3⟩ := hR (by omega)
    have hne : ∀ x, rb < x → some x ≠ some rb := fun x hx e => by injection e; omega
    exact ⟨e1, e2, (((e3.grown (only_setB W V0) hne).grown (only_setB _ V1) hne).grown (only_setB _ V2) hne).mono (fun x hx _ => by rw [← hrb]; exact Nat.le_of_lt hx)⟩
set_option maxHeartbeats 8000000 in
set_option maxRecDepth 100000 in
theorem parse_any {S : Nat → Prop} (A : Option Addr) (bs : List Int) (c : Nat) (w : World) (hr : Rd S w A (bs.map (.int .u8))) (hi : InH bs) (hl : bs.length ≤ 10000000) (hc : bs.length ≤ c) (hm : c ≤ 9223372036854775807) :
    Calls Tryz.prog 33 #[.slice A bs.length c] w (ParP w bs) := by
  have hr2 : Rd (· < w.heap.size) w A (bs.map (.int .u8)) := hr.mono (fun _ _ h => h)
  have HR := Lib.hid hr2
  have HI := Lib.hid hi
  clear hr hr2 hi
  go_enter Tryz.func33, Tryz.ntmps33
  go_upto_region 1 with fail
  obtain ⟨rb, hrb⟩ : ∃ b, b = w.heap.size := ⟨_, rfl⟩
  obtain ⟨W, hW⟩ : ∃ W, W = w.alloc (.cells #[.int .i64 0, .int .i64 0, .int .i64 0] 74) := ⟨_, rfl⟩
  have hBR : Blk W rb 74 #[.int .i64 0, .int .i64 0, .int .i64 0] := by rw [hW, hrb]; exact Blk.new _ _ _
  have hG0 : w.grownBy W none := by rw [hW]; exact only_alloc (only_refl _ _) _
  have HRB := Lib.hid hrb
  have G0 := Lib.hid hG0
  have BR := Lib.hid hBR
  have hrW := hBR.lt
  rw [← hW, ← hrb]
  have q0 := hBR.cell 0; have q1 := hBR.cell 1; have q2 := hBR.cell 2
  have z0 := hBR.frozen 0; have z1 := hBR.frozen 1; have z2 := hBR.frozen 2
  simp at q0 q1 q2
  clear hW hrb hBR hG0
  by_cases hs : bs.length < 124
  · have HE := Lib.hid (errS_short hs)
    have i1 : (bs.length : Int) < 124 := by omega
    clear hs
    go_wp2_with fail
    exact fin35 HRB.out BR.out G0.out (sumV_no HE.out (by decide)) HE.out (fun h => by omega) rfl rfl rfl
  · have hl124 : 124 ≤ bs.length := by omega
    have i1 : ¬ (bs.length : Int) < 124 := by omega
    obtain ⟨b, off, rfl, hSb, hbw, -⟩ := HR.out (by rw [List.length_map]; omega)
    have HRW := Lib.hid (HR.out.grown G0.out (by simp))
    have h4 : (bs.take 4).length = 4 := by rw [List.length_take]; omega
    have hbi := bytesin_rd (S := (· < w.heap.size)) (w := W) (A := some ⟨b, off, none⟩) (bs := bs.take 4) (by rw [List.map_take]; exact HRW.out.take 4)
    rw [h4] at hbi
    have hcv := Lib.BytesIn.convert (P := Tryz.prog) (w := W) (p := some ⟨b, off, none⟩) (n := 4) (xs := bs.take 4) hbi h4 c 22 5 9 Tryz.underlying22 Tryz.underlying5 Tryz.underlying9
    have j1 : (4 : Int) ≤ (c : Int) := by omega
    clear hbi h4 hs
    by_cases hmg : magicB bs = false
    · have HE := Lib.hid (errS_syn hl124 hmg)
      have hb : ((strOfNums (bs.take 4)).toList == ([76, 84, 83, 49] : List UInt8)) = false := by have h := hmg; unfold magicB at h; rw [mgl] at h; exact h
      clear hmg
      go_wp2_with fail
      exact fin35 HRB.out BR.out G0.out (sumV_no HE.out (by decide)) HE.out (fun h => by omega) rfl rfl rfl
    · have hmg2 : magicB bs = true := by simpa using hmg
      have hE4 : strOfNums (bs.take 4) = (⟨#[76, 84, 83, 49]⟩ : ByteArray) := toList_inj (by have h := hmg2; unfold magicB at h; exact eq_of_beq h)
      rw [hE4] at hcv
      have HMG := Lib.hid hmg2
      clear hmg hmg2 hE4
      have j2 : ¬ (c = 4) := by omega
      go_upto_region 6 with fail
      obtain ⟨g, hg⟩ : ∃ g, g = W.heap.size := ⟨_, rfl⟩
      obtain ⟨W2, hW2⟩ : ∃ x, x = W.alloc (.cells #[.slice (some ⟨b, off + 4, none⟩) (bs.length - 4) (c - 4), .bool false] 126) := ⟨_, rfl⟩
      have C4 : Hid (CurS (· < w.heap.size) W2 g b bs 4) := Lib.hid (by
        rw [hW2, hg]
        refine ⟨off + 4, c - 4, Blk.new _ _ _, by omega, by omega, ?_⟩
        rw [List.map_drop]
        exact curDrop (HRW.out.alloc _) 4)
      have B2 : Hid (Blk W2 rb 74 #[.int .i64 0, .int .i64 0, .int .i64 0]) := Lib.hid (by rw [hW2]; exact BR.out.alloc _)
      have G2 : Hid (w.grownBy W2 none) := Lib.hid (by rw [hW2]; exact only_alloc G0.out _)
      have hg2 : g < W2.heap.size := by rw [hW2, hg]; simp
      have hrg : rb < g := by rw [hg]; exact hrW
      have hwg : w.heap.size ≤ g := by have := HRB.out; omega
      have HSg : Hid (∀ x, x < w.heap.size → x ≠ g) := Lib.hid (fun x h => by omega)
      rw [← hW2, ← hg]
      clear hW2 hg q0 q1 q2 z0 z1 z2 hcv
      have l4 := cutN_lt4 HI.out (a := 4) (by decide) (by omega)
      have l8 := cutN_lt8 HI.out (a := 8) (by decide) (by omega)
      have l16 := cutN_lt8 HI.out (a := 16) (by decide) (by omega)
      have HSV : Hid (errS bs = 0 → sumV bs = #[.int .i64 (cutN bs 4 4 : Nat), .int .i64 (wrap64 (cutN bs 8 8 : Nat)), .int .i64 (wrap64 (cutN bs 16 8 : Nat))]) := Lib.hid (fun h => by unfold sumV; rw [if_pos h, wrapE, wrapE])
      have KF := Lib.hid (fun (a k : Nat) (w' : World) (hC : CurS (· < w.heap.size) w' g b bs a) (h1 : a + k ≤ 124) (h2 : k ≤ 8) => fixed_at g b bs a k w' hC HSg.out HI.out (by omega) h1 h2)
      obtain ⟨n4, hn4⟩ : ∃ x, cutN bs 4 4 = x := ⟨_, rfl⟩
      obtain ⟨n8, hn8⟩ : ∃ x, cutN bs 8 8 = x := ⟨_, rfl⟩
      obtain ⟨n16, hn16⟩ : ∃ x, cutN bs 16 8 = x := ⟨_, rfl⟩
      rw [hn4, hn8, hn16] at HSV
      rw [hn4] at l4
      rw [hn8] at l8
      rw [hn16] at l16
      have HN4 := Lib.hid hn4
      have HN8 := Lib.hid hn8
      have HN16 := Lib.hid hn16
      clear hn4 hn8 hn16
      go_wp2_with (first
        | (go_at_call 68; refine (KF.out 16 8 _ C16.out (by decide) (by decide)).mono ?_; rintro e w5 ⟨rfl, hc5, hg5⟩; rw [HN16.out]; have C24 := Lib.hid hc5; have G5 := Lib.hid hg5; have hz5 := hg5.size; clear hc5 hg5)
        | (go_at_call 68; refine (KF.out 8 8 _ C8.out (by decide) (by decide)).mono ?_; rintro e w4 ⟨rfl, hc4, hg4⟩; rw [HN8.out]; have C16 := Lib.hid hc4; have G4 := Lib.hid hg4; have hz4 := hg4.size; clear hc4 hg4)
        | (go_at_call 68; refine (KF.out 4 4 _ C4.out (by decide) (by decide)).mono ?_; rintro e w3 ⟨rfl, hc3, hg3⟩; rw [HN4.out]; have C8 := Lib.hid hc3; have G3 := Lib.hid hg3; have hz3 := hg3.size; clear hc3 hg3))
      obtain ⟨sb, hsb⟩ : ∃ g, g = w5.heap.size := ⟨_, rfl⟩
      obtain ⟨WL, hWL⟩ : ∃ x, x = w5.alloc (.cells #[.int .i64 n4, .int .i64 (wrap64 n8), .int .i64 (wrap64 n16)] 74) := ⟨_, rfl⟩
      have G25 := Lib.hid (only_trans (only_trans G3.out G4.out) G5.out)
      have CL : Hid (CurS (· < w.heap.size) WL g b bs 24) := Lib.hid (by rw [hWL]; exact C24.out.grown (only_alloc (only_refl _ _) _))
      have BL : Hid (Blk WL rb 74 #[.int .i64 0, .int .i64 0, .int .i64 0]) := Lib.hid (by rw [hWL]; exact (B2.out.grown G25.out (fun e => by injection e; omega)).alloc _)
      have BS : Hid (Blk WL sb 74 #[.int .i64 n4, .int .i64 (wrap64 n8), .int .i64 (wrap64 n16)]) := Lib.hid (by rw [hWL, hsb]; exact Blk.new _ _ _)
      have GL : Hid (w.grownBy WL none) := Lib.hid (by rw [hWL]; exact only_alloc (only_fresh G2.out G25.out hwg) _)
      have hgL : g < WL.heap.size := by rw [hWL]; simp; omega
      have hsg : g < sb := by omega
      have hsL : sb < WL.heap.size := by rw [hWL]; simp; omega
      rw [← hWL, ← hsb]
      clear hWL hsb l4 l8 l16 C8 C16 C24 hz3 hz4 hz5 B2
      have HOL := Lib.hid (fun j (hj : j ≤ 12) => offH_le HI.out hl124 j hj)
      have HLL := Lib.hid (fun j (hj : j ≤ 12) => lenH_lt HI.out hj hl124)
      have HCC := Lib.hid (fun j (hj : j ≤ 12) => crcH_lt HI.out hj hl124)
      go_loopw [7, 8, 31] (fun vl vs vk wr => ∃ k : Nat, vk = .int .i64 k ∧ k ≤ 12 ∧ vs = .int .i64 (offH bs k : Nat) ∧ wr.ownsRow WL.heap.size 79 2 vl k (entL bs k) ∧ CurS (· < w.heap.size) wr g b bs (24 + 8 * k) ∧ WL.grownBy wr (some g)) (fun _ _ vk _ => 12 - (intOf vk).toNat)
      case atStart => exact ⟨0, rfl, by omega, rfl, World.ownsRow_nil _ _ _ _, CL.out, only_refl _ _⟩
      case round =>
        obtain ⟨k, rfl, hk, rfl, hO, hC, hG⟩ := hrel
        have OO := Lib.hid hO
        have CO := Lib.hid hC
        have GO := Lib.hid hG
        have hzr := hG.size
        obtain ⟨vO, hvO⟩ : ∃ v, v = u7 := ⟨_, rfl⟩
        rw [← hvO] at OO ⊢
        clear hO hC hG hvO
        by_cases hlt : k < 12
        · have i3 : (k : Int) < 12 := by omega
          have K1 := Lib.hid (KF.out (24 + 8 * k) 4 _ CO.out (by omega) (by decide))
          have HF : Hid (offH bs (k + 1) = offH bs k + lenH bs (k + 1)) := Lib.hid rfl
          have HL1 : Hid (cutN bs (24 + 8 * k) 4 = lenH bs (k + 1)) := Lib.hid (by unfold lenH; rw [show 16 + 8 * (k + 1) = 24 + 8 * k by omega])
          have HC1 : Hid (cutN bs (24 + 8 * k + 4) 4 = crcH bs (k + 1)) := Lib.hid (by unfold crcH; rw [show 20 + 8 * (k + 1) = 24 + 8 * k + 4 by omega])
          have HEL : Hid (entL bs (k + 1) = entL bs k ++ #[Value.int .i64 (lenH bs (k + 1) : Nat), Value.int .u32 (crcH bs (k + 1) : Nat)].toList) := Lib.hid rfl
          have hon := HOL.out k hk
          have hln := HLL.out (k + 1) (by omega)
          have hcn := HCC.out (k + 1) (by omega)
          obtain ⟨on, hon2⟩ : ∃ x, offH bs k = x := ⟨_, rfl⟩
          obtain ⟨ln, hln2⟩ : ∃ x, lenH bs (k + 1) = x := ⟨_, rfl⟩
          obtain ⟨cn, hcn2⟩ : ∃ x, crcH bs (k + 1) = x := ⟨_, rfl⟩
          rw [hon2, hln2] at HF
          rw [hln2] at HL1 hln
          rw [hcn2] at HC1 hcn
          rw [hln2, hcn2] at HEL
          rw [hon2] at hon ⊢
          clear hon2 hln2 hcn2
          go_wp2_with (first
            | (at_builtin; go_must (refine wpList_append1 rfl _ _ 75 rfl WL.heap.size Tryz.underlying75 entInfo rfl (by decide) (v := vO) (by rfl) (w0 := w4.alloc (.cells #[.int .i64 ln, .int .u32 cn] 79)) (cs := #[.int .i64 ln, .int .u32 cn]) ((own_only (own_only OO.out H3.out hgL) H4.out hgL).alloc _) (by rw [wsz]; rfl) rfl (by simp [Value.oneCell']) (by decide) (by omega) (by simp; omega) ?_); intro v7 w7 hown7 hg7 hob7)
            | (go_at_call 68; refine (KF.out (24 + 8 * k + 4) 4 _ C28.out (by omega) (by decide)).mono ?_; rintro e w4 ⟨rfl, hc4, hg4⟩; rw [HC1.out]; have C32 := Lib.hid hc4; have H4 := Lib.hid hg4; have hz4 := hg4.size; clear hc4 hg4)
            | (go_at_call 68; refine K1.out.mono ?_; rintro e w3 ⟨rfl, hc3, hg3⟩; rw [HL1.out]; have C28 := Lib.hid hc3; have H3 := Lib.hid hg3; have hz3 := hg3.size; clear hc3 hg3))
          have OB := Lib.hid ((own_only (own_only OO.out H3.out hgL) H4.out hgL).alloc (.cells #[.int .i64 ln, .int .u32 cn] 79))
          have O7 : Hid (w7.ownsRow WL.heap.size 79 2 v7 (k + 1) (entL bs (k + 1))) := Lib.hid (by rw [HEL.out]; exact hown7)
          have C7 : Hid (CurS (· < w.heap.size) w7 g b bs (24 + 8 * (k + 1))) := Lib.hid (by
            rw [show 24 + 8 * (k + 1) = 24 + 8 * k + 4 + 4 by omega]
            exact (C32.out.grown (only_alloc (only_refl _ _) _)).own hg7 OB.out hgL (by omega))
          have G7 : Hid (WL.grownBy w7 (some g)) := Lib.hid (only_own (only_alloc (only_trans (only_trans GO.out H3.out) H4.out) _) hg7 OB.out (Nat.le_refl _))
          clear hown7 hg7 hob7 OB
          go_wp2_with fail
          go_roundw
          case rel => exact ⟨k + 1, by go_num, by omega, by rw [HF.out]; go_num, O7.out, C7.out, G7.out⟩
          case measure => simp [intOf]; omega
        · have i3 : ¬ (k : Int) < 12 := by omega
          obtain rfl : k = 12 := by omega
          have h120 : 24 + 8 * 12 = 120 := rfl
          obtain ⟨gc, hgc⟩ : ∃ g, g = cutN bs 120 4 := ⟨_, rfl⟩
          obtain ⟨cc, hcc⟩ : ∃ g, g = crcN (bs.take 120) := ⟨_, rfl⟩
          have hg4 : gc < 4294967296 := by rw [hgc]; exact cutN_lt4 HI.out (by omega) (by omega)
          have hc4 : cc < 4294967296 := by rw [hcc]; exact crcN_lt _
          have l120 : (bs.take 120).length = 120 := by rw [List.length_take]; omega
          have GW := Lib.hid (only_fresh GL.out GO.out hwg)
          have KC := Lib.hid (fun (w' : World) (hg' : wr.grownBy w' (some g)) => scrc_any (S := (· < w.heap.size)) (some ⟨b, off, none⟩) (bs.take 120) c w' (by rw [List.map_take]; exact (HR.out.grown (only_fresh GW.out hg' hwg) (by simp)).take 120) (by rw [l120]; decide))
          rw [l120, ← hcc] at KC
          have K120 := Lib.hid (fun (w' : World) (hC : CurS (· < w.heap.size) w' g b bs 120) => KF.out 120 4 w' hC (by decide) (by decide))
          have HGC : Hid (cutN bs 120 4 = gc) := Lib.hid hgc.symm
          have HCN := Lib.hid hcc
          have w1 : IntKind.u32.wrap (gc : Int) = (gc : Int) := IntWalk.u32_in _ (by omega)
          have W1 := Lib.hid w1
          obtain ⟨RB, hRB⟩ : ∃ x : Bool, x = ((gc : Int) != (cc : Int)) := ⟨_, rfl⟩
          have HQ : Hid (((gc : Int) != (cc : Int)) = RB) := Lib.hid hRB.symm
          have HT : Hid (RB = true → errS bs = 15) := Lib.hid (fun h => errS_crc hl124 HMG.out (by
            rw [← hgc, ← hcc]; intro e; rw [e] at hRB; simp at hRB; rw [hRB] at h; cases h))
          have HF : Hid (RB = false → errS bs = if bs.length ≠ offH bs 12 then 14 else 0) := Lib.hid (fun h => errS_end hl124 HMG.out (by
            rw [← hgc, ← hcc]; rw [h] at hRB; have := hRB.symm; rw [bne_eq_false_iff_eq] at this; omega))
          have n1 : (120 : Int) ≤ (c : Int) := by omega
          have n2 : c ≠ 120 := by omega
          have N1 := Lib.hid n1
          have N2 := Lib.hid n2
          clear hgc hcc hRB w1 n1 n2 l120 hg4 hc4
          go_upto_region 15 with fail
          go_cut [47] (fun v wx => v = .bool RB ∧ wr.grownBy wx (some g))
          case first =>
            refine wp_region_gen 7 (JC [some (.int .u64 (gc : Nat)), some (.int .u32 (gc : Int)), some (.slice (some ⟨b, off, none⟩) bs.length c), some (.slice (some ⟨b, off, none⟩) 120 c), some (.int .u32 (cc : Nat)), some (.bool RB), some (.bool RB)] (fun D u wx => wr.grownBy wx (some g) ∧ (D 0 = false → CurS (· < w.heap.size) wx g b bs 120))) (by kernel_rfl) (by kernel_rfl) ?_ ?_ ?_
            · intro u
              exact ⟨(fun j c _ h => by cases h), only_drew (only_refl _ _), fun _ => CO.out⟩
            · intro AA hA
              have hasz : AA.tmps.size = 63 := by rw [hA]; kernel_rfl
              have ea0 : AA.eval (.tmp 0) = .slice (some ⟨b, off, none⟩) bs.length c := by rw [hA]; kernel_rfl
              have ea5 : AA.eval (.tmp 5) = .pointer (some ⟨g, 0, none⟩) := by rw [hA]; kernel_rfl
              clear hA
              simp only [List.take_succ_cons, List.take_zero]
              refine .cons ?_ (.cons ?_ (.cons ?_ (.cons ?_ (.cons ?_ (.cons ?_ (.cons ?_ (.nil)))))))
              · refine gd_call (by kernel_rfl) (Want.none_ rfl) 68 (fun D u ρ wx kn hD => ?_)
                have e0 := kn.own 5 (c := .pointer (some ⟨g, 0, none⟩)) (by kernel_rfl) ea5
                refine ⟨#[.pointer (some ⟨g, 0, none⟩), .int .i64 4], ?_, (K120.out wx (kn.ext.2 hD)).mono ?_⟩
                · simp only [execOp, resolve, Deferred.ofValue, List.map_toArray, List.map_cons, List.map_nil, e0, kn.rho.con, kn.rho.fn]
                  simp [go_sem]
                · rintro e w' ⟨rfl, hc, hg'⟩
                  exact ⟨_, rfl, (fun c h => by injection h with h; injection h with h; rw [← h, HGC.out]), only_trans kn.ext.1 hg', fun h => by simp [updB] at h⟩
              · exact gd_gen (by kernel_rfl) (Want.none_ rfl) rfl (fun D u w v h => by simpa [updB, upd] using h) (fun D u ρ w kn => by
                  have e0 := kn.con 0 48 (c := .int .u64 (gc : Nat)) (by kernel_rfl) (by omega) (by kernel_rfl) rfl
                  simp [execOp, kn.rho.con, e0, go_sem, W1.out])
              · exact gd_gen (by kernel_rfl) (Want.none_ rfl) rfl (fun D u w v h => by simpa [updB, upd] using h) (fun D u ρ w kn => by
                  have e0 := kn.own 0 (c := .slice (some ⟨b, off, none⟩) bs.length c) (by kernel_rfl) ea0
                  simp [execOp, kn.rho.con, e0, go_sem])
              · exact gd_gen (by kernel_rfl) (Want.none_ rfl) rfl (fun D u w v h => by simpa [updB, upd] using h) (fun D u ρ w kn => by
                  have e0 := kn.con 2 50 (c := .slice (some ⟨b, off, none⟩) bs.length c) (by kernel_rfl) (by omega) (by kernel_rfl) rfl
                  simp [execOp, kn.rho.con, e0, go_sem, N1.out, N2.out])
              · refine gd_call (by kernel_rfl) (Want.none_ rfl) 31 (fun D u ρ wx kn hD => ?_)
                have e0 := kn.con 3 51 (c := .slice (some ⟨b, off, none⟩) 120 c) (by kernel_rfl) (by omega) (by kernel_rfl) rfl
                refine ⟨#[.slice (some ⟨b, off, none⟩) 120 c], ?_, (KC.out wx kn.ext.1).mono ?_⟩
                · simp only [execOp, resolve, Deferred.ofValue, List.map_toArray, List.map_cons, List.map_nil, e0, kn.rho.con, kn.rho.fn]
                  simp [go_sem]
                · rintro e w' ⟨rfl, rfl⟩
                  exact ⟨_, rfl, (fun c h => by injection h with h; injection h), by simpa [updB] using kn.ext⟩
              · exact gd_gen (by kernel_rfl) (Want.none_ rfl) rfl (fun D u w v h => by simpa [updB, upd] using h) (fun D u ρ w kn => by
                  have e0 := kn.con 1 49 (c := .int .u32 (gc : Int)) (by kernel_rfl) (by omega) (by kernel_rfl) rfl
                  have e1 := kn.con 4 52 (c := .int .u32 (cc : Nat)) (by kernel_rfl) (by omega) (by kernel_rfl) rfl
                  simp [execOp, kn.rho.con, e0, e1, go_sem, HQ.out])
              · exact gd_gen (by kernel_rfl) (Want.none_ rfl) rfl (fun D u w v h => by simpa [updB, upd] using h) (fun D u ρ w kn => by
                  have e0 := kn.con 5 53 (c := .bool RB) (by kernel_rfl) (by omega) (by kernel_rfl) rfl
                  simp [execOp, kn.rho.con, e0, go_sem])
            · intro D u w9 hJ hD
              have hg9 : wr.grownBy w9 (some g) := hJ.2.1
              simp only [List.take_succ_cons, List.take_zero, List.drop_succ_cons, List.drop_zero, putAll]
              rw [show u 6 = .bool RB from hJ.1 6 _ rfl (hD 6 (by decide))]
              clear hJ hD
              go_simp
              go_wp2_with fail
              go_meet
              exact ⟨rfl, hg9⟩
          case rest =>
            obtain ⟨rfl, hg9⟩ := hcut
            have GL9 := Lib.hid (only_trans GO.out hg9)
            have G9 := Lib.hid (only_fresh GL.out GL9.out hwg)
            have B9 := Lib.hid (BL.out.grown GL9.out (fun e => by injection e; omega))
            have S9 := Lib.hid (BS.out.grown GL9.out (fun e => by injection e; omega))
            have O9 := Lib.hid (own_only OO.out hg9 hgL)
            clear hg9
            have hrW := B9.out.lt
            have q0 := B9.out.cell 0; have q1 := B9.out.cell 1; have q2 := B9.out.cell 2
            have z0 := B9.out.frozen 0; have z1 := B9.out.frozen 1; have z2 := B9.out.frozen 2
            have s0 := S9.out.cell 0; have s1 := S9.out.cell 1; have s2 := S9.out.cell 2
            simp at q0 q1 q2 s0 s1 s2
            obtain ⟨AO, cO, rfl, h12, -, -, hro⟩ := Rd.of_own O9.out (by decide)
            have RO := Lib.hid hro
            clear hro
            cases hRB : RB with
            | true =>
              have HE := Lib.hid (HT.out hRB)
              clear hRB
              go_wp2_with fail
              refine fin35 (A := none) (n := 0) (c := 0) (E := 15) HRB.out B9.out G9.out (sumV_no HE.out (by decide)) HE.out (fun h => by omega) ?_ ?_ ?_
              all_goals rfl
            | false =>
              have HE := Lib.hid (HF.out hRB)
              have ho12 := HOL.out 12 (by decide)
              clear hRB
              obtain ⟨on, hon⟩ : ∃ x, x = offH bs 12 := ⟨_, rfl⟩
              rw [← hon] at HE ho12 ⊢
              clear hon
              by_cases hle : bs.length = on
              · have HE0 : Hid (errS bs = 0) := Lib.hid (by rw [HE.out, if_neg (by omega)])
                have e2 : ((on : Int) == (bs.length : Int)) = true := by simp [hle]
                have HV := Lib.hid (HSV.out HE0.out)
                clear hle
                go_wp2_with fail
                refine fin35 (A := AO) (n := 12) (c := cO) (E := 0) HRB.out B9.out G9.out HV.out HE0.out (fun _ => ⟨rfl, h12, RO.out.mono (fun x hx _ => by omega)⟩) ?_ ?_ ?_
                all_goals rfl
              · have HE0 : Hid (errS bs = 14) := Lib.hid (by rw [HE.out, if_pos hle])
                have e2 : ((on : Int) == (bs.length : Int)) = false := by rw [beq_eq_false_iff_ne]; omega
                clear hle
                go_wp2_with fail
                refine fin35 (A := none) (n := 0) (c := 0) (E := 14) HRB.out B9.out G9.out (sumV_no HE0.out (by decide)) HE0.out (fun h => by omega) ?_ ?_ ?_
                all_goals rfl
end Go.Proofs.YtpaiideboodaeaaGreatDoor

namespace Go.Proofs.YtpaiideboodaeaaGreatDoor
open Go.RowKit
set_option linter.unusedVariables false
set_option linter.unusedSimpArgs false

theorem fin16 {w W : World} {rb : Nat} {tm : Array Value} {x0 x1 x2 V0 V1 V2 : Value} {E : Nat} {bs : List Int} (hrb : rb = w.heap.size) (hB : Blk W rb 74 #[x0, x1, x2]) (hG : w.grownBy W none) (hV : sumV bs = #[V0, V1, V2]) (hE : errS bs = E) (h2 : tm[2]?.getD undef = .pointer (some ⟨rb, 0, none⟩)) (h3 : tm[3]?.getD undef = .int .i64 E) :
    bodyPost Tryz.prog Tryz.f39 (SumP w bs) .ret ⟨tm, []⟩ (((W.setCell ⟨rb, 0, none⟩ V0).setCell ⟨rb, 1, none⟩ V1).setCell ⟨rb, 2, none⟩ V2) := by
  have hB2 := ((hB.set_ 0 V0).set_ 1 V1).set_ 2 V2
  have q0 := hB2.cell 0; have q1 := hB2.cell 1; have q2 := hB2.cell 2
  simp at q0 q1 q2
  refine bodyPost_ret (v := .tuple #[.agg #[V0, V1, V2], .int .i64 (E : Nat)]) ?_ rfl ⟨by rw [hV, hE], only_setN (only_setN (only_setN hG (by simp [hrb]) _) (by simp [hrb]) _) (by simp [hrb]) _⟩
  simp [results, Tryz.results39, go_sem, h2, h3, q0, q1, q2]
theorem sumV_three (bs : List Int) : ∃ x y z : Int, sumV bs = #[.int .i64 x, .int .i64 y, .int .i64 z] := by
  unfold sumV
  split
  · exact ⟨_, _, _, rfl⟩
  · exact ⟨_, _, _, rfl⟩
set_option maxHeartbeats 4000000 in
set_option maxRecDepth 100000 in
theorem ssummary_any {S : Nat → Prop} (A : Option Addr) (bs : List Int) (c : Nat) (w : World) (hr : Rd S w A (bs.map (.int .u8))) (hi : InH bs) (hl : bs.length ≤ 10000000) (hc : bs.length ≤ c) (hm : c ≤ 9223372036854775807) :
    Calls Tryz.prog 39 #[.slice A bs.length c] w (SumP w bs) := by
  have HR := Lib.hid hr
  have HI := Lib.hid hi
  clear hr hi
  obtain ⟨x, y, z, hV⟩ := sumV_three bs
  have HV := Lib.hid hV
  clear hV
  go_enter Tryz.func39, Tryz.ntmps39
  go_upto_region 1 with fail
  obtain ⟨rb, hrb⟩ : ∃ b, b = w.heap.size := ⟨_, rfl⟩
  obtain ⟨W, hW⟩ : ∃ W, W = w.alloc (.cells #[.int .i64 0, .int .i64 0, .int .i64 0] 74) := ⟨_, rfl⟩
  have BR : Hid (Blk W rb 74 #[.int .i64 0, .int .i64 0, .int .i64 0]) := Lib.hid (by rw [hW, hrb]; exact Blk.new _ _ _)
  have G0 : Hid (w.grownBy W none) := Lib.hid (by rw [hW]; exact only_alloc (only_refl _ _) _)
  have HRB := Lib.hid hrb
  have hrW := BR.out.lt
  rw [← hW, ← hrb]
  clear hW hrb
  have KP := Lib.hid (parse_any A bs c W (HR.out.grown G0.out (by simp)) HI.out hl hc hm)
  obtain ⟨E, hE⟩ : ∃ E, errS bs = E := ⟨_, rfl⟩
  have HE := Lib.hid hE
  clear hE
  go_upto_region 2 with (go_at_call 33; refine KP.out.mono ?_; rintro e w2 ⟨A2, n2, c2, rfl, -, hg2⟩; rw [HV.out, HE.out]; have G2 := Lib.hid hg2; clear hg2)
  have B2 := Lib.hid ((BR.out.grown G2.out (by simp)).alloc (.cells #[.int .i64 x, .int .i64 y, .int .i64 z] 74))
  have S2 : Hid (Blk (w2.alloc (.cells #[.int .i64 x, .int .i64 y, .int .i64 z] 74)) w2.heap.size 74 #[.int .i64 x, .int .i64 y, .int .i64 z]) := Lib.hid (Blk.new _ _ _)
  have G3 := Lib.hid (only_alloc (only_trans G0.out G2.out) (.cells #[.int .i64 x, .int .i64 y, .int .i64 z] 74))
  obtain ⟨W3, hW3⟩ : ∃ W, W = w2.alloc (.cells #[.int .i64 x, .int .i64 y, .int .i64 z] 74) := ⟨_, rfl⟩
  obtain ⟨sb, hsb⟩ : ∃ b, b = w2.heap.size := ⟨_, rfl⟩
  rw [← hW3] at B2 S2 G3
  rw [← hsb] at S2
  rw [← hW3, ← hsb]
  clear hW3 hsb
  have hrW3 := B2.out.lt
  have q0 := B2.out.cell 0; have q1 := B2.out.cell 1; have q2 := B2.out.cell 2
  have z0 := B2.out.frozen 0; have z1 := B2.out.frozen 1; have z2 := B2.out.frozen 2
  have s0 := S2.out.cell 0; have s1 := S2.out.cell 1; have s2 := S2.out.cell 2
  simp at q0 q1 q2 s0 s1 s2
  go_wp2_with fail
  refine fin16 (E := E) HRB.out B2.out G3.out HV.out HE.out ?_ ?_
  all_goals rfl
end Go.Proofs.YtpaiideboodaeaaGreatDoor

namespace Go.Proofs.YtpaiideboodaeaaGreatDoor
open Go.RowKit
set_option linter.unusedVariables false
set_option linter.unusedSimpArgs false

theorem fin21 {w w3 w7 : World} {bs : List Int} {k n : Nat} {A : Option Addr} {c : Nat} (hE : secE bs k = 0) (hX : secY bs k = secH bs k) (hn : n = (secH bs k).length) (h3 : w.grownBy w3 none) (h7 : w3.grownBy w7 none) (hr : Rd (w3.heap.size ≤ ·) w7 A ((secH bs k).map (.int .u8))) : SecP w bs k (.returned (.tuple #[.slice A n c, .int .i64 0])) w7 :=
  ⟨A, c, by rw [hX, hE, hn]; rfl, by rw [hX]; exact hr.mono (fun b hb _ => Nat.le_trans h3.size hb), only_trans h3 h7⟩
set_option maxHeartbeats 4000000 in
set_option maxRecDepth 100000 in
theorem ssection_any {S : Nat → Prop} (A : Option Addr) (bs : List Int) (c : Nat) (kind : Int) (w : World) (hr : Rd S w A (bs.map (.int .u8))) (hi : InH bs) (hl : bs.length ≤ 10000000) (hc : bs.length ≤ c) (hm : c ≤ 9223372036854775807) :
    Calls Tryz.prog 10 #[.slice A bs.length c, .int .i64 kind] w (SecP w bs kind) := by
  have HR := Lib.hid hr
  have HI := Lib.hid hi
  clear hr hi
  go_enter Tryz.func10, Tryz.ntmps10
  by_cases h1 : kind < 1
  · have i1 : decide (kind < 1) = true := by simp [h1]
    have HE := Lib.hid (secE_out (bs := bs) (.inl h1))
    clear h1
    go_wp2_with fail
    go_ret2
    exact SecP.no HE.out (by decide) (only_refl _ _)
  · by_cases h2 : 12 < kind
    · have i1 : decide (kind < 1) = false := by simp; omega
      have i2 : decide (12 < kind) = true := by simp [h2]
      have HE := Lib.hid (secE_out (bs := bs) (.inr h2))
      clear h1 h2
      go_wp2_with fail
      go_ret2
      exact SecP.no HE.out (by decide) (only_refl _ _)
    · have i1 : decide (kind < 1) = false := by simp; omega
      have i2 : decide (12 < kind) = false := by simp; omega
      obtain ⟨k, rfl⟩ : ∃ k : Nat, kind = k := ⟨kind.toNat, by omega⟩
      have hk1 : 1 ≤ k := by omega
      have hk2 : k ≤ 12 := by omega
      clear h1 h2
      have KP := Lib.hid (parse_any A bs c w HR.out HI.out hl hc hm)
      obtain ⟨x, y, z, hV⟩ := sumV_three bs
      have HV := Lib.hid hV
      clear hV
      obtain ⟨E, hE⟩ : ∃ E, errS bs = E := ⟨_, rfl⟩
      have hE15 := errS_le bs
      rw [hE] at hE15
      by_cases he : E = 0
      · subst he
        have HE0 := Lib.hid hE
        clear hE hE15
        obtain ⟨b, off, rfl, hSb, hbw, -⟩ := HR.out (by rw [List.length_map]; have := (errS_ok HE0.out).1; omega)
        have hl124 : 124 ≤ bs.length := (errS_ok HE0.out).1
        have HIN := Lib.hid (fun j (h1 : 1 ≤ j) (h2 : j ≤ 12) => sec_in HE0.out h1 h2)
        have HSL := Lib.hid (sec_len HE0.out hk1 hk2)
        have HOL := Lib.hid (fun j (hj : j ≤ 12) => offH_le HI.out hl124 j hj)
        have HLL := Lib.hid (fun j (hj : j ≤ 12) => lenH_lt HI.out hj hl124)
        have HCC := Lib.hid (fun j (hj : j ≤ 12) => crcH_lt HI.out hj hl124)
        go_upto_region 7 with (go_at_call 33; refine KP.out.mono ?_; rintro e w2 ⟨A2, n2, c2, rfl, hd2, hg2⟩; obtain ⟨rfl, hc2, hr2⟩ := hd2 HE0.out; rw [HV.out, HE0.out]; have G2 := Lib.hid (only_alloc hg2 (.cells #[.int .i64 x, .int .i64 y, .int .i64 z] 74)); have R2 := Lib.hid (hr2.alloc (.cells #[.int .i64 x, .int .i64 y, .int .i64 z] 74)); clear hd2 hg2 hr2)
        obtain ⟨W, hW⟩ : ∃ W, W = w2.alloc (.cells #[.int .i64 x, .int .i64 y, .int .i64 z] 74) := ⟨_, rfl⟩
        rw [← hW] at G2 R2 ⊢
        clear hW
        obtain ⟨eb, eo, rfl, heb, hebW, -⟩ := R2.out (by rw [entL_len]; decide)
        have HAT : Hid (∀ w', W.grownBy w' none → ∀ j, j < 12 → w'.cell? ⟨eb, eo + 2 * j, none⟩ = some (.int .i64 (lenH bs (j + 1) : Nat)) ∧ w'.cell? ⟨eb, eo + (2 * j + 1), none⟩ = some (.int .u32 (crcH bs (j + 1) : Nat))) := Lib.hid (fun w' hg j hj => by
          obtain ⟨h1, h2⟩ := entL_at bs 12 j hj
          obtain ⟨b', o', e, -, -, hcell⟩ := (R2.out.grown hg (by simp)) (by rw [entL_len]; decide)
          injection e with e; injection e with e1 e2
          subst e1 e2
          exact ⟨hcell _ _ h1, hcell _ _ h2⟩)
        have i5 : (k : Int) - 1 = ((k - 1 : Nat) : Int) := by omega
        obtain ⟨k1, hk1e⟩ : ∃ x, x = k - 1 := ⟨_, rfl⟩
        have HKE : Hid (k1 + 1 = k) := Lib.hid (by omega)
        rw [← hk1e] at i5
        have i6 : IntKind.i64.wrap ((k : Int) - 1) = (k1 : Int) := by rw [i5]; exact IntWalk.i64_in _ (by omega)
        have i7 : (k1 : Int) ≤ (c2 : Int) := by omega
        have i8 : (0 : Int) ≤ (k1 : Int) := by omega
        have hk1l : k1 < 12 := by omega
        go_wp2_with fail
        rw [← hk1e]
        clear hk1e
        go_loopw [9, 33] (fun va vi wr => ∃ j : Nat, vi = .int .i64 j ∧ j ≤ k1 ∧ va = .int .i64 (offH bs j : Nat) ∧ W.grownBy wr none) (fun _ vi _ => 12 - (intOf vi).toNat)
        case atStart => exact ⟨0, rfl, by omega, rfl, only_refl _ _⟩
        case round =>
          obtain ⟨j, rfl, hj, rfl, hG⟩ := hrel
          have GO := Lib.hid hG
          by_cases hlt : j < k1
          · have i9 : (j : Int) < (k1 : Int) := by omega
            obtain ⟨c0, c1⟩ := HAT.out wr hG j (by omega)
            have HF : Hid (offH bs (j + 1) = offH bs j + lenH bs (j + 1)) := Lib.hid rfl
            have hon := HOL.out j (by omega)
            have hln := HLL.out (j + 1) (by omega)
            obtain ⟨on, hon2⟩ : ∃ x, offH bs j = x := ⟨_, rfl⟩
            obtain ⟨ln, hln2⟩ : ∃ x, lenH bs (j + 1) = x := ⟨_, rfl⟩
            obtain ⟨cn, hcn2⟩ : ∃ x, crcH bs (j + 1) = x := ⟨_, rfl⟩
            rw [hon2, hln2] at HF
            rw [hln2] at hln c0
            rw [hcn2] at c1
            rw [hon2] at hon ⊢
            rw [show eo + 2 * j = eo + j * 2 by omega] at c0
            rw [show eo + (2 * j + 1) = eo + j * 2 + 1 by omega] at c1
            clear hon2 hln2 hcn2 hG
            go_wp2_with fail
            go_roundw
            case rel => exact ⟨j + 1, by go_num, by omega, by rw [HF.out]; go_num, only_alloc GO.out _⟩
            case measure => simp [intOf]; omega
          · have i9 : ¬ (j : Int) < (k1 : Int) := by omega
            obtain rfl : j = k1 := by omega
            obtain ⟨c0, c1⟩ := HAT.out wr hG j (by omega)
            have GW := Lib.hid (only_trans G2.out hG)
            have hin := HIN.out (j + 1) (by omega) (by omega)
            have hcn := HCC.out (j + 1) (by omega)
            rw [Nat.add_sub_cancel] at hin
            obtain rfl := HKE.out
            have HRA : Hid (∀ w', w.grownBy w' none → Rd S w' (some ⟨b, off + offH bs j, none⟩) ((secH bs (j + 1)).map (.int .u8))) := Lib.hid (fun w' hg => sec_rd (c := c) (HR.out.grown hg (by simp)) (j + 1))
            have HRZ : Hid (∀ w' A, c = offH bs j → Rd S w' A ((secH bs (j + 1)).map (.int .u8))) := Lib.hid (fun w' A h => sec_rd0 (by rw [Nat.add_sub_cancel]; omega))
            have HRT : Hid (rightH bs (j + 1) = (crcH bs (j + 1) == crcN (secH bs (j + 1)))) := Lib.hid rfl
            have hcc : crcN (secH bs (j + 1)) < 4294967296 := crcN_lt _
            have hsl : (secH bs (j + 1)).length ≤ 10000000 := by rw [HSL.out]; omega
            have HSC := Lib.hid (fun (A : Option Addr) (c' : Nat) (w' : World) (h : Rd S w' A ((secH bs (j + 1)).map (.int .u8))) => scrc_any A (secH bs (j + 1)) c' w' h hsl)
            have KCL := Lib.hid (fun (a : Addr) (c' : Nat) (w' : World) (h : Rd S w' (some a) ((secH bs (j + 1)).map (.int .u8))) => cloneBy_any (some a) (secH bs (j + 1)).length c' ((secH bs (j + 1)).map (.int .u8)) w' h (by rw [List.length_map, Nat.mul_one]) hsl (byte_ones _) (fun e => by cases e))
            rw [HSL.out] at HSC KCL
            have hlE := HSL.out
            obtain ⟨on, hon2⟩ : ∃ x, offH bs j = x := ⟨_, rfl⟩
            obtain ⟨ln, hln2⟩ : ∃ x, lenH bs (j + 1) = x := ⟨_, rfl⟩
            obtain ⟨cn, hcn2⟩ : ∃ x, crcH bs (j + 1) = x := ⟨_, rfl⟩
            obtain ⟨cc, hcc2⟩ : ∃ x, crcN (secH bs (j + 1)) = x := ⟨_, rfl⟩
            rw [hon2] at hin HRA HRZ ⊢
            rw [hln2] at hin c0 HSC KCL hlE
            rw [hcn2] at c1 hcn HRT
            rw [hcc2] at hcc HRT HSC
            rw [show eo + 2 * j = eo + j * 2 by omega] at c0
            rw [show eo + (2 * j + 1) = eo + j * 2 + 1 by omega] at c1
            have HLE := Lib.hid hlE
            clear hon2 hln2 hcn2 hcc2 hG hsl hlE
            have n1 : (on : Int) ≤ (on : Int) + (ln : Int) := by omega
            have n2 : (on : Int) + (ln : Int) ≤ (c : Int) := by omega
            go_upto_region 13 with fail
            obtain ⟨SA, hSA⟩ : ∃ a : Addr, (if c = on then some (⟨b, off, none⟩ : Addr) else some ⟨b, off + on, none⟩) = some a := by
              by_cases h : c = on
              · exact ⟨_, by rw [if_pos h]⟩
              · exact ⟨_, by rw [if_neg h]⟩
            have HSA : Hid (∀ w', w.grownBy w' none → Rd S w' (some SA) ((secH bs (j + 1)).map (.int .u8))) := Lib.hid (fun w' hg => by
              rw [← hSA]
              split
              · exact HRZ.out w' _ (by assumption)
              · exact HRA.out w' hg)
            rw [hSA, show on + ln - on = ln by omega]
            clear hSA n1 n2 i5 i7 i8 i1 i2
            have l12 : (j : Int) < 12 := by omega
            have i6b : IntKind.i64.wrap ((j : Int) + 1 - 1) = (j : Int) := by rw [show (j : Int) + 1 - 1 = j by omega]; exact IntWalk.i64_in _ (by omega)
            by_cases heq : cc = cn
            · have HE : Hid (secE bs ((j + 1 : Nat) : Int) = 0) := Lib.hid (by rw [secE_ok hk1 hk2 HE0.out, HRT.out, if_pos (by rw [heq, beq_self_eq_true])])
              have HX := Lib.hid (secY_yes HE.out)
              have e1 : ((cc : Int) == (cn : Int)) = true := by simp [heq]
              clear heq
              go_quiet (first | (go_at_call 31; exact Calls.quiet_of_same (HSC.out _ _ _ (HSA.out _ (only_drewN GW.out _)))))
              go_wp2_with (go_at_call 34; refine (KCL.out SA _ _ (HSA.out _ (only_drewN GW.out _))).mono ?_; rintro e w7 ⟨A7, c7, rfl, hown7, hg7⟩; obtain ⟨A8, c8, hv8, -, -, -, hr7⟩ := Rd.of_own hown7 (by decide); injection hv8 with hA8 hn8 hc8; rw [← hA8] at hr7; have R7 := Lib.hid hr7; have G7 := Lib.hid hg7; clear hown7 hg7 hr7 hA8 hn8 hc8)
              go_ret2
              exact fin21 HE.out HX.out HLE.out.symm (only_drewN GW.out _) G7.out R7.out
            · have HE : Hid (secE bs ((j + 1 : Nat) : Int) = 15) := Lib.hid (by rw [secE_ok hk1 hk2 HE0.out, HRT.out, if_neg (by rw [beq_iff_eq]; omega)])
              have e1 : ((cc : Int) == (cn : Int)) = false := by rw [beq_eq_false_iff_ne]; omega
              clear heq
              go_quiet (first | (go_at_call 31; exact Calls.quiet_of_same (HSC.out _ _ _ (HSA.out _ (only_drewN GW.out _)))))
              go_wp2_with fail
              go_ret2
              exact SecP.no HE.out (by decide) (only_drewN GW.out _)
      · have HE := Lib.hid (secE_err (bs := bs) (kind := (k : Int)) (by omega) (by omega) hE he)
        have hne : ((E : Int) == 0) = false := by rw [beq_eq_false_iff_ne]; omega
        have HE1 := Lib.hid hE
        have HN := Lib.hid he
        clear hE he
        go_wp2_with (go_at_call 33; refine KP.out.mono ?_; rintro e w2 ⟨A2, n2, c2, rfl, -, hg2⟩; rw [HV.out, HE1.out])
        go_ret2
        exact SecP.no HE.out HN.out (only_alloc (by assumption) _)
end Go.Proofs.YtpaiideboodaeaaGreatDoor

namespace Go.Proofs.YtpaiideboodaeaaGreatDoor
open Go.RowKit
set_option linter.unusedVariables false
set_option linter.unusedSimpArgs false

set_option maxHeartbeats 4000000 in
set_option maxRecDepth 100000 in
theorem sdamaged_any {S : Nat → Prop} (A : Option Addr) (bs : List Int) (c : Nat) (w : World) (hr : Rd S w A (bs.map (.int .u8))) (hi : InH bs) (hl : bs.length ≤ 10000000) (hc : bs.length ≤ c) (hm : c ≤ 9223372036854775807) :
    Calls Tryz.prog 15 #[.slice A bs.length c] w (DamP w bs) := by
  have HR := Lib.hid hr
  have HI := Lib.hid hi
  clear hr hi
  go_enter Tryz.func15, Tryz.ntmps15
  have KS := Lib.hid (ssummary_any A bs c w HR.out HI.out hl hc hm)
  obtain ⟨E, hE⟩ : ∃ E, E = errS bs := ⟨_, rfl⟩
  have hE15 := errS_le bs
  rw [← hE] at hE15
  by_cases he : E = 0
  · subst he
    have HE0 := Lib.hid hE.symm
    clear hE hE15
    obtain ⟨b, off, rfl, hSb, hbw, -⟩ := HR.out (by rw [List.length_map]; have := (errS_ok HE0.out).1; omega)
    obtain ⟨x, y, z, hV⟩ : ∃ x y z : Int, sumV bs = #[.int .i64 x, .int .i64 y, .int .i64 z] := ⟨_, _, _, by unfold sumV; rw [if_pos HE0.out]⟩
    have HV := Lib.hid hV
    have KR := Lib.hid (fun (w' : World) (hg : w.grownBy w' none) (k : Nat) => ssection_any (some ⟨b, off, none⟩) bs c (k : Int) w' (HR.out.grown hg (by simp)) HI.out hl hc hm)
    have HS : Hid (∀ e w', SumP w bs e w' → e = .returned (.tuple #[.agg #[.int .i64 x, .int .i64 y, .int .i64 z], .int .i64 ((0 : Nat) : Int)]) ∧ w.grownBy w' none) := Lib.hid (fun e w' h => by have h2 := h; unfold SumP at h2; rw [HV.out, HE0.out] at h2; exact h2)
    clear hV hSb hbw
    go_wp2_with (go_at_call 39; refine KS.out.mono ?_; intro e w2 hs; obtain ⟨rfl, hg2⟩ := HS.out _ _ hs; clear hs)
    have G2 : Hid (w.grownBy _ none) := Lib.hid (only_alloc hg2 (.cells #[.int .i64 x, .int .i64 y, .int .i64 z] 74))
    clear hg2
    go_loopw [6, 7] (fun v vi wr => ∃ k : Nat, vi = .int .i64 k ∧ 1 ≤ k ∧ k ≤ 13 ∧ wr.ownsRow w.heap.size 3 1 v (damH bs (k - 1)).length ((damH bs (k - 1)).map (.int .i64)) ∧ w.grownBy wr none) (fun _ vi _ => 13 - (intOf vi).toNat)
    case atStart => exact ⟨1, rfl, by omega, by omega, World.ownsRow_nil _ _ _ _, G2.out⟩
    case round =>
      obtain ⟨k, rfl, hk1, hk, hO, hG⟩ := hrel
      have OO := Lib.hid hO
      have G := Lib.hid hG
      obtain ⟨vO, hvO⟩ : ∃ v, v = u6 := ⟨_, rfl⟩
      rw [← hvO] at OO ⊢
      clear hO hG hvO
      by_cases hlt : k ≤ 12
      · have i1 : (k : Int) ≤ 12 := by omega
        have KR1 := Lib.hid (KR.out wr G.out k)
        have HSE := Lib.hid (secE_ok hk1 hlt HE0.out)
        have hln := damH_len bs (k - 1)
        have hwz := G.out.size
        cases hR : rightH bs k with
        | true =>
          have HD := Lib.hid (damH_true hR hk1)
          have HE1 : Hid (secE bs k = 0) := Lib.hid (by rw [HSE.out, hR]; rfl)
          clear hR
          go_wp2_with (go_at_call 10; refine KR1.out.mono ?_; rintro e w3 ⟨A3, c3, rfl, -, hg3⟩; rw [HE1.out]; have G3 := Lib.hid hg3; clear hg3)
          go_roundw
          case rel => exact ⟨k + 1, by go_num, by omega, by omega, by rw [Nat.add_sub_cancel, HD.out]; exact own_ext OO.out G3.out, only_trans G.out G3.out⟩
          case measure => simp [intOf]; omega
        | false =>
          have HD := Lib.hid (damH_false hR hk1)
          have HE1 : Hid (secE bs k = 15) := Lib.hid (by rw [HSE.out, hR]; rfl)
          clear hR
          go_wp2_with (first
            | (go_at_call 10; refine KR1.out.mono ?_; rintro e w3 ⟨A3, c3, rfl, -, hg3⟩; rw [HE1.out]; have G3 := Lib.hid hg3; have hz3 := hg3.size; clear hg3)
            | (at_builtin; go_must (refine wpList_append1 rfl _ _ 47 rfl w.heap.size Tryz.underlying47 intInfoS rfl (by decide) (v := vO) (by rfl) (w0 := w3) (cs := #[.int .i64 k]) (own_ext OO.out G3.out) (by rfl) rfl (by simp [Value.oneCell']) (by decide) (by omega) (by omega) ?_); intro v5 w5 hown5 hg5 hob5))
          have O5 : Hid (w5.ownsRow w.heap.size 3 1 v5 (damH bs k).length ((damH bs k).map (.int .i64))) := Lib.hid (by rw [HD.out, List.map_append, List.length_append]; exact hown5)
          have G5 : Hid (w.grownBy w5 none) := Lib.hid (only_own (only_trans G.out G3.out) hg5 (own_ext OO.out G3.out) (Nat.le_refl _))
          clear hown5 hg5 hob5
          go_wp2_with fail
          go_roundw
          case rel => exact ⟨k + 1, by go_num, by omega, by omega, by rw [Nat.add_sub_cancel]; exact O5.out, G5.out⟩
          case measure => simp [intOf]; omega
      · have i1 : ¬ (k : Int) ≤ 12 := by omega
        have hkE : k - 1 = 12 := by omega
        obtain ⟨AO, cO, hv, h1, h2, -, h3⟩ := Rd.of_own OO.out (by decide)
        rw [hkE] at h3 hv
        have HL : Hid (damL bs = damH bs 12) := Lib.hid (by unfold damL; rw [if_pos HE0.out])
        have H3 := Lib.hid h3
        rw [hv]
        clear hv h1 h2 h3 hkE OO
        go_wp2_with fail
        go_ret2
        exact ⟨AO, cO, by rw [HL.out, HE0.out]; rfl, by rw [HL.out]; exact H3.out, G.out⟩
  · have HE := Lib.hid hE.symm
    have hne : ((E : Int) == 0) = false := by rw [beq_eq_false_iff_ne]; omega
    have HS : Hid (∀ e w', SumP w bs e w' → e = .returned (.tuple #[.agg (sumV bs), .int .i64 (E : Nat)]) ∧ w.grownBy w' none) := Lib.hid (fun e w' h => by rw [hE]; exact h)
    have HV : Hid (sumV bs = #[.int .i64 0, .int .i64 0, .int .i64 0]) := Lib.hid (sumV_no hE.symm he)
    have HN := Lib.hid he
    clear hE he
    go_wp2_with (go_at_call 39; refine KS.out.mono ?_; intro e w2 hs; obtain ⟨rfl, hg2⟩ := HS.out _ _ hs; rw [HV.out]; clear hs)
    go_ret2
    exact DamP.no HE.out HN.out (only_alloc (by assumption) _)
end Go.Proofs.YtpaiideboodaeaaGreatDoor

namespace Go.Proofs.YtpaiideboodaeaaGreatDoor
open Go.RowKit
set_option linter.unusedVariables false
set_option linter.unusedSimpArgs false

theorem fold_beB : ∀ (k v a : Nat), (beB k v).foldl (fun (v : Nat) (b : Int) => v * 256 + b.toNat) a = a * 256 ^ k + v % 256 ^ k
  | 0, v, a => by simp [beB, Nat.mod_one]
  | k + 1, v, a => by
    simp only [beB, List.foldl_cons]
    rw [fold_beB k v, Int.toNat_natCast, Nat.mod_pow_succ, Nat.pow_succ, Nat.add_mul, Nat.mul_assoc, Nat.mul_comm 256 (256 ^ k), Nat.mul_comm (v / 256 ^ k % 256)]
    omega
theorem getN_beB {k v : Nat} (h : v < 256 ^ k) : getN (beB k v) = v := by
  unfold getN
  rw [fold_beB, Nat.mod_eq_of_lt h]
  omega
theorem cutB_mid (a m b : List Int) {i k : Nat} (hi : i = a.length) (hk : k = m.length) : cutB (a ++ m ++ b) i k = m := by
  subst hi hk
  unfold cutB
  rw [List.append_assoc, List.drop_left, List.take_left]
theorem headTo_ext (es : List Ev) (k : Nat) : ∀ d, ∃ r, headTo es (k + d) = headTo es k ++ r
  | 0 => ⟨[], by simp⟩
  | d + 1 => by
    obtain ⟨r, h⟩ := headTo_ext es k d
    exact ⟨r ++ beB 4 (secX es (k + d + 1)).length ++ beB 4 (crcN (secX es (k + d + 1))), by rw [← Nat.add_assoc]; simp only [headTo]; rw [h]; simp only [List.append_assoc]⟩
theorem bodyTo_ext (es : List Ev) (k : Nat) : ∀ d, ∃ r, bodyTo es (k + d) = bodyTo es k ++ r
  | 0 => ⟨[], by simp⟩
  | d + 1 => by
    obtain ⟨r, h⟩ := bodyTo_ext es k d
    exact ⟨r ++ secX es (k + d + 1), by rw [← Nat.add_assoc]; simp only [bodyTo]; rw [h]; simp only [List.append_assoc]⟩
/-- the bytes around the entry of section k + 1 -/
theorem encX_head (es : List Ev) {k : Nat} (hk : k < 12) : ∃ r, encX es = headTo es k ++ beB 4 (secX es (k + 1)).length ++ (beB 4 (crcN (secX es (k + 1))) ++ r) := by
  obtain ⟨r, h⟩ := headTo_ext es (k + 1) (11 - k)
  rw [show k + 1 + (11 - k) = 12 by omega] at h
  refine ⟨r ++ beB 4 (crcN (headTo es 12)) ++ bodyTo es 12, ?_⟩
  have e : headTo es 12 = headTo es k ++ beB 4 (secX es (k + 1)).length ++ beB 4 (crcN (secX es (k + 1))) ++ r := by rw [h]; rfl
  unfold encX
  generalize crcN (headTo es 12) = q
  rw [e]
  simp only [List.append_assoc]
theorem secX_small {es : List Ev} (hs : ∀ e ∈ es, EvE e) (hl : es.length ≤ 40) (j : Nat) : (secX es j).length < 256 ^ 4 := by
  have h := secX_len hs hl j
  have : (256 : Nat) ^ 4 = 4294967296 := by decide
  rw [this]
  split at h
  · omega
  · split at h
    · omega
    · split at h
      · omega
      · split at h
        · omega
        · split at h <;> omega
theorem crc_small (bs : List Int) : crcN bs < 256 ^ 4 := by
  have : (256 : Nat) ^ 4 = 4294967296 := by decide
  rw [this]; exact crcN_lt bs
theorem lenH_enc {es : List Ev} (hs : ∀ e ∈ es, EvE e) (hl : es.length ≤ 40) {k : Nat} (hk : k < 12) : lenH (encX es) (k + 1) = (secX es (k + 1)).length := by
  obtain ⟨r, h⟩ := encX_head es hk
  unfold lenH cutN
  rw [h, cutB_mid _ _ _ (by rw [headTo_len]; omega) (by rw [beB_len])]
  exact getN_beB (secX_small hs hl _)
theorem crcH_enc {es : List Ev} {k : Nat} (hk : k < 12) : crcH (encX es) (k + 1) = crcN (secX es (k + 1)) := by
  obtain ⟨r, h⟩ := encX_head es hk
  unfold crcH cutN
  rw [h, ← List.append_assoc, cutB_mid _ _ _ (by rw [List.length_append, headTo_len, beB_len]; omega) (by rw [beB_len])]
  exact getN_beB (crc_small _)
theorem offH_enc {es : List Ev} (hs : ∀ e ∈ es, EvE e) (hl : es.length ≤ 40) : ∀ k, k ≤ 12 → offH (encX es) k = 124 + (bodyTo es k).length
  | 0, _ => by simp [offH, bodyTo]
  | k + 1, hk => by
    simp only [offH]
    rw [offH_enc hs hl k (by omega), lenH_enc hs hl (by omega), bodyTo_step]
    omega
theorem secH_enc {es : List Ev} (hs : ∀ e ∈ es, EvE e) (hl : es.length ≤ 40) {k : Nat} (hk : k < 12) : secH (encX es) (k + 1) = secX es (k + 1) := by
  obtain ⟨r, h⟩ := bodyTo_ext es (k + 1) (11 - k)
  rw [show k + 1 + (11 - k) = 12 by omega] at h
  unfold secH
  rw [Nat.add_sub_cancel, lenH_enc hs hl hk, offH_enc hs hl k (by omega)]
  have e : encX es = (headTo es 12 ++ beB 4 (crcN (headTo es 12)) ++ bodyTo es k) ++ secX es (k + 1) ++ r := by
    unfold encX
    rw [h]
    simp only [bodyTo, List.append_assoc]
  rw [e]
  exact cutB_mid _ _ _ (by rw [List.length_append, List.length_append, headTo_len, beB_len]) rfl
theorem rightH_enc {es : List Ev} (hs : ∀ e ∈ es, EvE e) (hl : es.length ≤ 40) {k : Nat} (hk : k < 12) : rightH (encX es) (k + 1) = true := by
  unfold rightH
  rw [crcH_enc hk, secH_enc hs hl hk, beq_self_eq_true]
theorem damH_enc {es : List Ev} (hs : ∀ e ∈ es, EvE e) (hl : es.length ≤ 40) : ∀ k, k ≤ 12 → damH (encX es) k = []
  | 0, _ => rfl
  | k + 1, hk => by
    simp only [damH]
    rw [damH_enc hs hl k (by omega), rightH_enc hs hl (by omega)]
    rfl
theorem headTo_take4 (es : List Ev) : ∃ r, encX es = [76, 84, 83, 49] ++ r := by
  obtain ⟨r, h⟩ := headTo_ext es 0 12
  rw [Nat.zero_add] at h
  refine ⟨beB 4 es.length ++ beB 8 (firstT es) ++ beB 8 (lastT es) ++ r ++ beB 4 (crcN (headTo es 12)) ++ bodyTo es 12, ?_⟩
  have e : headTo es 12 = [76, 84, 83, 49] ++ beB 4 es.length ++ beB 8 (firstT es) ++ beB 8 (lastT es) ++ r := by rw [h]; rfl
  unfold encX
  generalize crcN (headTo es 12) = q
  rw [e]
  simp only [List.append_assoc]
theorem magic_enc (es : List Ev) : magicB (encX es) = true := by
  obtain ⟨r, h⟩ := headTo_take4 es
  unfold magicB
  rw [h, show ([76, 84, 83, 49] ++ r : List Int).take 4 = [76, 84, 83, 49] from List.take_left' rfl]
  rw [Lib.strOfNums_toList, mgl]
  rfl
theorem take120_enc (es : List Ev) : (encX es).take 120 = headTo es 12 := by
  unfold encX
  rw [List.append_assoc]
  exact List.take_left' (by rw [headTo_len])
/-- the header of what Encode gives is right -/
theorem errS_enc {es : List Ev} (hs : ∀ e ∈ es, EvE e) (hl : es.length ≤ 40) : errS (encX es) = 0 := by
  have h1 : 124 ≤ (encX es).length := by
    unfold encX
    rw [List.length_append, List.length_append, headTo_len, beB_len]
    omega
  have h2 : cutN (encX es) 120 4 = crcN ((encX es).take 120) := by
    rw [take120_enc]
    unfold cutN
    rw [show encX es = headTo es 12 ++ beB 4 (crcN (headTo es 12)) ++ bodyTo es 12 from rfl, cutB_mid _ _ _ (by rw [headTo_len]) (by rw [beB_len])]
    exact getN_beB (crc_small _)
  have h3 : (encX es).length = offH (encX es) 12 := by
    rw [offH_enc hs hl 12 (Nat.le_refl _)]
    unfold encX
    rw [List.length_append, List.length_append, headTo_len, beB_len]
  rw [errS_end h1 (magic_enc es) h2, if_neg (by omega)]
theorem damL_enc {es : List Ev} (hs : ∀ e ∈ es, EvE e) (hl : es.length ≤ 40) : damL (encX es) = [] := by
  unfold damL
  rw [if_pos (errS_enc hs hl), damH_enc hs hl 12 (Nat.le_refl _)]
theorem secY_enc {es : List Ev} (hs : ∀ e ∈ es, EvE e) (hl : es.length ≤ 40) {k : Nat} (hk1 : 1 ≤ k) (hk : k ≤ 12) : secE (encX es) k = 0 ∧ secY (encX es) k = secX es k := by
  obtain ⟨j, rfl⟩ : ∃ j, k = j + 1 := ⟨k - 1, by omega⟩
  have h : secE (encX es) ((j + 1 : Nat) : Int) = 0 := by
    rw [secE_ok hk1 hk (errS_enc hs hl), rightH_enc hs hl (by omega)]
    rfl
  exact ⟨h, by rw [secY_yes h, secH_enc hs hl (by omega)]⟩
end Go.Proofs.YtpaiideboodaeaaGreatDoor
