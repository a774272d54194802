/- XColV, XColE, XColR, XColA, XColP, XColQ, XColG, XColH, XColI, XColJ: what this seat has of them (joined by partseat.py). Conditions: as there. -/
import Derived.Test.YtpaiideboodaeaaGreatDoorJRTermsJ
import Derived.Test.YtpaiideboodaeaaGreatDoorJStr
import Derived.Laws.Bits64
import Derived.Deep.DeepMust
import Derived.Test.YtpaiideboodaeaaGreatDoorJBase
import Derived.RegionTactic
import Derived.Laws.MakeOwn
import Derived.BigRegion
import Derived.StillTailTactics
import Derived.Deep.RegionWith
import Derived.Laws.EntriesVeiled
namespace Go.Proofs.YtpaiideboodaeaaGreatDoor
open Go.RowKit
set_option linter.unusedVariables false
set_option linter.unusedSimpArgs false

def zz (x : Int) : Nat := if 0 ≤ x then (2 * x).toNat else (-(2 * x) - 1).toNat
theorem zz_lt {x : Int} (h : -9223372036854775808 ≤ x ∧ x ≤ 9223372036854775807) : zz x < 18446744073709551616 := by
  unfold zz; split <;> omega
theorem xor_max (b : Nat) (hb : b < 2 ^ 64) : b ^^^ 18446744073709551615 = 18446744073709551615 - b := by
  apply Nat.eq_of_testBit_eq
  intro i
  rw [Nat.testBit_xor, show (18446744073709551615 : Nat) = 2 ^ 64 - 1 from rfl, Nat.testBit_two_pow_sub_one, show 2 ^ 64 - 1 - b = 2 ^ 64 - (b + 1) by omega, Nat.testBit_two_pow_sub_succ hb]
  by_cases hi : i < 64
  · simp [hi]
  · have : b.testBit i = false := Nat.testBit_lt_two_pow (Nat.lt_of_lt_of_le hb (Nat.pow_le_pow_right (by decide) (by omega)))
    simp [hi, this]

theorem zz_bits {x : Int} (h : -9223372036854775808 ≤ x ∧ x ≤ 9223372036854775807) : bits BinOp.xor IntKind.u64 (IntKind.u64.wrap (IntKind.u64.wrap x * 2)) (IntKind.u64.wrap (x / 9223372036854775808)) = ((zz x : Nat) : Int) := by
  by_cases h0 : 0 ≤ x
  · have e1 : IntKind.u64.wrap (IntKind.u64.wrap x * 2) = (((2 * x).toNat : Nat) : Int) := by
      rw [IntKind.wrap_u64, IntKind.wrap_u64]; omega
    have e2 : IntKind.u64.wrap (x / 9223372036854775808) = ((0 : Nat) : Int) := by
      rw [IntKind.wrap_u64]; omega
    rw [e1, e2, bits_xor_u64_nat _ _ (by omega) (by decide)]
    unfold zz; rw [if_pos h0]; simp
  · have e1 : IntKind.u64.wrap (IntKind.u64.wrap x * 2) = (((2 * x + 18446744073709551616).toNat : Nat) : Int) := by
      rw [IntKind.wrap_u64, IntKind.wrap_u64]; omega
    have e2 : IntKind.u64.wrap (x / 9223372036854775808) = ((18446744073709551615 : Nat) : Int) := by
      rw [IntKind.wrap_u64]; omega
    rw [e1, e2, bits_xor_u64_nat _ _ (by omega) (by decide), xor_max _ (by omega)]
    unfold zz; rw [if_neg h0]; omega

set_option maxHeartbeats 1000000 in
set_option maxRecDepth 100000 in
theorem rzigzag_any (x : Int) (w : World) (h : -9223372036854775808 ≤ x ∧ x ≤ 9223372036854775807) : Calls Tryz.prog 244 #[.int .i64 x] w (Quiet (.int .u64 (zz x : Nat)) w) := by
  have HX := Lib.hid h
  clear h
  go_enter Tryz.func244, Tryz.ntmps244
  go_wp2_with fail
  go_ret
  exact ⟨ret_int (zz_bits HX.out), 0, rfl⟩

set_option maxHeartbeats 1000000 in
theorem putint_any (base : Nat) (v : Value) (xs : List Int) (x : Int) (w : World) (h : Byts base w v xs) (hx : xs.length ≤ 5000000) (hr : -9223372036854775808 ≤ x ∧ x ≤ 9223372036854775807) (hb : base ≤ w.heap.size) :
    Calls Tryz.prog 231 #[v, .int .i64 x] w (VPost base w v (xs ++ vint (zz x))) := by
  have H := Lib.hid h
  have HX := Lib.hid hr
  clear h hr
  go_enter Tryz.func231, Tryz.ntmps231
  go_wp2_with fail
  refine (rzigzag_any x _ HX.out).mono ?_
  rintro e w1 ⟨rfl, n1, rfl⟩
  go_wp2_with fail
  refine (rvarint_any base _ _ (zz x) _ (H.out.drewN _) (by omega) (zz_lt HX.out) (by exact hb)).mono ?_
  rintro e w2 ⟨v2, rfl, hB2, hO2⟩
  go_wp2_with fail
  go_ret
  exact ⟨v2, rfl, hB2, Onto.trans ((Onto.refl _ _).drewN n1) hO2⟩
end Go.Proofs.YtpaiideboodaeaaGreatDoor

namespace Go.Proofs.YtpaiideboodaeaaGreatDoor
open Go.RowKit
set_option linter.unusedVariables false
set_option linter.unusedSimpArgs false

def I64 (x : Int) : Prop := -9223372036854775808 ≤ x ∧ x ≤ 9223372036854775807
theorem wrap_I64 (x : Int) : I64 (IntKind.i64.wrap x) := by unfold I64; rw [IntKind.wrap_i64]; omega
theorem Byts.ne {base : Nat} {w : World} {v : Value} {xs : List Int} (h : Byts base w v xs) : ∀ b, b < base → some b ≠ v.ownBlock := fun b hb e => by
  have := (World.ownsRow.lt h b e.symm).1
  omega
def genTo (f : Nat → List Int) : Nat → List Int
  | 0 => []
  | k + 1 => genTo f k ++ f k
theorem genTo_len (f : Nat → List Int) (m : Nat) (h : ∀ i, (f i).length ≤ m) : ∀ k, (genTo f k).length ≤ m * k
  | 0 => by simp [genTo]
  | k + 1 => by
    have h1 := genTo_len f m h k
    have h2 := h k
    simp only [genTo, List.length_append, Nat.mul_add]
    omega
def plF (vs : List Int) (i : Nat) : List Int := vint (zz (vs.getD i 0))
def dl (vs : List Int) (i : Nat) : Int := if i = 0 then vs.getD 0 0 else IntKind.i64.wrap (vs.getD i 0 - vs.getD (i - 1) 0)
def dlF (vs : List Int) (i : Nat) : List Int := vint (zz (dl vs i))
theorem getD_I64 {vs : List Int} (h : ∀ x ∈ vs, I64 x) (i : Nat) : I64 (vs.getD i 0) := by
  by_cases hi : i < vs.length
  · exact h _ (getD_mem vs 0 hi)
  · rw [List.getD_eq_getElem?_getD, List.getElem?_eq_none (by omega)]; unfold I64; simp
theorem plF_len {vs : List Int} (h : ∀ x ∈ vs, I64 x) (i : Nat) : (plF vs i).length ≤ 10 := vint_len10 (zz_lt (getD_I64 h i))
theorem dl_I64 {vs : List Int} (h : ∀ x ∈ vs, I64 x) (i : Nat) : I64 (dl vs i) := by
  unfold dl; split
  · exact getD_I64 h 0
  · exact wrap_I64 _
theorem dlF_len {vs : List Int} (h : ∀ x ∈ vs, I64 x) (i : Nat) : (dlF vs i).length ≤ 10 := vint_len10 (zz_lt (dl_I64 h i))

end Go.Proofs.YtpaiideboodaeaaGreatDoor

namespace Go.Proofs.YtpaiideboodaeaaGreatDoor
open Go.RowKit
set_option linter.unusedVariables false
set_option linter.unusedSimpArgs false

def runLen (x : Int) : List Int → Nat
  | [] => 0
  | y :: l => if y = x then runLen x l + 1 else 0
theorem runLen_le (x : Int) : ∀ l, runLen x l ≤ l.length
  | [] => by simp [runLen]
  | y :: l => by have := runLen_le x l; simp only [runLen]; split <;> simp <;> omega
theorem runLen_eq (x : Int) : ∀ (n : Nat) (l : List Int), (∀ i, i < n → l[i]? = some x) → l[n]? ≠ some x → runLen x l = n
  | 0, [], _, _ => rfl
  | 0, y :: l, _, h => by simp at h; simp [runLen, h]
  | n + 1, [], h, _ => by have := h 0 (by omega); simp at this
  | n + 1, y :: l, h, h2 => by
    have e : y = x := by have := h 0 (by omega); simpa using this
    subst e
    simp [runLen, runLen_eq y n l (fun i hi => by have := h (i + 1) (by omega); simpa using this) (by simpa using h2)]
def runsB : List Int → List Int
  | [] => []
  | x :: l => vint (zz x) ++ (vint (runLen x l + 1) ++ runsB (l.drop (runLen x l)))
termination_by l => l.length
decreasing_by simp; omega
theorem runsB_nil : runsB [] = [] := by rw [runsB]
theorem runsB_cons (x : Int) (l : List Int) : runsB (x :: l) = vint (zz x) ++ (vint (runLen x l + 1) ++ runsB (l.drop (runLen x l))) := by rw [runsB]
theorem at_some {vs : List Int} {k : Nat} (h : k < vs.length) : vs[k]? = some (vs.getD k 0) := by rw [getD_lt vs 0 h]; exact List.getElem?_eq_getElem h
theorem runs_step {vs : List Int} {k j : Nat} (hkj : k < j) (hj : j ≤ vs.length) (he : ∀ i, k ≤ i → i < j → vs.getD i 0 = vs.getD k 0) (hn : j = vs.length ∨ vs.getD j 0 ≠ vs.getD k 0) :
    runsB (vs.drop k) = vint (zz (vs.getD k 0)) ++ (vint (j - k) ++ runsB (vs.drop j)) := by
  have hk : k < vs.length := by omega
  have e1 : vs.drop k = vs.getD k 0 :: vs.drop (k + 1) := by rw [List.drop_eq_getElem_cons hk, getD_lt vs 0 hk]
  have e2 : runLen (vs.getD k 0) (vs.drop (k + 1)) = j - (k + 1) := by
    apply runLen_eq
    · intro i hi
      rw [List.getElem?_drop, at_some (by omega), he (k + 1 + i) (by omega) (by omega)]
    · rw [List.getElem?_drop, show k + 1 + (j - (k + 1)) = j from by omega]
      rcases hn with h | h
      · rw [List.getElem?_eq_none (by omega)]; simp
      · by_cases hjl : j < vs.length
        · rw [at_some hjl]; simpa using h
        · rw [List.getElem?_eq_none (by omega)]; simp
  rw [e1, runsB_cons, e2, List.drop_drop, show k + 1 + (j - (k + 1)) = j from by omega, show j - (k + 1) + 1 = j - k from by omega]

end Go.Proofs.YtpaiideboodaeaaGreatDoor

namespace Go.Proofs.YtpaiideboodaeaaGreatDoor
open Go.RowKit
set_option linter.unusedVariables false
set_option linter.unusedSimpArgs false

def runsTo (vs : List Int) : Nat → Nat
  | 0 => 0
  | k + 1 => runsTo vs k + (if k = 0 ∨ vs.getD k 0 ≠ vs.getD (k - 1) 0 then 1 else 0)
theorem runsTo_le (vs : List Int) (k : Nat) : runsTo vs k ≤ k := by
  induction k with
  | zero => simp [runsTo]
  | succ k ih => simp only [runsTo]; split <;> omega

def Same (v : Value) (w : World) (e : Ending) (w' : World) : Prop := e = .returned v ∧ ∃ n, w' = w.drewN n

/-- the least and the greatest of the first k values -/
def loTo (vs : List Int) : Nat → Int
  | 0 => vs.getD 0 0
  | k + 1 => min (loTo vs k) (vs.getD k 0)
def hiTo (vs : List Int) : Nat → Int
  | 0 => vs.getD 0 0
  | k + 1 => max (hiTo vs k) (vs.getD k 0)

set_option maxHeartbeats 800000 in
theorem rbounds_any {S : Nat → Prop} (A : Option Addr) (vs : List Int) (c : Nat) (w : World) (h : Rd S w A (vs.map (.int .i64))) (hl : vs.length ≤ 1000000) :
    Calls Tryz.prog 243 #[.slice A vs.length c] w (Same (if vs.length = 0 then .tuple #[.int .i64 0, .int .i64 0, .bool false] else .tuple #[.int .i64 (loTo vs vs.length), .int .i64 (hiTo vs vs.length), .bool true]) w) := by
  have H := Lib.hid h
  by_cases h0 : vs.length = 0
  · rw [if_pos h0]
    have h1 : ((vs.length : Int) == 0) = true := by simp [h0]
    have H0 := Lib.hid h0
    clear h0 h
    go_enter Tryz.func243, Tryz.ntmps243
    go_wp2
    go_ret3
    exact ⟨rfl, 0, rfl⟩
  · rw [if_neg h0]
    have h1 : ((vs.length : Int) == 0) = false := by rw [beq_eq_false_iff_ne]; omega
    have h2 : 0 < vs.length := by omega
    obtain ⟨b, off, x, rfl, hc, hx⟩ := h.int_at h2
    rw [Nat.add_zero] at hc
    clear h0 h
    go_enter Tryz.func243, Tryz.ntmps243
    go_wp2
    go_quiet (fail)
    go_wp2
    clear hc
    go_loopw [5, 6, 7] (fun n x i wr => ∃ (k : Nat) (m m2 : Int), k ≤ vs.length ∧ i = .int .i64 k ∧ n = .int .i64 m ∧ x = .int .i64 m2 ∧ Hid (m = loTo vs k) ∧ Hid (m2 = hiTo vs k) ∧ ∃ q, wr = w.drewN q) (fun _ _ i _ => vs.length - (intOf i).toNat)
    case atStart => exact ⟨0, x, x, Nat.zero_le _, rfl, rfl, rfl, hx.out.symm, hx.out.symm, _, rfl⟩
    case round =>
      obtain ⟨k, m, m2, hk, rfl, rfl, rfl, hm, hm2, q, rfl⟩ := hrel
      by_cases hlt : k < vs.length
      · obtain ⟨y, hcy, hy⟩ := H.out.int_at' hlt
        go_wp2
        go_quiet (fail)
        go_wp2
        go_roundw
        case rel => exact ⟨k + 1, _, _, by omega, by go_num, rfl, rfl, by have := hm.out; have := hy.out; show _ = _; simp only [loTo]; first | (split <;> omega) | omega, by have := hm2.out; have := hy.out; show _ = _; simp only [hiTo]; first | (split <;> omega) | omega, _, rfl⟩
        case measure => simp [intOf]; omega
      · obtain rfl : k = vs.length := by omega
        go_wp2
        go_ret3
        exact ⟨by rw [← hm.out, ← hm2.out]; rfl, _, rfl⟩
end Go.Proofs.YtpaiideboodaeaaGreatDoor

namespace Go.Proofs.YtpaiideboodaeaaGreatDoor
open Go.RowKit
set_option linter.unusedVariables false
set_option linter.unusedSimpArgs false

def lo (vs : List Int) : Int := loTo vs vs.length
def hi (vs : List Int) : Int := hiTo vs vs.length
theorem loTo_le (vs : List Int) : ∀ k i, i < k → loTo vs k ≤ vs.getD i 0
  | k + 1, i, h => by
    simp only [loTo]
    rcases Nat.lt_or_ge i k with h1 | h1
    · have := loTo_le vs k i h1; omega
    · obtain rfl : i = k := by omega
      omega
theorem hiTo_ge (vs : List Int) : ∀ k i, i < k → vs.getD i 0 ≤ hiTo vs k
  | k + 1, i, h => by
    simp only [hiTo]
    rcases Nat.lt_or_ge i k with h1 | h1
    · have := hiTo_ge vs k i h1; omega
    · obtain rfl : i = k := by omega
      omega
theorem loTo_I64 {vs : List Int} (h : ∀ x ∈ vs, I64 x) : ∀ k, I64 (loTo vs k)
  | 0 => getD_I64 h 0
  | k + 1 => by
    have h1 := loTo_I64 h k
    have h2 := getD_I64 h k
    unfold I64 at *
    simp only [loTo]; omega
theorem hiTo_I64 {vs : List Int} (h : ∀ x ∈ vs, I64 x) : ∀ k, I64 (hiTo vs k)
  | 0 => getD_I64 h 0
  | k + 1 => by
    have h1 := hiTo_I64 h k
    have h2 := getD_I64 h k
    unfold I64 at *
    simp only [hiTo]; omega
/-- the width of the differences -/
def pw (vs : List Int) : Nat := Lib.bitLen (hi vs - lo vs).toNat
theorem bitLenAux_le : ∀ f x, Lib.bitLenAux f x ≤ f
  | 0, x => by simp [Lib.bitLenAux]
  | f + 1, x => by
    have := bitLenAux_le f (x / 2)
    simp only [Lib.bitLenAux]; split <;> omega
theorem pw_le (vs : List Int) : pw vs ≤ 64 := bitLenAux_le 64 _
def nb (vs : List Int) : Nat := (vs.length * pw vs + 7) / 8
/-- the difference from the least value -/
def df (vs : List Int) (i : Nat) : Nat := (vs.getD i 0 - lo vs).toNat
def setBit (bs : List Nat) (q b : Nat) : List Nat := bs.set (q / 8) (bs.getD (q / 8) 0 ||| b <<< (q % 8))
def wBits (bs : List Nat) (q d : Nat) : Nat → List Nat
  | 0 => bs
  | k + 1 => setBit (wBits bs q d k) (q + k) (d / 2 ^ k % 2)
def allBits (vs : List Int) : Nat → List Nat
  | 0 => List.replicate (nb vs) 0
  | i + 1 => wBits (allBits vs i) (i * pw vs) (df vs i) (pw vs)
def packB (vs : List Int) : List Int :=
  if vs.length = 0 then [] else vint (zz (lo vs)) ++ ([(pw vs : Int)] ++ (allBits vs vs.length).map (fun (n : Nat) => (n : Int)))
theorem setBit_len (bs : List Nat) (q b : Nat) : (setBit bs q b).length = bs.length := by simp [setBit]
theorem wBits_len (bs : List Nat) (q d : Nat) : ∀ k, (wBits bs q d k).length = bs.length
  | 0 => rfl
  | k + 1 => by simp only [wBits, setBit_len, wBits_len bs q d k]
theorem allBits_len (vs : List Int) : ∀ i, (allBits vs i).length = nb vs
  | 0 => by simp [allBits]
  | i + 1 => by simp only [allBits, wBits_len, allBits_len vs i]
def Bt (bs : List Nat) : Prop := ∀ i, bs.getD i 0 < 256
theorem Bt.set_ {bs : List Nat} (h : Bt bs) (q b : Nat) (hb : b < 2) : Bt (setBit bs q b) := fun i => by
  unfold setBit
  by_cases hi : i = q / 8
  · subst hi
    by_cases hl : q / 8 < bs.length
    · rw [List.getD_eq_getElem?_getD, List.getElem?_set_self hl]
      simp only [Option.getD_some]
      have h1 := h (q / 8)
      have h2 : b <<< (q % 8) < 2 ^ 8 := by
        rw [Nat.shiftLeft_eq]
        have h3 : 2 ^ (q % 8) ≤ 2 ^ 7 := Nat.pow_le_pow_right (by decide) (by omega)
        have h4 : b * 2 ^ (q % 8) ≤ 1 * 2 ^ 7 := Nat.mul_le_mul (by omega) h3
        omega
      exact Nat.or_lt_two_pow (n := 8) h1 h2
    · rw [List.getD_eq_getElem?_getD, List.getElem?_eq_none (by simp; omega)]; simp
  · rw [List.getD_eq_getElem?_getD, List.getElem?_set_ne (fun e => hi e.symm), ← List.getD_eq_getElem?_getD]; exact h i
theorem Bt.w {bs : List Nat} (h : Bt bs) (q d : Nat) : ∀ k, Bt (wBits bs q d k)
  | 0 => h
  | k + 1 => (Bt.w h q d k).set_ _ _ (by omega)
theorem Bt.all (vs : List Int) : ∀ i, Bt (allBits vs i)
  | 0 => fun i => by
    simp only [allBits, List.getD_eq_getElem?_getD, List.getElem?_replicate]
    split <;> simp
  | i + 1 => (Bt.all vs i).w _ _ _
def cellsOf (bs : List Nat) : Array Value := (bs.map (fun (n : Nat) => Value.int .u8 n)).toArray
theorem cellsOf_set (bs : List Nat) (q n : Nat) : (cellsOf bs).setIfInBounds q (.int .u8 (n : Nat)) = cellsOf (bs.set q n) := by
  simp [cellsOf, List.map_set]
theorem cellsOf_at {bs : List Nat} {q : Nat} (h : q < bs.length) : (cellsOf bs)[q]? = some (.int .u8 (bs.getD q 0 : Nat)) := by
  simp [cellsOf, h]

theorem made_one (z : Value) (hz : z.cells = #[z]) (n : Nat) : madeCells z.cells (n * 1) = Array.replicate n z := by
  rw [hz, Nat.mul_one]
  apply Array.ext
  · simp [madeCells]
  · intro i h1 h2
    simp [madeCells, Nat.mod_one]
theorem make_any {P : Program} {t e : TypeId} {z : Value} {bytes : Nat} (ht : P.underlying t = some (.slice e)) (hi : (P.info? e).map (fun i => (i.zero, i.size, i.bytes)) = some (some z, 1, bytes)) (hz : z.cells = #[z]) (hb : bytes ≤ 8) (n : Nat) (hn : n ≤ 10000000) (w : World) :
    Sem.run P (Instr.makeSlice t (.int .i64 (n : Int)) (.int .i64 (n : Int))) w = .ok (.slice (some ⟨w.heap.size, 0, none⟩) n n) (w.alloc (.cells (Array.replicate n z) e)) := by
  obtain ⟨i0, hi0, hz0, hz1, hz2⟩ := info_parts hi
  have hbi : (i0.bytes : Int) * (n : Int) ≤ 281474976710656 := by
    have h1 : i0.bytes * n ≤ 8 * 10000000 := Nat.mul_le_mul (by omega) hn
    have h2 : ((i0.bytes * n : Nat) : Int) ≤ 80000000 := by omega
    rw [Int.natCast_mul] at h2; omega
  have h := run_makeSlice (P := P) w t e i0 z ht hi0 hz0 .i64 .i64 n n (by omega) (Int.le_refl _) (by rw [hz1, Int.toNat_natCast]; omega) hbi (by omega)
  rw [Int.toNat_natCast, hz1, made_one z hz] at h
  exact h
theorem cells_zero (n : Nat) : Array.replicate n (Value.int .u8 0) = cellsOf (List.replicate n 0) := by
  simp [cellsOf]
theorem only_setNew {a w : World} {row : Option Nat} (h : a.grownBy w row) {p : Addr} (hp : a.heap.size ≤ p.block) (u : Value) : a.grownBy (w.setCell p u) row :=
  ⟨h.os, h.tape, h.output, by simpa [World.setCell] using h.size, fun i hi hne => (Below.heap_setCell w p u i (by rintro rfl; omega)).trans (h.block i hi hne)⟩
theorem tdiv8 (q : Nat) : (q : Int).tdiv 8 = ((q / 8 : Nat) : Int) := by rw [Int.tdiv_eq_ediv_of_nonneg (by omega)]; omega
theorem tmod8 (q : Nat) : (q : Int).tmod 8 = ((q % 8 : Nat) : Int) := by rw [Int.tmod_eq_emod_of_nonneg (by omega)]; omega
theorem u64_diff {x y : Int} (hx : I64 x) (hy : I64 y) (h : y ≤ x) : IntKind.u64.wrap (IntKind.u64.wrap x - IntKind.u64.wrap y) = ((x - y).toNat : Int) := by
  unfold I64 at *
  rw [IntKind.wrap_u64, IntKind.wrap_u64, IntKind.wrap_u64]; omega

theorem wrap_add (p k : Nat) (h : p + k ≤ 2000000) : wrap64 ((p : Int) + (k : Int)) = ((p + k : Nat) : Int) := by
  rw [IntWalk.wrap64_in _ (by omega)]; omega
theorem div_lt {q P n : Nat} (hn : n = (P + 7) / 8) (h : q < P) : q / 8 < n := by omega
theorem i64_nat {n : Nat} (h : n ≤ 2000000) : IntKind.i64.wrap (n : Int) = (n : Int) := IntWalk.i64_in _ (by omega)
theorem bit_val {cur d k m8 : Nat} (hc : cur < 256) (hd : d < 18446744073709551616) (hm : m8 ≤ 7) :
    bits BinOp.or IntKind.u8 (cur : Int) (bits BinOp.and IntKind.u64 ((d : Int) / 2 ^ k) 1 % 256 * 2 ^ m8 % 256) = ((cur ||| (d / 2 ^ k % 2) <<< m8 : Nat) : Int) := by
  have e1 : ((d : Int) / 2 ^ k) = ((d / 2 ^ k : Nat) : Int) := by rw [Int.natCast_ediv, Int.natCast_pow]; rfl
  have h1 := bits_and_u64_nat (d / 2 ^ k) 1 (Nat.lt_of_le_of_lt (Nat.div_le_self _ _) hd) (by decide)
  rw [Nat.and_one_is_mod] at h1
  have h1' : bits .and .u64 ((d / 2 ^ k : Nat) : Int) 1 = ((d / 2 ^ k % 2 : Nat) : Int) := h1
  rw [e1, h1']
  have hb : d / 2 ^ k % 2 < 2 := Nat.mod_lt _ (by decide)
  generalize d / 2 ^ k % 2 = b at *
  have h7 : 2 ^ m8 ≤ 2 ^ 7 := Nat.pow_le_pow_right (by decide) hm
  have h8 : b * 2 ^ m8 ≤ 1 * 2 ^ 7 := Nat.mul_le_mul (by omega) h7
  have e2 : ((b : Int) % 256 * 2 ^ m8 % 256) = ((b * 2 ^ m8 : Nat) : Int) := by
    rw [show (b : Int) % 256 = (b : Int) from by omega, Int.natCast_mul, Int.natCast_pow]
    have h9 : ((b * 2 ^ m8 : Nat) : Int) < 256 := by omega
    rw [Int.natCast_mul, Int.natCast_pow] at h9
    exact Int.emod_eq_of_lt (by rw [show ((2 : Int) ^ m8) = ((2 ^ m8 : Nat) : Int) from by rw [Int.natCast_pow]; rfl, ← Int.natCast_mul]; omega) h9
  rw [e2, or_u8 cur _ hc (by omega), Nat.shiftLeft_eq]
theorem Blk.rd {w : World} {g : Nat} {t : TypeId} {cs : Array Value} (h : Blk w g t cs) : Rd (· = g) w (some ⟨g, 0, none⟩) cs.toList := fun _ =>
  ⟨g, 0, rfl, rfl, h.lt, fun j u hu => by rw [Nat.zero_add, h.cell j]; simpa using hu⟩
theorem cellsOf_list (bs : List Nat) : (cellsOf bs).toList = (bs.map (fun (n : Nat) => (n : Int))).map (.int .u8) := by simp [cellsOf]
theorem nb_eq (vs : List Int) : nb vs = (vs.length * pw vs + 7) / 8 := rfl
theorem pw_is (vs : List Int) : Lib.bitLen ((((hiTo vs vs.length - loTo vs vs.length).toNat : Nat) : Int)).toNat = pw vs := by rw [Int.toNat_natCast]; rfl
theorem lo_is (vs : List Int) : loTo vs vs.length = lo vs := rfl
theorem hi_is (vs : List Int) : hiTo vs vs.length = hi vs := rfl
theorem df_is (vs : List Int) (i : Nat) : df vs i = (vs.getD i 0 - lo vs).toNat := rfl
theorem lo_le {vs : List Int} {i : Nat} (h : i < vs.length) : lo vs ≤ vs.getD i 0 := loTo_le vs _ i h
theorem lo_I64 {vs : List Int} (h : ∀ x ∈ vs, I64 x) : I64 (lo vs) := loTo_I64 h _
theorem df_lt {vs : List Int} (h : ∀ x ∈ vs, I64 x) {i : Nat} (hi : i < vs.length) : df vs i < 18446744073709551616 := by
  have h1 := getD_I64 h i
  have h2 := loTo_I64 h vs.length
  have h3 := loTo_le vs _ i hi
  unfold df lo; unfold I64 at *; omega
attribute [irreducible] pw nb df lo hi
end Go.Proofs.YtpaiideboodaeaaGreatDoor

namespace Go.Proofs.YtpaiideboodaeaaGreatDoor
open Go.RowKit
set_option linter.unusedVariables false
set_option linter.unusedSimpArgs false

theorem bit_of {d k : Nat} (hd : d < 18446744073709551616) : bits BinOp.and IntKind.u64 ((d : Int) / 2 ^ k) 1 = ((d / 2 ^ k % 2 : Nat) : Int) := by
  have e1 : ((d : Int) / 2 ^ k) = ((d / 2 ^ k : Nat) : Int) := by rw [Int.natCast_ediv, Int.natCast_pow]; rfl
  have h1 := bits_and_u64_nat (d / 2 ^ k) 1 (Nat.lt_of_le_of_lt (Nat.div_le_self _ _) hd) (by decide)
  rw [Nat.and_one_is_mod] at h1
  rw [e1]; exact h1
theorem bit_one {cur m8 : Nat} (hc : cur < 256) (hm : m8 ≤ 7) : bits BinOp.or IntKind.u8 (cur : Int) (2 ^ m8 % 256) = ((cur ||| 1 <<< m8 : Nat) : Int) := by
  have h7 : 2 ^ m8 ≤ 2 ^ 7 := Nat.pow_le_pow_right (by decide) hm
  have e : ((2 : Int) ^ m8 % 256) = ((2 ^ m8 : Nat) : Int) := by
    have e2 : ((2 : Int) ^ m8) = ((2 ^ m8 : Nat) : Int) := by rw [Int.natCast_pow]; rfl
    rw [e2]
    generalize 2 ^ m8 = z at *
    omega
  rw [e, or_u8 cur _ hc (by omega), Nat.shiftLeft_eq, Nat.one_mul]
theorem set_same (l : List Nat) (q : Nat) : l.set q (l.getD q 0) = l := by
  apply List.ext_getElem?
  intro i
  by_cases h : i = q
  · subst h
    by_cases hl : i < l.length
    · rw [List.getElem?_set_self hl, getD_lt l 0 hl, List.getElem?_eq_getElem hl]
    · rw [List.getElem?_eq_none (by simp; omega), List.getElem?_eq_none (by omega)]
  · rw [List.getElem?_set_ne (fun e => h e.symm)]
set_option maxHeartbeats 4000000 in
set_option maxRecDepth 100000 in
theorem rpack_any (base : Nat) (v : Value) (xs : List Int) (A : Option Addr) (vs : List Int) (c : Nat) (w : World) (h : Byts base w v xs) (hr : Rd (· < base) w A (vs.map (.int .i64))) (hx : xs.length ≤ 1000000) (hl : vs.length ≤ 20000) (hi : ∀ x ∈ vs, I64 x) (hb : base ≤ w.heap.size) :
    Calls Tryz.prog 230 #[v, .slice A vs.length c] w (VPost base w v (xs ++ packB vs)) := by
  have H := Lib.hid h
  have HR := Lib.hid hr
  have HI := Lib.hid hi
  clear h hr hi
  by_cases h0 : vs.length = 0
  · have H0 := Lib.hid h0
    have t0 : ((vs.length : Int) == 0) = true := by simp [h0]
    clear h0
    go_enter Tryz.func230, Tryz.ntmps230
    go_wp2_with fail
    go_ret
    exact ⟨_, rfl, by unfold packB; rw [if_pos H0.out, List.append_nil]; exact H.out, Onto.refl _ _⟩
  · have hbd := rbounds_any A vs c w HR.out (by omega)
    rw [if_neg h0] at hbd
    have HBD := Lib.hid hbd
    have t0 : ((vs.length : Int) == 0) = false := by simp [h0]
    have HPB : Hid (packB vs = vint (zz (lo vs)) ++ ([(pw vs : Int)] ++ (allBits vs vs.length).map (fun (n : Nat) => (n : Int)))) := by
      show packB vs = _; unfold packB; rw [if_neg h0]
    have hp0 : 0 < vs.length := by omega
    have hlohi : loTo vs vs.length ≤ hiTo vs vs.length := Int.le_trans (loTo_le vs _ 0 hp0) (hiTo_ge vs _ 0 hp0)
    have HD := Lib.hid (u64_diff (hiTo_I64 HI.out vs.length) (loTo_I64 HI.out vs.length) hlohi)
    have HLO : Hid (I64 (lo vs)) := lo_I64 HI.out
    have hpw := pw_le vs
    obtain ⟨P, hP⟩ : ∃ P, P = vs.length * pw vs := ⟨_, rfl⟩
    have hPb : P ≤ 1280000 := by rw [hP]; exact Nat.mul_le_mul hl hpw
    have hmul : wrap64 ((vs.length : Int) * (pw vs : Int)) = (P : Int) := by
      rw [hP, ← Int.natCast_mul, ← hP]; exact IntWalk.wrap64_in _ (by omega)
    have hdiv : ((P : Int) + 7) / 8 = (nb vs : Int) := by rw [nb_eq, ← hP]; omega
    have hnb : nb vs ≤ 200000 := by rw [nb_eq, ← hP]; omega
    have hmk := make_any (P := Tryz.prog) Tryz.underlying22 byteInfo rfl (by decide) (nb vs) (by omega)
    have HP := Lib.hid hP
    clear h0 hbd hlohi hP
    go_enter Tryz.func230, Tryz.ntmps230
    go_wp2_with fail
    refine HBD.out.mono ?_
    rintro e w1 ⟨rfl, n1, rfl⟩
    go_wp2_with fail
    rw [HD.out]
    refine (Tryz.bits_Len64 _ _ (by omega) (by have h1 := (hiTo_I64 HI.out vs.length); have h2 := loTo_I64 HI.out vs.length; unfold I64 at h1 h2; omega)).mono ?_
    rintro e w2 ⟨rfl, rfl⟩
    rw [pw_is, lo_is, hi_is]
    go_wp2_with fail
    refine (putint_any base _ _ (lo vs) _ (H.out.drewN _) (by omega) HLO.out (by exact hb)).mono ?_
    rintro e w4 ⟨v4, rfl, hB4, hO4⟩
    have B4 := Lib.hid hB4
    have O4 : Hid (Onto w v v4 w4) := Onto.trans ((Onto.refl _ _).drewN n1) hO4
    have R4 : Hid (Rd (· < base) w4 A (vs.map (.int .i64))) := (HR.out.drewN n1).onto hO4 H.out.ne
    have hz4 := O4.out.1.size
    have hv4 := vint_len10 (zz_lt HLO.out)
    clear hB4 hO4
    go_wp2_with (at_builtin; refine wpList_append1 rfl _ _ 22 rfl base Tryz.underlying22 byteInfo rfl (by decide) (v := _) (by rfl) (w0 := _) (cs := #[.int .u8 (pw vs : Int)]) B4.out (by rfl) rfl (by simp [Value.oneCell']) (by decide) (by rw [List.length_append]; omega) (by omega) ?_; intro v5 w5 hv5 hg5 hob5)
    have B5 := Lib.hid (Byts.snoc hv5)
    have O45 := onto_ap hg5 hob5
    have R5 : Hid (Rd (· < base) w5 A (vs.map (.int .i64))) := R4.out.onto O45 B4.out.ne
    have O5 := Lib.hid (O4.out.trans O45)
    have hz5 := O5.out.1.size
    clear hv5 hg5 hob5 O45 B4 R4 O4
    go_wp2_with fail
    have BL : Hid (Blk (w5.alloc (.cells (Array.replicate (nb vs) (Value.int .u8 0)) 5)) w5.heap.size 5 (cellsOf (allBits vs 0))) := by
      show Blk _ _ _ _
      rw [show cellsOf (allBits vs 0) = Array.replicate (nb vs) (Value.int .u8 0) from (cells_zero _).symm]
      exact Blk.new _ _ _
    obtain ⟨gB, hgB⟩ : ∃ gB, gB = w5.heap.size := ⟨_, rfl⟩
    rw [← hgB] at BL ⊢
    have hgB1 : w5.heap.size ≤ gB := by omega
    have HGB := Lib.hid hgB
    clear hgB hmk hmul hdiv
    go_loopw [10, 11] (fun at' j wr => ∃ i : Nat, i ≤ vs.length ∧ j = .int .i64 i ∧ at' = .int .i64 ((i * pw vs : Nat) : Int) ∧ Blk wr gB 5 (cellsOf (allBits vs i)) ∧ w5.grownBy wr none) (fun _ j _ => vs.length - (intOf j).toNat)
    case atStart => exact ⟨0, Nat.zero_le _, rfl, by simp, BL.out, only_alloc (only_refl _ _) _⟩
    case round =>
      obtain ⟨i, hi, rfl, rfl, hBk, hG⟩ := hrel
      have BK := Lib.hid hBk
      have HG := Lib.hid hG
      clear hBk hG BL
      by_cases hlt : i < vs.length
      · obtain ⟨b, off, x, rfl, hc, hx2⟩ := (R5.out.grown HG.out (by simp)).int_at hlt
        have HX : Hid (I64 x) := by show I64 x; rw [← hx2.out]; exact getD_I64 HI.out i
        have HDX : Hid (IntKind.u64.wrap (IntKind.u64.wrap x - IntKind.u64.wrap (lo vs)) = (df vs i : Int)) := by
          show IntKind.u64.wrap (IntKind.u64.wrap x - IntKind.u64.wrap (lo vs)) = (df vs i : Int)
          rw [df_is, hx2.out]
          exact u64_diff HX.out HLO.out (by rw [← hx2.out]; exact lo_le hlt)
        obtain ⟨p, hp⟩ : ∃ p, p = i * pw vs := ⟨_, rfl⟩
        have hpb : p + pw vs ≤ P := by
          rw [hp, HP.out]
          have := Nat.mul_le_mul_right (pw vs) (show i + 1 ≤ vs.length from hlt)
          rw [Nat.add_mul] at this; omega
        rw [← hp]
        have HPI := Lib.hid hp
        clear hp
        obtain ⟨wo, rfl⟩ : ∃ wo : World, wo = wr := ⟨_, rfl⟩
        go_wp2_with fail
        rw [HDX.out]
        go_loopw [10, 13] (fun at' j wi => ∃ k : Nat, k ≤ pw vs ∧ j = .int .i64 k ∧ at' = .int .i64 ((p + k : Nat) : Int) ∧ Blk wi gB 5 (cellsOf (wBits (allBits vs i) p (df vs i) k)) ∧ w5.grownBy wi none) (fun _ j _ => pw vs - (intOf j).toNat)
        case atStart => exact ⟨0, Nat.zero_le _, rfl, rfl, by rw [wBits]; exact BK.out, HG.out⟩
        case round =>
          obtain ⟨k, hk, rfl, rfl, hBk2, hG2⟩ := hrel
          have BK2 := Lib.hid hBk2
          have HG2 := Lib.hid hG2
          clear hBk2 hG2
          by_cases hkw : k < pw vs
          · obtain ⟨q, hq⟩ : ∃ q, q = p + k := ⟨_, rfl⟩
            have hqP : q < P := hq ▸ Nat.lt_of_lt_of_le (Nat.add_lt_add_left hkw p) hpb
            have hqb : q ≤ 1280000 := Nat.le_trans (Nat.le_of_lt hqP) hPb
            rw [← hq]
            have hqn : q / 8 < nb vs := div_lt (by rw [nb_eq, HP.out]) hqP
            obtain ⟨q8, hq8⟩ : ∃ q8, q8 = q / 8 := ⟨_, rfl⟩
            obtain ⟨m8, hm8⟩ : ∃ m8, m8 = q % 8 := ⟨_, rfl⟩
            have hm7 : m8 ≤ 7 := by omega
            rw [← hq8] at hqn
            have hqi : (q8 : Int) < (nb vs : Int) := by omega
            have hq80 : (0 : Int) ≤ (q8 : Int) := by omega
            have hm80 : (0 : Int) ≤ (m8 : Int) := by omega
            obtain ⟨cur, hcur⟩ : ∃ cur, cur = (wBits (allBits vs i) p (df vs i) k).getD q8 0 := ⟨_, rfl⟩
            have hcell := (BK2.out.cell q8).trans (cellsOf_at (by rw [wBits_len, allBits_len]; exact hqn))
            rw [← hcur] at hcell
            have hfr := BK2.out.frozen q8
            have HQ := Lib.hid (And.intro hq (And.intro hq8 (And.intro hm8 hcur)))
            have hqd : (q : Int).tdiv 8 = (q8 : Int) := hq8 ▸ tdiv8 q
            have hqm : (q : Int).tmod 8 = (m8 : Int) := hm8 ▸ tmod8 q
            have hq8w : IntKind.i64.wrap (q8 : Int) = (q8 : Int) := i64_nat (Nat.le_trans (Nat.le_of_lt hqn) (Nat.le_trans hnb (by decide)))
            have hm8w : IntKind.i64.wrap (m8 : Int) = (m8 : Int) := i64_nat (Nat.le_trans hm7 (by decide))
            have HV := Lib.hid (bit_of (d := df vs i) (k := k) (df_lt HI.out hlt))
            have hw : wBits (allBits vs i) p (df vs i) (k + 1) = (wBits (allBits vs i) p (df vs i) k).set q8 (cur ||| (df vs i / 2 ^ k % 2) <<< m8) := by
              rw [wBits, setBit, ← HQ.out.1, ← HQ.out.2.1, ← HQ.out.2.2.1, ← HQ.out.2.2.2]
            have HW := Lib.hid hw
            have hb2 : df vs i / 2 ^ k % 2 < 2 := Nat.mod_lt _ (by decide)
            have HQN := Lib.hid hqn
            clear hq hq8 hm8 hcur hqn hpb hPb hw
            by_cases hbit : df vs i / 2 ^ k % 2 = 1
            · have t1 : (bits BinOp.and IntKind.u64 ((df vs i : Int) / 2 ^ k) 1 == 1) = true := by rw [HV.out, hbit]; rfl
              have HBIT := Lib.hid hbit
              clear hbit hb2
              go_wp2_with fail
              go_still_tail 10, (by kernel_rfl)
              go_wp2_with fail
              clear hqd hqm hq8w hm8w
              rw [bit_one (by rw [HQ.out.2.2.2]; exact (Bt.all vs i).w _ _ _ _) hm7]
              have hfin := BK2.out.set_ q8 (.int .u8 ((cur ||| 1 <<< m8 : Nat) : Int))
              rw [cellsOf_set] at hfin
              exact ⟨⟨k + 1, hkw, by go_num, by rw [HQ.out.1]; go_num, by rw [HW.out, HBIT.out]; exact hfin, only_drew (only_setNew HG2.out hgB1 _)⟩, by simp [intOf]; omega⟩
            · have hb0 : df vs i / 2 ^ k % 2 = 0 := by omega
              have t1 : (bits BinOp.and IntKind.u64 ((df vs i : Int) / 2 ^ k) 1 == 1) = false := by rw [HV.out, hb0]; rfl
              have HBIT := Lib.hid hb0
              clear hbit hb2 hb0 hqd hqm hq8w hm8w
              go_wp2_with fail
              go_roundw
              case rel =>
                refine ⟨k + 1, hkw, by go_num, by rw [HQ.out.1]; go_num, ?_, HG2.out⟩
                rw [HW.out, HBIT.out, Nat.zero_shiftLeft, Nat.or_zero, HQ.out.2.2.2, set_same]
                exact BK2.out
              case measure => simp [intOf]; omega
          · obtain rfl : k = pw vs := by omega
            go_wp2_with fail
            go_roundw
            case rel => exact ⟨i + 1, by omega, by go_num, by rw [HPI.out, Nat.add_mul, Nat.one_mul], by rw [allBits, ← HPI.out]; exact BK2.out, HG2.out⟩
            case measure => simp [intOf]; omega
      · obtain rfl : i = vs.length := by omega
        have B6 : Hid (Byts base wr v5 (xs ++ vint (zz (lo vs)) ++ [(pw vs : Int)])) := own_ext B5.out HG.out
        have hzr := HG.out.size
        have hRB := BK.out.rd
        rw [cellsOf_list] at hRB
        have RB := Lib.hid hRB
        have hal := allBits_len vs vs.length
        have HAL := Lib.hid hal
        clear hRB hal
        go_wp2_with (at_builtin; refine wpList_appendN rfl _ _ 22 rfl base Tryz.underlying22 byteInfo rfl (by decide) (v := v5) (by rfl) B6.out (some ⟨gB, 0, none⟩) (nb vs) (nb vs) (by rfl) RB.out (by rw [List.length_map, List.length_map, HAL.out, Nat.mul_one]) (by simp [Value.oneCell']) (by decide) (by rw [List.length_append, List.length_append]; simp; omega) (by omega) ?_; intro v7 w7 hv7 hg7 hob7)
        have HF : Hid (Byts base w7 v7 (xs ++ packB vs)) := by
          show Byts base w7 v7 (xs ++ packB vs)
          rw [HPB.out]
          have e : xs ++ (vint (zz (lo vs)) ++ ([(pw vs : Int)] ++ (allBits vs vs.length).map (fun (n : Nat) => (n : Int)))) = (xs ++ vint (zz (lo vs)) ++ [(pw vs : Int)]) ++ (allBits vs vs.length).map (fun (n : Nat) => (n : Int)) := by simp
          rw [e]
          unfold Byts
          rw [List.map_append, List.length_append, List.length_map, HAL.out]
          exact hv7
        have O7 : Hid (Onto w v v7 w7) := O5.out.trans ((Onto.trans ⟨only_of_none HG.out _, .inl rfl⟩) ⟨hg7, hob7.elim .inl (fun h => .inr ⟨_, Nat.le_refl _, h⟩)⟩)
        clear hv7 hg7 hob7
        go_wp2_with fail
        go_ret
        exact ⟨v7, rfl, HF.out, O7.out⟩
end Go.Proofs.YtpaiideboodaeaaGreatDoor

namespace Go.Proofs.YtpaiideboodaeaaGreatDoor
open Go.RowKit
set_option linter.unusedVariables false
set_option linter.unusedSimpArgs false

def RetExt (v : Value) (w : World) (e : Ending) (w' : World) : Prop := e = .returned v ∧ w.grownBy w' none
def bodyB (kind : Int) (vs : List Int) : List Int :=
  if kind = 0 then genTo (plF vs) vs.length else if kind = 1 then genTo (dlF vs) vs.length else if kind = 2 then runsB vs else packB vs
def colErr (kind : Int) (vs : List Int) : Int := if kind < 0 ∨ 4 ≤ kind then 2 else if 16384 < vs.length then 4 else 0
def colB (kind : Int) (vs : List Int) : List Int := if colErr kind vs = 0 then [kind] ++ (vint vs.length ++ bodyB kind vs) else []
theorem colB_ok {kind : Int} {vs : List Int} (h : colErr kind vs = 0) : colB kind vs = [kind] ++ (vint vs.length ++ bodyB kind vs) := by unfold colB; rw [if_pos h]
theorem colB_no {kind : Int} {vs : List Int} (h : ¬ colErr kind vs = 0) : colB kind vs = [] := by unfold colB; rw [if_neg h]
def CEPost (w : World) (kind : Int) (vs : List Int) (e : Ending) (w' : World) : Prop :=
  ∃ v, e = .returned (.tuple #[v, .int .i64 (colErr kind vs)]) ∧ Byts w.heap.size w' v (colB kind vs) ∧ w.grownBy w' none
theorem Rd.gr {w w' : World} {B : Nat} {A : Option Addr} {xs : List Value} (h : Rd (· < B) w A xs) (hg : w.grownBy w' none) : Rd (· < B) w' A xs := h.grown hg (by simp)
theorem byts_one (w : World) (x : Int) (base : Nat) (hb : base ≤ w.heap.size) : Byts base (w.alloc (.cells #[.int .u8 x] 5)) (.slice (some ⟨w.heap.size, 0, none⟩) 1 1) [x] :=
  ⟨by simp, .inr ⟨w.heap.size, 1, #[.int .u8 x], rfl, hb, heap_alloc_new w _, Nat.le_refl _, by unfold maxLen; decide, by simp, by simp⟩⟩

end Go.Proofs.YtpaiideboodaeaaGreatDoor

namespace Go.Proofs.YtpaiideboodaeaaGreatDoor
open Go.RowKit
set_option linter.unusedVariables false
set_option linter.unusedSimpArgs false

def sh (b best : List Int) : List Int := if b.length < best.length then b else best
def bestTo (vs : List Int) : Nat → List Int
  | 0 => []
  | 1 => colB 0 vs
  | k + 2 => sh (colB (k + 1 : Nat) vs) (bestTo vs (k + 1))
theorem best_step (vs : List Int) {k : Nat} (h : 1 ≤ k) : bestTo vs (k + 1) = sh (colB (k : Nat) vs) (bestTo vs k) := by
  obtain ⟨j, rfl⟩ : ∃ j, k = j + 1 := ⟨k - 1, by omega⟩
  rfl
theorem Byts.base {b b' : Nat} {w : World} {v : Value} {xs : List Int} (h : Byts b w v xs) (hb : b' ≤ b) : Byts b' w v xs := by
  obtain ⟨h1, h2⟩ := h
  refine ⟨h1, ?_⟩
  rcases h2 with h2 | ⟨g, cap, cur, e, hg, r⟩
  · exact .inl h2
  · exact .inr ⟨g, cap, cur, e, Nat.le_trans hb hg, r⟩
theorem Byts.slice {b : Nat} {w : World} {v : Value} {xs : List Int} (h : Byts b w v xs) : ∃ A c, v = .slice A xs.length c := by
  obtain ⟨A, c, h, _⟩ := h.rd
  exact ⟨A, c, h⟩
theorem colErr_k {vs : List Int} (h : vs.length ≤ 16384) {k : Nat} (hk : k ≤ 3) : colErr (k : Nat) vs = 0 := by
  unfold colErr; rw [if_neg (by omega), if_neg (by omega)]
theorem colErr_big {vs : List Int} (h : 16384 < vs.length) {k : Nat} (hk : k ≤ 3) : colErr (k : Nat) vs = 4 := by
  unfold colErr; rw [if_neg (by omega), if_pos h]
def EPost (w : World) (vs : List Int) (e : Ending) (w' : World) : Prop :=
  ∃ v, e = .returned (.tuple #[v, .int .i64 (if 16384 < vs.length then 4 else 0)]) ∧ Byts w.heap.size w' v (bestTo vs 4) ∧ w.grownBy w' none
theorem best_big {vs : List Int} (h : 16384 < vs.length) : bestTo vs 4 = [] := by
  have e : ∀ k : Nat, k ≤ 3 → colB (k : Nat) vs = [] := fun k hk => colB_no (by rw [colErr_big h hk]; decide)
  simp only [bestTo, e 1 (by omega), e 2 (by omega), e 3 (by omega), sh]
  simp

end Go.Proofs.YtpaiideboodaeaaGreatDoor

namespace Go.Proofs.YtpaiideboodaeaaGreatDoor
open Go.RowKit
set_option linter.unusedVariables false
set_option linter.unusedSimpArgs false

theorem genTo_bound {vs : List Int} (h : ∀ x ∈ vs, I64 x) (f : Nat → List Int) (hf : ∀ i, (f i).length ≤ 10) (hl : vs.length ≤ 16384) {k : Nat} (hk : k ≤ vs.length) : (genTo f k).length ≤ 163840 := by
  have := genTo_len f 10 hf k
  omega
theorem rcol_ok {kind : Int} {vs : List Int} (he : colErr kind vs = 0) {xs : List Int} (h : xs = [kind] ++ vint vs.length ++ bodyB kind vs) : colB kind vs = xs := by
  rw [colB_ok he, h, List.append_assoc]

set_option maxHeartbeats 1000000 in
set_option maxRecDepth 100000 in
theorem rencas_err (kind : Int) (A : Option Addr) (vs : List Int) (c : Nat) (w : World) (hl : vs.length ≤ 1000000) (he : (kind < 0 ∨ 4 ≤ kind) ∨ 16384 < vs.length) :
    Calls Tryz.prog 201 #[.int .i64 kind, .slice A vs.length c] w (CEPost w kind vs) := by
  by_cases hk : kind < 0 ∨ 4 ≤ kind
  · have HE : Hid (colErr kind vs = 2) := by show colErr kind vs = 2; unfold colErr; rw [if_pos hk]
    clear he
    by_cases hk0 : kind < 0
    · have d0 : decide (kind < 0) = true := by simp [hk0]
      clear hk
      go_enter Tryz.func201, Tryz.ntmps201
      go_wp2_with fail
      go_ret2
      exact ⟨_, by rw [HE.out]; rfl, by rw [colB_no (by rw [HE.out]; decide)]; exact Byts.nil _ _, only_refl _ _⟩
    · have d0 : decide (kind < 0) = false := by simp; omega
      have d1 : decide ((3 : Int) < kind) = true := by simp; omega
      clear hk
      go_enter Tryz.func201, Tryz.ntmps201
      go_wp2_with fail
      go_ret2
      exact ⟨_, by rw [HE.out]; rfl, by rw [colB_no (by rw [HE.out]; decide)]; exact Byts.nil _ _, only_refl _ _⟩
  · have hv : 16384 < vs.length := by omega
    have HE : Hid (colErr kind vs = 4) := by show colErr kind vs = 4; unfold colErr; rw [if_neg hk, if_pos hv]
    have d0 : decide (kind < 0) = false := by simp; omega
    have d1 : decide ((3 : Int) < kind) = false := by simp; omega
    have d2 : decide ((16384 : Int) < (vs.length : Int)) = true := by simp; omega
    clear hk he
    go_enter Tryz.func201, Tryz.ntmps201
    go_wp2_with fail
    go_ret2
    exact ⟨_, by rw [HE.out]; rfl, by rw [colB_no (by rw [HE.out]; decide)]; exact Byts.nil _ _, only_refl _ _⟩
/-- the head: the kind and the number of values -/
def HeadAt (w : World) (kind : Int) (vs : List Int) (A : Option Addr) (v : Value) (w' : World) : Prop :=
  Byts w.heap.size w' v ([kind] ++ vint vs.length) ∧ Rd (· < w.heap.size) w' A (vs.map (.int .i64)) ∧ w.grownBy w' none

set_option maxHeartbeats 2000000 in
set_option maxRecDepth 100000 in
theorem rencas_3 (A : Option Addr) (vs : List Int) (c : Nat) (w : World) (hr : Rd (fun _ => True) w A (vs.map (.int .i64))) (hl : vs.length ≤ 16384) (hi : ∀ x ∈ vs, I64 x) :
    Calls Tryz.prog 201 #[.int .i64 3, .slice A vs.length c] w (CEPost w 3 vs) := by
  have HR := Lib.hid (hr.mono (S' := (· < w.heap.size)) (fun _ _ h => h))
  have HI := Lib.hid hi
  have HE : Hid (colErr 3 vs = 0) := by show colErr 3 vs = 0; unfold colErr; rw [if_neg (by decide), if_neg (by omega)]
  have hlv := vint_len10 (n := vs.length) (by omega)
  have dlen : decide ((16384 : Int) < (vs.length : Int)) = false := by simp; omega
  clear hr hi
  go_enter Tryz.func201, Tryz.ntmps201
  go_wp2_with fail
  refine (rvarint_any w.heap.size _ [3] vs.length _ (byts_one _ _ _ (Nat.le_refl _)) (by simp) (by omega) (by simp)).mono ?_
  rintro e w2 ⟨v2, rfl, hB2, hO2⟩
  have HH : Hid (HeadAt w 3 vs A v2 w2) := by
    have G2 : w.grownBy w2 none := Byts.only (byts_one w 3 w.heap.size (Nat.le_refl _)) hO2 (only_alloc (only_refl _ _) _) (Nat.le_refl _)
    exact ⟨hB2, HR.out.gr G2, G2⟩
  have hz2 := HH.out.2.2.size
  clear hB2 hO2
  go_wp2_with fail
  refine (rpack_any w.heap.size _ _ A vs c _ HH.out.1 HH.out.2.1 (by simp; omega) (by omega) HI.out hz2).mono ?_
  rintro e w3 ⟨v3, rfl, hB3, hO3⟩
  have G3 : Hid (w.grownBy w3 none) := Byts.only HH.out.1 hO3 HH.out.2.2 (Nat.le_refl _)
  have B3 := Lib.hid hB3
  clear hB3 hO3
  go_wp2_with fail
  go_ret2
  exact ⟨v3, by rw [HE.out]; rfl, by rw [rcol_ok HE.out rfl]; exact B3.out, G3.out⟩

set_option maxHeartbeats 2000000 in
set_option maxRecDepth 100000 in
theorem rencas_0 (A : Option Addr) (vs : List Int) (c : Nat) (w : World) (hr : Rd (fun _ => True) w A (vs.map (.int .i64))) (hl : vs.length ≤ 16384) (hi : ∀ x ∈ vs, I64 x) :
    Calls Tryz.prog 201 #[.int .i64 0, .slice A vs.length c] w (CEPost w 0 vs) := by
  have HR := Lib.hid (hr.mono (S' := (· < w.heap.size)) (fun _ _ h => h))
  have HI := Lib.hid hi
  have HE : Hid (colErr 0 vs = 0) := by show colErr 0 vs = 0; unfold colErr; rw [if_neg (by decide), if_neg (by omega)]
  have hlv := vint_len10 (n := vs.length) (by omega)
  have dlen : decide ((16384 : Int) < (vs.length : Int)) = false := by simp; omega
  clear hr hi
  go_enter Tryz.func201, Tryz.ntmps201
  go_wp2_with fail
  refine (rvarint_any w.heap.size _ [0] vs.length _ (byts_one _ _ _ (Nat.le_refl _)) (by simp) (by omega) (by simp)).mono ?_
  rintro e w2 ⟨v2, rfl, hB2, hO2⟩
  have HH : Hid (HeadAt w 0 vs A v2 w2) := by
    have G2 : w.grownBy w2 none := Byts.only (byts_one w 0 w.heap.size (Nat.le_refl _)) hO2 (only_alloc (only_refl _ _) _) (Nat.le_refl _)
    exact ⟨hB2, HR.out.gr G2, G2⟩
  have hz2 := HH.out.2.2.size
  clear hB2 hO2
  go_wp2_with fail
  go_loopw [6, 7] (fun u i wr => ∃ k : Nat, k ≤ vs.length ∧ i = .int .i64 k ∧ Byts w.heap.size wr u ([0] ++ vint vs.length ++ genTo (plF vs) k) ∧ w.grownBy wr none) (fun _ i _ => vs.length - (intOf i).toNat)
  case atStart => exact ⟨0, Nat.zero_le _, rfl, by simpa [genTo] using HH.out.1, HH.out.2.2⟩
  case round =>
    obtain ⟨k, hk, rfl, hB, hG⟩ := hrel
    have HB := Lib.hid hB
    have HG := Lib.hid hG
    have hz := hG.size
    have hgl := genTo_len (plF vs) 10 (plF_len HI.out) k
    clear hB hG HH
    by_cases hlt : k < vs.length
    · obtain ⟨b, off, x, rfl, hc, hx2⟩ := (HR.out.gr HG.out).int_at hlt
      have HX : Hid (I64 x) := by show I64 x; rw [← hx2.out]; exact getD_I64 HI.out k
      go_wp2_with fail
      refine (putint_any w.heap.size _ _ x _ HB.out (by simp; omega) HX.out hz).mono ?_
      rintro e w3 ⟨v3, rfl, hB3, hO3⟩
      have B3 : Hid (Byts w.heap.size w3 v3 ([0] ++ vint vs.length ++ genTo (plF vs) (k + 1))) := by
        show Byts w.heap.size w3 v3 ([0] ++ vint vs.length ++ (genTo (plF vs) k ++ vint (zz (vs.getD k 0))))
        rw [hx2.out, ← List.append_assoc]; exact hB3
      have G3 : Hid (w.grownBy w3 none) := HB.out.only hO3 HG.out (Nat.le_refl _)
      clear hB3 hO3
      go_wp2_with fail
      go_roundw
      case rel => exact ⟨k + 1, by omega, by go_num, B3.out, G3.out⟩
      case measure => simp [intOf]; omega
    · obtain rfl : k = vs.length := by omega
      go_wp2_with fail
      go_ret2
      exact ⟨_, by rw [HE.out]; rfl, by rw [rcol_ok HE.out rfl]; exact HB.out, HG.out⟩

set_option maxHeartbeats 2000000 in
set_option maxRecDepth 100000 in
theorem rencas_1 (A : Option Addr) (vs : List Int) (c : Nat) (w : World) (hr : Rd (fun _ => True) w A (vs.map (.int .i64))) (hl : vs.length ≤ 16384) (hi : ∀ x ∈ vs, I64 x) :
    Calls Tryz.prog 201 #[.int .i64 1, .slice A vs.length c] w (CEPost w 1 vs) := by
  have HR := Lib.hid (hr.mono (S' := (· < w.heap.size)) (fun _ _ h => h))
  have HI := Lib.hid hi
  have HE : Hid (colErr 1 vs = 0) := by show colErr 1 vs = 0; unfold colErr; rw [if_neg (by decide), if_neg (by omega)]
  have hlv := vint_len10 (n := vs.length) (by omega)
  have dlen : decide ((16384 : Int) < (vs.length : Int)) = false := by simp; omega
  clear hr hi
  go_enter Tryz.func201, Tryz.ntmps201
  go_wp2_with fail
  refine (rvarint_any w.heap.size _ [1] vs.length _ (byts_one _ _ _ (Nat.le_refl _)) (by simp) (by omega) (by simp)).mono ?_
  rintro e w2 ⟨v2, rfl, hB2, hO2⟩
  have HH : Hid (HeadAt w 1 vs A v2 w2) := by
    have G2 : w.grownBy w2 none := Byts.only (byts_one w 1 w.heap.size (Nat.le_refl _)) hO2 (only_alloc (only_refl _ _) _) (Nat.le_refl _)
    exact ⟨hB2, HR.out.gr G2, G2⟩
  have hz2 := HH.out.2.2.size
  clear hB2 hO2
  go_wp2_with fail
  go_loopw [6, 7] (fun u i wr => ∃ k : Nat, k ≤ vs.length ∧ i = .int .i64 k ∧ Byts w.heap.size wr u ([1] ++ vint vs.length ++ genTo (dlF vs) k) ∧ w.grownBy wr none) (fun _ i _ => vs.length - (intOf i).toNat)
  case atStart => exact ⟨0, Nat.zero_le _, rfl, by simpa [genTo] using HH.out.1, HH.out.2.2⟩
  case round =>
    obtain ⟨k, hk, rfl, hB, hG⟩ := hrel
    have HB := Lib.hid hB
    have HG := Lib.hid hG
    have hz := hG.size
    have hgl := genTo_len (dlF vs) 10 (dlF_len HI.out) k
    clear hB hG HH
    by_cases hlt : k < vs.length
    · obtain ⟨b, off, x, rfl, hc, hx2⟩ := (HR.out.gr HG.out).int_at hlt
      have HX : Hid (I64 x) := by show I64 x; rw [← hx2.out]; exact getD_I64 HI.out k
      by_cases hk0 : k = 0
      · have HD : Hid (dl vs k = x) := by show dl vs k = x; unfold dl; rw [if_pos hk0, ← hx2.out, hk0]
        have dk : decide ((0 : Int) < (k : Int)) = false := by simp; omega
        have dk2 : decide (0 < k) = false := by simp; omega
        clear hk0
        go_wp2_with fail
        refine (putint_any w.heap.size _ _ x _ HB.out (by simp; omega) HX.out hz).mono ?_
        rintro e w3 ⟨v3, rfl, hB3, hO3⟩
        have B3 : Hid (Byts w.heap.size w3 v3 ([1] ++ vint vs.length ++ genTo (dlF vs) (k + 1))) := by
          show Byts w.heap.size w3 v3 ([1] ++ vint vs.length ++ (genTo (dlF vs) k ++ vint (zz (dl vs k))))
          rw [HD.out, ← List.append_assoc]; exact hB3
        have G3 : Hid (w.grownBy w3 none) := HB.out.only hO3 HG.out (Nat.le_refl _)
        clear hB3 hO3
        go_wp2_with fail
        go_roundw
        case rel => exact ⟨k + 1, by omega, by go_num, B3.out, G3.out⟩
        case measure => simp [intOf]; omega
      · obtain ⟨j, rfl⟩ : ∃ j, k = j + 1 := ⟨k - 1, by omega⟩
        obtain ⟨y, hcy, hy2⟩ := (HR.out.gr HG.out).int_at' (k := j) (by omega)
        have HD : Hid (wrap64 (x - y) = dl vs (j + 1)) := by
          show wrap64 (x - y) = dl vs (j + 1)
          unfold dl; rw [if_neg (by omega), hx2.out, Nat.add_sub_cancel, hy2.out, IntWalk.i64_left]
        have HW : Hid (I64 (wrap64 (x - y))) := by show I64 (wrap64 (x - y)); rw [HD.out]; exact dl_I64 HI.out _
        have dk : decide ((0 : Int) < ((j + 1 : Nat) : Int)) = true := decide_eq_true (by omega)
        have dk2 : decide ((0 : Int) < (j : Int) + 1) = true := decide_eq_true (by omega)
        have i1 : (j : Int) < (vs.length : Int) := by omega
        have i2 : (j : Int) + 1 < (vs.length : Int) := by omega
        have i3 : (0 : Int) ≤ (j : Int) := by omega
        have i4 : (0 : Int) ≤ (j : Int) + 1 := by omega
        have i5 : ((j : Int) + 1).toNat = j + 1 := by omega
        have hwj : IntKind.i64.wrap (j : Int) = (j : Int) := i64_nat (by omega)
        clear hk0
        go_wp2_with fail
        go_still_tail 11, (by kernel_rfl)
        clear hwj i5
        change wpList _ _ _ _ _ wr.drew
        go_wp2_with fail
        refine (putint_any w.heap.size _ _ _ _ (own_drew HB.out) (by simp; omega) HW.out (by exact hz)).mono ?_
        rintro e w3 ⟨v3, rfl, hB3, hO3⟩
        have B3 : Hid (Byts w.heap.size w3 v3 ([1] ++ vint vs.length ++ genTo (dlF vs) (j + 1 + 1))) := by
          show Byts w.heap.size w3 v3 ([1] ++ vint vs.length ++ (genTo (dlF vs) (j + 1) ++ vint (zz (dl vs (j + 1)))))
          rw [← HD.out, ← List.append_assoc]; exact hB3
        have G3 : Hid (w.grownBy w3 none) := Byts.only (own_drew HB.out) hO3 (only_drew HG.out) (Nat.le_refl _)
        clear hB3 hO3
        go_wp2_with fail
        go_roundw
        case rel => exact ⟨j + 1 + 1, by omega, by go_num, B3.out, G3.out⟩
        case measure => simp [intOf]; omega
    · obtain rfl : k = vs.length := by omega
      go_wp2_with fail
      go_ret2
      exact ⟨_, by rw [HE.out]; rfl, by rw [rcol_ok HE.out rfl]; exact HB.out, HG.out⟩

set_option maxHeartbeats 2000000 in
set_option maxRecDepth 100000 in
theorem rencas_2 (A : Option Addr) (vs : List Int) (c : Nat) (w : World) (hr : Rd (fun _ => True) w A (vs.map (.int .i64))) (hl : vs.length ≤ 16384) (hi : ∀ x ∈ vs, I64 x) :
    Calls Tryz.prog 201 #[.int .i64 2, .slice A vs.length c] w (CEPost w 2 vs) := by
  have HR := Lib.hid (hr.mono (S' := (· < w.heap.size)) (fun _ _ h => h))
  have HI := Lib.hid hi
  have HE : Hid (colErr 2 vs = 0) := by show colErr 2 vs = 0; unfold colErr; rw [if_neg (by decide), if_neg (by omega)]
  have hlv := vint_len10 (n := vs.length) (by omega)
  have dlen : decide ((16384 : Int) < (vs.length : Int)) = false := by simp; omega
  clear hr hi
  go_enter Tryz.func201, Tryz.ntmps201
  go_wp2_with fail
  refine (rvarint_any w.heap.size _ [2] vs.length _ (byts_one _ _ _ (Nat.le_refl _)) (by simp) (by omega) (by simp)).mono ?_
  rintro e w2 ⟨v2, rfl, hB2, hO2⟩
  have HH : Hid (HeadAt w 2 vs A v2 w2) := by
    have G2 : w.grownBy w2 none := Byts.only (byts_one w 2 w.heap.size (Nat.le_refl _)) hO2 (only_alloc (only_refl _ _) _) (Nat.le_refl _)
    exact ⟨hB2, HR.out.gr G2, G2⟩
  have hz2 := HH.out.2.2.size
  clear hB2 hO2
  go_wp2_with fail
  go_loopw [6, 7] (fun u i wr => ∃ (k : Nat) (ys : List Int), k ≤ vs.length ∧ i = .int .i64 k ∧ Byts w.heap.size wr u ([2] ++ vint vs.length ++ ys) ∧ ys ++ runsB (vs.drop k) = runsB vs ∧ ys.length ≤ 20 * k ∧ w.grownBy wr none) (fun _ i _ => vs.length - (intOf i).toNat)
  case atStart => exact ⟨0, [], Nat.zero_le _, rfl, by simpa using HH.out.1, by simp, by simp, HH.out.2.2⟩
  case round =>
    obtain ⟨k, ys, hk, rfl, hB, hY, hyl, hG⟩ := hrel
    have HB := Lib.hid hB
    have HG := Lib.hid hG
    have HY := Lib.hid hY
    have hz := hG.size
    clear hB hG HH hY
    by_cases hlt : k < vs.length
    · obtain ⟨b, off, x, rfl, hc, hx2⟩ := (HR.out.gr HG.out).int_at hlt
      have HX : Hid (I64 x) := by show I64 x; rw [← hx2.out]; exact getD_I64 HI.out k
      obtain ⟨wo, rfl⟩ : ∃ wo : World, wo = wr := ⟨_, rfl⟩
      have RO := Lib.hid (HR.out.gr HG.out)
      go_wp2_with fail
      go_loopw [7, 8] (fun i n wi => ∃ m : Nat, k + m < vs.length ∧ i = .int .i64 ((k + m : Nat) : Int) ∧ n = .int .i64 ((m + 1 : Nat) : Int) ∧ (∀ i, k ≤ i → i < k + m + 1 → vs.getD i 0 = vs.getD k 0) ∧ ∃ q, wi = wo.drewN q) (fun i _ _ => vs.length - (intOf i).toNat)
      case atStart => exact ⟨0, by omega, rfl, rfl, (fun i h1 h2 => by rw [show i = k from by omega]), 0, rfl⟩
      case round =>
        obtain ⟨m, hm, rfl, rfl, hall, q, rfl⟩ := hrel
        have AL := Lib.hid hall
        clear hall
        obtain ⟨t, ht⟩ : ∃ t, t = k + m := ⟨_, rfl⟩
        rw [← ht]
        rw [← ht] at hm AL
        obtain ⟨z, hcz, hz2⟩ := RO.out.int_at' hm
        obtain rfl : z = x := by have h1 := AL.out t (by omega) (by omega); rw [hz2.out, hx2.out] at h1; exact h1
        have HT := Lib.hid ht
        have htk : k ≤ t := by omega
        have hmb : m ≤ 16384 := by omega
        have i1 : (t : Int) < (vs.length : Int) := by omega
        clear ht
        by_cases htl : t + 1 < vs.length
        · obtain ⟨y, hcy, hy2⟩ := RO.out.int_at' htl
          have i2 : (t : Int) + 1 < (vs.length : Int) := by omega
          have i4 : (0 : Int) ≤ (t : Int) + 1 := by omega
          have i5 : ((t : Int) + 1).toNat = t + 1 := by omega
          have hwt : IntKind.i64.wrap ((t : Int) + 1) = (t : Int) + 1 := IntWalk.i64_in _ (by omega)
          by_cases hxy : y = z
          · have t1 : (y == z) = true := by simp [hxy]
            have HXY := Lib.hid hxy
            clear hxy
            go_wp2_with fail
            go_quiet (fail)
            clear hwt i5
            go_wp2_with fail
            go_roundw
            case rel =>
              refine ⟨m + 1, by rw [← Nat.add_assoc, ← HT.out]; exact htl, by rw [← Nat.add_assoc, ← HT.out]; go_num, by go_num, fun i h1 h2 => ?_, _, rfl⟩
              rw [← Nat.add_assoc, ← HT.out] at h2
              rcases Nat.lt_or_ge i (t + 1) with h | h
              · exact AL.out i h1 h
              · obtain rfl : i = t + 1 := by omega
                rw [hy2.out, hx2.out, HXY.out]
            case measure => simp [intOf]; omega
          · have t1 : (y == z) = false := by simp [hxy]
            have HS := Lib.hid (runs_step (j := t + 1) (show k < t + 1 by omega) (by omega) AL.out (.inr (by rw [hy2.out, hx2.out]; exact hxy)))
            clear hxy
            go_wp2_with fail
            go_quiet (fail)
            clear hwt i5
            go_wp2_with fail
            refine (putint_any w.heap.size _ _ z _ (HB.out.drewN _) (by simp; omega) HX.out (by exact hz)).mono ?_
            rintro e w3 ⟨v3, rfl, hB3, hO3⟩
            have B3 := Lib.hid hB3
            have G3 : Hid (w.grownBy w3 none) := Byts.only (HB.out.drewN _) hO3 (only_drewN HG.out _) (Nat.le_refl _)
            have hz3 := G3.out.size
            have hv3 := vint_len10 (zz_lt HX.out)
            clear hB3 hO3
            go_wp2_with fail
            rw [show ((m : Int) + 1) = ((m + 1 : Nat) : Int) from by omega]
            refine (rvarint_any w.heap.size _ _ (m + 1) _ B3.out (by simp; omega) (by omega) hz3).mono ?_
            rintro e w4 ⟨v4, rfl, hB4, hO4⟩
            have B4 : Hid (Byts w.heap.size w4 v4 ([2] ++ vint vs.length ++ (ys ++ (vint (zz z) ++ vint (m + 1))))) := by
              show Byts _ _ _ _
              simpa only [List.append_assoc] using hB4
            have G4 : Hid (w.grownBy w4 none) := B3.out.only hO4 G3.out (Nat.le_refl _)
            have E4 : Hid ((ys ++ (vint (zz z) ++ vint (m + 1))) ++ runsB (vs.drop (t + 1)) = runsB vs) := by
              show _ = _
              rw [← HY.out, HS.out, hx2.out, show t + 1 - k = m + 1 from by have := HT.out; omega]; simp
            have hv4 := vint_len10 (n := m + 1) (by omega)
            clear hB4 hO4
            go_wp2_with fail
            go_roundw
            case rel => exact ⟨t + 1, _, by omega, by go_num, B4.out, E4.out, by simp only [List.length_append]; omega, G4.out⟩
            case measure => simp [intOf]; omega
        · have dt : decide ((t : Int) + 1 < (vs.length : Int)) = false := decide_eq_false (by omega)
          have hwt : IntKind.i64.wrap ((t : Int) + 1) = (t : Int) + 1 := IntWalk.i64_in _ (by omega)
          have HS := Lib.hid (runs_step (j := t + 1) (show k < t + 1 by omega) (by omega) AL.out (.inl (by omega)))
          go_wp2_with fail
          go_quiet (fail)
          clear hwt
          go_wp2_with fail
          refine (putint_any w.heap.size _ _ z _ (HB.out.drewN _) (by simp; omega) HX.out (by exact hz)).mono ?_
          rintro e w3 ⟨v3, rfl, hB3, hO3⟩
          have B3 := Lib.hid hB3
          have G3 : Hid (w.grownBy w3 none) := Byts.only (HB.out.drewN _) hO3 (only_drewN HG.out _) (Nat.le_refl _)
          have hz3 := G3.out.size
          have hv3 := vint_len10 (zz_lt HX.out)
          clear hB3 hO3
          go_wp2_with fail
          rw [show ((m : Int) + 1) = ((m + 1 : Nat) : Int) from by omega]
          refine (rvarint_any w.heap.size _ _ (m + 1) _ B3.out (by simp; omega) (by omega) hz3).mono ?_
          rintro e w4 ⟨v4, rfl, hB4, hO4⟩
          have B4 : Hid (Byts w.heap.size w4 v4 ([2] ++ vint vs.length ++ (ys ++ (vint (zz z) ++ vint (m + 1))))) := by
            show Byts _ _ _ _
            simpa only [List.append_assoc] using hB4
          have G4 : Hid (w.grownBy w4 none) := B3.out.only hO4 G3.out (Nat.le_refl _)
          have E4 : Hid ((ys ++ (vint (zz z) ++ vint (m + 1))) ++ runsB (vs.drop (t + 1)) = runsB vs) := by
            show _ = _
            rw [← HY.out, HS.out, hx2.out, show t + 1 - k = m + 1 from by have := HT.out; omega]; simp
          have hv4 := vint_len10 (n := m + 1) (by omega)
          clear hB4 hO4
          go_wp2_with fail
          go_roundw
          case rel => exact ⟨t + 1, _, by omega, by go_num, B4.out, E4.out, by simp only [List.length_append]; omega, G4.out⟩
          case measure => simp [intOf]; omega
    · obtain rfl : k = vs.length := by omega
      have HF : Hid (ys = runsB vs) := by
        show ys = runsB vs
        rw [← HY.out, List.drop_length, runsB_nil, List.append_nil]
      go_wp2_with fail
      go_ret2
      exact ⟨_, by rw [HE.out]; rfl, by rw [rcol_ok HE.out rfl]; rw [HF.out] at HB; exact HB.out, HG.out⟩
end Go.Proofs.YtpaiideboodaeaaGreatDoor

namespace Go.Proofs.YtpaiideboodaeaaGreatDoor
open Go.RowKit
set_option linter.unusedVariables false
set_option linter.unusedSimpArgs false

theorem rencas_any (kind : Int) (A : Option Addr) (vs : List Int) (c : Nat) (w : World) (hr : Rd (fun _ => True) w A (vs.map (.int .i64))) (hl : vs.length ≤ 1000000) (hi : ∀ x ∈ vs, I64 x) :
    Calls Tryz.prog 201 #[.int .i64 kind, .slice A vs.length c] w (CEPost w kind vs) := by
  by_cases he : (kind < 0 ∨ 4 ≤ kind) ∨ 16384 < vs.length
  · exact rencas_err kind A vs c w hl he
  · have h4 : kind = 0 ∨ kind = 1 ∨ kind = 2 ∨ kind = 3 := by omega
    rcases h4 with rfl | rfl | rfl | rfl
    · exact rencas_0 A vs c w hr (by omega) hi
    · exact rencas_1 A vs c w hr (by omega) hi
    · exact rencas_2 A vs c w hr (by omega) hi
    · exact rencas_3 A vs c w hr (by omega) hi

set_option maxHeartbeats 1000000 in
set_option maxRecDepth 100000 in
theorem rcenc_any (A : Option Addr) (vs : List Int) (c : Nat) (w : World) (hr : Rd (fun _ => True) w A (vs.map (.int .i64))) (hl : vs.length ≤ 1000000) (hi : ∀ x ∈ vs, I64 x) :
    Calls Tryz.prog 153 #[.slice A vs.length c] w (EPost w vs) := by
  have HR := Lib.hid hr
  have HI := Lib.hid hi
  clear hr hi
  by_cases hv : 16384 < vs.length
  · have HE : Hid (colErr 0 vs = 4) := colErr_big (k := 0) hv (by omega)
    have HB := Lib.hid (best_big hv)
    have HV := Lib.hid hv
    clear hv
    go_enter Tryz.func153, Tryz.ntmps153
    go_wp2_with fail
    refine (rencas_any 0 A vs c _ HR.out hl HI.out).mono ?_
    rintro e w1 ⟨v1, rfl, hB1, hg1⟩
    rw [colB_no (by rw [HE.out]; decide)] at hB1
    rw [HE.out]
    have B1 := Lib.hid hB1
    clear hB1
    go_wp2_with fail
    go_ret2
    exact ⟨_, by rw [if_pos HV.out]; rfl, by rw [HB.out]; exact Byts.nil _ _, hg1⟩
  · have HE : Hid (colErr 0 vs = 0) := colErr_k (k := 0) (by omega) (by omega)
    have HV := Lib.hid hv
    go_enter Tryz.func153, Tryz.ntmps153
    go_wp2_with fail
    refine (rencas_any 0 A vs c _ HR.out hl HI.out).mono ?_
    rintro e w1 ⟨v1, rfl, hB1, hg1⟩
    rw [HE.out]
    have B1 := Lib.hid hB1
    have G1 := Lib.hid hg1
    clear hB1 hg1
    go_wp2_with fail
    go_loopw [4, 6] (fun b i wr => ∃ k : Nat, 1 ≤ k ∧ k ≤ 4 ∧ i = .int .i64 k ∧ Byts w.heap.size wr b (bestTo vs k) ∧ w.grownBy wr none) (fun _ i _ => 4 - (intOf i).toNat)
    case atStart => exact ⟨1, by omega, by omega, rfl, B1.out, G1.out⟩
    case round =>
      obtain ⟨k, hk1, hk2, rfl, hB, hG⟩ := hrel
      have HG := Lib.hid hG
      obtain ⟨Ab, cb, rfl⟩ := hB.slice
      have HB := Lib.hid hB
      have hz := hG.size
      clear hB hG B1 G1
      by_cases hk3 : k ≤ 3
      · have d3 : decide ((k : Int) ≤ 3) = true := by simp; omega
        have HEk : Hid (colErr (k : Nat) vs = 0) := colErr_k (by omega) hk3
        have HS := Lib.hid (best_step vs hk1)
        go_wp2_with fail
        refine (rencas_any (k : Nat) A vs c _ (HR.out.grown HG.out (by simp)) hl HI.out).mono ?_
        rintro e w2 ⟨v2, rfl, hB2, hg2⟩
        rw [HEk.out]
        obtain ⟨A2, c2, rfl⟩ := hB2.slice
        have B2 := Lib.hid (hB2.base hz)
        have BK := Lib.hid (own_ext HB.out hg2)
        have G2 : Hid (w.grownBy w2 none) := only_trans HG.out hg2
        clear hB2 hg2
        by_cases hlt : (colB (k : Nat) vs).length < (bestTo vs k).length
        · have HF : Hid (bestTo vs (k + 1) = colB (k : Nat) vs) := by show bestTo vs (k + 1) = _; rw [HS.out]; unfold sh; rw [if_pos hlt]
          have dlt : decide (((colB (k : Nat) vs).length : Int) < ((bestTo vs k).length : Int)) = true := by simp; omega
          go_wp2_with fail
          go_roundw
          case rel => exact ⟨k + 1, by omega, by omega, by go_num, by rw [HF.out]; exact B2.out, G2.out⟩
          case measure => simp [intOf]; omega
        · have HF : Hid (bestTo vs (k + 1) = bestTo vs k) := by show bestTo vs (k + 1) = _; rw [HS.out]; unfold sh; rw [if_neg hlt]
          have dlt : decide (((colB (k : Nat) vs).length : Int) < ((bestTo vs k).length : Int)) = false := by simp; omega
          go_wp2_with fail
          go_roundw
          case rel => exact ⟨k + 1, by omega, by omega, by go_num, by rw [HF.out]; exact BK.out, G2.out⟩
          case measure => simp [intOf]; omega
      · obtain rfl : k = 4 := by omega
        go_wp2_with fail
        go_ret2
        exact ⟨_, by rw [if_neg HV.out]; rfl, HB.out, HG.out⟩
end Go.Proofs.YtpaiideboodaeaaGreatDoor
