/- Bits of numbers that are not negative. No condition. -/
import Derived.Test.YtgaomilmljepoaaOnto
import Derived.Laws.Bits64b
namespace Go.Proofs.Ytgaomilmljepoaa
open Go.RowKit
set_option linter.unusedVariables false
set_option linter.unusedSimpArgs false

theorem ofInt_nat (n a : Nat) (h : a < 2 ^ n) : (BitVec.ofInt n (a : Int)).toNat = a := by
  rw [BitVec.ofInt_natCast, BitVec.toNat_ofNat]; exact Nat.mod_eq_of_lt h
theorem and_i64 (a b : Nat) (ha : a < 2 ^ 63) (hb : b < 2 ^ 63) : bits .and .i64 (a : Int) (b : Int) = ((a &&& b : Nat) : Int) := by
  have hx : a &&& b < 2 ^ 63 := Nat.and_lt_two_pow _ hb
  show IntKind.i64.wrap ((BitVec.ofInt 64 (a : Int) &&& BitVec.ofInt 64 (b : Int)).toNat : Int) = _
  rw [BitVec.toNat_and, ofInt_nat 64 a (by omega), ofInt_nat 64 b (by omega), IntKind.wrap_i64]
  omega
theorem or_i64 (a b : Nat) (ha : a < 2 ^ 63) (hb : b < 2 ^ 63) : bits .or .i64 (a : Int) (b : Int) = ((a ||| b : Nat) : Int) := by
  have hx : a ||| b < 2 ^ 63 := Nat.or_lt_two_pow ha hb
  show IntKind.i64.wrap ((BitVec.ofInt 64 (a : Int) ||| BitVec.ofInt 64 (b : Int)).toNat : Int) = _
  rw [BitVec.toNat_or, ofInt_nat 64 a (by omega), ofInt_nat 64 b (by omega), IntKind.wrap_i64]
  omega
theorem and_u8 (a b : Nat) (ha : a < 256) (hb : b < 256) : bits .and .u8 (a : Int) (b : Int) = ((a &&& b : Nat) : Int) := by
  have hx : a &&& b < 2 ^ 8 := Nat.and_lt_two_pow _ hb
  show IntKind.u8.wrap ((BitVec.ofInt 8 (a : Int) &&& BitVec.ofInt 8 (b : Int)).toNat : Int) = _
  rw [BitVec.toNat_and, ofInt_nat 8 a (by omega), ofInt_nat 8 b (by omega), IntKind.wrap_u8]
  omega
theorem or_u8 (a b : Nat) (ha : a < 256) (hb : b < 256) : bits .or .u8 (a : Int) (b : Int) = ((a ||| b : Nat) : Int) := by
  have hx : a ||| b < 2 ^ 8 := Nat.or_lt_two_pow (n := 8) ha hb
  show IntKind.u8.wrap ((BitVec.ofInt 8 (a : Int) ||| BitVec.ofInt 8 (b : Int)).toNat : Int) = _
  rw [BitVec.toNat_or, ofInt_nat 8 a (by omega), ofInt_nat 8 b (by omega), IntKind.wrap_u8]
  omega
theorem or128 (a : Nat) (h : a < 128) : a ||| 128 = a + 128 := by
  have := Nat.two_pow_add_eq_or_of_lt (i := 7) (b := a) h 1
  rw [Nat.or_comm] at this
  simpa [Nat.add_comm] using this.symm
theorem or128' (a : Nat) (h : a < 256) : a ||| 128 = a % 128 + 128 := by
  have h1 := or128 (a % 128) (by omega)
  by_cases h2 : a < 128
  · rw [Nat.mod_eq_of_lt h2] at h1 ⊢; exact h1
  · have e : a = (a % 128) ||| 128 := by rw [h1]; omega
    rw [← h1]
    rw [e, Nat.or_assoc, Nat.or_self]
    congr 1
    rw [h1]; omega
/-- the byte that varint appends, as the walk writes it -/
theorem vb_i64 (m : Nat) (h : m < 2 ^ 62) : bits .or .i64 (bits .and .i64 (m : Int) 127) 128 % 256 = ((m % 128 + 128 : Nat) : Int) := by
  have h1 := and_i64 m 127 (by omega) (by decide)
  have e : m &&& 127 = m % 128 := Nat.and_two_pow_sub_one_eq_mod m 7
  rw [e] at h1
  have h2 := or_i64 (m % 128) 128 (by omega) (by decide)
  rw [or128 _ (by omega)] at h2
  have h1' : bits .and .i64 (m : Int) 127 = ((m % 128 : Nat) : Int) := h1
  have h2' : bits .or .i64 ((m % 128 : Nat) : Int) 128 = ((m % 128 + 128 : Nat) : Int) := h2
  rw [h1', h2']
  omega
theorem vb_u64 (m : Nat) (h : m < 18446744073709551616) : bits .or .u64 (bits .and .u64 (m : Int) 127) 128 % 256 = ((m % 128 + 128 : Nat) : Int) := by
  have h1 := bits_and_u64_nat m 127 h (by decide)
  have e : m &&& 127 = m % 128 := Nat.and_two_pow_sub_one_eq_mod m 7
  rw [e] at h1
  have h2 := bits_or_u64_nat (m % 128) 128 (by omega) (by decide)
  rw [or128 _ (by omega)] at h2
  have h1' : bits .and .u64 (m : Int) 127 = ((m % 128 : Nat) : Int) := h1
  have h2' : bits .or .u64 ((m % 128 : Nat) : Int) 128 = ((m % 128 + 128 : Nat) : Int) := h2
  rw [h1', h2']
  omega
theorem vb_u8 (m : Nat) : bits .or .u8 ((m : Int) % 256) 128 = ((m % 128 + 128 : Nat) : Int) := by
  have h2 := or_u8 (m % 256) 128 (by omega) (by decide)
  rw [or128' _ (by omega)] at h2
  have e : ((m : Int) % 256) = ((m % 256 : Nat) : Int) := by omega
  have h2' : bits .or .u8 ((m % 256 : Nat) : Int) 128 = ((m % 256 % 128 + 128 : Nat) : Int) := h2
  rw [e, h2']
  omega
end Go.Proofs.Ytgaomilmljepoaa
