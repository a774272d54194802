/- A dictionary's bytes are read back. No condition. -/
import Derived.Test.YtgaomilmljepoaaDRdC
namespace Go.Proofs.Ytgaomilmljepoaa
open Go.RowKit
set_option linter.unusedVariables false
set_option linter.unusedSimpArgs false

def IsDict (bs : List Int) (ds : List ByteArray) : Prop := chk ds = 0 ∧ encB ds = bs
theorem rdN_vint {most : Nat} : ∀ (s k m acc : Nat) (rest : List Int), s + k = 4 → 0 < s → m < 128 ^ s → acc + 128 ^ k * m ≤ most → rdN most (vint m ++ rest) k acc = some (acc + 128 ^ k * m, k + (vint m).length) := by
  intro s
  induction s with
  | zero => intro k m acc rest _ h; omega
  | succ s ih =>
    intro k m acc rest hk _ hm hmost
    by_cases h : m < 128
    · rw [vint_lt h]
      have e1 : (m : Int).toNat % 128 = m := by rw [Int.toNat_natCast]; omega
      simp only [List.cons_append, List.nil_append, rdN, e1, List.length_cons, List.length_nil]
      rw [Nat.mul_comm m]
      have h1 : ¬ (most < acc + 128 ^ k * m ∨ 3 < k) := by omega
      have h2 : (m : Int) < 128 := by omega
      rw [if_neg h1, if_pos h2]
    · rw [vint_ge h]
      have e1 : ((m % 128 + 128 : Nat) : Int).toNat % 128 = m % 128 := by rw [Int.toNat_natCast]; omega
      simp only [List.cons_append, rdN, e1, List.length_cons]
      have hs0 : 0 < s := by
        rcases Nat.eq_zero_or_pos s with e | e
        · subst e; simp at hm; omega
        · exact e
      have hle : m % 128 * 128 ^ k ≤ 128 ^ k * m := by rw [Nat.mul_comm]; exact Nat.mul_le_mul_left _ (Nat.mod_le _ _)
      have h1 : ¬ (most < acc + m % 128 * 128 ^ k ∨ 3 < k) := by omega
      have h2 : ¬ (((m % 128 + 128 : Nat) : Int) < 128) := by omega
      rw [if_neg h1, if_neg h2]
      have hsum : acc + m % 128 * 128 ^ k + 128 ^ (k + 1) * (m / 128) = acc + 128 ^ k * m := by
        rw [Nat.pow_succ, Nat.mul_assoc, Nat.mul_comm (m % 128), Nat.add_assoc, ← Nat.mul_add, Nat.mod_add_div]
      rw [ih (k + 1) (m / 128) _ rest (by omega) hs0 (by rw [Nat.div_lt_iff_lt_mul (by decide)]; rw [Nat.pow_succ] at hm; exact hm) (by rw [hsum]; exact hmost), hsum]
      congr 2
      omega
theorem rdO_vint {most n : Nat} (rest : List Int) (bad : Bool) (h : n ≤ most) (h2 : n < 268435456) : rdO most (vint n ++ rest) bad = (n, rest, bad) := by
  unfold rdO
  have := rdN_vint (most := most) 4 0 n 0 rest rfl (by omega) h2 (by simpa using h)
  simp at this
  rw [this]
  simp
theorem strOfNums_bts (x : ByteArray) : strOfNums (bts x) = x := by
  apply toList_inj
  rw [Lib.strOfNums_toList, ByteArray.toList_eq]
  simp [Lib.bytesOf, bts]
  apply List.ext_getElem (by simp)
  intro i h1 h2
  simp
theorem rdT_enc {x : ByteArray} (rest : List Int) (h : x.size ≤ 2048) : rdT (vint x.size ++ (bts x ++ rest)) false = (x, rest, false) := by
  have e := rdO_vint (most := 2048) (n := x.size) (bts x ++ rest) false h (by omega)
  unfold rdT
  rw [e]
  have h1 : ¬ (bts x ++ rest).length < x.size := by rw [List.length_append, bts_len]; omega
  simp only [h1, if_false]
  rw [List.take_left' (bts_len x), List.drop_left' (bts_len x), strOfNums_bts]
theorem cmn_take : ∀ x y : List UInt8, x.take (cmn x y) = y.take (cmn x y)
  | [], y => by simp [cmn]
  | a :: x, [] => by simp [cmn]
  | a :: x, b :: y => by
    rw [cmn]
    split
    · rename_i h
      have e : a = b := by simpa using h
      have := cmn_take x y
      simp [List.take_succ_cons, e, this]
    · simp
theorem ba_join {x y : ByteArray} {k : Nat} (h : y.data.toList.take k = x.data.toList.take k) (hk : k ≤ x.size) : y.extract 0 k ++ x.extract k x.size = x := by
  apply toList_inj
  rw [ByteArray.toList_eq, ByteArray.toList_eq]
  simp only [ByteArray.data_append, ByteArray.data_extract, Array.toList_append, Array.toList_extract]
  simp only [List.extract_eq_take_drop, Nat.sub_zero, List.drop_zero]
  rw [h]
  have e : List.take (x.size - k) (List.drop k x.data.toList) = List.drop k x.data.toList := List.take_of_length_le (by rw [List.length_drop]; exact Nat.le_refl _)
  rw [e, List.take_append_drop]
/-- the bytes of the last m words -/
def sfx (ds : List ByteArray) : Nat → List Int
  | 0 => []
  | m + 1 => wordB ds (ds.length - (m + 1)) ++ sfx ds m
theorem enc_sfx (ds : List ByteArray) : ∀ m, m ≤ ds.length → encTo ds (ds.length - m) ++ sfx ds m = encB ds := by
  intro m
  induction m with
  | zero => intro _; simp [sfx, encB]
  | succ m ih =>
    intro h
    rw [sfx, ← List.append_assoc, ← ih (by omega), show ds.length - m = ds.length - (m + 1) + 1 by omega, encTo]
def lastOf (ds : List ByteArray) (i : Nat) : ByteArray := if i = 0 then ⟨#[]⟩ else ds.getD (i - 1) ⟨#[]⟩
theorem word_enc {ds : List ByteArray} (hL : ¬ Long ds) {i : Nat} {x : ByteArray} (hx : ds[i]? = some x) (rest : List Int) : wordO i (lastOf ds i) (wordB ds i ++ rest) = (x, rest, false) := by
  have hs : ∀ {z : ByteArray}, z ∈ ds → z.size ≤ 2048 := fun {z} hz => by
    rcases Nat.lt_or_ge 2048 z.size with h1 | h1
    · exact absurd ⟨z, hz, h1⟩ hL
    · exact h1
  have hxs := hs (List.mem_of_getElem? hx)
  by_cases h16 : i % 16 = 0
  · rw [wordB_0 hx h16]
    have e1 : shO i (lastOf ds i) (vint x.size ++ bts x ++ rest) = (0, vint x.size ++ bts x ++ rest, false) := by unfold shO; rw [if_pos h16]
    unfold wordO
    rw [e1]
    simp only
    rw [List.append_assoc, rdT_enc rest hxs]
    have e2 : (lastOf ds i).extract 0 0 ++ x = x := by apply toList_inj; rw [ByteArray.toList_eq, ByteArray.toList_eq]; simp
    simp only [e2]
    have e3 : decide (2048 < x.size) = false := by simpa using hxs
    rw [e3]; rfl
  · obtain ⟨j, rfl⟩ : ∃ j, i = j + 1 := ⟨i - 1, by omega⟩
    have hj : j < ds.length := by
      rcases Nat.lt_or_ge j ds.length with h | h
      · exact h
      · rw [List.getElem?_eq_none (by omega)] at hx; cases hx
    have hy : ds[j + 1 - 1]? = some ds[j] := by simp [hj]
    have hlast : lastOf ds (j + 1) = ds[j] := by unfold lastOf; rw [if_neg (by omega)]; exact getD_lt ds _ hj
    generalize ds[j] = y at hy hlast
    have hys := hs (List.mem_of_getElem? hy)
    rw [wordB_1 hx hy h16, hlast]
    have hc := cm_le y x
    have hez : (x.extract (cm y x) x.size).size = x.size - cm y x := by rw [ByteArray.size_extract]; omega
    have e1 : shO (j + 1) y (vint (cm y x) ++ (vint (x.size - cm y x) ++ bts (x.extract (cm y x) x.size)) ++ rest) = (cm y x, vint (x.extract (cm y x) x.size).size ++ (bts (x.extract (cm y x) x.size) ++ rest), false) := by
      unfold shO
      rw [if_neg h16, List.append_assoc, rdO_vint _ _ hc.1 (by omega), hez, List.append_assoc]
    unfold wordO
    rw [e1]
    simp only
    rw [rdT_enc rest (by omega)]
    have e2 : y.extract 0 (cm y x) ++ x.extract (cm y x) x.size = x := ba_join (cmn_take _ _) hc.2
    simp only [e2]
    have e3 : decide (2048 < x.size) = false := by simpa using hxs
    rw [e3]; rfl
theorem wrd_enc {ds : List ByteArray} (hL : ¬ Long ds) : ∀ m, m ≤ ds.length → wrdTo m (ds.length - m) (lastOf ds (ds.length - m)) (sfx ds m) = (ds.drop (ds.length - m), [], false) := by
  intro m
  induction m with
  | zero => intro _; simp [wrdTo, sfx]
  | succ m ih =>
    intro h
    have hi : ds.length - (m + 1) < ds.length := by omega
    have hx : ds[ds.length - (m + 1)]? = some ds[ds.length - (m + 1)] := List.getElem?_eq_getElem hi
    rw [wrdTo, sfx, word_enc hL hx]
    have hlast : ds[ds.length - (m + 1)] = lastOf ds (ds.length - m) := by
      unfold lastOf
      rw [if_neg (by omega), show ds.length - m - 1 = ds.length - (m + 1) by omega, getD_lt ds _ hi]
    simp only [Bool.false_eq_true, if_false]
    rw [hlast, show ds.length - (m + 1) + 1 = ds.length - m by omega, ih (by omega), List.drop_eq_getElem_cons hi, hlast, show ds.length - (m + 1) + 1 = ds.length - m by omega]
/-- the whole text of Decode's reading -/
def prs (bs : List Int) : List ByteArray × List Int × Bool := wrdTo (rdO 32768 bs false).1 0 ⟨#[]⟩ (rdO 32768 bs false).2.1
theorem prs_enc {ds : List ByteArray} (h : chk ds = 0) : rdO 32768 (encB ds) false = (ds.length, sfx ds ds.length, false) ∧ wrdTo ds.length 0 ⟨#[]⟩ (sfx ds ds.length) = (ds, [], false) := by
  obtain ⟨h1, h2⟩ := chk_long h
  have e := enc_sfx ds ds.length (Nat.le_refl _)
  rw [Nat.sub_self] at e
  refine ⟨?_, ?_⟩
  · rw [← e, encTo]; exact rdO_vint _ _ h2 (by omega)
  · have := wrd_enc h1 ds.length (Nat.le_refl _)
    rw [Nat.sub_self] at this
    simpa [lastOf] using this
end Go.Proofs.Ytgaomilmljepoaa
