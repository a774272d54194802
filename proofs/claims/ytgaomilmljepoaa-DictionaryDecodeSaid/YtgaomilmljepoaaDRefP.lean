/- The reference's reading of a dictionary, as plain data. No condition. -/
import Derived.Test.YtgaomilmljepoaaDPure
import Derived.Test.YtgaomilmljepoaaDVarG
namespace Go.Proofs.Ytgaomilmljepoaa
open Go.RowKit
set_option linter.unusedVariables false
set_option linter.unusedSimpArgs false

theorem gNum_le : ∀ (l : List Int) (k acc v c : Nat), acc < 18446744073709551616 → gNum l k acc = some (v, c) → k < c ∧ c ≤ k + l.length ∧ v < 18446744073709551616 := by
  intro l
  induction l with
  | nil => intro k acc v c _ h; simp [gNum] at h
  | cons d l ih =>
    intro k acc v c ha h
    rw [gNum] at h
    have hb : acc ||| d.toNat % 128 * 2 ^ (7 * k) % 2 ^ 64 < 18446744073709551616 := gacc_lt ha
    split at h
    · cases h
    · split at h
      · cases h
      · split at h
        · split at h
          · cases h
          · injection h with h
            injection h with h1 h2
            simp
            omega
        · have := ih _ _ _ _ hb h
          simp
          omega
/-- the start of the word at i: how much of the last one, and where its rest begins -/
def gSh (bs : List Int) (i : Nat) (last : ByteArray) (p : Nat) : Option (Nat × Nat) :=
  if i % 16 = 0 then some (0, p) else match gNum (bs.drop p) 0 0 with
  | none => none
  | some (n, c) => if last.size < n then none else some (n, p + c)
def gWord (bs : List Int) (i : Nat) (last : ByteArray) (p : Nat) : Option (ByteArray × Nat) :=
  match gSh bs i last p with
  | none => none
  | some (n, p1) => match gNum (bs.drop p1) 0 0 with
    | none => none
    | some (m, c) => if bs.length - (p1 + c) < m then none else some (last.extract 0 n ++ strOfNums ((bs.drop (p1 + c)).take m), p1 + c + m)
def gRd (bs : List Int) : Nat → Nat → ByteArray → Nat → Option (List ByteArray)
  | 0, _, _, _ => some []
  | m + 1, i, last, p => match gWord bs i last p with
    | none => none
    | some (x, p') => match gRd bs m (i + 1) x p' with
      | none => none
      | some l => some (x :: l)
theorem gSh_le {bs : List Int} {i : Nat} {last : ByteArray} {p n p1 : Nat} (h : gSh bs i last p = some (n, p1)) (hp : p ≤ bs.length) : n ≤ last.size ∧ p ≤ p1 ∧ p1 ≤ bs.length := by
  unfold gSh at h
  split at h
  · injection h with h; injection h with h1 h2; omega
  · split at h
    · cases h
    · rename_i n' c' hg
      have := gNum_le _ _ _ _ _ (by decide) hg
      simp at this
      split at h
      · cases h
      · injection h with h; injection h with h1 h2; omega
theorem gWord_le {bs : List Int} {i : Nat} {last x : ByteArray} {p p' : Nat} (h : gWord bs i last p = some (x, p')) (hp : p ≤ bs.length) (hl : last.size ≤ p) : p < p' ∧ p' ≤ bs.length ∧ x.size ≤ p' := by
  unfold gWord at h
  split at h
  · cases h
  · rename_i n p1 hs
    have h1 := gSh_le hs hp
    split at h
    · cases h
    · rename_i m c hg
      have := gNum_le _ _ _ _ _ (by decide) hg
      simp at this
      split at h
      · cases h
      · injection h with h
        injection h with h2 h3
        have hz : x.size ≤ last.size + m := by
          rw [← h2, ByteArray.size_append, ByteArray.size_extract, strOfNums_size, List.length_take]
          omega
        omega
theorem gWord_enc {ds : List ByteArray} {bs : List Int} (hL : ¬ Long ds) {i p : Nat} {x : ByteArray} {rest : List Int} (hx : ds[i]? = some x) (hp : bs.drop p = wordB ds i ++ rest) (hpl : p ≤ bs.length) :
    gWord bs i (lastOf ds i) p = some (x, p + (wordB ds i).length) := by
  have hs : ∀ {z : ByteArray}, z ∈ ds → z.size ≤ 2048 := fun {z} hz => by
    rcases Nat.lt_or_ge 2048 z.size with h1 | h1
    · exact absurd ⟨z, hz, h1⟩ hL
    · exact h1
  have hxs := hs (List.mem_of_getElem? hx)
  have hlen : bs.length - p = (wordB ds i).length + rest.length := by have := congrArg List.length hp; simpa using this
  by_cases h16 : i % 16 = 0
  · rw [wordB_0 hx h16] at hp hlen ⊢
    have e1 : gSh bs i (lastOf ds i) p = some (0, p) := by unfold gSh; rw [if_pos h16]
    have e2 : gNum (bs.drop p) 0 0 = some (x.size, (vint x.size).length) := by rw [hp, List.append_assoc]; exact getv_back _ (by omega) _
    unfold gWord
    rw [e1]
    simp only [e2]
    have e3 : bs.drop (p + (vint x.size).length) = bts x ++ rest := by rw [← List.drop_drop, hp, List.append_assoc, List.drop_left]
    simp only [List.length_append, bts_len] at hlen
    rw [if_neg (by omega), e3, List.take_left' (bts_len x), strOfNums_bts]
    have e4 : (lastOf ds i).extract 0 0 ++ x = x := by apply toList_inj; rw [ByteArray.toList_eq, ByteArray.toList_eq]; simp
    rw [e4, List.length_append, bts_len, Nat.add_assoc]
  · obtain ⟨j, rfl⟩ : ∃ j, i = j + 1 := ⟨i - 1, by omega⟩
    have hj : j < ds.length := by
      rcases Nat.lt_or_ge j ds.length with h | h
      · exact h
      · rw [List.getElem?_eq_none (by omega)] at hx; cases hx
    have hy : ds[j + 1 - 1]? = some ds[j] := by simp [hj]
    have hlast : lastOf ds (j + 1) = ds[j] := by unfold lastOf; rw [if_neg (by omega)]; exact getD_lt ds _ hj
    generalize ds[j] = y at hy hlast
    have hys := hs (List.mem_of_getElem? hy)
    rw [hlast]
    have hc := cm_le y x
    have hez : (x.extract (cm y x) x.size).size = x.size - cm y x := by rw [ByteArray.size_extract]; omega
    rw [wordB_1 hx hy h16] at hp hlen ⊢
    rw [← hez] at hp hlen ⊢
    generalize hv1 : vint (cm y x) = v1 at *
    generalize hv2 : vint (x.extract (cm y x) x.size).size = v2 at *
    have e0 : gNum (bs.drop p) 0 0 = some (cm y x, v1.length) := by rw [hp, List.append_assoc, ← hv1]; exact getv_back _ (by omega) _
    have e1 : gSh bs (j + 1) y p = some (cm y x, p + v1.length) := by unfold gSh; rw [if_neg h16, e0]; simp only; rw [if_neg (by omega)]
    have d1 : bs.drop (p + v1.length) = v2 ++ (bts (x.extract (cm y x) x.size) ++ rest) := by rw [← List.drop_drop, hp, List.append_assoc, List.drop_left, List.append_assoc]
    have e2 : gNum (bs.drop (p + v1.length)) 0 0 = some ((x.extract (cm y x) x.size).size, v2.length) := by rw [d1, ← hv2]; exact getv_back _ (by omega) _
    have d2 : bs.drop (p + v1.length + v2.length) = bts (x.extract (cm y x) x.size) ++ rest := by rw [← List.drop_drop, d1, List.drop_left]
    simp only [List.length_append, bts_len] at hlen
    unfold gWord
    rw [e1]
    simp only [e2]
    rw [if_neg (by omega), d2, List.take_left' (bts_len _), strOfNums_bts, show y.extract 0 (cm y x) ++ x.extract (cm y x) x.size = x from ba_join (cmn_take _ _) hc.2]
    simp only [List.length_append, bts_len]
    congr 2
    omega
theorem gRd_enc {ds : List ByteArray} {bs : List Int} (hL : ¬ Long ds) : ∀ (m p : Nat), m ≤ ds.length → bs.drop p = sfx ds m → p ≤ bs.length → gRd bs m (ds.length - m) (lastOf ds (ds.length - m)) p = some (ds.drop (ds.length - m)) := by
  intro m
  induction m with
  | zero => intro p _ _ _; simp [gRd]
  | succ m ih =>
    intro p h hp hpl
    have hi : ds.length - (m + 1) < ds.length := by omega
    have hx : ds[ds.length - (m + 1)]? = some ds[ds.length - (m + 1)] := List.getElem?_eq_getElem hi
    rw [sfx] at hp
    have hlen : bs.length - p = (wordB ds (ds.length - (m + 1))).length + (sfx ds m).length := by have := congrArg List.length hp; simpa using this
    have hlast : ds[ds.length - (m + 1)] = lastOf ds (ds.length - m) := by
      unfold lastOf
      rw [if_neg (by omega), show ds.length - m - 1 = ds.length - (m + 1) by omega, getD_lt ds _ hi]
    have hr := ih (p + (wordB ds (ds.length - (m + 1))).length) (by omega) (by rw [← List.drop_drop, hp, List.drop_left]) (by omega)
    rw [gRd, gWord_enc hL hx hp hpl]
    simp only
    rw [hlast, show ds.length - (m + 1) + 1 = ds.length - m by omega, hr, List.drop_eq_getElem_cons hi, hlast, show ds.length - (m + 1) + 1 = ds.length - m by omega]
theorem gRd_all {ds : List ByteArray} (h : chk ds = 0) : gNum (encB ds) 0 0 = some (ds.length, (vint ds.length).length) ∧ gRd (encB ds) ds.length 0 ⟨#[]⟩ (vint ds.length).length = some ds := by
  obtain ⟨h1, h2⟩ := chk_long h
  have e := enc_sfx ds ds.length (Nat.le_refl _)
  rw [Nat.sub_self, encTo] at e
  refine ⟨by rw [← e]; exact getv_back _ (by omega) _, ?_⟩
  have := gRd_enc (bs := encB ds) h1 ds.length (vint ds.length).length (Nat.le_refl _) (by rw [← e, List.drop_left]) (by rw [← e]; simp)
  rw [Nat.sub_self] at this
  simpa [lastOf] using this
end Go.Proofs.Ytgaomilmljepoaa
