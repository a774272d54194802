/- Encode of dictionaries, both texts. Condition: at most 2000 words. -/
import Derived.Test.YtgaomilmljepoaaVarD
import Derived.Test.YtgaomilmljepoaaVarR
import Derived.Test.YtgaomilmljepoaaCommon
import Derived.Test.YtgaomilmljepoaaCheckRef
namespace Go.Proofs.Ytgaomilmljepoaa
open Go.RowKit
set_option linter.unusedVariables false
set_option linter.unusedSimpArgs false

/-- the bytes of the word at i -/
def wordB (ds : List ByteArray) (i : Nat) : List Int :=
  match ds[i]? with
  | none => []
  | some x => if i % 16 = 0 then vint x.size ++ bts x else
    match ds[i - 1]? with
    | none => []
    | some y => vint (cm y x) ++ (vint (x.size - cm y x) ++ bts (x.extract (cm y x) x.size))
def encTo (ds : List ByteArray) : Nat → List Int
  | 0 => vint ds.length
  | k + 1 => encTo ds k ++ wordB ds k
def encB (ds : List ByteArray) : List Int := encTo ds ds.length
theorem wordB_0 {ds : List ByteArray} {i : Nat} {x : ByteArray} (hx : ds[i]? = some x) (h : i % 16 = 0) : wordB ds i = vint x.size ++ bts x := by
  simp [wordB, hx, h]
theorem wordB_1 {ds : List ByteArray} {i : Nat} {x y : ByteArray} (hx : ds[i]? = some x) (hy : ds[i - 1]? = some y) (h : ¬ i % 16 = 0) : wordB ds i = vint (cm y x) ++ (vint (x.size - cm y x) ++ bts (x.extract (cm y x) x.size)) := by
  simp [wordB, hx, hy, h]
theorem vint_len3 {n : Nat} (h : n ≤ 2000000) : (vint n).length ≤ 3 := vint_len_pow 2 n (Nat.lt_of_le_of_lt h (by decide))
theorem wordB_len {ds : List ByteArray} (h : ¬ Long ds) (i : Nat) : (wordB ds i).length ≤ 2060 := by
  unfold wordB
  cases hx : ds[i]? with
  | none => simp
  | some x =>
    have hs : x.size ≤ 2048 := by
      rcases Nat.lt_or_ge 2048 x.size with h1 | h1
      · exact absurd ⟨x, List.mem_of_getElem? hx, h1⟩ h
      · exact h1
    simp only
    split
    · have := vint_len3 (n := x.size) (by omega)
      rw [List.length_append, bts_len]; omega
    · cases hy : ds[i - 1]? with
      | none => simp
      | some y =>
        have hc := cm_le y x
        have h1 := vint_len3 (n := cm y x) (by omega)
        have h2 := vint_len3 (n := x.size - cm y x) (by omega)
        simp only [List.length_append, bts_len, ByteArray.size_extract]
        omega
theorem encTo_len {ds : List ByteArray} (h : ¬ Long ds) (hl : ds.length ≤ 32768) : ∀ k, (encTo ds k).length ≤ 3 + 2060 * k
  | 0 => by have := vint_len3 (n := ds.length) (by omega); simpa [encTo] using this
  | k + 1 => by
    have h1 := encTo_len h hl k
    have h2 := wordB_len h k
    simp only [encTo, List.length_append]
    omega
theorem chk_long {ds : List ByteArray} (h : chk ds = 0) : ¬ Long ds ∧ ds.length ≤ 32768 := by
  unfold chk at h
  split at h
  · cases h
  · split at h
    · cases h
    · rename_i h1 h2; exact ⟨h2, by omega⟩
/-- what Encode hands back -/
noncomputable def encR (ds : List ByteArray) : List Int := if chk ds = 0 then encB ds else []
theorem encR_ok {ds : List ByteArray} (h : chk ds = 0) : encR ds = encB ds := by unfold encR; rw [if_pos h]
theorem encR_no {ds : List ByteArray} (h : ¬ chk ds = 0) : encR ds = [] := by unfold encR; rw [if_neg h]
theorem encR_len (ds : List ByteArray) (hl : ds.length ≤ 2000) : (encR ds).length ≤ 5000000 := by
  by_cases h : chk ds = 0
  · rw [encR_ok h]; have := encTo_len (chk_long h).1 (chk_long h).2 ds.length; unfold encB; omega
  · rw [encR_no h]; simp
def EncPost (w : World) (ds : List ByteArray) (e : Ending) (w' : World) : Prop :=
  ∃ v, e = .returned (.tuple #[v, .int .i64 (chk ds)]) ∧ Byts w.heap.size w' v (encR ds) ∧ w.grownBy w' none

set_option maxHeartbeats 2000000 in
set_option maxRecDepth 100000 in
theorem dencode_any {S : Nat → Prop} (A : Option Addr) (ds : List ByteArray) (c : Nat) (w : World) (h : Rd S w A (ds.map .string)) (hl : ds.length ≤ 2000) :
    Calls Try.prog 24 #[.slice A ds.length c] w (EncPost w ds) := by
  have H := Lib.hid h
  clear h
  by_cases hk : chk ds = 0
  · have HK := Lib.hid hk
    have hq : (chk ds != 0) = false := by simp [hk]
    obtain ⟨hL, -⟩ := chk_long hk
    have HL := Lib.hid hL
    clear hk hL
    go_enter Try.func24, Try.ntmps24
    go_wp2_with fail
    refine (check_any A ds c _ H.out (by omega)).mono ?_
    rintro e w1 ⟨rfl, n1, rfl⟩
    go_wp2_with fail
    refine (dvarint_any w.heap.size (.slice none 0 0) [] ds.length _ (Byts.nil _ _) (by simp) (by omega) (by exact Nat.le_refl _)).mono ?_
    rintro e w2 ⟨v2, rfl, hB2, hO2⟩
    have G2 : Hid (w.grownBy w2 none) := only_trans (only_drewN (only_refl _ _) n1) hO2.1
    have B2 := Lib.hid hB2
    clear hB2 hO2
    go_wp2_with fail
    go_loopw [5, 19] (fun v i wr => ∃ k : Nat, k ≤ ds.length ∧ i = .int .i64 k ∧ Byts w.heap.size wr v (encTo ds k) ∧ w.grownBy wr none) (fun _ i _ => ds.length - (intOf i).toNat)
    case atStart => exact ⟨0, Nat.zero_le _, rfl, by simpa [encTo] using B2.out, G2.out⟩
    case round =>
      obtain ⟨k, hk, rfl, hB, hG⟩ := hrel
      have HB := Lib.hid hB
      have HG := Lib.hid hG
      have hz := hG.size
      have hel := encTo_len HL.out (by omega) k
      clear hB hG B2 G2
      by_cases hlt : k < ds.length
      · obtain ⟨b, off, x, rfl, hc, hx⟩ := (H.out.grown HG.out (by simp)).str_at hlt
        have hxs : x.size ≤ 2048 := by
          rcases Nat.lt_or_ge 2048 x.size with h1 | h1
          · exact absurd ⟨x, List.mem_of_getElem? hx.out, h1⟩ HL.out
          · exact h1
        by_cases h16 : k % 16 = 0
        · have t1 : (((k : Int) % 16) != 0) = false := by simp; omega
          have HW := Lib.hid (wordB_0 hx.out h16)
          clear h16
          go_wp2_with fail
          refine (dvarint_any w.heap.size _ _ x.size _ HB.out (by omega) (by omega) hz).mono ?_
          rintro e w3 ⟨v3, rfl, hB3, hO3⟩
          have HB3 := Lib.hid hB3
          have G3 : Hid (w.grownBy w3 none) := HB.out.only hO3 HG.out (Nat.le_refl _)
          have hz3 := G3.out.size
          have hl3 := vint_len3 (n := x.size) (by omega)
          clear hB3 hO3
          go_wp2_with (at_builtin; refine wpList_appendS rfl _ _ 22 9 rfl w.heap.size Try.underlying22 Try.underlying9 byteInfo (v := _) (by rfl) HB3.out x (by rfl) (by rw [List.length_append]; omega) hz3 ?_; intro v4 w4 hB4 hg4)
          have HB4 : Hid (Byts w.heap.size w4 v4 (encTo ds (k + 1))) := by
            show Byts w.heap.size w4 v4 (encTo ds k ++ wordB ds k)
            rw [HW.out, ← List.append_assoc]; exact hB4
          have G4 : Hid (w.grownBy w4 none) := only_own G3.out hg4 HB3.out (Nat.le_refl _)
          clear hB4 hg4
          go_wp2_with fail
          go_roundw
          case rel => exact ⟨k + 1, by omega, by go_num, HB4.out, G4.out⟩
          case measure => simp [intOf]; omega
        · obtain ⟨j, rfl⟩ : ∃ j, k = j + 1 := ⟨k - 1, by omega⟩
          obtain ⟨y, hcy, hy⟩ := (H.out.grown HG.out (by simp)).str_at' (k := j) (by omega)
          have hys : y.size ≤ 2048 := by
            rcases Nat.lt_or_ge 2048 y.size with h1 | h1
            · exact absurd ⟨y, List.mem_of_getElem? hy.out, h1⟩ HL.out
            · exact h1
          have HW := Lib.hid (wordB_1 hx.out (by simpa using hy.out) h16)
          have t1 : ((((j + 1 : Nat) : Int) % 16) != 0) = true := by simp; omega
          have t2 : ((((j : Nat) : Int) + 1) % 16 != 0) = true := by simp; omega
          have hcl := cm_le y x
          clear h16
          go_wp2_with fail
          refine (dcommon_any y x _ (by omega) (by omega)).mono ?_
          rintro e w3 ⟨rfl, n3, rfl⟩
          go_wp2_with fail
          refine (dvarint_any w.heap.size _ _ (cm y x) _ (HB.out.drewN _) (by omega) (by omega) (by exact hz)).mono ?_
          rintro e w4 ⟨v4, rfl, hB4, hO4⟩
          have HB4 := Lib.hid hB4
          have G4 : Hid (w.grownBy w4 none) := Byts.only (HB.out.drewN n3) hO4 (only_drewN HG.out n3) (Nat.le_refl _)
          have hz4 := G4.out.size
          have hl4 := vint_len3 (n := cm y x) (by omega)
          have hci : (cm y x : Int) ≤ (x.size : Int) := by omega
          clear hB4 hO4
          go_wp2_with fail
          refine (dvarint_any w.heap.size _ _ (x.size - cm y x) _ HB4.out (by rw [List.length_append]; omega) (by omega) hz4).mono ?_
          rintro e w5 ⟨v5, rfl, hB5, hO5⟩
          have HB5 := Lib.hid hB5
          have G5 : Hid (w.grownBy w5 none) := Byts.only HB4.out hO5 G4.out (Nat.le_refl _)
          have hz5 := G5.out.size
          have hl5 := vint_len3 (n := x.size - cm y x) (by omega)
          clear hB5 hO5
          go_wp2_with (at_builtin; refine wpList_appendS rfl _ _ 22 9 rfl w.heap.size Try.underlying22 Try.underlying9 byteInfo (v := _) (by rfl) HB5.out (x.extract (cm y x) x.size) (by rfl) (by rw [List.length_append, List.length_append, ByteArray.size_extract]; omega) hz5 ?_; intro v6 w6 hB6 hg6)
          have HB6 : Hid (Byts w.heap.size w6 v6 (encTo ds (j + 1 + 1))) := by
            show Byts w.heap.size w6 v6 (encTo ds (j + 1) ++ wordB ds (j + 1))
            rw [HW.out, ← List.append_assoc, ← List.append_assoc]; exact hB6
          have G6 : Hid (w.grownBy w6 none) := only_own G5.out hg6 HB5.out (Nat.le_refl _)
          clear hB6 hg6
          go_wp2_with fail
          go_roundw
          case rel => exact ⟨j + 1 + 1, by omega, by go_num, HB6.out, G6.out⟩
          case measure => simp [intOf]; omega
      · obtain rfl : k = ds.length := by omega
        go_wp2_with fail
        go_ret2
        exact ⟨_, by rw [HK.out]; rfl, by rw [encR_ok HK.out]; exact HB.out, HG.out⟩
  · have hq : (chk ds != 0) = true := by simp [hk]
    have HK := Lib.hid hk
    clear hk
    go_enter Try.func24, Try.ntmps24
    go_wp2_with fail
    refine (check_any A ds c _ H.out (by omega)).mono ?_
    rintro e w1 ⟨rfl, n1, rfl⟩
    go_wp2_with fail
    go_ret2
    exact ⟨_, rfl, by rw [encR_no HK.out]; exact Byts.nil _ _, only_drewN (only_refl _ _) _⟩
end Go.Proofs.Ytgaomilmljepoaa
