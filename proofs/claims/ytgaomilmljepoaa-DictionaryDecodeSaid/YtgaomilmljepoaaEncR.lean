/- Encode of dictionaries: the reference. Condition: at most 2000 words. -/
import Derived.Test.YtgaomilmljepoaaEnc
import Derived.Test.YtgaomilmljepoaaUnion
namespace Go.Proofs.Ytgaomilmljepoaa
open Go.RowKit
set_option linter.unusedVariables false
set_option linter.unusedSimpArgs false

set_option maxHeartbeats 2000000 in
set_option maxRecDepth 100000 in
theorem rencode_any {S : Nat → Prop} (A : Option Addr) (ds : List ByteArray) (c : Nat) (w : World) (h : Rd S w A (ds.map .string)) (hl : ds.length ≤ 2000) :
    Calls Try.prog 25 #[.slice A ds.length c] w (EncPost w ds) := by
  have H := Lib.hid h
  clear h
  by_cases hk : chk ds = 0
  · have HK := Lib.hid hk
    have hq : (chk ds != 0) = false := by simp [hk]
    obtain ⟨hL, -⟩ := chk_long hk
    have HL := Lib.hid hL
    clear hk hL
    go_enter Try.func25, Try.ntmps25
    go_wp2_with fail
    refine (rcheck_any A ds c _ H.out (by omega)).mono ?_
    rintro e w1 ⟨rfl, n1, rfl⟩
    go_wp2_with fail
    refine (rvarint_any w.heap.size (.slice none 0 0) [] ds.length _ (Byts.nil _ _) (by simp) (by omega) (by exact Nat.le_refl _)).mono ?_
    rintro e w2 ⟨v2, rfl, hB2, hO2⟩
    have G2 : Hid (w.grownBy w2 none) := only_trans (only_drewN (only_refl _ _) n1) hO2.1
    have B2 := Lib.hid hB2
    clear hB2 hO2
    go_wp2_with fail
    go_loopw [5, 6] (fun v i wr => ∃ k : Nat, k ≤ ds.length ∧ i = .int .i64 k ∧ Byts w.heap.size wr v (encTo ds k) ∧ w.grownBy wr none) (fun _ i _ => ds.length - (intOf i).toNat)
    case atStart => exact ⟨0, Nat.zero_le _, rfl, by simpa [encTo] using B2.out, G2.out⟩
    case round =>
      obtain ⟨k, hk, rfl, hB, hG⟩ := hrel
      have HB := Lib.hid hB
      have HG := Lib.hid hG
      have hz := hG.size
      have hel := encTo_len HL.out (by omega) k
      clear hB hG B2 G2
      by_cases hlt : k < ds.length
      · obtain ⟨b, off, x, rfl, hc, hx⟩ := (H.out.grown HG.out (by simp)).str_at hlt
        have hxs : x.size ≤ 2048 := by
          rcases Nat.lt_or_ge 2048 x.size with h1 | h1
          · exact absurd ⟨x, List.mem_of_getElem? hx.out, h1⟩ HL.out
          · exact h1
        by_cases h16 : k % 16 = 0
        · have t1 : (((k : Int) % 16) != 0) = false := by simp; omega
          have HW := Lib.hid (wordB_0 hx.out h16)
          clear h16
          go_wp2_with fail
          refine (rvarint_any w.heap.size _ _ x.size _ HB.out (by omega) (by omega) hz).mono ?_
          rintro e w3 ⟨v3, rfl, hB3, hO3⟩
          have HB3 := Lib.hid hB3
          have G3 : Hid (w.grownBy w3 none) := HB.out.only hO3 HG.out (Nat.le_refl _)
          have hz3 := G3.out.size
          have hl3 := vint_len3 (n := x.size) (by omega)
          have hc3 := Rd.str_cell (H.out.grown G3.out (by simp)) hx.out
          clear hB3 hO3
          go_wp2_with (at_builtin; refine wpList_appendS rfl _ _ 22 9 rfl w.heap.size Try.underlying22 Try.underlying9 byteInfo (v := _) (by rfl) HB3.out x (by rfl) (by rw [List.length_append]; omega) hz3 ?_; intro v4 w4 hB4 hg4)
          have HB4 : Hid (Byts w.heap.size w4 v4 (encTo ds (k + 1))) := by
            show Byts w.heap.size w4 v4 (encTo ds k ++ wordB ds k)
            rw [HW.out, ← List.append_assoc]; exact hB4
          have G4 : Hid (w.grownBy w4 none) := only_own G3.out hg4 HB3.out (Nat.le_refl _)
          clear hB4 hg4
          go_wp2_with fail
          go_roundw
          case rel => exact ⟨k + 1, by omega, by go_num, HB4.out, G4.out⟩
          case measure => simp [intOf]; omega
        · obtain ⟨j, rfl⟩ : ∃ j, k = j + 1 := ⟨k - 1, by omega⟩
          obtain ⟨y, hcy, hy⟩ := (H.out.grown HG.out (by simp)).str_at' (k := j) (by omega)
          have hys : y.size ≤ 2048 := by
            rcases Nat.lt_or_ge 2048 y.size with h1 | h1
            · exact absurd ⟨y, List.mem_of_getElem? hy.out, h1⟩ HL.out
            · exact h1
          have HW := Lib.hid (wordB_1 hx.out (by simpa using hy.out) h16)
          have t1 : ((((j + 1 : Nat) : Int) % 16) != 0) = true := by simp; omega
          have t2 : ((((j : Nat) : Int) + 1) % 16 != 0) = true := by simp; omega
          have hcl := cm_le y x
          have HCC := Lib.hid (cm_comm x y)
          have hwk : IntKind.i64.wrap (j : Int) = (j : Int) := IntWalk.i64_in _ (by omega)
          have i1 : (j : Int) < (ds.length : Int) := by omega
          have i2 : (j : Int) + 1 < (ds.length : Int) := by omega
          have i3 : (0 : Int) ≤ (j : Int) := by omega
          have i4 : (0 : Int) ≤ (j : Int) + 1 := by omega
          have i5 : ((j : Int) + 1).toNat = j + 1 := by omega
          clear h16
          go_wp2_with fail
          go_quiet ((go_at_call 45; exact quiet_of0 (rcommon_any x y _ (by omega) (by omega))))
          rw [HCC.out]
          have hci : (cm y x : Int) ≤ (x.size : Int) := by omega
          have hcj : (0 : Int) ≤ (x.size : Int) - (cm y x : Int) := by omega
          clear hwk i5
          go_wp2_with fail
          refine (rvarint_any w.heap.size _ _ (cm y x) _ (HB.out.drewN _) (by omega) (by omega) (by exact hz)).mono ?_
          rintro e w4 ⟨v4, rfl, hB4, hO4⟩
          have HB4 := Lib.hid hB4
          have G4 : Hid (w.grownBy w4 none) := Byts.only (HB.out.drewN nq) hO4 (only_drewN HG.out nq) (Nat.le_refl _)
          have hz4 := G4.out.size
          have hl4 := vint_len3 (n := cm y x) (by omega)
          have hc4 := Rd.str_cell (H.out.grown G4.out (by simp)) hx.out
          clear hB4 hO4
          go_wp2_with fail
          rw [show ((x.size : Int) - (cm y x : Int)) = ((x.size - cm y x : Nat) : Int) from by omega]
          refine (rvarint_any w.heap.size _ _ (x.size - cm y x) _ HB4.out (by rw [List.length_append]; omega) (by omega) hz4).mono ?_
          rintro e w5 ⟨v5, rfl, hB5, hO5⟩
          have HB5 := Lib.hid hB5
          have G5 : Hid (w.grownBy w5 none) := Byts.only HB4.out hO5 G4.out (Nat.le_refl _)
          have hz5 := G5.out.size
          have hl5 := vint_len3 (n := x.size - cm y x) (by omega)
          have hc5 := Rd.str_cell (H.out.grown G5.out (by simp)) hx.out
          clear hB5 hO5
          go_wp2_with (at_builtin; refine wpList_appendS rfl _ _ 22 9 rfl w.heap.size Try.underlying22 Try.underlying9 byteInfo (v := _) (by rfl) HB5.out (x.extract (cm y x) x.size) (by rfl) (by rw [List.length_append, List.length_append, ByteArray.size_extract]; omega) hz5 ?_; intro v6 w6 hB6 hg6)
          have HB6 : Hid (Byts w.heap.size w6 v6 (encTo ds (j + 1 + 1))) := by
            show Byts w.heap.size w6 v6 (encTo ds (j + 1) ++ wordB ds (j + 1))
            rw [HW.out, ← List.append_assoc, ← List.append_assoc]; exact hB6
          have G6 : Hid (w.grownBy w6 none) := only_own G5.out hg6 HB5.out (Nat.le_refl _)
          clear hB6 hg6
          go_wp2_with fail
          go_roundw
          case rel => exact ⟨j + 1 + 1, by omega, by go_num, HB6.out, G6.out⟩
          case measure => simp [intOf]; omega
      · obtain rfl : k = ds.length := by omega
        go_wp2_with fail
        go_ret2
        exact ⟨_, by rw [HK.out]; rfl, by rw [encR_ok HK.out]; exact HB.out, HG.out⟩
  · have hq : (chk ds != 0) = true := by simp [hk]
    have HK := Lib.hid hk
    clear hk
    go_enter Try.func25, Try.ntmps25
    go_wp2_with fail
    refine (rcheck_any A ds c _ H.out (by omega)).mono ?_
    rintro e w1 ⟨rfl, n1, rfl⟩
    go_wp2_with fail
    go_ret2
    exact ⟨_, rfl, by rw [encR_no HK.out]; exact Byts.nil _ _, only_drewN (only_refl _ _) _⟩
end Go.Proofs.Ytgaomilmljepoaa
