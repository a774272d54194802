/- law23: DictionaryDecodeInvertsEncode: the walk of the law itself. For every input. -/
import Derived.Test.YtgaomilmljepoaaLaw23A
import Derived.Test.YtgaomilmljepoaaDRdD
import Derived.Test.YtgaomilmljepoaaSrt
import Derived.Test.YtgaomilmljepoaaSame
import Derived.Test.YtgaomilmljepoaaSameBytes
import Derived.Test.YtgaomilmljepoaaDictC
namespace Go.Proofs.Ytgaomilmljepoaa
open Go.RowKit
set_option linter.unusedVariables false
set_option linter.unusedSimpArgs false

theorem enc_inj {x y : List ByteArray} (hx : chk x = 0) (hy : chk y = 0) (h : encB x = encB y) : x = y := by
  obtain ⟨p1, p2⟩ := prs_enc hx
  obtain ⟨q1, q2⟩ := prs_enc hy
  rw [h, q1] at p1
  injection p1 with p1 p3
  injection p3 with p3 p4
  rw [← p3, ← p1, q2] at p2
  injection p2 with p2 p5
  exact p2.symm
theorem wordB_len14 {ds : List ByteArray} (h : ∀ s ∈ ds, s.size ≤ 14) (i : Nat) : (wordB ds i).length ≤ 20 := by
  unfold wordB
  cases hx : ds[i]? with
  | none => simp
  | some x =>
    have hs := h x (List.mem_of_getElem? hx)
    simp only
    split
    · have := vint_len3 (n := x.size) (by omega)
      rw [List.length_append, bts_len]; omega
    · cases hy : ds[i - 1]? with
      | none => simp
      | some y =>
        have hc := cm_le y x
        have h1 := vint_len3 (n := cm y x) (by omega)
        have h2 := vint_len3 (n := x.size - cm y x) (by omega)
        simp only [List.length_append, bts_len, ByteArray.size_extract]
        omega
theorem enc_len14 {ds : List ByteArray} (h : ∀ s ∈ ds, s.size ≤ 14) (hl : ds.length ≤ 32768) : ∀ k, (encTo ds k).length ≤ 3 + 20 * k
  | 0 => by have := vint_len3 (n := ds.length) (by omega); simpa [encTo] using this
  | k + 1 => by
    have h1 := enc_len14 h hl k
    have h2 := wordB_len14 h k
    simp only [encTo, List.length_append]
    omega
theorem draw_chk {ds : List ByteArray} (h : Srt ds) (hl : ds.length ≤ 40) (hs : ∀ s ∈ ds, s.size ≤ 14) : chk ds = 0 := chk_ok h (by omega) (fun s h => by have := hs s h; omega)

set_option maxHeartbeats 3000000 in
set_option maxRecDepth 100000 in
theorem law_inverts (A : Option Addr) (l : List Int) (c : Nat) (w : World) (h : Rd (fun _ => True) w A (l.map (.int .u8))) (hc : l.length ≤ c) (hcm : c ≤ maxLen) (hx : ∀ x ∈ l, 0 ≤ x ∧ x ≤ 255) :
    Calls Try.prog 7 #[.slice A l.length c] w (RetExt (.bool true) w) := by
  have HX := Lib.hid hx
  have HL := Lib.hid h
  clear hx h
  go_enter Try.func7, Try.ntmps7
  go_wp2_with (go_at_call 10; refine (awake_any _).mono ?_; rintro e w1 ⟨rfl, hg1⟩)
  refine (new_any A l c 150 _ (HL.out.grown hg1 (by simp)) hc hcm (by omega) HX.out).mono ?_
  rintro e w2 ⟨rfl, h2, hg2, hlt2⟩
  have G2 : Hid (w.grownBy w2 none) := only_trans hg1 hg2
  have hs2 := G2.out.size
  have hs1 := hg1.size
  generalize w1.heap.size = g at *
  clear HL HX hg1 hg2
  go_wp2_with fail
  refine (draw_any g _ _ _ h2).mono ?_
  rintro e w3 ⟨A3, c3, x, k3, rfl, hc3, hm3, hs3, hl3, hz3, hr3, h3, hg3⟩
  have G3 : Hid (w.grownBy w3 none) := only_fresh G2.out hg3 (by omega)
  have X3 := Lib.hid hr3
  have CX := Lib.hid (draw_chk hs3 hl3 hz3)
  have LX := Lib.hid hz3
  have hsz3 := hg3.size
  clear h2 hg3 hr3 G2 hs3 hz3
  go_wp2_with fail
  refine (draw_any g _ _ _ h3).mono ?_
  rintro e w4 ⟨A4, c4, y, k4, rfl, hc4, hm4, hs4, hl4, hz4, hr4, h4, hg4⟩
  have G4 : Hid (w.grownBy w4 none) := only_fresh G3.out hg4 (by omega)
  have X4 := Lib.hid (X3.out.grown hg4 (fun b hb => by intro e; injection e; omega))
  have Y4 := Lib.hid hr4
  have CY := Lib.hid (draw_chk hs4 hl4 hz4)
  clear h3 h4 hg4 hr4 G3 hs4 hz4 X3
  go_wp2_with fail
  refine (dencode_any A3 x c3 _ X4.out (by omega)).mono ?_
  rintro e w5 ⟨v5, rfl, hB5, hg5⟩
  obtain ⟨A5, c5, rfl, h5a, h5b, hR5⟩ := hB5.rd
  rw [CX.out, encR_ok CX.out]
  rw [encR_ok CX.out] at hR5 h5a
  have X5 := Lib.hid (X4.out.grown hg5 (by simp))
  have Y5 := Lib.hid (Y4.out.grown hg5 (by simp))
  have B5 := Lib.hid (hR5.mono (S' := fun _ => True) (fun _ _ _ => trivial))
  have G5 := Lib.hid (only_trans G4.out hg5)
  clear hB5 hR5 hg5 X4 Y4 G4
  go_wp2_with fail
  refine (dencode_any A4 y c4 _ Y5.out (by omega)).mono ?_
  rintro e w6 ⟨v6, rfl, hB6, hg6⟩
  obtain ⟨A6, c6, rfl, h6a, h6b, hR6⟩ := hB6.rd
  rw [CY.out, encR_ok CY.out]
  rw [encR_ok CY.out] at hR6 h6a
  have X6 := Lib.hid (X5.out.grown hg6 (by simp))
  have Y6 := Lib.hid (Y5.out.grown hg6 (by simp))
  have B6 := Lib.hid (B5.out.grown hg6 (by simp))
  have D6 := Lib.hid (hR6.mono (S' := fun _ => True) (fun _ _ _ => trivial))
  have G6 := Lib.hid (only_trans G5.out hg6)
  clear hB6 hR6 hg6 X5 Y5 B5 G5
  have hle := enc_len14 LX.out (by omega) x.length
  have HLE : Hid ((encB x).length ≤ 803) := Lib.hid (by unfold encB; omega)
  have hley : (encB y).length ≤ 100000 := by have := encTo_len (chk_long CY.out).1 (chk_long CY.out).2 y.length; unfold encB; omega
  have HLY := Lib.hid hley
  clear hle hley
  go_wp2_with fail
  refine (decode_any A5 (encB x) c5 _ B6.out (by have := HLE.out; omega) h5a h5b (enc_u8 _ _)).mono ?_
  rintro e w7 ⟨A7, c7, d, er, rfl, h7a, h7b, hr7, h7l, h7, hg7⟩
  obtain ⟨rfl, rfl⟩ : er = 0 ∧ d = x := by
    rcases h7 with ⟨h7, h8⟩ | ⟨-, -, h8⟩
    · exact ⟨h7, enc_inj h8.1 CX.out h8.2⟩
    · exact absurd ⟨CX.out, rfl⟩ (h8 x)
  have X7 := Lib.hid (X6.out.grown hg7 (by simp))
  have Y7 := Lib.hid (Y6.out.grown hg7 (by simp))
  have B7 := Lib.hid (B6.out.grown hg7 (by simp))
  have D7 := Lib.hid (D6.out.grown hg7 (by simp))
  have R7 := Lib.hid hr7
  have G7 := Lib.hid (only_trans G6.out hg7)
  clear h7 hr7 hg7 X6 Y6 B6 D6 G6
  obtain ⟨v, hv⟩ : ∃ v, v = decide (d = y) := ⟨_, rfl⟩
  have HV : Hid (v = true ↔ d = y) := Lib.hid (by rw [hv]; simp)
  have HV2 : Hid (v = true ↔ encB d = encB y) := Lib.hid (by rw [hv]; simp; exact ⟨fun h => by rw [h], fun h => enc_inj CX.out CY.out h⟩)
  clear hv
  go_wp2_with fail
  refine (same_any A7 A3 d d c7 c3 _ R7.out X7.out (by omega) (by omega) true (by simp)).mono ?_
  rintro e w8 ⟨rfl, n8, rfl⟩
  go_wp2_with fail
  refine (samebytes_any A5 A6 (encB d) (encB y) c5 c6 _ (B7.out.drewN n8) (D7.out.drewN n8) (by have := HLE.out; omega) (by have := HLY.out; omega) v HV2.out).mono ?_
  rintro e w9 ⟨rfl, n9, rfl⟩
  go_wp2_with fail
  refine (same_any A3 A4 d y c3 c4 _ (X7.out.drewN _) (Y7.out.drewN _) (by omega) (by omega) v HV.out).mono ?_
  rintro e w10 ⟨rfl, n10, rfl⟩
  cases v <;>
  · go_wp2_with fail
    go_ret
    exact ⟨rfl, only_drewN G7.out _⟩
end Go.Proofs.Ytgaomilmljepoaa
