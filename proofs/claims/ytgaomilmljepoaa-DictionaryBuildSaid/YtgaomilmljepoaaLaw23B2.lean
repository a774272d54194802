/- law23: DictionaryBuild: the walk of the law itself. -/
import Derived.Test.YtgaomilmljepoaaBuildR
import Derived.Test.YtgaomilmljepoaaCheckRef
import Derived.Test.YtgaomilmljepoaaSame
import Derived.Test.YtgaomilmljepoaaDictC
import Derived.Test.YtgaomilmljepoaaSmall
namespace Go.Proofs.Ytgaomilmljepoaa
open Go.RowKit
set_option linter.unusedVariables false
set_option linter.unusedSimpArgs false

set_option maxHeartbeats 3000000 in
set_option maxRecDepth 100000 in
theorem law_build (A0 : Option Addr) (ws : List ByteArray) (c0 : Nat) (w : World) (h0 : Rd (fun _ => True) w A0 (ws.map .string)) (hc0 : ws.length ≤ c0) (hcm0 : c0 ≤ maxLen) (hs : ∀ s ∈ ws, s.size ≤ 140737488351232) (hnil : A0 = none → c0 = 0) :
    Calls Try.prog 8 #[.slice A0 ws.length c0] w (RetExt (.bool true) w) := by
  have H0 := Lib.hid h0
  have HS := Lib.hid hs
  have HN := Lib.hid hnil
  clear h0 hs hnil
  cases hsm : smallB ws with
  | false =>
    have SM := Lib.hid hsm
    clear hsm
    go_enter Try.func8, Try.ntmps8
    go_wp2_with (go_at_call 10; refine (awake_any _).mono ?_; rintro e w1 ⟨rfl, hg1⟩)
    refine (small_any A0 ws c0 _ (H0.out.grown hg1 (by simp)) hc0 hcm0 HS.out).mono ?_
    rw [SM.out]
    rintro e w2 ⟨rfl, n2, rfl⟩
    go_wp2_with fail
    refine (small_any A0 ws c0 _ ((H0.out.grown hg1 (by simp)).drewN _) hc0 hcm0 HS.out).mono ?_
    rw [SM.out]
    rintro e w3 ⟨rfl, n3, rfl⟩
    go_wp2_with fail
    go_ret
    exact ⟨rfl, only_drewN hg1 _⟩
  | true =>
    have SM := Lib.hid hsm
    have hlen : ws.length ≤ 200 := by
      have h1 := sumB_len ws
      have h2 : sumB ws ≤ 3000 := by simpa [smallB] using hsm
      omega
    clear hsm
    go_enter Try.func8, Try.ntmps8
    go_wp2_with (go_at_call 10; refine (awake_any _).mono ?_; rintro e w1 ⟨rfl, hg1⟩)
    refine (small_any A0 ws c0 _ (H0.out.grown hg1 (by simp)) hc0 hcm0 HS.out).mono ?_
    rw [SM.out]
    rintro e w2 ⟨rfl, n2, rfl⟩
    have R2 := Lib.hid ((H0.out.grown hg1 (by simp)).drewN n2)
    have G2 : Hid (w.grownBy (w1.drewN n2) none) := only_drewN hg1 n2
    go_wp2_with fail
    refine (build_any A0 ws c0 _ R2.out (by omega) hc0 HN.out).mono ?_
    rintro e w3 ⟨A3, c3, rfl, hr3, hg3⟩
    have R3 := Lib.hid (R2.out.grown hg3 (by simp))
    have D3 := Lib.hid hr3
    have G3 : Hid (w.grownBy w3 none) := only_trans G2.out hg3
    clear hr3 hg3 R2 G2
    go_wp2_with fail
    refine (rbuild_any A0 ws c0 _ R3.out (by omega) hc0 hcm0).mono ?_
    rintro e w4 ⟨A4, c4, rfl, hr4, hg4⟩
    have R4 := Lib.hid (R3.out.grown hg4 (by simp))
    have D34 := Lib.hid (D3.out.grown hg4 (by simp))
    have D4 := Lib.hid hr4
    have G4 : Hid (w.grownBy w4 none) := only_trans G3.out hg4
    have hbl := bOut_len ws
    have HCK := Lib.hid (bOut_chk ws)
    clear hr4 hg4 R3 D3 G3
    generalize bOut ws = os at *
    go_wp2_with fail
    refine (same_any A3 A4 os os c3 c4 _ D34.out D4.out (by omega) (by omega) true (by simp)).mono ?_
    rintro e w5 ⟨rfl, n5, rfl⟩
    go_wp2_with fail
    refine (check_any A0 ws c0 _ (R4.out.drewN _) (by omega)).mono ?_
    rintro e w6 ⟨rfl, n6, rfl⟩
    go_wp2_with fail
    refine (rcheck_any A0 ws c0 _ (R4.out.drewN _) (by omega)).mono ?_
    rintro e w7 ⟨rfl, n7, rfl⟩
    go_wp2_with fail
    refine (check_any A3 os c3 _ (D34.out.drewN _) (by omega)).mono ?_
    rw [HCK.out]
    rintro e w8 ⟨rfl, n8, rfl⟩
    go_wp2_with fail
    go_ret
    exact ⟨rfl, only_drewN G4.out _⟩
end Go.Proofs.Ytgaomilmljepoaa
