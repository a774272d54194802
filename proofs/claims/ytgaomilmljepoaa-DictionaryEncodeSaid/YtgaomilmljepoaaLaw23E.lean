/- law23: DictionaryEncode: the walk of the law itself. -/
import Derived.Test.YtgaomilmljepoaaLaw23A
import Derived.Test.YtgaomilmljepoaaEncR
import Derived.Test.YtgaomilmljepoaaSameBytes
import Derived.Test.YtgaomilmljepoaaDictC
import Derived.Test.YtgaomilmljepoaaSmall
namespace Go.Proofs.Ytgaomilmljepoaa
open Go.RowKit
set_option linter.unusedVariables false
set_option linter.unusedSimpArgs false

set_option maxHeartbeats 3000000 in
set_option maxRecDepth 100000 in
theorem law_encode (A0 : Option Addr) (ws : List ByteArray) (c0 : Nat) (A : Option Addr) (l : List Int) (c : Nat) (w : World) (h0 : Rd (fun _ => True) w A0 (ws.map .string)) (hc0 : ws.length ≤ c0) (hcm0 : c0 ≤ maxLen) (hs : ∀ s ∈ ws, s.size ≤ 140737488351232)
    (h : Rd (fun _ => True) w A (l.map (.int .u8))) (hc : l.length ≤ c) (hcm : c ≤ maxLen) (hx : ∀ x ∈ l, 0 ≤ x ∧ x ≤ 255) :
    Calls Try.prog 5 #[.slice A0 ws.length c0, .slice A l.length c] w (RetExt (.bool true) w) := by
  have HX := Lib.hid hx
  have HL := Lib.hid h
  have H0 := Lib.hid h0
  have HS := Lib.hid hs
  clear hx h h0 hs
  cases hsm : smallB ws with
  | false =>
    have SM := Lib.hid hsm
    clear hsm
    go_enter Try.func5, Try.ntmps5
    go_wp2_with (go_at_call 10; refine (awake_any _).mono ?_; rintro e w1 ⟨rfl, hg1⟩)
    refine (small_any A0 ws c0 _ (H0.out.grown hg1 (by simp)) hc0 hcm0 HS.out).mono ?_
    rw [SM.out]
    rintro e w2 ⟨rfl, n2, rfl⟩
    go_wp2_with fail
    refine (small_any A0 ws c0 _ ((H0.out.grown hg1 (by simp)).drewN _) hc0 hcm0 HS.out).mono ?_
    rw [SM.out]
    rintro e w3 ⟨rfl, n3, rfl⟩
    go_wp2_with fail
    go_ret
    exact ⟨rfl, only_drewN hg1 _⟩
  | true =>
    have SM := Lib.hid hsm
    have hlen : ws.length ≤ 200 := by
      have h1 := sumB_len ws
      have h2 : sumB ws ≤ 3000 := by simpa [smallB] using hsm
      omega
    clear hsm
    go_enter Try.func5, Try.ntmps5
    go_wp2_with (go_at_call 10; refine (awake_any _).mono ?_; rintro e w1 ⟨rfl, hg1⟩)
    refine (small_any A0 ws c0 _ (H0.out.grown hg1 (by simp)) hc0 hcm0 HS.out).mono ?_
    rw [SM.out]
    rintro e w2 ⟨rfl, n2, rfl⟩
    go_wp2_with fail
    refine (distinct_post A0 ws c0 _ ((H0.out.grown hg1 (by simp)).drewN _) (by omega) hc0 hcm0).mono ?_
    rintro e w3 ⟨A3, c3, d3, rfl, hc3, hm3, hs3, he3, hl3, hr3, hg3⟩
    have G3 : Hid (w.grownBy w3 none) := only_trans (only_drewN hg1 n2) hg3
    have R3 := Lib.hid (hr3.mono (S' := (· < w3.heap.size)) (fun _ _ h => h))
    clear hr3 he3 hs3 hg3 hg1
    go_wp2_with fail
    refine (new_any A l c 100 _ (HL.out.grown G3.out (by simp)) hc hcm (by omega) HX.out).mono ?_
    rintro e w4 ⟨rfl, hC4, hg4, hz4⟩
    have R4 := Lib.hid (R3.out.grown hg4 (by simp))
    have G4 : Hid (w.grownBy w4 none) := only_trans G3.out hg4
    have hz34 := hg4.size
    clear R3 hg4
    go_wp2_with fail
    refine (draw_any _ _ _ _ hC4).mono ?_
    rintro e w5 ⟨A5, c5, d5, k5, rfl, hc5, hm5, hs5, hl5, hsz5, hr5, hC5, hg5⟩
    have G5 : Hid (w.grownBy w5 none) := only_fresh G4.out hg5 G3.out.size
    have R5 := Lib.hid hr5
    have RA : Hid (Rd (fun _ => True) w5 A0 (ws.map .string)) := H0.out.grown G5.out (by simp)
    have RB : Hid (Rd (· < w3.heap.size) w5 A3 (d3.map .string)) := R4.out.grown hg5 (fun b hb e => by injection e; omega)
    clear hr5 hs5 hsz5 hC5 hC4 hg5
    go_wp2_with fail
    obtain ⟨W, hW⟩ : ∃ W, W = w5.alloc (Obj.cells #[Value.slice A0 ws.length c0, Value.slice A3 d3.length c3, Value.slice A5 d5.length c5] 26) := ⟨_, rfl⟩
    rw [← hW]
    have HB : Hid (Blk W w5.heap.size 26 #[Value.slice A0 ws.length c0, Value.slice A3 d3.length c3, Value.slice A5 d5.length c5]) := hW ▸ Blk.new w5 _ _
    have RAW : Hid (Rd (fun _ => True) W A0 (ws.map .string)) := hW ▸ RA.out.alloc _
    have RBW : Hid (Rd (fun _ => True) W A3 (d3.map .string)) := hW ▸ (RB.out.mono (fun _ _ _ => trivial)).alloc _
    have RCW : Hid (Rd (fun _ => True) W A5 (d5.map .string)) := hW ▸ (R5.out.mono (fun _ _ _ => trivial)).alloc _
    have HG : Hid (w.grownBy W none) := hW ▸ only_alloc G5.out _
    clear hW RA RB R5 G5
    generalize w5.heap.size = lb at *
    go_loopw [6] (fun i wr => ∃ k : Nat, k ≤ 3 ∧ i = .int .i64 k ∧ W.grownBy wr none) (fun i _ => 3 - (intOf i).toNat)
    case atStart => exact ⟨0, by omega, rfl, only_refl _ _⟩
    case round =>
      obtain ⟨k, hk, rfl, hgr⟩ := hrel
      by_cases hk3 : k < 3
      · obtain ⟨AU, us, cu, hu, hru, hul⟩ : ∃ AU us cu, (#[Value.slice A0 ws.length c0, Value.slice A3 d3.length c3, Value.slice A5 d5.length c5] : Array Value)[k]? = some (.slice AU (List.length us) cu) ∧ Rd (fun _ => True) W AU (us.map .string) ∧ us.length ≤ 200 := by
          rcases k with _ | _ | _ | k
          · exact ⟨A0, ws, c0, rfl, RAW.out, hlen⟩
          · exact ⟨A3, d3, c3, rfl, RBW.out, by omega⟩
          · exact ⟨A5, d5, c5, rfl, RCW.out, by omega⟩
          · omega
        have hcu : wr.cell? ⟨lb, k, none⟩ = some (.slice AU us.length cu) := ((HB.out.grown hgr (by simp)).cell k).trans hu
        have HR := Lib.hid (hru.grown hgr (by simp))
        have GR := Lib.hid hgr
        clear hu hgr hru
        go_wp2_with fail
        refine (dencode_any AU us cu _ HR.out (by omega)).mono ?_
        rintro e w6 ⟨v6, rfl, hB6, hg6⟩
        obtain ⟨A6, c6, rfl, hc6, hm6, hr6⟩ := hB6.rd
        have hcu6 : w6.cell? ⟨lb, k, none⟩ = some (.slice AU us.length cu) := hg6.cell hcu (by simp)
        have HR6 := Lib.hid (HR.out.grown hg6 (by simp))
        have B6 := Lib.hid hr6
        have G6 : Hid (W.grownBy w6 none) := only_trans GR.out hg6
        clear hB6 hr6 hg6 hcu HR GR
        go_wp2_with fail
        refine (rencode_any AU us cu _ HR6.out (by omega)).mono ?_
        rintro e w7 ⟨v7, rfl, hB7, hg7⟩
        obtain ⟨A7, c7, rfl, hc7, hm7, hr7⟩ := hB7.rd
        have B7 := Lib.hid hr7
        have B67 := Lib.hid (B6.out.grown hg7 (by simp))
        have G7 : Hid (W.grownBy w7 none) := only_trans G6.out hg7
        have hbl := encR_len us (by omega)
        clear hB7 hr7 hg7 HR6 G6 B6
        generalize encR us = bs at *
        go_wp2_with fail
        refine (samebytes_any A6 A7 bs bs c6 c7 _ B67.out B7.out (by omega) (by omega) true (by simp)).mono ?_
        rintro e w8 ⟨rfl, n8, rfl⟩
        go_wp2_with fail
        go_roundw
        case rel => exact ⟨k + 1, by omega, by go_num, only_drewN G7.out _⟩
        case measure => simp [intOf]; omega
      · obtain rfl : k = 3 := by omega
        go_wp2_with fail
        go_ret
        exact ⟨rfl, only_trans HG.out hgr⟩
end Go.Proofs.Ytgaomilmljepoaa
