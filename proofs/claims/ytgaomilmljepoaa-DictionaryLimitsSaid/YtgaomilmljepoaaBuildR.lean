/- Build of dictionaries: the reference. Condition: sizes. -/
import Derived.Test.YtgaomilmljepoaaBuild
import Derived.Test.YtgaomilmljepoaaSrt
namespace Go.Proofs.Ytgaomilmljepoaa
open Go.RowKit
set_option linter.unusedVariables false
set_option linter.unusedSimpArgs false

open Classical in
set_option maxHeartbeats 1000000 in
set_option maxRecDepth 100000 in
theorem rbuild_any {S : Nat → Prop} (A : Option Addr) (ws : List ByteArray) (c : Nat) (w : World) (h : Rd S w A (ws.map .string)) (hl : ws.length ≤ 1000000) (hc : ws.length ≤ c) (hm : c ≤ maxLen) :
    Calls Try.prog 31 #[.slice A ws.length c] w (BPost w ws) := by
  have H := Lib.hid h
  clear h
  go_enter Try.func31, Try.ntmps31
  go_wp2_with fail
  go_loopw [4] (fun i wr => ∃ k : Nat, k ≤ ws.length ∧ i = .int .i64 k ∧ (∀ j x, j < k → ws[j]? = some x → x.size ≤ 2048) ∧ ∃ q, wr = w.drewN q) (fun i _ => ws.length - (intOf i).toNat)
  case atStart => exact ⟨0, Nat.zero_le _, rfl, (fun j x hj => absurd hj (by omega)), 0, rfl⟩
  case round =>
    obtain ⟨k, hk, rfl, hall, q, rfl⟩ := hrel
    have AL := Lib.hid hall
    clear hall
    by_cases hlt : k < ws.length
    · obtain ⟨b, off, x, rfl, hc2, hx⟩ := H.out.str_at hlt
      by_cases hs : 2048 < x.size
      · have d1 : decide ((2048 : Int) < (x.size : Int)) = true := decide_eq_true (by omega)
        have HE : Hid (bErr ws = 3 ∧ bOut ws = []) := by
          have he : bErr ws = 3 := by unfold bErr; rw [if_pos ⟨x, List.mem_of_getElem? hx.out, hs⟩]
          exact ⟨he, by unfold bOut; rw [if_neg (by rw [he]; decide)]⟩
        go_wp2_with fail
        go_ret2
        exact ⟨none, 0, by rw [HE.out.1, HE.out.2]; rfl, by rw [HE.out.2]; exact Rd.nil, only_drewN (only_refl _ _) _⟩
      · have d1 : decide ((2048 : Int) < (x.size : Int)) = false := decide_eq_false (by omega)
        go_wp2_with fail
        go_roundw
        case rel =>
          refine ⟨k + 1, by omega, by go_num, fun j y hj hy => ?_, _, rfl⟩
          rcases Nat.lt_or_ge j k with h | h
          · exact AL.out j y h hy
          · obtain rfl : j = k := by omega
            rw [hx.out] at hy; injection hy with hy; rw [← hy]; omega
        case measure => simp [intOf]; omega
    · have hL : ¬ Long ws := fun ⟨x, hx, hs⟩ => by
        obtain ⟨i, hi, e⟩ := List.mem_iff_getElem.1 hx
        have := AL.out i x (by omega) (by rw [List.getElem?_eq_getElem hi, e])
        omega
      have HL := Lib.hid hL
      clear hL
      go_wp2_with fail
      refine (distinct_post A ws c _ (H.out.drewN _) hl hc hm).mono ?_
      rintro e w3 ⟨A3, c3, d3, rfl, hc3, hm3, hs3, he3, hl3, hr3, hg3⟩
      obtain rfl : d3 = dist ws := srt_ext hs3 (dist_srt ws) (fun s => by rw [he3, dist_mem])
      have R3 := Lib.hid hr3
      have G3 : Hid (w.grownBy w3 none) := only_trans (only_drewN (only_refl _ _) q) hg3
      clear hr3 hg3 hs3 he3
      by_cases hbig : 32768 < (dist ws).length
      · have HE : Hid (bErr ws = 4 ∧ bOut ws = []) := by
          have he : bErr ws = 4 := by unfold bErr; rw [if_neg HL.out, if_pos hbig]
          exact ⟨he, by unfold bOut; rw [if_neg (by rw [he]; decide)]⟩
        have d1 : decide ((32768 : Int) < ((dist ws).length : Int)) = true := decide_eq_true (by omega)
        go_wp2_with fail
        go_ret2
        exact ⟨none, 0, by rw [HE.out.1, HE.out.2]; rfl, by rw [HE.out.2]; exact Rd.nil, G3.out⟩
      · have HE : Hid (bErr ws = 0 ∧ bOut ws = dist ws) := by
          have he : bErr ws = 0 := by unfold bErr; rw [if_neg HL.out, if_neg hbig]
          exact ⟨he, by unfold bOut; rw [if_pos he]⟩
        have d1 : decide ((32768 : Int) < ((dist ws).length : Int)) = false := decide_eq_false (by omega)
        go_wp2_with fail
        go_ret2
        exact ⟨_, c3, by rw [HE.out.1, HE.out.2]; rfl, by rw [HE.out.2]; exact R3.out.mono (fun b hb _ => hb), G3.out⟩
theorem bOut_len (ws : List ByteArray) : (bOut ws).length ≤ 32768 := by
  unfold bOut
  split
  · rename_i h
    unfold bErr at h
    split at h
    · cases h
    · split at h
      · cases h
      · omega
  · simp
theorem bOut_chk (ws : List ByteArray) : chk (bOut ws) = 0 := by
  by_cases he : bErr ws = 0
  · have hl := bOut_len ws
    have e : bOut ws = dist ws := by unfold bOut; rw [if_pos he]
    rw [e] at hl ⊢
    refine chk_ok (dist_srt ws) hl (fun s hs => ?_)
    rcases Nat.lt_or_ge 2048 s.size with h1 | h1
    · exfalso
      unfold bErr at he
      rw [if_pos ⟨s, (dist_mem ws s).1 hs, h1⟩] at he
      cases he
    · exact h1
  · have e : bOut ws = [] := by unfold bOut; rw [if_neg he]
    rw [e]
    exact chk_ok List.Pairwise.nil (by simp) (by simp)
end Go.Proofs.Ytgaomilmljepoaa
