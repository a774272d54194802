/- ascending of the reference of chapter 31. No condition. -/
import Derived.Test.YtphglalphejppaaMergeW
namespace Go.Proofs.Ytphglalphejppaa
open Go.RowKit
set_option linter.unusedVariables false
set_option linter.unusedSimpArgs false

def AscPost (w : World) (es : List Ev) (e : Ending) (w' : World) : Prop := w.grownBy w' none ∧ ((Asc es ∧ e = .returned (.bool true)) ∨ (¬ Asc es ∧ e = .returned (.bool false)))
set_option maxHeartbeats 2000000 in
set_option maxRecDepth 100000 in
theorem ascending_any {S : Nat → Prop} (A : Option Addr) (es : List Ev) (c : Nat) (w : World) (h : Rd S w A (es.flatMap Ev.cells)) (hl : es.length ≤ 100000) :
    Calls Try.prog 37 #[.slice A es.length c] w (AscPost w es) := by
  have H := Lib.hid h
  clear h
  go_enter Try.func37, Try.ntmps37
  go_wp2_with fail
  go_loopw [3] (fun i wr => ∃ k : Nat, k ≤ es.length ∧ i = .int .i64 ((k : Int) + 1) ∧ AdjTo es (k + 1) ∧ w.grownBy wr none) (fun i _ => es.length + 1 - (intOf i).toNat)
  case atStart => exact ⟨0, Nat.zero_le _, rfl, fun j x y h => by omega, only_refl _ _⟩
  case round =>
    obtain ⟨k, hk, rfl, hadj, hG⟩ := hrel
    have AD := Lib.hid hadj
    have G := Lib.hid hG
    clear hadj hG
    by_cases hlt : k + 1 < es.length
    · obtain ⟨b, off, rfl, -, -, -⟩ := H.out (by rw [flat_len _ 10 Ev.cells_len]; omega)
      have hr := H.out.grown G.out (by simp)
      obtain ⟨x, hx⟩ : ∃ x, es[k]'(by omega) = x := ⟨_, rfl⟩
      obtain ⟨y, hy⟩ : ∃ y, es[k + 1] = y := ⟨_, rfl⟩
      obtain ⟨d0, d1, d2, d3, d4, d5, d6, d7, d8, d9⟩ := Evs.load10 hr (by omega) hx
      obtain ⟨e0, e1, e2, e3, e4, e5, e6, e7, e8, e9⟩ := Evs.load10 hr hlt hy
      have HX : Hid (es[k]? = some x) := Lib.hid (by rw [← hx]; exact List.getElem?_eq_getElem _)
      have HY : Hid (es[k + 1]? = some y) := Lib.hid (by rw [← hy]; exact List.getElem?_eq_getElem _)
      clear hr hx hy
      have i1 : (k : Int) + 1 < (es.length : Int) := by omega
      have i2 : (k : Int) < (es.length : Int) := by omega
      have w1 : IntKind.i64.wrap (k : Int) = (k : Int) := IntWalk.i64_in _ (by omega)
      have w2 : IntKind.i64.wrap ((k : Int) + 1 - 1) = (k : Int) := by rw [show (k : Int) + 1 - 1 = k by omega]; exact w1
      have n1 : (0 : Int) ≤ (k : Int) + 1 := by omega
      have n2 : ((k : Int) + 1).toNat = k + 1 := by omega
      have n3 : (0 : Int) ≤ (k : Int) := by omega
      go_upto_region 4 with fail
      go_still_tail 9, (by kernel_rfl)
      change wpList _ _ _ _ _ wr.drew
      clear d0 d1 d2 d3 d4 d5 d6 d7 d8 d9 e0 e1 e2 e3 e4 e5 e6 e7 e8 e9 w1 w2 n1 n2
      cases hless : y.less x with
      | true =>
        have HL := Lib.hid hless
        have K : Hid (Calls Try.prog 19 #[.agg y.cells.toArray, .agg x.cells.toArray] wr.drew (BoolExt true wr.drew)) := Lib.hid (hless ▸ rless_any y x wr.drew)
        clear hless
        go_wp2_with (go_at_call 19; refine K.out.mono ?_; rintro e w2 ⟨rfl, hg2⟩)
        go_ret
        exact ⟨only_trans (only_drew G.out) hg2, .inr ⟨not_asc HX.out HY.out HL.out, rfl⟩⟩
      | false =>
        have HL := Lib.hid hless
        have K : Hid (Calls Try.prog 19 #[.agg y.cells.toArray, .agg x.cells.toArray] wr.drew (BoolExt false wr.drew)) := Lib.hid (hless ▸ rless_any y x wr.drew)
        clear hless
        go_wp2_with (go_at_call 19; refine K.out.mono ?_; rintro e w2 ⟨rfl, hg2⟩)
        have G2 : Hid (w.grownBy w2 none) := Lib.hid (only_trans (only_drew G.out) hg2)
        clear hg2
        go_roundw
        case rel => exact ⟨k + 1, by omega, by go_num, AD.out.step (by omega) HX.out HY.out HL.out, G2.out⟩
        case measure => simp [intOf]; omega
    · have i1 : ¬ ((k : Int) + 1 < (es.length : Int)) := by omega
      have HK : Hid (es.length ≤ k + 1) := Lib.hid (by omega)
      clear hlt
      go_wp2_with fail
      go_ret
      exact ⟨G.out, .inl ⟨asc_of_adj (fun j x y hj => AD.out j x y (by have := HK.out; omega)), rfl⟩⟩
end Go.Proofs.Ytphglalphejppaa
