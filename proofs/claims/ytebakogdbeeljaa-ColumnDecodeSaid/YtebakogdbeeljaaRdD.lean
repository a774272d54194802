/- The reader of columns: delta. Condition: sizes. -/
import Derived.Test.YtebakogdbeeljaaRdC
import Derived.StillTailTactics
namespace Go.Proofs.Ytebakogdbeeljaa
open Go.RowKit
set_option linter.unusedVariables false
set_option linter.unusedSimpArgs false

theorem own_set {w : World} {base e g n c j : Nat} {xs : List Value} {u : Value} (h : w.ownsRow base e 1 (.slice (some ⟨g, 0, none⟩) n c) n xs) (hj : j < n) : (w.setCell ⟨g, j, none⟩ u).ownsRow base e 1 (.slice (some ⟨g, 0, none⟩) n c) n (xs.set j u) := by
  obtain ⟨hl, h2⟩ := h
  refine ⟨by simpa using hl, ?_⟩
  rcases h2 with ⟨h3, _⟩ | ⟨g', cap, cur, h3, h4, h5, h6, h7, h8, h9⟩
  · cases h3
  · injection h3 with e1 e2 e3
    injection e1 with e1
    injection e1 with e1
    subst e1 e3
    refine .inr ⟨g, c, cur.setIfInBounds j u, rfl, h4, ?_, h6, h7, by simpa using h8, ?_⟩
    · simp [World.setCell, Array.getElem?_modify, h5]
    · rw [Array.toList_setIfInBounds, List.take_set, h9]
theorem own_cells {w : World} {base e g n c j : Nat} {xs : List Value} (h : w.ownsRow base e 1 (.slice (some ⟨g, 0, none⟩) n c) n xs) (hj : j < n) : w.cell? ⟨g, j, none⟩ = xs[j]? ∧ w.frozen? ⟨g, j, none⟩ = false := by
  obtain ⟨hl, h2⟩ := h
  rcases h2 with ⟨h3, _⟩ | ⟨g', cap, cur, h3, h4, h5, h6, h7, h8, h9⟩
  · cases h3
  · injection h3 with e1 e2 e3
    injection e1 with e1
    injection e1 with e1
    subst e1 e3
    have hB : Blk w g e cur := h5
    refine ⟨?_, hB.frozen j⟩
    rw [hB.cell j, ← h9, List.getElem?_take_of_lt (by omega), Array.getElem?_toList]
/-- sums from the left -/
def acS : List Int → Int → List Int
  | [], _ => []
  | x :: l, a => wrap64 (x + a) :: acS l (wrap64 (x + a))
def psum : List Int → List Int
  | [] => []
  | x :: l => x :: acS l x
theorem acS_len : ∀ l a, (acS l a).length = l.length
  | [], _ => rfl
  | x :: l, a => by simp [acS, acS_len l]
theorem psum_len (l : List Int) : (psum l).length = l.length := by cases l <;> simp [psum, acS_len]
def rDl (n : Nat) (bs : List Int) (bad : Bool) : List Int × List Int × Bool := (psum (rPl n bs bad).1, (rPl n bs bad).2)
theorem rPl_len : ∀ n bs bad, (rPl n bs bad).1.length ≤ n
  | 0, _, _ => by simp [rPl]
  | n + 1, bs, bad => by
    rw [rPl]
    split
    · simp
    · have := rPl_len n (rNum 10 0 bs bad).2.1 (rNum 10 0 bs bad).2.2
      simp; omega

set_option maxHeartbeats 1000000 in
set_option maxRecDepth 100000 in
theorem rdelta_any (g : Nat) (n : Nat) (bs : List Int) (bad : Bool) (w : World) (h : RdrAt w g bs bad) (hn : n ≤ 16384) :
    Calls Try.prog 50 #[.pointer (some ⟨g, 0, none⟩), .int .i64 n] w (DPost w g (rDl n bs bad)) := by
  have H := Lib.hid h
  have hgl := h.lt
  have hpl := rPl_len n bs bad
  have hD : rDl n bs bad = (psum (rPl n bs bad).1, (rPl n bs bad).2) := rfl
  clear h
  go_enter Try.func50, Try.ntmps50
  go_wp2_with fail
  refine (rplain_any g n bs bad _ H.out hn).mono ?_
  rintro e w1 ⟨v1, rfl, hown, hR1, hg1⟩
  generalize rPl n bs bad = r at *
  obtain ⟨vs, cs, bd⟩ := r
  have HD := Lib.hid hD
  have R1 := Lib.hid hR1
  have G1 := Lib.hid hg1
  simp only at hown hpl
  clear hD hR1 hg1
  rcases hown.2 with ⟨rfl, h0⟩ | ⟨gv, cap, cur, rfl, hgv, hblk, hnc, hcm, hcs, htk⟩
  · obtain rfl : vs = [] := List.eq_nil_of_length_eq_zero h0
    have O1 := Lib.hid hown
    clear hown h0
    go_wp2_with fail
    go_loopw [6] (fun i wr => i = .int .i64 1 ∧ wr = w1) (fun _ _ => 0)
    case atStart => exact ⟨rfl, rfl⟩
    case round =>
      obtain ⟨rfl, rfl⟩ := hrel
      go_wp2_with fail
      go_ret
      exact ⟨_, rfl, by rw [HD.out]; exact O1.out, by rw [HD.out]; exact R1.out, G1.out⟩
  · have O1 := Lib.hid hown
    have hgne : gv ≠ g := by omega
    clear hown hblk hcs htk
    go_wp2_with fail
    go_loopw [6] (fun i wr => ∃ (k : Nat) (P : List Int) (a : Int), 1 ≤ k ∧ (k ≤ vs.length ∨ vs.length = 0) ∧ i = .int .i64 k ∧ (vs.length = 0 ∨ (P.length = k ∧ P[k - 1]? = some a ∧ P ++ acS (vs.drop k) a = psum vs ∧ wr.ownsRow w.heap.size 3 1 (.slice (some ⟨gv, 0, none⟩) vs.length cap) vs.length ((P ++ vs.drop k).map (.int .i64)))) ∧ (vs.length = 0 → wr = w1) ∧ RdrAt wr g cs bd ∧ w.grownBy wr (some g)) (fun i _ => vs.length - (intOf i).toNat)
    case atStart =>
      cases vs with
      | nil => exact ⟨1, [], 0, Nat.le_refl _, .inr rfl, rfl, .inl rfl, fun _ => rfl, R1.out, G1.out⟩
      | cons x l => exact ⟨1, [x], x, Nat.le_refl _, .inl (by simp), rfl, .inr ⟨rfl, rfl, by simp [psum], by simpa using O1.out⟩, fun h => by simp at h, R1.out, G1.out⟩
    case round =>
      obtain ⟨k, P, a, hk1, hk2, rfl, hP, hw1, hR, hG⟩ := hrel
      have RR := Lib.hid hR
      have GG := Lib.hid hG
      have HW1 := Lib.hid hw1
      have HP := Lib.hid hP
      clear hR hG hw1 hP
      by_cases hlt : k < vs.length
      · rcases HP.out with h0 | ⟨hPl, hPa, hPe, hO⟩
        · omega
        have O2 := Lib.hid hO
        have PE := Lib.hid hPe
        have PL := Lib.hid hPl
        have PA := Lib.hid hPa
        obtain ⟨j, rfl⟩ : ∃ j, k = j + 1 := ⟨k - 1, by omega⟩
        have hdr : vs.drop (j + 1) = vs.getD (j + 1) 0 :: vs.drop (j + 1 + 1) := by rw [List.drop_eq_getElem_cons hlt, getD_lt vs 0 hlt]
        have hcj : wr.cell? ⟨gv, j, none⟩ = some (.int .i64 a) := by
          rw [(own_cells hO (j := j) (by omega)).1, List.getElem?_map, List.getElem?_append_left (by omega)]
          rw [show j + 1 - 1 = j from rfl] at hPa
          rw [hPa]; rfl
        have hck : wr.cell? ⟨gv, j + 1, none⟩ = some (.int .i64 (vs.getD (j + 1) 0)) := by
          rw [(own_cells hO (j := j + 1) hlt).1, List.getElem?_map, List.getElem?_append_right (by omega), hPl, Nat.sub_self, hdr]; rfl
        have hfk := (own_cells hO (j := j + 1) hlt).2
        have HDR := Lib.hid hdr
        obtain ⟨x, hx⟩ : ∃ x, vs.getD (j + 1) 0 = x := ⟨_, rfl⟩
        rw [hx] at hck
        have HX := Lib.hid hx
        have i1 : (j : Int) < (vs.length : Int) := by omega
        have i2 : (j : Int) + 1 < (vs.length : Int) := by omega
        have i3 : (0 : Int) ≤ (j : Int) := by omega
        have i4 : (0 : Int) ≤ (j : Int) + 1 := by omega
        clear hPl hPa hPe hO hdr hx
        have i5 : ((j : Int) + 1).toNat = j + 1 := by omega
        have hwj : IntKind.i64.wrap (j : Int) = (j : Int) := IntWalk.i64_in _ (by omega)
        go_wp2_with fail
        go_still_tail 11, (by kernel_rfl)
        go_wp2_with fail
        clear hwj i5
        have hO3 := own_set (u := .int .i64 (wrap64 (x + a))) O2.out hlt
        rw [← List.map_set, List.set_append_right _ _ (by rw [PL.out]; omega), PL.out, Nat.sub_self, HDR.out, List.set_cons_zero] at hO3
        have hE3 : (P ++ [wrap64 (x + a)]) ++ acS (vs.drop (j + 1 + 1)) (wrap64 (x + a)) = psum vs := by
          rw [← PE.out, HDR.out, HX.out, acS]; simp
        have hA3 : (P ++ [wrap64 (x + a)])[j + 1 + 1 - 1]? = some (wrap64 (x + a)) := by
          rw [show j + 1 + 1 - 1 = j + 1 from rfl, List.getElem?_append_right (by rw [PL.out]; omega), PL.out, Nat.sub_self]; rfl
        have hR3 : RdrAt (wr.setCell ⟨gv, j + 1, none⟩ (.int .i64 (wrap64 (x + a)))) g cs bd := RR.out.grown (only_cell _) (fun b hb e => by injection e; omega)
        refine ⟨⟨j + 1 + 1, P ++ [wrap64 (x + a)], wrap64 (x + a), by omega, .inl (by omega), by go_num, .inr ⟨by simp [PL.out], hA3, hE3, ?_⟩, fun h => absurd h (by omega), hR3, only_drew (only_setCell GG.out (.inr hgv) _)⟩, ?_⟩
        · exact own_drew (by simpa using hO3)
        · clear hO3 hE3 hA3 hR3
          simp [intOf]; omega
      · have HF : Hid (wr.ownsRow w.heap.size 3 1 (.slice (some ⟨gv, 0, none⟩) vs.length cap) vs.length ((psum vs).map (.int .i64))) := by
          show wr.ownsRow _ _ _ _ _ _
          by_cases h0 : vs.length = 0
          · rw [HW1.out h0]
            have e : vs = [] := List.eq_nil_of_length_eq_zero h0
            subst e
            exact O1.out
          · rcases HP.out with h1 | ⟨hPl, hPa, hPe, hO⟩
            · exact absurd h1 h0
            · rw [List.drop_of_length_le (by omega)] at hPe hO
              rw [← hPe]; simpa [acS] using hO
        go_wp2_with fail
        go_ret
        exact ⟨_, rfl, by rw [HD.out]; rw [psum_len]; exact HF.out, by rw [HD.out]; exact RR.out, GG.out⟩
end Go.Proofs.Ytebakogdbeeljaa
