/- The encoder runs of chapter 24. Conditions: sizes. -/
import Derived.Test.YtebakogdbeeljaaColE
namespace Go.Proofs.Ytebakogdbeeljaa
open Go.RowKit
set_option linter.unusedVariables false
set_option linter.unusedSimpArgs false

def runLen (x : Int) : List Int → Nat
  | [] => 0
  | y :: l => if y = x then runLen x l + 1 else 0
theorem runLen_le (x : Int) : ∀ l, runLen x l ≤ l.length
  | [] => by simp [runLen]
  | y :: l => by have := runLen_le x l; simp only [runLen]; split <;> simp <;> omega
theorem runLen_eq (x : Int) : ∀ (n : Nat) (l : List Int), (∀ i, i < n → l[i]? = some x) → l[n]? ≠ some x → runLen x l = n
  | 0, [], _, _ => rfl
  | 0, y :: l, _, h => by simp at h; simp [runLen, h]
  | n + 1, [], h, _ => by have := h 0 (by omega); simp at this
  | n + 1, y :: l, h, h2 => by
    have e : y = x := by have := h 0 (by omega); simpa using this
    subst e
    simp [runLen, runLen_eq y n l (fun i hi => by have := h (i + 1) (by omega); simpa using this) (by simpa using h2)]
def runsB : List Int → List Int
  | [] => []
  | x :: l => vint (zz x) ++ (vint (runLen x l + 1) ++ runsB (l.drop (runLen x l)))
termination_by l => l.length
decreasing_by simp; omega
theorem runsB_nil : runsB [] = [] := by rw [runsB]
theorem runsB_cons (x : Int) (l : List Int) : runsB (x :: l) = vint (zz x) ++ (vint (runLen x l + 1) ++ runsB (l.drop (runLen x l))) := by rw [runsB]
theorem at_some {vs : List Int} {k : Nat} (h : k < vs.length) : vs[k]? = some (vs.getD k 0) := by rw [getD_lt vs 0 h]; exact List.getElem?_eq_getElem h
theorem runs_step {vs : List Int} {k j : Nat} (hkj : k < j) (hj : j ≤ vs.length) (he : ∀ i, k ≤ i → i < j → vs.getD i 0 = vs.getD k 0) (hn : j = vs.length ∨ vs.getD j 0 ≠ vs.getD k 0) :
    runsB (vs.drop k) = vint (zz (vs.getD k 0)) ++ (vint (j - k) ++ runsB (vs.drop j)) := by
  have hk : k < vs.length := by omega
  have e1 : vs.drop k = vs.getD k 0 :: vs.drop (k + 1) := by rw [List.drop_eq_getElem_cons hk, getD_lt vs 0 hk]
  have e2 : runLen (vs.getD k 0) (vs.drop (k + 1)) = j - (k + 1) := by
    apply runLen_eq
    · intro i hi
      rw [List.getElem?_drop, at_some (by omega), he (k + 1 + i) (by omega) (by omega)]
    · rw [List.getElem?_drop, show k + 1 + (j - (k + 1)) = j from by omega]
      rcases hn with h | h
      · rw [List.getElem?_eq_none (by omega)]; simp
      · by_cases hjl : j < vs.length
        · rw [at_some hjl]; simpa using h
        · rw [List.getElem?_eq_none (by omega)]; simp
  rw [e1, runsB_cons, e2, List.drop_drop, show k + 1 + (j - (k + 1)) = j from by omega, show j - (k + 1) + 1 = j - k from by omega]

set_option maxHeartbeats 2000000 in
set_option maxRecDepth 100000 in
theorem cruns_any (base : Nat) (v : Value) (xs : List Int) (A : Option Addr) (vs : List Int) (c : Nat) (w : World) (h : Byts base w v xs) (hr : Rd (· < base) w A (vs.map (.int .i64))) (hx : xs.length ≤ 1000000) (hl : vs.length ≤ 20000) (hi : ∀ x ∈ vs, I64 x) (hb : base ≤ w.heap.size) :
    Calls Try.prog 45 #[v, .slice A vs.length c] w (VPost base w v (xs ++ runsB vs)) := by
  have H := Lib.hid h
  have HR := Lib.hid hr
  have HI := Lib.hid hi
  clear h hr hi
  go_enter Try.func45, Try.ntmps45
  go_wp2_with fail
  go_loopw [0, 5, 6] (fun u i j wr => ∃ (k : Nat) (ys : List Int), k ≤ vs.length ∧ i = .int .i64 k ∧ j = .int .i64 k ∧ Byts base wr u (xs ++ ys) ∧ ys ++ runsB (vs.drop k) = runsB vs ∧ ys.length ≤ 20 * k ∧ Rd (· < base) wr A (vs.map (.int .i64)) ∧ Onto w v u wr) (fun _ i _ _ => vs.length - (intOf i).toNat)
  case atStart => exact ⟨0, [], Nat.zero_le _, rfl, rfl, by simpa using H.out, by simp, by simp, HR.out, Onto.refl _ _⟩
  case round =>
    obtain ⟨k, ys, hk, rfl, rfl, hB, hE, hY, hRd, hO⟩ := hrel
    have HB := Lib.hid hB
    have HO := Lib.hid hO
    have RD := Lib.hid hRd
    have HE := Lib.hid hE
    have hz := hO.1.size
    clear hB hO hRd hE
    by_cases hlt : k < vs.length
    · obtain ⟨b, off, x, rfl, hc, hx2⟩ := RD.out.int_at hlt
      have HX : Hid (I64 x) := by show I64 x; rw [← hx2.out]; exact getD_I64 HI.out k
      obtain ⟨wo, rfl⟩ : ∃ wo : World, wo = wr := ⟨_, rfl⟩
      go_wp2_with fail
      go_loopw [6] (fun j wi => ∃ (t : Nat), k ≤ t ∧ t ≤ vs.length ∧ j = .int .i64 t ∧ (∀ i, k ≤ i → i < t → vs.getD i 0 = vs.getD k 0) ∧ ∃ q, wi = wo.drewN q) (fun j _ => vs.length - (intOf j).toNat)
      case atStart => exact ⟨k, Nat.le_refl _, hk, rfl, (fun i h1 h2 => absurd h1 (by omega)), 0, rfl⟩
      case round =>
        obtain ⟨t, ht1, ht2, rfl, hall, q, rfl⟩ := hrel
        have AL := Lib.hid hall
        clear hall
        have hki : (k : Int) < (vs.length : Int) := by omega
        by_cases htl : t < vs.length
        · obtain ⟨y, hcy, hy2⟩ := RD.out.int_at' htl
          have hti : (t : Int) < (vs.length : Int) := by omega
          by_cases hxy : y = x
          · have t1 : (y == x) = true := by simp [hxy]
            have HXY := Lib.hid hxy
            clear hxy
            go_wp2_with fail
            go_quiet (fail)
            go_wp2_with fail
            go_roundw
            case rel =>
              refine ⟨t + 1, by omega, by omega, by go_num, fun i h1 h2 => ?_, _, rfl⟩
              rcases Nat.lt_or_ge i t with h | h
              · exact AL.out i h1 h
              · obtain rfl : i = t := by omega
                rw [hy2.out, hx2.out, HXY.out]
            case measure => simp [intOf]; omega
          · have t1 : (y == x) = false := by simp [hxy]
            have hkt : k < t := by
              rcases Nat.lt_or_ge k t with h | h
              · exact h
              · obtain rfl : k = t := by omega
                have h1 := hy2.out; rw [hx2.out] at h1; exact absurd h1.symm hxy
            have HS := Lib.hid (runs_step hkt ht2 AL.out (.inr (by rw [hy2.out, hx2.out]; exact hxy)))
            clear hxy
            go_wp2_with fail
            go_quiet (fail)
            go_wp2_with fail
            refine (zigzag_any x _ HX.out).mono ?_
            rintro e w1 ⟨rfl, n1, rfl⟩
            go_wp2_with fail
            refine (cvarint_any base _ _ (zz x) _ (HB.out.drewN _) (by rw [List.length_append]; omega) (zz_lt HX.out) (by show base ≤ wo.heap.size; omega)).mono ?_
            rintro e w2 ⟨v2, rfl, hB2, hO2⟩
            have B2 := Lib.hid hB2
            have O2 : Hid (Onto w v v2 w2) := (HO.out.drewN _).trans hO2
            have R2 : Hid (Rd (· < base) w2 (some ⟨b, off, none⟩) (vs.map (.int .i64))) := (RD.out.drewN _).onto hO2 HB.out.ne
            have hz2 := O2.out.1.size
            have hv2 := vint_len10 (zz_lt HX.out)
            clear hB2 hO2
            have hsub : (0 : Int) ≤ (t : Int) - (k : Int) := by omega
            go_wp2_with fail
            rw [show ((t : Int) - (k : Int)) = ((t - k : Nat) : Int) from by omega]
            refine (cvarint_any base _ _ (t - k) _ B2.out (by rw [List.length_append, List.length_append]; omega) (by omega) (by omega)).mono ?_
            rintro e w3 ⟨v3, rfl, hB3, hO3⟩
            have B3 : Hid (Byts base w3 v3 (xs ++ (ys ++ (vint (zz x) ++ vint (t - k))))) := by
              show Byts _ _ _ _
              simpa only [List.append_assoc] using hB3
            have O3 : Hid (Onto w v v3 w3) := O2.out.trans hO3
            have R3 : Hid (Rd (· < base) w3 (some ⟨b, off, none⟩) (vs.map (.int .i64))) := R2.out.onto hO3 B2.out.ne
            have E3 : Hid ((ys ++ (vint (zz x) ++ vint (t - k))) ++ runsB (vs.drop t) = runsB vs) := by
              show _ = _
              rw [← HE.out, HS.out, hx2.out]; simp
            have hv3 := vint_len10 (n := t - k) (by omega)
            clear hB3 hO3
            go_wp2_with fail
            go_roundw
            case rel => exact ⟨t, _, ht2, rfl, rfl, B3.out, E3.out, by simp only [List.length_append]; omega, R3.out, O3.out⟩
            case measure => simp [intOf]; omega
        · have hkt : k < t := by omega
          have dt : decide ((t : Int) < (vs.length : Int)) = false := by simp; omega
          have HS := Lib.hid (runs_step hkt ht2 AL.out (.inl (by omega)))
          go_wp2_with fail
          go_quiet (fail)
          go_wp2_with fail
          refine (zigzag_any x _ HX.out).mono ?_
          rintro e w1 ⟨rfl, n1, rfl⟩
          go_wp2_with fail
          refine (cvarint_any base _ _ (zz x) _ (HB.out.drewN _) (by rw [List.length_append]; omega) (zz_lt HX.out) (by show base ≤ wo.heap.size; omega)).mono ?_
          rintro e w2 ⟨v2, rfl, hB2, hO2⟩
          have B2 := Lib.hid hB2
          have O2 : Hid (Onto w v v2 w2) := (HO.out.drewN _).trans hO2
          have R2 : Hid (Rd (· < base) w2 (some ⟨b, off, none⟩) (vs.map (.int .i64))) := (RD.out.drewN _).onto hO2 HB.out.ne
          have hz2 := O2.out.1.size
          have hv2 := vint_len10 (zz_lt HX.out)
          clear hB2 hO2
          have hsub : (0 : Int) ≤ (t : Int) - (k : Int) := by omega
          go_wp2_with fail
          rw [show ((t : Int) - (k : Int)) = ((t - k : Nat) : Int) from by omega]
          refine (cvarint_any base _ _ (t - k) _ B2.out (by rw [List.length_append, List.length_append]; omega) (by omega) (by omega)).mono ?_
          rintro e w3 ⟨v3, rfl, hB3, hO3⟩
          have B3 : Hid (Byts base w3 v3 (xs ++ (ys ++ (vint (zz x) ++ vint (t - k))))) := by
            show Byts _ _ _ _
            simpa only [List.append_assoc] using hB3
          have O3 : Hid (Onto w v v3 w3) := O2.out.trans hO3
          have R3 : Hid (Rd (· < base) w3 (some ⟨b, off, none⟩) (vs.map (.int .i64))) := R2.out.onto hO3 B2.out.ne
          have E3 : Hid ((ys ++ (vint (zz x) ++ vint (t - k))) ++ runsB (vs.drop t) = runsB vs) := by
            show _ = _
            rw [← HE.out, HS.out, hx2.out]; simp
          have hv3 := vint_len10 (n := t - k) (by omega)
          clear hB3 hO3
          go_wp2_with fail
          go_roundw
          case rel => exact ⟨t, _, ht2, rfl, rfl, B3.out, E3.out, by simp only [List.length_append]; omega, R3.out, O3.out⟩
          case measure => simp [intOf]; omega
    · obtain rfl : k = vs.length := by omega
      have HF : Hid (ys = runsB vs) := by
        show ys = runsB vs
        rw [← HE.out, List.drop_length, runsB_nil, List.append_nil]
      go_wp2_with fail
      go_ret
      exact ⟨_, rfl, by rw [← HF.out]; exact HB.out, HO.out⟩
end Go.Proofs.Ytebakogdbeeljaa
