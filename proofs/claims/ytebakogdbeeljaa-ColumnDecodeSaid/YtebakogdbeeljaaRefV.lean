/- values of the reference of chapter 24. Condition: sizes. -/
import Derived.Test.YtebakogdbeeljaaGetI
import Derived.Test.YtebakogdbeeljaaRdC
namespace Go.Proofs.Ytebakogdbeeljaa
open Go.RowKit
set_option linter.unusedVariables false
set_option linter.unusedSimpArgs false

theorem gNum_len : ∀ (l : List Int) (k acc v c : Nat), gNum l k acc = some (v, c) → c ≤ k + l.length
  | [], _, _, _, _, h => by simp [gNum] at h
  | d :: l, k, acc, v, c, h => by
    rw [gNum] at h
    split at h
    · cases h
    · split at h
      · cases h
      · split at h
        · split at h
          · cases h
          · injection h with h
            injection h with h1 h2
            simp; omega
        · have := gNum_len l _ _ v c h
          simp; omega
theorem gNum_end {bs : List Int} {p v c : Nat} (h : gNum (bs.drop p) 0 0 = some (v, c)) (hp : p ≤ bs.length) : p + c ≤ bs.length := by
  have := gNum_len _ _ _ _ _ h
  simp at this; omega
def vStep (kind : Int) (bs : List Int) (count : Nat) (out : List Int) (p : Nat) : Option (List Int × Nat) :=
  match gNum (bs.drop p) 0 0 with
  | none => none
  | some (z, c) =>
    if kind = 2 then
      match gNum (bs.drop (p + c)) 0 0 with
      | none => none
      | some (n, c2) => if n < 1 ∨ count - out.length < n then none else some (out ++ List.replicate n (uz z), p + c + c2)
    else if kind = 1 ∧ 0 < out.length then some (out ++ [wrap64 (out.getD (out.length - 1) 0 + uz z)], p + c)
    else some (out ++ [uz z], p + c)
def rV (kind : Int) (bs : List Int) (count : Nat) : Nat → List Int → Nat → Option (List Int)
  | 0, out, _ => some out
  | f + 1, out, p => if out.length < count then (match vStep kind bs count out p with | none => none | some r => rV kind bs count f r.1 r.2) else some out
theorem rV_end {kind : Int} {bs : List Int} {count f p : Nat} {out : List Int} (h : count ≤ out.length) : rV kind bs count f out p = some out := by
  cases f with
  | zero => rfl
  | succ f => rw [rV, if_neg (by omega)]
theorem rV_none {kind : Int} {bs : List Int} {count f p : Nat} {out : List Int} (hf : count - out.length ≤ f) (h : out.length < count) (hs : vStep kind bs count out p = none) : rV kind bs count f out p = none := by
  obtain ⟨f, rfl⟩ : ∃ f', f = f' + 1 := ⟨f - 1, by omega⟩
  rw [rV, if_pos h, hs]
theorem rV_some {kind : Int} {bs : List Int} {count f p q : Nat} {out o2 : List Int} (hf : count - out.length ≤ f) (h : out.length < count) (hs : vStep kind bs count out p = some (o2, q)) : rV kind bs count f out p = rV kind bs count (f - 1) o2 q := by
  obtain ⟨f, rfl⟩ : ∃ f', f = f' + 1 := ⟨f - 1, by omega⟩
  rw [rV, if_pos h, hs]; rfl
def RVPost (w : World) (r : Option (List Int)) (e : Ending) (w' : World) : Prop :=
  (r = none → e = .returned (.tuple #[.slice none 0 0, .bool false])) ∧ (∀ out, r = some out → ∃ v, e = .returned (.tuple #[v, .bool true]) ∧ w'.ownsRow w.heap.size 3 1 v out.length (out.map (.int .i64))) ∧ w.grownBy w' none
theorem rvpost_none {w w' : World} {r : Option (List Int)} {e : Ending} (h : r = none) (he : e = .returned (.tuple #[.slice none 0 0, .bool false])) (hg : w.grownBy w' none) : RVPost w r e w' :=
  ⟨fun _ => he, fun out h2 => (by rw [h] at h2; cases h2), hg⟩
theorem rvpost_some {w w' : World} {r : Option (List Int)} {out : List Int} {e : Ending} {v : Value} (h : r = some out) (he : e = .returned (.tuple #[v, .bool true])) (ho : w'.ownsRow w.heap.size 3 1 v out.length (out.map (.int .i64))) (hg : w.grownBy w' none) : RVPost w r e w' :=
  ⟨fun h2 => (by rw [h] at h2; cases h2), fun out2 h2 => (by rw [h] at h2; injection h2 with h2; subst h2; exact ⟨v, he, ho⟩), hg⟩

set_option maxHeartbeats 4000000 in
set_option maxRecDepth 100000 in
theorem values_any (A : Option Addr) (bs : List Int) (c : Nat) (p0 count : Nat) (kind : Int) (w : World) (h : Rd (· < w.heap.size) w A (bs.map (.int .u8))) (hl : bs.length ≤ 1000000) (hp : p0 ≤ bs.length) (hc : count ≤ 16384) (hk : kind = 0 ∨ kind = 1 ∨ kind = 2) (hx : ∀ x ∈ bs, 0 ≤ x ∧ x ≤ 255) :
    Calls Try.prog 42 #[.slice A bs.length c, .int .i64 p0, .int .i64 count, .int .i64 kind] w (RVPost w (rV kind bs count count [] p0)) := by
  have H := Lib.hid h
  have HX := Lib.hid hx
  have HK := Lib.hid hk
  clear h hx hk
  obtain ⟨R, hR⟩ : ∃ R, R = rV kind bs count count [] p0 := ⟨_, rfl⟩
  rw [← hR]
  have HR0 := Lib.hid hR
  clear hR
  go_enter Try.func42, Try.ntmps42
  go_wp2_with fail
  go_loopw [10, 1] (fun v pv wr => ∃ (out : List Int) (p f : Nat), out.length ≤ count ∧ p ≤ bs.length ∧ count - out.length ≤ f ∧ pv = .int .i64 p ∧ wr.ownsRow w.heap.size 3 1 v out.length (out.map (.int .i64)) ∧ rV kind bs count f out p = R ∧ w.grownBy wr none) (fun v _ _ => count - lenOf v)
  case atStart => exact ⟨[], p0, count, by simp, hp, by simp, rfl, World.ownsRow_nil _ _ _ _, HR0.out.symm, only_refl _ _⟩
  case round =>
    obtain ⟨out, p, f, hol, hpl, hf, rfl, hown, hE, hG⟩ := hrel
    obtain ⟨AV, cv, rfl, hcv, hcm, -, hrd⟩ := Rd.of_own hown (by decide)
    have HO := Lib.hid hown
    have HE := Lib.hid hE
    have HG := Lib.hid hG
    have HRD := Lib.hid hrd
    have hz := hG.size
    clear hown hE hG hrd HR0
    by_cases hlt : out.length < count
    · have d1 : decide ((out.length : Int) < (count : Int)) = true := decide_eq_true (by omega)
      have C := Lib.hid (geti_any A bs c p wr (H.out.gr HG.out) (by omega) (by omega) HX.out)
      cases hg : gNum (bs.drop p) 0 0 with
      | none =>
        have HF : Hid (R = none) := by
          show R = none
          rw [← HE.out, rV_none hf hlt (by rw [vStep, hg])]
        have HGI : Hid (giOut bs p = .tuple #[.int .i64 0, .int .i64 0, .bool false]) := by show giOut bs p = _; unfold giOut; rw [hg]
        clear hg
        go_wp2_with fail
        refine C.out.mono ?_
        rw [HGI.out]
        rintro e w1 ⟨rfl, n1, rfl⟩
        go_wp2_with fail
        go_ret2
        exact rvpost_none HF.out rfl (only_drewN HG.out _)
      | some r =>
        obtain ⟨z, cz⟩ := r
        have hzl := gNum_lt _ _ _ _ (by omega) hg
        have hpz := gNum_end hg hpl
        have HGI : Hid (giOut bs p = .tuple #[.int .i64 (uz z), .int .i64 ((p + cz : Nat) : Int), .bool true]) := by show giOut bs p = _; unfold giOut; rw [hg]
        have HGN := Lib.hid hg
        have HZ : Hid (I64 (uz z)) := uz_I64 hzl
        clear hg hzl
        obtain ⟨x, hx⟩ : ∃ x, x = uz z := ⟨_, rfl⟩
        rw [← hx] at HGI HZ
        have HXZ := Lib.hid hx
        clear hx
        go_wp2_with fail
        refine C.out.mono ?_
        rw [HGI.out]
        rintro e w1 ⟨rfl, n1, rfl⟩
        obtain ⟨q, hq⟩ : ∃ q, q = p + cz := ⟨_, rfl⟩
        rw [← hq] at hpz ⊢
        have HQ := Lib.hid hq
        clear hq
        by_cases h2 : kind = 2
        · subst h2
          have C2 := Lib.hid (getv_any A bs c q (wr.drewN n1) ((H.out.gr HG.out).drewN n1) (by omega) (by omega) HX.out)
          cases hg2 : gNum (bs.drop q) 0 0 with
          | none =>
            have HF : Hid (R = none) := by
              show R = none
              rw [← HE.out, rV_none hf hlt (by rw [vStep, HGN.out]; simp only [if_pos]; rw [← HQ.out, hg2])]
            have HGV := Lib.hid (gout_none hg2)
            clear hg2
            go_wp2_with fail
            refine C2.out.mono ?_
            rw [HGV.out]
            rintro e w2 ⟨rfl, n2, rfl⟩
            go_wp2_with fail
            go_ret2
            exact rvpost_none HF.out rfl (only_drewN HG.out _)
          | some r2 =>
            obtain ⟨n, c2⟩ := r2
            have hnl := gNum_lt _ _ _ _ (by omega) hg2
            have hpn := gNum_end hg2 hpz
            have HGV := Lib.hid (gout_some hg2)
            have HGN2 := Lib.hid hg2
            obtain ⟨m, hm⟩ : ∃ m, m = count - out.length := ⟨_, rfl⟩
            have hmi : (count : Int) - (out.length : Int) = (m : Int) := by omega
            have HST : Hid (vStep 2 bs count out p = if n < 1 ∨ m < n then none else some (out ++ List.replicate n x, q + c2)) := by
              show vStep 2 bs count out p = _
              rw [vStep, HGN.out]; simp only [if_pos]; rw [← HQ.out, hg2, ← hm, ← HXZ.out]
            have HM := Lib.hid hm
            have hmb : m ≤ 16384 := by omega
            have hmw : IntKind.u64.wrap (m : Int) = (m : Int) := by rw [IntKind.wrap_u64]; omega
            simp only at hnl
            clear hg2 hm
            by_cases hn1 : n < 1
            · have HF : Hid (R = none) := by
                show R = none
                rw [← HE.out, rV_none hf hlt (by rw [HST.out, if_pos (.inl hn1)])]
              obtain rfl : n = 0 := by omega
              go_wp2_with fail
              refine C2.out.mono ?_
              rw [HGV.out]
              rintro e w2 ⟨rfl, n2, rfl⟩
              go_wp2_with fail
              go_ret2
              exact rvpost_none HF.out rfl (only_drewN HG.out _)
            · have d2 : decide ((n : Int) < 1) = false := decide_eq_false (by omega)
              by_cases hnm : m < n
              · have HF : Hid (R = none) := by
                  show R = none
                  rw [← HE.out, rV_none hf hlt (by rw [HST.out, if_pos (.inr hnm)])]
                have d3 : decide ((m : Int) < (n : Int)) = true := decide_eq_true (by omega)
                have d3' : decide (m < n) = true := decide_eq_true hnm
                go_wp2_with fail
                refine C2.out.mono ?_
                rw [HGV.out]
                rintro e w2 ⟨rfl, n2, rfl⟩
                go_wp2_with fail
                go_ret2
                exact rvpost_none HF.out rfl (only_drewN HG.out _)
              · have HF : Hid (rV 2 bs count (f - 1) (out ++ List.replicate n x) (q + c2) = R) := by
                  show _ = R
                  rw [← HE.out, rV_some hf hlt (by rw [HST.out, if_neg (by omega)])]
                have d3 : decide ((m : Int) < (n : Int)) = false := decide_eq_false (by omega)
                have d3' : decide (m < n) = false := decide_eq_false hnm
                have hnm2 : n ≤ 16384 := by omega
                go_wp2_with fail
                refine C2.out.mono ?_
                rw [HGV.out]
                rintro e w2 ⟨rfl, n2, rfl⟩
                obtain ⟨q2, hq2⟩ : ∃ q2, q2 = q + c2 := ⟨_, rfl⟩
                rw [← hq2] at hpn HF ⊢
                clear hq2
                go_wp2_with fail
                go_loopw [14, 10] (fun nv v wi => ∃ k : Nat, k ≤ n ∧ nv = .int .u64 ((n - k : Nat) : Int) ∧ wi.ownsRow w.heap.size 3 1 v (out ++ List.replicate k x).length ((out ++ List.replicate k x).map (.int .i64)) ∧ w.grownBy wi none) (fun nv _ _ => (intOf nv).toNat)
                case atStart => exact ⟨0, Nat.zero_le _, rfl, by simpa using own_drewN HO.out (n1 + n2), only_drewN HG.out _⟩
                case round =>
                  obtain ⟨k, hkn, rfl, hown, hG2⟩ := hrel
                  obtain ⟨AV2, cv2, rfl, hcv2, hcm2, -, -⟩ := Rd.of_own hown (by decide)
                  have HO2 := Lib.hid hown
                  have HG2 := Lib.hid hG2
                  have hz2 := hG2.size
                  have HLN : Hid ((out ++ List.replicate k x).length = out.length + k) := by show _ = _; simp
                  clear hown hG2
                  obtain ⟨o2, ho2⟩ : ∃ o2, o2 = out ++ List.replicate k x := ⟨_, rfl⟩
                  rw [← ho2] at HO2 HLN hcv2 ⊢
                  have HOE := Lib.hid ho2
                  have hln := HLN.out
                  clear ho2
                  by_cases hk0 : k < n
                  · obtain ⟨j, hj⟩ : ∃ j, n - k = j + 1 := ⟨n - k - 1, by omega⟩
                    rw [hj]
                    have d4 : decide ((0 : Int) < ((j + 1 : Nat) : Int)) = true := decide_eq_true (by omega)
                    have hj2 : j ≤ 16384 := by omega
                    have HJ := Lib.hid hj
                    have hu1 : IntKind.u64.wrap (j : Int) = (j : Int) := by rw [IntKind.wrap_u64]; omega
                    clear hj
                    go_wp2_with (at_builtin; refine wpList_append1 rfl _ _ 22 rfl w.heap.size Try.underlying22 intInfo' rfl (by decide) (v := _) (by rfl) (w0 := _) (cs := #[.int .i64 x]) HO2.out (by rfl) rfl (by simp [Value.oneCell']) (by decide) (by omega) (by exact hz2) ?_; intro v5 w5 hown5 hg5 hob5)
                    have O5 := Lib.hid (own_snoc_int hown5)
                    have G5 : Hid (w.grownBy w5 none) := only_own HG2.out hg5 HO2.out (Nat.le_refl _)
                    clear hown5 hg5 hob5
                    go_wp2_with fail
                    go_roundw
                    case rel => exact ⟨k + 1, hk0, by have := HJ.out; rw [show n - (k + 1) = j from by omega], by rw [List.replicate_succ', ← List.append_assoc, ← HOE.out]; exact O5.out, G5.out⟩
                    case measure => simp [intOf]
                  · obtain rfl : k = n := by omega
                    rw [Nat.sub_self]
                    have d4 : decide ((0 : Int) < ((0 : Nat) : Int)) = false := by decide
                    go_wp2_with fail
                    go_roundw
                    case rel => exact ⟨o2, q2, f - 1, by have := HM.out; omega, hpn, by omega, rfl, HO2.out, by rw [HOE.out]; exact HF.out, HG2.out⟩
                    case measure =>
                      have := HM.out
                      simp [lenOf]; omega
        · by_cases h1 : kind = 1 ∧ 0 < out.length
          · obtain ⟨rfl, ho0⟩ := h1
            have HF : Hid (rV 1 bs count (f - 1) (out ++ [wrap64 (out.getD (out.length - 1) 0 + x)]) q = R) := by
              show _ = R
              rw [← HE.out, rV_some hf hlt (by rw [vStep, HGN.out]; simp only; rw [if_neg (by decide), if_pos ⟨trivial, ho0⟩, ← HXZ.out, ← HQ.out])]
            have d2 : decide ((0 : Int) < (out.length : Int)) = true := decide_eq_true (by omega)
            obtain ⟨b, off, y, rfl, hcy, hy⟩ := (HRD.out).int_at (k := out.length - 1) (by omega)
            have O1 := Lib.hid (own_drewN HO.out n1)
            have G1 := Lib.hid (only_drewN HG.out n1)
            have hcy2 : (wr.drewN n1).cell? ⟨b, off + (out.length - 1), none⟩ = some (.int .i64 y) := hcy
            have hz1 := G1.out.size
            go_wp2_with (at_builtin; refine wpList_append1 rfl _ _ 22 rfl w.heap.size Try.underlying22 intInfo' rfl (by decide) (v := _) (by rfl) (w0 := _) (cs := #[.int .i64 (wrap64 (y + x))]) O1.out (by rfl) rfl (by simp [Value.oneCell']) (by decide) (by omega) (by exact hz1) ?_; intro v5 w5 hown5 hg5 hob5)
            have O5 := Lib.hid (own_snoc_int hown5)
            have G5 : Hid (w.grownBy w5 none) := only_own G1.out hg5 O1.out (Nat.le_refl _)
            have HL5 := Lib.hid (lenOf_own O5.out)
            clear hown5 hg5 hob5
            go_wp2_with fail
            go_roundw
            case rel => exact ⟨out ++ [wrap64 (y + x)], q, f - 1, by simp; omega, hpz, by simp; omega, rfl, O5.out, by rw [← hy.out]; exact HF.out, G5.out⟩
            case measure => rw [HL5.out]; simp [lenOf]; omega
          · have HF : Hid (rV kind bs count (f - 1) (out ++ [x]) q = R) := by
              show _ = R
              rw [← HE.out, rV_some hf hlt (by rw [vStep, HGN.out]; simp only; rw [if_neg h2, if_neg h1, ← HXZ.out, ← HQ.out])]
            have O1 := Lib.hid (own_drewN HO.out n1)
            have G1 := Lib.hid (only_drewN HG.out n1)
            have hz1 := G1.out.size
            have d2 : (kind == 2) = false := by simpa using h2
            by_cases hk1 : kind = 1
            · subst hk1
              have hol0 : out.length = 0 := by
                rcases Nat.eq_zero_or_pos out.length with h3 | h3
                · exact h3
                · exact absurd ⟨rfl, h3⟩ h1
              obtain rfl : out = [] := List.eq_nil_of_length_eq_zero hol0
              clear h1 h2 hol0
              go_wp2_with (at_builtin; refine wpList_append1 rfl _ _ 22 rfl w.heap.size Try.underlying22 intInfo' rfl (by decide) (v := _) (by rfl) (w0 := _) (cs := #[.int .i64 x]) O1.out (by rfl) rfl (by simp [Value.oneCell']) (by decide) (by omega) (by exact hz1) ?_; intro v5 w5 hown5 hg5 hob5)
              have O5 := Lib.hid (own_snoc_int hown5)
              have G5 : Hid (w.grownBy w5 none) := only_own G1.out hg5 O1.out (Nat.le_refl _)
              have HL5 := Lib.hid (lenOf_own O5.out)
              clear hown5 hg5 hob5
              go_wp2_with fail
              go_roundw
              case rel => exact ⟨[] ++ [x], q, f - 1, by simp at hlt ⊢; omega, hpz, by simp at hf hlt ⊢; omega, rfl, O5.out, HF.out, G5.out⟩
              case measure => rw [HL5.out]; simp [lenOf]; simp at hlt; omega
            · obtain rfl : kind = 0 := by have := HK.out; omega
              clear h1 h2 hk1
              go_wp2_with (at_builtin; refine wpList_append1 rfl _ _ 22 rfl w.heap.size Try.underlying22 intInfo' rfl (by decide) (v := _) (by rfl) (w0 := _) (cs := #[.int .i64 x]) O1.out (by rfl) rfl (by simp [Value.oneCell']) (by decide) (by omega) (by exact hz1) ?_; intro v5 w5 hown5 hg5 hob5)
              have O5 := Lib.hid (own_snoc_int hown5)
              have G5 : Hid (w.grownBy w5 none) := only_own G1.out hg5 O1.out (Nat.le_refl _)
              have HL5 := Lib.hid (lenOf_own O5.out)
              clear hown5 hg5 hob5
              go_wp2_with fail
              go_roundw
              case rel => exact ⟨out ++ [x], q, f - 1, by simp; omega, hpz, by simp; omega, rfl, O5.out, HF.out, G5.out⟩
              case measure => rw [HL5.out]; simp [lenOf]; omega
    · have d1 : decide ((out.length : Int) < (count : Int)) = false := decide_eq_false (by omega)
      have HF : Hid (R = some out) := by show R = some out; rw [← HE.out, rV_end (by omega)]
      go_wp2_with fail
      go_ret2
      exact rvpost_some HF.out rfl HO.out HG.out
end Go.Proofs.Ytebakogdbeeljaa
