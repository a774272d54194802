/- Decode of dictionaries: the reference (printed by mkrdec.py). Condition: sizes. -/
import Derived.Test.YtgaomilmljepoaaDRefP
import Derived.Test.YtgaomilmljepoaaDRdD
import Derived.Test.YtgaomilmljepoaaEncR
import Derived.Test.YtgaomilmljepoaaSameBytes
namespace Go.Proofs.Ytgaomilmljepoaa
open Go.RowKit
set_option linter.unusedVariables false
set_option linter.unusedSimpArgs false

theorem ex0 {y s : ByteArray} : y.extract 0 0 ++ s = s := by apply toList_inj; rw [ByteArray.toList_eq, ByteArray.toList_eq]; simp
theorem lastOf_snoc {pre : List ByteArray} {x : ByteArray} {k : Nat} (h : pre.length = k) : lastOf (pre ++ [x]) (k + 1) = x := by
  unfold lastOf
  rw [if_neg (by omega)]
  subst h
  simp
theorem bytesin_mid {S : Nat → Prop} {w w' : World} {b off p m : Nat} {bs : List Int} (h : Rd S w' (some ⟨b, off, none⟩) (bs.map (.int .u8))) (hp : p + m ≤ bs.length) : Lib.BytesIn w' (some ⟨b, off + p, none⟩) m ((bs.drop p).take m) := by
  have h1 := (h.drop p).take m
  have hadd : (⟨b, off, none⟩ : Addr).add p = ⟨b, off + p, none⟩ := by unfold Addr.add; split <;> simp_all
  rw [Option.map_some, hadd, ← List.map_drop, ← List.map_take] at h1
  have := Rd.bytesIn h1
  rw [show ((bs.drop p).take m).length = m by simp; omega] at this
  exact this
def RRow (w : World) (bs : List Int) (n p0 : Nat) (vp vd vi : Value) (wr : World) : Prop :=
  ∃ (k p : Nat) (pre : List ByteArray) (A : Option Addr) (q : Nat), vi = .int .i64 k ∧ vp = .int .i64 p ∧ vd = .slice A pre.length q ∧ k ≤ n ∧ pre.length = k ∧ p ≤ bs.length ∧ k ≤ p ∧ (lastOf pre k).size ≤ p ∧
    gRd bs n 0 ⟨#[]⟩ p0 = (gRd bs (n - k) k (lastOf pre k) p).map (pre ++ ·) ∧ wr.ownsRow w.heap.size 9 1 (.slice A pre.length q) pre.length (pre.map .string) ∧ w.grownBy wr none
set_option maxHeartbeats 4000000 in
set_option maxRecDepth 100000 in
theorem rdecode_any {S : Nat → Prop} (A : Option Addr) (bs : List Int) (c : Nat) (w : World) (h : Rd S w A (bs.map (.int .u8))) (hl : bs.length ≤ 2000) (hc : bs.length ≤ c) (hcm : c ≤ maxLen) (hx : ∀ x ∈ bs, 0 ≤ x ∧ x ≤ 255) :
    Calls Try.prog 29 #[.slice A bs.length c] w (DDecPost w bs) := by
  have HBS := Lib.hid (h.mono (S' := (· < w.heap.size)) (fun b _ hb => hb))
  have HX := Lib.hid hx
  clear h hx
  unfold maxLen at hcm
  go_enter Try.func29, Try.ntmps29
  go_wp2_with fail
  refine (getv_any A bs c 0 _ HBS.out (by omega) (by omega) HX.out).mono ?_
  rintro e w1 ⟨rfl, n1, rfl⟩
  cases hg1 : gNum (bs.drop 0) 0 0 with
  | none =>
    rw [gout_none hg1]
    have HNO : Hid (∀ d, ¬ IsDict bs d) := Lib.hid (fun d hd => by
      obtain ⟨h1, h2⟩ := hd
      subst h2
      have := (gRd_all h1).1
      rw [List.drop_zero] at hg1
      rw [hg1] at this; cases this)
    clear hg1
    go_wp2_with fail
    go_ret2
    exact ddec_no HNO.out rfl (only_drewN (only_refl _ _) _)
  | some r =>
    obtain ⟨n, c1⟩ := r
    rw [gout_some hg1, Nat.zero_add]
    have hle := gNum_le _ _ _ _ _ (by decide) hg1
    simp at hle
    obtain ⟨hle1, hle2, hle3⟩ := hle
    have HNO : Hid ((gRd bs n 0 ⟨#[]⟩ c1 = none ∨ 32768 < n) → ∀ d, ¬ IsDict bs d) := Lib.hid (fun hh d hd => by
      obtain ⟨h1, h2⟩ := hd
      subst h2
      have hq := gRd_all h1
      rw [List.drop_zero] at hg1
      rw [hg1] at hq
      obtain ⟨q1, q2⟩ := hq
      injection q1 with q1
      injection q1 with q1 q3
      subst q1
      subst q3
      rcases hh with hh | hh
      · rw [q2] at hh; cases hh
      · have := (chk_long h1).2; omega)
    have HYS : Hid (∀ d, chk d = 0 → encB d = bs → gRd bs n 0 ⟨#[]⟩ c1 = some d) := Lib.hid (fun d h1 h2 => by
      subst h2
      have hq := gRd_all h1
      rw [List.drop_zero] at hg1
      rw [hg1] at hq
      obtain ⟨q1, q2⟩ := hq
      injection q1 with q1
      injection q1 with q1 q3
      rw [q1, q3]; exact q2)
    clear hg1
    by_cases hn : 32768 < n
    · have q : (32768 : Int) < (n : Int) := by omega
      have HN := Lib.hid hn
      clear hn
      go_wp2_with fail
      go_ret2
      exact ddec_no (HNO.out (.inr HN.out)) rfl (only_drewN (only_refl _ _) _)
    · have q : ¬ ((32768 : Int) < (n : Int)) := by omega
      have hn' : n ≤ 32768 := by omega
      clear hn
      obtain ⟨p0, hp0⟩ : ∃ p0, p0 = c1 := ⟨_, rfl⟩
      rw [← hp0] at HNO HYS
      have HP0 := Lib.hid hp0
      have HNO' : Hid (gRd bs n 0 ⟨#[]⟩ p0 = none → ∀ d, ¬ IsDict bs d) := Lib.hid (fun h => HNO.out (.inl h))
      clear HNO hp0
      have HNO := HNO'
      clear HNO'
      go_wp2_with fail
      go_loopw [5, 7, 8] (fun vp vd vi wr => RRow w bs n p0 vp vd vi wr) (fun _ _ vi _ => n - (intOf vi).toNat)
      case atStart => exact ⟨0, c1, [], none, 0, rfl, rfl, rfl, Nat.zero_le _, rfl, by omega, Nat.zero_le _, Nat.zero_le _, by rw [HP0.out]; simp [lastOf], World.ownsRow_nil _ _ _ _, only_drewN (only_refl _ _) _⟩
      case round =>
        obtain ⟨k, p, pre, AO, qO, rfl, rfl, rfl, hkn, hpk, hp, hkp, hls, hr, hown, hG⟩ := hrel
        have HR := Lib.hid hr
        have O := Lib.hid hown
        have G := Lib.hid hG
        have HPK := Lib.hid hpk
        have LS := Lib.hid hls
        have hpl : pre.length ≤ 2000 := by omega
        have hsz := hG.size
        clear hr hown hG hpk
        by_cases hlt : k < n
        · obtain ⟨m2, hm2⟩ : ∃ m2, n - k = m2 + 1 := ⟨n - k - 1, by omega⟩
          have HK := Lib.hid hm2
          have kI : (k : Int) < (n : Int) := by omega
          obtain ⟨b, off, hA, -, -, -⟩ := HBS.out (by simp; omega)
          subst hA
          clear hm2
          by_cases h16 : k % 16 = 0
          · have t1 : (((k : Int) % 16) != 0) = false := by simp; omega
            have HSH : Hid (gSh bs k (lastOf pre k) p = some (0, p)) := Lib.hid (by unfold gSh; rw [if_pos h16])
            clear h16
            go_wp2_with fail
            refine (getv_any (some ⟨b, off, none⟩) bs c (p) _ (HBS.out.grown (show w.grownBy (wr) none from G.out) (by simp)) (by omega) (by omega) HX.out).mono ?_
            rintro e w2 ⟨rfl, n2, rfl⟩
            cases hg2 : gNum (bs.drop (p)) 0 0 with
            | none =>
              rw [gout_none hg2]
              have HF : Hid (gRd bs n 0 ⟨#[]⟩ p0 = none) := Lib.hid (by rw [HR.out, HK.out, gRd]; unfold gWord; rw [HSH.out]; simp only [hg2]; rfl)
              clear hg2
              go_wp2_with fail
              go_ret2
              exact ddec_no (HNO.out HF.out) rfl (only_drewN G.out _)
            | some r2 =>
              obtain ⟨m, c2⟩ := r2
              rw [gout_some hg2]
              have hle := gNum_le _ _ _ _ _ (by decide) hg2
              simp at hle
              obtain ⟨hle1, hle2, hle3⟩ := hle
              have G2 := Lib.hid hg2
              clear hg2
              have p1c : p + c2 ≤ bs.length := by omega
              have dsub : (0 : Int) ≤ (bs.length : Int) - ((p + c2 : Nat) : Int) := by omega
              have dwr : IntKind.u64.wrap ((bs.length : Int) - ((p + c2 : Nat) : Int)) = (bs.length : Int) - ((p + c2 : Nat) : Int) := by rw [IntKind.wrap_u64]; omega
              by_cases hm : bs.length - (p + c2) < m
              · have HF : Hid (gRd bs n 0 ⟨#[]⟩ p0 = none) := Lib.hid (by rw [HR.out, HK.out, gRd]; unfold gWord; rw [HSH.out]; simp only [G2.out]; rw [if_pos hm]; rfl)
                have q : (bs.length : Int) - ((p + c2 : Nat) : Int) < (m : Int) := by omega
                clear hm
                go_wp2_with fail
                go_ret2
                exact ddec_no (HNO.out HF.out) rfl (only_drewN G.out _)
              · have q : ¬ ((bs.length : Int) - ((p + c2 : Nat) : Int) < (m : Int)) := by omega
                have hmb : m ≤ bs.length := by omega
                obtain ⟨x, hxd⟩ : ∃ x, x = (lastOf pre k).extract 0 (0) ++ strOfNums ((bs.drop (p + c2)).take m) := ⟨_, rfl⟩
                have HW : Hid (gWord bs k (lastOf pre k) p = some (x, p + c2 + m)) := Lib.hid (by unfold gWord; rw [HSH.out]; simp only [G2.out]; rw [if_neg hm, hxd])
                have HXD := Lib.hid hxd
                have hwl := gWord_le HW.out (by omega) LS.out
                have hp3 : p + c2 + m ≤ bs.length := by omega
                have hss : (strOfNums ((bs.drop (p + c2)).take m)).size ≤ 2000 := by rw [strOfNums_size, List.length_take]; omega
                have HWL := Lib.hid hwl
                clear hm hxd hwl
                have O2 : Hid (((wr).drewN n2).ownsRow w.heap.size 9 1 (.slice AO pre.length qO) pre.length (pre.map .string)) := Lib.hid O.out
                have HXE : Hid (x = strOfNums ((bs.drop (p + c2)).take m)) := Lib.hid (by rw [HXD.out]; exact ex0)
                have HNX : Hid (gRd bs n 0 ⟨#[]⟩ p0 = (gRd bs m2 (k + 1) x (p + c2 + m)).map ((pre ++ [x]) ++ ·)) := Lib.hid (by
                  rw [HR.out, HK.out, gRd, HW.out]
                  simp only
                  cases gRd bs m2 (k + 1) x (p + c2 + m) <;> simp)
                by_cases hcap : p + c2 = c
                · have hm0 : m = 0 := by omega
                  subst hm0
                  have hcv := Lib.BytesIn.convert (P := Try.prog) (w := (wr).drewN n2) (xs := []) (p := some ⟨b, off, none⟩) (n := 0) (fun h => absurd h (by simp)) rfl 0 22 5 9 Try.underlying22 Try.underlying5 Try.underlying9
                  have hse : (strOfNums []).size ≤ 0 := by rw [strOfNums_size]; simp
                  have HXE0 := HXE.out
                  simp only [List.take_zero] at HXE0
                  have HXE := Lib.hid HXE0
                  clear HXE0
                  go_wp2_with (at_builtin; go_must (refine wpList_append1 rfl _ _ 26 rfl w.heap.size Try.underlying26 strInfo rfl (by decide) (v := .slice AO pre.length qO) (by rfl) (w0 := (wr).drewN n2) (cs := #[.string (strOfNums [])]) O2.out (by rfl) rfl (by simp [Value.oneCell']) (by decide) (by omega) (by simp; omega) ?_); intro v7 w7 hown7 hg7 hob7; obtain ⟨A7, c7, rfl, hc7, hm7, -, -⟩ := Rd.of_own hown7 (by decide))
                  have FN := Lib.hid (show w7.ownsRow w.heap.size 9 1 (.slice A7 (pre.length + 1) c7) (pre ++ [x]).length ((pre ++ [x]).map .string) by rw [HXE.out]; simpa using hown7)
                  have GN : Hid (w.grownBy w7 none) := only_own (only_drewN G.out n2) hg7 O2.out (Nat.le_refl _)
                  clear hown7 hg7 hob7 hcv
                  go_roundw
                  case rel => exact ⟨k + 1, p + c2 + 0, pre ++ [x], A7, c7, by go_num, by go_num, by simp, by omega, by simp [HPK.out], HWL.out.2.1, by have := HWL.out.1; omega, by rw [lastOf_snoc HPK.out]; exact HWL.out.2.2, by rw [lastOf_snoc HPK.out, show n - (k + 1) = m2 by have := HK.out; omega]; exact HNX.out, by simpa using FN.out, GN.out⟩
                  case measure => simp [intOf]; omega
                · have hcI : ((p + c2 : Nat) : Int) < (c : Int) := by omega
                  have hcv := Lib.BytesIn.convert (P := Try.prog) (w := (wr).drewN n2) (p := some ⟨b, off + (p + c2), none⟩) (n := m) (xs := (bs.drop (p + c2)).take m) (bytesin_mid (w := w) (HBS.out.grown (only_drewN G.out n2) (by simp)) (by omega)) (by simp; omega) (c - (p + c2)) 22 5 9 Try.underlying22 Try.underlying5 Try.underlying9
                  go_wp2_with (at_builtin; go_must (refine wpList_append1 rfl _ _ 26 rfl w.heap.size Try.underlying26 strInfo rfl (by decide) (v := .slice AO pre.length qO) (by rfl) (w0 := (wr).drewN n2) (cs := #[.string (strOfNums ((bs.drop (p + c2)).take m))]) O2.out (by rfl) rfl (by simp [Value.oneCell']) (by decide) (by omega) (by simp; omega) ?_); intro v7 w7 hown7 hg7 hob7; obtain ⟨A7, c7, rfl, hc7, hm7, -, -⟩ := Rd.of_own hown7 (by decide))
                  have FN := Lib.hid (show w7.ownsRow w.heap.size 9 1 (.slice A7 (pre.length + 1) c7) (pre ++ [x]).length ((pre ++ [x]).map .string) by rw [HXE.out]; simpa using hown7)
                  have GN : Hid (w.grownBy w7 none) := only_own (only_drewN G.out n2) hg7 O2.out (Nat.le_refl _)
                  clear hown7 hg7 hob7 hcv
                  go_roundw
                  case rel => exact ⟨k + 1, p + c2 + m, pre ++ [x], A7, c7, by go_num, by go_num, by simp, by omega, by simp [HPK.out], HWL.out.2.1, by have := HWL.out.1; omega, by rw [lastOf_snoc HPK.out]; exact HWL.out.2.2, by rw [lastOf_snoc HPK.out, show n - (k + 1) = m2 by have := HK.out; omega]; exact HNX.out, by simpa using FN.out, GN.out⟩
                  case measure => simp [intOf]; omega
          · have t1 : (((k : Int) % 16) != 0) = true := by simp; omega
            obtain ⟨j, rfl⟩ : ∃ j, k = j + 1 := ⟨k - 1, by omega⟩
            obtain ⟨bo, oo, y, hAO, hcy, hye⟩ := Rd.str_at (S := fun _ => True) (w := wr) (A := AO) (vs := pre) (k := j) (by obtain ⟨A9, c9, e9, -, -, -, hr9⟩ := Rd.of_own O.out (by decide); injection e9 with e1 e2 e3; subst e1; exact hr9.mono (fun _ _ _ => trivial)) (by have := HPK.out; omega)
            subst hAO
            have hly : lastOf pre (j + 1) = y := by
              unfold lastOf
              rw [if_neg (by omega), Nat.add_sub_cancel]
              have := hye.out
              rw [List.getD_eq_getElem?_getD, this]; rfl
            rw [hly] at LS HR
            have HLY := Lib.hid hly
            have hys : y.size ≤ 2000 := by have := LS.out; omega
            have hjl : (j : Int) < (pre.length : Int) := by have := HPK.out; omega
            clear hly hye
            go_wp2_with fail
            refine (getv_any (some ⟨b, off, none⟩) bs c p _ (HBS.out.grown G.out (by simp)) (by omega) (by omega) HX.out).mono ?_
            rintro e w1 ⟨rfl, n1, rfl⟩
            cases hg2 : gNum (bs.drop p) 0 0 with
            | none =>
              rw [gout_none hg2]
              have HF : Hid (gRd bs n 0 ⟨#[]⟩ p0 = none) := Lib.hid (by rw [HR.out, HK.out, gRd]; unfold gWord gSh; rw [if_neg h16]; simp only [hg2]; rfl)
              clear hg2
              go_wp2_with fail
              go_ret2
              exact ddec_no (HNO.out HF.out) rfl (only_drewN G.out _)
            | some r2 =>
              obtain ⟨sh, c3⟩ := r2
              rw [gout_some hg2]
              have hle := gNum_le _ _ _ _ _ (by decide) hg2
              simp at hle
              obtain ⟨hle1', hle2', hle3'⟩ := hle
              have hcy1 : (wr.drewN n1).cell? ⟨bo, oo + j, none⟩ = some (.string y) := hcy
              by_cases hsh : y.size < sh
              · have HF : Hid (gRd bs n 0 ⟨#[]⟩ p0 = none) := Lib.hid (by rw [HR.out, HK.out, gRd]; unfold gWord gSh; rw [if_neg h16]; simp only [hg2]; rw [if_pos hsh]; rfl)
                have q : ((y.size : Nat) : Int) < (sh : Int) := by omega
                clear hg2 hsh
                go_wp2_with fail
                go_ret2
                exact ddec_no (HNO.out HF.out) rfl (only_drewN G.out _)
              · have q : ¬ (((y.size : Nat) : Int) < (sh : Int)) := by omega
                have HSH : Hid (gSh bs (j + 1) (lastOf pre (j + 1)) p = some (sh, p + c3)) := Lib.hid (by unfold gSh; rw [if_neg h16]; simp only [hg2]; rw [HLY.out, if_neg hsh])
                rw [HLY.out] at HSH
                clear hg2 hsh h16
                go_wp2_with fail
                refine (getv_any (some ⟨b, off, none⟩) bs c (p + c3) _ (HBS.out.grown (show w.grownBy (wr.drewN n1) none from (only_drewN G.out n1)) (by simp)) (by omega) (by omega) HX.out).mono ?_
                rintro e w2 ⟨rfl, n2, rfl⟩
                cases hg2 : gNum (bs.drop (p + c3)) 0 0 with
                | none =>
                  rw [gout_none hg2]
                  have HF : Hid (gRd bs n 0 ⟨#[]⟩ p0 = none) := Lib.hid (by rw [HR.out, HK.out, gRd]; unfold gWord; rw [HSH.out]; simp only [hg2]; rfl)
                  clear hg2
                  go_wp2_with fail
                  go_ret2
                  exact ddec_no (HNO.out HF.out) rfl (only_drewN G.out _)
                | some r2 =>
                  obtain ⟨m, c2⟩ := r2
                  rw [gout_some hg2]
                  have hle := gNum_le _ _ _ _ _ (by decide) hg2
                  simp at hle
                  obtain ⟨hle1, hle2, hle3⟩ := hle
                  have G2 := Lib.hid hg2
                  clear hg2
                  have p1c : p + c3 + c2 ≤ bs.length := by omega
                  have dsub : (0 : Int) ≤ (bs.length : Int) - ((p + c3 + c2 : Nat) : Int) := by omega
                  have dwr : IntKind.u64.wrap ((bs.length : Int) - ((p + c3 + c2 : Nat) : Int)) = (bs.length : Int) - ((p + c3 + c2 : Nat) : Int) := by rw [IntKind.wrap_u64]; omega
                  by_cases hm : bs.length - (p + c3 + c2) < m
                  · have HF : Hid (gRd bs n 0 ⟨#[]⟩ p0 = none) := Lib.hid (by rw [HR.out, HK.out, gRd]; unfold gWord; rw [HSH.out]; simp only [G2.out]; rw [if_pos hm]; rfl)
                    have q : (bs.length : Int) - ((p + c3 + c2 : Nat) : Int) < (m : Int) := by omega
                    clear hm
                    go_wp2_with fail
                    go_ret2
                    exact ddec_no (HNO.out HF.out) rfl (only_drewN G.out _)
                  · have q : ¬ ((bs.length : Int) - ((p + c3 + c2 : Nat) : Int) < (m : Int)) := by omega
                    have hmb : m ≤ bs.length := by omega
                    obtain ⟨x, hxd⟩ : ∃ x, x = y.extract 0 (sh) ++ strOfNums ((bs.drop (p + c3 + c2)).take m) := ⟨_, rfl⟩
                    have shI : (sh : Int) ≤ (y.size : Int) := by omega
                    have hes : (y.extract 0 sh).size ≤ 2000 := by rw [ByteArray.size_extract]; omega
                    have hes2 : min sh y.size ≤ 2000 := by omega
                    have HW : Hid (gWord bs (j + 1) y p = some (x, p + c3 + c2 + m)) := Lib.hid (by unfold gWord; rw [HSH.out]; simp only [G2.out]; rw [if_neg hm, hxd])
                    have HXD := Lib.hid hxd
                    have hwl := gWord_le HW.out (by omega) LS.out
                    have hp3 : p + c3 + c2 + m ≤ bs.length := by omega
                    have hss : (strOfNums ((bs.drop (p + c3 + c2)).take m)).size ≤ 2000 := by rw [strOfNums_size, List.length_take]; omega
                    have HWL := Lib.hid hwl
                    clear hm hxd hwl
                    have O2 : Hid (((wr).drewN (n1 + n2)).ownsRow w.heap.size 9 1 (.slice (some ⟨bo, oo, none⟩) pre.length qO) pre.length (pre.map .string)) := Lib.hid O.out
                    have HXE : Hid (x = y.extract 0 (sh) ++ strOfNums ((bs.drop (p + c3 + c2)).take m)) := Lib.hid (by rw [HXD.out])
                    have HNX : Hid (gRd bs n 0 ⟨#[]⟩ p0 = (gRd bs m2 (j + 1 + 1) x (p + c3 + c2 + m)).map ((pre ++ [x]) ++ ·)) := Lib.hid (by
                      rw [HR.out, HK.out, gRd, HW.out]
                      simp only
                      cases gRd bs m2 (j + 1 + 1) x (p + c3 + c2 + m) <;> simp)
                    by_cases hcap : p + c3 + c2 = c
                    · have hm0 : m = 0 := by omega
                      subst hm0
                      have hcv := Lib.BytesIn.convert (P := Try.prog) (w := (wr).drewN (n1 + n2)) (xs := []) (p := some ⟨b, off, none⟩) (n := 0) (fun h => absurd h (by simp)) rfl 0 22 5 9 Try.underlying22 Try.underlying5 Try.underlying9
                      have hse : (strOfNums []).size ≤ 0 := by rw [strOfNums_size]; simp
                      have HXE0 := HXE.out
                      simp only [List.take_zero] at HXE0
                      have HXE := Lib.hid HXE0
                      clear HXE0
                      go_wp2_with (at_builtin; go_must (refine wpList_append1 rfl _ _ 26 rfl w.heap.size Try.underlying26 strInfo rfl (by decide) (v := .slice (some ⟨bo, oo, none⟩) pre.length qO) (by rfl) (w0 := (wr).drewN (n1 + n2)) (cs := #[.string (y.extract 0 (sh) ++ strOfNums [])]) O2.out (by rfl) rfl (by simp [Value.oneCell']) (by decide) (by omega) (by simp; omega) ?_); intro v7 w7 hown7 hg7 hob7; obtain ⟨A7, c7, rfl, hc7, hm7, -, -⟩ := Rd.of_own hown7 (by decide))
                      have FN := Lib.hid (show w7.ownsRow w.heap.size 9 1 (.slice A7 (pre.length + 1) c7) (pre ++ [x]).length ((pre ++ [x]).map .string) by rw [HXE.out]; simpa using hown7)
                      have GN : Hid (w.grownBy w7 none) := only_own (only_drewN G.out (n1 + n2)) hg7 O2.out (Nat.le_refl _)
                      clear hown7 hg7 hob7 hcv
                      go_roundw
                      case rel => exact ⟨j + 1 + 1, p + c3 + c2 + 0, pre ++ [x], A7, c7, by go_num, by go_num, by simp, by omega, by simp [HPK.out], HWL.out.2.1, by have := HWL.out.1; omega, by rw [lastOf_snoc HPK.out]; exact HWL.out.2.2, by rw [lastOf_snoc HPK.out, show n - (j + 1 + 1) = m2 by have := HK.out; omega]; exact HNX.out, by simpa using FN.out, GN.out⟩
                      case measure => simp [intOf]; omega
                    · have hcI : ((p + c3 + c2 : Nat) : Int) < (c : Int) := by omega
                      have hcv := Lib.BytesIn.convert (P := Try.prog) (w := (wr).drewN (n1 + n2)) (p := some ⟨b, off + (p + c3 + c2), none⟩) (n := m) (xs := (bs.drop (p + c3 + c2)).take m) (bytesin_mid (w := w) (HBS.out.grown (only_drewN G.out (n1 + n2)) (by simp)) (by omega)) (by simp; omega) (c - (p + c3 + c2)) 22 5 9 Try.underlying22 Try.underlying5 Try.underlying9
                      go_wp2_with (at_builtin; go_must (refine wpList_append1 rfl _ _ 26 rfl w.heap.size Try.underlying26 strInfo rfl (by decide) (v := .slice (some ⟨bo, oo, none⟩) pre.length qO) (by rfl) (w0 := (wr).drewN (n1 + n2)) (cs := #[.string (y.extract 0 (sh) ++ strOfNums ((bs.drop (p + c3 + c2)).take m))]) O2.out (by rfl) rfl (by simp [Value.oneCell']) (by decide) (by omega) (by simp; omega) ?_); intro v7 w7 hown7 hg7 hob7; obtain ⟨A7, c7, rfl, hc7, hm7, -, -⟩ := Rd.of_own hown7 (by decide))
                      have FN := Lib.hid (show w7.ownsRow w.heap.size 9 1 (.slice A7 (pre.length + 1) c7) (pre ++ [x]).length ((pre ++ [x]).map .string) by rw [HXE.out]; simpa using hown7)
                      have GN : Hid (w.grownBy w7 none) := only_own (only_drewN G.out (n1 + n2)) hg7 O2.out (Nat.le_refl _)
                      clear hown7 hg7 hob7 hcv
                      go_roundw
                      case rel => exact ⟨j + 1 + 1, p + c3 + c2 + m, pre ++ [x], A7, c7, by go_num, by go_num, by simp, by omega, by simp [HPK.out], HWL.out.2.1, by have := HWL.out.1; omega, by rw [lastOf_snoc HPK.out]; exact HWL.out.2.2, by rw [lastOf_snoc HPK.out, show n - (j + 1 + 1) = m2 by have := HK.out; omega]; exact HNX.out, by simpa using FN.out, GN.out⟩
                      case measure => simp [intOf]; omega
        · obtain rfl : k = n := by omega
          have hds : gRd bs k 0 ⟨#[]⟩ p0 = some pre := by rw [HR.out, Nat.sub_self, gRd]; simp
          have HDS := Lib.hid hds
          obtain ⟨A9, c9, e9, f1, f2, -, f3⟩ := Rd.of_own O.out (by decide)
          injection e9 with e1 e2 e3
          subst e1 e3
          have RD := Lib.hid f3
          have HF1 := Lib.hid f1
          have HF2 := Lib.hid f2
          clear hds f1 f2 f3 e2
          go_wp2_with fail
          refine (rencode_any AO pre qO wr RD.out hpl).mono ?_
          rintro e w5 ⟨v5, rfl, hB5, hg5⟩
          obtain ⟨A5, c5, rfl, h5a, h5b, hR5⟩ := hB5.rd
          have R5 := Lib.hid hR5
          have G5 := Lib.hid (only_trans G.out hg5)
          have RD5 := Lib.hid (RD.out.grown hg5 (by simp))
          have hel := encR_len pre hpl
          clear hB5 hR5 hg5 RD
          by_cases hk : chk pre = 0
          · have q : (chk pre != 0) = false := by simp [hk]
            have HK := Lib.hid hk
            have HER := Lib.hid (encR_ok hk)
            clear hk
            obtain ⟨v, hv⟩ : ∃ v, v = decide (encR pre = bs) := ⟨_, rfl⟩
            have HV := Lib.hid hv
            have KB := Lib.hid (samebytes_any A5 A (encR pre) bs c5 c w5 R5.out (HBS.out.grown G5.out (by simp)) (by omega) (by omega) v (by rw [hv]; simp))
            clear hv
            cases v with
            | true =>
              go_wp2_with fail
              refine KB.out.mono ?_
              rintro e w6 ⟨rfl, n6, rfl⟩
              go_wp2_with fail
              go_ret2
              have hE : encR pre = bs := of_decide_eq_true HV.out.symm
              exact ⟨AO, qO, pre, 0, rfl, HF1.out, HF2.out, RD5.out.drewN n6, by have := HPK.out; omega, .inl ⟨rfl, HK.out, by rw [← HER.out]; exact hE⟩, only_drewN G5.out n6⟩
            | false =>
              go_wp2_with fail
              refine KB.out.mono ?_
              rintro e w6 ⟨rfl, n6, rfl⟩
              go_wp2_with fail
              go_ret2
              have hE : encR pre ≠ bs := of_decide_eq_false HV.out.symm
              exact ddec_no (fun d hd => by
                have h3 := HYS.out d hd.1 hd.2
                rw [HDS.out] at h3
                injection h3 with h3
                subst h3
                exact hE (by rw [HER.out]; exact hd.2)) rfl (only_drewN G5.out n6)
          · have q : (chk pre != 0) = true := by simp [hk]
            have HK := Lib.hid hk
            clear hk
            go_wp2_with fail
            go_ret2
            exact ddec_no (fun d hd => by
              have h3 := HYS.out d hd.1 hd.2
              rw [HDS.out] at h3
              injection h3 with h3
              subst h3
              exact HK.out hd.1) rfl G5.out
end Go.Proofs.Ytgaomilmljepoaa
