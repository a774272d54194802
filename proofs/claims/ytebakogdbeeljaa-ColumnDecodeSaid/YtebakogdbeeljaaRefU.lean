/- unpack of the reference of chapter 24. Condition: sizes. -/
import Derived.Test.YtebakogdbeeljaaRefV
import Derived.Test.YtebakogdbeeljaaRdP
namespace Go.Proofs.Ytebakogdbeeljaa
open Go.RowKit
set_option linter.unusedVariables false
set_option linter.unusedSimpArgs false

def rU (bs : List Int) (p count : Nat) : Option (List Int) :=
  if count = 0 then some [] else
  match gNum (bs.drop p) 0 0 with
  | none => none
  | some (z, c) =>
    if bs.length ≤ p + c ∨ 64 < bs.getD (p + c) 0 then none else
    if (bs.length - (p + c + 1)) * 8 < count * (bs.getD (p + c) 0).toNat then none else
    some ((List.range count).map (fun i => wrap64 (uz z + (dBits (bs.drop (p + c + 1)) (i * (bs.getD (p + c) 0).toNat) (bs.getD (p + c) 0).toNat : Nat))))
def pkT (val : Nat → Int) (i : Nat) : List Int := (List.range i).map val
theorem pkT_succ (val : Nat → Int) (i : Nat) : pkT val (i + 1) = pkT val i ++ [val i] := by simp [pkT, List.range_succ]
theorem pkT_len (val : Nat → Int) (i : Nat) : (pkT val i).length = i := by simp [pkT]

set_option maxHeartbeats 4000000 in
set_option maxRecDepth 100000 in
theorem unpack_any (A : Option Addr) (bs : List Int) (c : Nat) (p count : Nat) (w : World) (h : Rd (· < w.heap.size) w A (bs.map (.int .u8))) (hl : bs.length ≤ 1000000) (hp : p ≤ bs.length) (hc : count ≤ 16384) (hx : ∀ x ∈ bs, 0 ≤ x ∧ x ≤ 255) :
    Calls Try.prog 41 #[.slice A bs.length c, .int .i64 p, .int .i64 count] w (RVPost w (rU bs p count)) := by
  have H := Lib.hid h
  have HX := Lib.hid hx
  clear h hx
  obtain ⟨R, hR⟩ : ∃ R, R = rU bs p count := ⟨_, rfl⟩
  rw [← hR]
  by_cases h0 : count = 0
  · subst h0
    have HF : Hid (R = some []) := by show R = some []; rw [hR]; simp [rU]
    clear hR
    go_enter Try.func41, Try.ntmps41
    go_wp2_with fail
    go_ret2
    exact rvpost_some HF.out rfl (World.ownsRow_nil _ _ _ _) (only_refl _ _)
  · have t0 : ((count : Int) == 0) = false := by rw [beq_eq_false_iff_ne]; omega
    have C := Lib.hid (geti_any A bs c p w H.out (by omega) (by omega) HX.out)
    rw [rU, if_neg h0] at hR
    cases hg : gNum (bs.drop p) 0 0 with
    | none =>
      have HF : Hid (R = none) := by show R = none; rw [hR, hg]
      have HGI : Hid (giOut bs p = .tuple #[.int .i64 0, .int .i64 0, .bool false]) := by show giOut bs p = _; unfold giOut; rw [hg]
      clear hg hR
      go_enter Try.func41, Try.ntmps41
      go_wp2_with fail
      refine C.out.mono ?_
      rw [HGI.out]
      rintro e w1 ⟨rfl, n1, rfl⟩
      go_wp2_with fail
      go_ret2
      exact rvpost_none HF.out rfl (only_drewN (only_refl _ _) _)
    | some r =>
      obtain ⟨z, cz⟩ := r
      have hzl := gNum_lt _ _ _ _ (by omega) hg
      have hpz := gNum_end hg hp
      have HGI : Hid (giOut bs p = .tuple #[.int .i64 (uz z), .int .i64 ((p + cz : Nat) : Int), .bool true]) := by show giOut bs p = _; unfold giOut; rw [hg]
      have HU2 : Hid (I64 (uz z)) := uz_I64 hzl
      rw [hg] at hR
      simp only at hR
      obtain ⟨u, hu⟩ : ∃ u, u = uz z := ⟨_, rfl⟩
      rw [← hu] at HGI HU2 hR
      obtain ⟨q, hq⟩ : ∃ q, q = p + cz := ⟨_, rfl⟩
      rw [← hq] at hpz HGI hR
      have HR := Lib.hid hR
      clear hg hzl hR hu hq
      by_cases hql : bs.length ≤ q
      · have HF : Hid (R = none) := by show R = none; rw [HR.out, if_pos (.inl hql)]
        obtain rfl : q = bs.length := by omega
        go_enter Try.func41, Try.ntmps41
        go_wp2_with fail
        refine C.out.mono ?_
        rw [HGI.out]
        rintro e w1 ⟨rfl, n1, rfl⟩
        go_wp2_with fail
        go_ret2
        exact rvpost_none HF.out rfl (only_drewN (only_refl _ _) _)
      · have d1 : decide ((bs.length : Int) ≤ (q : Int)) = false := decide_eq_false (by omega)
        have hql2 : q < bs.length := by omega
        obtain ⟨b, off, x, rfl, hcx, hx⟩ := H.out.int_at hql2
        obtain ⟨hx0, hx1⟩ : 0 ≤ x ∧ x ≤ 255 := by rw [← hx.out]; exact HX.out _ (getD_mem bs 0 hql2)
        obtain ⟨wd, rfl⟩ : ∃ wd : Nat, x = (wd : Int) := ⟨x.toNat, by omega⟩
        have hR := HR.out
        rw [hx.out, Int.toNat_natCast] at hR
        have hqi : (q : Int) < (bs.length : Int) := by omega
        have hcx1 : ∀ n, (w.drewN n).cell? ⟨b, off + q, none⟩ = some (.int .u8 (wd : Int)) := fun _ => hcx
        by_cases h64 : 64 < wd
        · have d2 : decide ((64 : Int) < (wd : Int)) = true := decide_eq_true (by omega)
          have HF : Hid (R = none) := by show R = none; rw [hR, if_pos (.inr (by omega))]
          clear hR
          go_enter Try.func41, Try.ntmps41
          go_wp2_with fail
          refine C.out.mono ?_
          rw [HGI.out]
          rintro e w1 ⟨rfl, n1, rfl⟩
          go_wp2_with fail
          go_ret2
          exact rvpost_none HF.out rfl (only_drewN (only_refl _ _) _)
        · have d2 : decide ((64 : Int) < (wd : Int)) = false := decide_eq_false (by omega)
          rw [if_neg (by omega)] at hR
          obtain ⟨s, hs⟩ : ∃ s, s = q + 1 := ⟨_, rfl⟩
          rw [← hs] at hR
          obtain ⟨P, hPm⟩ : ∃ P, P = count * wd := ⟨_, rfl⟩
          obtain ⟨L, hL⟩ : ∃ L, L = bs.length - s := ⟨_, rfl⟩
          rw [← hPm, ← hL] at hR
          have hPb : P ≤ 16384 * 64 := by rw [hPm]; exact Nat.mul_le_mul hc (by omega)
          have hmul : wrap64 ((count : Int) * (wd : Int)) = (P : Int) := by
            rw [hPm, ← Int.natCast_mul, ← hPm]; exact IntWalk.wrap64_in _ (by omega)
          have hLb : L ≤ 1000000 := by omega
          have hLi : (bs.length : Int) - (s : Int) = (L : Int) := by omega
          have hs1 : (q : Int) + 1 = (s : Int) := by omega
          have hsl : s ≤ bs.length := by omega
          have HS := Lib.hid hs
          have HPM := Lib.hid hPm
          have HL := Lib.hid hL
          have HR2 := Lib.hid hR
          clear hR hs hPm hL
          by_cases hsm : L * 8 < P
          · have HF : Hid (R = none) := by show R = none; rw [HR2.out, if_pos hsm]
            have d3 : decide ((L : Int) * 8 < (P : Int)) = true := decide_eq_true (by omega)
            go_enter Try.func41, Try.ntmps41
            go_wp2_with fail
            refine C.out.mono ?_
            rw [HGI.out]
            rintro e w1 ⟨rfl, n1, rfl⟩
            go_wp2_with fail
            go_ret2
            exact rvpost_none HF.out rfl (only_drewN (only_refl _ _) _)
          · have d3 : decide ((L : Int) * 8 < (P : Int)) = false := decide_eq_false (by omega)
            obtain ⟨val, hval⟩ : ∃ val : Nat → Int, val = (fun i => wrap64 (u + (dBits (bs.drop s) (i * wd) wd : Nat))) := ⟨_, rfl⟩
            have HF : Hid (R = some (pkT val count)) := by show R = some _; rw [HR2.out, if_neg hsm, hval]; rfl
            have HV := Lib.hid hval
            have HSM := Lib.hid hsm
            clear hval hsm
            go_enter Try.func41, Try.ntmps41
            go_wp2_with fail
            refine C.out.mono ?_
            rw [HGI.out]
            rintro e w1 ⟨rfl, n1, rfl⟩
            go_wp2_with fail
            clear d3 d2 d1 hmul hLi hs1 t0
            go_loopw [11, 12, 13] (fun v bt j wr => ∃ i : Nat, i ≤ count ∧ j = .int .i64 i ∧ bt = .int .i64 ((i * wd : Nat) : Int) ∧ wr.ownsRow w.heap.size 3 1 v i ((pkT val i).map (.int .i64)) ∧ w.grownBy wr none) (fun _ _ j _ => count - (intOf j).toNat)
            case atStart => exact ⟨0, Nat.zero_le _, rfl, by rw [Nat.zero_mul]; rfl, World.ownsRow_nil _ _ _ _, only_drewN (only_refl _ _) _⟩
            case round =>
              obtain ⟨i, hi, rfl, rfl, hown, hG⟩ := hrel
              obtain ⟨AV, cv, rfl, hcv, hcm, -, -⟩ := Rd.of_own hown (by decide)
              have HO := Lib.hid hown
              have HG := Lib.hid hG
              clear hown hG
              by_cases hlt : i < count
              · have d4 : decide ((i : Int) < (count : Int)) = true := decide_eq_true (by omega)
                obtain ⟨pp, hpp⟩ : ∃ pp, pp = i * wd := ⟨_, rfl⟩
                rw [← hpp]
                have hpb : pp + wd ≤ P := by
                  rw [hpp, HPM.out]
                  have := Nat.mul_le_mul_right wd (show i + 1 ≤ count from hlt)
                  rw [Nat.add_mul] at this; omega
                have HPP := Lib.hid hpp
                clear hpp
                go_wp2_with fail
                go_loopw [12, 14, 15] (fun bt dd j wi => ∃ k : Nat, k ≤ wd ∧ bt = .int .i64 ((pp + k : Nat) : Int) ∧ dd = .int .u64 (dBits (bs.drop s) pp k : Nat) ∧ j = .int .i64 k ∧ wi.ownsRow w.heap.size 3 1 (.slice AV i cv) i ((pkT val i).map (.int .i64)) ∧ w.grownBy wi none) (fun _ _ j _ => wd - (intOf j).toNat)
                case atStart => exact ⟨0, Nat.zero_le _, rfl, rfl, rfl, HO.out, HG.out⟩
                case round =>
                  obtain ⟨k, hk, rfl, rfl, rfl, hown2, hG2⟩ := hrel
                  have HO2 := Lib.hid hown2
                  have HG2 := Lib.hid hG2
                  clear hown2 hG2
                  by_cases hkw : k < wd
                  · have d5 : decide ((k : Int) < (wd : Int)) = true := decide_eq_true (by omega)
                    obtain ⟨bt, hbt⟩ : ∃ bt, bt = pp + k := ⟨_, rfl⟩
                    rw [← hbt]
                    have hbP : bt < P := by omega
                    obtain ⟨q8, hq8⟩ : ∃ q8, q8 = bt / 8 := ⟨_, rfl⟩
                    obtain ⟨m8, hm8⟩ : ∃ m8, m8 = bt % 8 := ⟨_, rfl⟩
                    have hm7 : m8 ≤ 7 := by omega
                    have hqn : q8 < L := by have := HSM.out; omega
                    obtain ⟨ix, hix⟩ : ∃ ix, ix = s + q8 := ⟨_, rfl⟩
                    have hixi : (s : Int) + (q8 : Int) = (ix : Int) := by omega
                    have hixl : ix < bs.length := by have := HL.out; omega
                    have hixl2 : (ix : Int) < (bs.length : Int) := by omega
                    obtain ⟨y, hcy, hy⟩ := (H.out.gr HG2.out).int_at' hixl
                    obtain ⟨hy0, hy1⟩ : 0 ≤ y ∧ y ≤ 255 := by rw [← hy.out]; exact HX.out _ (getD_mem bs 0 hixl)
                    have hbb : bt ≤ 2000000 := by omega
                    have hqd : (bt : Int).tdiv 8 = (q8 : Int) := hq8 ▸ tdiv8 bt
                    have hqm : (bt : Int).tmod 8 = (m8 : Int) := hm8 ▸ tmod8 bt
                    have hq8w : IntKind.i64.wrap (q8 : Int) = (q8 : Int) := i64_nat (by omega)
                    have hm8w : IntKind.i64.wrap (m8 : Int) = (m8 : Int) := i64_nat (Nat.le_trans hm7 (by decide))
                    have hq80 : (0 : Int) ≤ (q8 : Int) := by omega
                    have hm80 : (0 : Int) ≤ (m8 : Int) := by omega
                    have hk64 : k < 64 := by omega
                    have HBV := Lib.hid (rd_bit (d := dBits (bs.drop s) pp k) (k := k) (m8 := m8) (x := y) (dBits_64 _ pp (by omega)) hk64 hy0 hy1)
                    have HDB : Hid (dBits (bs.drop s) pp (k + 1) = dBits (bs.drop s) pp k ||| (y.toNat / 2 ^ m8 % 2) <<< k) := by
                      show dBits (bs.drop s) pp (k + 1) = _
                      have e1 : (bs.drop s).getD q8 0 = y := by
                        rw [← hy.out, hix]; simp [List.getD_eq_getElem?_getD]
                      rw [dBits, ← hbt, ← hq8, ← hm8, e1]
                    have HBT := Lib.hid hbt
                    clear hq8 hm8 hpb hPb hbt hix
                    go_wp2_with fail
                    clear hqd hqm hq8w hm8w
                    rw [HBV.out, ← HDB.out]
                    exact ⟨⟨k + 1, hkw, by have := HBT.out; rw [← Nat.add_assoc, ← this]; go_num, rfl, by go_num, HO2.out, HG2.out⟩, by simp [intOf]; omega⟩
                  · obtain rfl : k = wd := by omega
                    have d5 : decide ((k : Int) < (k : Int)) = false := by simp
                    obtain ⟨d, hd⟩ : ∃ d, d = dBits (bs.drop s) pp k := ⟨_, rfl⟩
                    have HVI : Hid (wrap64 (IntKind.u64.wrap (IntKind.u64.wrap u + (d : Int))) = val i) := by
                      show wrap64 (IntKind.u64.wrap (IntKind.u64.wrap u + (d : Int))) = val i
                      rw [hd, pk_store HU2.out (dBits_64 _ pp (by omega)), HV.out]
                      show _ = wrap64 (u + ((dBits (bs.drop s) (i * k) k : Nat) : Int))
                      rw [← HPP.out]
                    rw [← hd]
                    have hz2 := HG2.out.size
                    clear hd hpb hPb
                    go_wp2_with (at_builtin; rw [HVI.out]; refine wpList_append1 rfl _ _ 22 rfl w.heap.size Try.underlying22 intInfo' rfl (by decide) (v := _) (by rfl) (w0 := _) (cs := #[.int .i64 (val i)]) HO2.out (by rfl) rfl (by simp [Value.oneCell']) (by decide) (by omega) (by exact hz2) ?_; intro v5 w5 hown5 hg5 hob5)
                    have O5 : Hid (w5.ownsRow w.heap.size 3 1 v5 (i + 1) ((pkT val (i + 1)).map (.int .i64))) := by
                      show w5.ownsRow _ _ _ _ _ _
                      rw [pkT_succ]; simpa using hown5
                    have G5 : Hid (w.grownBy w5 none) := only_own HG2.out hg5 HO2.out (Nat.le_refl _)
                    clear hown5 hg5 hob5
                    go_wp2_with fail
                    go_roundw
                    case rel => exact ⟨i + 1, by omega, by go_num, by rw [Nat.add_mul, Nat.one_mul, ← HPP.out]; simp, O5.out, G5.out⟩
                    case measure => simp [intOf]; omega
              · have d4 : decide ((i : Int) < (count : Int)) = false := decide_eq_false (by omega)
                obtain rfl : i = count := by omega
                go_wp2_with fail
                go_ret2
                exact rvpost_some HF.out rfl (by rw [pkT_len]; exact HO.out) HG.out
end Go.Proofs.Ytebakogdbeeljaa
