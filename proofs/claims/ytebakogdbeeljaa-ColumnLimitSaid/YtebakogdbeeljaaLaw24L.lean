/- law24: ColumnLimit: the walk of the law itself. For every input. -/
import Derived.Test.YtebakogdbeeljaaLaw24I
import Derived.Test.YtebakogdbeeljaaLaw24R
namespace Go.Proofs.Ytebakogdbeeljaa
open Go.RowKit
set_option linter.unusedVariables false
set_option linter.unusedSimpArgs false

theorem tdivk (q : Nat) : (q : Int).tdiv 1000 = ((q / 1000 : Nat) : Int) := by rw [Int.tdiv_eq_ediv_of_nonneg (by omega)]; omega
theorem tmod3 (x : Int) : -2 ≤ x.tmod 3 ∧ x.tmod 3 ≤ 2 := by
  have h1 := Int.emod_lt_of_pos x (show (0 : Int) < 3 by decide)
  rw [Int.tmod_eq_emod]
  split <;> omega
def lval (x : Int) (i : Nat) : Int := wrap64 (x + ((i / 1000 : Nat) : Int))
set_option maxHeartbeats 3000000 in
set_option maxRecDepth 100000 in
theorem law_limit (ex x : Int) (w : World) (hx : I64 x) (he : -128 ≤ ex ∧ ex ≤ 127) :
    Calls Try.prog 8 #[.int .i8 ex, .int .i64 x] w (RetExt (.bool true) w) := by
  have HX := Lib.hid hx
  obtain ⟨t, ht⟩ : ∃ t, ex.tmod 3 = t := ⟨_, rfl⟩
  have htr := tmod3 ex
  rw [ht] at htr
  obtain ⟨ht1, ht2⟩ := htr
  obtain ⟨N, hN⟩ : ∃ N : Nat, (16384 : Int) + t = (N : Int) := ⟨(16384 + t).toNat, by omega⟩
  have hN1 : N ≤ 16386 := by omega
  have hN2 : 16382 ≤ N := by omega
  have hexw : IntKind.i64.wrap ex = ex := IntWalk.i64_in _ (by omega)
  have hex64 : wrap64 ex = ex := IntWalk.wrap64_in _ (by omega)
  have htw : wrap64 t = t := IntWalk.wrap64_in _ (by omega)
  have htw2 : IntKind.i64.wrap t = t := IntWalk.i64_in _ (by omega)
  have hmk := make_any (P := Try.prog) Try.underlying22 intInfo' rfl (by decide) N (by omega)
  clear hx
  go_enter Try.func8, Try.ntmps8
  go_wp2_with (go_at_call 9; refine (awake_any _).mono ?_; rintro e w1 ⟨rfl, hg1⟩)
  clear hmk htw htw2 hexw hex64 ht hN
  obtain ⟨g, hg⟩ : ∃ g, g = w1.heap.size := ⟨_, rfl⟩
  have BL : Hid (Blk (w1.alloc (.cells (Array.replicate N (Value.int .i64 0)) 3)) g 3 (cellsI (pkV N (lval x) 0))) := by
    show Blk _ _ _ _
    rw [hg, pkV_zero, ← cellsI_zero]
    exact Blk.new _ _ _
  rw [← hg]
  have hgl : w1.heap.size ≤ g := by omega
  clear hg
  go_loopw [7] (fun i wr => ∃ k : Nat, k ≤ N ∧ i = .int .i64 k ∧ Blk wr g 3 (cellsI (pkV N (lval x) k)) ∧ w1.grownBy wr none) (fun i _ => N - (intOf i).toNat)
  case atStart => exact ⟨0, by omega, rfl, BL.out, only_alloc (only_refl _ _) _⟩
  case round =>
    obtain ⟨k, hk, rfl, hB, hG⟩ := hrel
    have HB := Lib.hid hB
    have HG := Lib.hid hG
    clear hB hG BL
    by_cases hlt : k < N
    · obtain ⟨q, hq⟩ : ∃ q, q = k / 1000 := ⟨_, rfl⟩
      have hqb : q ≤ 17 := by omega
      have hcell := HB.out.cell k
      have hci2 : (cellsI (pkV N (lval x) k))[k]? = some (.int .i64 ((pkV N (lval x) k).getD k 0)) := by
        have := pkV_len N (lval x) k
        simp [cellsI, this, hlt]
      rw [hci2] at hcell
      have hfr := HB.out.frozen k
      have hB2 := HB.out.set_ k (.int .i64 (lval x k))
      rw [cellsI_set, pkV_set N (lval x) k hlt] at hB2
      have B2 := Lib.hid hB2
      have HLV : Hid (lval x k = wrap64 (x + (q : Int))) := by show lval x k = _; rw [lval, ← hq]
      have i1 : (k : Int) < (N : Int) := by omega
      have hqd : (k : Int).tdiv 1000 = (q : Int) := hq ▸ tdivk k
      have hqw : IntKind.i64.wrap (q : Int) = (q : Int) := i64_nat (Nat.le_trans hqb (by decide))
      clear hci2 hB2 hq
      go_wp2_with fail
      clear hqd hqw
      rw [← HLV.out]
      exact ⟨⟨k + 1, by omega, by go_num, B2.out, only_setNew HG.out hgl _⟩, by simp [intOf]; omega⟩
    · obtain rfl : k = N := by omega
      obtain ⟨vs, hvs⟩ : ∃ vs, vs = pkV k (lval x) k := ⟨_, rfl⟩
      have hvl : vs.length = k := by rw [hvs, pkV_len]
      have hR := HB.out.rd
      rw [← hvs, show (cellsI vs).toList = vs.map (.int .i64) from by simp [cellsI]] at hR
      have R := Lib.hid (hR.mono (S' := fun _ => True) (fun _ _ _ => trivial))
      have HI : Hid (∀ y ∈ vs, I64 y) := fun y hy => by
        rw [hvs, pkV_full] at hy
        simp only [List.mem_map] at hy
        obtain ⟨i, _, rfl⟩ := hy
        exact w64_I64 _
      have GW : Hid (w.grownBy wr none) := only_trans hg1 HG.out
      have CE := Lib.hid (encode_any (some ⟨g, 0, none⟩) vs k wr R.out (by omega) HI.out)
      rw [hvl] at CE
      clear hR HB HG hvs
      by_cases hbig : 16384 < k
      · have d1 : decide ((16384 : Int) < (k : Int)) = true := decide_eq_true (by omega)
        have HEP : Hid (EPost wr vs = fun e w' => ∃ v, e = .returned (.tuple #[v, .int .i64 4]) ∧ Byts wr.heap.size w' v (bestTo vs 4) ∧ wr.grownBy w' none) := by
          show EPost wr vs = _
          funext e w'; unfold EPost; rw [if_pos (by omega)]
        have HCE : Hid (colErr 2 vs = 4) := by show colErr 2 vs = 4; unfold colErr; rw [if_neg (by decide), if_pos (by omega)]
        go_wp2_with fail
        refine CE.out.mono ?_
        rw [HEP.out]
        rintro e w3 ⟨v3, rfl, hB3, hg3⟩
        have CA := Lib.hid (encas_any 2 (some ⟨g, 0, none⟩) vs k w3 (R.out.grown hg3 (by simp)) (by omega) HI.out)
        rw [hvl] at CA
        have G3 : Hid (w.grownBy w3 none) := only_trans GW.out hg3
        clear hB3 hg3
        go_wp2_with fail
        refine CA.out.mono ?_
        rintro e w4 ⟨v4, he4, hB4, hg4⟩
        rw [HCE.out] at he4
        subst he4
        have G4 : Hid (w.grownBy w4 none) := only_trans G3.out hg4
        clear hB4 hg4
        go_wp2_with fail
        go_ret
        exact ⟨rfl, G4.out⟩
      · have d1 : decide ((16384 : Int) < (k : Int)) = false := decide_eq_false (by omega)
        have HEP : Hid (EPost wr vs = fun e w' => ∃ v, e = .returned (.tuple #[v, .int .i64 0]) ∧ Byts wr.heap.size w' v (bestTo vs 4) ∧ wr.grownBy w' none) := by
          show EPost wr vs = _
          funext e w'; unfold EPost; rw [if_neg (by omega)]
        obtain ⟨kb, hkb, hbest, -⟩ := best_is vs 4 (by omega) (by omega)
        have hbl := colB_len7 (kind := (kb : Nat)) HI.out (by omega)
        have DB : Hid (∀ (A : Option Addr) (c : Nat) (w : World), Rd (fun _ => True) w A ((bestTo vs 4).map (.int .u8)) → (bestTo vs 4).length ≤ c → c ≤ maxLen → Calls Try.prog 21 #[.slice A (bestTo vs 4).length c] w (DecYes w vs)) := by
          show ∀ (A : Option Addr) (c : Nat) (w : World), _
          rw [hbest]
          exact fun A c w h1 h2 h3 => dec_back (by omega) (by omega) HI.out (by omega) A c w h1 h2 h3
        clear hbest hbl
        generalize bestTo vs 4 = bs at *
        go_wp2_with fail
        refine CE.out.mono ?_
        rw [HEP.out]
        rintro e w3 ⟨v3, rfl, hB3, hg3⟩
        obtain ⟨A3, c3, rfl, hc3, hm3, hr3⟩ := hB3.rd
        have R3 := Lib.hid hr3
        have G3 : Hid (w.grownBy w3 none) := only_trans GW.out hg3
        have RV3 := Lib.hid (R.out.grown hg3 (by simp))
        clear hB3 hg3 hr3
        go_wp2_with fail
        refine (DB.out A3 c3 _ (R3.out.mono (fun _ _ _ => trivial)) hc3 hm3).mono ?_
        rintro e w7 ⟨v7, rfl, hown7, hg7⟩
        obtain ⟨A7, c7, rfl, hc7, hm7, -, hr7⟩ := Rd.of_own hown7 (by decide)
        have G7 : Hid (w.grownBy w7 none) := only_trans G3.out hg7
        have R7 := Lib.hid hr7
        have SI := Lib.hid (sameints_any (some ⟨g, 0, none⟩) A7 vs vs k c7 w7 (RV3.out.grown hg7 (by simp)) R7.out (by omega) (by omega) true (by simp))
        rw [hvl] at SI hc7 ⊢
        clear hr7 hg7 hown7 R3
        go_wp2_with fail
        refine SI.out.mono ?_
        rintro e w8 ⟨rfl, n8, rfl⟩
        go_wp2_with fail
        go_ret
        exact ⟨rfl, only_drewN G7.out n8⟩
end Go.Proofs.Ytebakogdbeeljaa
