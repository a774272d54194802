/- The law of part 37 about keys. Condition: the table of powers of ten. -/
import Derived.Test.YtfkgcighooijhaaDoorScn37
import Derived.Test.YtfkgcighooijhaaDoorKey
import Derived.Test.YtfkgcighooijhaaDoorSame0
import Derived.Test.YtfkgcighooijhaaDoorEvIn
namespace Go.Proofs.YtfkgcighooijhaaDoor
open Go.RowKit
set_option linter.unusedVariables false
set_option linter.unusedSimpArgs false

theorem rd_own1 {w : World} {base e n : Nat} {A : Option Addr} {c : Nat} {xs : List Value} (h : w.ownsRow base e 1 (.slice A n c) n xs) : Rd (base ≤ ·) w A xs := by
  obtain ⟨A', c', e1, _, _, _, hr⟩ := Rd.of_own h (by decide)
  injection e1 with e1
  rw [e1]; exact hr
theorem cmpK_cases (a b : List ByteArray) : (cmpK a b = -1 ∧ cmpK b a = 1) ∨ (cmpK a b = 0 ∧ cmpK b a = 0) ∨ (cmpK a b = 1 ∧ cmpK b a = -1) := by
  have h1 := cmpK_anti a b
  have h2 := cmpK_range a b
  omega
set_option maxHeartbeats 8000000 in
set_option maxRecDepth 100000 in
theorem law_keys (A : Option Addr) (l : List Int) (c : Nat) (Aa : Option Addr) (xa : List ByteArray) (ca : Nat) (Ab : Option Addr) (xb : List ByteArray) (cb : Nat) (w : World) (hPow : Pow10 w)
    (h : Rd (fun _ => True) w A (l.map (.int .u8))) (hc : l.length ≤ c) (hcm : c ≤ maxLen) (hx : ∀ x ∈ l, 0 ≤ x ∧ x ≤ 255) (ha : Rd (fun _ => True) w Aa (xa.map .string)) (hb : Rd (fun _ => True) w Ab (xb.map .string)) :
    Calls Tryd.prog 3 #[.slice A l.length c, .slice Aa xa.length ca, .slice Ab xb.length cb] w (fun e w' => e = .returned (.bool true) ∧ w.grownBy w' none) := by
  have HS : Hid (∀ w', w.grownBy w' none → Calls Tryd.prog 5 #[.slice A l.length c] w' (ScenePost w')) := fun w' hg => scene_any A l c w' (h.grown hg (by simp)) hc hcm hx
  have HP : Hid (∀ w', w.grownBy w' none → Pow10 w') := Lib.hid (fun w' hg => hPow.grown hg)
  have HA := Lib.hid ha
  have HB := Lib.hid hb
  clear h hc hcm hx ha hb hPow
  by_cases hla : xa.length ≤ 40
  · by_cases hlb : xb.length ≤ 40
    · have i1 : ¬ (40 : Int) < (xa.length : Int) := by omega
      have i2 : ¬ (40 : Int) < (xb.length : Int) := by omega
      go_enter Tryd.func3, Tryd.ntmps3
      go_wp2_with fail
      refine (awake_any _).mono ?_
      rintro e w1 ⟨rfl, hg1⟩
      have G1 := Lib.hid hg1
      clear hg1
      go_wp2_with fail
      refine (HS.out _ G1.out).mono ?_
      rintro e w2 ⟨A1, A2, A3, c1, c2, c3, ns, ags, es, g, k0, l0, rfl, n1, n2, n3, n4, hns, hrn, -, -, -, -, -, -, e1, e2, e3, hev, -, hgd, -, -, hg2⟩
      have G2 := Lib.hid (only_trans G1.out hg2)
      have HNS : Hid (∀ n ∈ ns, n.size ≤ 1000) := Lib.hid (fun n hn => by have := hns n hn; omega)
      have RN := Lib.hid hrn
      have EV := Lib.hid hev
      have HGD := Lib.hid hgd
      have PT := Lib.hid (HP.out _ G2.out)
      clear HS hns hrn hev hgd hg2 G1 HP n1 n2 e1 e2
      go_wp2_with fail
      go_loopw [11] (fun i wr => ∃ k : Nat, i = .int .i64 k ∧ k ≤ es.length ∧ w2.grownBy wr none) (fun i _ => es.length - (intOf i).toNat)
      case atStart => exact ⟨0, rfl, Nat.zero_le _, only_refl _ _⟩
      case round =>
        obtain ⟨k, rfl, hk, hG⟩ := hrel
        have G := Lib.hid hG
        clear hG
        by_cases hlt : k < es.length
        · obtain ⟨y, hy⟩ : ∃ y, es[k]? = some y := ⟨_, List.getElem?_eq_getElem hlt⟩
          have HY : Hid (∀ w', w2.grownBy w' none → y.Sub (g < ·) w') := Lib.hid (fun w' hg => (EV.out.grown hg (by simp)).2 y (List.mem_of_getElem? hy))
          have HE : Hid (∀ w', w2.grownBy w' none → Rd (g < ·) w' A3 (es.flatMap Ev.cells)) := Lib.hid (fun w' hg => (EV.out.grown hg (by simp)).1)
          have gd := HGD.out y (List.mem_of_getElem? hy)
          have K1 : Hid (∀ w', w2.grownBy w' none → Calls Tryd.prog 7 #[.slice A1 ns.length c1, .agg y.cells.toArray] w' (StrsP w' (keyOf_ ns y))) := Lib.hid (fun w' hg => key_any A1 ns c1 y w' (RN.out.grown hg (by simp)) (by omega) HNS.out (HY.out w' hg) gd.evI0 (PT.out.grown hg))
          have K2 : Hid (∀ w', w2.grownBy w' none → Calls Tryd.prog 8 #[.slice A1 ns.length c1, .agg y.cells.toArray] w' (StrsP w' (keyOf_ ns y))) := Lib.hid (fun w' hg => rkey_any A1 ns c1 y w' (RN.out.grown hg (by simp)) (by omega) HNS.out (HY.out w' hg) gd.evN0 gd.evI0.2.2.2.2)
          have hkl : (keyOf_ ns y).length ≤ 2 := by unfold keyOf_; rw [List.length_map]; exact n4
          obtain ⟨ks, hks⟩ : ∃ ks, ks = keyOf_ ns y := ⟨_, rfl⟩
          rw [← hks] at K1 K2 hkl
          clear hks gd
          have hycl : y.cells.toArray = #[.int .i64 y.host, .int .i64 y.file, .int .i64 y.beg, .int .i64 y.fin, .slice y.la y.lines.length y.lc, .int .i64 y.time, .int .i64 y.weight, .string y.trace, .string y.stream, .slice y.fa y.fields.length y.fc] := rfl
          rw [hycl] at K1 K2
          clear hycl
          obtain ⟨kb, ko, rfl, hkw, z0, z1, z2, z3, z4, z5, z6, z7, z8, z9⟩ := ev_in (HE.out wr G.out) hy
          have ZZ : Hid (∀ w', w2.grownBy w' none → w'.cell? ⟨kb, ko + k * 10, none⟩ = some (.int .i64 y.host) ∧ w'.cell? ⟨kb, ko + k * 10 + 1, none⟩ = some (.int .i64 y.file) ∧ w'.cell? ⟨kb, ko + k * 10 + 2, none⟩ = some (.int .i64 y.beg) ∧ w'.cell? ⟨kb, ko + k * 10 + 3, none⟩ = some (.int .i64 y.fin) ∧ w'.cell? ⟨kb, ko + k * 10 + 4, none⟩ = some (.slice y.la y.lines.length y.lc) ∧ w'.cell? ⟨kb, ko + k * 10 + 5, none⟩ = some (.int .i64 y.time) ∧ w'.cell? ⟨kb, ko + k * 10 + 6, none⟩ = some (.int .i64 y.weight) ∧ w'.cell? ⟨kb, ko + k * 10 + 7, none⟩ = some (.string y.trace) ∧ w'.cell? ⟨kb, ko + k * 10 + 8, none⟩ = some (.string y.stream) ∧ w'.cell? ⟨kb, ko + k * 10 + 9, none⟩ = some (.slice y.fa y.fields.length y.fc)) := Lib.hid (fun w' hg => by
            obtain ⟨kb', ko', e, _, z⟩ := ev_in (HE.out w' hg) hy
            injection e with e
            injection e with e1 e2
            subst e1 e2
            exact z)
          have hG0 : wr.grownBy wr.drew none := only_drew (only_refl wr none)
          have GD := Lib.hid (only_trans G.out hG0)
          have GG := Lib.hid hG0
          have j1 : (k : Int) < (es.length : Int) := by omega
          clear hy HY HE hG0
          go_wp2_with fail
          go_region_law (first
            | (have htok := tok2; go_simp; go_at_call 6; go_must (with_reducible (refine (KS.out).mono ?_)); rintro e w5 ⟨rfl, nq, rfl⟩)
            | (have htok := tok1; go_simp; go_at_call 8; go_must (with_reducible (refine (K2.out _ G3.out).mono ?_)); rintro e w4 ⟨AK2, cK2, rfl, hk5, hk6, hk7, hg4⟩; have RK2 := rd_own1 hk7; have KS := Lib.hid (same_any AK1 AK2 ks ks cK1 cK2 w4 (RK1.out.grown hg4 (by simp)) RK2 (by omega) (by omega) true ⟨fun _ => rfl, fun _ => rfl⟩); have G4 := Lib.hid (only_trans G3.out hg4); have tok2 := trivial; clear hk5 hk6 hk7 hg4 RK2)
            | (go_simp; go_at_call 7; go_must (with_reducible (refine (K1.out _ GD.out).mono ?_)); rintro e w3 ⟨AK1, cK1, rfl, hk1, hk2, hk3, hg3⟩; have RK1 := Lib.hid (rd_own1 hk3); have G3 := Lib.hid (only_trans GD.out hg3); clear z0 z1 z2 z3 z4 z5 z6 z7 z8 z9; obtain ⟨z0, z1, z2, z3, z4, z5, z6, z7, z8, z9⟩ := ZZ.out w3 G3.out; have hkw3 : kb < w3.heap.size := Nat.lt_of_lt_of_le hkw hg3.size; have tok1 := trivial; clear hk1 hk2 hk3 hg3))
          all_goals
            have G5 := Lib.hid (only_drewN G4.out nq)
            clear z0 z1 z2 z3 z4 z5 z6 z7 z8 z9 KS RK1 K1 K2 ZZ G3 G4 GD GG
            go_wp2_with fail
            go_roundw
            case rel => exact ⟨k + 1, by go_num, by omega, G5.out⟩
            case measure => simp [intOf]; omega
        · have j1 : ¬ (k : Int) < (es.length : Int) := by omega
          have G0 := Lib.hid (only_trans G2.out G.out)
          have P1 : Hid (∀ w', wr.grownBy w' none → Calls Tryd.prog 9 #[.slice Aa xa.length ca, .slice Ab xb.length cb] w' (IntP (cmpK xa xb) w')) := Lib.hid (fun w' hg => pcmp_any Aa Ab xa xb ca cb w' (HA.out.grown (only_trans G0.out hg) (by simp)) (HB.out.grown (only_trans G0.out hg) (by simp)) (by omega) (by omega))
          have P2 : Hid (∀ w', wr.grownBy w' none → Calls Tryd.prog 10 #[.slice Aa xa.length ca, .slice Ab xb.length cb] w' (IntQ (cmpK xa xb) w')) := Lib.hid (fun w' hg => rcmp_any Aa Ab xa xb ca cb w' (HA.out.grown (only_trans G0.out hg) (by simp)) (HB.out.grown (only_trans G0.out hg) (by simp)) (by omega) (by omega))
          have P3 : Hid (∀ w', wr.grownBy w' none → Calls Tryd.prog 9 #[.slice Ab xb.length cb, .slice Aa xa.length ca] w' (IntP (cmpK xb xa) w')) := Lib.hid (fun w' hg => pcmp_any Ab Aa xb xa cb ca w' (HB.out.grown (only_trans G0.out hg) (by simp)) (HA.out.grown (only_trans G0.out hg) (by simp)) (by omega) (by omega))
          have P4 : Hid (∀ w', wr.grownBy w' none → Calls Tryd.prog 9 #[.slice Aa xa.length ca, .slice Aa xa.length ca] w' (IntP 0 w')) := Lib.hid (fun w' hg => by
            have h0 := pcmp_any Aa Aa xa xa ca ca w' (HA.out.grown (only_trans G0.out hg) (by simp)) (HA.out.grown (only_trans G0.out hg) (by simp)) (by omega) (by omega)
            rw [cmpK_self] at h0
            exact h0)
          rcases cmpK_cases xa xb with ⟨hx1, hx2⟩ | ⟨hx1, hx2⟩ | ⟨hx1, hx2⟩
          all_goals
            rw [hx1] at P1 P2
            rw [hx2] at P3
            clear hx1 hx2
            go_wp2_with fail
            refine (P1.out _ (only_refl _ _)).mono ?_
            rintro e w3 ⟨rfl, rfl⟩
            go_wp2_with fail
            refine (P2.out _ (only_refl _ _)).mono ?_
            rintro e w4 ⟨rfl, nq, rfl⟩
            have GN := Lib.hid (only_drewN (only_refl w3 none) nq)
            go_wp2_with fail
            refine (P1.out _ GN.out).mono ?_
            rintro e w5 ⟨rfl, rfl⟩
            go_wp2_with fail
            refine (P3.out _ GN.out).mono ?_
            rintro e w6 ⟨rfl, rfl⟩
            go_wp2_with fail
            refine (P4.out _ GN.out).mono ?_
            rintro e w7 ⟨rfl, rfl⟩
            go_wp2_with fail
            go_ret
            exact ⟨rfl, only_trans G0.out GN.out⟩
    · have i1 : ¬ (40 : Int) < (xa.length : Int) := by omega
      have i2 : (40 : Int) < (xb.length : Int) := by omega
      go_enter Tryd.func3, Tryd.ntmps3
      go_wp2_with fail
      refine (awake_any _).mono ?_
      rintro e w1 ⟨rfl, hg1⟩
      have G1 := Lib.hid hg1
      clear hg1
      go_wp2_with fail
      go_ret
      exact ⟨rfl, G1.out⟩
  · have i1 : (40 : Int) < (xa.length : Int) := by omega
    go_enter Tryd.func3, Tryd.ntmps3
    go_wp2_with fail
    refine (awake_any _).mono ?_
    rintro e w1 ⟨rfl, hg1⟩
    have G1 := Lib.hid hg1
    clear hg1
    go_wp2_with fail
    go_ret
    exact ⟨rfl, G1.out⟩
end Go.Proofs.YtfkgcighooijhaaDoor
