/- The law of part 36 about the events for which a test holds. Condition: the table of powers of ten; MaxLen holds a number. -/
import Derived.Test.YtceebhgbebkafaaGreatDoorRPre
import Derived.Test.YtceebhgbebkafaaGreatDoorEvMem
import Derived.Test.YtceebhgbebkafaaGreatDoorScene
import Derived.Test.YtceebhgbebkafaaGreatDoorAwake
import Derived.Deep.DeepCutAuto
namespace Go.Proofs.YtceebhgbebkafaaGreatDoor
open Go.RowKit
set_option linter.unusedVariables false
set_option linter.unusedSimpArgs false

set_option maxHeartbeats 8000000 in
set_option maxRecDepth 100000 in
theorem law_holds (A : Option Addr) (l : List Int) (c : Nat) (w : World) (hPow : Pow10 w) (hMax : MaxL w) (h : Rd (fun _ => True) w A (l.map (.int .u8))) (hc : l.length ≤ c) (hcm : c ≤ maxLen) (hx : ∀ x ∈ l, 0 ≤ x ∧ x ≤ 255) :
    Calls Tryz.prog 3 #[.slice A l.length c] w (BoolP w true) := by
  have HS : Hid (∀ w', w.grownBy w' none → Calls Tryz.prog 10 #[.slice A l.length c] w' (ScenePost w')) := fun w' hg => scene_any A l c w' (h.grown hg (by simp)) hc hcm hx
  have HPW := Lib.hid hPow
  have HMX := Lib.hid hMax
  clear h hc hcm hx hPow hMax
  go_enter Tryz.func3, Tryz.ntmps3
  go_wp2_with fail
  refine (awake_any _).mono ?_
  rintro e w1 ⟨rfl, hg1⟩
  have G1 := Lib.hid hg1
  clear hg1
  go_wp2_with fail
  refine (HS.out _ G1.out).mono ?_
  rintro e w2 ⟨t, A2, c2, es, g, k2, l2, rfl, hok, hsub, hc2, hm2, hl2, hev, hst, hgd, h2, hgw, hg2⟩
  have HOK := Lib.hid hok
  have HGD : Hid (∀ e ∈ es, EvGood e) := hgd
  have hcl : t.cells.toArray = #[.int .i64 t.op, .string t.nm, .string t.tx, .int .i64 t.num, .slice t.ka t.kids.length t.kc] := rfl
  rw [hcl]
  have G2 := Lib.hid (only_trans G1.out hg2)
  have HSUB := Lib.hid hsub
  have HEV := Lib.hid hev
  clear hsub hev h2 hg2 G1 HS hcl hst hgd hok hgw
  go_upto_region 4 with fail
  obtain ⟨N, hN⟩ : ∃ N, N = w2.heap.size := ⟨_, rfl⟩
  obtain ⟨W, hW⟩ : ∃ W, W = w2.alloc (.cells #[.int .i64 t.op, .string t.nm, .string t.tx, .int .i64 t.num, .slice t.ka t.kids.length t.kc] 26) := ⟨_, rfl⟩
  have hB := Blk.new w2 26 #[.int .i64 t.op, .string t.nm, .string t.tx, .int .i64 t.num, .slice t.ka t.kids.length t.kc]
  have hGW : w2.grownBy W none := by rw [hW]; exact only_alloc (only_refl _ _) _
  rw [← hW, ← hN] at hB
  rw [← hW, ← hN]
  have SUBW := Lib.hid (HSUB.out.grown hGW (by simp))
  have EVW := Lib.hid (HEV.out.grown hGW (by simp))
  have GW := Lib.hid (only_trans G2.out hGW)
  have BW := Lib.hid hB
  clear hB hGW hW hN HSUB HEV G2
  go_wp2_with fail
  go_loopw [6] (fun i wr => ∃ k : Nat, i = .int .i64 k ∧ k ≤ es.length ∧ W.grownBy wr none) (fun i _ => es.length - (intOf i).toNat)
  case atStart => exact ⟨0, rfl, Nat.zero_le _, only_refl _ _⟩
  case round =>
    obtain ⟨k, rfl, hk, hG⟩ := hrel
    have GJ := Lib.hid hG
    have G5 := Lib.hid (only_trans GW.out hG)
    have EV5 := Lib.hid (EVW.out.grown hG (by simp))
    have SUB5 := Lib.hid (SUBW.out.grown hG (by simp))
    have B5 := Lib.hid (BW.out.grown hG (by simp))
    clear hG
    obtain ⟨e0, e1, e2, e3, e4⟩ := box5 B5.out (only_refl wr none)
    have GD : Hid (wr.grownBy wr.drew none) := Lib.hid (only_drew (only_refl _ _))
    by_cases hlt : k < es.length
    · have i1 : (k : Int) < (es.length : Int) := by omega
      obtain ⟨y, hy⟩ : ∃ y, es[k]? = some y := ⟨_, List.getElem?_eq_getElem hlt⟩
      obtain ⟨kb, ko, rfl, hkw, z0, z1, z2, z3, z4, z5, z6, z7, z8, z9⟩ := ev_in EV5.out.1 hy
      have hgy := HGD.out y (List.mem_of_getElem? hy)
      have hysub := EV5.out.2 y (List.mem_of_getElem? hy)
      have HH : Hid (∀ w', wr.grownBy w' none → Calls Tryz.prog 11 #[.agg #[.int .i64 t.op, .string t.nm, .string t.tx, .int .i64 t.num, .slice t.ka t.kids.length t.kc], .agg #[.int .i64 y.host, .int .i64 y.file, .int .i64 y.beg, .int .i64 y.fin, .slice y.la y.lines.length y.lc, .int .i64 y.time, .int .i64 y.weight, .string y.trace, .string y.stream, .slice y.fa y.fields.length y.fc]] w' (BoolP w' (holdB y 4 t))) := fun w' hg => mHolds_any y t 4 w' HOK.out (SUB5.out.grown hg (by simp)) (hysub.grown hg (by simp)) hgy.evT hgy.evV (HPW.out.grown (only_trans G5.out hg)) (HMX.out.grown (only_trans G5.out hg))
      have HR : Hid (∀ w', wr.grownBy w' none → Calls Tryz.prog 12 #[.agg #[.int .i64 t.op, .string t.nm, .string t.tx, .int .i64 t.num, .slice t.ka t.kids.length t.kc], .agg #[.int .i64 y.host, .int .i64 y.file, .int .i64 y.beg, .int .i64 y.fin, .slice y.la y.lines.length y.lc, .int .i64 y.time, .int .i64 y.weight, .string y.trace, .string y.stream, .slice y.fa y.fields.length y.fc]] w' (BoolP w' (holdB y 4 t))) := fun w' hg => rholds_any y hgy 4 t _ _ w' HOK.out (SUB5.out.grown hg (by simp)) (hysub.grown hg (by simp))
      obtain ⟨v, hv⟩ : ∃ v, v = holdB y 4 t := ⟨_, rfl⟩
      rw [← hv] at HH HR
      have EVC : Hid (∀ w', wr.grownBy w' none → ∃ b off, some (⟨kb, ko, none⟩ : Addr) = some ⟨b, off, none⟩ ∧ b < w'.heap.size ∧ w'.cell? ⟨b, off + k * 10, none⟩ = some (.int .i64 y.host) ∧ w'.cell? ⟨b, off + k * 10 + 1, none⟩ = some (.int .i64 y.file) ∧ w'.cell? ⟨b, off + k * 10 + 2, none⟩ = some (.int .i64 y.beg) ∧
    w'.cell? ⟨b, off + k * 10 + 3, none⟩ = some (.int .i64 y.fin) ∧ w'.cell? ⟨b, off + k * 10 + 4, none⟩ = some (.slice y.la y.lines.length y.lc) ∧ w'.cell? ⟨b, off + k * 10 + 5, none⟩ = some (.int .i64 y.time) ∧
    w'.cell? ⟨b, off + k * 10 + 6, none⟩ = some (.int .i64 y.weight) ∧ w'.cell? ⟨b, off + k * 10 + 7, none⟩ = some (.string y.trace) ∧ w'.cell? ⟨b, off + k * 10 + 8, none⟩ = some (.string y.stream) ∧ w'.cell? ⟨b, off + k * 10 + 9, none⟩ = some (.slice y.fa y.fields.length y.fc)) := Lib.hid (fun w' hg => ev_in (EV5.out.1.grown hg (by simp)) hy)
      clear hgy hysub hv hy
      go_wp2_with fail
      go_cut [33] (fun x wx => x = .bool false ∧ wr.grownBy wx none)
      case first =>
        go_region_law (first
          | (have htok := hst1; go_simp; go_at_call 12; go_must (with_reducible (refine (HR.out _ H6.out).mono ?_)); rintro en w7 ⟨rfl, hg7⟩; have H7 : Hid (wr.grownBy w7 none) := Lib.hid (only_trans H6.out hg7); clear hst1 hg7)
          | (go_simp; go_at_call 11; go_must (with_reducible (refine (HH.out _ GD.out).mono ?_)); rintro en w6 ⟨rfl, hg6⟩; have H6 : Hid (wr.grownBy w6 none) := Lib.hid (only_trans GD.out hg6); clear e0 e1 e2 e3 e4 z0 z1 z2 z3 z4 z5 z6 z7 z8 z9; obtain ⟨e0, e1, e2, e3, e4⟩ := box5 B5.out H6.out; obtain ⟨kb', ko', hkb, hkw', z0, z1, z2, z3, z4, z5, z6, z7, z8, z9⟩ := EVC.out _ H6.out; injection hkb with hkb; injection hkb with hk1 hk2; subst hk1 hk2; have hst1 : True := trivial; clear hg6))
        all_goals
          go_wp2_with fail
          go_meet
          exact ⟨by simp, H7.out⟩
      case rest =>
        obtain ⟨rfl, hgc⟩ := hcut
        have GJ6 := Lib.hid (only_trans GJ.out hgc)
        clear hgc e0 e1 e2 e3 e4 z0 z1 z2 z3 z4 z5 z6 z7 z8 z9
        go_wp2_with fail
        go_roundw
        case rel => exact ⟨k + 1, by go_num, by omega, GJ6.out⟩
        case measure => simp [intOf]; omega
    · have i1 : ¬ (k : Int) < (es.length : Int) := by omega
      obtain ⟨f, hf⟩ : ∃ f, f = es.filter (fun e => holdB e 4 t) := ⟨_, rfl⟩
      have hfl : f.length ≤ es.length := by rw [hf]; exact List.length_filter_le _ _
      have K1 : Hid (∀ w', wr.grownBy w' none → Calls Tryz.prog 14 #[.agg #[.int .i64 t.op, .string t.nm, .string t.tx, .int .i64 t.num, .slice t.ka t.kids.length t.kc], .slice A2 es.length c2] w' (SelPost (fun _ => True) w' f)) := Lib.hid (fun w' hg => by
        have h0 := select_any t 4 A2 es c2 w' HOK.out (SUB5.out.grown hg (by simp)) ((EV5.out.mono (S' := fun _ => True) (fun _ _ _ => trivial)).grown hg (by simp)) (by omega) HGD.out (HPW.out.grown (only_trans G5.out hg)) (HMX.out.grown (only_trans G5.out hg))
        rw [hf]; exact h0)
      have K2 : Hid (∀ w', wr.grownBy w' none → Calls Tryz.prog 15 #[.agg #[.int .i64 t.op, .string t.nm, .string t.tx, .int .i64 t.num, .slice t.ka t.kids.length t.kc], .slice A2 es.length c2] w' (SelPost (fun _ => True) w' f)) := Lib.hid (fun w' hg => by
        have h0 := rselect_any t 4 A2 es c2 w' HOK.out (SUB5.out.grown hg (by simp)) ((EV5.out.mono (S' := fun _ => True) (fun _ _ _ => trivial)).grown hg (by simp)) (by omega) HGD.out
        rw [hf]; exact h0)
      have K8 : Hid (∀ (A' B' : Option Addr) (c' d' : Nat) (w' : World), Evs (fun _ => True) w' A' f → Evs (fun _ => True) w' B' f → Calls Tryz.prog 13 #[.slice A' f.length c', .slice B' f.length d'] w' (BoolExt true w')) := Lib.hid (fun A' B' c' d' w' h1 h2 => sameevents_true A' B' f f c' d' w' h1 h2 (EvsEq.refl f) (fun e he => by
        have := (HGD.out e (by rw [hf] at he; exact (List.mem_filter.1 he).1)).evT
        exact ⟨Nat.le_trans this.1 (by omega), Nat.le_trans this.2.2.2.1 (by omega)⟩) (by omega))
      clear hf hfl
      go_wp2_with fail
      go_region_law (first
        | (have htok := hst2; go_simp; go_at_call 13; go_must (with_reducible (refine (K8.out _ _ _ _ _ E12.out E22.out).mono ?_)); rintro en w8 ⟨rfl, hg8⟩; have H8 : Hid (wr.grownBy w8 none) := Lib.hid (only_trans H7.out hg8); clear hst2 hg8)
        | (have htok := hst1; go_simp; go_at_call 15; go_must (with_reducible (refine (K2.out _ H6.out).mono ?_)); rintro en w7 ⟨A7, c7, rfl, -, -, ho7, hs7, hg7⟩; have H7 : Hid (wr.grownBy w7 none) := Lib.hid (only_trans H6.out hg7); have E22 := Lib.hid (SelPost.evs ho7 hs7); have E12 := Lib.hid (E11.out.grown hg7 (by simp)); have hst2 : True := trivial; clear hst1 ho7 hs7 hg7)
        | (go_simp; go_at_call 14; go_must (with_reducible (refine (K1.out _ GD.out).mono ?_)); rintro en w6 ⟨A6, c6, rfl, -, -, ho6, hs6, hg6⟩; have H6 : Hid (wr.grownBy w6 none) := Lib.hid (only_trans GD.out hg6); have E11 := Lib.hid (SelPost.evs ho6 hs6); clear e0 e1 e2 e3 e4; obtain ⟨e0, e1, e2, e3, e4⟩ := box5 B5.out H6.out; have hst1 : True := trivial; clear ho6 hs6 hg6))
      all_goals
        go_wp2_with fail
        go_ret
        exact ⟨rfl, only_trans G5.out H8.out⟩
end Go.Proofs.YtceebhgbebkafaaGreatDoor
