/- The law of part 36 about required terms. No condition. -/
import Derived.Test.YtceebhgbebkafaaGreatDoorReq
import Derived.Test.YtceebhgbebkafaaGreatDoorTerms
import Derived.Test.YtceebhgbebkafaaGreatDoorScene
import Derived.Test.YtceebhgbebkafaaGreatDoorAwakeB
import Derived.Test.YtceebhgbebkafaaGreatDoorSame0
import Derived.Test.YtceebhgbebkafaaGreatDoorEvIn
import Derived.Deep.DeepCutAuto
namespace Go.Proofs.YtceebhgbebkafaaGreatDoor
open Go.RowKit
set_option linter.unusedVariables false
set_option linter.unusedSimpArgs false

theorem box5 {W w' : World} {N : Nat} {a b : ByteArray} {x y : Int} {v : Value} {T : TypeId} (h : Blk W N T #[.int .i64 x, .string a, .string b, .int .i64 y, v]) (hg : W.grownBy w' none) :
    w'.cell? ⟨N, 0, none⟩ = some (.int .i64 x) ∧ w'.cell? ⟨N, 1, none⟩ = some (.string a) ∧ w'.cell? ⟨N, 2, none⟩ = some (.string b) ∧ w'.cell? ⟨N, 3, none⟩ = some (.int .i64 y) ∧ w'.cell? ⟨N, 4, none⟩ = some v := by
  have h := h.grown hg (by simp)
  exact ⟨h.cell 0, h.cell 1, h.cell 2, h.cell 3, h.cell 4⟩
theorem scratch_len : ∀ (e : Ev), EvT e → (rawT e).length ≤ 20000 := by
  intro e he
  have h1 := rawW_len (bts (textOf e.lines))
  rw [bts_length] at h1
  have := he.2.2.1
  have := he.2.2.2.1
  unfold rawT
  rw [List.length_append, List.length_map]
  omega
theorem poss_cong {f g : ByteArray → Bool} (h : ∀ s, f s = g s) (n : Nat) (t : TT) : poss f n t = poss g n t := by
  have : f = g := funext h
  rw [this]
theorem found_cont {ts : List ByteArray} (h : Srt ts) (s : ByteArray) : found ts s = Lib.containsS ts s := by
  rw [Bool.eq_iff_iff, found_iff h, Lib.containsS_iff]
set_option maxHeartbeats 4000000 in
set_option maxRecDepth 100000 in
theorem law_req (A : Option Addr) (l : List Int) (c : Nat) (B : Option Addr) (ws : List ByteArray) (d : Nat) (w : World) (h : Rd (fun _ => True) w A (l.map (.int .u8))) (hc : l.length ≤ c) (hcm : c ≤ maxLen) (hx : ∀ x ∈ l, 0 ≤ x ∧ x ≤ 255)
    (hb : Rd (fun _ => True) w B (ws.map .string)) (hd : ws.length ≤ d) (hdm : d ≤ maxLen) (hsz : ∀ s ∈ ws, s.size ≤ 140737488351232) :
    Calls Tryz.prog 7 #[.slice A l.length c, .slice B ws.length d] w (BoolP w true) := by
  have HS : Hid (∀ w', w.grownBy w' none → Calls Tryz.prog 10 #[.slice A l.length c] w' (ScenePost w')) := fun w' hg => scene_any A l c w' (h.grown hg (by simp)) hc hcm hx
  have HB := Lib.hid hb
  have HZ := Lib.hid hsz
  have HDM := Lib.hid hdm
  unfold maxLen at hdm
  clear h hc hcm hx hb hsz
  go_enter Tryz.func7, Tryz.ntmps7
  go_wp2_with fail
  go_loopw [5, 6] (fun n i wr => ∃ k m : Nat, i = .int .i64 k ∧ n = .int .i64 m ∧ k ≤ ws.length ∧ ws.length ≤ m ∧ (m ≤ ws.length ∨ m ≤ 281474976710000) ∧ w.grownBy wr none) (fun _ i _ => ws.length - (intOf i).toNat)
  case atStart => exact ⟨0, ws.length, rfl, rfl, Nat.zero_le _, Nat.le_refl _, .inl (Nat.le_refl _), only_refl _ _⟩
  case round =>
    obtain ⟨k, m, rfl, rfl, hk, hm1, hm2, hG⟩ := hrel
    have G := Lib.hid hG
    clear hG
    by_cases hgo : k < ws.length ∧ m ≤ 500
    · obtain ⟨hlt, hm⟩ := hgo
      have i1 : (k : Int) < (ws.length : Int) := by omega
      have i2 : (m : Int) ≤ 500 := by omega
      obtain ⟨b, off, x, rfl, hc, hx⟩ := (HB.out.grown G.out (by simp)).str_at hlt
      have hxs := HZ.out x (List.mem_of_getElem? hx.out)
      clear hx hm2
      go_wp2_with fail
      go_roundw
      case rel => exact ⟨k + 1, m + x.size, by go_num, by go_num, by omega, by omega, .inr (by omega), G.out⟩
      case measure => simp [intOf]; omega
    · by_cases hm : m ≤ 500
      · have hlt : ¬ k < ws.length := fun e => hgo ⟨e, hm⟩
        have i1 : ¬ (k : Int) < (ws.length : Int) := by omega
        have i3 : ¬ (500 : Int) < (m : Int) := by omega
        have hwl : ws.length ≤ 500 := by omega
        have KD : Hid (∀ w', w.grownBy w' none → Calls Tryz.prog 19 #[.slice B ws.length d] w' (DistOwn w' ws)) := fun w' hg => distinct_own B ws d w' (HB.out.grown hg (by simp)) (by omega) hd HDM.out
        clear hgo hm hm2 HB HZ
        go_wp2_with fail
        refine (awake_any _).mono ?_
        rintro e w1 ⟨rfl, hg1⟩
        have G1 := Lib.hid (only_trans G.out hg1)
        clear hg1
        go_wp2_with fail
        refine (HS.out _ G1.out).mono ?_
        rintro e w2 ⟨t, A2, c2, es, g, k2, l2, rfl, hok, hsub, hc2, hm2, hl2, hev, hst, hgd, h2, hgw, hg2⟩
        have HOK := Lib.hid hok
        have HGD : Hid (∀ e ∈ es, EvT e) := fun e he => (hgd e he).evT
        have hcl : t.cells.toArray = #[.int .i64 t.op, .string t.nm, .string t.tx, .int .i64 t.num, .slice t.ka t.kids.length t.kc] := rfl
        rw [hcl]
        have G2 := Lib.hid (only_trans G1.out hg2)
        have HSUB := Lib.hid hsub
        have HEV := Lib.hid hev
        clear hsub hev h2 hg2 G1 HS hcl hst hgd hok hgw
        go_upto_region 9 with fail
        obtain ⟨N, hN⟩ : ∃ N, N = w2.heap.size := ⟨_, rfl⟩
        obtain ⟨W, hW⟩ : ∃ W, W = w2.alloc (.cells #[.int .i64 t.op, .string t.nm, .string t.tx, .int .i64 t.num, .slice t.ka t.kids.length t.kc] 26) := ⟨_, rfl⟩
        have hB := Blk.new w2 26 #[.int .i64 t.op, .string t.nm, .string t.tx, .int .i64 t.num, .slice t.ka t.kids.length t.kc]
        have hGW : w2.grownBy W none := by rw [hW]; exact only_alloc (only_refl _ _) _
        rw [← hW, ← hN] at hB
        rw [← hW, ← hN]
        have SUBW := Lib.hid (HSUB.out.grown hGW (by simp))
        have EVW := Lib.hid (HEV.out.grown hGW (by simp))
        have GW := Lib.hid (only_trans G2.out hGW)
        have BW := Lib.hid hB
        clear hB hGW hW hN HSUB HEV G2
        go_wp2_with fail
        refine (KD.out _ GW.out).mono ?_
        rintro e w3 ⟨A3, c3, ds, rfl, d1, d2, d3, d4, d5, d6, hg3⟩
        have G3 := Lib.hid (only_trans GW.out hg3)
        have GX := Lib.hid hg3
        have B3 := Lib.hid (BW.out.grown hg3 (by simp))
        have SUB3 := Lib.hid (SUBW.out.grown hg3 (by simp))
        have RD3 := Lib.hid (rd_own d6 (by decide))
        have hdl : ds.length ≤ 1000000 := by omega
        have HP : Hid (∀ w', w3.grownBy w' none → Calls Tryz.prog 20 #[.agg #[.int .i64 t.op, .string t.nm, .string t.tx, .int .i64 t.num, .slice t.ka t.kids.length t.kc], .slice A3 ds.length c3] w' (BoolP w' (poss (Lib.containsS ds) 4 t))) := fun w' hg => poss_any 4 t _ _ w' A3 ds c3 HOK.out (SUB3.out.grown hg (by simp)) (RD3.out.grown hg (by simp)) hdl
        have HRP : Hid (∀ w', w3.grownBy w' none → Calls Tryz.prog 24 #[.agg #[.int .i64 t.op, .string t.nm, .string t.tx, .int .i64 t.num, .slice t.ka t.kids.length t.kc], .slice A3 ds.length c3] w' (BoolP w' (poss (Lib.containsS ds) 4 t))) := fun w' hg => by
          rw [← poss_cong (found_cont d3)]
          exact rposs_any 4 t _ _ w' A3 ds c3 HOK.out (SUB3.out.grown hg (by simp)) (RD3.out.grown hg (by simp)) hdl
        have HRQ : Hid (∀ w', w3.grownBy w' none → Calls Tryz.prog 26 #[.agg #[.int .i64 t.op, .string t.nm, .string t.tx, .int .i64 t.num, .slice t.ka t.kids.length t.kc]] w' (ReqPost w' (req 4 t))) := fun w' hg => mreq_any 4 (by omega) t _ w' HOK.out (SUB3.out.grown hg (by simp))
        have HRR : Hid (∀ w', w3.grownBy w' none → Calls Tryz.prog 27 #[.agg #[.int .i64 t.op, .string t.nm, .string t.tx, .int .i64 t.num, .slice t.ka t.kids.length t.kc]] w' (ReqPost w' (req 4 t))) := fun w' hg => rreq_any 4 (by omega) t _ w' HOK.out (SUB3.out.grown hg (by simp))
        have hql : (req 4 t).length ≤ 1000 := by have := req_len HOK.out; omega
        obtain ⟨p, hp⟩ : ∃ p, p = poss (Lib.containsS ds) 4 t := ⟨_, rfl⟩
        obtain ⟨qs, hq⟩ : ∃ q, q = req 4 t := ⟨_, rfl⟩
        rw [← hp] at HP HRP
        rw [← hq] at HRQ HRR hql
        clear hp hq d3 d4 d5 d6 hg3 KD
        obtain ⟨e0, e1, e2, e3, e4⟩ := box5 B3.out (only_refl w3 none)
        have G30 : Hid (w3.grownBy w3.drew none) := Lib.hid (only_drew (only_refl _ _))
        go_wp2_with fail
        go_cut [61] (fun v wx => v = .bool false ∧ w3.grownBy wx none)
        case first =>
         go_region_law (first
          | (have htok := hst4; go_simp; go_at_call 25; go_must (with_reducible (refine (KSM.out _ H74.out).mono ?_)); rintro e w8 ⟨rfl, q8, rfl⟩; have hst5 : True := trivial; clear hst4)
          | (have htok := hst3; go_simp; go_at_call 27; go_must (with_reducible (refine (HRR.out _ H36.out).mono ?_)); rintro e w7 ⟨A7, c7, rfl, -, -, ho7, hg7⟩; have H37 : Hid (w3.grownBy w7 none) := Lib.hid (only_trans H36.out hg7); have R77 := Lib.hid (rd_own ho7 (by decide)); have R67 := Lib.hid (R66.out.grown hg7 (by simp)); have KSM : Hid (∀ w', w7.grownBy w' none → Calls Tryz.prog 25 #[.slice A6 qs.length c6, .slice A7 qs.length c7] w' (Quiet (.bool true) w')) := Lib.hid (fun w' hg => same_any A6 A7 qs qs c6 c7 w' (R67.out.grown hg (by simp)) (R77.out.grown hg (by simp)) (by omega) (by omega) true (by simp)); have H74 : Hid (w7.grownBy w7 none) := Lib.hid (only_refl _ _); have hst4 : True := trivial; clear hst3 ho7 hg7)
          | (have htok := hst2; go_simp; go_at_call 26; go_must (with_reducible (refine (HRQ.out _ H35.out).mono ?_)); rintro e w6 ⟨A6, c6, rfl, -, -, ho6, hg6⟩; have H36 : Hid (w3.grownBy w6 none) := Lib.hid (only_trans H35.out hg6); have R66 := Lib.hid (rd_own ho6 (by decide)); obtain ⟨e0, e1, e2, e3, e4⟩ := box5 B3.out H36.out; have hst3 : True := trivial; clear hst2 ho6 hg6)
          | (have htok := hst1; go_simp; go_at_call 24; go_must (with_reducible (refine (HRP.out _ H34.out).mono ?_)); rintro e w5 ⟨rfl, hg5⟩; have H35 : Hid (w3.grownBy w5 none) := Lib.hid (only_trans H34.out hg5); obtain ⟨e0, e1, e2, e3, e4⟩ := box5 B3.out H35.out; have hst2 : True := trivial; clear hst1 hg5)
          | (go_simp; go_at_call 20; go_must (with_reducible (refine (HP.out _ G30.out).mono ?_)); rintro e w4 ⟨rfl, hg4⟩; have H34 : Hid (w3.grownBy w4 none) := Lib.hid (only_trans G30.out hg4); obtain ⟨e0, e1, e2, e3, e4⟩ := box5 B3.out H34.out; have hst1 : True := trivial; clear hg4))
         all_goals
          go_wp2_with fail
          go_meet
          exact ⟨rfl, only_drewN (H37.out) _⟩
        case rest =>
          obtain ⟨rfl, hgc⟩ := hcut
          have G4 := Lib.hid (only_trans G3.out hgc)
          have G34 := Lib.hid hgc
          have EV4 := Lib.hid ((EVW.out.grown GX.out (by simp)).grown hgc (by simp))
          have SUB4 := Lib.hid (SUB3.out.grown hgc (by simp))
          have B4 := Lib.hid (B3.out.grown hgc (by simp))
          clear hgc HP HRP HRQ HRR e0 e1 e2 e3 e4 G30 RD3 SUB3 B3 EVW SUBW BW
          go_wp2_with fail
          go_loopw [11] (fun i wr => ∃ k : Nat, i = .int .i64 k ∧ k ≤ es.length ∧ wc.grownBy wr none) (fun i _ => es.length - (intOf i).toNat)
          case atStart => exact ⟨0, rfl, Nat.zero_le _, only_refl _ _⟩
          case round =>
            obtain ⟨j, rfl, hj, hGj⟩ := hrel
            have GJ := Lib.hid hGj
            have G5 := Lib.hid (only_trans G4.out hGj)
            have EV5 := Lib.hid (EV4.out.grown hGj (by simp))
            have SUB5 := Lib.hid (SUB4.out.grown hGj (by simp))
            have B5 := Lib.hid (B4.out.grown hGj (by simp))
            clear hGj
            by_cases hjl : j < es.length
            · have i1 : (j : Int) < (es.length : Int) := by omega
              obtain ⟨y, hy⟩ : ∃ y, es[j]? = some y := ⟨_, List.getElem?_eq_getElem hjl⟩
              obtain ⟨kb, ko, rfl, hkw, z0, z1, z2, z3, z4, z5, z6, z7, z8, z9⟩ := ev_in EV5.out.1 hy
              have hty := HGD.out y (List.mem_of_getElem? hy)
              have hrl := scratch_len y hty
              have HT := Lib.hid (terms_own y _ (EV5.out.2 y (List.mem_of_getElem? hy)) hty)
              clear hty hy
              have hycl : y.cells.toArray = #[.int .i64 y.host, .int .i64 y.file, .int .i64 y.beg, .int .i64 y.fin, .slice y.la y.lines.length y.lc, .int .i64 y.time, .int .i64 y.weight, .string y.trace, .string y.stream, .slice y.fa y.fields.length y.fc] := rfl
              rw [hycl] at HT
              clear hycl
              go_wp2_with fail
              refine HT.out.mono ?_
              rintro e w6 ⟨A6, c6, ms, rfl, d1, d2, d3, d4, d5, d6, hg6⟩
              have RD6 := Lib.hid (rd_own d6 (by decide))
              have G6 := Lib.hid (only_trans GJ.out hg6)
              have SUB6 := Lib.hid (SUB5.out.grown hg6 (by simp))
              have B6 := Lib.hid (B5.out.grown hg6 (by simp))
              have hml : ms.length ≤ 1000000 := by omega
              have HP : Hid (∀ w', w6.grownBy w' none → Calls Tryz.prog 20 #[.agg #[.int .i64 t.op, .string t.nm, .string t.tx, .int .i64 t.num, .slice t.ka t.kids.length t.kc], .slice A6 ms.length c6] w' (BoolP w' (poss (Lib.containsS ms) 4 t))) := fun w' hg => poss_any 4 t _ _ w' A6 ms c6 HOK.out (SUB6.out.grown hg (by simp)) (RD6.out.grown hg (by simp)) hml
              have HRP : Hid (∀ w', w6.grownBy w' none → Calls Tryz.prog 24 #[.agg #[.int .i64 t.op, .string t.nm, .string t.tx, .int .i64 t.num, .slice t.ka t.kids.length t.kc], .slice A6 ms.length c6] w' (BoolP w' (poss (Lib.containsS ms) 4 t))) := fun w' hg => by
                rw [← poss_cong (found_cont d3)]
                exact rposs_any 4 t _ _ w' A6 ms c6 HOK.out (SUB6.out.grown hg (by simp)) (RD6.out.grown hg (by simp)) hml
              obtain ⟨p2, hp2⟩ : ∃ p, p = poss (Lib.containsS ms) 4 t := ⟨_, rfl⟩
              rw [← hp2] at HP HRP
              clear hp2 d3 d4 d5 d6 hg6 HT z0 z1 z2 z3 z4 z5 z6 z7 z8 z9
              obtain ⟨e0, e1, e2, e3, e4⟩ := box5 B6.out (only_refl w6 none)
              have G60 : Hid (w6.grownBy w6.drew none) := Lib.hid (only_drew (only_refl _ _))
              go_wp2_with fail
              go_region_law (first
                | (have htok := hst1; go_simp; go_at_call 24; go_must (with_reducible (refine (HRP.out _ H64.out).mono ?_)); rintro e w8 ⟨rfl, hg8⟩; have H68 : Hid (w6.grownBy w8 none) := Lib.hid (only_trans H64.out hg8); have hst2 : True := trivial; clear hst1 hg8)
                | (go_simp; go_at_call 20; go_must (with_reducible (refine (HP.out _ G60.out).mono ?_)); rintro e w7 ⟨rfl, hg7⟩; have H64 : Hid (w6.grownBy w7 none) := Lib.hid (only_trans G60.out hg7); obtain ⟨e0, e1, e2, e3, e4⟩ := box5 B6.out H64.out; have hst1 : True := trivial; clear hg7))
              all_goals
                go_wp2_with fail
                go_roundw
                case rel => exact ⟨j + 1, by go_num, by omega, only_trans G6.out H68.out⟩
                case measure => simp [intOf]; omega
            · have i1 : ¬ (j : Int) < (es.length : Int) := by omega
              go_wp2_with fail
              go_ret
              exact ⟨rfl, G5.out⟩
      · have i3 : (500 : Int) < (m : Int) := by omega
        have i2 : ¬ (m : Int) ≤ 500 := by omega
        by_cases hlt : k < ws.length
        · have i1 : (k : Int) < (ws.length : Int) := by omega
          clear hgo hm hm2
          go_wp2_with fail
          refine (awake_any _).mono ?_
          rintro e w1 ⟨rfl, hg1⟩
          have G1 := Lib.hid (only_trans G.out hg1)
          clear hg1
          go_wp2_with fail
          go_ret
          exact ⟨rfl, G1.out⟩
        · have i1 : ¬ (k : Int) < (ws.length : Int) := by omega
          clear hgo hm hm2
          go_wp2_with fail
          refine (awake_any _).mono ?_
          rintro e w1 ⟨rfl, hg1⟩
          have G1 := Lib.hid (only_trans G.out hg1)
          clear hg1
          go_wp2_with fail
          go_ret
          exact ⟨rfl, G1.out⟩
end Go.Proofs.YtceebhgbebkafaaGreatDoor
