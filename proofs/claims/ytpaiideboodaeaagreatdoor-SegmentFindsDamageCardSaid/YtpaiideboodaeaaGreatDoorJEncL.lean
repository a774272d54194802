/- lineSection of the program's segment (printed by mkencl.py). Conditions: good events. -/
import Derived.Test.YtpaiideboodaeaaGreatDoorJLin27
import Derived.Test.YtpaiideboodaeaaGreatDoorJEncB
import Derived.Test.YtpaiideboodaeaaGreatDoorJGenC
import Derived.Test.YtpaiideboodaeaaGreatDoorJRIdx
import Derived.StillTailTactics
import Derived.Deep.RegionLaw
import Derived.Test.YtpaiideboodaeaaGreatDoorJBase
import Derived.Lib.Bytealg
import Derived.Laws.Externs
namespace Go.Proofs.YtpaiideboodaeaaGreatDoor
open Go.RowKit
set_option linter.unusedVariables false
set_option linter.unusedSimpArgs false

set_option maxHeartbeats 16000000 in
set_option maxRecDepth 100000 in
theorem linesec_any {S : Nat → Prop} (A : Option Addr) (es : List Ev) (c : Nat) (w : World) (hev : Evs S w A es) (hel : es.length ≤ 40) (hs : ∀ e ∈ es, EvL e) :
    Calls Tryz.prog 26 #[.slice A es.length c] w (NewB w (linesX es)) := by
  have HEV := Lib.hid hev
  have HLE := Lib.hid (fun k => lnsL_len (es := es.take k) (fun e he => hs e (List.mem_of_mem_take he)) (by rw [List.length_take]; omega))
  have HLM := Lib.hid (lnsL_mem hs)
  have HL3 : Hid (∀ e ∈ es, e.lines.length ≤ 3) := Lib.hid (fun e he => (hs e he).1.1)
  have HN1 : Hid (∀ (k : Nat) (y : Ev), es[k]? = some y → cntL (es.take (k + 1)) = cntL (es.take k) ++ [(y.lines.length : Int)]) := Lib.hid (fun k y hy => by
    obtain ⟨h1, h2⟩ := List.getElem?_eq_some_iff.1 hy
    unfold cntL
    rw [List.take_succ_eq_append_getElem h1, h2, List.map_append]
    rfl)
  have HN2 : Hid (∀ (k : Nat) (y : Ev), es[k]? = some y → lnsL (es.take (k + 1)) = lnsL (es.take k) ++ y.lines) := Lib.hid (fun k y hy => flat_snoc (fun e : Ev => e.lines) hy)
  have HX : Hid (linesX es = blkP (colX (cntL es)) ++ blkP (colX ((lnsL es).map (·.off))) ++ blkP (colX ((lnsL es).map (·.len))) ++ blkP (colX ((lnsL es).map (fun x => (x.text.size : Int)))) ++ txtL (lnsL es)) := Lib.hid rfl
  have HCL : Hid ((cntL es).length = es.length) := Lib.hid (by unfold cntL; rw [List.length_map])
  have HCM : Hid (∀ x ∈ cntL es, I64 x) := Lib.hid (fun x hx => by
    obtain ⟨e, he, rfl⟩ := List.mem_map.1 hx
    have := (hs e he).1.1
    exact i64_small (by omega))
  have HTL : Hid (∀ L : List LineD, (∀ x ∈ L, x.text.size ≤ 59) → (txtL L).length ≤ 59 * L.length) := Lib.hid txtL_len
  have HMK : Hid (∀ k, ∀ x ∈ lnsL (es.take k), x.text.size ≤ 59) := Lib.hid (fun k x hx => (lnsL_mem (fun e he => hs e (List.mem_of_mem_take he)) x hx).1)
  obtain ⟨R, hR⟩ : ∃ r, r = linesX es := ⟨_, rfl⟩
  rw [← hR] at HX ⊢
  clear hev hs hR
  go_enter Tryz.func26, Tryz.ntmps26
  go_wp2_with fail
  go_loopw [3, 4, 5, 6, 7, 14] (fun v3 v4 v5 v6 v7 vi wr => ∃ (k : Nat) (L : List LineD) (T cs : List Int), vi = .int .i64 k ∧ k ≤ es.length ∧ Hid (lnsL (es.take k) = L) ∧ Hid (txtL L = T) ∧ Hid (cntL (es.take k) = cs) ∧ Lns w.heap.size wr v3 v4 v5 v6 v7 cs L T ∧ w.grownBy wr none) (fun _ _ _ _ _ vi _ => es.length - (intOf vi).toNat)
  case atStart => exact ⟨0, [], [], [], rfl, Nat.zero_le _, Lib.hid rfl, Lib.hid rfl, Lib.hid rfl, Lns.nil, only_refl _ _⟩
  case round =>
    obtain ⟨k, L, T, cs, rfl, hk, HL, HT, HC, hN, hG⟩ := hrel
    have LN := Lib.hid hN
    have G := Lib.hid hG
    have hbase : w.heap.size ≤ wr.heap.size := hG.size
    have hcl : cs.length ≤ 40 := by rw [← HC.out]; unfold cntL; rw [List.length_map, List.length_take]; omega
    have hLl0 : L.length ≤ 120 := by rw [← HL.out]; exact HLE.out k
    obtain ⟨vC, hvC⟩ : ∃ v, v = u3 := ⟨_, rfl⟩
    obtain ⟨vO, hvO⟩ : ∃ v, v = u4 := ⟨_, rfl⟩
    obtain ⟨vL, hvL⟩ : ∃ v, v = u5 := ⟨_, rfl⟩
    obtain ⟨vS, hvS⟩ : ∃ v, v = u6 := ⟨_, rfl⟩
    obtain ⟨vT, hvT⟩ : ∃ v, v = u7 := ⟨_, rfl⟩
    rw [← hvC, ← hvO, ← hvL, ← hvS, ← hvT] at LN
    rw [← hvC, ← hvO, ← hvL, ← hvS, ← hvT]
    clear hN hG hvC hvO hvL hvS hvT
    by_cases hlt : k < es.length
    · obtain ⟨y, hy⟩ : ∃ y, es[k]? = some y := ⟨_, List.getElem?_eq_getElem hlt⟩
      have HY := Lib.hid hy
      obtain ⟨kb, ko, eE, hkw, z0, z1, z2, z3, z4, z5, z6, z7, z8, z9⟩ := ev_in (HEV.out.1.grown G.out (by simp)) hy
      subst eE
      have HS1 := Lib.hid (HN1.out k y hy)
      have HS2 := Lib.hid (HN2.out k y hy)
      have hyl : y.lines.length ≤ 3 := HL3.out y (List.mem_of_getElem? hy)
      have HYS := Lib.hid ((HEV.out.2 y (List.mem_of_getElem? hy)).1)
      have i1 : (k : Int) < (es.length : Int) := by omega
      clear hy
      have i0 : (0 : Int) ≤ (k : Int) := by omega
      obtain ⟨la, hla⟩ : ∃ a, a = y.la := ⟨_, rfl⟩
      rw [← hla] at z4
      have HLA := Lib.hid hla
      clear hla
      obtain ⟨We, hWe⟩ : ∃ W, W = wr.alloc (.cells #[.int .i64 y.host, .int .i64 y.file, .int .i64 y.beg, .int .i64 y.fin, .slice la y.lines.length y.lc, .int .i64 y.time, .int .i64 y.weight, .string y.trace, .string y.stream, .slice y.fa y.fields.length y.fc] 44) := ⟨_, rfl⟩
      obtain ⟨eb, heb⟩ : ∃ b, b = wr.heap.size := ⟨_, rfl⟩
      have hge : wr.grownBy We none := by rw [hWe]; exact only_alloc (only_refl _ _) _
      have hbe : Blk We eb 44 #[.int .i64 y.host, .int .i64 y.file, .int .i64 y.beg, .int .i64 y.fin, .slice la y.lines.length y.lc, .int .i64 y.time, .int .i64 y.weight, .string y.trace, .string y.stream, .slice y.fa y.fields.length y.fc] := by rw [hWe, heb]; exact Blk.new _ _ _
      have LNe := Lib.hid (LN.out.ext hge)
      have Ge := Lib.hid (only_trans G.out hge)
      have BE := Lib.hid hbe
      have HWE := Lib.hid hWe.symm
      have HEB := Lib.hid heb.symm
      have hbe4 := hbe.cell 4
      simp at hbe4
      have hbase2 : w.heap.size ≤ We.heap.size := Ge.out.size
      clear hWe heb hge LN hbe
      go_upto_region 6 with fail
      rw [HWE.out, HEB.out]
      clear z0 z1 z2 z3 z4 z5 z6 z7 z8 z9
      go_wp2_with (at_builtin; go_must (refine wpList_append1 rfl _ _ 47 rfl w.heap.size Tryz.underlying47 intInfoS rfl (by decide) (v := vC) (by rfl) (w0 := We) (cs := #[.int .i64 (y.lines.length : Nat)]) LNe.out.c (by rfl) rfl (by simp [Value.oneCell']) (by decide) (by omega) (by omega) ?_); intro v5 w5 hown5 hg5 hob5; have LN5 := Lib.hid (LNe.out.cnt hown5 hg5 hob5); have G5 : Hid (w.grownBy w5 none) := Lib.hid (only_own Ge.out hg5 LNe.out.c (Nat.le_refl _)); have BE5 := Lib.hid (BE.out.grown hg5 (fun e => blk_norow BE.out LNe.out.c (by decide) e.symm)); have z4 := BE5.out.cell 4; simp at z4; clear hown5 hg5 hob5)
      clear hbe4 BE LNe
      go_wp2_with fail
      obtain ⟨wo, rfl⟩ : ∃ wo : World, wo = wr := ⟨_, rfl⟩
      go_loopw [4, 5, 6, 7, 27] (fun v4 v5' v6 v7 vj wr => ∃ (j : Nat) (L' : List LineD) (T' : List Int), vj = .int .i64 j ∧ j ≤ y.lines.length ∧ Hid (L ++ y.lines.take j = L') ∧ Hid (txtL L' = T') ∧ Lns w.heap.size wr v5 v4 v5' v6 v7 (cs ++ [(y.lines.length : Int)]) L' T' ∧ w.grownBy wr none) (fun _ _ _ _ vj _ => y.lines.length - (intOf vj).toNat)
      case atStart => exact ⟨0, L, T, rfl, Nat.zero_le _, Lib.hid (by simp), HT, LN5.out, G5.out⟩
      case round =>
        clear HT hLl0 hbase LN5 G5
        obtain ⟨j, L', T', rfl, hj, HL', HT', hN', hG'⟩ := hrel
        have LN := Lib.hid hN'
        have G2 := Lib.hid hG'
        have hb2 : w.heap.size ≤ wr.heap.size := hG'.size
        have hLe : L'.length = L.length + j := by rw [← HL'.out, List.length_append, List.length_take]; omega
        have hL0 : L.length ≤ 120 := by rw [← HL.out]; exact HLE.out k
        have hLl : L'.length ≤ 1000000 := by omega
        have HTLn : Hid (T'.length ≤ 59 * L'.length) := Lib.hid (by
          rw [← HT'.out]
          refine HTL.out _ (fun x hx => ?_)
          rw [← HL'.out] at hx
          rcases List.mem_append.1 hx with hx | hx
          · rw [← HL.out] at hx; exact HMK.out k x hx
          · exact (HLM.out x (List.mem_flatMap.2 ⟨y, List.mem_of_getElem? HY.out, List.mem_of_mem_take hx⟩)).1)
        obtain ⟨vO, hvO⟩ : ∃ v, v = u4 := ⟨_, rfl⟩
        obtain ⟨vL, hvL⟩ : ∃ v, v = u5 := ⟨_, rfl⟩
        obtain ⟨vS, hvS⟩ : ∃ v, v = u6 := ⟨_, rfl⟩
        obtain ⟨vT, hvT⟩ : ∃ v, v = u7 := ⟨_, rfl⟩
        rw [← hvO, ← hvL, ← hvS, ← hvT] at LN
        rw [← hvO, ← hvL, ← hvS, ← hvT]
        clear hN' hG' hvO hvL hvS hvT hLe
        by_cases hlt2 : j < y.lines.length
        · obtain ⟨x, hx⟩ : ∃ x, y.lines[j]? = some x := ⟨_, List.getElem?_eq_getElem hlt2⟩
          have hrr := HYS.out.grown G2.out (by simp)
          obtain ⟨lb, lo, ela, hlb, -, -⟩ := hrr (by rw [flat_len _ 3 LineD.cells_len]; omega)
          rw [ela] at hrr
          obtain rfl : la = some ⟨lb, lo, none⟩ := by rw [HLA.out, ela]
          have i3 : (0 : Int) ≤ (j : Int) := by omega
          have d0 : wr.cell? ⟨lb, lo + j * 3, none⟩ = some (.int .i64 x.off) := hrr.flatAt LineD.cells_len hx 0 (by omega)
          have d1 : wr.cell? ⟨lb, lo + j * 3 + 1, none⟩ = some (.int .i64 x.len) := hrr.flatAt LineD.cells_len hx 1 (by omega)
          have d2 : wr.cell? ⟨lb, lo + j * 3 + 2, none⟩ = some (.string x.text) := hrr.flatAt LineD.cells_len hx 2 (by omega)
          have HNX : Hid (L ++ y.lines.take (j + 1) = L' ++ [x]) := Lib.hid (by
            obtain ⟨h2, h3⟩ := List.getElem?_eq_some_iff.1 hx
            rw [List.take_succ_eq_append_getElem h2, h3, ← List.append_assoc, HL'.out])
          have HTX : Hid (txtL (L' ++ [x]) = T' ++ bts x.text) := Lib.hid (by rw [txtL_snoc, HT'.out])
          have hxz : x.text.size ≤ 59 := (HLM.out x (List.mem_flatMap.2 ⟨y, List.mem_of_getElem? HY.out, List.mem_of_getElem? hx⟩)).1
          have i2 : (j : Int) < (y.lines.length : Int) := by omega
          clear hx hrr ela HL' HT'
          go_upto_region 10 with fail
          obtain ⟨xb, hxbd⟩ : ∃ b, b = wr.heap.size := ⟨_, rfl⟩
          obtain ⟨W, hW⟩ : ∃ W, W = wr.alloc (.cells #[.int .i64 x.off, .int .i64 x.len, .string x.text] 117) := ⟨_, rfl⟩
          have hBW : Blk W xb 117 #[.int .i64 x.off, .int .i64 x.len, .string x.text] := by rw [hW, hxbd]; exact Blk.new _ _ _
          have hgW : wr.grownBy W none := by rw [hW]; exact only_alloc (only_refl _ _) _
          rw [← hxbd, ← hW]
          have LN1 := Lib.hid (LN.out.ext hgW)
          have GW := Lib.hid (only_trans G2.out hgW)
          have HSEP := Lib.hid LN1.out.sep
          have hbW : w.heap.size ≤ W.heap.size := GW.out.size
          have hxb : xb < W.heap.size := hBW.lt
          have x0 := hBW.cell 0; have x1 := hBW.cell 1; have x2 := hBW.cell 2
          simp at x0 x1 x2
          have hxn : ¬ RB3 vO vL vS xb := by
            rintro (h | h | h)
            · exact blk_norow hBW LN1.out.o (by decide) h
            · exact blk_norow hBW LN1.out.l (by decide) h
            · exact blk_norow hBW LN1.out.s (by decide) h
          obtain ⟨L, rfl⟩ : ∃ L'', L'' = L' := ⟨_, rfl⟩
          clear hW hxbd hBW hgW LN d0 d1 d2
          have HE : Hid (∀ (w3 : World) (D : Nat → Bool) (u : Nat → Value), App3 W w.heap.size vO vL vS L.length (L.map (fun x => .int .i64 x.off)) (L.map (fun x => .int .i64 x.len)) (L.map (fun x => .int .i64 (x.text.size : Nat))) (.int .i64 x.off) (.int .i64 x.len) (.int .i64 (x.text.size : Nat)) D u w3 → w3.cell? ⟨xb, 2, none⟩ = some (.string x.text) ∧ w.grownBy w3 none) := Lib.hid (fun w3 D u hX => ⟨(hX.fr.cell hxb hxn).trans x2, hX.fr.none_ GW.out (fun i hi => by
            rcases hi with h | h | h
            · exact (World.ownsRow.lt LN1.out.o i h).1
            · exact (World.ownsRow.lt LN1.out.l i h).1
            · exact (World.ownsRow.lt LN1.out.s i h).1)⟩)
          refine wp_region_gen 16 (JC [some (vO), some (.pointer (some ⟨xb, 0, none⟩)), some (.int .i64 (x.off)), none, none, some (vL), some (.pointer (some ⟨xb, 1, none⟩)), some (.int .i64 (x.len)), none, none, some (vS), some (.pointer (some ⟨xb, 2, none⟩)), some (.string (x.text)), some (.int .i64 ((x.text.size : Nat))), none, none] (App3 W w.heap.size vO vL vS L.length (L.map (fun x => .int .i64 x.off)) (L.map (fun x => .int .i64 x.len)) (L.map (fun x => .int .i64 (x.text.size : Nat))) (.int .i64 x.off) (.int .i64 x.len) (.int .i64 (x.text.size : Nat)))) (by kernel_rfl) (by kernel_rfl) ?_ ?_ ?_
          · intro u
            exact ⟨(fun j c _ h => by cases h), App3.start LN1.out.o LN1.out.l LN1.out.s⟩
          · intro AA hA
            have hasz : AA.tmps.size = 61 := by rw [hA]; kernel_rfl
            have ea4 : AA.eval (.tmp 4) = vO := by rw [hA]; kernel_rfl
            have ea5 : AA.eval (.tmp 5) = vL := by rw [hA]; kernel_rfl
            have ea6 : AA.eval (.tmp 6) = vS := by rw [hA]; kernel_rfl
            have ea11 : AA.eval (.tmp 11) = .pointer (some ⟨xb, 0, none⟩) := by rw [hA]; kernel_rfl
            clear hA
            simp only [List.take_succ_cons, List.take_zero]
            refine .cons ?_ (.cons ?_ (.cons ?_ (.cons ?_ (.cons ?_ (.cons ?_ (.cons ?_ (.cons ?_ (.cons ?_ (.cons ?_ (.cons ?_ (.cons ?_ (.cons ?_ (.cons ?_ (.cons ?_ (.cons ?_ (.nil))))))))))))))))
            · exact gd_gen (by kernel_rfl) (Want.none_ rfl) rfl (fun D u w v h => h.other v (by decide) (by decide) (by decide) (by decide) (by decide) (by decide)) (fun D u ρ w kn => by
                have e0 := kn.own 4 (c := vO) (by kernel_rfl) ea4
                simp [execOp, kn.rho.con, e0, go_sem])
            · exact gd_gen (by kernel_rfl) (Want.none_ rfl) rfl (fun D u w v h => h.other v (by decide) (by decide) (by decide) (by decide) (by decide) (by decide)) (fun D u ρ w kn => by
                have e0 := kn.own 11 (c := .pointer (some ⟨xb, 0, none⟩)) (by kernel_rfl) ea11
                simp [execOp, kn.rho.con, e0, go_sem])
            · exact gd_gen (by kernel_rfl) (Want.none_ rfl) rfl (fun D u w v h => h.other v (by decide) (by decide) (by decide) (by decide) (by decide) (by decide)) (fun D u ρ w kn => by
                have e0 := kn.con 1 32 (c := .pointer (some ⟨xb, 0, none⟩)) (by kernel_rfl) (by omega) (by kernel_rfl) rfl
                have f0 := (kn.ext.fr.cell hxb hxn).trans x0
                simp [execOp, kn.rho.con, e0, f0, go_sem])
            · refine gd_eff (by kernel_rfl) (Want.none_ rfl) (fun D u ρ w kn hD => ?_)
              have e0 := kn.con 2 33 (c := .int .i64 x.off) (by kernel_rfl) (by omega) (by kernel_rfl) rfl
              exact ⟨.slice (some ⟨w.heap.size, 0, none⟩) 1 1, w.alloc (.cells #[.int .i64 x.off] 3), by simp [execOp, kn.rho.con, e0, go_sem], (fun c h => by injection h with h; cases h), kn.ext.lay1 hD⟩
            · refine gd_eff (by kernel_rfl) (Want.none_ rfl) (fun D u ρ w kn hD => ?_)
              have e0 := kn.con 0 31 (c := vO) (by kernel_rfl) (by omega) (by kernel_rfl) rfl
              have e1 := kn.slot 3 34 (by kernel_rfl) (by omega)
              have d0 := kn.dep 3 (by kernel_rfl)
              obtain ⟨v', w', hr, ho, hg, hb⟩ := kn.ext.o.run hD d0 47 47 Tryz.underlying47 intInfoS rfl rfl (by decide) hLl (Nat.le_trans hbW kn.ext.fr.2.2.2.1)
              exact ⟨v', w', exec_append rfl e0 e1 hr, (fun c h => by injection h with h; cases h), kn.ext.put1 HSEP.out hD d0 ho hg hb⟩
            · exact gd_gen (by kernel_rfl) (Want.none_ rfl) rfl (fun D u w v h => h.other v (by decide) (by decide) (by decide) (by decide) (by decide) (by decide)) (fun D u ρ w kn => by
                have e0 := kn.own 5 (c := vL) (by kernel_rfl) ea5
                simp [execOp, kn.rho.con, e0, go_sem])
            · exact gd_gen (by kernel_rfl) (Want.none_ rfl) rfl (fun D u w v h => h.other v (by decide) (by decide) (by decide) (by decide) (by decide) (by decide)) (fun D u ρ w kn => by
                have e0 := kn.own 11 (c := .pointer (some ⟨xb, 0, none⟩)) (by kernel_rfl) ea11
                simp [execOp, kn.rho.con, e0, go_sem])
            · exact gd_gen (by kernel_rfl) (Want.none_ rfl) rfl (fun D u w v h => h.other v (by decide) (by decide) (by decide) (by decide) (by decide) (by decide)) (fun D u ρ w kn => by
                have e0 := kn.con 6 37 (c := .pointer (some ⟨xb, 1, none⟩)) (by kernel_rfl) (by omega) (by kernel_rfl) rfl
                have f0 := (kn.ext.fr.cell hxb hxn).trans x1
                simp [execOp, kn.rho.con, e0, f0, go_sem])
            · refine gd_eff (by kernel_rfl) (Want.none_ rfl) (fun D u ρ w kn hD => ?_)
              have e0 := kn.con 7 38 (c := .int .i64 x.len) (by kernel_rfl) (by omega) (by kernel_rfl) rfl
              exact ⟨.slice (some ⟨w.heap.size, 0, none⟩) 1 1, w.alloc (.cells #[.int .i64 x.len] 3), by simp [execOp, kn.rho.con, e0, go_sem], (fun c h => by injection h with h; cases h), kn.ext.lay2 hD⟩
            · refine gd_eff (by kernel_rfl) (Want.none_ rfl) (fun D u ρ w kn hD => ?_)
              have e0 := kn.con 5 36 (c := vL) (by kernel_rfl) (by omega) (by kernel_rfl) rfl
              have e1 := kn.slot 8 39 (by kernel_rfl) (by omega)
              have d0 := kn.dep 8 (by kernel_rfl)
              obtain ⟨v', w', hr, ho, hg, hb⟩ := kn.ext.l.run hD d0 47 47 Tryz.underlying47 intInfoS rfl rfl (by decide) hLl (Nat.le_trans hbW kn.ext.fr.2.2.2.1)
              exact ⟨v', w', exec_append rfl e0 e1 hr, (fun c h => by injection h with h; cases h), kn.ext.put2 HSEP.out hD d0 ho hg hb⟩
            · exact gd_gen (by kernel_rfl) (Want.none_ rfl) rfl (fun D u w v h => h.other v (by decide) (by decide) (by decide) (by decide) (by decide) (by decide)) (fun D u ρ w kn => by
                have e0 := kn.own 6 (c := vS) (by kernel_rfl) ea6
                simp [execOp, kn.rho.con, e0, go_sem])
            · exact gd_gen (by kernel_rfl) (Want.none_ rfl) rfl (fun D u w v h => h.other v (by decide) (by decide) (by decide) (by decide) (by decide) (by decide)) (fun D u ρ w kn => by
                have e0 := kn.own 11 (c := .pointer (some ⟨xb, 0, none⟩)) (by kernel_rfl) ea11
                simp [execOp, kn.rho.con, e0, go_sem])
            · exact gd_gen (by kernel_rfl) (Want.none_ rfl) rfl (fun D u w v h => h.other v (by decide) (by decide) (by decide) (by decide) (by decide) (by decide)) (fun D u ρ w kn => by
                have e0 := kn.con 11 42 (c := .pointer (some ⟨xb, 2, none⟩)) (by kernel_rfl) (by omega) (by kernel_rfl) rfl
                have f0 := (kn.ext.fr.cell hxb hxn).trans x2
                simp [execOp, kn.rho.con, e0, f0, go_sem])
            · exact gd_gen (by kernel_rfl) (Want.none_ rfl) rfl (fun D u w v h => h.other v (by decide) (by decide) (by decide) (by decide) (by decide) (by decide)) (fun D u ρ w kn => by
                have e0 := kn.con 12 43 (c := .string (x.text)) (by kernel_rfl) (by omega) (by kernel_rfl) rfl
                simp [execOp, kn.rho.con, e0, go_sem])
            · refine gd_eff (by kernel_rfl) (Want.none_ rfl) (fun D u ρ w kn hD => ?_)
              have e0 := kn.con 13 44 (c := .int .i64 (x.text.size : Nat)) (by kernel_rfl) (by omega) (by kernel_rfl) rfl
              exact ⟨.slice (some ⟨w.heap.size, 0, none⟩) 1 1, w.alloc (.cells #[.int .i64 (x.text.size : Nat)] 3), by simp [execOp, kn.rho.con, e0, go_sem], (fun c h => by injection h with h; cases h), kn.ext.lay3 hD⟩
            · refine gd_eff (by kernel_rfl) (Want.none_ rfl) (fun D u ρ w kn hD => ?_)
              have e0 := kn.con 10 41 (c := vS) (by kernel_rfl) (by omega) (by kernel_rfl) rfl
              have e1 := kn.slot 14 45 (by kernel_rfl) (by omega)
              have d0 := kn.dep 14 (by kernel_rfl)
              obtain ⟨v', w', hr, ho, hg, hb⟩ := kn.ext.s.run hD d0 47 47 Tryz.underlying47 intInfoS rfl rfl (by decide) hLl (Nat.le_trans hbW kn.ext.fr.2.2.2.1)
              exact ⟨v', w', exec_append rfl e0 e1 hr, (fun c h => by injection h with h; cases h), kn.ext.put3 HSEP.out hD d0 ho hg hb⟩
          · intro D u w3 hJ hD
            obtain ⟨-, hX⟩ := hJ
            have LN3 := Lib.hid (LN1.out.three hX (hD 4 (by omega)) (hD 9 (by omega)) (hD 15 (by omega)))
            obtain ⟨y2, hg3⟩ := HE.out w3 D u hX
            have G3 := Lib.hid hg3
            have hb3 := hg3.size
            obtain ⟨v4', h4⟩ : ∃ v, v = u 4 := ⟨_, rfl⟩
            obtain ⟨v9', h9⟩ : ∃ v, v = u 9 := ⟨_, rfl⟩
            obtain ⟨v15', h15⟩ : ∃ v, v = u 15 := ⟨_, rfl⟩
            rw [← h4, ← h9, ← h15] at LN3
            simp only [List.take_succ_cons, List.take_zero, List.drop_succ_cons, List.drop_zero, putAll]
            rw [← h4, ← h9, ← h15]
            clear hX hD hg3 h4 h9 h15 HE hxn x0 x1 x2 LN1 HSEP GW hbW hxb
            go_wp2_with (at_builtin; go_must (refine wpList_appendS rfl _ _ 22 9 rfl w.heap.size Tryz.underlying22 Tryz.underlying9 byteInfo (v := vT) (by rfl) LN3.out.t x.text (by rfl) (by have := HTLn.out; omega) hb3 ?_); intro v6 w6 hB6 hg6)
            have LN6 := Lib.hid (LN3.out.txt hB6 hg6)
            have G6 : Hid (w.grownBy w6 none) := Lib.hid (only_own G3.out hg6 LN3.out.t (Nat.le_refl _))
            clear hB6 hg6
            go_wp2_with fail
            go_roundw
            case rel => exact ⟨j + 1, L ++ [x], T' ++ bts x.text, by go_num, by omega, HNX, HTX, LN6.out, G6.out⟩
            case measure => simp [intOf]; omega
        · have hjE : j = y.lines.length := by omega
          have HLL : Hid (lnsL (es.take (k + 1)) = L') := Lib.hid (by rw [HS2.out, HL.out, ← HL'.out, List.take_of_length_le (by omega)])
          have HCC : Hid (cntL (es.take (k + 1)) = cs ++ [(y.lines.length : Int)]) := Lib.hid (by rw [HS1.out, HC.out])
          have i2 : ¬ (j : Int) < (y.lines.length : Int) := by omega
          clear hjE
          go_wp2_with fail
          go_roundw
          case rel => exact ⟨k + 1, L', T', cs ++ [(y.lines.length : Int)], by go_num, by omega, HLL, HT', HCC, LN.out, G2.out⟩
          case measure => simp [intOf]; omega
    · have hkE : k = es.length := by omega
      have i1 : ¬ (k : Int) < (es.length : Int) := by omega
      have HkE := Lib.hid hkE
      clear hkE
      have HLf : Hid (lnsL es = L) := Lib.hid (by have h := HL.out; rw [List.take_of_length_le (by have := HkE.out; omega)] at h; exact h)
      have HCf : Hid (cntL es = cs) := Lib.hid (by have h := HC.out; rw [List.take_of_length_le (by have := HkE.out; omega)] at h; exact h)
      obtain ⟨w0, hw0⟩ : ∃ w0 : World, w0 = wr := ⟨_, rfl⟩
      rw [← hw0] at LN G hbase ⊢
      clear hw0
      obtain ⟨A1, c1, hv1, -, -, -, r1⟩ := Rd.of_own LN.out.c (by decide)
      obtain ⟨A2, c2, hv2, -, -, -, r2⟩ := Rd.of_own LN.out.o (by decide)
      obtain ⟨A3, c3, hv3, -, -, -, r3⟩ := Rd.of_own LN.out.l (by decide)
      obtain ⟨A4, c4, hv4, -, -, -, r4⟩ := Rd.of_own LN.out.s (by decide)
      obtain ⟨A5, c5, hv5, -, -, -, r5⟩ := Rd.of_own LN.out.t (by decide)
      have HIM : Hid (∀ x ∈ L, x.text.size ≤ 59 ∧ I64 x.off ∧ I64 x.len) := Lib.hid (by rw [← HLf.out]; exact HLM.out)
      have hmo : ∀ v ∈ L.map (·.off), I64 v := fun v hv => by obtain ⟨x, hx, rfl⟩ := List.mem_map.1 hv; exact (HIM.out x hx).2.1
      have hml : ∀ v ∈ L.map (·.len), I64 v := fun v hv => by obtain ⟨x, hx, rfl⟩ := List.mem_map.1 hv; exact (HIM.out x hx).2.2
      have hms : ∀ v ∈ L.map (fun x => (x.text.size : Int)), I64 v := fun v hv => by obtain ⟨x, hx, rfl⟩ := List.mem_map.1 hv; have := (HIM.out x hx).1; exact i64_small (by omega)
      have hmc : ∀ v ∈ cs, I64 v := by rw [← HCf.out]; exact HCM.out
      have RT : Hid (Rd (fun b => b < w0.heap.size) w0 A5 (T.map (.int .u8))) := Lib.hid (r5.mono (fun b _ h => h))
      have HC1 : Hid ((colX cs).length ≤ 2000) := Lib.hid (by have := colX_len hmc (by omega); omega)
      have HC2 : Hid ((colX (L.map (·.off))).length ≤ 2000) := Lib.hid (by have h := colX_len hmo (by rw [List.length_map]; omega); rw [List.length_map] at h; omega)
      have HC3 : Hid ((colX (L.map (·.len))).length ≤ 2000) := Lib.hid (by have h := colX_len hml (by rw [List.length_map]; omega); rw [List.length_map] at h; omega)
      have HC4 : Hid ((colX (L.map (fun x => (x.text.size : Int)))).length ≤ 2000) := Lib.hid (by have h := colX_len hms (by rw [List.length_map]; omega); rw [List.length_map] at h; omega)
      have HTLn : Hid (T.length ≤ 59 * L.length) := Lib.hid (by rw [← HT.out]; exact HTL.out L (fun x hx => (HIM.out x hx).1))
      have HE : Hid (R = blkP (colX cs) ++ blkP (colX (L.map (·.off))) ++ blkP (colX (L.map (·.len))) ++ blkP (colX (L.map (fun x => (x.text.size : Int)))) ++ T) := Lib.hid (by rw [HX.out, HLf.out, HCf.out, HT.out])
      obtain ⟨C1, h1⟩ : ∃ C, C = colX cs := ⟨_, rfl⟩
      obtain ⟨C2, h2⟩ : ∃ C, C = colX (L.map (·.off)) := ⟨_, rfl⟩
      obtain ⟨C3, h3⟩ : ∃ C, C = colX (L.map (·.len)) := ⟨_, rfl⟩
      obtain ⟨C4, h4⟩ : ∃ C, C = colX (L.map (fun x => (x.text.size : Int))) := ⟨_, rfl⟩
      rw [← h1, ← h2, ← h3, ← h4] at HE
      obtain ⟨W9, hW9⟩ : ∃ W, W = w0.alloc (.cells #[.slice A1 cs.length c1, .slice A2 L.length c2, .slice A3 L.length c3, .slice A4 L.length c4] 47) := ⟨_, rfl⟩
      have hg9 : w0.grownBy W9 none := by rw [hW9]; exact only_alloc (only_refl _ _) _
      have hb9 : Blk W9 w0.heap.size 47 #[.slice A1 cs.length c1, .slice A2 L.length c2, .slice A3 L.length c3, .slice A4 L.length c4] := by rw [hW9]; exact Blk.new _ _ _
      rw [← h1] at HC1
      rw [← h2] at HC2
      rw [← h3] at HC3
      rw [← h4] at HC4
      have HB1 : Hid ((blkP C1).length ≤ 2010) := Lib.hid (by have := HC1.out; have := blkP_len (b := C1) (by omega); omega)
      have HB2 : Hid ((blkP C2).length ≤ 2010) := Lib.hid (by have := HC2.out; have := blkP_len (b := C2) (by omega); omega)
      have HB3 : Hid ((blkP C3).length ≤ 2010) := Lib.hid (by have := HC3.out; have := blkP_len (b := C3) (by omega); omega)
      have HB4 : Hid ((blkP C4).length ≤ 2010) := Lib.hid (by have := HC4.out; have := blkP_len (b := C4) (by omega); omega)
      have KC : Hid (Calls Tryz.prog 59 #[.slice none 0 0, .slice (some ⟨w0.heap.size, 0, none⟩) 4 4] W9 (VPost w0.heap.size W9 (.slice none 0 0) (blkP C1 ++ blkP C2 ++ blkP C3 ++ blkP C4))) := Lib.hid (by
        have h := columns_any (S := fun _ => True) w0.heap.size (.slice none 0 0) [] (some ⟨w0.heap.size, 0, none⟩) [⟨A1, cs, c1⟩, ⟨A2, L.map (·.off), c2⟩, ⟨A3, L.map (·.len), c3⟩, ⟨A4, L.map (fun x => (x.text.size : Int)), c4⟩] 4 W9 (Byts.nil _ _)
          (fun _ => ⟨w0.heap.size, 0, rfl, trivial, hb9.lt, fun j u hu => by rw [Nat.zero_add, hb9.cell j]; simpa [RowI.cell] using hu⟩)
          (fun r hr => by
            simp only [List.mem_cons, List.not_mem_nil, or_false] at hr
            rcases hr with rfl | rfl | rfl | rfl
            · exact ⟨(r1.mono (fun _ _ _ => trivial)).grown hg9 (by simp), by simp only []; omega, hmc⟩
            · exact ⟨by rw [List.map_map]; exact (r2.mono (fun _ _ _ => trivial)).grown hg9 (by simp), by simp only [List.length_map]; omega, hmo⟩
            · exact ⟨by rw [List.map_map]; exact (r3.mono (fun _ _ _ => trivial)).grown hg9 (by simp), by simp only [List.length_map]; omega, hml⟩
            · exact ⟨by rw [List.map_map]; exact (r4.mono (fun _ _ _ => trivial)).grown hg9 (by simp), by simp only [List.length_map]; omega, hms⟩)
          (by simp [Value.ownBlock]) (by simp)
          (fun k => by
            have g1 := HB1.out; have g2 := HB2.out; have g3 := HB3.out; have g4 := HB4.out
            rw [h1] at g1; rw [h2] at g2; rw [h3] at g3; rw [h4] at g4
            rcases k with _ | _ | _ | _ | k <;> simp only [List.take_zero, List.take_succ_cons, List.take_nil, List.flatMap_nil, List.flatMap_cons, List.nil_append, List.append_nil, List.length_append, List.length_nil] <;> omega) hg9.size
        simp only [List.flatMap_cons, List.flatMap_nil, List.nil_append, List.append_nil, List.length_cons, List.length_nil, Nat.zero_add, Nat.reduceAdd] at h
        rw [← h1, ← h2, ← h3, ← h4] at h
        simpa [List.append_assoc] using h)
      have HW9 := Lib.hid hW9.symm
      have G09 := Lib.hid hg9
      rw [hv1, hv2, hv3, hv4, hv5]
      clear hv1 hv2 hv3 hv4 hv5 r1 r2 r3 r4 r5 hmo hml hms hmc h1 h2 h3 h4 LN HL HT HC HX hW9 hg9 hb9
      go_wp2_with fail
      rw [HW9.out]
      refine KC.out.mono ?_
      rintro e w4 ⟨v4, rfl, hB, hO⟩
      have B4 := Lib.hid hB
      have G4 : Hid (w0.grownBy w4 none) := Lib.hid (Byts.only (Byts.nil w0.heap.size W9) hO G09.out (Nat.le_refl _))
      have hz4 := G4.out.size
      clear hB hO
      have RT4 := Lib.hid (RT.out.grown G4.out (by simp))
      go_wp2_with (at_builtin; go_must (refine wpList_appendN rfl _ _ 22 rfl w0.heap.size Tryz.underlying22 byteInfo rfl (by decide) (v := v4) (by rfl) B4.out A5 T.length c5 (by rfl) RT4.out (by simp) (byte_ones _) (by decide) (by simp only [List.length_append, List.length_nil]; have := HB1.out; have := HB2.out; have := HB3.out; have := HB4.out; have := HTLn.out; omega) hz4 ?_); intro v9 w9 hown9 hg9 hob9)
      have B9 : Hid (Byts w0.heap.size w9 v9 R) := Lib.hid (by
        rw [HE.out]
        have h9 := hown9
        try simp only [List.nil_append] at h9
        unfold Byts
        rw [List.length_append, List.map_append]
        exact h9)
      have G9 : Hid (w.grownBy w9 none) := Lib.hid (only_own (only_trans G.out G4.out) hg9 B4.out hbase)
      clear hown9 hg9 hob9
      go_wp2_with fail
      go_ret
      exact ⟨v9, rfl, B9.out.base hbase, G9.out⟩
end Go.Proofs.YtpaiideboodaeaaGreatDoor

namespace Go.Proofs.YtpaiideboodaeaaGreatDoor
open Go.RowKit
set_option linter.unusedVariables false
set_option linter.unusedSimpArgs false

def textsV (g : Nat) : Value := .agg #[.pointer (some ⟨g, 7, none⟩), .pointer (some ⟨g, 8, none⟩)]
set_option maxHeartbeats 4000000 in
set_option maxRecDepth 100000 in
theorem texts_any (g : Nat) (w : World) : Calls Tryz.prog 24 #[.pointer (some ⟨g, 0, none⟩)] w (fun e w' => e = .returned (textsV g) ∧ w.grownBy w' none) := by
  go_enter Tryz.func24, Tryz.ntmps24
  go_upto_region 1 with fail
  obtain ⟨tb, htb⟩ : ∃ b, b = w.heap.size := ⟨_, rfl⟩
  obtain ⟨W, hW⟩ : ∃ W, W = w.alloc (.cells #[.pointer none, .pointer none] 64) := ⟨_, rfl⟩
  have hB : Blk W tb 64 #[.pointer none, .pointer none] := by rw [hW, htb]; exact Blk.new _ _ _
  have G := Lib.hid (show w.grownBy W none by rw [hW]; exact only_alloc (only_refl _ _) _)
  have HTB := Lib.hid htb
  rw [← hW, ← htb]
  clear hW htb
  have q0 := hB.cell 0; have z0 := hB.frozen 0
  have q1 := hB.cell 1; have z1 := hB.frozen 1
  simp only [List.size_toArray, List.length_cons, List.length_nil, Nat.zero_add, Nat.reduceAdd, Nat.reduceLT, getElem?_pos, List.getElem_toArray, List.getElem_cons_zero, List.getElem_cons_succ] at q0 q1
  go_still_tail 7, (by kernel_rfl)
  go_wp2_with fail
  obtain ⟨W9, hW9⟩ : ∃ W9, W9 = ((W.setCell ⟨tb, 0, none⟩ (.pointer (some ⟨g, 7, none⟩))).setCell ⟨tb, 1, none⟩ (.pointer (some ⟨g, 8, none⟩))).drew := ⟨_, rfl⟩
  have hb9 : Blk W9 tb 64 #[.pointer (some ⟨g, 7, none⟩), .pointer (some ⟨g, 8, none⟩)] := by rw [hW9]; simpa using (((hB.set_ 0 (.pointer (some ⟨g, 7, none⟩))).set_ 1 (.pointer (some ⟨g, 8, none⟩)))).drew
  have hg9 : w.grownBy W9 none := by
    rw [hW9]
    exact only_drew (only_setNew (only_setNew (G.out) (p := ⟨tb, 0, none⟩) (by rw [HTB.out]; exact Nat.le_refl _) _) (p := ⟨tb, 1, none⟩) (by rw [HTB.out]; exact Nat.le_refl _) _)
  rw [← hW9]
  clear hW9 q0 z0 q1 z1
  have q0 := hb9.cell 0
  have q1 := hb9.cell 1
  simp only [List.size_toArray, List.length_cons, List.length_nil, Nat.zero_add, Nat.reduceAdd, Nat.reduceLT, getElem?_pos, List.getElem_toArray, List.getElem_cons_zero, List.getElem_cons_succ] at q0 q1
  exact bodyPost_ret (v := textsV g) (by simp [results, textsV, Tryz.results24, go_sem, q0, q1]) rfl ⟨rfl, hg9⟩
def intsV (g : Nat) : Value := .agg #[.pointer (some ⟨g, 0, none⟩), .pointer (some ⟨g, 1, none⟩), .pointer (some ⟨g, 2, none⟩), .pointer (some ⟨g, 3, none⟩), .pointer (some ⟨g, 5, none⟩), .pointer (some ⟨g, 6, none⟩)]
set_option maxHeartbeats 4000000 in
set_option maxRecDepth 100000 in
theorem ints_any (g : Nat) (w : World) : Calls Tryz.prog 22 #[.pointer (some ⟨g, 0, none⟩)] w (fun e w' => e = .returned (intsV g) ∧ w.grownBy w' none) := by
  go_enter Tryz.func22, Tryz.ntmps22
  go_upto_region 1 with fail
  obtain ⟨tb, htb⟩ : ∃ b, b = w.heap.size := ⟨_, rfl⟩
  obtain ⟨W, hW⟩ : ∃ W, W = w.alloc (.cells #[.pointer none, .pointer none, .pointer none, .pointer none, .pointer none, .pointer none] 59) := ⟨_, rfl⟩
  have hB : Blk W tb 59 #[.pointer none, .pointer none, .pointer none, .pointer none, .pointer none, .pointer none] := by rw [hW, htb]; exact Blk.new _ _ _
  have G := Lib.hid (show w.grownBy W none by rw [hW]; exact only_alloc (only_refl _ _) _)
  have HTB := Lib.hid htb
  rw [← hW, ← htb]
  clear hW htb
  have q0 := hB.cell 0; have z0 := hB.frozen 0
  have q1 := hB.cell 1; have z1 := hB.frozen 1
  have q2 := hB.cell 2; have z2 := hB.frozen 2
  have q3 := hB.cell 3; have z3 := hB.frozen 3
  have q4 := hB.cell 4; have z4 := hB.frozen 4
  have q5 := hB.cell 5; have z5 := hB.frozen 5
  simp only [List.size_toArray, List.length_cons, List.length_nil, Nat.zero_add, Nat.reduceAdd, Nat.reduceLT, getElem?_pos, List.getElem_toArray, List.getElem_cons_zero, List.getElem_cons_succ] at q0 q1 q2 q3 q4 q5
  go_still_tail 19, (by kernel_rfl)
  go_wp2_with fail
  obtain ⟨W9, hW9⟩ : ∃ W9, W9 = ((((((W.setCell ⟨tb, 0, none⟩ (.pointer (some ⟨g, 0, none⟩))).setCell ⟨tb, 1, none⟩ (.pointer (some ⟨g, 1, none⟩))).setCell ⟨tb, 2, none⟩ (.pointer (some ⟨g, 2, none⟩))).setCell ⟨tb, 3, none⟩ (.pointer (some ⟨g, 3, none⟩))).setCell ⟨tb, 4, none⟩ (.pointer (some ⟨g, 5, none⟩))).setCell ⟨tb, 5, none⟩ (.pointer (some ⟨g, 6, none⟩))).drew := ⟨_, rfl⟩
  have hb9 : Blk W9 tb 59 #[.pointer (some ⟨g, 0, none⟩), .pointer (some ⟨g, 1, none⟩), .pointer (some ⟨g, 2, none⟩), .pointer (some ⟨g, 3, none⟩), .pointer (some ⟨g, 5, none⟩), .pointer (some ⟨g, 6, none⟩)] := by rw [hW9]; simpa using (((((((hB.set_ 0 (.pointer (some ⟨g, 0, none⟩))).set_ 1 (.pointer (some ⟨g, 1, none⟩))).set_ 2 (.pointer (some ⟨g, 2, none⟩))).set_ 3 (.pointer (some ⟨g, 3, none⟩))).set_ 4 (.pointer (some ⟨g, 5, none⟩))).set_ 5 (.pointer (some ⟨g, 6, none⟩)))).drew
  have hg9 : w.grownBy W9 none := by
    rw [hW9]
    exact only_drew (only_setNew (only_setNew (only_setNew (only_setNew (only_setNew (only_setNew (G.out) (p := ⟨tb, 0, none⟩) (by rw [HTB.out]; exact Nat.le_refl _) _) (p := ⟨tb, 1, none⟩) (by rw [HTB.out]; exact Nat.le_refl _) _) (p := ⟨tb, 2, none⟩) (by rw [HTB.out]; exact Nat.le_refl _) _) (p := ⟨tb, 3, none⟩) (by rw [HTB.out]; exact Nat.le_refl _) _) (p := ⟨tb, 4, none⟩) (by rw [HTB.out]; exact Nat.le_refl _) _) (p := ⟨tb, 5, none⟩) (by rw [HTB.out]; exact Nat.le_refl _) _)
  rw [← hW9]
  clear hW9 q0 z0 q1 z1 q2 z2 q3 z3 q4 z4 q5 z5
  have q0 := hb9.cell 0
  have q1 := hb9.cell 1
  have q2 := hb9.cell 2
  have q3 := hb9.cell 3
  have q4 := hb9.cell 4
  have q5 := hb9.cell 5
  simp only [List.size_toArray, List.length_cons, List.length_nil, Nat.zero_add, Nat.reduceAdd, Nat.reduceLT, getElem?_pos, List.getElem_toArray, List.getElem_cons_zero, List.getElem_cons_succ] at q0 q1 q2 q3 q4 q5
  exact bodyPost_ret (v := intsV g) (by simp [results, intsV, Tryz.results22, go_sem, q0, q1, q2, q3, q4, q5]) rfl ⟨rfl, hg9⟩
end Go.Proofs.YtpaiideboodaeaaGreatDoor

namespace Go.Proofs.YtpaiideboodaeaaGreatDoor
open Go.RowKit
set_option linter.unusedVariables false
set_option linter.unusedSimpArgs false

def CmpQ (a b : ByteArray) (w : World) (e : Ending) (w' : World) : Prop := e = .returned (.int .i64 (Lib.compareBytes a.data.toList b.data.toList)) ∧ w' = w
set_option maxHeartbeats 1000000 in
set_option maxRecDepth 100000 in
theorem bcmp_any (a b : ByteArray) (w : World) : Calls Tryz.prog 205 #[.string a, .string b] w (CmpQ a b w) := by
  go_enter Tryz.func205, Tryz.ntmps205
  go_wp2_with fail
  rw [run_callFunc_extern Tryz.func234 (by kernel_rfl) (by kernel_rfl) (by kernel_rfl) (e := Extern.BytealgCompare.compare) (by kernel_rfl), Lib.run_compareString a b w]
  simp only [Result.andThen]
  rw [Oper.upon_value]
  go_wp2
  go_ret
  exact ⟨rfl, rfl⟩
set_option maxHeartbeats 1000000 in
set_option maxRecDepth 100000 in
theorem scmp_any (a b : ByteArray) (w : World) : Calls Tryz.prog 158 #[.string a, .string b] w (CmpQ a b w) := by
  have hc := Lib.hid (bcmp_any a b w)
  go_enter Tryz.func158, Tryz.ntmps158
  go_wp2_with fail
  refine hc.out.mono ?_
  rintro e w1 ⟨rfl, rfl⟩
  go_wp2_with fail
  go_ret
  exact ⟨rfl, rfl⟩
def FCmpQ (a b : ByteArray) (w : World) (e : Ending) (w' : World) : Prop := e = .returned (.int .i64 (Lib.compareBytes a.data.toList b.data.toList)) ∧ w.grownBy w' none
set_option maxHeartbeats 1000000 in
set_option maxRecDepth 100000 in
/-- the closure that compares the names of two fields -/
theorem fcmp_any (a b c d : ByteArray) (w : World) : Calls Tryz.prog 157 #[.agg #[.string a, .string b], .agg #[.string c, .string d]] w (FCmpQ a c w) := by
  have G1 : Hid (w.grownBy ((w.alloc (.cells #[.string a, .string b] 85)).alloc (.cells #[.string c, .string d] 85)) none) := Lib.hid (only_alloc (only_alloc (only_refl _ _) _) _)
  go_enter Tryz.func157, Tryz.ntmps157
  go_wp2_with fail
  refine (scmp_any a c _).mono ?_
  rintro e w1 ⟨rfl, rfl⟩
  go_wp2_with fail
  go_ret
  exact ⟨rfl, G1.out⟩
theorem cmp_gt : ∀ (a b : List UInt8), b < a → Lib.compareBytes a b = 1 := by
  intro a
  induction a with
  | nil => intro b h; cases b <;> simp at h
  | cons x a ih =>
    intro b h
    cases b with
    | nil => rfl
    | cons y b =>
      rw [List.cons_lt_cons_iff] at h
      unfold Lib.compareBytes
      rcases h with h | ⟨rfl, h⟩
      · have h1 : ¬ x < y := fun h2 => by
          have := UInt8.lt_iff_toNat_lt.1 h
          have := UInt8.lt_iff_toNat_lt.1 h2
          omega
        rw [if_neg h1, if_pos h]
      · have h1 : ¬ y < y := fun h2 => by
          have := UInt8.lt_iff_toNat_lt.1 h2
          omega
        rw [if_neg h1, if_neg h1]
        exact ih b h
end Go.Proofs.YtpaiideboodaeaaGreatDoor
