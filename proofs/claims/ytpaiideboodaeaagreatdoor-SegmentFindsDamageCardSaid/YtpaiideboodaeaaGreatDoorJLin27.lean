/- lines: the reference of chapter 27 (printed by mklines.py). Conditions: sizes. -/
import Derived.Test.YtpaiideboodaeaaGreatDoorJGenC
import Derived.Deep.DeepCutAuto
import Derived.Test.YtpaiideboodaeaaGreatDoorJRIdx
import Derived.Test.YtpaiideboodaeaaGreatDoorJStr
import Derived.Test.YtpaiideboodaeaaGreatDoorJBase
namespace Go.Proofs.YtpaiideboodaeaaGreatDoor
open Go.RowKit
set_option linter.unusedVariables false
set_option linter.unusedSimpArgs false

def lnsL (es : List Ev) : List LineD := es.flatMap (·.lines)
def cntL (es : List Ev) : List Int := es.map (fun e => (e.lines.length : Int))
def txtL (L : List LineD) : List Int := L.flatMap (fun x => bts x.text)
def linesX (es : List Ev) : List Int := blkP (colX (cntL es)) ++ blkP (colX ((lnsL es).map (·.off))) ++ blkP (colX ((lnsL es).map (·.len))) ++ blkP (colX ((lnsL es).map (fun x => (x.text.size : Int)))) ++ txtL (lnsL es)
/-- the lines of an event are small numbers -/
def EvL (e : Ev) : Prop := EvS e ∧ ∀ x ∈ e.lines, I64 x.off ∧ I64 x.len
theorem lnsL_len {es : List Ev} (h : ∀ e ∈ es, EvL e) (hl : es.length ≤ 40) : (lnsL es).length ≤ 120 := by
  have := flat_le (fun e : Ev => e.lines) 3 es (fun e he => (h e he).1.1)
  unfold lnsL
  omega
theorem lnsL_mem {es : List Ev} (h : ∀ e ∈ es, EvL e) : ∀ x ∈ lnsL es, x.text.size ≤ 59 ∧ I64 x.off ∧ I64 x.len := fun x hx => by
  obtain ⟨e, he, hx⟩ := List.mem_flatMap.1 hx
  exact ⟨(h e he).1.2.1 x hx, (h e he).2 x hx⟩
theorem txtL_len : ∀ (L : List LineD), (∀ x ∈ L, x.text.size ≤ 59) → (txtL L).length ≤ 59 * L.length
  | [], _ => Nat.le_refl _
  | x :: L, h => by
    have h1 := h x (List.mem_cons_self ..)
    have h2 := txtL_len L (fun y hy => h y (List.mem_cons_of_mem _ hy))
    unfold txtL at h2 ⊢
    rw [List.flatMap_cons, List.length_append, bts_length, List.length_cons]
    omega
theorem txtL_snoc (L : List LineD) (x : LineD) : txtL (L ++ [x]) = txtL L ++ bts x.text := by unfold txtL; rw [List.flatMap_append]; simp
theorem i64_small {n : Nat} (h : n ≤ 1000000) : I64 (n : Int) := by unfold I64; constructor <;> omega
set_option maxHeartbeats 16000000 in
set_option maxRecDepth 100000 in
theorem lines_any {S : Nat → Prop} (A : Option Addr) (es : List Ev) (c : Nat) (w : World) (hev : Evs S w A es) (hel : es.length ≤ 40) (hs : ∀ e ∈ es, EvL e) :
    Calls Tryz.prog 85 #[.slice A es.length c] w (NewB w (linesX es)) := by
  have HEV := Lib.hid hev
  have HLE := Lib.hid (fun k => lnsL_len (es := es.take k) (fun e he => hs e (List.mem_of_mem_take he)) (by rw [List.length_take]; omega))
  have HLM := Lib.hid (lnsL_mem hs)
  have HL3 : Hid (∀ e ∈ es, e.lines.length ≤ 3) := Lib.hid (fun e he => (hs e he).1.1)
  have HN1 : Hid (∀ (k : Nat) (y : Ev), es[k]? = some y → cntL (es.take (k + 1)) = cntL (es.take k) ++ [(y.lines.length : Int)]) := Lib.hid (fun k y hy => by
    obtain ⟨h1, h2⟩ := List.getElem?_eq_some_iff.1 hy
    unfold cntL
    rw [List.take_succ_eq_append_getElem h1, h2, List.map_append]
    rfl)
  have HN2 : Hid (∀ (k : Nat) (y : Ev), es[k]? = some y → lnsL (es.take (k + 1)) = lnsL (es.take k) ++ y.lines) := Lib.hid (fun k y hy => flat_snoc (fun e : Ev => e.lines) hy)
  have HX : Hid (linesX es = blkP (colX (cntL es)) ++ blkP (colX ((lnsL es).map (·.off))) ++ blkP (colX ((lnsL es).map (·.len))) ++ blkP (colX ((lnsL es).map (fun x => (x.text.size : Int)))) ++ txtL (lnsL es)) := Lib.hid rfl
  have HCL : Hid ((cntL es).length = es.length) := Lib.hid (by unfold cntL; rw [List.length_map])
  have HCM : Hid (∀ x ∈ cntL es, I64 x) := Lib.hid (fun x hx => by
    obtain ⟨e, he, rfl⟩ := List.mem_map.1 hx
    have := (hs e he).1.1
    exact i64_small (by omega))
  have HTL : Hid (∀ L : List LineD, (∀ x ∈ L, x.text.size ≤ 59) → (txtL L).length ≤ 59 * L.length) := Lib.hid txtL_len
  have HMK : Hid (∀ k, ∀ x ∈ lnsL (es.take k), x.text.size ≤ 59) := Lib.hid (fun k x hx => (lnsL_mem (fun e he => hs e (List.mem_of_mem_take he)) x hx).1)
  obtain ⟨R, hR⟩ : ∃ r, r = linesX es := ⟨_, rfl⟩
  rw [← hR] at HX ⊢
  clear hev hs hR
  go_enter Tryz.func85, Tryz.ntmps85
  go_wp2_with fail
  go_loopw [3, 4, 5, 6, 7, 8] (fun v3 v4 v5 v6 v7 vi wr => ∃ (k : Nat) (L : List LineD) (T cs : List Int), vi = .int .i64 k ∧ k ≤ es.length ∧ Hid (lnsL (es.take k) = L) ∧ Hid (txtL L = T) ∧ Hid (cntL (es.take k) = cs) ∧ Lns w.heap.size wr v3 v4 v5 v6 v7 cs L T ∧ w.grownBy wr none) (fun _ _ _ _ _ vi _ => es.length - (intOf vi).toNat)
  case atStart => exact ⟨0, [], [], [], rfl, Nat.zero_le _, Lib.hid rfl, Lib.hid rfl, Lib.hid rfl, Lns.nil, only_refl _ _⟩
  case round =>
    obtain ⟨k, L, T, cs, rfl, hk, HL, HT, HC, hN, hG⟩ := hrel
    have LN := Lib.hid hN
    have G := Lib.hid hG
    have hbase : w.heap.size ≤ wr.heap.size := hG.size
    have hcl : cs.length ≤ 40 := by rw [← HC.out]; unfold cntL; rw [List.length_map, List.length_take]; omega
    have hLl0 : L.length ≤ 120 := by rw [← HL.out]; exact HLE.out k
    obtain ⟨vC, hvC⟩ : ∃ v, v = u3 := ⟨_, rfl⟩
    obtain ⟨vO, hvO⟩ : ∃ v, v = u4 := ⟨_, rfl⟩
    obtain ⟨vL, hvL⟩ : ∃ v, v = u5 := ⟨_, rfl⟩
    obtain ⟨vS, hvS⟩ : ∃ v, v = u6 := ⟨_, rfl⟩
    obtain ⟨vT, hvT⟩ : ∃ v, v = u7 := ⟨_, rfl⟩
    rw [← hvC, ← hvO, ← hvL, ← hvS, ← hvT] at LN
    rw [← hvC, ← hvO, ← hvL, ← hvS, ← hvT]
    clear hN hG hvC hvO hvL hvS hvT
    by_cases hlt : k < es.length
    · obtain ⟨y, hy⟩ : ∃ y, es[k]? = some y := ⟨_, List.getElem?_eq_getElem hlt⟩
      have HY := Lib.hid hy
      obtain ⟨kb, ko, eE, hkw, -, -, -, -, z4, -, -, -, -, -⟩ := ev_in (HEV.out.1.grown G.out (by simp)) hy
      subst eE
      have HS1 := Lib.hid (HN1.out k y hy)
      have HS2 := Lib.hid (HN2.out k y hy)
      have hyl : y.lines.length ≤ 3 := HL3.out y (List.mem_of_getElem? hy)
      have HYS := Lib.hid ((HEV.out.2 y (List.mem_of_getElem? hy)).1)
      have i1 : (k : Int) < (es.length : Int) := by omega
      clear hy
      go_wp2_with (at_builtin; go_must (refine wpList_append1 rfl _ _ 47 rfl w.heap.size Tryz.underlying47 intInfoS rfl (by decide) (v := vC) (by rfl) (w0 := wr) (cs := #[.int .i64 (y.lines.length : Nat)]) LN.out.c (by rfl) rfl (by simp [Value.oneCell']) (by decide) (by omega) (by omega) ?_); intro v5 w5 hown5 hg5 hob5)
      have LN5 := Lib.hid (LN.out.cnt hown5 hg5 hob5)
      have G5 : Hid (w.grownBy w5 none) := Lib.hid (only_own G.out hg5 LN.out.c (Nat.le_refl _))
      clear hown5 hg5 hob5 LN
      go_wp2_with fail
      obtain ⟨wo, rfl⟩ : ∃ wo : World, wo = wr := ⟨_, rfl⟩
      go_loopw [4, 5, 6, 7, 9] (fun v4 v5' v6 v7 vj wr => ∃ (j : Nat) (L' : List LineD) (T' : List Int), vj = .int .i64 j ∧ j ≤ y.lines.length ∧ Hid (L ++ y.lines.take j = L') ∧ Hid (txtL L' = T') ∧ Lns w.heap.size wr v5 v4 v5' v6 v7 (cs ++ [(y.lines.length : Int)]) L' T' ∧ w.grownBy wr none) (fun _ _ _ _ vj _ => y.lines.length - (intOf vj).toNat)
      case atStart => exact ⟨0, L, T, rfl, Nat.zero_le _, Lib.hid (by simp), HT, LN5.out, G5.out⟩
      case round =>
        clear HT hLl0 hbase LN5 G5
        obtain ⟨j, L', T', rfl, hj, HL', HT', hN', hG'⟩ := hrel
        have LN := Lib.hid hN'
        have G2 := Lib.hid hG'
        have hb2 : w.heap.size ≤ wr.heap.size := hG'.size
        have hLe : L'.length = L.length + j := by rw [← HL'.out, List.length_append, List.length_take]; omega
        have hL0 : L.length ≤ 120 := by rw [← HL.out]; exact HLE.out k
        have hLl : L'.length ≤ 1000000 := by omega
        have HTLn : Hid (T'.length ≤ 59 * L'.length) := Lib.hid (by
          rw [← HT'.out]
          refine HTL.out _ (fun x hx => ?_)
          rw [← HL'.out] at hx
          rcases List.mem_append.1 hx with hx | hx
          · rw [← HL.out] at hx; exact HMK.out k x hx
          · exact (HLM.out x (List.mem_flatMap.2 ⟨y, List.mem_of_getElem? HY.out, List.mem_of_mem_take hx⟩)).1)
        obtain ⟨kb', ko', eE', hkw', -, -, -, -, z4, -, -, -, -, -⟩ := ev_in (HEV.out.1.grown G2.out (by simp)) HY.out
        injection eE' with eE'
        injection eE' with e1 e2
        subst e1 e2
        obtain ⟨vO, hvO⟩ : ∃ v, v = u4 := ⟨_, rfl⟩
        obtain ⟨vL, hvL⟩ : ∃ v, v = u5 := ⟨_, rfl⟩
        obtain ⟨vS, hvS⟩ : ∃ v, v = u6 := ⟨_, rfl⟩
        obtain ⟨vT, hvT⟩ : ∃ v, v = u7 := ⟨_, rfl⟩
        rw [← hvO, ← hvL, ← hvS, ← hvT] at LN
        rw [← hvO, ← hvL, ← hvS, ← hvT]
        clear hN' hG' hvO hvL hvS hvT hLe
        by_cases hlt2 : j < y.lines.length
        · obtain ⟨x, hx⟩ : ∃ x, y.lines[j]? = some x := ⟨_, List.getElem?_eq_getElem hlt2⟩
          have hrr := HYS.out.grown G2.out (by simp)
          obtain ⟨lb, lo, ela, hlb, -, -⟩ := hrr (by rw [flat_len _ 3 LineD.cells_len]; omega)
          rw [ela] at hrr z4
          have d0 : wr.cell? ⟨lb, lo + j * 3, none⟩ = some (.int .i64 x.off) := hrr.flatAt LineD.cells_len hx 0 (by omega)
          have d1 : wr.cell? ⟨lb, lo + j * 3 + 1, none⟩ = some (.int .i64 x.len) := hrr.flatAt LineD.cells_len hx 1 (by omega)
          have d2 : wr.cell? ⟨lb, lo + j * 3 + 2, none⟩ = some (.string x.text) := hrr.flatAt LineD.cells_len hx 2 (by omega)
          have HNX : Hid (L ++ y.lines.take (j + 1) = L' ++ [x]) := Lib.hid (by
            obtain ⟨h2, h3⟩ := List.getElem?_eq_some_iff.1 hx
            rw [List.take_succ_eq_append_getElem h2, h3, ← List.append_assoc, HL'.out])
          have HTX : Hid (txtL (L' ++ [x]) = T' ++ bts x.text) := Lib.hid (by rw [txtL_snoc, HT'.out])
          have hxz : x.text.size ≤ 59 := (HLM.out x (List.mem_flatMap.2 ⟨y, List.mem_of_getElem? HY.out, List.mem_of_getElem? hx⟩)).1
          have i2 : (j : Int) < (y.lines.length : Int) := by omega
          clear hx hrr ela HL' HT'
          go_upto_region 11 with fail
          obtain ⟨xb, hxbd⟩ : ∃ b, b = wr.heap.size := ⟨_, rfl⟩
          obtain ⟨W, hW⟩ : ∃ W, W = wr.alloc (.cells #[.int .i64 x.off, .int .i64 x.len, .string x.text] 117) := ⟨_, rfl⟩
          have hBW : Blk W xb 117 #[.int .i64 x.off, .int .i64 x.len, .string x.text] := by rw [hW, hxbd]; exact Blk.new _ _ _
          have hgW : wr.grownBy W none := by rw [hW]; exact only_alloc (only_refl _ _) _
          rw [← hxbd, ← hW]
          have LN1 := Lib.hid (LN.out.ext hgW)
          have GW := Lib.hid (only_trans G2.out hgW)
          have HSEP := Lib.hid LN1.out.sep
          have hbW : w.heap.size ≤ W.heap.size := GW.out.size
          have hxb : xb < W.heap.size := hBW.lt
          have x0 := hBW.cell 0; have x1 := hBW.cell 1; have x2 := hBW.cell 2
          simp at x0 x1 x2
          have hxn : ¬ RB3 vO vL vS xb := by
            rintro (h | h | h)
            · exact blk_norow hBW LN1.out.o (by decide) h
            · exact blk_norow hBW LN1.out.l (by decide) h
            · exact blk_norow hBW LN1.out.s (by decide) h
          obtain ⟨L, rfl⟩ : ∃ L'', L'' = L' := ⟨_, rfl⟩
          clear hW hxbd hBW hgW LN z4 d0 d1 d2
          have HE : Hid (∀ (w3 : World) (D : Nat → Bool) (u : Nat → Value), App3 W w.heap.size vO vL vS L.length (L.map (fun x => .int .i64 x.off)) (L.map (fun x => .int .i64 x.len)) (L.map (fun x => .int .i64 (x.text.size : Nat))) (.int .i64 x.off) (.int .i64 x.len) (.int .i64 (x.text.size : Nat)) D u w3 → w3.cell? ⟨xb, 2, none⟩ = some (.string x.text) ∧ w.grownBy w3 none) := Lib.hid (fun w3 D u hX => ⟨(hX.fr.cell hxb hxn).trans x2, hX.fr.none_ GW.out (fun i hi => by
            rcases hi with h | h | h
            · exact (World.ownsRow.lt LN1.out.o i h).1
            · exact (World.ownsRow.lt LN1.out.l i h).1
            · exact (World.ownsRow.lt LN1.out.s i h).1)⟩)
          refine wp_region_gen 16 (JC [some (vO), some (.pointer (some ⟨xb, 0, none⟩)), some (.int .i64 (x.off)), none, none, some (vL), some (.pointer (some ⟨xb, 1, none⟩)), some (.int .i64 (x.len)), none, none, some (vS), some (.pointer (some ⟨xb, 2, none⟩)), some (.string (x.text)), some (.int .i64 ((x.text.size : Nat))), none, none] (App3 W w.heap.size vO vL vS L.length (L.map (fun x => .int .i64 x.off)) (L.map (fun x => .int .i64 x.len)) (L.map (fun x => .int .i64 (x.text.size : Nat))) (.int .i64 x.off) (.int .i64 x.len) (.int .i64 (x.text.size : Nat)))) (by kernel_rfl) (by kernel_rfl) ?_ ?_ ?_
          · intro u
            exact ⟨(fun j c _ h => by cases h), App3.start LN1.out.o LN1.out.l LN1.out.s⟩
          · intro AA hA
            have hasz : AA.tmps.size = 80 := by rw [hA]; kernel_rfl
            have ea4 : AA.eval (.tmp 4) = vO := by rw [hA]; kernel_rfl
            have ea5 : AA.eval (.tmp 5) = vL := by rw [hA]; kernel_rfl
            have ea6 : AA.eval (.tmp 6) = vS := by rw [hA]; kernel_rfl
            have ea10 : AA.eval (.tmp 10) = .pointer (some ⟨xb, 0, none⟩) := by rw [hA]; kernel_rfl
            clear hA
            simp only [List.take_succ_cons, List.take_zero]
            refine .cons ?_ (.cons ?_ (.cons ?_ (.cons ?_ (.cons ?_ (.cons ?_ (.cons ?_ (.cons ?_ (.cons ?_ (.cons ?_ (.cons ?_ (.cons ?_ (.cons ?_ (.cons ?_ (.cons ?_ (.cons ?_ (.nil))))))))))))))))
            · exact gd_gen (by kernel_rfl) (Want.none_ rfl) rfl (fun D u w v h => h.other v (by decide) (by decide) (by decide) (by decide) (by decide) (by decide)) (fun D u ρ w kn => by
                have e0 := kn.own 4 (c := vO) (by kernel_rfl) ea4
                simp [execOp, kn.rho.con, e0, go_sem])
            · exact gd_gen (by kernel_rfl) (Want.none_ rfl) rfl (fun D u w v h => h.other v (by decide) (by decide) (by decide) (by decide) (by decide) (by decide)) (fun D u ρ w kn => by
                have e0 := kn.own 10 (c := .pointer (some ⟨xb, 0, none⟩)) (by kernel_rfl) ea10
                simp [execOp, kn.rho.con, e0, go_sem])
            · exact gd_gen (by kernel_rfl) (Want.none_ rfl) rfl (fun D u w v h => h.other v (by decide) (by decide) (by decide) (by decide) (by decide) (by decide)) (fun D u ρ w kn => by
                have e0 := kn.con 1 46 (c := .pointer (some ⟨xb, 0, none⟩)) (by kernel_rfl) (by omega) (by kernel_rfl) rfl
                have f0 := (kn.ext.fr.cell hxb hxn).trans x0
                simp [execOp, kn.rho.con, e0, f0, go_sem])
            · refine gd_eff (by kernel_rfl) (Want.none_ rfl) (fun D u ρ w kn hD => ?_)
              have e0 := kn.con 2 47 (c := .int .i64 x.off) (by kernel_rfl) (by omega) (by kernel_rfl) rfl
              exact ⟨.slice (some ⟨w.heap.size, 0, none⟩) 1 1, w.alloc (.cells #[.int .i64 x.off] 3), by simp [execOp, kn.rho.con, e0, go_sem], (fun c h => by injection h with h; cases h), kn.ext.lay1 hD⟩
            · refine gd_eff (by kernel_rfl) (Want.none_ rfl) (fun D u ρ w kn hD => ?_)
              have e0 := kn.con 0 45 (c := vO) (by kernel_rfl) (by omega) (by kernel_rfl) rfl
              have e1 := kn.slot 3 48 (by kernel_rfl) (by omega)
              have d0 := kn.dep 3 (by kernel_rfl)
              obtain ⟨v', w', hr, ho, hg, hb⟩ := kn.ext.o.run hD d0 47 47 Tryz.underlying47 intInfoS rfl rfl (by decide) hLl (Nat.le_trans hbW kn.ext.fr.2.2.2.1)
              exact ⟨v', w', exec_append rfl e0 e1 hr, (fun c h => by injection h with h; cases h), kn.ext.put1 HSEP.out hD d0 ho hg hb⟩
            · exact gd_gen (by kernel_rfl) (Want.none_ rfl) rfl (fun D u w v h => h.other v (by decide) (by decide) (by decide) (by decide) (by decide) (by decide)) (fun D u ρ w kn => by
                have e0 := kn.own 5 (c := vL) (by kernel_rfl) ea5
                simp [execOp, kn.rho.con, e0, go_sem])
            · exact gd_gen (by kernel_rfl) (Want.none_ rfl) rfl (fun D u w v h => h.other v (by decide) (by decide) (by decide) (by decide) (by decide) (by decide)) (fun D u ρ w kn => by
                have e0 := kn.own 10 (c := .pointer (some ⟨xb, 0, none⟩)) (by kernel_rfl) ea10
                simp [execOp, kn.rho.con, e0, go_sem])
            · exact gd_gen (by kernel_rfl) (Want.none_ rfl) rfl (fun D u w v h => h.other v (by decide) (by decide) (by decide) (by decide) (by decide) (by decide)) (fun D u ρ w kn => by
                have e0 := kn.con 6 51 (c := .pointer (some ⟨xb, 1, none⟩)) (by kernel_rfl) (by omega) (by kernel_rfl) rfl
                have f0 := (kn.ext.fr.cell hxb hxn).trans x1
                simp [execOp, kn.rho.con, e0, f0, go_sem])
            · refine gd_eff (by kernel_rfl) (Want.none_ rfl) (fun D u ρ w kn hD => ?_)
              have e0 := kn.con 7 52 (c := .int .i64 x.len) (by kernel_rfl) (by omega) (by kernel_rfl) rfl
              exact ⟨.slice (some ⟨w.heap.size, 0, none⟩) 1 1, w.alloc (.cells #[.int .i64 x.len] 3), by simp [execOp, kn.rho.con, e0, go_sem], (fun c h => by injection h with h; cases h), kn.ext.lay2 hD⟩
            · refine gd_eff (by kernel_rfl) (Want.none_ rfl) (fun D u ρ w kn hD => ?_)
              have e0 := kn.con 5 50 (c := vL) (by kernel_rfl) (by omega) (by kernel_rfl) rfl
              have e1 := kn.slot 8 53 (by kernel_rfl) (by omega)
              have d0 := kn.dep 8 (by kernel_rfl)
              obtain ⟨v', w', hr, ho, hg, hb⟩ := kn.ext.l.run hD d0 47 47 Tryz.underlying47 intInfoS rfl rfl (by decide) hLl (Nat.le_trans hbW kn.ext.fr.2.2.2.1)
              exact ⟨v', w', exec_append rfl e0 e1 hr, (fun c h => by injection h with h; cases h), kn.ext.put2 HSEP.out hD d0 ho hg hb⟩
            · exact gd_gen (by kernel_rfl) (Want.none_ rfl) rfl (fun D u w v h => h.other v (by decide) (by decide) (by decide) (by decide) (by decide) (by decide)) (fun D u ρ w kn => by
                have e0 := kn.own 6 (c := vS) (by kernel_rfl) ea6
                simp [execOp, kn.rho.con, e0, go_sem])
            · exact gd_gen (by kernel_rfl) (Want.none_ rfl) rfl (fun D u w v h => h.other v (by decide) (by decide) (by decide) (by decide) (by decide) (by decide)) (fun D u ρ w kn => by
                have e0 := kn.own 10 (c := .pointer (some ⟨xb, 0, none⟩)) (by kernel_rfl) ea10
                simp [execOp, kn.rho.con, e0, go_sem])
            · exact gd_gen (by kernel_rfl) (Want.none_ rfl) rfl (fun D u w v h => h.other v (by decide) (by decide) (by decide) (by decide) (by decide) (by decide)) (fun D u ρ w kn => by
                have e0 := kn.con 11 56 (c := .pointer (some ⟨xb, 2, none⟩)) (by kernel_rfl) (by omega) (by kernel_rfl) rfl
                have f0 := (kn.ext.fr.cell hxb hxn).trans x2
                simp [execOp, kn.rho.con, e0, f0, go_sem])
            · exact gd_gen (by kernel_rfl) (Want.none_ rfl) rfl (fun D u w v h => h.other v (by decide) (by decide) (by decide) (by decide) (by decide) (by decide)) (fun D u ρ w kn => by
                have e0 := kn.con 12 57 (c := .string (x.text)) (by kernel_rfl) (by omega) (by kernel_rfl) rfl
                simp [execOp, kn.rho.con, e0, go_sem])
            · refine gd_eff (by kernel_rfl) (Want.none_ rfl) (fun D u ρ w kn hD => ?_)
              have e0 := kn.con 13 58 (c := .int .i64 (x.text.size : Nat)) (by kernel_rfl) (by omega) (by kernel_rfl) rfl
              exact ⟨.slice (some ⟨w.heap.size, 0, none⟩) 1 1, w.alloc (.cells #[.int .i64 (x.text.size : Nat)] 3), by simp [execOp, kn.rho.con, e0, go_sem], (fun c h => by injection h with h; cases h), kn.ext.lay3 hD⟩
            · refine gd_eff (by kernel_rfl) (Want.none_ rfl) (fun D u ρ w kn hD => ?_)
              have e0 := kn.con 10 55 (c := vS) (by kernel_rfl) (by omega) (by kernel_rfl) rfl
              have e1 := kn.slot 14 59 (by kernel_rfl) (by omega)
              have d0 := kn.dep 14 (by kernel_rfl)
              obtain ⟨v', w', hr, ho, hg, hb⟩ := kn.ext.s.run hD d0 47 47 Tryz.underlying47 intInfoS rfl rfl (by decide) hLl (Nat.le_trans hbW kn.ext.fr.2.2.2.1)
              exact ⟨v', w', exec_append rfl e0 e1 hr, (fun c h => by injection h with h; cases h), kn.ext.put3 HSEP.out hD d0 ho hg hb⟩
          · intro D u w3 hJ hD
            obtain ⟨-, hX⟩ := hJ
            have LN3 := Lib.hid (LN1.out.three hX (hD 4 (by omega)) (hD 9 (by omega)) (hD 15 (by omega)))
            obtain ⟨y2, hg3⟩ := HE.out w3 D u hX
            have G3 := Lib.hid hg3
            have hb3 := hg3.size
            obtain ⟨v4', h4⟩ : ∃ v, v = u 4 := ⟨_, rfl⟩
            obtain ⟨v9', h9⟩ : ∃ v, v = u 9 := ⟨_, rfl⟩
            obtain ⟨v15', h15⟩ : ∃ v, v = u 15 := ⟨_, rfl⟩
            rw [← h4, ← h9, ← h15] at LN3
            simp only [List.take_succ_cons, List.take_zero, List.drop_succ_cons, List.drop_zero, putAll]
            rw [← h4, ← h9, ← h15]
            clear hX hD hg3 h4 h9 h15 HE hxn x0 x1 x2 LN1 HSEP GW hbW hxb
            go_wp2_with (at_builtin; go_must (refine wpList_appendS rfl _ _ 22 9 rfl w.heap.size Tryz.underlying22 Tryz.underlying9 byteInfo (v := vT) (by rfl) LN3.out.t x.text (by rfl) (by have := HTLn.out; omega) hb3 ?_); intro v6 w6 hB6 hg6)
            have LN6 := Lib.hid (LN3.out.txt hB6 hg6)
            have G6 : Hid (w.grownBy w6 none) := Lib.hid (only_own G3.out hg6 LN3.out.t (Nat.le_refl _))
            clear hB6 hg6
            go_wp2_with fail
            go_roundw
            case rel => exact ⟨j + 1, L ++ [x], T' ++ bts x.text, by go_num, by omega, HNX, HTX, LN6.out, G6.out⟩
            case measure => simp [intOf]; omega
        · have hjE : j = y.lines.length := by omega
          have HLL : Hid (lnsL (es.take (k + 1)) = L') := Lib.hid (by rw [HS2.out, HL.out, ← HL'.out, List.take_of_length_le (by omega)])
          have HCC : Hid (cntL (es.take (k + 1)) = cs ++ [(y.lines.length : Int)]) := Lib.hid (by rw [HS1.out, HC.out])
          have i2 : ¬ (j : Int) < (y.lines.length : Int) := by omega
          clear hjE
          go_wp2_with fail
          go_roundw
          case rel => exact ⟨k + 1, L', T', cs ++ [(y.lines.length : Int)], by go_num, by omega, HLL, HT', HCC, LN.out, G2.out⟩
          case measure => simp [intOf]; omega
    · have hkE : k = es.length := by omega
      have i1 : ¬ (k : Int) < (es.length : Int) := by omega
      have HkE := Lib.hid hkE
      clear hkE
      have HLf : Hid (lnsL es = L) := Lib.hid (by have h := HL.out; rw [List.take_of_length_le (by have := HkE.out; omega)] at h; exact h)
      have HCf : Hid (cntL es = cs) := Lib.hid (by have h := HC.out; rw [List.take_of_length_le (by have := HkE.out; omega)] at h; exact h)
      obtain ⟨w0, hw0⟩ : ∃ w0 : World, w0 = wr := ⟨_, rfl⟩
      rw [← hw0] at LN G hbase ⊢
      clear hw0
      obtain ⟨A1, c1, hv1, -, -, -, r1⟩ := Rd.of_own LN.out.c (by decide)
      obtain ⟨A2, c2, hv2, -, -, -, r2⟩ := Rd.of_own LN.out.o (by decide)
      obtain ⟨A3, c3, hv3, -, -, -, r3⟩ := Rd.of_own LN.out.l (by decide)
      obtain ⟨A4, c4, hv4, -, -, -, r4⟩ := Rd.of_own LN.out.s (by decide)
      obtain ⟨A5, c5, hv5, -, -, -, r5⟩ := Rd.of_own LN.out.t (by decide)
      have HIM : Hid (∀ x ∈ L, x.text.size ≤ 59 ∧ I64 x.off ∧ I64 x.len) := Lib.hid (by rw [← HLf.out]; exact HLM.out)
      have hmo : ∀ v ∈ L.map (·.off), I64 v := fun v hv => by obtain ⟨x, hx, rfl⟩ := List.mem_map.1 hv; exact (HIM.out x hx).2.1
      have hml : ∀ v ∈ L.map (·.len), I64 v := fun v hv => by obtain ⟨x, hx, rfl⟩ := List.mem_map.1 hv; exact (HIM.out x hx).2.2
      have hms : ∀ v ∈ L.map (fun x => (x.text.size : Int)), I64 v := fun v hv => by obtain ⟨x, hx, rfl⟩ := List.mem_map.1 hv; have := (HIM.out x hx).1; exact i64_small (by omega)
      have hmc : ∀ v ∈ cs, I64 v := by rw [← HCf.out]; exact HCM.out
      have K1 : Hid (∀ w', w0.grownBy w' none → Calls Tryz.prog 90 #[.slice A1 cs.length c1] w' (NewB w' (colX cs))) := Lib.hid (fun w' hg => column_any A1 cs c1 w' ((r1.mono (fun _ _ _ => trivial)).grown hg (by simp)) (by omega) hmc)
      have K2 : Hid (∀ w', w0.grownBy w' none → Calls Tryz.prog 90 #[.slice A2 L.length c2] w' (NewB w' (colX (L.map (·.off))))) := Lib.hid (fun w' hg => by
        have h := column_any A2 (L.map (·.off)) c2 w' (by rw [List.map_map]; exact (r2.mono (fun _ _ _ => trivial)).grown hg (by simp)) (by rw [List.length_map]; omega) hmo
        rw [List.length_map] at h; exact h)
      have K3 : Hid (∀ w', w0.grownBy w' none → Calls Tryz.prog 90 #[.slice A3 L.length c3] w' (NewB w' (colX (L.map (·.len))))) := Lib.hid (fun w' hg => by
        have h := column_any A3 (L.map (·.len)) c3 w' (by rw [List.map_map]; exact (r3.mono (fun _ _ _ => trivial)).grown hg (by simp)) (by rw [List.length_map]; omega) hml
        rw [List.length_map] at h; exact h)
      have K4 : Hid (∀ w', w0.grownBy w' none → Calls Tryz.prog 90 #[.slice A4 L.length c4] w' (NewB w' (colX (L.map (fun x => (x.text.size : Int)))))) := Lib.hid (fun w' hg => by
        have h := column_any A4 (L.map (fun x => (x.text.size : Int))) c4 w' (by rw [List.map_map]; exact (r4.mono (fun _ _ _ => trivial)).grown hg (by simp)) (by rw [List.length_map]; omega) hms
        rw [List.length_map] at h; exact h)
      have RT : Hid (Rd (fun b => b < w0.heap.size) w0 A5 (T.map (.int .u8))) := Lib.hid (r5.mono (fun b _ h => h))
      have HC1 : Hid ((colX cs).length ≤ 2000) := Lib.hid (by have := colX_len hmc (by omega); omega)
      have HC2 : Hid ((colX (L.map (·.off))).length ≤ 2000) := Lib.hid (by have h := colX_len hmo (by rw [List.length_map]; omega); rw [List.length_map] at h; omega)
      have HC3 : Hid ((colX (L.map (·.len))).length ≤ 2000) := Lib.hid (by have h := colX_len hml (by rw [List.length_map]; omega); rw [List.length_map] at h; omega)
      have HC4 : Hid ((colX (L.map (fun x => (x.text.size : Int)))).length ≤ 2000) := Lib.hid (by have h := colX_len hms (by rw [List.length_map]; omega); rw [List.length_map] at h; omega)
      have HTLn : Hid (T.length ≤ 59 * L.length) := Lib.hid (by rw [← HT.out]; exact HTL.out L (fun x hx => (HIM.out x hx).1))
      have HE : Hid (R = blkP (colX cs) ++ blkP (colX (L.map (·.off))) ++ blkP (colX (L.map (·.len))) ++ blkP (colX (L.map (fun x => (x.text.size : Int)))) ++ T) := Lib.hid (by rw [HX.out, HLf.out, HCf.out, HT.out])
      obtain ⟨C1, h1⟩ : ∃ C, C = colX cs := ⟨_, rfl⟩
      obtain ⟨C2, h2⟩ : ∃ C, C = colX (L.map (·.off)) := ⟨_, rfl⟩
      obtain ⟨C3, h3⟩ : ∃ C, C = colX (L.map (·.len)) := ⟨_, rfl⟩
      obtain ⟨C4, h4⟩ : ∃ C, C = colX (L.map (fun x => (x.text.size : Int))) := ⟨_, rfl⟩
      rw [← h1, ← h2, ← h3, ← h4] at HE
      rw [← h1] at K1 HC1
      rw [← h2] at K2 HC2
      rw [← h3] at K3 HC3
      rw [← h4] at K4 HC4
      have HB1 : Hid ((blkP C1).length ≤ 2010) := Lib.hid (by have := HC1.out; have := blkP_len (b := C1) (by omega); omega)
      have HB2 : Hid ((blkP C2).length ≤ 2010) := Lib.hid (by have := HC2.out; have := blkP_len (b := C2) (by omega); omega)
      have HB3 : Hid ((blkP C3).length ≤ 2010) := Lib.hid (by have := HC3.out; have := blkP_len (b := C3) (by omega); omega)
      have HB4 : Hid ((blkP C4).length ≤ 2010) := Lib.hid (by have := HC4.out; have := blkP_len (b := C4) (by omega); omega)
      rw [hv1, hv2, hv3, hv4, hv5]
      clear hv1 hv2 hv3 hv4 hv5 r1 r2 r3 r4 r5 hmo hml hms hmc h1 h2 h3 h4 LN HL HT HC HX
      have B0 : Hid (Byts w0.heap.size w0 (.slice none 0 0) []) := Lib.hid (Byts.nil _ _)
      have G0 : Hid (w0.grownBy w0 none) := Lib.hid (only_refl _ _)
      go_wp2_with fail
      refine (K1.out _ G0.out).mono ?_
      intro e wa hN
      obtain ⟨AC, cC, rfl, -, -, b3, hg⟩ := hN.row
      have GA0 := Lib.hid (only_trans G0.out hg)
      have BA0 : Hid (Byts w0.heap.size wa (.slice none 0 0) ([])) := Lib.hid (own_ext B0.out hg)
      have RC := Lib.hid b3
      have HNE : Hid (∀ b, w0.heap.size ≤ b → some b ≠ Value.ownBlock (.slice none 0 0)) := Lib.hid (fun b hb e => by have := Byts.below B0.out b e.symm; omega)
      have hza := GA0.out.size
      clear b3 hg hN
      go_wp2_with fail
      refine (putblock_any w0.heap.size (.slice none 0 0) ([]) AC C1 cC wa BA0.out RC.out HNE.out (by simp only [List.length_append, List.length_nil]; have := HB1.out; have := HB2.out; have := HB3.out; omega) (by have := HC1.out; omega) hza).mono ?_
      rintro e w1 ⟨v1, rfl, hB, hO⟩
      have B1 := Lib.hid hB
      have G1 : Hid (w0.grownBy w1 none) := BA0.out.only hO GA0.out (Nat.le_refl _)
      have hz1 := G1.out.size
      clear hB hO BA0 GA0 RC HNE hza B0
      go_wp2_with fail
      refine (K2.out _ G1.out).mono ?_
      intro e wa hN
      obtain ⟨AC, cC, rfl, -, -, b3, hg⟩ := hN.row
      have GA1 := Lib.hid (only_trans G1.out hg)
      have BA1 : Hid (Byts w0.heap.size wa v1 ([] ++ blkP C1)) := Lib.hid (own_ext B1.out hg)
      have RC := Lib.hid b3
      have HNE : Hid (∀ b, w1.heap.size ≤ b → some b ≠ Value.ownBlock v1) := Lib.hid (fun b hb e => by have := Byts.below B1.out b e.symm; omega)
      have hza := GA1.out.size
      clear b3 hg hN
      go_wp2_with fail
      refine (putblock_any w0.heap.size v1 ([] ++ blkP C1) AC C2 cC wa BA1.out RC.out HNE.out (by simp only [List.length_append, List.length_nil]; have := HB1.out; have := HB2.out; have := HB3.out; omega) (by have := HC2.out; omega) hza).mono ?_
      rintro e w2 ⟨v2, rfl, hB, hO⟩
      have B2 := Lib.hid hB
      have G2 : Hid (w0.grownBy w2 none) := BA1.out.only hO GA1.out (Nat.le_refl _)
      have hz2 := G2.out.size
      clear hB hO BA1 GA1 RC HNE hza B1
      go_wp2_with fail
      refine (K3.out _ G2.out).mono ?_
      intro e wa hN
      obtain ⟨AC, cC, rfl, -, -, b3, hg⟩ := hN.row
      have GA2 := Lib.hid (only_trans G2.out hg)
      have BA2 : Hid (Byts w0.heap.size wa v2 ([] ++ blkP C1 ++ blkP C2)) := Lib.hid (own_ext B2.out hg)
      have RC := Lib.hid b3
      have HNE : Hid (∀ b, w2.heap.size ≤ b → some b ≠ Value.ownBlock v2) := Lib.hid (fun b hb e => by have := Byts.below B2.out b e.symm; omega)
      have hza := GA2.out.size
      clear b3 hg hN
      go_wp2_with fail
      refine (putblock_any w0.heap.size v2 ([] ++ blkP C1 ++ blkP C2) AC C3 cC wa BA2.out RC.out HNE.out (by simp only [List.length_append, List.length_nil]; have := HB1.out; have := HB2.out; have := HB3.out; omega) (by have := HC3.out; omega) hza).mono ?_
      rintro e w3 ⟨v3, rfl, hB, hO⟩
      have B3 := Lib.hid hB
      have G3 : Hid (w0.grownBy w3 none) := BA2.out.only hO GA2.out (Nat.le_refl _)
      have hz3 := G3.out.size
      clear hB hO BA2 GA2 RC HNE hza B2
      go_wp2_with fail
      refine (K4.out _ G3.out).mono ?_
      intro e wa hN
      obtain ⟨AC, cC, rfl, -, -, b3, hg⟩ := hN.row
      have GA3 := Lib.hid (only_trans G3.out hg)
      have BA3 : Hid (Byts w0.heap.size wa v3 ([] ++ blkP C1 ++ blkP C2 ++ blkP C3)) := Lib.hid (own_ext B3.out hg)
      have RC := Lib.hid b3
      have HNE : Hid (∀ b, w3.heap.size ≤ b → some b ≠ Value.ownBlock v3) := Lib.hid (fun b hb e => by have := Byts.below B3.out b e.symm; omega)
      have hza := GA3.out.size
      clear b3 hg hN
      go_wp2_with fail
      refine (putblock_any w0.heap.size v3 ([] ++ blkP C1 ++ blkP C2 ++ blkP C3) AC C4 cC wa BA3.out RC.out HNE.out (by simp only [List.length_append, List.length_nil]; have := HB1.out; have := HB2.out; have := HB3.out; omega) (by have := HC4.out; omega) hza).mono ?_
      rintro e w4 ⟨v4, rfl, hB, hO⟩
      have B4 := Lib.hid hB
      have G4 : Hid (w0.grownBy w4 none) := BA3.out.only hO GA3.out (Nat.le_refl _)
      have hz4 := G4.out.size
      clear hB hO BA3 GA3 RC HNE hza B3
      have RT4 := Lib.hid (RT.out.grown G4.out (by simp))
      go_wp2_with (at_builtin; go_must (refine wpList_appendN rfl _ _ 22 rfl w0.heap.size Tryz.underlying22 byteInfo rfl (by decide) (v := v4) (by rfl) B4.out A5 T.length c5 (by rfl) RT4.out (by simp) (byte_ones _) (by decide) (by simp only [List.length_append, List.length_nil]; have := HB1.out; have := HB2.out; have := HB3.out; have := HB4.out; have := HTLn.out; omega) hz4 ?_); intro v9 w9 hown9 hg9 hob9)
      have B9 : Hid (Byts w0.heap.size w9 v9 R) := Lib.hid (by
        rw [HE.out]
        have h9 := hown9
        simp only [List.nil_append] at h9
        unfold Byts
        rw [List.length_append, List.map_append]
        exact h9)
      have G9 : Hid (w.grownBy w9 none) := Lib.hid (only_own (only_trans G.out G4.out) hg9 B4.out hbase)
      clear hown9 hg9 hob9
      go_wp2_with fail
      go_ret
      exact ⟨v9, rfl, B9.out.base hbase, G9.out⟩
end Go.Proofs.YtpaiideboodaeaaGreatDoor

namespace Go.Proofs.YtpaiideboodaeaaGreatDoor
open Go.RowKit
set_option linter.unusedVariables false
set_option linter.unusedSimpArgs false

theorem bs_split (p : Nat → Bool) (n : Nat) (hm : ∀ a b, a ≤ b → b < n → p b = true → p a = true) (f : Nat) : ∀ i j, i ≤ j → j ≤ n → j - i ≤ f → (∀ m, m < i → p m = true) → (∀ m, j ≤ m → m < n → p m = false) →
    (∀ m, m < bs p f i j → p m = true) ∧ (∀ m, bs p f i j ≤ m → m < n → p m = false) := by
  induction f with
  | zero =>
    intro i j h1 h2 h3 h4 h5
    obtain rfl : i = j := by omega
    exact ⟨h4, h5⟩
  | succ f ih =>
    intro i j h1 h2 h3 h4 h5
    simp only [bs]
    by_cases hij : i < j
    · rw [if_pos hij]
      by_cases hp : p ((i + j) / 2) = true
      · rw [if_pos hp]
        exact ih _ _ (by omega) h2 (by omega) (fun m hm' => hm m _ (by omega) (by omega) hp) h5
      · rw [if_neg hp]
        refine ih _ _ (by omega) (by omega) (by omega) h4 (fun m h6 h7 => ?_)
        cases h8 : p m with
        | false => rfl
        | true => exact absurd (hm _ m h6 h7 h8) hp
    · rw [if_neg hij]
      obtain rfl : i = j := by omega
      exact ⟨h4, h5⟩

theorem pre_ge : ∀ (p x : List UInt8), p <+: x → Op.bytesLess x p = false
  | [], x, _ => by cases x <;> rfl
  | a :: p, [], h => by simp at h
  | a :: p, b :: x, h => by
    rw [List.cons_prefix_cons] at h
    obtain ⟨rfl, h⟩ := h
    simp [Op.bytesLess, pre_ge p x h]
theorem pre_mid : ∀ (p x y : List UInt8), Op.bytesLess x p = false → Op.bytesLess y x = false → p <+: y → p <+: x
  | [], x, _, _, _, _ => List.nil_prefix
  | a :: p, _, [], _, _, h => by simp at h
  | a :: p, [], b :: y, h, _, _ => by simp [Op.bytesLess] at h
  | a :: p, c :: x, b :: y, h1, h2, h3 => by
    rw [List.cons_prefix_cons] at h3 ⊢
    obtain ⟨rfl, h3⟩ := h3
    simp only [Op.bytesLess, Bool.or_eq_false_iff, decide_eq_false_iff_not, Bool.and_eq_false_iff, beq_eq_false_iff_ne] at h1 h2
    have hac : a = c := UInt8.le_antisymm (UInt8.not_lt.1 h1.1) (UInt8.not_lt.1 h2.1)
    subst hac
    have e1 : Op.bytesLess x p = false := by rcases h1.2 with h | h; exact absurd rfl h; exact h
    have e2 : Op.bytesLess y x = false := by rcases h2.2 with h | h; exact absurd rfl h; exact h
    exact ⟨rfl, pre_mid p x y e1 e2 h3⟩
theorem hp_iff (s p : ByteArray) : hp s p = true ↔ p.toList <+: s.toList := by
  unfold hp Lib.hasPrefix
  rw [ByteArray.toList_eq, ByteArray.toList_eq, List.isPrefixOf_iff_prefix]
theorem hp_ge {s p : ByteArray} (h : hp s p = true) : sl s p = false := pre_ge _ _ ((hp_iff s p).1 h)
theorem hp_mid {x y p : ByteArray} (h1 : sl x p = false) (h2 : sl y x = false) (h3 : hp y p = true) : hp x p = true := (hp_iff x p).2 (pre_mid _ _ _ h1 h2 ((hp_iff y p).1 h3))

theorem Srt.lt {ds : List ByteArray} (h : Srt ds) {i j : Nat} {x y : ByteArray} (hx : ds[i]? = some x) (hy : ds[j]? = some y) (hij : i < j) : sl x y = true := by
  obtain ⟨hi, rfl⟩ := List.getElem?_eq_some_iff.1 hx
  obtain ⟨hj, rfl⟩ := List.getElem?_eq_some_iff.1 hy
  exact List.pairwise_iff_getElem.1 h i j hi hj hij
theorem getD_of {ds : List ByteArray} {i : Nat} {x : ByteArray} (h : ds[i]? = some x) : ds.getD i ⟨#[]⟩ = x := by simp [List.getD_eq_getElem?_getD, h]
theorem some_at {ds : List ByteArray} {i : Nat} (h : i < ds.length) : ∃ x, ds[i]? = some x := ⟨_, List.getElem?_eq_getElem h⟩

theorem ix_split {ds : List ByteArray} (h : Srt ds) (t : ByteArray) : (∀ i x, i < ixOf ds t → ds[i]? = some x → sl x t = true) ∧ (∀ i x, ixOf ds t ≤ i → ds[i]? = some x → sl x t = false) := by
  have hm : ∀ a b, a ≤ b → b < ds.length → lt ds t b = true → lt ds t a = true := by
    intro a b hab hb hl
    obtain ⟨x, hx⟩ := some_at (ds := ds) (i := a) (by omega)
    obtain ⟨y, hy⟩ := some_at hb
    unfold lt at *
    rw [getD_of hy] at hl
    rw [getD_of hx]
    rcases Nat.lt_or_ge a b with h' | h'
    · exact sl_trans (h.lt hx hy h') hl
    · obtain rfl : a = b := by omega
      rw [hx] at hy; injection hy with hy; rw [hy]; exact hl
  have hs := bs_split (lt ds t) ds.length hm ds.length 0 ds.length (Nat.zero_le _) (Nat.le_refl _) (by omega) (fun m hm => absurd hm (by omega)) (fun m h1 h2 => absurd h2 (by omega))
  refine ⟨fun i x hi hx => ?_, fun i x hi hx => ?_⟩
  · have := hs.1 i hi; unfold lt at this; rwa [getD_of hx] at this
  · have := hs.2 i hi (List.getElem?_eq_some_iff.1 hx).1; unfold lt at this; rwa [getD_of hx] at this
theorem pref_split {ds : List ByteArray} (h : Srt ds) (t : ByteArray) : ∀ i x, ds[i]? = some x → hp x t = (decide (ixOf ds t ≤ i) && decide (i < ixOf ds t + endsAt ds t (ixOf ds t))) := by
  obtain ⟨h1, h2⟩ := ix_split h t
  generalize hf : ixOf ds t = f at *
  have hfl : f ≤ ds.length := by rw [← hf]; exact ixOf_le ds t
  have hm : ∀ a b, a ≤ b → b < ds.length - f → (fun i => hp (ds.getD (f + i) ⟨#[]⟩) t) b = true → (fun i => hp (ds.getD (f + i) ⟨#[]⟩) t) a = true := by
    intro a b hab hb hl
    obtain ⟨x, hx⟩ := some_at (ds := ds) (i := f + a) (by omega)
    obtain ⟨y, hy⟩ := some_at (ds := ds) (i := f + b) (by omega)
    simp only at *
    rw [getD_of hy] at hl
    rw [getD_of hx]
    rcases Nat.lt_or_ge a b with h' | h'
    · exact hp_mid (h2 _ _ (by omega) hx) (sl_asymm (h.lt hx hy (by omega))) hl
    · obtain rfl : a = b := by omega
      rw [hx] at hy; injection hy with hy; rw [hy]; exact hl
  have hs := bs_split (fun i => hp (ds.getD (f + i) ⟨#[]⟩) t) (ds.length - f) hm (ds.length - f) 0 (ds.length - f) (Nat.zero_le _) (Nat.le_refl _) (by omega) (fun m hm => absurd hm (by omega)) (fun m h1 h2 => absurd h2 (by omega))
  intro i x hx
  have hil := (List.getElem?_eq_some_iff.1 hx).1
  by_cases hi : f ≤ i
  · have e0 : f + (i - f) = i := by omega
    by_cases hi2 : i < f + endsAt ds t f
    · have := hs.1 (i - f) (by unfold endsAt at hi2; omega)
      simp only [e0, getD_of hx] at this
      simp [hi, hi2, this]
    · have := hs.2 (i - f) (by unfold endsAt at hi2; omega) (by omega)
      simp only [e0, getD_of hx] at this
      simp [hi2, this]
  · have : hp x t = false := by
      cases hh : hp x t with
      | false => rfl
      | true => have h3 := hp_ge hh; rw [h1 i x (by omega) hx] at h3; cases h3
    simp [hi, this]
theorem pref_same {ds : List ByteArray} (h : Srt ds) (t : ByteArray) (k : Nat) (h1 : ixOf ds t ≤ k) (h2 : k ≤ ds.length) (h3 : ∀ i x, ixOf ds t ≤ i → i < k → ds[i]? = some x → hp x t = true) (h4 : ∀ x, ds[k]? = some x → hp x t = false) : k = ixOf ds t + endsAt ds t (ixOf ds t) := by
  have hs := pref_split h t
  have he := endsAt_le ds t (ixOf ds t)
  have hi := ixOf_le ds t
  rcases Nat.lt_trichotomy k (ixOf ds t + endsAt ds t (ixOf ds t)) with hk | hk | hk
  · obtain ⟨x, hx⟩ := some_at (ds := ds) (i := k) (by omega)
    have := hs k x hx
    rw [h4 x hx] at this
    simp [h1, hk] at this
  · exact hk
  · obtain ⟨x, hx⟩ := some_at (ds := ds) (i := ixOf ds t + endsAt ds t (ixOf ds t)) (by omega)
    have := hs _ x hx
    rw [h3 _ x (by omega) (by omega) hx] at this
    simp at this
theorem found_iff {ds : List ByteArray} (h : Srt ds) (t : ByteArray) : found ds t = true ↔ t ∈ ds := by
  have hs := ix_split h t
  constructor
  · intro hf
    unfold found at hf
    exact List.mem_of_getElem? (of_decide_eq_true hf)
  · intro hm
    obtain ⟨i, hi⟩ := List.mem_iff_getElem?.1 hm
    have h1 : ¬ i < ixOf ds t := fun hlt => by have := hs.1 i t hlt hi; rw [sl_irrefl] at this; cases this
    have h2 : ¬ ixOf ds t < i := fun hlt => by
      obtain ⟨x, hx⟩ := some_at (ds := ds) (i := ixOf ds t) (by have := (List.getElem?_eq_some_iff.1 hi).1; omega)
      have h3 := h.lt hx hi hlt
      rw [hs.2 _ x (Nat.le_refl _) hx] at h3
      cases h3
    have h4 : ixOf ds t = i := by omega
    unfold found
    rw [h4, hi]
    simp
end Go.Proofs.YtpaiideboodaeaaGreatDoor

namespace Go.Proofs.YtpaiideboodaeaaGreatDoor
open Go.RowKit
set_option linter.unusedVariables false
set_option linter.unusedSimpArgs false

/-- words are short -/
theorem wst_sz : ∀ (n : Nat) (cs : List Int), cs.length ≤ n → ∀ x ∈ (wst cs).2, x.size ≤ 40 := by
  have fl : ∀ (cur : List Int) (out : List ByteArray), (∀ x ∈ out, x.size ≤ 40) → ∀ x ∈ flushW cur out, x.size ≤ 40 := fun cur out h x hx => by
    unfold flushW at hx
    split at hx
    · rename_i hc
      rcases List.mem_append.1 hx with hx | hx
      · exact h x hx
      · rw [List.mem_singleton] at hx
        subst hx
        have : (strOfNums cur).size = cur.length := by simp [strOfNums, ByteArray.size]
        omega
    · exact h x hx
  intro n
  induction n with
  | zero => intro cs h x hx; have : cs = [] := List.eq_nil_of_length_eq_zero (by omega); subst this; simp [wst] at hx
  | succ n ih =>
    intro cs h
    rcases List.eq_nil_or_concat cs with rfl | ⟨l, c, rfl⟩
    · intro x hx; simp [wst] at hx
    · have e : l.concat c = l ++ [c] := List.concat_eq_append
      rw [e] at h ⊢
      rw [wst_snoc]
      have h1 := ih l (by simp at h; omega)
      unfold stepW
      cases lowI c with
      | some d => exact h1
      | none => exact fl _ _ h1
theorem rawW_sz (cs : List Int) : ∀ x ∈ rawW cs, x.size ≤ 40 := by
  intro x hx
  have h := wst_sz cs.length cs (Nat.le_refl _)
  unfold rawW flushW at hx
  split at hx
  · rename_i hc
    rcases List.mem_append.1 hx with hx | hx
    · exact h x hx
    · rw [List.mem_singleton] at hx
      subst hx
      have : (strOfNums (wst cs).1).size = (wst cs).1.length := by simp [strOfNums, ByteArray.size]
      omega
  · exact h x hx
end Go.Proofs.YtpaiideboodaeaaGreatDoor
