/- group.one: the partial of one event (printed by mkone.py). Condition: sizes. -/
import Derived.Test.YtfkgcighooijhaaGreatDoorJOneI
namespace Go.Proofs.YtfkgcighooijhaaGreatDoor
open Go.RowKit
set_option linter.unusedVariables false
set_option linter.unusedSimpArgs false

set_option maxHeartbeats 16000000 in
set_option maxRecDepth 100000 in
theorem one_any {S T U : Nat → Prop} (A : Option Addr) (names : List ByteArray) (c : Nat) (Aa : Option Addr) (ags : List AggD) (ca : Nat) (e : Ev) (w : World) (ha : Rd T w A (names.map .string)) (hl : names.length ≤ 1000000) (hnm : ∀ n ∈ names, n.size ≤ 1000)
    (hag : Rd U w Aa (ags.flatMap AggD.cells)) (hal : ags.length ≤ 1000) (hok : ∀ a ∈ ags, AggOk a) (hs : e.Sub S w) (hi : EvV e) (ht : Pow10 w) :
    Calls Tryz.prog 28 #[.slice A names.length c, .slice Aa ags.length ca, .agg e.cells.toArray] w (PartP w (oneP names ags e)) := by
  have HK : Hid (∀ w', w.grownBy w' none → Calls Tryz.prog 16 #[.slice A names.length c, .agg e.cells.toArray] w' (StrsP w' (keyOf_ names e))) := fun w' hg => key_any A names c e w' (ha.grown hg (by simp)) hl hnm (hs.grown hg (by simp)) hi.1 (ht.grown hg)
  have HAG := Lib.hid hag
  have HOK := Lib.hid hok
  have HP : Hid (oneP names ags e = ⟨keyOf_ names e, ags.map (fun a => oneC a e)⟩) := Lib.hid rfl
  have HZE : Hid (∀ a : AggD, (a.kind = 0 → oneC a e = ⟨e.weight, true, []⟩) ∧ (a.kind = 1 → oneC a e = numC (fun n => wrap64 (n * e.weight)) (numOf e a.field)) ∧ (a.kind = 2 ∨ a.kind = 3 → oneC a e = numC (fun n => n) (numOf e a.field)) ∧ (a.kind = 4 → oneC a e = valC (valOf e a.field))) := Lib.hid (fun a => ⟨oneC0, oneC1, oneC2, oneC4⟩)
  have HCE : Hid (∀ (f : ByteArray) (w' : World), Calls Tryz.prog 67 #[.string f, .agg e.cells.toArray] w' (CellP w' ⟨e.weight, true, []⟩)) := Lib.hid (fun f w' => count_any f e w')
  have HNE : Hid (∀ (g : FuncId) (hh : Int → Int) (f : ByteArray) (b : Nat) (w' : World), w.grownBy w' none → f.size ≤ maxLen → (∀ (args : Array Value) (w : World), (callFunc g args).run Tryz.prog w = .ok (.enter g args) w) → (∀ n w', Calls Tryz.prog g #[.int .i64 n, .agg e.cells.toArray] w' (IntG (hh n) w')) → FnAt w' b g → Calls Tryz.prog 89 #[.string f, .agg e.cells.toArray, .pointer (some ⟨b, 0, none⟩)] w' (CellP w' (numC hh (numOf e f)))) := Lib.hid (fun g hh f b w' hg hf eg hgc hF => numd_any g hh f e b w' eg hgc hF.1 (hs.grown hg (by simp)) hi hf (ht.grown hg))
  have HDE : Hid (∀ (f : ByteArray) (w' : World), w.grownBy w' none → f.size ≤ maxLen → Calls Tryz.prog 73 #[.string f, .agg e.cells.toArray] w' (CellP w' (valC (valOf e f)))) := Lib.hid (fun f w' hg hf => dis_any f e w' (hs.grown hg (by simp)) hi.1 hf (ht.grown hg))
  have HG1 : Hid (∀ n w', Calls Tryz.prog 65 #[.int .i64 n, .agg e.cells.toArray] w' (IntG n w')) := Lib.hid (fun n w' => k1_any n e w')
  have HG2 : Hid (∀ n w', Calls Tryz.prog 66 #[.int .i64 n, .agg e.cells.toArray] w' (IntG (wrap64 (n * e.weight)) w')) := Lib.hid (fun n w' => k2_any n e w')
  have Ec := Lib.hid (fn_enter Tryz.func67 (by kernel_rfl) (by kernel_rfl))
  have En := Lib.hid (fn_enter Tryz.func89 (by kernel_rfl) (by kernel_rfl))
  have Ed := Lib.hid (fn_enter Tryz.func73 (by kernel_rfl) (by kernel_rfl))
  have Ek1 := Lib.hid (fn_enter Tryz.func65 (by kernel_rfl) (by kernel_rfl))
  have Ek2 := Lib.hid (fn_enter Tryz.func66 (by kernel_rfl) (by kernel_rfl))
  obtain ⟨ks, hks⟩ : ∃ ks, ks = keyOf_ names e := ⟨_, rfl⟩
  obtain ⟨oc, hoc⟩ : ∃ oc : AggD → CD, oc = fun a => oneC a e := ⟨_, rfl⟩
  obtain ⟨z, hz⟩ : ∃ z, z = oneP names ags e := ⟨_, rfl⟩
  have HOC : Hid (∀ a, oneC a e = oc a) := Lib.hid (fun a => by rw [hoc])
  rw [← hks] at HK HP
  rw [← hz] at HP ⊢
  rw [← hoc] at HP
  have HNZ := Lib.hid hnm
  obtain ⟨numE, hnumE⟩ : ∃ f, f = numOf e := ⟨_, rfl⟩
  obtain ⟨valE, hvalE⟩ : ∃ f, f = valOf e := ⟨_, rfl⟩
  have HZ := Lib.hid (fun a => (⟨fun h => ((HOC.out a).symm.trans ((HZE.out a).1 h)), fun h => ((HOC.out a).symm.trans ((HZE.out a).2.1 h)), fun h => ((HOC.out a).symm.trans ((HZE.out a).2.2.1 h)), fun h => ((HOC.out a).symm.trans ((HZE.out a).2.2.2 h))⟩ : (a.kind = 0 → oc a = ⟨e.weight, true, []⟩) ∧ (a.kind = 1 → oc a = numC (fun n => wrap64 (n * e.weight)) (numOf e a.field)) ∧ (a.kind = 2 ∨ a.kind = 3 → oc a = numC (fun n => n) (numOf e a.field)) ∧ (a.kind = 4 → oc a = valC (valOf e a.field))))
  rw [← hnumE] at HZ HNE
  rw [← hvalE] at HZ HDE
  clear hks hoc hz HOC HZE ha hag hok hs hi ht hnm hnumE hvalE
  obtain ⟨host, file, beg, fin, lines, time, weight, trace, stream, fields, la, lc, fa, fc⟩ := e
  have hcl : (Ev.mk host file beg fin lines time weight trace stream fields la lc fa fc).cells.toArray = #[.int .i64 host, .int .i64 file, .int .i64 beg, .int .i64 fin, .slice la lines.length lc, .int .i64 time, .int .i64 weight, .string trace, .string stream, .slice fa fields.length fc] := rfl
  rw [hcl] at HK HCE HNE HDE HG1 HG2 ⊢
  clear hcl
  simp only at HCE HG2 HZ
  go_enter Tryz.func28, Tryz.ntmps28
  go_upto_region 1 with fail
  obtain ⟨WA, hWA⟩ : ∃ W, W = (w.alloc (.cells #[.int .i64 host, .int .i64 file, .int .i64 beg, .int .i64 fin, .slice la lines.length lc, .int .i64 time, .int .i64 weight, .string trace, .string stream, .slice fa fields.length fc] 35)).alloc (.cells #[.slice none 0 0, .slice none 0 0, .slice none 0 0, .slice none 0 0] 69) := ⟨_, rfl⟩
  have hE : Blk WA w.heap.size 35 #[.int .i64 host, .int .i64 file, .int .i64 beg, .int .i64 fin, .slice la lines.length lc, .int .i64 time, .int .i64 weight, .string trace, .string stream, .slice fa fields.length fc] := by rw [hWA]; exact (Blk.new w _ _).alloc _
  have hR : Blk WA (w.heap.size + 1) 69 #[.slice none 0 0, .slice none 0 0, .slice none 0 0, .slice none 0 0] := by
    rw [hWA]
    have := Blk.new (w.alloc (.cells #[.int .i64 host, .int .i64 file, .int .i64 beg, .int .i64 fin, .slice la lines.length lc, .int .i64 time, .int .i64 weight, .string trace, .string stream, .slice fa fields.length fc] 35)) 69 #[.slice none 0 0, .slice none 0 0, .slice none 0 0, .slice none 0 0]
    simpa using this
  have GA : Hid (w.grownBy WA none) := Lib.hid (by rw [hWA]; exact only_alloc (only_alloc (only_refl w none) _) _)
  rw [← hWA]
  have e0 := hE.cell 0; have e1 := hE.cell 1; have e2 := hE.cell 2; have e3 := hE.cell 3; have e4 := hE.cell 4; have e5 := hE.cell 5; have e6 := hE.cell 6; have e7 := hE.cell 7; have e8 := hE.cell 8; have e9 := hE.cell 9
  simp at e0 e1 e2 e3 e4 e5 e6 e7 e8 e9
  obtain ⟨eb, hebd⟩ : ∃ eb, eb = w.heap.size := ⟨_, rfl⟩
  have HEB := Lib.hid hebd
  rw [← hebd] at e0 e1 e2 e3 e4 e5 e6 e7 e8 e9 hE hR ⊢
  have heb0 : eb < WA.heap.size := hE.lt
  have hrb0 : eb + 1 < WA.heap.size := hR.lt
  have BE := Lib.hid hE
  have BR := Lib.hid hR
  clear hWA hE hR hebd
  go_wp2_with fail
  refine (HK.out WA GA.out).mono ?_
  rintro en w1 ⟨AK, cK, rfl, hk1, hk2, hk3, hg1⟩
  have B1 := Lib.hid (BE.out.grown hg1 (by simp))
  have R1 := Lib.hid (BR.out.grown hg1 (by simp))
  have G1 := Lib.hid (only_trans GA.out hg1)
  have KI : Hid ((StrR.mk ks AK cK).In (WA.heap.size ≤ ·) w1) := Lib.hid (strR_of (rd_ownG hk3) hk1 hk2)
  have GA1 := Lib.hid hg1
  have hz1 := hg1.size
  clear hk1 hk2 hk3 hg1 BE BR G1 e0 e1 e2 e3 e4 e5 e6 e7 e8 e9 HK
  go_upto_region 2 with fail
  obtain ⟨pb, hpbd⟩ : ∃ pb, pb = w1.heap.size := ⟨_, rfl⟩
  obtain ⟨W0, hW0⟩ : ∃ W, W = w1.alloc (.cells #[.slice AK ks.length cK, .slice none 0 0, .slice none 0 0, .slice none 0 0] 69) := ⟨_, rfl⟩
  have hBP : Blk W0 pb 69 #[.slice AK ks.length cK, .slice none 0 0, .slice none 0 0, .slice none 0 0] := by rw [hW0, hpbd]; exact Blk.new _ _ _
  have hg0 : w1.grownBy W0 none := by rw [hW0]; exact only_alloc (only_refl _ _) _
  have hpe : eb + 1 < pb := by omega
  have M0 : Hid (MkI WA W0 pb ⟨ks, AK, cK⟩ [] (.slice none 0 0) (.slice none 0 0) (.slice none 0 0)) := Lib.hid ⟨⟨hBP, World.ownsRow_nil _ _ _ _, World.ownsRow_nil _ _ _ _, World.ownsRow_nil _ _ _ _⟩,
    (KI.out.mono (S' := fun b => WA.heap.size ≤ b ∧ b < pb) (fun b hb hlt => ⟨hb, by omega⟩)).grown hg0 (by simp) |>.mono (fun b hb _ => ⟨hb.1, by rintro (h | h | h | h); omega; all_goals simp [Value.ownBlock] at h⟩), by simp, only_trans GA1.out hg0, by omega⟩
  have B2 := Lib.hid (B1.out.grown hg0 (by simp))
  have R2 := Lib.hid (R1.out.grown hg0 (by simp))
  rw [← hpbd, ← hW0]
  clear hpbd hW0 hBP hg0 B1 R1 GA1 KI
  go_wp2_with fail
  go_loopw [17] (fun i wr => ∃ (k : Nat) (cs : List CM) (vT vS vV : Value), i = .int .i64 k ∧ k ≤ ags.length ∧ cs.map CM.pl = (ags.take k).map oc ∧ MkI WA wr pb ⟨ks, AK, cK⟩ cs vT vS vV ∧ Blk wr eb 35 #[.int .i64 host, .int .i64 file, .int .i64 beg, .int .i64 fin, .slice la lines.length lc, .int .i64 time, .int .i64 weight, .string trace, .string stream, .slice fa fields.length fc] ∧ Blk wr (eb + 1) 69 #[.slice none 0 0, .slice none 0 0, .slice none 0 0, .slice none 0 0]) (fun i _ => ags.length - (intOf i).toNat)
  case atStart => exact ⟨0, [], _, _, _, rfl, Nat.zero_le _, rfl, M0.out, B2.out, R2.out⟩
  case round =>
    obtain ⟨k, cs, vT, vS, vV, rfl, hk, hcs, hM, hBE, hBR⟩ := hrel
    clear M0 B2 R2
    have HCS := Lib.hid hcs
    have M := Lib.hid hM
    have BE := Lib.hid hBE
    have BR := Lib.hid hBR
    have hcl : cs.length ≤ 1000 := by
      have := congrArg List.length hcs
      rw [List.length_map, List.length_map, List.length_take] at this
      omega
    have hebw := hBE.lt
    clear hcs hM hBE hBR
    by_cases hlt : k < ags.length
    · obtain ⟨y, hy⟩ : ∃ y, ags[k]? = some y := ⟨_, List.getElem?_eq_getElem hlt⟩
      obtain ⟨b0, o0, rfl, hbw, g0, g1⟩ := agg_in (HAG.out.grown (only_trans GA.out M.out.gr) (by simp)) hy
      have hyok := HOK.out y (List.mem_of_getElem? hy)
      have HNX : Hid ((ags.take (k + 1)).map oc = (ags.take k).map oc ++ [oc y]) := Lib.hid (by
        rw [List.take_succ_eq_append_getElem hlt]
        rw [List.getElem?_eq_getElem hlt] at hy
        injection hy with hy
        rw [hy]; simp)
      have HZY := Lib.hid (HZ.out y)
      obtain ⟨CZ, hCZ⟩ : ∃ cz, cz = oc y := ⟨_, rfl⟩
      rw [← hCZ] at HNX HZY
      obtain ⟨kd, fld⟩ := y
      obtain ⟨hk0, hk4, hfs⟩ := hyok
      simp only at hk0 hk4 hfs g0 g1 HZY
      have hfm : fld.size ≤ maxLen := by unfold maxLen; omega
      have KN : Hid (∀ w', Calls Tryz.prog 49 #[.agg #[.int .i64 kd, .string fld]] w' (fun e w'' => e = .returned (.bool true) ∧ w'.grownBy w'' none)) := Lib.hid (fun w' => known_any ⟨kd, fld⟩ w' ⟨hk0, hk4⟩)
      have HC0 : Hid (∀ w', Calls Tryz.prog 67 #[.string fld, .agg #[.int .i64 host, .int .i64 file, .int .i64 beg, .int .i64 fin, .slice la lines.length lc, .int .i64 time, .int .i64 weight, .string trace, .string stream, .slice fa fields.length fc]] w' (CellP w' ⟨weight, true, []⟩)) := Lib.hid (fun w' => HCE.out fld w')
      have HFM := Lib.hid hfm
      have i1 : (k : Int) < (ags.length : Int) := by omega
      clear hy hCZ hfm
      go_upto_region 6 with fail
      obtain ⟨ab, habd⟩ : ∃ ab, ab = wr.heap.size := ⟨_, rfl⟩
      obtain ⟨WB, hWB⟩ : ∃ W, W = (wr.alloc (.cells #[.int .i64 kd, .string fld] 42)).alloc (.cells #[.int .i64 0, .bool false, .slice none 0 0] 91) := ⟨_, rfl⟩
      have hAB : Blk WB ab 42 #[.int .i64 kd, .string fld] := by rw [hWB, habd]; exact (Blk.new wr _ _).alloc _
      have hCB : Blk WB (ab + 1) 91 #[.int .i64 0, .bool false, .slice none 0 0] := by
        rw [hWB, habd]
        have := Blk.new (wr.alloc (.cells #[.int .i64 kd, .string fld] 42)) 91 #[.int .i64 0, .bool false, .slice none 0 0]
        simpa using this
      have hGB : wr.grownBy WB none := by rw [hWB]; exact only_alloc (only_alloc (only_refl wr none) _) _
      have a0 := hAB.cell 0
      have a1 := hAB.cell 1
      simp at a0 a1
      have HAB := Lib.hid habd
      rw [← hWB, ← habd]
      clear hWB habd
      go_wp2_with fail
      refine (KN.out _).mono ?_
      rintro en W ⟨rfl, hgk⟩
      have GW : Hid (wr.grownBy W none) := Lib.hid (only_trans hGB hgk)
      have GWW : Hid (w.grownBy W none) := Lib.hid (only_trans GA.out (only_trans M.out.gr GW.out))
      have hA2 := hAB.grown hgk (by simp)
      have CBK := Lib.hid (hCB.grown hgk (by simp))
      clear a0 a1 hAB hCB hGB hgk
      have a0 := hA2.cell 0
      have a1 := hA2.cell 1
      simp at a0 a1
      have hab : ab < W.heap.size := hA2.lt
      have hcb : ab + 1 < W.heap.size := CBK.out.lt
      have M1 := Lib.hid (M.out.ext GW.out)
      have BE0 := Lib.hid (BE.out.grown GW.out (by simp))
      have BR0 := Lib.hid (BR.out.grown GW.out (by simp))
      clear BE BR hA2
      have BE := BE0
      have BR := BR0
      clear BE0 BR0
      have heb : eb < W.heap.size := BE.out.lt
      have HC1 : Hid (∀ (b : Nat) (w' : World), W.grownBy w' none → FnAt w' b 66 → Calls Tryz.prog 89 #[.string fld, .agg #[.int .i64 host, .int .i64 file, .int .i64 beg, .int .i64 fin, .slice la lines.length lc, .int .i64 time, .int .i64 weight, .string trace, .string stream, .slice fa fields.length fc], .pointer (some ⟨b, 0, none⟩)] w' (CellP w' (numC (fun n => wrap64 (n * weight)) (numE fld)))) := Lib.hid (fun b w' hg hF => HNE.out _ _ fld b w' (only_trans GWW.out hg) HFM.out Ek2.out HG2.out hF)
      have HC2 : Hid (∀ (b : Nat) (w' : World), W.grownBy w' none → FnAt w' b 65 → Calls Tryz.prog 89 #[.string fld, .agg #[.int .i64 host, .int .i64 file, .int .i64 beg, .int .i64 fin, .slice la lines.length lc, .int .i64 time, .int .i64 weight, .string trace, .string stream, .slice fa fields.length fc], .pointer (some ⟨b, 0, none⟩)] w' (CellP w' (numC (fun n => n) (numE fld)))) := Lib.hid (fun b w' hg hF => HNE.out _ _ fld b w' (only_trans GWW.out hg) HFM.out Ek1.out HG1.out hF)
      have HC4 : Hid (∀ (w' : World), W.grownBy w' none → Calls Tryz.prog 73 #[.string fld, .agg #[.int .i64 host, .int .i64 file, .int .i64 beg, .int .i64 fin, .slice la lines.length lc, .int .i64 time, .int .i64 weight, .string trace, .string stream, .slice fa fields.length fc]] w' (CellP w' (valC (valE fld)))) := Lib.hid (fun w' hg => HDE.out fld w' (only_trans GWW.out hg) HFM.out)
      have HZ0 := Lib.hid HZY.out.1
      have HZ1 := Lib.hid HZY.out.2.1
      have HZ2 := Lib.hid HZY.out.2.2.1
      have HZ4 := Lib.hid HZY.out.2.2.2
      clear HZY HNE HDE HCE HG1 HG2 g0 g1
      go_upto_region 7 with fail
      refine wp_region_gen 9 (JC [none, some (.pointer (some ⟨ab, 0, none⟩)), some (.int .i64 (kd)), none, none, some (.pointer (some ⟨ab, 1, none⟩)), some (.string (fld)), some (.agg #[.int .i64 host, .int .i64 file, .int .i64 beg, .int .i64 fin, .slice la lines.length lc, .int .i64 time, .int .i64 weight, .string trace, .string stream, .slice fa fields.length fc]), none] (fun D u w => W.grownBy w none ∧ (D 0 = true → KinV w (u 0)) ∧ (D 3 = true → EntAt kd w (u 3)) ∧ (D 4 = true → OfAt kd w (u 4)) ∧ (D 8 = true → CVal (W.heap.size ≤ ·) CZ w (u 8)))) (by kernel_rfl) (by kernel_rfl) ?_ ?_ ?_
      · intro u
        exact ⟨(fun j c _ h => by cases h), only_drew (only_refl _ _), (fun h => by cases h), (fun h => by cases h), (fun h => by cases h), (fun h => by cases h)⟩
      · intro AA hA
        have hasz : AA.tmps.size = 37 := by rw [hA]; kernel_rfl
        have ea9 : AA.eval (.tmp 9) = .pointer (some ⟨ab, 0, none⟩) := by rw [hA]; kernel_rfl
        have ea5 : AA.eval (.tmp 5) = .pointer (some ⟨eb, 0, none⟩) := by rw [hA]; kernel_rfl
        clear hA
        simp only [List.take_succ_cons, List.take_zero]
        refine .cons ?_ (.cons ?_ (.cons ?_ (.cons ?_ (.cons ?_ (.cons ?_ (.cons ?_ (.cons ?_ (.cons ?_ (.nil)))))))))
        · refine gd_call (by kernel_rfl) (Want.none_ rfl) 50 (fun D u ρ w kn hD => ?_)
          refine ⟨#[], ?_, (kinds_any w).mono ?_⟩
          · simp only [execOp, resolve, Deferred.ofValue, List.map_toArray, List.map_cons, List.map_nil, kn.rho.con, kn.rho.fn]
            simp [go_sem]
          · rintro e w' h
            have h2 := h
            obtain ⟨b0, b1, b2, b3, b4, b5, b6, rfl, hr⟩ := h
            have hg : w.grownBy w' none := hr.2.2.2.2.2.2.2
            obtain ⟨x1, x2, x3, x4, x5⟩ := kn.ext
            exact ⟨_, rfl, (fun c h => by injection h with h; cases h), only_trans x1 hg, fun _ => by rw [upd_at]; exact ⟨_, w, rfl, h2⟩, fun h => by rw [updB_ne D (by omega)] at h; rw [upd_ne u _ (by omega)]; exact (x3 h).grown hg, fun h => by rw [updB_ne D (by omega)] at h; rw [upd_ne u _ (by omega)]; exact (x4 h).grown hg, fun h => by rw [updB_ne D (by omega)] at h; rw [upd_ne u _ (by omega)]; exact (x5 h).grown hg⟩
        · exact gd_gen (by kernel_rfl) (Want.none_ rfl) rfl (fun D u w v h => by simpa [updB, upd] using h) (fun D u ρ w kn => by
            have e0 := kn.own 9 (c := .pointer (some ⟨ab, 0, none⟩)) (by kernel_rfl) ea9
            simp [execOp, kn.rho.con, e0, go_sem])
        · exact gd_gen (by kernel_rfl) (Want.none_ rfl) rfl (fun D u w v h => by simpa [updB, upd] using h) (fun D u ρ w kn => by
            have e0 := kn.con 1 25 (c := .pointer (some ⟨ab, 0, none⟩)) (by kernel_rfl) (by omega) (by kernel_rfl) rfl
            have f0 := (cellG kn.ext.1 hab).trans a0
            simp [execOp, kn.rho.con, e0, f0, go_sem])
        · refine gd_eff (by kernel_rfl) (Want.none_ rfl) (fun D u ρ w kn hD => ?_)
          have e0 := kn.slot 0 24 (by kernel_rfl) (by omega)
          have e1 := kn.con 2 26 (c := .int .i64 kd) (by kernel_rfl) (by omega) (by kernel_rfl) rfl
          have d0 := kn.dep 0 (by kernel_rfl)
          obtain ⟨x1, x2, x3, x4, x5⟩ := kn.ext
          obtain ⟨y, hy, hE⟩ := (x2 d0).ix hk0 hk4
          refine ⟨y, w, by simp only [execOp, e0, e1, Sem.run_bind, hy, Result.andThen_ok, Sem.run_pure], (fun c h => by injection h with h; cases h), x1, fun h => by rw [upd_ne u _ (by omega)]; exact x2 d0, fun _ => by rw [upd_at]; exact hE, fun h => by rw [updB_ne D (by omega)] at h; rw [upd_ne u _ (by omega)]; exact x4 h, fun h => by rw [updB_ne D (by omega)] at h; rw [upd_ne u _ (by omega)]; exact x5 h⟩
        · refine gd_eff (by kernel_rfl) (Want.none_ rfl) (fun D u ρ w kn hD => ?_)
          have e0 := kn.slot 3 27 (by kernel_rfl) (by omega)
          have d0 := kn.dep 3 (by kernel_rfl)
          obtain ⟨x1, x2, x3, x4, x5⟩ := kn.ext
          obtain ⟨p, q, hp, hO, hM⟩ := x3 d0
          refine ⟨p, w, by rw [hp] at e0; simp only [execOp, e0, Sem.run_bind, kind_f0, Result.andThen_ok, Sem.run_pure], (fun c h => by injection h with h; cases h), x1, fun h => by rw [updB_ne D (by omega)] at h; rw [upd_ne u _ (by omega)]; exact x2 h, fun h => by rw [upd_ne u _ (by omega)]; exact x3 d0, fun _ => by rw [upd_at]; exact hO, fun h => by rw [updB_ne D (by omega)] at h; rw [upd_ne u _ (by omega)]; exact x5 h⟩
        · exact gd_gen (by kernel_rfl) (Want.none_ rfl) rfl (fun D u w v h => by simpa [updB, upd] using h) (fun D u ρ w kn => by
            have e0 := kn.own 9 (c := .pointer (some ⟨ab, 0, none⟩)) (by kernel_rfl) ea9
            simp [execOp, kn.rho.con, e0, go_sem])
        · exact gd_gen (by kernel_rfl) (Want.none_ rfl) rfl (fun D u w v h => by simpa [updB, upd] using h) (fun D u ρ w kn => by
            have e0 := kn.con 5 29 (c := .pointer (some ⟨ab, 1, none⟩)) (by kernel_rfl) (by omega) (by kernel_rfl) rfl
            have f0 := (cellG kn.ext.1 hab).trans a1
            simp [execOp, kn.rho.con, e0, f0, go_sem])
        · exact gd_gen (by kernel_rfl) (Want.none_ rfl) rfl (fun D u w v h => by simpa [updB, upd] using h) (fun D u ρ w kn => by
            have e0 := kn.own 5 (c := .pointer (some ⟨eb, 0, none⟩)) (by kernel_rfl) ea5
            exact run_load ρ w rfl e0 (load_ev w eb host file beg fin time weight trace stream la fa lines.length lc fields.length fc (BE.out.grown kn.ext.1 (by simp))))
        · refine gd_callE (by kernel_rfl) (Want.none_ rfl) (fun D u ρ w kn hD => ?_)
          have e0 := kn.slot 4 28 (by kernel_rfl) (by omega)
          have e1 := kn.con 6 30 (c := .string fld) (by kernel_rfl) (by omega) (by kernel_rfl) rfl
          have e2 := kn.con 7 31 (c := .agg #[.int .i64 host, .int .i64 file, .int .i64 beg, .int .i64 fin, .slice la lines.length lc, .int .i64 time, .int .i64 weight, .string trace, .string stream, .slice fa fields.length fc]) (by kernel_rfl) (by omega) (by kernel_rfl) rfl
          have d0 := kn.dep 4 (by kernel_rfl)
          obtain ⟨x1, x2, x3, x4, x5⟩ := kn.ext
          rcases x4 d0 with ⟨hk, hv⟩ | ⟨hk, b, hv, hF⟩ | ⟨hk, b, hv, hF⟩ | ⟨hk, hv⟩
          · rw [hv] at e0
            refine ⟨67, #[.string fld, .agg #[.int .i64 host, .int .i64 file, .int .i64 beg, .int .i64 fin, .slice la lines.length lc, .int .i64 time, .int .i64 weight, .string trace, .string stream, .slice fa fields.length fc]], ?_, (HC0.out w).mono ?_⟩
            · simp only [execOp, resolve, Deferred.ofValue, List.map_toArray, List.map_cons, List.map_nil, e0, e1, e2, kn.rho.con, kn.rho.fn]
              simp [go_sem, fn0, fnC, Ec.out]
            · rintro e w' ⟨x, rfl, hx1, hx2, hg⟩
              exact ⟨_, rfl, (fun c h => by injection h with h; cases h), only_trans x1 hg, fun h => by rw [updB_ne D (by omega)] at h; rw [upd_ne u _ (by omega)]; exact (x2 h).grown hg, fun h => by rw [updB_ne D (by omega)] at h; rw [upd_ne u _ (by omega)]; exact (x3 h).grown hg, fun h => by rw [upd_ne u _ (by omega)]; exact (x4 d0).grown hg, fun _ => by rw [upd_at]; exact ⟨x, rfl, by rw [hx1]; exact ((HZ0.out hk).symm), hx2.mono (fun b hb _ => Nat.le_trans x1.size hb)⟩⟩
          · rw [hv] at e0
            refine ⟨89, #[.string fld, .agg #[.int .i64 host, .int .i64 file, .int .i64 beg, .int .i64 fin, .slice la lines.length lc, .int .i64 time, .int .i64 weight, .string trace, .string stream, .slice fa fields.length fc], .pointer (some ⟨b, 0, none⟩)], ?_, (HC1.out b w x1 hF).mono ?_⟩
            · simp only [execOp, resolve, Deferred.ofValue, List.map_toArray, List.map_cons, List.map_nil, e0, e1, e2, kn.rho.con, kn.rho.fn]
              simp [go_sem, fn0, fnC, En.out]
            · rintro e w' ⟨x, rfl, hx1, hx2, hg⟩
              exact ⟨_, rfl, (fun c h => by injection h with h; cases h), only_trans x1 hg, fun h => by rw [updB_ne D (by omega)] at h; rw [upd_ne u _ (by omega)]; exact (x2 h).grown hg, fun h => by rw [updB_ne D (by omega)] at h; rw [upd_ne u _ (by omega)]; exact (x3 h).grown hg, fun h => by rw [upd_ne u _ (by omega)]; exact (x4 d0).grown hg, fun _ => by rw [upd_at]; exact ⟨x, rfl, by rw [hx1]; exact ((HZ1.out hk).symm), hx2.mono (fun b hb _ => Nat.le_trans x1.size hb)⟩⟩
          · rw [hv] at e0
            refine ⟨89, #[.string fld, .agg #[.int .i64 host, .int .i64 file, .int .i64 beg, .int .i64 fin, .slice la lines.length lc, .int .i64 time, .int .i64 weight, .string trace, .string stream, .slice fa fields.length fc], .pointer (some ⟨b, 0, none⟩)], ?_, (HC2.out b w x1 hF).mono ?_⟩
            · simp only [execOp, resolve, Deferred.ofValue, List.map_toArray, List.map_cons, List.map_nil, e0, e1, e2, kn.rho.con, kn.rho.fn]
              simp [go_sem, fn0, fnC, En.out]
            · rintro e w' ⟨x, rfl, hx1, hx2, hg⟩
              exact ⟨_, rfl, (fun c h => by injection h with h; cases h), only_trans x1 hg, fun h => by rw [updB_ne D (by omega)] at h; rw [upd_ne u _ (by omega)]; exact (x2 h).grown hg, fun h => by rw [updB_ne D (by omega)] at h; rw [upd_ne u _ (by omega)]; exact (x3 h).grown hg, fun h => by rw [upd_ne u _ (by omega)]; exact (x4 d0).grown hg, fun _ => by rw [upd_at]; exact ⟨x, rfl, by rw [hx1]; exact ((HZ2.out hk).symm), hx2.mono (fun b hb _ => Nat.le_trans x1.size hb)⟩⟩
          · rw [hv] at e0
            refine ⟨73, #[.string fld, .agg #[.int .i64 host, .int .i64 file, .int .i64 beg, .int .i64 fin, .slice la lines.length lc, .int .i64 time, .int .i64 weight, .string trace, .string stream, .slice fa fields.length fc]], ?_, (HC4.out w x1).mono ?_⟩
            · simp only [execOp, resolve, Deferred.ofValue, List.map_toArray, List.map_cons, List.map_nil, e0, e1, e2, kn.rho.con, kn.rho.fn]
              simp [go_sem, fn0, fnC, Ed.out]
            · rintro e w' ⟨x, rfl, hx1, hx2, hg⟩
              exact ⟨_, rfl, (fun c h => by injection h with h; cases h), only_trans x1 hg, fun h => by rw [updB_ne D (by omega)] at h; rw [upd_ne u _ (by omega)]; exact (x2 h).grown hg, fun h => by rw [updB_ne D (by omega)] at h; rw [upd_ne u _ (by omega)]; exact (x3 h).grown hg, fun h => by rw [upd_ne u _ (by omega)]; exact (x4 d0).grown hg, fun _ => by rw [upd_at]; exact ⟨x, rfl, by rw [hx1]; exact ((HZ4.out hk).symm), hx2.mono (fun b hb _ => Nat.le_trans x1.size hb)⟩⟩
      · intro D u w3 hJ hD
        obtain ⟨hc, x1, -, -, -, x5⟩ := hJ
        obtain ⟨x, e8, hx1, hx2⟩ := x5 (hD 8 (by omega))
        simp only [List.take_succ_cons, List.take_zero, List.drop_succ_cons, List.drop_zero, putAll]
        rw [e8]
        have hCB3 := CBK.out.grown x1 (by simp)
        have c0 := hCB3.cell 0; have c1 := hCB3.cell 1; have c2 := hCB3.cell 2
        have f0 := hCB3.frozen 0; have f1 := hCB3.frozen 1; have f2 := hCB3.frozen 2
        simp at c0 c1 c2
        have HX1 := Lib.hid hx1
        have HX2 := Lib.hid hx2
        have X1 := Lib.hid x1
        have CB3 := Lib.hid hCB3
        clear hc x5 e8 hD hx1 hx2 x1 hCB3 a0 a1 HC0 HC1 HC2 HC4 HZ0 HZ1 HZ2 HZ4
        go_upto_region 8 with fail
        obtain ⟨W4, hW4⟩ : ∃ W, W = ((w3.setCell ⟨ab + 1, 0, none⟩ (.int .i64 x.t)).setCell ⟨ab + 1, 1, none⟩ (.bool x.s)).setCell ⟨ab + 1, 2, none⟩ (.slice x.v.a x.v.l.length x.v.c) := ⟨_, rfl⟩
        have hS : W4 = set3 w3 (ab + 1) (.int .i64 x.t) (.bool x.s) (.slice x.v.a x.v.l.length x.v.c) := hW4
        have hC4 : Blk W4 (ab + 1) 91 #[.int .i64 x.t, .bool x.s, .slice x.v.a x.v.l.length x.v.c] := by rw [hS]; exact set3_blk CB3.out
        have hg4 : w3.grownBy W4 (some (ab + 1)) := by rw [hS]; exact set3_only
        have hwr : wr.heap.size ≤ ab + 1 := by have := HAB.out; omega
        have M4 := Lib.hid (M.out.new_ (only_trans GW.out X1.out) CB3.out hwr hg4 (by decide) (by decide) (by decide))
        have X4 : Hid (x.v.In (W.heap.size ≤ ·) W4) := Lib.hid (strR_keep HX2.out ((FrN.refl (fun i => i = ab + 1) w3).grow hg4 (fun g hg => .inl (by injection hg with hg; exact hg.symm))) (fun b hb _ e => by have hq : W.heap.size ≤ b := hb; omega) (fun b hb _ => hb))
        have hebn : eb ≠ ab + 1 := by have := HAB.out; omega
        have BE4 := Lib.hid ((BE.out.grown X1.out (by simp)).grown hg4 (by intro e; injection e; omega))
        have BR4 := Lib.hid ((BR.out.grown X1.out (by simp)).grown hg4 (by intro e; injection e; have := HAB.out; omega))
        have hpb4 := M.out.own.blk.lt
        have KP : Hid (Calls Tryz.prog 51 #[.pointer (some ⟨pb, 0, none⟩), .agg #[.int .i64 x.t, .bool x.s, .slice x.v.a x.v.l.length x.v.c]] W4 (PutPost W4 WA.heap.size pb (.slice AK ks.length cK) cs vT vS vV x)) := Lib.hid (put_any WA.heap.size pb _ cs vT vS vV x W4 M4.out.own (by omega) M4.out.gr.size)
        have d0 := hC4.cell 0; have d1 := hC4.cell 1; have d2 := hC4.cell 2
        simp at d0 d1 d2
        rw [← hW4]
        clear hW4 hS hC4 hg4 c0 c1 c2 f0 f1 f2 CB3 HX2
        go_wp2_with fail
        refine KP.out.mono ?_
        rintro en w5 ⟨rfl, vT', vS', vV', hp5, hf5, n1, n2, n3⟩
        have M5 := Lib.hid (M4.out.put hp5 hf5 n1 n2 n3 X4.out (fun b hb => M1.out.own.ltPB hb) M1.out.gr.size)
        have BE5 := Lib.hid (hf5.blk BE4.out (M4.out.own.notPB BE4.out (by omega) (by decide) (by decide) (by decide)))
        have BR5 := Lib.hid (hf5.blk BR4.out (M4.out.own.notPB BR4.out (by omega) (by decide) (by decide) (by decide)))
        have HCN : Hid ((cs ++ [x]).map CM.pl = (ags.take (k + 1)).map oc) := Lib.hid (by rw [HNX.out, List.map_append, HCS.out, List.map_singleton, HX1.out])
        clear hp5 hf5 n1 n2 n3 d0 d1 d2 M4 BE4 BR4 X4 KP M1 BE BR
        go_wp2_with fail
        go_roundw
        case rel => exact ⟨k + 1, cs ++ [x], vT', vS', vV', by go_num, by omega, HCN.out, M5.out, BE5.out, BR5.out⟩
        case measure => simp [intOf]; omega
    · have i1 : ¬ (k : Int) < (ags.length : Int) := by omega
      obtain ⟨p, hpk, hpc, hps, hv1, hv2, hv3⟩ := M.out.part
      subst hv1 hv2 hv3
      have hBP := M.out.own.blk
      have p0 := hBP.cell 0; have p1 := hBP.cell 1; have p2 := hBP.cell 2; have p3 := hBP.cell 3
      have r0 := BR.out.cell 0; have r1 := BR.out.cell 1; have r2 := BR.out.cell 2; have r3 := BR.out.cell 3
      have f0 := BR.out.frozen 0; have f1 := BR.out.frozen 1; have f2 := BR.out.frozen 2; have f3 := BR.out.frozen 3
      simp at p0 p1 p2 p3 r0 r1 r2 r3
      have HPK := Lib.hid hpk
      have HPC := Lib.hid hpc
      have HPS := Lib.hid hps
      clear hBP hpk hpc hps
      go_wp2_with fail
      have hB9 := set4_blk (x := .slice AK ks.length cK) (y := .slice p.ta cs.length p.tc) (z := .slice p.sa cs.length p.sc) (u := .slice p.va cs.length p.vc) BR.out
      have q0 := hB9.cell 0; have q1 := hB9.cell 1; have q2 := hB9.cell 2; have q3 := hB9.cell 3
      simp [set4] at q0 q1 q2 q3
      exact bodyPost_ret (v := .agg #[.slice AK ks.length cK, .slice p.ta cs.length p.tc, .slice p.sa cs.length p.sc, .slice p.va cs.length p.vc]) (by simp [results, Tryz.results28, go_sem, q0, q1, q2, q3]) rfl
        ⟨p, by rw [HPK.out, HPC.out], by rw [HP.out]; unfold PD.pl; rw [HPK.out, HPC.out, HCS.out, List.take_of_length_le (by omega)], (HPS.out.grown set4_only (by intro b hb e; have hq : WA.heap.size ≤ b := hb; injection e; omega)).mono (fun b hb _ => by have hq : WA.heap.size ≤ b := hb; have := GA.out.size; show w.heap.size ≤ b; omega), only_fresh (only_trans GA.out M.out.gr) set4_only (by have := HEB.out; omega)⟩
end Go.Proofs.YtfkgcighooijhaaGreatDoor
