/- group.both: two partials of one key merged (printed by mkboth.py). Condition: sizes. -/
import Derived.Test.YtfkgcighooijhaaGreatDoorJOneI
namespace Go.Proofs.YtfkgcighooijhaaGreatDoor
open Go.RowKit
set_option linter.unusedVariables false
set_option linter.unusedSimpArgs false

set_option maxHeartbeats 16000000 in
set_option maxRecDepth 100000 in
theorem both_any {S T U : Nat → Prop} (Aa : Option Addr) (ags : List AggD) (ca : Nat) (p q : PD) (w : World)
    (hag : Rd U w Aa (ags.flatMap AggD.cells)) (hal : ags.length ≤ 1000) (hok : ∀ a ∈ ags, AggOk a) (hp : p.Sub S w) (hq : q.Sub T w) (hpn : p.cs.length = ags.length) (hqn : q.cs.length = ags.length)
    (hkl : p.key.l.length ≤ 100000) (hpv : ∀ c ∈ p.cs, c.v.l.length ≤ 100000) (hqv : ∀ c ∈ q.cs, c.v.l.length ≤ 100000) :
    Calls Tryz.prog 30 #[.slice Aa ags.length ca, .agg p.cells.toArray, .agg q.cells.toArray] w (PartP w ⟨p.key.l, joinL ags (p.cs.map CM.pl) (q.cs.map CM.pl)⟩) := by
  have HAG := Lib.hid hag
  have HOK := Lib.hid hok
  have HA1 : Hid (∀ (i : Nat) (x : CM) (w' : World), p.cs[i]? = some x → w.grownBy w' none → Calls Tryz.prog 53 #[.agg p.cells.toArray, .int .i64 i] w' (CellP w' x.pl)) := Lib.hid (fun i x w' hx hg => at_any p i x w' hx (hp.grown hg (by simp)) (hpv x (List.mem_of_getElem? hx)) (by omega))
  have HA2 : Hid (∀ (i : Nat) (x : CM) (w' : World), q.cs[i]? = some x → w.grownBy w' none → Calls Tryz.prog 53 #[.agg q.cells.toArray, .int .i64 i] w' (CellP w' x.pl)) := Lib.hid (fun i x w' hx hg => at_any q i x w' hx (hq.grown hg (by simp)) (hqv x (List.mem_of_getElem? hx)) (by omega))
  have HPV := Lib.hid hpv
  have HQV := Lib.hid hqv
  have hjl : (joinL ags (p.cs.map CM.pl) (q.cs.map CM.pl)).length = ags.length := joinL_len (by rw [List.length_map]; exact hpn) (by rw [List.length_map]; exact hqn)
  have HJA : Hid (∀ (k : Nat) (a : AggD) (x y : CM), ags[k]? = some a → p.cs[k]? = some x → q.cs[k]? = some y → (joinL ags (p.cs.map CM.pl) (q.cs.map CM.pl))[k]? = some (joinC a.kind x.pl y.pl)) := Lib.hid (fun k a x y h1 h2 h3 => joinL_at h1 (by rw [List.getElem?_map, h2]; rfl) (by rw [List.getElem?_map, h3]; rfl))
  obtain ⟨JL, hJL⟩ : ∃ l, l = joinL ags (p.cs.map CM.pl) (q.cs.map CM.pl) := ⟨_, rfl⟩
  rw [← hJL] at HJA hjl ⊢
  have HPK := Lib.hid hp.1
  have Ec := Lib.hid (fn_enter Tryz.func88 (by kernel_rfl) (by kernel_rfl))
  have Eu := Lib.hid (fn_enter Tryz.func74 (by kernel_rfl) (by kernel_rfl))
  have Ep := Lib.hid (fn_enter Tryz.func69 (by kernel_rfl) (by kernel_rfl))
  have El := Lib.hid (fn_enter Tryz.func71 (by kernel_rfl) (by kernel_rfl))
  have Eg := Lib.hid (fn_enter Tryz.func72 (by kernel_rfl) (by kernel_rfl))
  clear hag hok hp hq hpv hqv hJL
  obtain ⟨⟨pkl, pka, pkc⟩, pcs, pta, ptc, psa, psc, pva, pvc⟩ := p
  obtain ⟨⟨qkl, qka, qkc⟩, qcs, qta, qtc, qsa, qsc, qva, qvc⟩ := q
  simp only at hpn hqn hkl HPK HJA HPV HQV HA1 HA2
  obtain ⟨pn, hpnd⟩ : ∃ n, n = pcs.length := ⟨_, rfl⟩
  obtain ⟨qn, hqnd⟩ : ∃ n, n = qcs.length := ⟨_, rfl⟩
  have hc1 : (PD.mk ⟨pkl, pka, pkc⟩ pcs pta ptc psa psc pva pvc).cells.toArray = #[.slice pka pkl.length pkc, .slice pta pn ptc, .slice psa pn psc, .slice pva pn pvc] := by rw [hpnd]; rfl
  have hc2 : (PD.mk ⟨qkl, qka, qkc⟩ qcs qta qtc qsa qsc qva qvc).cells.toArray = #[.slice qka qkl.length qkc, .slice qta qn qtc, .slice qsa qn qsc, .slice qva qn qvc] := by rw [hqnd]; rfl
  rw [hc1] at HA1
  rw [hc2] at HA2
  rw [hc1, hc2]
  have HPN := Lib.hid hpn
  have HQN := Lib.hid hqn
  have HJL := Lib.hid hjl
  clear hc1 hc2 hpn hqn hpnd hqnd hjl
  have KC : Hid (∀ w', w.grownBy w' none → Calls Tryz.prog 35 #[.slice pka pkl.length pkc] w' (CloneSPost w' pkl.length (pkl.map .string))) := Lib.hid (fun w' hg => cloneS_any pka pkl.length pkc (pkl.map .string) w' (HPK.out.1.grown hg (by simp)) (by simp) (by omega) (by intro u hu; obtain ⟨s, -, rfl⟩ := List.mem_map.1 hu; rfl) HPK.out.2.2.2)
  clear HPK
  go_enter Tryz.func30, Tryz.ntmps30
  go_upto_region 1 with fail
  obtain ⟨WA, hWA⟩ : ∃ W, W = ((w.alloc (.cells #[.slice pka pkl.length pkc, .slice pta pn ptc, .slice psa pn psc, .slice pva pn pvc] 69)).alloc (.cells #[.slice qka qkl.length qkc, .slice qta qn qtc, .slice qsa qn qsc, .slice qva qn qvc] 69)).alloc (.cells #[.slice none 0 0, .slice none 0 0, .slice none 0 0, .slice none 0 0] 69) := ⟨_, rfl⟩
  have hP : Blk WA w.heap.size 69 #[.slice pka pkl.length pkc, .slice pta pn ptc, .slice psa pn psc, .slice pva pn pvc] := by rw [hWA]; exact ((Blk.new w _ _).alloc _).alloc _
  have hQ : Blk WA (w.heap.size + 1) 69 #[.slice qka qkl.length qkc, .slice qta qn qtc, .slice qsa qn qsc, .slice qva qn qvc] := by
    rw [hWA]
    have := (Blk.new (w.alloc (.cells #[.slice pka pkl.length pkc, .slice pta pn ptc, .slice psa pn psc, .slice pva pn pvc] 69)) 69 #[.slice qka qkl.length qkc, .slice qta qn qtc, .slice qsa qn qsc, .slice qva qn qvc]).alloc (.cells #[.slice none 0 0, .slice none 0 0, .slice none 0 0, .slice none 0 0] 69)
    simpa using this
  have hR : Blk WA (w.heap.size + 1 + 1) 69 #[.slice none 0 0, .slice none 0 0, .slice none 0 0, .slice none 0 0] := by
    rw [hWA]
    have := Blk.new ((w.alloc (.cells #[.slice pka pkl.length pkc, .slice pta pn ptc, .slice psa pn psc, .slice pva pn pvc] 69)).alloc (.cells #[.slice qka qkl.length qkc, .slice qta qn qtc, .slice qsa qn qsc, .slice qva qn qvc] 69)) 69 #[.slice none 0 0, .slice none 0 0, .slice none 0 0, .slice none 0 0]
    simpa using this
  have GA : Hid (w.grownBy WA none) := Lib.hid (by rw [hWA]; exact only_alloc (only_alloc (only_alloc (only_refl w none) _) _) _)
  rw [← hWA]
  obtain ⟨pa, hpad⟩ : ∃ pa, pa = w.heap.size := ⟨_, rfl⟩
  obtain ⟨qa, hqad⟩ : ∃ qa, qa = w.heap.size + 1 := ⟨_, rfl⟩
  obtain ⟨rb, hrbd⟩ : ∃ rb, rb = w.heap.size + 1 + 1 := ⟨_, rfl⟩
  have HPA := Lib.hid hpad
  have HQA := Lib.hid hqad
  have HRB := Lib.hid hrbd
  rw [← hpad] at hP
  rw [← hqad] at hQ
  rw [← hrbd] at hR
  rw [← hrbd, ← hqad, ← hpad]
  have p0 := hP.cell 0; have p1 := hP.cell 1; have p2 := hP.cell 2; have p3 := hP.cell 3
  simp at p0 p1 p2 p3
  have hpa0 : pa < WA.heap.size := hP.lt
  have hrb0 : rb < WA.heap.size := hR.lt
  have hqa0 : qa < WA.heap.size := hQ.lt
  have BP0 := Lib.hid hP
  have BQ0 := Lib.hid hQ
  have BR0 := Lib.hid hR
  clear hWA hP hQ hR hpad hqad hrbd
  go_wp2_with fail
  refine (KC.out WA GA.out).mono ?_
  rintro en w1 ⟨AK, cK, rfl, hk3, hg1⟩
  obtain ⟨AK', cK', ek, hk1, hk2, -, -⟩ := Rd.of_own hk3 (by decide)
  injection ek with ek1 ek2 ek3
  subst ek1 ek3
  have B1 := Lib.hid (BP0.out.grown hg1 (by simp))
  have Q1 := Lib.hid (BQ0.out.grown hg1 (by simp))
  have R1 := Lib.hid (BR0.out.grown hg1 (by simp))
  have KI : Hid ((StrR.mk pkl AK cK).In (WA.heap.size ≤ ·) w1) := Lib.hid (strR_of (rd_ownG hk3) hk1 hk2)
  have GA1 := Lib.hid hg1
  have hz1 := hg1.size
  clear hk1 hk2 hk3 hg1 BP0 BQ0 BR0 p0 p1 p2 p3 KC ek2
  go_upto_region 2 with fail
  obtain ⟨pb, hpbd⟩ : ∃ pb, pb = w1.heap.size := ⟨_, rfl⟩
  obtain ⟨W0, hW0⟩ : ∃ W, W = w1.alloc (.cells #[.slice AK pkl.length cK, .slice none 0 0, .slice none 0 0, .slice none 0 0] 69) := ⟨_, rfl⟩
  have hBP : Blk W0 pb 69 #[.slice AK pkl.length cK, .slice none 0 0, .slice none 0 0, .slice none 0 0] := by rw [hW0, hpbd]; exact Blk.new _ _ _
  have hg0 : w1.grownBy W0 none := by rw [hW0]; exact only_alloc (only_refl _ _) _
  have hpe : rb < pb := by omega
  have M0 : Hid (MkI WA W0 pb ⟨pkl, AK, cK⟩ [] (.slice none 0 0) (.slice none 0 0) (.slice none 0 0)) := Lib.hid ⟨⟨hBP, World.ownsRow_nil _ _ _ _, World.ownsRow_nil _ _ _ _, World.ownsRow_nil _ _ _ _⟩,
    (KI.out.mono (S' := fun b => WA.heap.size ≤ b ∧ b < pb) (fun b hb hlt => ⟨hb, by omega⟩)).grown hg0 (by simp) |>.mono (fun b hb _ => ⟨hb.1, by rintro (h | h | h | h); omega; all_goals simp [Value.ownBlock] at h⟩), by simp, only_trans GA1.out hg0, by omega⟩
  have B2 := Lib.hid (B1.out.grown hg0 (by simp))
  have Q2 := Lib.hid (Q1.out.grown hg0 (by simp))
  have R2 := Lib.hid (R1.out.grown hg0 (by simp))
  rw [← hpbd, ← hW0]
  clear hpbd hW0 hBP hg0 B1 Q1 R1 GA1 KI
  go_wp2_with fail
  go_loopw [17] (fun i wr => ∃ (k : Nat) (cs : List CM) (vT vS vV : Value), i = .int .i64 k ∧ k ≤ ags.length ∧ cs.map CM.pl = JL.take k ∧ MkI WA wr pb ⟨pkl, AK, cK⟩ cs vT vS vV ∧ Blk wr pa 69 #[.slice pka pkl.length pkc, .slice pta pn ptc, .slice psa pn psc, .slice pva pn pvc] ∧ Blk wr qa 69 #[.slice qka qkl.length qkc, .slice qta qn qtc, .slice qsa qn qsc, .slice qva qn qvc] ∧ Blk wr rb 69 #[.slice none 0 0, .slice none 0 0, .slice none 0 0, .slice none 0 0]) (fun i _ => ags.length - (intOf i).toNat)
  case atStart => exact ⟨0, [], _, _, _, rfl, Nat.zero_le _, rfl, M0.out, B2.out, Q2.out, R2.out⟩
  case round =>
    obtain ⟨k, cs, vT, vS, vV, rfl, hk, hcs, hM, hBP, hBQ, hBR⟩ := hrel
    clear M0 B2 Q2 R2
    have HCS := Lib.hid hcs
    have M := Lib.hid hM
    have Bp0 := Lib.hid hBP
    have Bq0 := Lib.hid hBQ
    have BR := Lib.hid hBR
    have hcl : cs.length ≤ 1000 := by
      have := congrArg List.length hcs
      rw [List.length_map, List.length_take] at this
      have := HJL.out
      omega
    have hpaw := hBP.lt
    have hqaw := hBQ.lt
    clear hcs hM hBP hBQ hBR
    by_cases hlt : k < ags.length
    · obtain ⟨y, hy⟩ : ∃ y, ags[k]? = some y := ⟨_, List.getElem?_eq_getElem hlt⟩
      obtain ⟨b0, o0, rfl, hbw, g0, g1⟩ := agg_in (HAG.out.grown (only_trans GA.out M.out.gr) (by simp)) hy
      have hyok := HOK.out y (List.mem_of_getElem? hy)
      obtain ⟨xc, hxc⟩ : ∃ x, pcs[k]? = some x := ⟨_, List.getElem?_eq_getElem (by rw [HPN.out]; exact hlt)⟩
      obtain ⟨yc, hyc⟩ : ∃ x, qcs[k]? = some x := ⟨_, List.getElem?_eq_getElem (by rw [HQN.out]; exact hlt)⟩
      have hj := HJA.out k y xc yc hy hxc hyc
      obtain ⟨CZ, hCZ⟩ : ∃ cz, cz = joinC y.kind xc.pl yc.pl := ⟨_, rfl⟩
      rw [← hCZ] at hj
      have HNX : Hid (JL.take (k + 1) = JL.take k ++ [CZ]) := Lib.hid (by
        obtain ⟨hkl2, e⟩ := List.getElem?_eq_some_iff.1 hj
        rw [List.take_succ_eq_append_getElem hkl2, e])
      have HLX : Hid (xc.v.l.length ≤ 100000) := Lib.hid (HPV.out xc (List.mem_of_getElem? hxc))
      have HLY : Hid (yc.v.l.length ≤ 100000) := Lib.hid (HQV.out yc (List.mem_of_getElem? hyc))
      have HK1 := Lib.hid (fun w' hg => HA1.out k xc w' hxc hg)
      have HK2 := Lib.hid (fun w' hg => HA2.out k yc w' hyc hg)
      obtain ⟨kd, fld⟩ := y
      obtain ⟨hk0, hk4, hfs⟩ := hyok
      simp only at hk0 hk4 hfs g0 g1 hCZ
      have HZ0 : Hid (kd = 0 ∨ kd = 1 → CZ = chosenC addW xc.pl yc.pl) := Lib.hid (fun h => hCZ.trans (joinC0 h))
      have HZ2 : Hid (kd = 2 → CZ = chosenC minI xc.pl yc.pl) := Lib.hid (fun h => hCZ.trans (joinC2 h))
      have HZ3 : Hid (kd = 3 → CZ = chosenC maxI xc.pl yc.pl) := Lib.hid (fun h => hCZ.trans (joinC3 h))
      have HZ4 : Hid (kd = 4 → CZ = uniC xc.pl yc.pl) := Lib.hid (fun h => hCZ.trans (joinC4 h))
      have HXV : Hid (xc.pl.v.length ≤ 100000 ∧ yc.pl.v.length ≤ 100000) := Lib.hid ⟨HLX.out, HLY.out⟩
      obtain ⟨xp, hxp⟩ : ∃ xp, xp = xc.pl := ⟨_, rfl⟩
      obtain ⟨yp, hyp⟩ : ∃ yp, yp = yc.pl := ⟨_, rfl⟩
      rw [← hxp] at HK1 HZ0 HZ2 HZ3 HZ4 HXV
      rw [← hyp] at HK2 HZ0 HZ2 HZ3 HZ4 HXV
      have KN : Hid (∀ w', Calls Tryz.prog 49 #[.agg #[.int .i64 kd, .string fld]] w' (fun e w'' => e = .returned (.bool true) ∧ w'.grownBy w'' none)) := Lib.hid (fun w' => known_any ⟨kd, fld⟩ w' ⟨hk0, hk4⟩)
      have i1 : (k : Int) < (ags.length : Int) := by omega
      clear hy hCZ hxc hyc hj hxp hyp HLX HLY
      have HLX : Hid (xp.v.length ≤ 100000) := Lib.hid HXV.out.1
      have HLY : Hid (yp.v.length ≤ 100000) := Lib.hid HXV.out.2
      clear HXV
      go_upto_region 6 with fail
      obtain ⟨ab, habd⟩ : ∃ ab, ab = wr.heap.size := ⟨_, rfl⟩
      obtain ⟨WB, hWB⟩ : ∃ W, W = (wr.alloc (.cells #[.int .i64 kd, .string fld] 42)).alloc (.cells #[.int .i64 0, .bool false, .slice none 0 0] 91) := ⟨_, rfl⟩
      have hAB : Blk WB ab 42 #[.int .i64 kd, .string fld] := by rw [hWB, habd]; exact (Blk.new wr _ _).alloc _
      have hCB : Blk WB (ab + 1) 91 #[.int .i64 0, .bool false, .slice none 0 0] := by
        rw [hWB, habd]
        have := Blk.new (wr.alloc (.cells #[.int .i64 kd, .string fld] 42)) 91 #[.int .i64 0, .bool false, .slice none 0 0]
        simpa using this
      have hGB : wr.grownBy WB none := by rw [hWB]; exact only_alloc (only_alloc (only_refl wr none) _) _
      have a0 := hAB.cell 0
      have a1 := hAB.cell 1
      simp at a0 a1
      have HAB := Lib.hid habd
      rw [← hWB, ← habd]
      clear hWB habd
      go_wp2_with fail
      refine (KN.out _).mono ?_
      rintro en W ⟨rfl, hgk⟩
      have GW : Hid (wr.grownBy W none) := Lib.hid (only_trans hGB hgk)
      have GWW : Hid (w.grownBy W none) := Lib.hid (only_trans GA.out (only_trans M.out.gr GW.out))
      have hA2 := hAB.grown hgk (by simp)
      have CBK := Lib.hid (hCB.grown hgk (by simp))
      clear a0 a1 hAB hCB hGB hgk
      have a0 := hA2.cell 0
      have a1 := hA2.cell 1
      simp at a0 a1
      have hab : ab < W.heap.size := hA2.lt
      have hcb : ab + 1 < W.heap.size := CBK.out.lt
      have M1 := Lib.hid (M.out.ext GW.out)
      have Bp := Lib.hid (Bp0.out.grown GW.out (by simp))
      have Bq := Lib.hid (Bq0.out.grown GW.out (by simp))
      have BR0 := Lib.hid (BR.out.grown GW.out (by simp))
      clear BR hA2 Bp0 Bq0
      have BR := BR0
      clear BR0
      have hpa : pa < W.heap.size := Bp.out.lt
      have hqa : qa < W.heap.size := Bq.out.lt
      have KA1 : Hid (∀ (w' : World), W.grownBy w' none → Calls Tryz.prog 53 #[.agg #[.slice pka pkl.length pkc, .slice pta pn ptc, .slice psa pn psc, .slice pva pn pvc], .int .i64 k] w' (CellP w' xp)) := Lib.hid (fun w' hg => HK1.out w' (only_trans GWW.out hg))
      have KA2 : Hid (∀ (w' : World), W.grownBy w' none → Calls Tryz.prog 53 #[.agg #[.slice qka qkl.length qkc, .slice qta qn qtc, .slice qsa qn qsc, .slice qva qn qvc], .int .i64 k] w' (CellP w' yp)) := Lib.hid (fun w' hg => HK2.out w' (only_trans GWW.out hg))
      clear HK1 HK2 HA1 HA2 g0 g1 HPV HQV
      go_upto_region 7 with fail
      refine wp_region_gen 12 (JC [none, some (.pointer (some ⟨ab, 0, none⟩)), some (.int .i64 (kd)), none, none, some (.agg #[.slice pka pkl.length pkc, .slice pta pn ptc, .slice psa pn psc, .slice pva pn pvc]), some (.int .i64 (k)), none, some (.agg #[.slice qka qkl.length qkc, .slice qta qn qtc, .slice qsa qn qsc, .slice qva qn qvc]), some (.int .i64 (k)), none, none] (fun D u w => W.grownBy w none ∧ (D 0 = true → KinV w (u 0)) ∧ (D 3 = true → EntAt kd w (u 3)) ∧ (D 4 = true → MgAt kd w (u 4)) ∧ (D 7 = true → CVal (W.heap.size ≤ ·) xp w (u 7)) ∧ (D 10 = true → CVal (W.heap.size ≤ ·) yp w (u 10)) ∧ (D 11 = true → CVal (W.heap.size ≤ ·) CZ w (u 11)))) (by kernel_rfl) (by kernel_rfl) ?_ ?_ ?_
      · intro u
        exact ⟨(fun j c _ h => by cases h), only_drew (only_refl _ _), (fun h => by cases h), (fun h => by cases h), (fun h => by cases h), (fun h => by cases h), (fun h => by cases h), (fun h => by cases h)⟩
      · intro AA hA
        have hasz : AA.tmps.size = 41 := by rw [hA]; kernel_rfl
        have ea9 : AA.eval (.tmp 9) = .pointer (some ⟨ab, 0, none⟩) := by rw [hA]; kernel_rfl
        have ea4 : AA.eval (.tmp 4) = .pointer (some ⟨pa, 0, none⟩) := by rw [hA]; kernel_rfl
        have ea5 : AA.eval (.tmp 5) = .pointer (some ⟨qa, 0, none⟩) := by rw [hA]; kernel_rfl
        have ea8 : AA.eval (.tmp 8) = .int .i64 (k) := by rw [hA]; kernel_rfl
        clear hA
        simp only [List.take_succ_cons, List.take_zero]
        refine .cons ?_ (.cons ?_ (.cons ?_ (.cons ?_ (.cons ?_ (.cons ?_ (.cons ?_ (.cons ?_ (.cons ?_ (.cons ?_ (.cons ?_ (.cons ?_ (.nil))))))))))))
        · refine gd_call (by kernel_rfl) (Want.none_ rfl) 50 (fun D u ρ w kn hD => ?_)
          refine ⟨#[], ?_, (kinds_any w).mono ?_⟩
          · simp only [execOp, resolve, Deferred.ofValue, List.map_toArray, List.map_cons, List.map_nil, kn.rho.con, kn.rho.fn]
            simp [go_sem]
          · rintro e w' h
            have h2 := h
            obtain ⟨b0, b1, b2, b3, b4, b5, b6, rfl, hr⟩ := h
            have hg : w.grownBy w' none := hr.2.2.2.2.2.2.2
            obtain ⟨x1, x2, x3, x4, x5, x6, x7⟩ := kn.ext
            exact ⟨_, rfl, (fun c h => by injection h with h; cases h), only_trans x1 hg, fun _ => by rw [upd_at]; exact ⟨_, w, rfl, h2⟩, fun h => by rw [updB_ne D (by omega)] at h; rw [upd_ne u _ (by omega)]; exact (x3 h).grown hg, fun h => by rw [updB_ne D (by omega)] at h; rw [upd_ne u _ (by omega)]; exact (x4 h).grown hg, fun h => by rw [updB_ne D (by omega)] at h; rw [upd_ne u _ (by omega)]; exact (x5 h).grown hg, fun h => by rw [updB_ne D (by omega)] at h; rw [upd_ne u _ (by omega)]; exact (x6 h).grown hg, fun h => by rw [updB_ne D (by omega)] at h; rw [upd_ne u _ (by omega)]; exact (x7 h).grown hg⟩
        · exact gd_gen (by kernel_rfl) (Want.none_ rfl) rfl (fun D u w v h => by simpa [updB, upd] using h) (fun D u ρ w kn => by
            have e0 := kn.own 9 (c := .pointer (some ⟨ab, 0, none⟩)) (by kernel_rfl) ea9
            simp [execOp, kn.rho.con, e0, go_sem])
        · exact gd_gen (by kernel_rfl) (Want.none_ rfl) rfl (fun D u w v h => by simpa [updB, upd] using h) (fun D u ρ w kn => by
            have e0 := kn.con 1 26 (c := .pointer (some ⟨ab, 0, none⟩)) (by kernel_rfl) (by omega) (by kernel_rfl) rfl
            have f0 := (cellG kn.ext.1 hab).trans a0
            simp [execOp, kn.rho.con, e0, f0, go_sem])
        · refine gd_eff (by kernel_rfl) (Want.none_ rfl) (fun D u ρ w kn hD => ?_)
          have e0 := kn.slot 0 25 (by kernel_rfl) (by omega)
          have e1 := kn.con 2 27 (c := .int .i64 kd) (by kernel_rfl) (by omega) (by kernel_rfl) rfl
          have d0 := kn.dep 0 (by kernel_rfl)
          obtain ⟨x1, x2, x3, x4, x5, x6, x7⟩ := kn.ext
          obtain ⟨y, hy, hE⟩ := (x2 d0).ix hk0 hk4
          exact ⟨y, w, by simp only [execOp, e0, e1, Sem.run_bind, hy, Result.andThen_ok, Sem.run_pure], (fun c h => by injection h with h; cases h), x1, fun h => by rw [updB_ne D (by omega)] at h; rw [upd_ne u _ (by omega)]; exact x2 h, fun _ => by rw [upd_at]; exact hE, fun h => by rw [updB_ne D (by omega)] at h; rw [upd_ne u _ (by omega)]; exact x4 h, fun h => by rw [updB_ne D (by omega)] at h; rw [upd_ne u _ (by omega)]; exact x5 h, fun h => by rw [updB_ne D (by omega)] at h; rw [upd_ne u _ (by omega)]; exact x6 h, fun h => by rw [updB_ne D (by omega)] at h; rw [upd_ne u _ (by omega)]; exact x7 h⟩
        · refine gd_eff (by kernel_rfl) (Want.none_ rfl) (fun D u ρ w kn hD => ?_)
          have e0 := kn.slot 3 28 (by kernel_rfl) (by omega)
          have d0 := kn.dep 3 (by kernel_rfl)
          obtain ⟨x1, x2, x3, x4, x5, x6, x7⟩ := kn.ext
          obtain ⟨p, q, hp, hO, hM⟩ := x3 d0
          exact ⟨q, w, by rw [hp] at e0; simp only [execOp, e0, Sem.run_bind, kind_f1, Result.andThen_ok, Sem.run_pure], (fun c h => by injection h with h; cases h), x1, fun h => by rw [updB_ne D (by omega)] at h; rw [upd_ne u _ (by omega)]; exact x2 h, fun h => by rw [updB_ne D (by omega)] at h; rw [upd_ne u _ (by omega)]; exact x3 h, fun _ => by rw [upd_at]; exact hM, fun h => by rw [updB_ne D (by omega)] at h; rw [upd_ne u _ (by omega)]; exact x5 h, fun h => by rw [updB_ne D (by omega)] at h; rw [upd_ne u _ (by omega)]; exact x6 h, fun h => by rw [updB_ne D (by omega)] at h; rw [upd_ne u _ (by omega)]; exact x7 h⟩
        · exact gd_gen (by kernel_rfl) (Want.none_ rfl) rfl (fun D u w v h => by simpa [updB, upd] using h) (fun D u ρ w kn => by
            have e0 := kn.own 4 (c := .pointer (some ⟨pa, 0, none⟩)) (by kernel_rfl) ea4
            exact run_load ρ w rfl e0 (load_part w pa pkl.length pn pn pn _ _ _ _ _ _ _ _ (Bp.out.grown kn.ext.1 (by simp))))
        · exact gd_gen (by kernel_rfl) (Want.none_ rfl) rfl (fun D u w v h => by simpa [updB, upd] using h) (fun D u ρ w kn => by
            have e0 := kn.own 8 (c := .int .i64 (k)) (by kernel_rfl) ea8
            simp [execOp, kn.rho.con, e0, go_sem])
        · refine gd_call (by kernel_rfl) (Want.none_ rfl) 53 (fun D u ρ w kn hD => ?_)
          have e0 := kn.con 5 30 (c := .agg #[.slice pka pkl.length pkc, .slice pta pn ptc, .slice psa pn psc, .slice pva pn pvc]) (by kernel_rfl) (by omega) (by kernel_rfl) rfl
          have e1 := kn.con 6 31 (c := .int .i64 k) (by kernel_rfl) (by omega) (by kernel_rfl) rfl
          refine ⟨#[.agg #[.slice pka pkl.length pkc, .slice pta pn ptc, .slice psa pn psc, .slice pva pn pvc], .int .i64 k], ?_, (KA1.out w kn.ext.1).mono ?_⟩
          · simp only [execOp, resolve, Deferred.ofValue, List.map_toArray, List.map_cons, List.map_nil, e0, e1, kn.rho.con, kn.rho.fn]
            simp [go_sem]
          · rintro e w' ⟨x, rfl, hx1, hx2, hg⟩
            obtain ⟨x1, x2, x3, x4, x5, x6, x7⟩ := kn.ext
            exact ⟨_, rfl, (fun c h => by injection h with h; cases h), only_trans x1 hg, fun h => by rw [updB_ne D (by omega)] at h; rw [upd_ne u _ (by omega)]; exact (x2 h).grown hg, fun h => by rw [updB_ne D (by omega)] at h; rw [upd_ne u _ (by omega)]; exact (x3 h).grown hg, fun h => by rw [updB_ne D (by omega)] at h; rw [upd_ne u _ (by omega)]; exact (x4 h).grown hg, fun _ => by rw [upd_at]; exact ⟨x, rfl, hx1, hx2.mono (fun b hb _ => Nat.le_trans x1.size hb)⟩, fun h => by rw [updB_ne D (by omega)] at h; rw [upd_ne u _ (by omega)]; exact (x6 h).grown hg, fun h => by rw [updB_ne D (by omega)] at h; rw [upd_ne u _ (by omega)]; exact (x7 h).grown hg⟩
        · exact gd_gen (by kernel_rfl) (Want.none_ rfl) rfl (fun D u w v h => by simpa [updB, upd] using h) (fun D u ρ w kn => by
            have e0 := kn.own 5 (c := .pointer (some ⟨qa, 0, none⟩)) (by kernel_rfl) ea5
            exact run_load ρ w rfl e0 (load_part w qa qkl.length qn qn qn _ _ _ _ _ _ _ _ (Bq.out.grown kn.ext.1 (by simp))))
        · exact gd_gen (by kernel_rfl) (Want.none_ rfl) rfl (fun D u w v h => by simpa [updB, upd] using h) (fun D u ρ w kn => by
            have e0 := kn.own 8 (c := .int .i64 (k)) (by kernel_rfl) ea8
            simp [execOp, kn.rho.con, e0, go_sem])
        · refine gd_call (by kernel_rfl) (Want.none_ rfl) 53 (fun D u ρ w kn hD => ?_)
          have e0 := kn.con 8 33 (c := .agg #[.slice qka qkl.length qkc, .slice qta qn qtc, .slice qsa qn qsc, .slice qva qn qvc]) (by kernel_rfl) (by omega) (by kernel_rfl) rfl
          have e1 := kn.con 9 34 (c := .int .i64 k) (by kernel_rfl) (by omega) (by kernel_rfl) rfl
          refine ⟨#[.agg #[.slice qka qkl.length qkc, .slice qta qn qtc, .slice qsa qn qsc, .slice qva qn qvc], .int .i64 k], ?_, (KA2.out w kn.ext.1).mono ?_⟩
          · simp only [execOp, resolve, Deferred.ofValue, List.map_toArray, List.map_cons, List.map_nil, e0, e1, kn.rho.con, kn.rho.fn]
            simp [go_sem]
          · rintro e w' ⟨x, rfl, hx1, hx2, hg⟩
            obtain ⟨x1, x2, x3, x4, x5, x6, x7⟩ := kn.ext
            exact ⟨_, rfl, (fun c h => by injection h with h; cases h), only_trans x1 hg, fun h => by rw [updB_ne D (by omega)] at h; rw [upd_ne u _ (by omega)]; exact (x2 h).grown hg, fun h => by rw [updB_ne D (by omega)] at h; rw [upd_ne u _ (by omega)]; exact (x3 h).grown hg, fun h => by rw [updB_ne D (by omega)] at h; rw [upd_ne u _ (by omega)]; exact (x4 h).grown hg, fun h => by rw [updB_ne D (by omega)] at h; rw [upd_ne u _ (by omega)]; exact (x5 h).grown hg, fun _ => by rw [upd_at]; exact ⟨x, rfl, hx1, hx2.mono (fun b hb _ => Nat.le_trans x1.size hb)⟩, fun h => by rw [updB_ne D (by omega)] at h; rw [upd_ne u _ (by omega)]; exact (x7 h).grown hg⟩
        · refine gd_callE (by kernel_rfl) (Want.none_ rfl) (fun D u ρ w kn hD => ?_)
          have e0 := kn.slot 4 29 (by kernel_rfl) (by omega)
          have e1 := kn.slot 7 32 (by kernel_rfl) (by omega)
          have e2 := kn.slot 10 35 (by kernel_rfl) (by omega)
          have d0 := kn.dep 4 (by kernel_rfl)
          have d7 := kn.dep 7 (by kernel_rfl)
          have d10 := kn.dep 10 (by kernel_rfl)
          obtain ⟨x1, x2, x3, x4, x5, x6, x7⟩ := kn.ext
          obtain ⟨x, hux, hpx, hix⟩ := x5 d7
          obtain ⟨y, huy, hpy, hiy⟩ := x6 d10
          rw [hux] at e1
          rw [huy] at e2
          rcases x4 d0 with ⟨hk, b, hv, hF⟩ | ⟨hk, b, hv, hF⟩ | ⟨hk, b, hv, hF⟩ | ⟨hk, hv⟩
          · rw [hv] at e0
            refine ⟨88, #[.agg #[.int .i64 x.t, .bool x.s, .slice x.v.a x.v.l.length x.v.c], .agg #[.int .i64 y.t, .bool y.s, .slice y.v.a y.v.l.length y.v.c], .pointer (some ⟨b, 0, none⟩)], ?_, (chosen_any 69 addW x y b w Ep.out plus_any hF.1 hix hiy).mono ?_⟩
            · simp only [execOp, resolve, Deferred.ofValue, List.map_toArray, List.map_cons, List.map_nil, e0, e1, e2, kn.rho.con, kn.rho.fn]
              simp [go_sem, fn0, fnC, Ec.out]
            · rintro e w' ⟨m, rfl, hx1, hx2, hg⟩
              exact ⟨_, rfl, (fun c h => by injection h with h; cases h), only_trans x1 hg, fun h => by rw [updB_ne D (by omega)] at h; rw [upd_ne u _ (by omega)]; exact (x2 h).grown hg, fun h => by rw [updB_ne D (by omega)] at h; rw [upd_ne u _ (by omega)]; exact (x3 h).grown hg, fun h => by rw [updB_ne D (by omega)] at h; rw [upd_ne u _ (by omega)]; exact (x4 h).grown hg, fun h => by rw [updB_ne D (by omega)] at h; rw [upd_ne u _ (by omega)]; exact (x5 h).grown hg, fun h => by rw [updB_ne D (by omega)] at h; rw [upd_ne u _ (by omega)]; exact (x6 h).grown hg, fun _ => by rw [upd_at]; exact ⟨m, rfl, by rw [hx1, hpx, hpy]; exact ((HZ0.out hk).symm), hx2⟩⟩
          · rw [hv] at e0
            refine ⟨88, #[.agg #[.int .i64 x.t, .bool x.s, .slice x.v.a x.v.l.length x.v.c], .agg #[.int .i64 y.t, .bool y.s, .slice y.v.a y.v.l.length y.v.c], .pointer (some ⟨b, 0, none⟩)], ?_, (chosen_any 71 minI x y b w El.out least_any hF.1 hix hiy).mono ?_⟩
            · simp only [execOp, resolve, Deferred.ofValue, List.map_toArray, List.map_cons, List.map_nil, e0, e1, e2, kn.rho.con, kn.rho.fn]
              simp [go_sem, fn0, fnC, Ec.out]
            · rintro e w' ⟨m, rfl, hx1, hx2, hg⟩
              exact ⟨_, rfl, (fun c h => by injection h with h; cases h), only_trans x1 hg, fun h => by rw [updB_ne D (by omega)] at h; rw [upd_ne u _ (by omega)]; exact (x2 h).grown hg, fun h => by rw [updB_ne D (by omega)] at h; rw [upd_ne u _ (by omega)]; exact (x3 h).grown hg, fun h => by rw [updB_ne D (by omega)] at h; rw [upd_ne u _ (by omega)]; exact (x4 h).grown hg, fun h => by rw [updB_ne D (by omega)] at h; rw [upd_ne u _ (by omega)]; exact (x5 h).grown hg, fun h => by rw [updB_ne D (by omega)] at h; rw [upd_ne u _ (by omega)]; exact (x6 h).grown hg, fun _ => by rw [upd_at]; exact ⟨m, rfl, by rw [hx1, hpx, hpy]; exact ((HZ2.out hk).symm), hx2⟩⟩
          · rw [hv] at e0
            refine ⟨88, #[.agg #[.int .i64 x.t, .bool x.s, .slice x.v.a x.v.l.length x.v.c], .agg #[.int .i64 y.t, .bool y.s, .slice y.v.a y.v.l.length y.v.c], .pointer (some ⟨b, 0, none⟩)], ?_, (chosen_any 72 maxI x y b w Eg.out greatest_any hF.1 hix hiy).mono ?_⟩
            · simp only [execOp, resolve, Deferred.ofValue, List.map_toArray, List.map_cons, List.map_nil, e0, e1, e2, kn.rho.con, kn.rho.fn]
              simp [go_sem, fn0, fnC, Ec.out]
            · rintro e w' ⟨m, rfl, hx1, hx2, hg⟩
              exact ⟨_, rfl, (fun c h => by injection h with h; cases h), only_trans x1 hg, fun h => by rw [updB_ne D (by omega)] at h; rw [upd_ne u _ (by omega)]; exact (x2 h).grown hg, fun h => by rw [updB_ne D (by omega)] at h; rw [upd_ne u _ (by omega)]; exact (x3 h).grown hg, fun h => by rw [updB_ne D (by omega)] at h; rw [upd_ne u _ (by omega)]; exact (x4 h).grown hg, fun h => by rw [updB_ne D (by omega)] at h; rw [upd_ne u _ (by omega)]; exact (x5 h).grown hg, fun h => by rw [updB_ne D (by omega)] at h; rw [upd_ne u _ (by omega)]; exact (x6 h).grown hg, fun _ => by rw [upd_at]; exact ⟨m, rfl, by rw [hx1, hpx, hpy]; exact ((HZ3.out hk).symm), hx2⟩⟩
          · rw [hv] at e0
            refine ⟨74, #[.agg #[.int .i64 x.t, .bool x.s, .slice x.v.a x.v.l.length x.v.c], .agg #[.int .i64 y.t, .bool y.s, .slice y.v.a y.v.l.length y.v.c]], ?_, (puni_any x y w hix hiy (by have := congrArg (fun c => c.v.length) hpx; have := HLX.out; simp only [CM.pl] at *; omega) (by have := congrArg (fun c => c.v.length) hpy; have := HLY.out; simp only [CM.pl] at *; omega)).mono ?_⟩
            · simp only [execOp, resolve, Deferred.ofValue, List.map_toArray, List.map_cons, List.map_nil, e0, e1, e2, kn.rho.con, kn.rho.fn]
              simp [go_sem, fn0, fnC, Eu.out]
            · rintro e w' ⟨m, rfl, hx1, hx2, hg⟩
              exact ⟨_, rfl, (fun c h => by injection h with h; cases h), only_trans x1 hg, fun h => by rw [updB_ne D (by omega)] at h; rw [upd_ne u _ (by omega)]; exact (x2 h).grown hg, fun h => by rw [updB_ne D (by omega)] at h; rw [upd_ne u _ (by omega)]; exact (x3 h).grown hg, fun h => by rw [updB_ne D (by omega)] at h; rw [upd_ne u _ (by omega)]; exact (x4 h).grown hg, fun h => by rw [updB_ne D (by omega)] at h; rw [upd_ne u _ (by omega)]; exact (x5 h).grown hg, fun h => by rw [updB_ne D (by omega)] at h; rw [upd_ne u _ (by omega)]; exact (x6 h).grown hg, fun _ => by rw [upd_at]; exact ⟨m, rfl, by rw [hx1, hpx, hpy]; exact ((HZ4.out hk).symm), hx2.mono (fun b hb _ => Nat.le_trans x1.size hb)⟩⟩
      · intro D u w3 hJ hD
        obtain ⟨hc, x1, -, -, -, -, -, x5⟩ := hJ
        obtain ⟨x, e8, hx1, hx2⟩ := x5 (hD 11 (by omega))
        simp only [List.take_succ_cons, List.take_zero, List.drop_succ_cons, List.drop_zero, putAll]
        rw [e8]
        have hCB3 := CBK.out.grown x1 (by simp)
        have c0 := hCB3.cell 0; have c1 := hCB3.cell 1; have c2 := hCB3.cell 2
        have f0 := hCB3.frozen 0; have f1 := hCB3.frozen 1; have f2 := hCB3.frozen 2
        simp at c0 c1 c2
        have HX1 := Lib.hid hx1
        have HX2 := Lib.hid hx2
        have X1 := Lib.hid x1
        have CB3 := Lib.hid hCB3
        clear hc x5 e8 hD hx1 hx2 x1 hCB3 a0 a1 KA1 KA2 HZ0 HZ2 HZ3 HZ4
        go_upto_region 8 with fail
        obtain ⟨W4, hW4⟩ : ∃ W, W = ((w3.setCell ⟨ab + 1, 0, none⟩ (.int .i64 x.t)).setCell ⟨ab + 1, 1, none⟩ (.bool x.s)).setCell ⟨ab + 1, 2, none⟩ (.slice x.v.a x.v.l.length x.v.c) := ⟨_, rfl⟩
        have hS : W4 = set3 w3 (ab + 1) (.int .i64 x.t) (.bool x.s) (.slice x.v.a x.v.l.length x.v.c) := hW4
        have hC4 : Blk W4 (ab + 1) 91 #[.int .i64 x.t, .bool x.s, .slice x.v.a x.v.l.length x.v.c] := by rw [hS]; exact set3_blk CB3.out
        have hg4 : w3.grownBy W4 (some (ab + 1)) := by rw [hS]; exact set3_only
        have hwr : wr.heap.size ≤ ab + 1 := by have := HAB.out; omega
        have M4 := Lib.hid (M.out.new_ (only_trans GW.out X1.out) CB3.out hwr hg4 (by decide) (by decide) (by decide))
        have X4 : Hid (x.v.In (W.heap.size ≤ ·) W4) := Lib.hid (strR_keep HX2.out ((FrN.refl (fun i => i = ab + 1) w3).grow hg4 (fun g hg => .inl (by injection hg with hg; exact hg.symm))) (fun b hb _ e => by have hq : W.heap.size ≤ b := hb; omega) (fun b hb _ => hb))
        have BP4 := Lib.hid ((Bp.out.grown X1.out (by simp)).grown hg4 (by intro e; injection e; have := HAB.out; omega))
        have BQ4 := Lib.hid ((Bq.out.grown X1.out (by simp)).grown hg4 (by intro e; injection e; have := HAB.out; omega))
        have BR4 := Lib.hid ((BR.out.grown X1.out (by simp)).grown hg4 (by intro e; injection e; have := HAB.out; have := M.out.gr.size; omega))
        have hpb4 := M.out.own.blk.lt
        have KP : Hid (Calls Tryz.prog 51 #[.pointer (some ⟨pb, 0, none⟩), .agg #[.int .i64 x.t, .bool x.s, .slice x.v.a x.v.l.length x.v.c]] W4 (PutPost W4 WA.heap.size pb (.slice AK pkl.length cK) cs vT vS vV x)) := Lib.hid (put_any WA.heap.size pb _ cs vT vS vV x W4 M4.out.own (by omega) M4.out.gr.size)
        have d0 := hC4.cell 0; have d1 := hC4.cell 1; have d2 := hC4.cell 2
        simp at d0 d1 d2
        rw [← hW4]
        clear hW4 hS hC4 hg4 c0 c1 c2 f0 f1 f2 CB3 HX2
        go_wp2_with fail
        refine KP.out.mono ?_
        rintro en w5 ⟨rfl, vT', vS', vV', hp5, hf5, n1, n2, n3⟩
        have M5 := Lib.hid (M4.out.put hp5 hf5 n1 n2 n3 X4.out (fun b hb => M1.out.own.ltPB hb) M1.out.gr.size)
        have BP5 := Lib.hid (hf5.blk BP4.out (M4.out.own.notPB BP4.out (by have := HPA.out; have := HRB.out; omega) (by decide) (by decide) (by decide)))
        have BQ5 := Lib.hid (hf5.blk BQ4.out (M4.out.own.notPB BQ4.out (by have := HQA.out; have := HRB.out; omega) (by decide) (by decide) (by decide)))
        have BR5 := Lib.hid (hf5.blk BR4.out (M4.out.own.notPB BR4.out (by omega) (by decide) (by decide) (by decide)))
        have HCN : Hid ((cs ++ [x]).map CM.pl = JL.take (k + 1)) := Lib.hid (by rw [HNX.out, List.map_append, HCS.out, List.map_singleton, HX1.out])
        clear hp5 hf5 n1 n2 n3 d0 d1 d2 M4 BP4 BQ4 BR4 X4 KP M1 Bp Bq BR
        go_wp2_with fail
        go_roundw
        case rel => exact ⟨k + 1, cs ++ [x], vT', vS', vV', by go_num, by omega, HCN.out, M5.out, BP5.out, BQ5.out, BR5.out⟩
        case measure => simp [intOf]; omega
    · have i1 : ¬ (k : Int) < (ags.length : Int) := by omega
      obtain ⟨p, hpk, hpc, hps, hv1, hv2, hv3⟩ := M.out.part
      subst hv1 hv2 hv3
      have hBP := M.out.own.blk
      have p0 := hBP.cell 0; have p1 := hBP.cell 1; have p2 := hBP.cell 2; have p3 := hBP.cell 3
      have r0 := BR.out.cell 0; have r1 := BR.out.cell 1; have r2 := BR.out.cell 2; have r3 := BR.out.cell 3
      have f0 := BR.out.frozen 0; have f1 := BR.out.frozen 1; have f2 := BR.out.frozen 2; have f3 := BR.out.frozen 3
      simp at p0 p1 p2 p3 r0 r1 r2 r3
      have HPK := Lib.hid hpk
      have HPC := Lib.hid hpc
      have HPS := Lib.hid hps
      clear hBP hpk hpc hps
      go_wp2_with fail
      have hB9 := set4_blk (x := .slice AK pkl.length cK) (y := .slice p.ta cs.length p.tc) (z := .slice p.sa cs.length p.sc) (u := .slice p.va cs.length p.vc) BR.out
      have q0 := hB9.cell 0; have q1 := hB9.cell 1; have q2 := hB9.cell 2; have q3 := hB9.cell 3
      simp [set4] at q0 q1 q2 q3
      exact bodyPost_ret (v := .agg #[.slice AK pkl.length cK, .slice p.ta cs.length p.tc, .slice p.sa cs.length p.sc, .slice p.va cs.length p.vc]) (by simp [results, Tryz.results30, go_sem, q0, q1, q2, q3]) rfl
        ⟨p, by rw [HPK.out, HPC.out], by unfold PD.pl; rw [HPK.out, HPC.out, HCS.out, List.take_of_length_le (by have := HJL.out; omega)], (HPS.out.grown set4_only (by intro b hb e; have hq : WA.heap.size ≤ b := hb; injection e; omega)).mono (fun b hb _ => by have hq : WA.heap.size ≤ b := hb; have := GA.out.size; show w.heap.size ≤ b; omega), only_fresh (only_trans GA.out M.out.gr) set4_only (by have := HRB.out; omega)⟩
end Go.Proofs.YtfkgcighooijhaaGreatDoor
