/- group.Merge (printed by mkgmerge.py). Condition: sizes. -/
import Derived.Test.YtfkgcighooijhaaGreatDoorJOneI
import Derived.Test.YtfkgcighooijhaaGreatDoorJBoth
import Derived.Test.YtfkgcighooijhaaGreatDoorJCloneBo
namespace Go.Proofs.YtfkgcighooijhaaGreatDoor
open Go.RowKit
set_option linter.unusedVariables false
set_option linter.unusedSimpArgs false

theorem partSize : (Tryz.prog.info? 69).map (·.size) = some 4 := by kernel_rfl
theorem run_ix0P (ρ : Operand → Value) (w : World) {o : Oper} {x b off n c : Nat} (ho : o.op = .indexAddr 36 (.tmp x) (.const (.int .i64 0))) (hc : ∀ v, ρ (.const v) = v) (hx : ρ (.tmp x) = .slice (some ⟨b, off, none⟩) (n + 1) c) : (execOp ρ o).run Tryz.prog w = .ok (.value (.pointer (some ⟨b, off, none⟩))) w := by
  have h0 : (0 : Int) < (n : Int) + 1 := by omega
  simp [execOp, ho, hc, hx, go_sem, h0]
theorem load_partAt (w : World) (b o : Nat) (p : PD) (h0 : w.cell? ⟨b, o, none⟩ = some (.slice p.key.a p.key.l.length p.key.c)) (h1 : w.cell? ⟨b, o + 1, none⟩ = some (.slice p.ta p.cs.length p.tc)) (h2 : w.cell? ⟨b, o + 2, none⟩ = some (.slice p.sa p.cs.length p.sc)) (h3 : w.cell? ⟨b, o + 3, none⟩ = some (.slice p.va p.cs.length p.vc)) :
    (Instr.loadAt 69 (.pointer (some ⟨b, o, none⟩))).run Tryz.prog w = .ok (.agg #[.slice p.key.a p.key.l.length p.key.c, .slice p.ta p.cs.length p.tc, .slice p.sa p.cs.length p.sc, .slice p.va p.cs.length p.vc]) w := by
  have hu := Tryz.underlying69
  simp [go_sem, h0, h1, h2, h3]
theorem PD.Sub.fr {S B : Nat → Prop} {W w : World} {p : PD} (h : p.Sub S W) (hf : FrN B W w) (hB : ∀ b, S b → ¬ B b) : p.Sub S w :=
  ⟨⟨hf.rd h.1.1 hB, h.1.2⟩, hf.rd h.2.1 hB, hf.rd h.2.2.1 hB, hf.rd h.2.2.2.1 hB, fun c hc => ⟨hf.rd (h.2.2.2.2.1 c hc).1 hB, (h.2.2.2.2.1 c hc).2⟩, h.2.2.2.2.2⟩
theorem PDs.fr {S B : Nat → Prop} {W w : World} {A : Option Addr} {ps : List PD} (h : PDs S W A ps) (hf : FrN B W w) (hB : ∀ b, S b → ¬ B b) : PDs S w A ps := ⟨hf.rd h.1 hB, fun p hp => (h.2 p hp).fr hf hB⟩
theorem PRow.snoc1 {base N : Nat} {W w6 w7 : World} {v v7 : Value} {ps : List PD} {p : PD} (h : PRow base W v ps) (hg6 : W.grownBy w6 none) (hs : p.Sub (N ≤ ·) w6) (hN : W.heap.size ≤ N) (ho : w7.ownsRow base 69 4 v7 (ps.length + 1) (ps.flatMap PD.cells ++ p.cells)) (hg7 : w6.grownBy w7 (Value.ownBlock v))
    (hob : Value.ownBlock v7 = Value.ownBlock v ∨ Value.ownBlock v7 = some (w6.heap.size + 1)) (hb : base ≤ W.heap.size) : PRow base w7 v7 (ps ++ [p]) := by
  have hf : FrN (fun i => Value.ownBlock v = some i) W w7 := (fr_of_none hg6).grow hg7 (fun g hg => .inl hg)
  have hs' := hs.mono (S' := fun b => N ≤ b ∧ b < w6.heap.size) (fun b hb hlt => ⟨hb, hlt⟩)
  refine h.snoc ho ((hs'.grown hg7 (fun b hbb e => by have := h.lt b e.symm; have := hbb.1; omega)).mono (fun b hbb _ => ⟨by have := hbb.1; show W.heap.size ≤ b; omega, fun e => ?_⟩)) (fun g hg => ?_) hf hb
  · rcases hob with h1 | h1
    · rw [h1] at e; have := h.lt b e; have := hbb.1; omega
    · rw [h1] at e; injection e with e; have := hbb.2; omega
  · rcases hob with h1 | h1
    · rw [h1] at hg; exact .inl hg
    · rw [h1] at hg; injection hg with hg; have := hg6.size; exact .inr (by omega)
theorem merge_end {ags : List AggD} {a b : List PD} (h : a = [] ∨ b = []) : mergeP ags (a.map PD.pl) (b.map PD.pl) = (a ++ b).map PD.pl := by
  rcases h with rfl | rfl
  · rw [List.map_nil, mergeP]; rfl
  · rw [List.map_nil, mergeP_nil, List.append_nil]
/-- a partial of so many aggregates, of bounded size -/
def OkP (n : Nat) (p : PD) : Prop := p.cs.length = n ∧ p.key.l.length ≤ 1000 ∧ ∀ c ∈ p.cs, c.v.l.length ≤ 100000
theorem pdsTail {S : Nat → Prop} {w : World} {b o c : Nat} {p : PD} {ps : List PD} (h : PDs S w (some ⟨b, o, none⟩) (p :: ps)) (hc : ps.length + 1 ≤ c) : PDs S w (some ⟨b, tailG o 4 c, none⟩) ps :=
  ⟨Rd.tailG_ (x := p.cells) (n := ps.length) (by simpa using h.1) rfl (flat_len PD.cells 4 PD.cells_len ps) hc, fun q hq => h.2 q (List.mem_cons_of_mem _ hq)⟩
set_option maxHeartbeats 16000000 in
set_option maxRecDepth 100000 in
theorem gmerge_any {S T U : Nat → Prop} (Aa : Option Addr) (ags : List AggD) (ca : Nat) (A0 : Option Addr) (as0 : List PD) (cA0 : Nat) (B0 : Option Addr) (bs0 : List PD) (cB0 : Nat) (w0 : World)
    (hag : Rd U w0 Aa (ags.flatMap AggD.cells)) (hal : ags.length ≤ 1000) (hok : ∀ a ∈ ags, AggOk a) (hA : PDs S w0 A0 as0) (hB : PDs T w0 B0 bs0) (hcA : as0.length ≤ cA0) (hcB : bs0.length ≤ cB0) (hoA : ∀ p ∈ as0, OkP ags.length p) (hoB : ∀ p ∈ bs0, OkP ags.length p) (hlen : as0.length + bs0.length ≤ 100000) :
    Calls Tryz.prog 11 #[.slice Aa ags.length ca, .slice A0 as0.length cA0, .slice B0 bs0.length cB0] w0 (PartsP w0 (mergeP ags (as0.map PD.pl) (bs0.map PD.pl))) := by
  have HAG := Lib.hid hag
  have HOK := Lib.hid hok
  have HA := Lib.hid (hA.mono (S' := (· < w0.heap.size)) (fun b _ h => h))
  have HB := Lib.hid (hB.mono (S' := (· < w0.heap.size)) (fun b _ h => h))
  have HOA := Lib.hid hoA
  have HOB := Lib.hid hoB
  have HCA := Lib.hid hcA
  have HCB := Lib.hid hcB
  have HLEN := Lib.hid hlen
  obtain ⟨RES, hRES⟩ : ∃ r, r = mergeP ags (as0.map PD.pl) (bs0.map PD.pl) := ⟨_, rfl⟩
  have HRES := Lib.hid hRES
  rw [← hRES]
  clear hRES hag hok hA hB hoA hoB hcA hcB hlen
  go_enter Tryz.func11, Tryz.ntmps11
  go_wp2_with fail
  go_loopw [1, 2, 7] (fun v1 v2 v7 wr => ∃ (as_ bs outs : List PD) (A B : Option Addr) (cA cB : Nat), v1 = .slice A as_.length cA ∧ v2 = .slice B bs.length cB ∧ as_.length ≤ cA ∧ bs.length ≤ cB ∧ PDs (· < w0.heap.size) wr A as_ ∧ PDs (· < w0.heap.size) wr B bs ∧ PRow w0.heap.size wr v7 outs ∧ w0.grownBy wr none ∧
    RES = outs.map PD.pl ++ mergeP ags (as_.map PD.pl) (bs.map PD.pl) ∧ (∀ p ∈ as_, OkP ags.length p) ∧ (∀ p ∈ bs, OkP ags.length p) ∧ as_.length + bs.length + outs.length ≤ 100000) (fun v1 v2 _ _ => lenOf v1 + lenOf v2)
  case atStart => exact ⟨as0, bs0, [], A0, B0, cA0, cB0, rfl, rfl, HCA.out, HCB.out, HA.out, HB.out, PRow.nil _ _, only_refl _ _, by simpa using HRES.out, HOA.out, HOB.out, by simpa using HLEN.out⟩
  case round =>
    obtain ⟨as_, bs, outs, A, B, cA, cB, rfl, rfl, hcA, hcB, hA, hB, hO, hG, hR, hoA, hoB, hlen⟩ := hrel
    clear HA HB HOA HOB HCA HCB HLEN HRES
    have PA := Lib.hid hA
    have PB_ := Lib.hid hB
    have ho := Lib.hid hO
    have G := Lib.hid hG
    have HR := Lib.hid hR
    have HOA := Lib.hid hoA
    have HOB := Lib.hid hoB
    have HCA := Lib.hid hcA
    have HCB := Lib.hid hcB
    have hbase : w0.heap.size ≤ wr.heap.size := hG.size
    have hol : outs.length ≤ 1000000 := by omega
    have HLEN := Lib.hid hlen
    clear hA hB hO hG hR hoA hoB hcA hcB hlen
    by_cases hne : as_ = [] ∨ bs = []
    · have HE := Lib.hid (merge_end (ags := ags) hne)
      obtain ⟨rest, hrest⟩ : ∃ l, l = as_ ++ bs := ⟨_, rfl⟩
      have HRE := Lib.hid hrest
      have hrl : rest.length + outs.length ≤ 100000 := by rw [hrest, List.length_append]; have := HLEN.out; omega
      have HSB : Hid (∀ p ∈ rest, p.Sub (· < w0.heap.size) wr) := Lib.hid (fun p hp => by
        rw [hrest] at hp
        rcases List.mem_append.1 hp with hp | hp
        · exact PA.out.2 p hp
        · exact PB_.out.2 p hp)
      have HSO : Hid (∀ p ∈ rest, OkP ags.length p) := Lib.hid (fun p hp => by
        rw [hrest] at hp
        rcases List.mem_append.1 hp with hp | hp
        · exact HOA.out p hp
        · exact HOB.out p hp)
      have KC : Hid (∀ (vb : Nat) (w' : World), wr.grownBy w' none → Blk w' vb 36 #[.slice A as_.length cA, .slice B bs.length cB] → Calls Tryz.prog 31 #[.slice (some ⟨vb, 0, none⟩) 2 2] w' (CatPaPost w' rest.length (rest.flatMap PD.cells))) := Lib.hid (fun vb w' hg hB => by
        have h0 := concatPa_any (S := (· < w0.heap.size)) vb [⟨A, as_.length, as_.flatMap PD.cells, cA⟩, ⟨B, bs.length, bs.flatMap PD.cells, cB⟩] w' hB (by
          intro r hr
          simp only [List.mem_cons, List.not_mem_nil, or_false] at hr
          rcases hr with rfl | rfl
          · exact PA.out.1.grown hg (by simp)
          · exact PB_.out.1.grown hg (by simp)) (by
          intro r hr
          simp only [List.mem_cons, List.not_mem_nil, or_false] at hr
          rcases hr with rfl | rfl <;> exact flat_len PD.cells 4 PD.cells_len _) (by
          intro r hr u hu
          simp only [List.mem_cons, List.not_mem_nil, or_false] at hr
          rcases hr with rfl | rfl <;> exact pds_one _ u hu) (by simp) (by
          intro r hr
          have := HLEN.out
          simp only [List.mem_cons, List.not_mem_nil, or_false] at hr
          rcases hr with rfl | rfl <;> (simp only; omega))
        have e1 : numPa [⟨A, as_.length, as_.flatMap PD.cells, cA⟩, ⟨B, bs.length, bs.flatMap PD.cells, cB⟩] = rest.length := by simp [numPa, hrest]
        have e2 : catPa [⟨A, as_.length, as_.flatMap PD.cells, cA⟩, ⟨B, bs.length, bs.flatMap PD.cells, cB⟩] = rest.flatMap PD.cells := by simp [catPa, hrest]
        rw [e1, e2] at h0
        exact h0)
      have hcond : (¬ (0 : Int) < (as_.length : Int)) ∨ ((0 : Int) < (as_.length : Int) ∧ ¬ (0 : Int) < (bs.length : Int)) := by
        by_cases h0 : as_.length = 0
        · left; omega
        · right
          rcases hne with h | h
          · rw [h] at h0; exact absurd rfl h0
          · rw [h]; simp; omega
      have KK := Lib.hid (KC.out wr.heap.size (wr.alloc (.cells #[.slice A as_.length cA, .slice B bs.length cB] 36)) (only_alloc (only_refl _ _) _) (Blk.new _ _ _))
      obtain ⟨vO, hvOd⟩ : ∃ v, v = u7 := ⟨_, rfl⟩
      rw [← hvOd] at ho ⊢
      clear hvOd hne hrest KC
      rcases hcond with j1 | ⟨j1, j2⟩
      all_goals
        go_wp2_with fail
        refine KK.out.mono ?_
        rintro en w4 ⟨v4, rfl, ho4, hg4⟩
        obtain ⟨AR, cR, rfl, hr1, hr2, -, hrd⟩ := Rd.of_own ho4 (by decide)
        have hga := only_trans (only_alloc (only_refl wr none) _) hg4
        have G4 := Lib.hid (only_trans G.out hga)
        have O4 := Lib.hid (ho.out.ext hga)
        have S4 : Hid (∀ p ∈ rest, p.Sub (· < w0.heap.size) w4) := Lib.hid (fun p hp => (HSB.out p hp).grown hga (by simp))
        have R4 : Hid (Rd (fun b => Value.ownBlock vO ≠ some b) w4 AR (rest.flatMap PD.cells)) := Lib.hid (hrd.mono (fun b hb _ e => by have h1 := ho.out.lt b e; have hq := hb; simp at hq; omega))
        clear hr1 hr2 hrd ho4 hg4 hga KK
        go_wp2_with fail
        go_loopw [7, 72] (fun v7 i wq => ∃ (k : Nat) (os : List PD), i = .int .i64 k ∧ k ≤ rest.length ∧ PRow w0.heap.size wq v7 os ∧ Rd (fun b => Value.ownBlock v7 ≠ some b) wq AR (rest.flatMap PD.cells) ∧ (∀ p ∈ rest, p.Sub (· < w0.heap.size) wq) ∧ w0.grownBy wq none ∧ os.map PD.pl = outs.map PD.pl ++ (rest.take k).map PD.pl ∧ os.length = outs.length + k) (fun _ i _ => rest.length - (intOf i).toNat)
        case atStart => exact ⟨0, outs, rfl, Nat.zero_le _, O4.out, R4.out, S4.out, G4.out, by simp, by simp⟩
        case round =>
          obtain ⟨k, os, rfl, hk, hO, hR, hS, hG, hm, hos⟩ := hrel
          clear O4 R4 S4 G4
          have OQ := Lib.hid hO
          have RQ := Lib.hid hR
          have SQ := Lib.hid hS
          have GQ := Lib.hid hG
          have HM := Lib.hid hm
          have HOS := Lib.hid hos
          have hosl : os.length ≤ 1000000 := by omega
          have hbq : w0.heap.size ≤ wr.heap.size := hG.size
          clear hO hR hS hG hm hos
          by_cases hlt : k < rest.length
          · obtain ⟨x, hx⟩ : ∃ x, rest[k]? = some x := ⟨_, List.getElem?_eq_getElem hlt⟩
            obtain ⟨bX, oX, rfl, hbX, a0, a1, a2, a3⟩ := pd_in RQ.out hx
            have okx := HSO.out x (List.mem_of_getElem? hx)
            have sx := SQ.out x (List.mem_of_getElem? hx)
            have HNX : Hid ((rest.take (k + 1)).map PD.pl = (rest.take k).map PD.pl ++ [x.pl]) := Lib.hid (by
              obtain ⟨h1, e⟩ := List.getElem?_eq_some_iff.1 hx
              rw [List.take_succ_eq_append_getElem h1, e]; simp)
            have KX : Hid (∀ w', wr.grownBy w' none → Calls Tryz.prog 29 #[.agg #[.slice x.key.a x.key.l.length x.key.c, .slice x.ta x.cs.length x.tc, .slice x.sa x.cs.length x.sc, .slice x.va x.cs.length x.vc]] w' (PartP w' x.pl)) := Lib.hid (fun w' hg => copied_any x w' (sx.grown hg (by simp)) (by have := okx.1; omega) (by have := okx.2.1; omega) okx.2.2)
            have i1 : (k : Int) < (rest.length : Int) := by omega
            have hga : wr.grownBy (wr.alloc (.cells #[.slice x.key.a x.key.l.length x.key.c, .slice x.ta x.cs.length x.tc, .slice x.sa x.cs.length x.sc, .slice x.va x.cs.length x.vc] 69)) none := World.grownBy_alloc _ _ none
            have GA2 := Lib.hid hga
            obtain ⟨vQ, hvQd⟩ : ∃ v, v = u7 := ⟨_, rfl⟩
            rw [← hvQd] at OQ RQ ⊢
            clear hvQd hx okx sx hga
            go_wp2_with fail
            refine (KX.out _ GA2.out).mono ?_
            rintro en w6 ⟨p, rfl, hp1, hp2, hg6⟩
            have G6 := Lib.hid (only_trans GA2.out hg6)
            have O6 := Lib.hid (own_ext OQ.out.own G6.out)
            have P6 : Hid (p.Sub (wr.heap.size ≤ ·) w6) := Lib.hid (hp2.mono (fun b hb _ => by have hq := hb; simp at hq; show wr.heap.size ≤ b; omega))
            have hz6 : wr.heap.size ≤ w6.heap.size := G6.out.size
            have HP1 := Lib.hid hp1
            clear hp1 hp2 hg6 a0 a1 a2 a3 KX GA2
            go_wp2_with (at_builtin; go_must (refine wpList_append1 rfl _ _ 36 rfl w0.heap.size Tryz.underlying36 partInfo rfl (by decide) (v := vQ) (by rfl) (w0 := w6) (cs := pArr p) O6.out (by rfl) rfl (by simp [Value.oneCell']) (by decide) (by omega) (by omega) ?_); intro v7 w7 hown7 hg7 hob7)
            have ON := Lib.hid (OQ.out.snoc1 G6.out P6.out (Nat.le_refl _) (show w7.ownsRow w0.heap.size 69 4 v7 (os.length + 1) (os.flatMap PD.cells ++ p.cells) from hown7) hg7 hob7 hbq)
            have FR : Hid (FrN (fun i => Value.ownBlock vQ = some i) wr w7) := Lib.hid ((fr_of_none G6.out).grow hg7 (fun g hg => .inl hg))
            have NB : Hid (∀ b, b < wr.heap.size → Value.ownBlock vQ ≠ some b → Value.ownBlock v7 ≠ some b) := Lib.hid (fun b hb h1 e => by
              rcases hob7 with h2 | h2
              · exact h1 (h2.symm.trans e)
              · rw [h2] at e; injection e with e; omega)
            have RN := Lib.hid ((FR.out.rd (RQ.out.mono (S' := fun b => Value.ownBlock vQ ≠ some b ∧ b < wr.heap.size) (fun b hb hlt => ⟨hb, hlt⟩)) (fun b hb hB => hb.1 hB)).mono (S' := fun b => Value.ownBlock v7 ≠ some b) (fun b hb _ => NB.out b hb.2 hb.1))
            have SN : Hid (∀ p ∈ rest, p.Sub (· < w0.heap.size) w7) := Lib.hid (fun q hq => (SQ.out q hq).fr FR.out (fun b hb e => by have hb' : b < w0.heap.size := hb; have := (OQ.out.own.lt b e).1; omega))
            have GN : Hid (w0.grownBy w7 none) := Lib.hid (FR.out.none_ GQ.out (fun i hi => (OQ.out.own.lt i hi).1))
            clear hown7 hg7 hob7 FR NB O6 P6 G6 OQ RQ SQ GQ
            go_wp2_with fail
            go_roundw
            case rel => exact ⟨k + 1, os ++ [p], by go_num, by omega, ON.out, RN.out, SN.out, GN.out, by rw [List.map_append, HM.out, HNX.out, List.map_singleton, HP1.out]; simp, by rw [List.length_append, HOS.out]; simp; omega⟩
            case measure => simp [intOf]; omega
          · have i1 : ¬ (k : Int) < (rest.length : Int) := by omega
            obtain ⟨AO, cO, hvO', ho1, ho2, -, ho3⟩ := Rd.of_own OQ.out.own (by decide)
            have OSUB := Lib.hid OQ.out.sub
            have H1 := Lib.hid (⟨ho1, ho2⟩ : os.length ≤ cO ∧ cO ≤ maxLen)
            have H3 := Lib.hid ho3
            rw [hvO']
            clear hvO' ho1 ho2 ho3
            go_wp2_with fail
            go_ret
            exact ⟨AO, cO, os, rfl, by rw [HM.out, List.take_of_length_le (by omega), HRE.out, ← HE.out, HR.out], H1.out.1, H1.out.2, ⟨H3.out, fun p hp => (OSUB.out p hp).mono (fun b hb _ => hb.1)⟩, GQ.out⟩
    · obtain ⟨x, as_, rfl⟩ : ∃ x l, as_ = x :: l := by cases as_ with | nil => exact absurd (.inl rfl) hne | cons x l => exact ⟨x, l, rfl⟩
      obtain ⟨y, bs, rfl⟩ : ∃ x l, bs = x :: l := by cases bs with | nil => exact absurd (.inr rfl) hne | cons x l => exact ⟨x, l, rfl⟩
      clear hne
      obtain ⟨bA, oA, rfl, hbA, a0, a1, a2, a3⟩ := pd_in PA.out.1 (i := 0) (y := x) rfl
      obtain ⟨bB, oB, rfl, hbB, b0, b1, b2, b3⟩ := pd_in PB_.out.1 (i := 0) (y := y) rfl
      simp only [Nat.zero_mul, Nat.add_zero] at a0 a1 a2 a3 b0 b1 b2 b3
      have hbAL : as_.length + 1 ≤ cA := by simpa using HCA.out
      have hbBL : bs.length + 1 ≤ cB := by simpa using HCB.out
      simp only [List.length_cons]
      obtain ⟨vO, hvOd⟩ : ∃ v, v = u7 := ⟨_, rfl⟩
      rw [← hvOd] at ho ⊢
      clear hvOd
      have hvO : ∀ g, Value.ownBlock vO = some g → g < wr.heap.size := ho.out.lt
      have hbA0 : bA < w0.heap.size := by obtain ⟨b', o', e', h1, -⟩ := PA.out.1 (by rw [flat_len _ 4 PD.cells_len]; simp); injection e' with e'; injection e' with e1 e2; subst e1; exact h1
      have hbB0 : bB < w0.heap.size := by obtain ⟨b', o', e', h1, -⟩ := PB_.out.1 (by rw [flat_len _ 4 PD.cells_len]; simp); injection e' with e'; injection e' with e1 e2; subst e1; exact h1
      have hnA : ¬ (Value.ownBlock vO = some bA) := fun e => by have := (ho.out.own.lt _ e).1; omega
      have hnB : ¬ (Value.ownBlock vO = some bB) := fun e => by have := (ho.out.own.lt _ e).1; omega
      have okx := HOA.out x (List.mem_cons_self ..)
      have oky := HOB.out y (List.mem_cons_self ..)
      have hnlow : ∀ b, b < w0.heap.size → ¬ (Value.ownBlock vO = some b) := fun b hb e => by have := (ho.out.own.lt _ e).1; omega
      have KCx : Hid (∀ w', FrN (fun i => Value.ownBlock vO = some i) wr w' → Calls Tryz.prog 29 #[.agg #[.slice x.key.a x.key.l.length x.key.c, .slice x.ta x.cs.length x.tc, .slice x.sa x.cs.length x.sc, .slice x.va x.cs.length x.vc]] w' (PartP w' x.pl)) := Lib.hid (fun w' hf => copied_any x w' ((PA.out.2 x (List.mem_cons_self ..)).fr hf hnlow) (by have := okx.1; omega) (by have := okx.2.1; omega) okx.2.2)
      have KCy : Hid (∀ w', FrN (fun i => Value.ownBlock vO = some i) wr w' → Calls Tryz.prog 29 #[.agg #[.slice y.key.a y.key.l.length y.key.c, .slice y.ta y.cs.length y.tc, .slice y.sa y.cs.length y.sc, .slice y.va y.cs.length y.vc]] w' (PartP w' y.pl)) := Lib.hid (fun w' hf => copied_any y w' ((PB_.out.2 y (List.mem_cons_self ..)).fr hf hnlow) (by have := oky.1; omega) (by have := oky.2.1; omega) oky.2.2)
      obtain ⟨zB, hzB⟩ : ∃ z : PP, z = ⟨x.key.l, joinL ags (x.cs.map CM.pl) (y.cs.map CM.pl)⟩ := ⟨_, rfl⟩
      have KB : Hid (∀ w', FrN (fun i => Value.ownBlock vO = some i) wr w' → Calls Tryz.prog 30 #[.slice Aa ags.length ca, .agg #[.slice x.key.a x.key.l.length x.key.c, .slice x.ta x.cs.length x.tc, .slice x.sa x.cs.length x.sc, .slice x.va x.cs.length x.vc], .agg #[.slice y.key.a y.key.l.length y.key.c, .slice y.ta y.cs.length y.tc, .slice y.sa y.cs.length y.sc, .slice y.va y.cs.length y.vc]] w' (PartP w' zB)) := Lib.hid (fun w' hf => by
        rw [hzB]
        exact both_any Aa ags ca x y w' ((HAG.out.mono (S' := (· < w0.heap.size)) (fun b _ h => h)).grown G.out (by simp) |> fun h => hf.rd h hnlow) hal HOK.out ((PA.out.2 x (List.mem_cons_self ..)).fr hf hnlow) ((PB_.out.2 y (List.mem_cons_self ..)).fr hf hnlow) okx.1 oky.1 (by have := okx.2.1; omega) okx.2.2 oky.2.2)
      have KD : Hid (∀ w', wr.grownBy w' none → Calls Tryz.prog 15 #[.slice x.key.a x.key.l.length x.key.c, .slice y.key.a y.key.l.length y.key.c] w' (IntP (cmpK x.key.l y.key.l) w')) := Lib.hid (fun w' hg => pcmp_any _ _ x.key.l y.key.l _ _ w' ((PA.out.2 x (List.mem_cons_self ..)).1.1.grown hg (by simp)) ((PB_.out.2 y (List.mem_cons_self ..)).1.1.grown hg (by simp)) (by have := okx.2.1; omega) (by have := oky.2.1; omega))
      obtain ⟨d, hd⟩ : ∃ d, d = cmpK x.key.l y.key.l := ⟨_, rfl⟩
      have HD0 := Lib.hid hd
      have HZB := Lib.hid hzB
      rw [← hd] at KD
      clear hd hzB okx oky hnlow
      have TA : Hid (PDs (· < w0.heap.size) wr (some ⟨bA, tailG oA 4 cA, none⟩) as_) := Lib.hid (pdsTail PA.out hbAL)
      have TB : Hid (PDs (· < w0.heap.size) wr (some ⟨bB, tailG oB 4 cB, none⟩) bs) := Lib.hid (pdsTail PB_.out hbBL)
      have i1 : (0 : Int) < (as_.length : Int) + 1 := by omega
      have i2 : (0 : Int) < (bs.length : Int) + 1 := by omega
      go_wp2_with fail
      refine wp_region_gen 9 (JC [some (.slice (some ⟨bA, oA, none⟩) (as_.length + 1) (cA)), some (.pointer (some ⟨bA, oA, none⟩)), some (.pointer (some ⟨bA, oA, none⟩)), some (.slice x.key.a x.key.l.length x.key.c), some (.slice (some ⟨bB, oB, none⟩) (bs.length + 1) (cB)), some (.pointer (some ⟨bB, oB, none⟩)), some (.pointer (some ⟨bB, oB, none⟩)), some (.slice y.key.a y.key.l.length y.key.c), some (.int .i64 (d))] (fun D u w => wr.grownBy w none)) (by kernel_rfl) (by kernel_rfl) ?_ ?_ ?_
      · intro u
        exact ⟨(fun j c _ h => by cases h), only_drew (only_refl _ _)⟩
      · intro AA hA
        have hasz : AA.tmps.size = 83 := by rw [hA]; kernel_rfl
        have ea1 : AA.eval (.tmp 1) = .slice (some ⟨bA, oA, none⟩) (as_.length + 1) (cA) := by rw [hA]; kernel_rfl
        have ea2 : AA.eval (.tmp 2) = .slice (some ⟨bB, oB, none⟩) (bs.length + 1) (cB) := by rw [hA]; kernel_rfl
        clear hA
        simp only [List.take_succ_cons, List.take_zero]
        refine .cons ?_ (.cons ?_ (.cons ?_ (.cons ?_ (.cons ?_ (.cons ?_ (.cons ?_ (.cons ?_ (.cons ?_ (.nil)))))))))
        · exact gd_gen (by kernel_rfl) (Want.none_ rfl) rfl (fun D u w v h => h) (fun D u ρ w kn => by
            have e0 := kn.own 1 (c := .slice (some ⟨bA, oA, none⟩) (as_.length + 1) (cA)) (by kernel_rfl) ea1
            simp [execOp, kn.rho.con, e0, go_sem])
        · exact gd_gen (by kernel_rfl) (Want.none_ rfl) rfl (fun D u w v h => h) (fun D u ρ w kn => by
            have e0 := kn.con 0 19 (c := .slice (some ⟨bA, oA, none⟩) (as_.length + 1) (cA)) (by kernel_rfl) (by omega) (by kernel_rfl) rfl
            exact run_ix0P ρ w rfl kn.rho.con e0)
        · exact gd_gen (by kernel_rfl) (Want.none_ rfl) rfl (fun D u w v h => h) (fun D u ρ w kn => by
            have e0 := kn.con 1 20 (c := .pointer (some ⟨bA, oA, none⟩)) (by kernel_rfl) (by omega) (by kernel_rfl) rfl
            simp [execOp, kn.rho.con, e0, go_sem])
        · exact gd_gen (by kernel_rfl) (Want.none_ rfl) rfl (fun D u w v h => h) (fun D u ρ w kn => by
            have e0 := kn.con 2 21 (c := .pointer (some ⟨bA, oA, none⟩)) (by kernel_rfl) (by omega) (by kernel_rfl) rfl
            have f0 := (cellG kn.ext hbA).trans a0
            simp [execOp, kn.rho.con, e0, f0, go_sem])
        · exact gd_gen (by kernel_rfl) (Want.none_ rfl) rfl (fun D u w v h => h) (fun D u ρ w kn => by
            have e0 := kn.own 2 (c := .slice (some ⟨bB, oB, none⟩) (bs.length + 1) (cB)) (by kernel_rfl) ea2
            simp [execOp, kn.rho.con, e0, go_sem])
        · exact gd_gen (by kernel_rfl) (Want.none_ rfl) rfl (fun D u w v h => h) (fun D u ρ w kn => by
            have e0 := kn.con 4 23 (c := .slice (some ⟨bB, oB, none⟩) (bs.length + 1) (cB)) (by kernel_rfl) (by omega) (by kernel_rfl) rfl
            exact run_ix0P ρ w rfl kn.rho.con e0)
        · exact gd_gen (by kernel_rfl) (Want.none_ rfl) rfl (fun D u w v h => h) (fun D u ρ w kn => by
            have e0 := kn.con 5 24 (c := .pointer (some ⟨bB, oB, none⟩)) (by kernel_rfl) (by omega) (by kernel_rfl) rfl
            simp [execOp, kn.rho.con, e0, go_sem])
        · exact gd_gen (by kernel_rfl) (Want.none_ rfl) rfl (fun D u w v h => h) (fun D u ρ w kn => by
            have e0 := kn.con 6 25 (c := .pointer (some ⟨bB, oB, none⟩)) (by kernel_rfl) (by omega) (by kernel_rfl) rfl
            have f0 := (cellG kn.ext hbB).trans b0
            simp [execOp, kn.rho.con, e0, f0, go_sem])
        · refine gd_call (by kernel_rfl) (Want.none_ rfl) 15 (fun D u ρ w kn hD => ?_)
          have e0 := kn.con 3 22 (c := .slice x.key.a x.key.l.length x.key.c) (by kernel_rfl) (by omega) (by kernel_rfl) rfl
          have e1 := kn.con 7 26 (c := .slice y.key.a y.key.l.length y.key.c) (by kernel_rfl) (by omega) (by kernel_rfl) rfl
          refine ⟨#[.slice x.key.a x.key.l.length x.key.c, .slice y.key.a y.key.l.length y.key.c], ?_, (KD.out w kn.ext).mono ?_⟩
          · simp only [execOp, resolve, Deferred.ofValue, List.map_toArray, List.map_cons, List.map_nil, e0, e1, kn.rho.con, kn.rho.fn]
            simp [go_sem]
          · rintro e w' ⟨rfl, rfl⟩
            exact ⟨_, rfl, (fun c h => by injection h with h; injection h), kn.ext⟩
      · intro D u w3 hJ hD
        obtain ⟨hc, hg3⟩ := hJ
        have e8 : u 8 = .int .i64 d := hc 8 _ rfl (hD 8 (by omega))
        simp only [List.take_succ_cons, List.take_zero, List.drop_succ_cons, List.drop_zero, putAll]
        rw [e8]
        have ho3 := Lib.hid (ho.out.ext hg3)
        have G3 := Lib.hid (only_trans G.out hg3)
        have hg3' := hg3
        have hvO3 : ∀ g, Value.ownBlock vO = some g → g < w3.heap.size := ho3.out.lt
        have hbase3 : w0.heap.size ≤ w3.heap.size := G3.out.size
        replace a0 := (cellG hg3 hbA).trans a0; replace a1 := (cellG hg3 hbA).trans a1; replace a2 := (cellG hg3 hbA).trans a2; replace a3 := (cellG hg3 hbA).trans a3
        replace b0 := (cellG hg3 hbB).trans b0; replace b1 := (cellG hg3 hbB).trans b1; replace b2 := (cellG hg3 hbB).trans b2; replace b3 := (cellG hg3 hbB).trans b3
        replace hbA : bA < w3.heap.size := Nat.lt_of_lt_of_le hbA hg3.size
        replace hbB : bB < w3.heap.size := Nat.lt_of_lt_of_le hbB hg3.size
        have FR3 : ∀ w', FrN (fun i => Value.ownBlock vO = some i) w3 w' → FrN (fun i => Value.ownBlock vO = some i) wr w' := fun w' hf => (fr_of_none hg3).trans hf (fun i hi => .inl hi)
        have KCx := Lib.hid (fun w' hf => KCx.out w' (FR3 w' hf))
        have KCy := Lib.hid (fun w' hf => KCy.out w' (FR3 w' hf))
        have KB := Lib.hid (fun w' hf => KB.out w' (FR3 w' hf))
        have HDR := cmpK_range x.key.l y.key.l
        have HAN := cmpK_anti x.key.l y.key.l
        rw [← HD0.out] at HDR HAN
        have HD1 := HD0.out
        have HG3 := Lib.hid hg3'
        clear hc hD e8 hg3 FR3 KD G
        by_cases h1 : d < 0
        · have HLT : Hid (LtK x.pl.key y.pl.key) := Lib.hid (by show cmpK x.key.l y.key.l = -1; omega)
          clear HDR HAN HD1 hg3'
          have hg3' := HG3.out
          go_wp2_with fail
          refine wp_region_gen2 10 (JC [some (vO), some (.slice (some ⟨bA, oA, none⟩) (as_.length + 1) (cA)), some (.pointer (some ⟨bA, oA, none⟩)), some (.agg #[.slice x.key.a x.key.l.length x.key.c, .slice x.ta x.cs.length x.tc, .slice x.sa x.cs.length x.sc, .slice x.va x.cs.length x.vc]), none, none, none, some (.slice (some ⟨bA, oA, none⟩) (as_.length + 1) (cA)), some (.slice (some ⟨bA, tailG oA 4 cA, none⟩) as_.length (cA - 1)), none] (fun D u w => FrN (fun i => Value.ownBlock vO = some i) w3 w ∧ CApp w3 w0.heap.size 4 5 6 vO outs.length (outs.flatMap PD.cells) x.pl D u w ∧ Late 9 6 [0] (vO) D u)) (by kernel_rfl) (by kernel_rfl) ?_ ?_ ?_
          · intro u hu0
            have hl0 : u 9 = vO := ((putAll_at u _ 0 9 _ 7 (by kernel_rfl) (by kernel_rfl) (of_decide_eq_true (by kernel_rfl))).symm.trans (congrArg (fun (a : Act) => a.eval (.tmp 7)) hu0)).trans (by kernel_rfl) |> fun h => by simpa using h
            exact ⟨(fun j c _ h => by cases h), FrN.refl _ _, CApp.start ho3.out.own, Late.start hl0⟩
          · intro AA hA
            have hasz : AA.tmps.size = 83 := by rw [hA]; kernel_rfl
            have ea1 : AA.eval (.tmp 1) = .slice (some ⟨bA, oA, none⟩) (as_.length + 1) (cA) := by rw [hA]; kernel_rfl
            clear hA
            simp only [List.take_succ_cons, List.take_zero]
            refine .cons ?_ (.cons ?_ (.cons ?_ (.cons ?_ (.cons ?_ (.cons ?_ (.cons ?_ (.cons ?_ (.cons ?_ (.cons ?_ (.nil))))))))))
            · refine gd_eff (by kernel_rfl) (Want.none_ rfl) (fun D u ρ w kn hD => ?_)
              have e0 := kn.slot 9 7 (by kernel_rfl) (by omega)
              obtain ⟨x1, x2, x3⟩ := kn.ext
              exact ⟨vO, w, by rw [exec_move (x := .tmp 7) rfl, e0, x3.seen (by simp) hD], (fun c h => by injection h with h; injection h), x1, x2.other _ (by omega) (by omega) (by omega), x3.other (by omega) (by omega)⟩
            · exact gd_gen (by kernel_rfl) (Want.none_ rfl) rfl (fun D u w v h => by obtain ⟨x1, x2, x3⟩ := h; exact ⟨x1, x2.other v (by omega) (by omega) (by omega), x3.other (by omega) (by omega)⟩) (fun D u ρ w kn => by
                have e0 := kn.own 1 (c := .slice (some ⟨bA, oA, none⟩) (as_.length + 1) (cA)) (by kernel_rfl) ea1
                simp [execOp, kn.rho.con, e0, go_sem])
            · exact gd_gen (by kernel_rfl) (Want.none_ rfl) rfl (fun D u w v h => by obtain ⟨x1, x2, x3⟩ := h; exact ⟨x1, x2.other v (by omega) (by omega) (by omega), x3.other (by omega) (by omega)⟩) (fun D u ρ w kn => by
                have e0 := kn.con 1 47 (c := .slice (some ⟨bA, oA, none⟩) (as_.length + 1) (cA)) (by kernel_rfl) (by omega) (by kernel_rfl) rfl
                exact run_ix0P ρ w rfl kn.rho.con e0)
            · exact gd_gen (by kernel_rfl) (Want.none_ rfl) rfl (fun D u w v h => by obtain ⟨x1, x2, x3⟩ := h; exact ⟨x1, x2.other v (by omega) (by omega) (by omega), x3.other (by omega) (by omega)⟩) (fun D u ρ w kn => by
                have e0 := kn.con 2 48 (c := .pointer (some ⟨bA, oA, none⟩)) (by kernel_rfl) (by omega) (by kernel_rfl) rfl
                exact run_load ρ w rfl e0 (load_partAt w bA oA x ((kn.ext.1.cell hbA hnA).trans a0) ((kn.ext.1.cell hbA hnA).trans a1) ((kn.ext.1.cell hbA hnA).trans a2) ((kn.ext.1.cell hbA hnA).trans a3)))
            · refine gd_call (by kernel_rfl) (Want.none_ rfl) 29 (fun D u ρ w kn hD => ?_)
              have e0 := kn.con 3 49 (c := .agg #[.slice x.key.a x.key.l.length x.key.c, .slice x.ta x.cs.length x.tc, .slice x.sa x.cs.length x.sc, .slice x.va x.cs.length x.vc]) (by kernel_rfl) (by omega) (by kernel_rfl) rfl
              refine ⟨#[.agg #[.slice x.key.a x.key.l.length x.key.c, .slice x.ta x.cs.length x.tc, .slice x.sa x.cs.length x.sc, .slice x.va x.cs.length x.vc]], ?_, (KCx.out w kn.ext.1).mono ?_⟩
              · simp only [execOp, resolve, Deferred.ofValue, List.map_toArray, List.map_cons, List.map_nil, e0, kn.rho.con, kn.rho.fn]
                simp [go_sem]
              · rintro e w' ⟨p, rfl, hp1, hp2, hg⟩
                obtain ⟨x1, x2, x3⟩ := kn.ext
                exact ⟨_, rfl, (fun c h => by injection h with h; cases h), x1.grow hg (by simp), x2.called (by omega) (by omega) hD hg hp1 hp2 x1.2.2.2.1, x3.other (by omega) (by omega)⟩
            · refine gd_eff (by kernel_rfl) (Want.none_ rfl) (fun D u ρ w kn hD => ?_)
              have e0 := kn.slot 4 50 (by kernel_rfl) (by omega)
              have d0 := kn.dep 4 (by kernel_rfl)
              obtain ⟨x1, x2, x3⟩ := kn.ext
              obtain ⟨p, hp, -⟩ := x2.s1 d0
              rw [hp] at e0
              exact ⟨.slice (some ⟨w.heap.size, 0, none⟩) 1 1, w.alloc (.cells (pArr p) 69), by simp [execOp, kn.rho.con, e0, go_sem, pArr], (fun c h => by injection h with h; cases h), x1.alloc _, x2.laid (by omega) (by omega) hD d0 hp x1.2.2.2.1, x3.other (by omega) (by omega)⟩
            · refine gd_eff (by kernel_rfl) (Want.none_ rfl) (fun D u ρ w kn hD => ?_)
              have e0 := kn.con 0 46 (c := vO) (by kernel_rfl) (by omega) (by kernel_rfl) rfl
              have e1 := kn.slot 5 51 (by kernel_rfl) (by omega)
              have d0 := kn.dep 5 (by kernel_rfl)
              obtain ⟨x1, x2, x3⟩ := kn.ext
              obtain ⟨v', w', hr, hg, hJ⟩ := x2.run (by omega) (by omega) hD d0 hvO3 hol (Nat.le_trans hbase3 x1.2.2.2.1) x1.2.2.2.1
              exact ⟨v', w', exec_append rfl e0 e1 hr, (fun c h => by injection h with h; cases h), x1.grow hg (fun g hg => .inl hg), hJ, x3.src (by omega) hD⟩
            · exact gd_gen (by kernel_rfl) (Want.none_ rfl) rfl (fun D u w v h => by obtain ⟨x1, x2, x3⟩ := h; exact ⟨x1, x2.other v (by omega) (by omega) (by omega), x3.other (by omega) (by omega)⟩) (fun D u ρ w kn => by
                have e0 := kn.own 1 (c := .slice (some ⟨bA, oA, none⟩) (as_.length + 1) (cA)) (by kernel_rfl) ea1
                simp [execOp, kn.rho.con, e0, go_sem])
            · exact gd_gen (by kernel_rfl) (Want.none_ rfl) rfl (fun D u w v h => by obtain ⟨x1, x2, x3⟩ := h; exact ⟨x1, x2.other v (by omega) (by omega) (by omega), x3.other (by omega) (by omega)⟩) (fun D u ρ w kn => by
                have e0 := kn.con 7 53 (c := .slice (some ⟨bA, oA, none⟩) (as_.length + 1) (cA)) (by kernel_rfl) (by omega) (by kernel_rfl) rfl
                exact run_tailG ρ w rfl Tryz.underlying36 partSize kn.rho.con e0 hbAL)
            · refine gd_eff (by kernel_rfl) (Want.none_ rfl) (fun D u ρ w kn hD => ?_)
              have e0 := kn.slot 6 52 (by kernel_rfl) (by omega)
              have dj := kn.dep 6 (by kernel_rfl)
              have d0 := kn.dep 0 (by kernel_rfl)
              obtain ⟨x1, x2, x3⟩ := kn.ext
              exact ⟨u 6, w, by rw [exec_assign (x := .tmp 52) rfl, e0], (fun c h => by injection h with h; cases h), x1, x2.other _ (by omega) (by omega) (by omega), x3.set_ (by omega) dj (by intro r hr; simp at hr; subst hr; exact d0)⟩
          · intro D u w5 hJ hD
            obtain ⟨hc, x1, x2, x3⟩ := hJ
            obtain ⟨p, hp, hown, hsub, hnew⟩ := x2.fin (hD 6 (by omega))
            have eT : u 8 = .slice (some ⟨bA, tailG oA 4 cA, none⟩) as_.length (cA - 1) := hc 8 _ rfl (hD 8 (by omega))
            obtain ⟨AO, cO, hv5, -, -, -, -⟩ := Rd.of_own hown (by decide)
            simp only [List.take_succ_cons, List.take_zero, List.drop_succ_cons, List.drop_zero, putAll]
            rw [hv5] at hown hsub hnew
            have e9 : u 9 = .slice AO (outs.length + 1) cO := (x3.after (hD 9 (by omega))).trans hv5
            rw [e9, eT]
            have hsn := ho3.out.snoc hown hsub hnew x1 hbase3
            have OUT := Lib.hid hsn
            have HP5 := Lib.hid hp
            have G5 : Hid (w0.grownBy w5 none) := Lib.hid (x1.none_ G3.out (fun i hi => (ho3.out.own.lt i hi).1))
            have hlow : ∀ b, b < w0.heap.size → ¬ (Value.ownBlock vO = some b) := fun b hb e => by have := (ho3.out.own.lt _ e).1; omega
            have PA5 := Lib.hid ((TA.out.grown hg3' (by simp)).fr x1 hlow)
            have PB5 := Lib.hid ((PB_.out.grown hg3' (by simp)).fr x1 hlow)
            clear hc x1 x2 x3 e9 hown hsub hnew hv5 hsn hp hD hlow KCx KCy KB a0 a1 a2 a3 b0 b1 b2 b3 HD0 eT
            go_wp2_with fail
            go_roundw
            case rel => exact ⟨as_, y :: bs, outs ++ [p], _, _, cA - 1, cB, rfl, rfl, by omega, by simpa using HCB.out, PA5.out, PB5.out, OUT.out, G5.out, by rw [HR.out, List.map_cons, List.map_cons, mergeP_lt HLT.out, List.map_append, List.map_singleton, HP5.out]; simp, fun q hq => HOA.out q (List.mem_cons_of_mem _ hq), HOB.out, by have := HLEN.out; simp at this ⊢; omega⟩
            case measure => simp [lenOf] <;> omega
        · by_cases h2 : 0 < d
          · have HLT : Hid (LtK y.pl.key x.pl.key) := Lib.hid (by show cmpK y.key.l x.key.l = -1; rw [HD0.out] at h2; omega)
            clear HDR HAN HD1 hg3'
            have hg3' := HG3.out
            go_wp2_with fail
            refine wp_region_gen2 10 (JC [some (vO), some (.slice (some ⟨bB, oB, none⟩) (bs.length + 1) (cB)), some (.pointer (some ⟨bB, oB, none⟩)), some (.agg #[.slice y.key.a y.key.l.length y.key.c, .slice y.ta y.cs.length y.tc, .slice y.sa y.cs.length y.sc, .slice y.va y.cs.length y.vc]), none, none, none, some (.slice (some ⟨bB, oB, none⟩) (bs.length + 1) (cB)), some (.slice (some ⟨bB, tailG oB 4 cB, none⟩) bs.length (cB - 1)), none] (fun D u w => FrN (fun i => Value.ownBlock vO = some i) w3 w ∧ CApp w3 w0.heap.size 4 5 6 vO outs.length (outs.flatMap PD.cells) y.pl D u w ∧ Late 9 6 [0] (vO) D u)) (by kernel_rfl) (by kernel_rfl) ?_ ?_ ?_
            · intro u hu0
              have hl0 : u 9 = vO := ((putAll_at u _ 0 9 _ 7 (by kernel_rfl) (by kernel_rfl) (of_decide_eq_true (by kernel_rfl))).symm.trans (congrArg (fun (a : Act) => a.eval (.tmp 7)) hu0)).trans (by kernel_rfl) |> fun h => by simpa using h
              exact ⟨(fun j c _ h => by cases h), FrN.refl _ _, CApp.start ho3.out.own, Late.start hl0⟩
            · intro AA hA
              have hasz : AA.tmps.size = 83 := by rw [hA]; kernel_rfl
              have ea2 : AA.eval (.tmp 2) = .slice (some ⟨bB, oB, none⟩) (bs.length + 1) (cB) := by rw [hA]; kernel_rfl
              clear hA
              simp only [List.take_succ_cons, List.take_zero]
              refine .cons ?_ (.cons ?_ (.cons ?_ (.cons ?_ (.cons ?_ (.cons ?_ (.cons ?_ (.cons ?_ (.cons ?_ (.cons ?_ (.nil))))))))))
              · refine gd_eff (by kernel_rfl) (Want.none_ rfl) (fun D u ρ w kn hD => ?_)
                have e0 := kn.slot 9 7 (by kernel_rfl) (by omega)
                obtain ⟨x1, x2, x3⟩ := kn.ext
                exact ⟨vO, w, by rw [exec_move (x := .tmp 7) rfl, e0, x3.seen (by simp) hD], (fun c h => by injection h with h; injection h), x1, x2.other _ (by omega) (by omega) (by omega), x3.other (by omega) (by omega)⟩
              · exact gd_gen (by kernel_rfl) (Want.none_ rfl) rfl (fun D u w v h => by obtain ⟨x1, x2, x3⟩ := h; exact ⟨x1, x2.other v (by omega) (by omega) (by omega), x3.other (by omega) (by omega)⟩) (fun D u ρ w kn => by
                  have e0 := kn.own 2 (c := .slice (some ⟨bB, oB, none⟩) (bs.length + 1) (cB)) (by kernel_rfl) ea2
                  simp [execOp, kn.rho.con, e0, go_sem])
              · exact gd_gen (by kernel_rfl) (Want.none_ rfl) rfl (fun D u w v h => by obtain ⟨x1, x2, x3⟩ := h; exact ⟨x1, x2.other v (by omega) (by omega) (by omega), x3.other (by omega) (by omega)⟩) (fun D u ρ w kn => by
                  have e0 := kn.con 1 59 (c := .slice (some ⟨bB, oB, none⟩) (bs.length + 1) (cB)) (by kernel_rfl) (by omega) (by kernel_rfl) rfl
                  exact run_ix0P ρ w rfl kn.rho.con e0)
              · exact gd_gen (by kernel_rfl) (Want.none_ rfl) rfl (fun D u w v h => by obtain ⟨x1, x2, x3⟩ := h; exact ⟨x1, x2.other v (by omega) (by omega) (by omega), x3.other (by omega) (by omega)⟩) (fun D u ρ w kn => by
                  have e0 := kn.con 2 60 (c := .pointer (some ⟨bB, oB, none⟩)) (by kernel_rfl) (by omega) (by kernel_rfl) rfl
                  exact run_load ρ w rfl e0 (load_partAt w bB oB y ((kn.ext.1.cell hbB hnB).trans b0) ((kn.ext.1.cell hbB hnB).trans b1) ((kn.ext.1.cell hbB hnB).trans b2) ((kn.ext.1.cell hbB hnB).trans b3)))
              · refine gd_call (by kernel_rfl) (Want.none_ rfl) 29 (fun D u ρ w kn hD => ?_)
                have e0 := kn.con 3 61 (c := .agg #[.slice y.key.a y.key.l.length y.key.c, .slice y.ta y.cs.length y.tc, .slice y.sa y.cs.length y.sc, .slice y.va y.cs.length y.vc]) (by kernel_rfl) (by omega) (by kernel_rfl) rfl
                refine ⟨#[.agg #[.slice y.key.a y.key.l.length y.key.c, .slice y.ta y.cs.length y.tc, .slice y.sa y.cs.length y.sc, .slice y.va y.cs.length y.vc]], ?_, (KCy.out w kn.ext.1).mono ?_⟩
                · simp only [execOp, resolve, Deferred.ofValue, List.map_toArray, List.map_cons, List.map_nil, e0, kn.rho.con, kn.rho.fn]
                  simp [go_sem]
                · rintro e w' ⟨p, rfl, hp1, hp2, hg⟩
                  obtain ⟨x1, x2, x3⟩ := kn.ext
                  exact ⟨_, rfl, (fun c h => by injection h with h; cases h), x1.grow hg (by simp), x2.called (by omega) (by omega) hD hg hp1 hp2 x1.2.2.2.1, x3.other (by omega) (by omega)⟩
              · refine gd_eff (by kernel_rfl) (Want.none_ rfl) (fun D u ρ w kn hD => ?_)
                have e0 := kn.slot 4 62 (by kernel_rfl) (by omega)
                have d0 := kn.dep 4 (by kernel_rfl)
                obtain ⟨x1, x2, x3⟩ := kn.ext
                obtain ⟨p, hp, -⟩ := x2.s1 d0
                rw [hp] at e0
                exact ⟨.slice (some ⟨w.heap.size, 0, none⟩) 1 1, w.alloc (.cells (pArr p) 69), by simp [execOp, kn.rho.con, e0, go_sem, pArr], (fun c h => by injection h with h; cases h), x1.alloc _, x2.laid (by omega) (by omega) hD d0 hp x1.2.2.2.1, x3.other (by omega) (by omega)⟩
              · refine gd_eff (by kernel_rfl) (Want.none_ rfl) (fun D u ρ w kn hD => ?_)
                have e0 := kn.con 0 58 (c := vO) (by kernel_rfl) (by omega) (by kernel_rfl) rfl
                have e1 := kn.slot 5 63 (by kernel_rfl) (by omega)
                have d0 := kn.dep 5 (by kernel_rfl)
                obtain ⟨x1, x2, x3⟩ := kn.ext
                obtain ⟨v', w', hr, hg, hJ⟩ := x2.run (by omega) (by omega) hD d0 hvO3 hol (Nat.le_trans hbase3 x1.2.2.2.1) x1.2.2.2.1
                exact ⟨v', w', exec_append rfl e0 e1 hr, (fun c h => by injection h with h; cases h), x1.grow hg (fun g hg => .inl hg), hJ, x3.src (by omega) hD⟩
              · exact gd_gen (by kernel_rfl) (Want.none_ rfl) rfl (fun D u w v h => by obtain ⟨x1, x2, x3⟩ := h; exact ⟨x1, x2.other v (by omega) (by omega) (by omega), x3.other (by omega) (by omega)⟩) (fun D u ρ w kn => by
                  have e0 := kn.own 2 (c := .slice (some ⟨bB, oB, none⟩) (bs.length + 1) (cB)) (by kernel_rfl) ea2
                  simp [execOp, kn.rho.con, e0, go_sem])
              · exact gd_gen (by kernel_rfl) (Want.none_ rfl) rfl (fun D u w v h => by obtain ⟨x1, x2, x3⟩ := h; exact ⟨x1, x2.other v (by omega) (by omega) (by omega), x3.other (by omega) (by omega)⟩) (fun D u ρ w kn => by
                  have e0 := kn.con 7 65 (c := .slice (some ⟨bB, oB, none⟩) (bs.length + 1) (cB)) (by kernel_rfl) (by omega) (by kernel_rfl) rfl
                  exact run_tailG ρ w rfl Tryz.underlying36 partSize kn.rho.con e0 hbBL)
              · refine gd_eff (by kernel_rfl) (Want.none_ rfl) (fun D u ρ w kn hD => ?_)
                have e0 := kn.slot 6 64 (by kernel_rfl) (by omega)
                have dj := kn.dep 6 (by kernel_rfl)
                have d0 := kn.dep 0 (by kernel_rfl)
                obtain ⟨x1, x2, x3⟩ := kn.ext
                exact ⟨u 6, w, by rw [exec_assign (x := .tmp 64) rfl, e0], (fun c h => by injection h with h; cases h), x1, x2.other _ (by omega) (by omega) (by omega), x3.set_ (by omega) dj (by intro r hr; simp at hr; subst hr; exact d0)⟩
            · intro D u w5 hJ hD
              obtain ⟨hc, x1, x2, x3⟩ := hJ
              obtain ⟨p, hp, hown, hsub, hnew⟩ := x2.fin (hD 6 (by omega))
              have eT : u 8 = .slice (some ⟨bB, tailG oB 4 cB, none⟩) bs.length (cB - 1) := hc 8 _ rfl (hD 8 (by omega))
              obtain ⟨AO, cO, hv5, -, -, -, -⟩ := Rd.of_own hown (by decide)
              simp only [List.take_succ_cons, List.take_zero, List.drop_succ_cons, List.drop_zero, putAll]
              rw [hv5] at hown hsub hnew
              have e9 : u 9 = .slice AO (outs.length + 1) cO := (x3.after (hD 9 (by omega))).trans hv5
              rw [e9, eT]
              have hsn := ho3.out.snoc hown hsub hnew x1 hbase3
              have OUT := Lib.hid hsn
              have HP5 := Lib.hid hp
              have G5 : Hid (w0.grownBy w5 none) := Lib.hid (x1.none_ G3.out (fun i hi => (ho3.out.own.lt i hi).1))
              have hlow : ∀ b, b < w0.heap.size → ¬ (Value.ownBlock vO = some b) := fun b hb e => by have := (ho3.out.own.lt _ e).1; omega
              have PA5 := Lib.hid ((PA.out.grown hg3' (by simp)).fr x1 hlow)
              have PB5 := Lib.hid ((TB.out.grown hg3' (by simp)).fr x1 hlow)
              clear hc x1 x2 x3 e9 hown hsub hnew hv5 hsn hp hD hlow KCx KCy KB a0 a1 a2 a3 b0 b1 b2 b3 HD0 eT
              go_wp2_with fail
              go_roundw
              case rel => exact ⟨x :: as_, bs, outs ++ [p], _, _, cA, cB - 1, rfl, rfl, by simpa using HCA.out, by omega, PA5.out, PB5.out, OUT.out, G5.out, by rw [HR.out, List.map_cons, List.map_cons, mergeP_gt HLT.out, List.map_append, List.map_singleton, HP5.out]; simp, HOA.out, fun q hq => HOB.out q (List.mem_cons_of_mem _ hq), by have := HLEN.out; simp at this ⊢; omega⟩
              case measure => simp [lenOf] <;> omega
          · have HLT : Hid (x.pl.key = y.pl.key) := Lib.hid (cmpK_eq (show cmpK x.key.l y.key.l = 0 by omega))
            clear HDR HAN HD1 hg3'
            have hg3' := HG3.out
            go_wp2_with fail
            refine wp_region_gen2 17 (JC [some (vO), some (.slice Aa ags.length ca), some (.slice (some ⟨bA, oA, none⟩) (as_.length + 1) (cA)), some (.pointer (some ⟨bA, oA, none⟩)), some (.agg #[.slice x.key.a x.key.l.length x.key.c, .slice x.ta x.cs.length x.tc, .slice x.sa x.cs.length x.sc, .slice x.va x.cs.length x.vc]), some (.slice (some ⟨bB, oB, none⟩) (bs.length + 1) (cB)), some (.pointer (some ⟨bB, oB, none⟩)), some (.agg #[.slice y.key.a y.key.l.length y.key.c, .slice y.ta y.cs.length y.tc, .slice y.sa y.cs.length y.sc, .slice y.va y.cs.length y.vc]), none, none, none, some (.slice (some ⟨bA, oA, none⟩) (as_.length + 1) (cA)), some (.slice (some ⟨bA, tailG oA 4 cA, none⟩) as_.length (cA - 1)), some (.slice (some ⟨bB, oB, none⟩) (bs.length + 1) (cB)), some (.slice (some ⟨bB, tailG oB 4 cB, none⟩) bs.length (cB - 1)), none, none] (fun D u w => FrN (fun i => Value.ownBlock vO = some i) w3 w ∧ CApp w3 w0.heap.size 8 9 10 vO outs.length (outs.flatMap PD.cells) zB D u w ∧ Late 15 10 [0] (vO) D u ∧ Late 16 12 [2, 11] (.slice (some ⟨bA, oA, none⟩) (as_.length + 1) (cA)) D u)) (by kernel_rfl) (by kernel_rfl) ?_ ?_ ?_
            · intro u hu0
              have hl0 : u 15 = vO := ((putAll_at u _ 0 15 _ 7 (by kernel_rfl) (by kernel_rfl) (of_decide_eq_true (by kernel_rfl))).symm.trans (congrArg (fun (a : Act) => a.eval (.tmp 7)) hu0)).trans (by kernel_rfl) |> fun h => by simpa using h
              have hl1 : u 16 = .slice (some ⟨bA, oA, none⟩) (as_.length + 1) (cA) := ((putAll_at u _ 0 16 _ 1 (by kernel_rfl) (by kernel_rfl) (of_decide_eq_true (by kernel_rfl))).symm.trans (congrArg (fun (a : Act) => a.eval (.tmp 1)) hu0)).trans (by kernel_rfl) |> fun h => by simpa using h
              exact ⟨(fun j c _ h => by cases h), FrN.refl _ _, CApp.start ho3.out.own, Late.start hl0, Late.start hl1⟩
            · intro AA hA
              have hasz : AA.tmps.size = 83 := by rw [hA]; kernel_rfl
              have ea0 : AA.eval (.tmp 0) = .slice Aa ags.length ca := by rw [hA]; kernel_rfl
              have ea2 : AA.eval (.tmp 2) = .slice (some ⟨bB, oB, none⟩) (bs.length + 1) (cB) := by rw [hA]; kernel_rfl
              clear hA
              simp only [List.take_succ_cons, List.take_zero]
              refine .cons ?_ (.cons ?_ (.cons ?_ (.cons ?_ (.cons ?_ (.cons ?_ (.cons ?_ (.cons ?_ (.cons ?_ (.cons ?_ (.cons ?_ (.cons ?_ (.cons ?_ (.cons ?_ (.cons ?_ (.cons ?_ (.cons ?_ (.nil)))))))))))))))))
              · refine gd_eff (by kernel_rfl) (Want.none_ rfl) (fun D u ρ w kn hD => ?_)
                have e0 := kn.slot 15 7 (by kernel_rfl) (by omega)
                obtain ⟨x1, x2, x3, x4⟩ := kn.ext
                exact ⟨vO, w, by rw [exec_move (x := .tmp 7) rfl, e0, x3.seen (by simp) hD], (fun c h => by injection h with h; injection h), x1, x2.other _ (by omega) (by omega) (by omega), x3.other (by omega) (by omega), x4.other (by omega) (by omega)⟩
              · exact gd_gen (by kernel_rfl) (Want.none_ rfl) rfl (fun D u w v h => by obtain ⟨x1, x2, x3, x4⟩ := h; exact ⟨x1, x2.other v (by omega) (by omega) (by omega), x3.other (by omega) (by omega), x4.other (by omega) (by omega)⟩) (fun D u ρ w kn => by
                  have e0 := kn.own 0 (c := .slice Aa ags.length ca) (by kernel_rfl) ea0
                  simp [execOp, kn.rho.con, e0, go_sem])
              · refine gd_eff (by kernel_rfl) (Want.none_ rfl) (fun D u ρ w kn hD => ?_)
                have e0 := kn.slot 16 1 (by kernel_rfl) (by omega)
                obtain ⟨x1, x2, x3, x4⟩ := kn.ext
                exact ⟨.slice (some ⟨bA, oA, none⟩) (as_.length + 1) (cA), w, by rw [exec_move (x := .tmp 1) rfl, e0, x4.seen (by simp) hD], (fun c h => by injection h with h; injection h), x1, x2.other _ (by omega) (by omega) (by omega), x3.other (by omega) (by omega), x4.other (by omega) (by omega)⟩
              · exact gd_gen (by kernel_rfl) (Want.none_ rfl) rfl (fun D u w v h => by obtain ⟨x1, x2, x3, x4⟩ := h; exact ⟨x1, x2.other v (by omega) (by omega) (by omega), x3.other (by omega) (by omega), x4.other (by omega) (by omega)⟩) (fun D u ρ w kn => by
                  have e0 := kn.con 2 30 (c := .slice (some ⟨bA, oA, none⟩) (as_.length + 1) (cA)) (by kernel_rfl) (by omega) (by kernel_rfl) rfl
                  exact run_ix0P ρ w rfl kn.rho.con e0)
              · exact gd_gen (by kernel_rfl) (Want.none_ rfl) rfl (fun D u w v h => by obtain ⟨x1, x2, x3, x4⟩ := h; exact ⟨x1, x2.other v (by omega) (by omega) (by omega), x3.other (by omega) (by omega), x4.other (by omega) (by omega)⟩) (fun D u ρ w kn => by
                  have e0 := kn.con 3 31 (c := .pointer (some ⟨bA, oA, none⟩)) (by kernel_rfl) (by omega) (by kernel_rfl) rfl
                  exact run_load ρ w rfl e0 (load_partAt w bA oA x ((kn.ext.1.cell hbA hnA).trans a0) ((kn.ext.1.cell hbA hnA).trans a1) ((kn.ext.1.cell hbA hnA).trans a2) ((kn.ext.1.cell hbA hnA).trans a3)))
              · exact gd_gen (by kernel_rfl) (Want.none_ rfl) rfl (fun D u w v h => by obtain ⟨x1, x2, x3, x4⟩ := h; exact ⟨x1, x2.other v (by omega) (by omega) (by omega), x3.other (by omega) (by omega), x4.other (by omega) (by omega)⟩) (fun D u ρ w kn => by
                  have e0 := kn.own 2 (c := .slice (some ⟨bB, oB, none⟩) (bs.length + 1) (cB)) (by kernel_rfl) ea2
                  simp [execOp, kn.rho.con, e0, go_sem])
              · exact gd_gen (by kernel_rfl) (Want.none_ rfl) rfl (fun D u w v h => by obtain ⟨x1, x2, x3, x4⟩ := h; exact ⟨x1, x2.other v (by omega) (by omega) (by omega), x3.other (by omega) (by omega), x4.other (by omega) (by omega)⟩) (fun D u ρ w kn => by
                  have e0 := kn.con 5 33 (c := .slice (some ⟨bB, oB, none⟩) (bs.length + 1) (cB)) (by kernel_rfl) (by omega) (by kernel_rfl) rfl
                  exact run_ix0P ρ w rfl kn.rho.con e0)
              · exact gd_gen (by kernel_rfl) (Want.none_ rfl) rfl (fun D u w v h => by obtain ⟨x1, x2, x3, x4⟩ := h; exact ⟨x1, x2.other v (by omega) (by omega) (by omega), x3.other (by omega) (by omega), x4.other (by omega) (by omega)⟩) (fun D u ρ w kn => by
                  have e0 := kn.con 6 34 (c := .pointer (some ⟨bB, oB, none⟩)) (by kernel_rfl) (by omega) (by kernel_rfl) rfl
                  exact run_load ρ w rfl e0 (load_partAt w bB oB y ((kn.ext.1.cell hbB hnB).trans b0) ((kn.ext.1.cell hbB hnB).trans b1) ((kn.ext.1.cell hbB hnB).trans b2) ((kn.ext.1.cell hbB hnB).trans b3)))
              · refine gd_call (by kernel_rfl) (Want.none_ rfl) 30 (fun D u ρ w kn hD => ?_)
                have e0 := kn.con 1 29 (c := .slice Aa ags.length ca) (by kernel_rfl) (by omega) (by kernel_rfl) rfl
                have e1 := kn.con 4 32 (c := .agg #[.slice x.key.a x.key.l.length x.key.c, .slice x.ta x.cs.length x.tc, .slice x.sa x.cs.length x.sc, .slice x.va x.cs.length x.vc]) (by kernel_rfl) (by omega) (by kernel_rfl) rfl
                have e2 := kn.con 7 35 (c := .agg #[.slice y.key.a y.key.l.length y.key.c, .slice y.ta y.cs.length y.tc, .slice y.sa y.cs.length y.sc, .slice y.va y.cs.length y.vc]) (by kernel_rfl) (by omega) (by kernel_rfl) rfl
                refine ⟨#[.slice Aa ags.length ca, .agg #[.slice x.key.a x.key.l.length x.key.c, .slice x.ta x.cs.length x.tc, .slice x.sa x.cs.length x.sc, .slice x.va x.cs.length x.vc], .agg #[.slice y.key.a y.key.l.length y.key.c, .slice y.ta y.cs.length y.tc, .slice y.sa y.cs.length y.sc, .slice y.va y.cs.length y.vc]], ?_, (KB.out w kn.ext.1).mono ?_⟩
                · simp only [execOp, resolve, Deferred.ofValue, List.map_toArray, List.map_cons, List.map_nil, e0, e1, e2, kn.rho.con, kn.rho.fn]
                  simp [go_sem]
                · rintro e w' ⟨p, rfl, hp1, hp2, hg⟩
                  obtain ⟨x1, x2, x3, x4⟩ := kn.ext
                  exact ⟨_, rfl, (fun c h => by injection h with h; cases h), x1.grow hg (by simp), x2.called (by omega) (by omega) hD hg hp1 hp2 x1.2.2.2.1, x3.other (by omega) (by omega), x4.other (by omega) (by omega)⟩
              · refine gd_eff (by kernel_rfl) (Want.none_ rfl) (fun D u ρ w kn hD => ?_)
                have e0 := kn.slot 8 36 (by kernel_rfl) (by omega)
                have d0 := kn.dep 8 (by kernel_rfl)
                obtain ⟨x1, x2, x3, x4⟩ := kn.ext
                obtain ⟨p, hp, -⟩ := x2.s1 d0
                rw [hp] at e0
                exact ⟨.slice (some ⟨w.heap.size, 0, none⟩) 1 1, w.alloc (.cells (pArr p) 69), by simp [execOp, kn.rho.con, e0, go_sem, pArr], (fun c h => by injection h with h; cases h), x1.alloc _, x2.laid (by omega) (by omega) hD d0 hp x1.2.2.2.1, x3.other (by omega) (by omega), x4.other (by omega) (by omega)⟩
              · refine gd_eff (by kernel_rfl) (Want.none_ rfl) (fun D u ρ w kn hD => ?_)
                have e0 := kn.con 0 28 (c := vO) (by kernel_rfl) (by omega) (by kernel_rfl) rfl
                have e1 := kn.slot 9 37 (by kernel_rfl) (by omega)
                have d0 := kn.dep 9 (by kernel_rfl)
                obtain ⟨x1, x2, x3, x4⟩ := kn.ext
                obtain ⟨v', w', hr, hg, hJ⟩ := x2.run (by omega) (by omega) hD d0 hvO3 hol (Nat.le_trans hbase3 x1.2.2.2.1) x1.2.2.2.1
                exact ⟨v', w', exec_append rfl e0 e1 hr, (fun c h => by injection h with h; cases h), x1.grow hg (fun g hg => .inl hg), hJ, x3.src (by omega) hD, x4.other (by omega) (by omega)⟩
              · refine gd_eff (by kernel_rfl) (Want.none_ rfl) (fun D u ρ w kn hD => ?_)
                have e0 := kn.slot 16 1 (by kernel_rfl) (by omega)
                obtain ⟨x1, x2, x3, x4⟩ := kn.ext
                exact ⟨.slice (some ⟨bA, oA, none⟩) (as_.length + 1) (cA), w, by rw [exec_move (x := .tmp 1) rfl, e0, x4.seen (by simp) hD], (fun c h => by injection h with h; injection h), x1, x2.other _ (by omega) (by omega) (by omega), x3.other (by omega) (by omega), x4.other (by omega) (by omega)⟩
              · refine gd_eff (by kernel_rfl) (Want.none_ rfl) (fun D u ρ w kn hD => ?_)
                have e0 := kn.con 11 39 (c := .slice (some ⟨bA, oA, none⟩) (as_.length + 1) (cA)) (by kernel_rfl) (by omega) (by kernel_rfl) rfl
                obtain ⟨x1, x2, x3, x4⟩ := kn.ext
                exact ⟨.slice (some ⟨bA, tailG oA 4 cA, none⟩) as_.length (cA - 1), w, run_tailG ρ w rfl Tryz.underlying36 partSize kn.rho.con e0 hbAL, (fun c h => by injection h with h; injection h), x1, x2.other _ (by omega) (by omega) (by omega), x3.other (by omega) (by omega), x4.src (by omega) hD⟩
              · exact gd_gen (by kernel_rfl) (Want.none_ rfl) rfl (fun D u w v h => by obtain ⟨x1, x2, x3, x4⟩ := h; exact ⟨x1, x2.other v (by omega) (by omega) (by omega), x3.other (by omega) (by omega), x4.other (by omega) (by omega)⟩) (fun D u ρ w kn => by
                  have e0 := kn.own 2 (c := .slice (some ⟨bB, oB, none⟩) (bs.length + 1) (cB)) (by kernel_rfl) ea2
                  simp [execOp, kn.rho.con, e0, go_sem])
              · exact gd_gen (by kernel_rfl) (Want.none_ rfl) rfl (fun D u w v h => by obtain ⟨x1, x2, x3, x4⟩ := h; exact ⟨x1, x2.other v (by omega) (by omega) (by omega), x3.other (by omega) (by omega), x4.other (by omega) (by omega)⟩) (fun D u ρ w kn => by
                  have e0 := kn.con 13 41 (c := .slice (some ⟨bB, oB, none⟩) (bs.length + 1) (cB)) (by kernel_rfl) (by omega) (by kernel_rfl) rfl
                  exact run_tailG ρ w rfl Tryz.underlying36 partSize kn.rho.con e0 hbBL)
              · refine gd_eff (by kernel_rfl) (Want.none_ rfl) (fun D u ρ w kn hD => ?_)
                have e0 := kn.slot 10 38 (by kernel_rfl) (by omega)
                have dj := kn.dep 10 (by kernel_rfl)
                have d0 := kn.dep 0 (by kernel_rfl)
                obtain ⟨x1, x2, x3, x4⟩ := kn.ext
                exact ⟨u 10, w, by rw [exec_assign (x := .tmp 38) rfl, e0], (fun c h => by injection h with h; cases h), x1, x2.other _ (by omega) (by omega) (by omega), x3.set_ (by omega) dj (by intro r hr; simp at hr; subst hr; exact d0), x4.other (by omega) (by omega)⟩
              · refine gd_eff (by kernel_rfl) (Want.none_ rfl) (fun D u ρ w kn hD => ?_)
                have e0 := kn.slot 12 40 (by kernel_rfl) (by omega)
                have dj := kn.dep 12 (by kernel_rfl)
                have d0 := kn.dep 2 (by kernel_rfl)
                have d1 := kn.dep 11 (by kernel_rfl)
                obtain ⟨x1, x2, x3, x4⟩ := kn.ext
                exact ⟨u 12, w, by rw [exec_assign (x := .tmp 40) rfl, e0], (fun c h => by injection h with h; cases h), x1, x2.other _ (by omega) (by omega) (by omega), x3.other (by omega) (by omega), x4.set_ (by omega) dj (by intro r hr; simp at hr; rcases hr with rfl | rfl; exact d0; exact d1)⟩
            · intro D u w5 hJ hD
              obtain ⟨hc, x1, x2, x3, x4⟩ := hJ
              obtain ⟨p, hp, hown, hsub, hnew⟩ := x2.fin (hD 10 (by omega))
              have eS : u 12 = .slice (some ⟨bA, tailG oA 4 cA, none⟩) as_.length (cA - 1) := hc 12 _ rfl (hD 12 (by omega))
              have eT : u 14 = .slice (some ⟨bB, tailG oB 4 cB, none⟩) bs.length (cB - 1) := hc 14 _ rfl (hD 14 (by omega))
              obtain ⟨AO, cO, hv5, -, -, -, -⟩ := Rd.of_own hown (by decide)
              simp only [List.take_succ_cons, List.take_zero, List.drop_succ_cons, List.drop_zero, putAll]
              rw [hv5] at hown hsub hnew
              have e9 : u 15 = .slice AO (outs.length + 1) cO := (x3.after (hD 15 (by omega))).trans hv5
              have eL : u 16 = .slice (some ⟨bA, tailG oA 4 cA, none⟩) as_.length (cA - 1) := (x4.after (hD 16 (by omega))).trans eS
              rw [e9, eL, eT]
              have hsn := ho3.out.snoc hown hsub hnew x1 hbase3
              have OUT := Lib.hid hsn
              have HP5 := Lib.hid hp
              have G5 : Hid (w0.grownBy w5 none) := Lib.hid (x1.none_ G3.out (fun i hi => (ho3.out.own.lt i hi).1))
              have hlow : ∀ b, b < w0.heap.size → ¬ (Value.ownBlock vO = some b) := fun b hb e => by have := (ho3.out.own.lt _ e).1; omega
              have PA5 := Lib.hid ((TA.out.grown hg3' (by simp)).fr x1 hlow)
              have PB5 := Lib.hid ((TB.out.grown hg3' (by simp)).fr x1 hlow)
              clear hc x1 x2 x3 e9 x4 eL hown hsub hnew hv5 hsn hp hD hlow KCx KCy KB a0 a1 a2 a3 b0 b1 b2 b3 HD0 eT eS
              go_wp2_with fail
              go_roundw
              case rel => exact ⟨as_, bs, outs ++ [p], _, _, cA - 1, cB - 1, rfl, rfl, by omega, by omega, PA5.out, PB5.out, OUT.out, G5.out, by rw [HR.out, List.map_cons, List.map_cons, mergeP_eq HLT.out, List.map_append, List.map_singleton, HP5.out, HZB.out]; simp [PD.pl], fun q hq => HOA.out q (List.mem_cons_of_mem _ hq), fun q hq => HOB.out q (List.mem_cons_of_mem _ hq), by have := HLEN.out; simp at this ⊢; omega⟩
              case measure => simp [lenOf] <;> omega
end Go.Proofs.YtfkgcighooijhaaGreatDoor
