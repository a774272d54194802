/- account.Merge (printed by mkmerge.py). No condition. -/
import Derived.Test.YtiogpomgpknjlaaJCloneT
import Derived.Test.YtiogpomgpknjlaaJEv
import Derived.Test.YtiogpomgpknjlaaJStep
import Derived.Test.YtiogpomgpknjlaaJGenC
import Derived.StillTailTactics
namespace Go.Proofs.Ytiogpomgpknjlaa
open Go.RowKit
set_option linter.unusedVariables false
set_option linter.unusedSimpArgs false

theorem or_lt {x y : Tal} (h : kl x y) : (cmpI x.host y.host = 0 ∧ (-1 : Int) = cmpS x.rule y.rule) ∨ (cmpI x.host y.host ≠ 0 ∧ (-1 : Int) = cmpI x.host y.host) := by
  rcases h with h | ⟨h1, h2⟩
  · exact .inr (by simp [cmpI, h])
  · exact .inl (by simp [cmpI, cmpS, h1, h2])
theorem or_gt {x y : Tal} (h : kl y x) : (cmpI x.host y.host = 0 ∧ (1 : Int) = cmpS x.rule y.rule) ∨ (cmpI x.host y.host ≠ 0 ∧ (1 : Int) = cmpI x.host y.host) := by
  rcases h with h | ⟨h1, h2⟩
  · have : ¬ x.host < y.host := by omega
    exact .inr (by simp [cmpI, h, this])
  · have h3 : sl x.rule y.rule = false := by
      cases h3 : sl x.rule y.rule with
      | false => rfl
      | true => exact absurd (.inr ⟨h1.symm, h3⟩) (fun e : kl x y => kl_irrefl x (kl_trans e (.inr ⟨h1, h2⟩)))
    exact .inl (by simp [cmpI, cmpS, h1, h2, h3])
theorem or_eq {x y : Tal} (h : ¬ kl x y) (k : ¬ kl y x) : (cmpI x.host y.host = 0 ∧ (0 : Int) = cmpS x.rule y.rule) ∨ (cmpI x.host y.host ≠ 0 ∧ (0 : Int) = cmpI x.host y.host) := by
  have e := kl_tri h k
  exact .inl (by simp [cmpI, cmpS, e.1, e.2, sl_irrefl])
theorem talSize : (Try.prog.info? 62).map (·.size) = some 3 := by kernel_rfl
theorem cell_gr {w w' : World} (h : w.grownBy w' none) {b o : Nat} (hb : b < w.heap.size) : w'.cell? ⟨b, o, none⟩ = w.cell? ⟨b, o, none⟩ := World.cell?_of_block (a := ⟨b, o, none⟩) (h.block b hb (by simp))
theorem run_ix0 (ρ : Operand → Value) (w : World) {o : Oper} {t e : TypeId} {z x b off n c : Nat} (ho : o.op = .indexAddr t (.tmp x) (.const (.int .i64 0))) (ht : Try.prog.underlying t = some (.slice e)) (hz : (Try.prog.info? e).map (·.size) = some z)
    (hc : ∀ v, ρ (.const v) = v) (hx : ρ (.tmp x) = .slice (some ⟨b, off, none⟩) (n + 1) c) : (execOp ρ o).run Try.prog w = .ok (.value (.pointer (some ⟨b, off, none⟩))) w := by
  obtain ⟨i, hi, hiz⟩ : ∃ i, Try.prog.info? e = some i ∧ i.size = z := by
    cases h : Try.prog.info? e with
    | none => rw [h] at hz; cases hz
    | some i => rw [h] at hz; exact ⟨i, rfl, by simpa using hz⟩
  have hs : (sizeOf e).run Try.prog w = .ok z w := by simp [sizeOf, typeInfo, hi, hiz, Sem.run_bind, go_sem]
  have e3 : (0 : Int) < (n : Int) + 1 := by omega
  simp [execOp, ho, hc, hx, go_sem, ht, hs, e3]
theorem wpList_store_tal {ops : Array Oper} {rest : List Oper} {o : Oper} {a : Act} {w : World} {Q : Exit → Act → World → Prop} (hgd : o.guard = none) (p v : Operand) (ho : o.op = .store 62 p v) {g : Nat} (hp : a.eval p = .pointer (some ⟨g, 0, none⟩)) {x : Tal} (hv : a.eval v = .agg #[.int .i64 x.host, .string x.rule, .int .i64 x.lines])
    {t : TypeId} {v0 v1 v2 : Value} (hB : Blk w g t #[v0, v1, v2]) (h : ∀ w', Blk w' g t x.cells.toArray → w.grownBy w' (some g) → w'.heap.size = w.heap.size → wpList Try.prog ops Q rest (a.put o.dst undef) w') : wpList Try.prog ops Q (o :: rest) a w := by
  obtain ⟨w', h1, h2, h3, h4⟩ := store_tal w g x hB
  refine wpList_plain hgd fun K hK => ?_
  unfold Oper.wp
  have hr : (execOp a.eval o).run Try.prog w = .ok .skip w' := by simp only [execOp, ho, hp, hv, Sem.run_bind, h1, Result.andThen_ok, Sem.run_pure]
  rw [hr]
  exact hK _ _ (h w' h2 h3 h4)
/-- the memory while a tally is copied -/
def TGM (wr : World) (g : Nat) (wx : World) : Prop := (∃ v0 v1 v2, Blk wx g 62 #[v0, v1, v2]) ∧ wr.grownBy wx none ∧ wx.heap.size = g + 1
/-- the head of a round: what is left of both, what has been laid down -/
def MRel (w : World) (a b : List Tal) (va vb v : Value) (wr : World) : Prop :=
  ∃ (us vs zs : List Tal) (A B : Option Addr) (c d : Nat), va = .slice A us.length c ∧ vb = .slice B vs.length d ∧ us.length ≤ c ∧ c ≤ maxLen ∧ vs.length ≤ d ∧ d ≤ maxLen ∧
    Rd (· < w.heap.size) wr A (us.flatMap Tal.cells) ∧ Rd (· < w.heap.size) wr B (vs.flatMap Tal.cells) ∧ zs ++ mrg us vs = mrg a b ∧ us.length + vs.length + zs.length ≤ 2000 ∧ TIn 1000000 us ∧ TIn 1000000 vs ∧
    wr.ownsRow w.heap.size 62 3 v zs.length (zs.flatMap Tal.cells) ∧ w.grownBy wr none
set_option maxHeartbeats 4000000 in
set_option maxRecDepth 100000 in
theorem merge_any {S : Nat → Prop} (A B : Option Addr) (a b : List Tal) (c d : Nat) (w : World) (ha : Rd S w A (a.flatMap Tal.cells)) (hb : Rd S w B (b.flatMap Tal.cells)) (hl : a.length ≤ 1000) (hl2 : b.length ≤ 1000) (hc : a.length ≤ c) (hcm : c ≤ maxLen) (hd : b.length ≤ d) (hdm : d ≤ maxLen) (hia : TIn 1000000 a) (hib : TIn 1000000 b) :
    Calls Try.prog 11 #[.slice A a.length c, .slice B b.length d] w (TalsPost w (mrg a b)) := by
  have HA := Lib.hid (ha.mono (S' := (· < w.heap.size)) (fun b _ hb => hb))
  have HB := Lib.hid (hb.mono (S' := (· < w.heap.size)) (fun b _ hb => hb))
  have HIA := Lib.hid hia
  have HIB := Lib.hid hib
  have HCM := Lib.hid hcm
  have HDM := Lib.hid hdm
  clear ha hb hia hib hcm hdm
  go_enter Try.func11, Try.ntmps11
  go_wp2_with fail
  go_loopw [0, 1, 5] (fun va vb v wr => MRel w a b va vb v wr) (fun va vb _ _ => lenOf va + lenOf vb)
  case atStart => exact ⟨a, b, [], A, B, c, d, rfl, rfl, hc, HCM.out, hd, HDM.out, HA.out, HB.out, rfl, by simp; omega, HIA.out, HIB.out, World.ownsRow_nil _ _ _ _, only_refl _ _⟩
  case round =>
    obtain ⟨us, vs, zs, A', B', c', d', rfl, rfl, hc1, hcm1, hd1, hdm1, hra, hrb, hmr, hlen, hiu, hiv, hown, hG⟩ := hrel
    have RA := Lib.hid hra
    have RB := Lib.hid hrb
    have MR := Lib.hid hmr
    have IU := Lib.hid hiu
    have IV := Lib.hid hiv
    have G := Lib.hid hG
    have hsz := hG.size
    clear hra hrb hmr hiu hiv hG HA HB HIA HIB HCM HDM
    unfold maxLen at hcm1 hdm1
    obtain ⟨AO, cO, rfl, hcO, hcmO, -, -⟩ := Rd.of_own hown (by decide)
    have O := Lib.hid hown
    clear hown
    cases us with
    | nil =>
      cases vs with
      | nil =>
        go_wp2_with fail
        go_ret
        obtain ⟨A9, c9, e9, f1, f2, -, f3⟩ := Rd.of_own O.out (by decide)
        injection e9 with e1 e2 e3
        subst e1 e3
        have hz : zs = mrg a b := by have := MR.out; simpa [mrg] using this
        subst hz
        exact ⟨AO, cO, rfl, f1, f2, f3, G.out⟩
      | cons y vs =>
        obtain ⟨bB, oB, rfl, y0, y1, y2⟩ := RB.out.tal (i := 0) (t := y) rfl
        simp only [Nat.zero_mul, Nat.add_zero] at y0 y1 y2
        have hy := IV.out y (by simp)
        have hvl : vs.length + 1 ≤ d' := by simpa using hd1
        have hbB : bB < w.heap.size := by obtain ⟨b', o', e', hb', -, -⟩ := RB.out (by simp [Tal.cells]); injection e' with e'; injection e' with e1 e2; omega
        have RBT := Lib.hid (RB.out.tailS (x := y.cells) (xs := vs.flatMap Tal.cells) (z := 3) (n := vs.length) (c := d') rfl (tflat_len vs) hvl)
        have hbwB : bB < wr.heap.size := by omega
        have hbnB : bB ≠ wr.heap.size := by omega
        simp only [List.length_cons] at *
        go_wp2_with fail
        have HB3 := Lib.hid (Blk.new wr 62 #[.int .i64 0, .string ⟨#[]⟩, .int .i64 0])
        have G3 := Lib.hid (show wr.grownBy ((wr.alloc (.cells #[.int .i64 0, .string ⟨#[]⟩, .int .i64 0] 62))) none from only_alloc (only_refl _ _) _)
        have hgr : wr.heap.size ≤ wr.heap.size := by omega
        have hsw : w.heap.size ≤ ((wr.alloc (.cells #[.int .i64 0, .string ⟨#[]⟩, .int .i64 0] 62))).heap.size := by simp; omega
        generalize hW3 : (wr.alloc (.cells #[.int .i64 0, .string ⟨#[]⟩, .int .i64 0] 62)) = w3 at *
        clear hW3

        have b0 := HB3.out.cell 0
        have b1 := HB3.out.cell 1
        have b2 := HB3.out.cell 2
        have f0 := HB3.out.frozen 0
        have f1 := HB3.out.frozen 1
        have f2 := HB3.out.frozen 2
        simp [Tal.cells] at b0 b1 b2
        have y0' := (cell_gr G3.out hbwB (o := oB)).trans y0
        have y1' := (cell_gr G3.out hbwB (o := oB + 1)).trans y1
        have y2' := (cell_gr G3.out hbwB (o := oB + 2)).trans y2
        go_wp2_with fail
        refine wp_region_still_tail 16 (by kernel_rfl) (by kernel_rfl) ?_
        change wpStill _ _ (World.drew _) (fun a' => wpList _ _ _ _ a' (World.drew _)) _ _
        simp only [List.take_succ_cons, List.take_zero, List.drop_succ_cons, List.drop_zero]
        repeat still_step
        refine wpStill_nil ?_
        refine wpList_store_tal rfl _ _ rfl (by rfl) (x := ⟨y.host, y.rule, IntKind.i64.wrap (y.lines)⟩) (by rfl) HB3.out.drew ?_
        intro w4 hB4 hg4 hs4
        rw [show IntKind.i64.wrap (y.lines) = y.lines from IntWalk.i64_in _ (by omega)] at hB4
        replace hB4 : Blk w4 (wr.heap.size) 62 (y : Tal).cells.toArray := by simpa using hB4
        have G4 := Lib.hid (only_fresh (only_drew G3.out) hg4 hgr)
        have HB4 := Lib.hid hB4
        have hsw4 : w.heap.size ≤ w4.heap.size := by have := hg4.size; simp at this; omega
        clear hB4 hg4 b0 b1 b2 f0 f1 f2 y0' y1' y2' hs4 HB3 G3 hsw

        have b0 := HB4.out.cell 0
        have b1 := HB4.out.cell 1
        have b2 := HB4.out.cell 2
        simp [Tal.cells] at b0 b1 b2
        have O3 := Lib.hid (own_ext O.out G4.out)
        go_wp2_with (first | (refine wpList_tail rfl rfl Try.underlying26 talSize (by rfl) hvl ?_) | (at_builtin; go_must (refine wpList_append1 rfl _ _ 26 rfl w.heap.size Try.underlying26 talInfo rfl (by decide) (v := .slice AO zs.length cO) (by rfl) (w0 := w4) (cs := (y : Tal).cells.toArray) O3.out (by rfl) rfl (by simpa using Tal.one y) (by decide) (by omega) (by omega) ?_); intro v7 w7 hown7 hg7 hob7; obtain ⟨A7, c7, rfl, hc7, hm7, -, -⟩ := Rd.of_own hown7 (by decide)))
        have FN := Lib.hid (show w7.ownsRow w.heap.size 62 3 (.slice A7 (zs.length + 1) c7) (zs ++ [y]).length ((zs ++ [y]).flatMap Tal.cells) by simpa using hown7)
        have GN : Hid (w.grownBy w7 none) := only_own (only_trans G.out G4.out) hg7 O3.out (Nat.le_refl _)
        have hnr : ∀ b, b < w.heap.size → some b ≠ (Value.slice AO zs.length cO).ownBlock := fun b hb e => by have := (O.out.lt b e.symm).1; omega
        have RNBT := Lib.hid ((RBT.out.grown G4.out (by simp)).grown hg7 hnr)
        clear hown7 hg7 hob7 hnr
        go_roundw
        case rel => exact ⟨[], vs, zs ++ [y], A', some ⟨bB, tailO oB 3 d', none⟩, c', d' - 1, rfl, rfl, by omega, by unfold maxLen; omega, by omega, by unfold maxLen; omega, Rd.nil, RNBT.out, by rw [← MR.out]; simp [mrg], by simp at *; omega, (fun t ht => by simp at ht), (fun t ht => IV.out t (by simp [ht])), FN.out, GN.out⟩
        case measure => simp [lenOf]; try omega
    | cons x us =>
      obtain ⟨bA, oA, rfl, x0, x1, x2⟩ := RA.out.tal (i := 0) (t := x) rfl
      simp only [Nat.zero_mul, Nat.add_zero] at x0 x1 x2
      have hx := IU.out x (by simp)
      have hul : us.length + 1 ≤ c' := by simpa using hc1
      have hbA : bA < w.heap.size := by obtain ⟨b', o', e', hb', -, -⟩ := RA.out (by simp [Tal.cells]); injection e' with e'; injection e' with e1 e2; omega
      have RAT := Lib.hid (RA.out.tailS (x := x.cells) (xs := us.flatMap Tal.cells) (z := 3) (n := us.length) (c := c') rfl (tflat_len us) hul)
      have hbwA : bA < wr.heap.size := by omega
      have hbnA : bA ≠ wr.heap.size := by omega
      simp only [List.length_cons] at *
      cases vs with
      | nil =>
        go_wp2_with fail
        refine wp_region_inv 6 (fun w1 w2 => Blk w1 (wr.heap.size) 62 x.cells.toArray → Blk w2 (wr.heap.size) 62 x.cells.toArray) (TGM wr (wr.heap.size)) [(fun v _ => v = .slice (some ⟨bA, oA, none⟩) (us.length + 1) c'), (fun v _ => v = .pointer (some ⟨bA, oA, none⟩)), (fun v _ => v = .agg #[.int .i64 x.host, .string x.rule, .int .i64 x.lines]), (fun v _ => v = .slice (some ⟨bA, oA, none⟩) (us.length + 1) c'), (fun v _ => v = .slice (some ⟨bA, tailO oA 3 c', none⟩) us.length (c' - 1)), (fun _ wx => Blk wx (wr.heap.size) 62 x.cells.toArray)] (by kernel_rfl) (by kernel_rfl) ?_ ?_ ?_ ?_
        · intro p hp
          simp only [List.mem_cons, List.not_mem_nil, or_false] at hp
          rcases hp with rfl | rfl | rfl | rfl | rfl | rfl
          · exact St.const _
          · exact St.const _
          · exact St.const _
          · exact St.const _
          · exact St.const _
          · exact fun v w1 w2 h => h
        · exact ⟨⟨_, _, _, (Blk.new wr 62 _).drew⟩, only_drew (only_alloc (only_refl _ _) _), by simp⟩
        · generalize hA : Act.mk _ _ = AA
          have hasz : AA.tmps.size = 76 := by rw [← hA]; kernel_rfl
          have ea0 : AA.eval (.tmp 0) = .slice (some ⟨bA, oA, none⟩) (us.length + 1) c' := by rw [← hA]; kernel_rfl
          have ea7 : AA.eval (.tmp 7) = .pointer (some ⟨wr.heap.size, 0, none⟩) := by rw [← hA]; kernel_rfl
          clear hA
          simp only [List.take_succ_cons, List.take_zero]
          refine .cons ?_ (.cons ?_ (.cons ?_ (.cons ?_ (.cons ?_ (.cons ?_ .nil)))))
          · exact sd_copy rfl (by kernel_rfl) (fun _ h => h) rfl (by kernel_rfl) ea0 rfl
          · exact sd_one rfl (by kernel_rfl) (fun _ h => h) 0 (by kernel_rfl) (by omega) (by kernel_rfl) rfl (fun ρ w hc h1 _ => run_ix0 ρ w rfl Try.underlying26 talSize hc h1) rfl
          · exact sd_one rfl (by kernel_rfl) (fun _ h => h) 1 (by kernel_rfl) (by omega) (by kernel_rfl) rfl (fun ρ w hc h1 hG => run_load ρ w rfl h1 (load_tal w bA oA x ((cell_gr hG.2.1 hbwA).trans x0) ((cell_gr hG.2.1 hbwA).trans x1) ((cell_gr hG.2.1 hbwA).trans x2))) rfl
          · exact sd_copy rfl (by kernel_rfl) (fun _ h => h) rfl (by kernel_rfl) ea0 rfl
          · exact sd_one rfl (by kernel_rfl) (fun _ h => h) 3 (by kernel_rfl) (by omega) (by kernel_rfl) rfl (fun ρ w hc h1 _ => run_tail ρ w rfl Try.underlying26 talSize hc h1 hul) rfl
          · refine sd_store rfl (by kernel_rfl) rfl (by kernel_rfl) ea7 2 (by kernel_rfl) (by omega) (by kernel_rfl) rfl (fun w2 hG => ?_)
            obtain ⟨⟨v0, v1, v2, hb⟩, hg2, hs2⟩ := hG
            obtain ⟨w3, h1, h2, h3, h4⟩ := store_tal w2 (wr.heap.size) x hb
            exact ⟨w3, h1, ⟨⟨_, _, _, h2⟩, only_fresh hg2 h3 (by omega), by omega⟩, fun _ => h2, h2⟩
        · intro u w3 hT hu
          have e4 : u 4 = .slice (some ⟨bA, tailO oA 3 c', none⟩) us.length (c' - 1) := hu 4 (by omega)
          have hB : Blk w3 (wr.heap.size) 62 x.cells.toArray := hu 5 (by omega)
          obtain ⟨-, hg3, hs3⟩ := hT
          simp only [List.take_succ_cons, List.take_zero, List.drop_succ_cons, List.drop_zero, putAll]
          rw [e4]
          clear hu e4
          have G3 := Lib.hid hg3
          have HB3 := Lib.hid hB
          have hsw : w.heap.size ≤ w3.heap.size := by omega
          clear hg3 hB hs3
          have b0 := HB3.out.cell 0
          have b1 := HB3.out.cell 1
          have b2 := HB3.out.cell 2
          simp [Tal.cells] at b0 b1 b2
          have O3 := Lib.hid (own_ext O.out G3.out)
          go_wp2_with (at_builtin; go_must (refine wpList_append1 rfl _ _ 26 rfl w.heap.size Try.underlying26 talInfo rfl (by decide) (v := .slice AO zs.length cO) (by rfl) (w0 := w3) (cs := (x : Tal).cells.toArray) O3.out (by rfl) rfl (by simpa using Tal.one x) (by decide) (by omega) (by omega) ?_); intro v7 w7 hown7 hg7 hob7; obtain ⟨A7, c7, rfl, hc7, hm7, -, -⟩ := Rd.of_own hown7 (by decide))
          have FN := Lib.hid (show w7.ownsRow w.heap.size 62 3 (.slice A7 (zs.length + 1) c7) (zs ++ [x]).length ((zs ++ [x]).flatMap Tal.cells) by simpa using hown7)
          have GN : Hid (w.grownBy w7 none) := only_own (only_trans G.out G3.out) hg7 O3.out (Nat.le_refl _)
          have hnr : ∀ b, b < w.heap.size → some b ≠ (Value.slice AO zs.length cO).ownBlock := fun b hb e => by have := (O.out.lt b e.symm).1; omega
          have RNAT := Lib.hid ((RAT.out.grown G3.out (by simp)).grown hg7 hnr)
          clear hown7 hg7 hob7 hnr
          go_roundw
          case rel => exact ⟨us, [], zs ++ [x], some ⟨bA, tailO oA 3 c', none⟩, B', c' - 1, d', rfl, rfl, by omega, by unfold maxLen; omega, by omega, by unfold maxLen; omega, RNAT.out, Rd.nil, by rw [← MR.out]; simp [mrg, mrg_nil], by simp at *; omega, (fun t ht => IU.out t (by simp [ht])), (fun t ht => by simp at ht), FN.out, GN.out⟩
          case measure => simp [lenOf]; try omega
      | cons y vs =>
        obtain ⟨bB, oB, rfl, y0, y1, y2⟩ := RB.out.tal (i := 0) (t := y) rfl
        simp only [Nat.zero_mul, Nat.add_zero] at y0 y1 y2
        have hy := IV.out y (by simp)
        have hvl : vs.length + 1 ≤ d' := by simpa using hd1
        have hbB : bB < w.heap.size := by obtain ⟨b', o', e', hb', -, -⟩ := RB.out (by simp [Tal.cells]); injection e' with e'; injection e' with e1 e2; omega
        have RBT := Lib.hid (RB.out.tailS (x := y.cells) (xs := vs.flatMap Tal.cells) (z := 3) (n := vs.length) (c := d') rfl (tflat_len vs) hvl)
        have hbwB : bB < wr.heap.size := by omega
        have hbnB : bB ≠ wr.heap.size := by omega
        simp only [List.length_cons] at *
        by_cases hk : kl x y
        · skip
          obtain ⟨cI, hcI⟩ : ∃ c, c = cmpI x.host y.host := ⟨_, rfl⟩
          obtain ⟨cS, hcS⟩ : ∃ c, c = cmpS x.rule y.rule := ⟨_, rfl⟩
          have HCI : Hid (∀ w1, Calls Try.prog 33 #[.int .i64 x.host, .int .i64 y.host] w1 (fun e w' => e = .returned (.int .i64 cI) ∧ w' = w1)) := fun w1 => by rw [hcI]; exact cmpI_any _ _ _
          have HCS : Hid (∀ w1, Calls Try.prog 34 #[.string x.rule, .string y.rule] w1 (fun e w' => e = .returned (.int .i64 cS) ∧ w' = w1)) := fun w1 => by rw [hcS]; exact cmpS_any _ _ _
          have HD : Hid ((cI = 0 ∧ (-1 : Int) = cS) ∨ (cI ≠ 0 ∧ (-1 : Int) = cI)) := by rw [hcI, hcS]; exact or_lt hk
          clear hcI hcS
          go_wp2_with fail
          refine wp_region_still_tail 18 (by kernel_rfl) (by kernel_rfl) ?_
          change wpStill _ _ (World.drew _) (fun a' => wpList _ _ _ _ a' (World.drew _)) _ _
          simp only [List.take_succ_cons, List.take_zero, List.drop_succ_cons, List.drop_zero]
          repeat still_step
          still_call (HCI.out _)
          repeat still_step
          still_call (HCS.out _)
          refine wpStill_nil ?_
          go_wp2_with (go_at_call 32; refine (or_any wr.heap.size cI cS (-1) _ (Blk.new wr _ _).drew HD.out).mono ?_; rintro e w' ⟨rfl, rfl⟩)

          go_wp2_with fail
          refine wp_region_inv 6 (fun w1 w2 => Blk w1 (wr.heap.size + 1) 62 x.cells.toArray → Blk w2 (wr.heap.size + 1) 62 x.cells.toArray) (TGM wr (wr.heap.size + 1)) [(fun v _ => v = .slice (some ⟨bA, oA, none⟩) (us.length + 1) c'), (fun v _ => v = .pointer (some ⟨bA, oA, none⟩)), (fun v _ => v = .agg #[.int .i64 x.host, .string x.rule, .int .i64 x.lines]), (fun v _ => v = .slice (some ⟨bA, oA, none⟩) (us.length + 1) c'), (fun v _ => v = .slice (some ⟨bA, tailO oA 3 c', none⟩) us.length (c' - 1)), (fun _ wx => Blk wx (wr.heap.size + 1) 62 x.cells.toArray)] (by kernel_rfl) (by kernel_rfl) ?_ ?_ ?_ ?_
          · intro p hp
            simp only [List.mem_cons, List.not_mem_nil, or_false] at hp
            rcases hp with rfl | rfl | rfl | rfl | rfl | rfl
            · exact St.const _
            · exact St.const _
            · exact St.const _
            · exact St.const _
            · exact St.const _
            · exact fun v w1 w2 h => h
          · exact ⟨⟨_, _, _, by have h := (Blk.new (wr.alloc (.cells #[.int .i64 cI, .int .i64 cS] 3)) 62 #[.int .i64 0, .string ⟨#[]⟩, .int .i64 0]); rw [World.size_alloc] at h; exact h⟩, only_drew (only_drew (only_alloc (only_alloc (only_refl _ _) _) _)), by simp⟩
          · generalize hA : Act.mk _ _ = AA
            have hasz : AA.tmps.size = 76 := by rw [← hA]; kernel_rfl
            have ea0 : AA.eval (.tmp 0) = .slice (some ⟨bA, oA, none⟩) (us.length + 1) c' := by rw [← hA]; kernel_rfl
            have ea7 : AA.eval (.tmp 7) = .pointer (some ⟨wr.heap.size + 1, 0, none⟩) := by rw [← hA]; kernel_rfl
            clear hA
            simp only [List.take_succ_cons, List.take_zero]
            refine .cons ?_ (.cons ?_ (.cons ?_ (.cons ?_ (.cons ?_ (.cons ?_ .nil)))))
            · exact sd_copy rfl (by kernel_rfl) (fun _ h => h) rfl (by kernel_rfl) ea0 rfl
            · exact sd_one rfl (by kernel_rfl) (fun _ h => h) 0 (by kernel_rfl) (by omega) (by kernel_rfl) rfl (fun ρ w hc h1 _ => run_ix0 ρ w rfl Try.underlying26 talSize hc h1) rfl
            · exact sd_one rfl (by kernel_rfl) (fun _ h => h) 1 (by kernel_rfl) (by omega) (by kernel_rfl) rfl (fun ρ w hc h1 hG => run_load ρ w rfl h1 (load_tal w bA oA x ((cell_gr hG.2.1 hbwA).trans x0) ((cell_gr hG.2.1 hbwA).trans x1) ((cell_gr hG.2.1 hbwA).trans x2))) rfl
            · exact sd_copy rfl (by kernel_rfl) (fun _ h => h) rfl (by kernel_rfl) ea0 rfl
            · exact sd_one rfl (by kernel_rfl) (fun _ h => h) 3 (by kernel_rfl) (by omega) (by kernel_rfl) rfl (fun ρ w hc h1 _ => run_tail ρ w rfl Try.underlying26 talSize hc h1 hul) rfl
            · refine sd_store rfl (by kernel_rfl) rfl (by kernel_rfl) ea7 2 (by kernel_rfl) (by omega) (by kernel_rfl) rfl (fun w2 hG => ?_)
              obtain ⟨⟨v0, v1, v2, hb⟩, hg2, hs2⟩ := hG
              obtain ⟨w3, h1, h2, h3, h4⟩ := store_tal w2 (wr.heap.size + 1) x hb
              exact ⟨w3, h1, ⟨⟨_, _, _, h2⟩, only_fresh hg2 h3 (by omega), by omega⟩, fun _ => h2, h2⟩
          · intro u w3 hT hu
            have e4 : u 4 = .slice (some ⟨bA, tailO oA 3 c', none⟩) us.length (c' - 1) := hu 4 (by omega)
            have hB : Blk w3 (wr.heap.size + 1) 62 x.cells.toArray := hu 5 (by omega)
            obtain ⟨-, hg3, hs3⟩ := hT
            simp only [List.take_succ_cons, List.take_zero, List.drop_succ_cons, List.drop_zero, putAll]
            rw [e4]
            clear hu e4
            have G3 := Lib.hid hg3
            have HB3 := Lib.hid hB
            have hsw : w.heap.size ≤ w3.heap.size := by omega
            clear hg3 hB hs3
            have b0 := HB3.out.cell 0
            have b1 := HB3.out.cell 1
            have b2 := HB3.out.cell 2
            simp [Tal.cells] at b0 b1 b2
            have O3 := Lib.hid (own_ext O.out G3.out)
            go_wp2_with (at_builtin; go_must (refine wpList_append1 rfl _ _ 26 rfl w.heap.size Try.underlying26 talInfo rfl (by decide) (v := .slice AO zs.length cO) (by rfl) (w0 := w3) (cs := (x : Tal).cells.toArray) O3.out (by rfl) rfl (by simpa using Tal.one x) (by decide) (by omega) (by omega) ?_); intro v7 w7 hown7 hg7 hob7; obtain ⟨A7, c7, rfl, hc7, hm7, -, -⟩ := Rd.of_own hown7 (by decide))
            have FN := Lib.hid (show w7.ownsRow w.heap.size 62 3 (.slice A7 (zs.length + 1) c7) (zs ++ [x]).length ((zs ++ [x]).flatMap Tal.cells) by simpa using hown7)
            have GN : Hid (w.grownBy w7 none) := only_own (only_trans G.out G3.out) hg7 O3.out (Nat.le_refl _)
            have hnr : ∀ b, b < w.heap.size → some b ≠ (Value.slice AO zs.length cO).ownBlock := fun b hb e => by have := (O.out.lt b e.symm).1; omega
            have RNAT := Lib.hid ((RAT.out.grown G3.out (by simp)).grown hg7 hnr)
            have RNB := Lib.hid ((RB.out.grown G3.out (by simp)).grown hg7 hnr)
            clear hown7 hg7 hob7 hnr
            go_roundw
            case rel => exact ⟨us, y :: vs, zs ++ [x], some ⟨bA, tailO oA 3 c', none⟩, some ⟨bB, oB, none⟩, c' - 1, d', rfl, rfl, by omega, by unfold maxLen; omega, by simp; omega, by unfold maxLen; omega, RNAT.out, RNB.out, by rw [← MR.out, mrg, if_pos hk]; simp, by simp at *; omega, (fun t ht => IU.out t (by simp [ht])), IV.out, FN.out, GN.out⟩
            case measure => simp [lenOf]; try omega
        · by_cases hk2 : kl y x
          · replace hk := hk2
            obtain ⟨cI, hcI⟩ : ∃ c, c = cmpI x.host y.host := ⟨_, rfl⟩
            obtain ⟨cS, hcS⟩ : ∃ c, c = cmpS x.rule y.rule := ⟨_, rfl⟩
            have HCI : Hid (∀ w1, Calls Try.prog 33 #[.int .i64 x.host, .int .i64 y.host] w1 (fun e w' => e = .returned (.int .i64 cI) ∧ w' = w1)) := fun w1 => by rw [hcI]; exact cmpI_any _ _ _
            have HCS : Hid (∀ w1, Calls Try.prog 34 #[.string x.rule, .string y.rule] w1 (fun e w' => e = .returned (.int .i64 cS) ∧ w' = w1)) := fun w1 => by rw [hcS]; exact cmpS_any _ _ _
            have HD : Hid ((cI = 0 ∧ (1 : Int) = cS) ∨ (cI ≠ 0 ∧ (1 : Int) = cI)) := by rw [hcI, hcS]; exact or_gt hk
            clear hcI hcS
            go_wp2_with fail
            refine wp_region_still_tail 18 (by kernel_rfl) (by kernel_rfl) ?_
            change wpStill _ _ (World.drew _) (fun a' => wpList _ _ _ _ a' (World.drew _)) _ _
            simp only [List.take_succ_cons, List.take_zero, List.drop_succ_cons, List.drop_zero]
            repeat still_step
            still_call (HCI.out _)
            repeat still_step
            still_call (HCS.out _)
            refine wpStill_nil ?_
            go_wp2_with (go_at_call 32; refine (or_any wr.heap.size cI cS (1) _ (Blk.new wr _ _).drew HD.out).mono ?_; rintro e w' ⟨rfl, rfl⟩)

            go_wp2_with fail
            have HB3 := Lib.hid (show Blk ((wr.alloc (.cells #[.int .i64 cI, .int .i64 cS] 3)).alloc (.cells #[.int .i64 0, .string ⟨#[]⟩, .int .i64 0] 62)).drew (wr.heap.size + 1) 62 #[.int .i64 0, .string ⟨#[]⟩, .int .i64 0] from by have h := Blk.new (wr.alloc (.cells #[.int .i64 cI, .int .i64 cS] 3)) 62 #[.int .i64 0, .string ⟨#[]⟩, .int .i64 0]; rw [World.size_alloc] at h; exact h)
            have G3 := Lib.hid (show wr.grownBy (((wr.alloc (.cells #[.int .i64 cI, .int .i64 cS] 3)).alloc (.cells #[.int .i64 0, .string ⟨#[]⟩, .int .i64 0] 62)).drew) none from only_drew (only_alloc (only_alloc (only_refl _ _) _) _))
            have hgr : wr.heap.size ≤ wr.heap.size + 1 := by omega
            have hsw : w.heap.size ≤ (((wr.alloc (.cells #[.int .i64 cI, .int .i64 cS] 3)).alloc (.cells #[.int .i64 0, .string ⟨#[]⟩, .int .i64 0] 62)).drew).heap.size := by simp; omega
            generalize hW3 : ((wr.alloc (.cells #[.int .i64 cI, .int .i64 cS] 3)).alloc (.cells #[.int .i64 0, .string ⟨#[]⟩, .int .i64 0] 62)).drew = w3 at *
            clear hW3

            have b0 := HB3.out.cell 0
            have b1 := HB3.out.cell 1
            have b2 := HB3.out.cell 2
            have f0 := HB3.out.frozen 0
            have f1 := HB3.out.frozen 1
            have f2 := HB3.out.frozen 2
            simp [Tal.cells] at b0 b1 b2
            have y0' := (cell_gr G3.out hbwB (o := oB)).trans y0
            have y1' := (cell_gr G3.out hbwB (o := oB + 1)).trans y1
            have y2' := (cell_gr G3.out hbwB (o := oB + 2)).trans y2
            go_wp2_with fail
            refine wp_region_still_tail 16 (by kernel_rfl) (by kernel_rfl) ?_
            change wpStill _ _ (World.drew _) (fun a' => wpList _ _ _ _ a' (World.drew _)) _ _
            simp only [List.take_succ_cons, List.take_zero, List.drop_succ_cons, List.drop_zero]
            repeat still_step
            refine wpStill_nil ?_
            refine wpList_store_tal rfl _ _ rfl (by rfl) (x := ⟨y.host, y.rule, IntKind.i64.wrap (y.lines)⟩) (by rfl) HB3.out.drew ?_
            intro w4 hB4 hg4 hs4
            rw [show IntKind.i64.wrap (y.lines) = y.lines from IntWalk.i64_in _ (by omega)] at hB4
            replace hB4 : Blk w4 (wr.heap.size + 1) 62 (y : Tal).cells.toArray := by simpa using hB4
            have G4 := Lib.hid (only_fresh (only_drew G3.out) hg4 hgr)
            have HB4 := Lib.hid hB4
            have hsw4 : w.heap.size ≤ w4.heap.size := by have := hg4.size; simp at this; omega
            clear hB4 hg4 b0 b1 b2 f0 f1 f2 y0' y1' y2' hs4 HB3 G3 hsw

            have b0 := HB4.out.cell 0
            have b1 := HB4.out.cell 1
            have b2 := HB4.out.cell 2
            simp [Tal.cells] at b0 b1 b2
            have O3 := Lib.hid (own_ext O.out G4.out)
            go_wp2_with (first | (refine wpList_tail rfl rfl Try.underlying26 talSize (by rfl) hvl ?_) | (at_builtin; go_must (refine wpList_append1 rfl _ _ 26 rfl w.heap.size Try.underlying26 talInfo rfl (by decide) (v := .slice AO zs.length cO) (by rfl) (w0 := w4) (cs := (y : Tal).cells.toArray) O3.out (by rfl) rfl (by simpa using Tal.one y) (by decide) (by omega) (by omega) ?_); intro v7 w7 hown7 hg7 hob7; obtain ⟨A7, c7, rfl, hc7, hm7, -, -⟩ := Rd.of_own hown7 (by decide)))
            have FN := Lib.hid (show w7.ownsRow w.heap.size 62 3 (.slice A7 (zs.length + 1) c7) (zs ++ [y]).length ((zs ++ [y]).flatMap Tal.cells) by simpa using hown7)
            have GN : Hid (w.grownBy w7 none) := only_own (only_trans G.out G4.out) hg7 O3.out (Nat.le_refl _)
            have hnr : ∀ b, b < w.heap.size → some b ≠ (Value.slice AO zs.length cO).ownBlock := fun b hb e => by have := (O.out.lt b e.symm).1; omega
            have RNA := Lib.hid ((RA.out.grown G4.out (by simp)).grown hg7 hnr)
            have RNBT := Lib.hid ((RBT.out.grown G4.out (by simp)).grown hg7 hnr)
            clear hown7 hg7 hob7 hnr
            go_roundw
            case rel => exact ⟨x :: us, vs, zs ++ [y], some ⟨bA, oA, none⟩, some ⟨bB, tailO oB 3 d', none⟩, c', d' - 1, rfl, rfl, by simp; omega, by unfold maxLen; omega, by omega, by unfold maxLen; omega, RNA.out, RNBT.out, by rw [← MR.out, mrg, if_neg (fun h => kl_irrefl x (kl_trans h hk)), if_pos hk]; simp, by simp at *; omega, IU.out, (fun t ht => IV.out t (by simp [ht])), FN.out, GN.out⟩
            case measure => simp [lenOf]; try omega
          · skip
            obtain ⟨cI, hcI⟩ : ∃ c, c = cmpI x.host y.host := ⟨_, rfl⟩
            obtain ⟨cS, hcS⟩ : ∃ c, c = cmpS x.rule y.rule := ⟨_, rfl⟩
            have HCI : Hid (∀ w1, Calls Try.prog 33 #[.int .i64 x.host, .int .i64 y.host] w1 (fun e w' => e = .returned (.int .i64 cI) ∧ w' = w1)) := fun w1 => by rw [hcI]; exact cmpI_any _ _ _
            have HCS : Hid (∀ w1, Calls Try.prog 34 #[.string x.rule, .string y.rule] w1 (fun e w' => e = .returned (.int .i64 cS) ∧ w' = w1)) := fun w1 => by rw [hcS]; exact cmpS_any _ _ _
            have HD : Hid ((cI = 0 ∧ (0 : Int) = cS) ∨ (cI ≠ 0 ∧ (0 : Int) = cI)) := by rw [hcI, hcS]; exact or_eq hk hk2
            clear hcI hcS
            go_wp2_with fail
            refine wp_region_still_tail 18 (by kernel_rfl) (by kernel_rfl) ?_
            change wpStill _ _ (World.drew _) (fun a' => wpList _ _ _ _ a' (World.drew _)) _ _
            simp only [List.take_succ_cons, List.take_zero, List.drop_succ_cons, List.drop_zero]
            repeat still_step
            still_call (HCI.out _)
            repeat still_step
            still_call (HCS.out _)
            refine wpStill_nil ?_
            go_wp2_with (go_at_call 32; refine (or_any wr.heap.size cI cS (0) _ (Blk.new wr _ _).drew HD.out).mono ?_; rintro e w' ⟨rfl, rfl⟩)

            go_wp2_with fail
            refine wp_region_inv 6 (fun w1 w2 => Blk w1 (wr.heap.size + 1) 62 x.cells.toArray → Blk w2 (wr.heap.size + 1) 62 x.cells.toArray) (TGM wr (wr.heap.size + 1)) [(fun v _ => v = .slice (some ⟨bA, oA, none⟩) (us.length + 1) c'), (fun v _ => v = .pointer (some ⟨bA, oA, none⟩)), (fun v _ => v = .agg #[.int .i64 x.host, .string x.rule, .int .i64 x.lines]), (fun v _ => v = .slice (some ⟨bA, oA, none⟩) (us.length + 1) c'), (fun v _ => v = .slice (some ⟨bA, tailO oA 3 c', none⟩) us.length (c' - 1)), (fun _ wx => Blk wx (wr.heap.size + 1) 62 x.cells.toArray)] (by kernel_rfl) (by kernel_rfl) ?_ ?_ ?_ ?_
            · intro p hp
              simp only [List.mem_cons, List.not_mem_nil, or_false] at hp
              rcases hp with rfl | rfl | rfl | rfl | rfl | rfl
              · exact St.const _
              · exact St.const _
              · exact St.const _
              · exact St.const _
              · exact St.const _
              · exact fun v w1 w2 h => h
            · exact ⟨⟨_, _, _, by have h := (Blk.new (wr.alloc (.cells #[.int .i64 cI, .int .i64 cS] 3)) 62 #[.int .i64 0, .string ⟨#[]⟩, .int .i64 0]); rw [World.size_alloc] at h; exact h⟩, only_drew (only_drew (only_alloc (only_alloc (only_refl _ _) _) _)), by simp⟩
            · generalize hA : Act.mk _ _ = AA
              have hasz : AA.tmps.size = 76 := by rw [← hA]; kernel_rfl
              have ea0 : AA.eval (.tmp 0) = .slice (some ⟨bA, oA, none⟩) (us.length + 1) c' := by rw [← hA]; kernel_rfl
              have ea7 : AA.eval (.tmp 7) = .pointer (some ⟨wr.heap.size + 1, 0, none⟩) := by rw [← hA]; kernel_rfl
              clear hA
              simp only [List.take_succ_cons, List.take_zero]
              refine .cons ?_ (.cons ?_ (.cons ?_ (.cons ?_ (.cons ?_ (.cons ?_ .nil)))))
              · exact sd_copy rfl (by kernel_rfl) (fun _ h => h) rfl (by kernel_rfl) ea0 rfl
              · exact sd_one rfl (by kernel_rfl) (fun _ h => h) 0 (by kernel_rfl) (by omega) (by kernel_rfl) rfl (fun ρ w hc h1 _ => run_ix0 ρ w rfl Try.underlying26 talSize hc h1) rfl
              · exact sd_one rfl (by kernel_rfl) (fun _ h => h) 1 (by kernel_rfl) (by omega) (by kernel_rfl) rfl (fun ρ w hc h1 hG => run_load ρ w rfl h1 (load_tal w bA oA x ((cell_gr hG.2.1 hbwA).trans x0) ((cell_gr hG.2.1 hbwA).trans x1) ((cell_gr hG.2.1 hbwA).trans x2))) rfl
              · exact sd_copy rfl (by kernel_rfl) (fun _ h => h) rfl (by kernel_rfl) ea0 rfl
              · exact sd_one rfl (by kernel_rfl) (fun _ h => h) 3 (by kernel_rfl) (by omega) (by kernel_rfl) rfl (fun ρ w hc h1 _ => run_tail ρ w rfl Try.underlying26 talSize hc h1 hul) rfl
              · refine sd_store rfl (by kernel_rfl) rfl (by kernel_rfl) ea7 2 (by kernel_rfl) (by omega) (by kernel_rfl) rfl (fun w2 hG => ?_)
                obtain ⟨⟨v0, v1, v2, hb⟩, hg2, hs2⟩ := hG
                obtain ⟨w3, h1, h2, h3, h4⟩ := store_tal w2 (wr.heap.size + 1) x hb
                exact ⟨w3, h1, ⟨⟨_, _, _, h2⟩, only_fresh hg2 h3 (by omega), by omega⟩, fun _ => h2, h2⟩
            · intro u w3 hT hu
              have e4 : u 4 = .slice (some ⟨bA, tailO oA 3 c', none⟩) us.length (c' - 1) := hu 4 (by omega)
              have hB : Blk w3 (wr.heap.size + 1) 62 x.cells.toArray := hu 5 (by omega)
              obtain ⟨-, hg3, hs3⟩ := hT
              simp only [List.take_succ_cons, List.take_zero, List.drop_succ_cons, List.drop_zero, putAll]
              rw [e4]
              clear hu e4
              have G3 := Lib.hid hg3
              have HB3 := Lib.hid hB
              have hsw : w.heap.size ≤ w3.heap.size := by omega
              clear hg3 hB hs3
              have hgr : wr.heap.size ≤ wr.heap.size + 1 := by omega

              have b0 := HB3.out.cell 0
              have b1 := HB3.out.cell 1
              have b2 := HB3.out.cell 2
              have f0 := HB3.out.frozen 0
              have f1 := HB3.out.frozen 1
              have f2 := HB3.out.frozen 2
              simp [Tal.cells] at b0 b1 b2
              have y0' := (cell_gr G3.out hbwB (o := oB)).trans y0
              have y1' := (cell_gr G3.out hbwB (o := oB + 1)).trans y1
              have y2' := (cell_gr G3.out hbwB (o := oB + 2)).trans y2
              go_wp2_with fail
              refine wp_region_still_tail 16 (by kernel_rfl) (by kernel_rfl) ?_
              change wpStill _ _ (World.drew _) (fun a' => wpList _ _ _ _ a' (World.drew _)) _ _
              simp only [List.take_succ_cons, List.take_zero, List.drop_succ_cons, List.drop_zero]
              repeat still_step
              refine wpStill_nil ?_
              refine wpList_store_tal rfl _ _ rfl (by rfl) (x := ⟨y.host, y.rule, IntKind.i64.wrap (x.lines + y.lines)⟩) (by rfl) HB3.out.drew ?_
              intro w4 hB4 hg4 hs4
              rw [show IntKind.i64.wrap (x.lines + y.lines) = x.lines + y.lines from IntWalk.i64_in _ (by omega)] at hB4
              replace hB4 : Blk w4 (wr.heap.size + 1) 62 ((⟨y.host, y.rule, x.lines + y.lines⟩ : Tal) : Tal).cells.toArray := by simpa using hB4
              have G4 := Lib.hid (only_fresh (only_drew G3.out) hg4 hgr)
              have HB4 := Lib.hid hB4
              have hsw4 : w.heap.size ≤ w4.heap.size := by have := hg4.size; simp at this; omega
              clear hB4 hg4 b0 b1 b2 f0 f1 f2 y0' y1' y2' hs4 HB3 G3 hsw

              have b0 := HB4.out.cell 0
              have b1 := HB4.out.cell 1
              have b2 := HB4.out.cell 2
              simp [Tal.cells] at b0 b1 b2
              have O3 := Lib.hid (own_ext O.out G4.out)
              go_wp2_with (first | (refine wpList_tail rfl rfl Try.underlying26 talSize (by rfl) hvl ?_) | (at_builtin; go_must (refine wpList_append1 rfl _ _ 26 rfl w.heap.size Try.underlying26 talInfo rfl (by decide) (v := .slice AO zs.length cO) (by rfl) (w0 := w4) (cs := ((⟨y.host, y.rule, x.lines + y.lines⟩ : Tal) : Tal).cells.toArray) O3.out (by rfl) rfl (by simpa using Tal.one (⟨y.host, y.rule, x.lines + y.lines⟩ : Tal)) (by decide) (by omega) (by omega) ?_); intro v7 w7 hown7 hg7 hob7; obtain ⟨A7, c7, rfl, hc7, hm7, -, -⟩ := Rd.of_own hown7 (by decide)))
              have FN := Lib.hid (show w7.ownsRow w.heap.size 62 3 (.slice A7 (zs.length + 1) c7) (zs ++ [(⟨y.host, y.rule, x.lines + y.lines⟩ : Tal)]).length ((zs ++ [(⟨y.host, y.rule, x.lines + y.lines⟩ : Tal)]).flatMap Tal.cells) by simpa using hown7)
              have GN : Hid (w.grownBy w7 none) := only_own (only_trans G.out G4.out) hg7 O3.out (Nat.le_refl _)
              have hnr : ∀ b, b < w.heap.size → some b ≠ (Value.slice AO zs.length cO).ownBlock := fun b hb e => by have := (O.out.lt b e.symm).1; omega
              have RNAT := Lib.hid ((RAT.out.grown G4.out (by simp)).grown hg7 hnr)
              have RNBT := Lib.hid ((RBT.out.grown G4.out (by simp)).grown hg7 hnr)
              clear hown7 hg7 hob7 hnr
              go_roundw
              case rel => exact ⟨us, vs, zs ++ [(⟨y.host, y.rule, x.lines + y.lines⟩ : Tal)], some ⟨bA, tailO oA 3 c', none⟩, some ⟨bB, tailO oB 3 d', none⟩, c' - 1, d' - 1, rfl, rfl, by omega, by unfold maxLen; omega, by omega, by unfold maxLen; omega, RNAT.out, RNBT.out, by rw [← MR.out, mrg, if_neg hk, if_neg hk2]; simp, by simp at *; omega, (fun t ht => IU.out t (by simp [ht])), (fun t ht => IV.out t (by simp [ht])), FN.out, GN.out⟩
              case measure => simp [lenOf]; try omega
end Go.Proofs.Ytiogpomgpknjlaa
