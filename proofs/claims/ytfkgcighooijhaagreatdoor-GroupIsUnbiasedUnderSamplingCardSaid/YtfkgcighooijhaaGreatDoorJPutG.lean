/- group.put (printed by mkput.py). Condition: sizes. -/
import Derived.Test.YtfkgcighooijhaaGreatDoorJGrpE
import Derived.Test.YtfkgcighooijhaaGreatDoorJGenB
namespace Go.Proofs.YtfkgcighooijhaaGreatDoor
open Go.RowKit
set_option linter.unusedVariables false
set_option linter.unusedSimpArgs false

/-- a partial that is being made: its rows are the call's own -/
structure POwn (w : World) (base pb : Nat) (key : Value) (cs : List CM) (vT vS vV : Value) : Prop where
  blk : Blk w pb 69 #[key, vT, vS, vV]
  t : w.ownsRow base 3 1 vT cs.length (tOf cs)
  s : w.ownsRow base 4 1 vS cs.length (sOf cs)
  v : w.ownsRow base 24 1 vV cs.length (vOf cs)
/-- the blocks of such a partial -/
def PB (pb : Nat) (vT vS vV : Value) (i : Nat) : Prop := i = pb ∨ Value.ownBlock vT = some i ∨ Value.ownBlock vS = some i ∨ Value.ownBlock vV = some i
def Newer (w : World) (v v' : Value) : Prop := ∀ g, Value.ownBlock v' = some g → Value.ownBlock v = some g ∨ w.heap.size ≤ g
def PutPost (w : World) (base pb : Nat) (key : Value) (cs : List CM) (vT vS vV : Value) (c : CM) (e : Ending) (w' : World) : Prop :=
  e = .returned (.tuple #[]) ∧ ∃ vT' vS' vV', POwn w' base pb key (cs ++ [c]) vT' vS' vV' ∧ FrN (PB pb vT vS vV) w w' ∧ Newer w vT vT' ∧ Newer w vS vS' ∧ Newer w vV vV'
theorem tOf_snoc (cs : List CM) (c : CM) : tOf (cs ++ [c]) = tOf cs ++ [.int .i64 c.t] := by simp [tOf]
theorem sOf_snoc (cs : List CM) (c : CM) : sOf (cs ++ [c]) = sOf cs ++ [.bool c.s] := by simp [sOf]
theorem vOf_snoc (cs : List CM) (c : CM) : vOf (cs ++ [c]) = vOf cs ++ [c.v.val] := by simp [vOf]
set_option maxHeartbeats 8000000 in
set_option maxRecDepth 100000 in
theorem put_any (base pb : Nat) (key : Value) (cs : List CM) (vT vS vV : Value) (c : CM) (w : World) (h : POwn w base pb key cs vT vS vV) (hnn : cs.length ≤ 1000000) (hbase0 : base ≤ w.heap.size) :
    Calls Tryz.prog 51 #[.pointer (some ⟨pb, 0, none⟩), .agg c.cells.toArray] w (PutPost w base pb key cs vT vS vV c) := by
  obtain ⟨hB, hT, hS, hV⟩ := h
  obtain ⟨xt, xs, xl, xa, xc⟩ := c
  show Calls _ _ #[_, .agg #[.int .i64 xt, .bool xs, .slice xa xl.length xc]] w _
  obtain ⟨cb, hcbd⟩ : ∃ cb, cb = w.heap.size := ⟨_, rfl⟩
  obtain ⟨W0, hW0⟩ : ∃ W, W = w.alloc (.cells #[.int .i64 xt, .bool xs, .slice xa xl.length xc] 91) := ⟨_, rfl⟩
  have hC : Blk W0 cb 91 #[.int .i64 xt, .bool xs, .slice xa xl.length xc] := by rw [hW0, hcbd]; exact Blk.new _ _ _
  have hB0 : Blk W0 pb 69 #[key, vT, vS, vV] := by rw [hW0]; exact hB.alloc _
  have own0 := Lib.hid (show W0.ownsRow base 3 1 vT cs.length (tOf cs) by rw [hW0]; exact hT.alloc _)
  have oS0 := Lib.hid (show W0.ownsRow base 4 1 vS cs.length (sOf cs) by rw [hW0]; exact hS.alloc _)
  have oV0 := Lib.hid (show W0.ownsRow base 24 1 vV cs.length (vOf cs) by rw [hW0]; exact hV.alloc _)
  have F0 : Hid (FrN (PB pb vT vS vV) w W0) := Lib.hid (by rw [hW0]; exact (FrN.refl _ _).alloc _)
  have HCB := Lib.hid hcbd
  have BP := Lib.hid hB0
  have BC := Lib.hid hC
  have HW := Lib.hid hW0
  have hpbc : pb < cb := by rw [hcbd]; exact hB.lt
  have hbase : base ≤ W0.heap.size := by rw [hW0]; simp; omega
  clear hB hT hS hV hcbd
  go_enter Tryz.func51, Tryz.ntmps51
  go_upto_region 1 with fail
  rw [← hW0]
  clear hW0
  rw [show w.heap.size = cb from HCB.out.symm]
  have hpb : pb < W0.heap.size := BP.out.lt
  have hcb : cb < W0.heap.size := BC.out.lt
  have hnp : ¬ (Value.ownBlock vT = some pb) := blk_norow BP.out own0.out (by decide)
  have hnc : ¬ (Value.ownBlock vT = some cb) := blk_norow BC.out own0.out (by decide)
  have p1 := BP.out.cell 1
  have c0 := BC.out.cell 0
  simp at p1 c0
  refine wp_region_gen 9 (JC [some (.pointer (some ⟨pb, 0, none⟩)), some (.pointer (some ⟨pb, 0, none⟩)), some (.pointer (some ⟨pb, 0, none⟩)), some (.pointer (some ⟨pb, 1, none⟩)), some (vT), some (.pointer (some ⟨cb, 0, none⟩)), some (.int .i64 xt), none, none] (fun D u w => FrN (fun i => Value.ownBlock vT = some i) W0 w ∧ AppI W0 base 7 8 vT 3 cs.length (tOf cs) (.int .i64 xt) D u w)) (by kernel_rfl) (by kernel_rfl) ?_ ?_ ?_
  · intro u
    exact ⟨(fun j c _ h => by cases h), FrN.refl _ _, AppI.start own0.out⟩
  · intro AA hA
    have hasz : AA.tmps.size = 37 := by rw [hA]; kernel_rfl
    have ea0 : AA.eval (.tmp 0) = .pointer (some ⟨pb, 0, none⟩) := by rw [hA]; kernel_rfl
    have ea3 : AA.eval (.tmp 3) = .pointer (some ⟨cb, 0, none⟩) := by rw [hA]; kernel_rfl
    clear hA
    simp only [List.take_succ_cons, List.take_zero]
    refine .cons ?_ (.cons ?_ (.cons ?_ (.cons ?_ (.cons ?_ (.cons ?_ (.cons ?_ (.cons ?_ (.cons ?_ (.nil)))))))))
    · exact gd_gen (by kernel_rfl) (Want.none_ rfl) rfl (fun D u w v h => ⟨h.1, h.2.other v (by omega) (by omega)⟩) (fun D u ρ w kn => by
        have e0 := kn.own 0 (c := .pointer (some ⟨pb, 0, none⟩)) (by kernel_rfl) ea0
        simp [execOp, kn.rho.con, e0, go_sem])
    · exact gd_gen (by kernel_rfl) (Want.none_ rfl) rfl (fun D u w v h => ⟨h.1, h.2.other v (by omega) (by omega)⟩) (fun D u ρ w kn => by
        have e0 := kn.own 0 (c := .pointer (some ⟨pb, 0, none⟩)) (by kernel_rfl) ea0
        simp [execOp, kn.rho.con, e0, go_sem])
    · exact gd_gen (by kernel_rfl) (Want.none_ rfl) rfl (fun D u w v h => ⟨h.1, h.2.other v (by omega) (by omega)⟩) (fun D u ρ w kn => by
        have e0 := kn.con 1 5 (c := .pointer (some ⟨pb, 0, none⟩)) (by kernel_rfl) (by omega) (by kernel_rfl) rfl
        simp [execOp, kn.rho.con, e0, go_sem])
    · exact gd_gen (by kernel_rfl) (Want.none_ rfl) rfl (fun D u w v h => ⟨h.1, h.2.other v (by omega) (by omega)⟩) (fun D u ρ w kn => by
        have e0 := kn.con 2 6 (c := .pointer (some ⟨pb, 0, none⟩)) (by kernel_rfl) (by omega) (by kernel_rfl) rfl
        simp [execOp, kn.rho.con, e0, go_sem])
    · exact gd_gen (by kernel_rfl) (Want.none_ rfl) rfl (fun D u w v h => ⟨h.1, h.2.other v (by omega) (by omega)⟩) (fun D u ρ w kn => by
        have e0 := kn.con 3 7 (c := .pointer (some ⟨pb, 1, none⟩)) (by kernel_rfl) (by omega) (by kernel_rfl) rfl
        have f0 := (kn.ext.1.cell hpb hnp).trans p1
        simp [execOp, kn.rho.con, e0, f0, go_sem])
    · exact gd_gen (by kernel_rfl) (Want.none_ rfl) rfl (fun D u w v h => ⟨h.1, h.2.other v (by omega) (by omega)⟩) (fun D u ρ w kn => by
        have e0 := kn.own 3 (c := .pointer (some ⟨cb, 0, none⟩)) (by kernel_rfl) ea3
        simp [execOp, kn.rho.con, e0, go_sem])
    · exact gd_gen (by kernel_rfl) (Want.none_ rfl) rfl (fun D u w v h => ⟨h.1, h.2.other v (by omega) (by omega)⟩) (fun D u ρ w kn => by
        have e0 := kn.con 5 9 (c := .pointer (some ⟨cb, 0, none⟩)) (by kernel_rfl) (by omega) (by kernel_rfl) rfl
        have f0 := (kn.ext.1.cell hcb hnc).trans c0
        simp [execOp, kn.rho.con, e0, f0, go_sem])
    · refine gd_eff (by kernel_rfl) (Want.none_ rfl) (fun D u ρ w kn hD => ?_)
      have e0 := kn.con 6 10 (c := .int .i64 xt) (by kernel_rfl) (by omega) (by kernel_rfl) rfl
      obtain ⟨x1, x2⟩ := kn.ext
      exact ⟨.slice (some ⟨w.heap.size, 0, none⟩) 1 1, w.alloc (.cells #[.int .i64 xt] 3), by simp [execOp, kn.rho.con, e0, go_sem], (fun c h => by injection h with h; cases h), x1.alloc _, x2.laid (by omega) hD x1.2.2.2.1⟩
    · refine gd_eff (by kernel_rfl) (Want.none_ rfl) (fun D u ρ w kn hD => ?_)
      have e0 := kn.con 4 8 (c := vT) (by kernel_rfl) (by omega) (by kernel_rfl) rfl
      have e1 := kn.slot 7 11 (by kernel_rfl) (by omega)
      have h1 := kn.dep 7 (by kernel_rfl)
      obtain ⟨x1, x2⟩ := kn.ext
      obtain ⟨v', w', hr, ho, hg, hb⟩ := x2.run hD h1 47 47 Tryz.underlying47 intInfo37 rfl rfl (by decide) hnn (Nat.le_trans hbase x1.2.2.2.1)
      exact ⟨v', w', exec_append rfl e0 e1 hr, (fun c h => by injection h with h; cases h), x1.grow hg (fun g hg => .inl (hg)), x2.done (by omega) hD h1 x1.2.2.2.1 ho hb⟩
  · intro D u w3 hJ hD
    obtain ⟨hc, x1, x2⟩ := hJ
    obtain ⟨ho, hnew⟩ := x2.after (hD 8 (by omega))
    obtain ⟨A0, C0, hv2, -, -, -, -⟩ := Rd.of_own ho (by decide)
    have e0 : u 0 = .pointer (some ⟨pb, 0, none⟩) := hc 0 _ rfl (hD 0 (by omega))
    simp only [List.take_succ_cons, List.take_zero, List.drop_succ_cons, List.drop_zero, putAll]
    rw [hv2] at ho hnew ⊢
    rw [e0]
    have hB3 := x1.blk BP.out hnp
    have hC3 := x1.blk BC.out hnc
    have q1 := hB3.cell 1
    have f1 := hB3.frozen 1
    simp at q1
    obtain ⟨W1, hW1⟩ : ∃ W, W = w3.setCell ⟨pb, 1, none⟩ (.slice A0 (cs.length + 1) C0) := ⟨_, rfl⟩
    have hgS : w3.grownBy W1 (some pb) := by rw [hW1]; exact only_setCell (only_refl _ _) (.inl rfl) _
    have BP1 : Hid (Blk W1 pb 69 #[key, (.slice A0 (cs.length + 1) C0), vS, vV]) := Lib.hid (by rw [hW1]; simpa using hB3.set_ 1 (.slice A0 (cs.length + 1) C0))
    have BC1 : Hid (Blk W1 cb 91 #[.int .i64 xt, .bool xs, .slice xa xl.length xc]) := Lib.hid (hC3.grown hgS (by intro e; injection e; omega))
    have oN1 : Hid (W1.ownsRow base 3 1 (.slice A0 (cs.length + 1) C0) (cs.length + 1) (tOf cs ++ [.int .i64 xt])) := Lib.hid (own_off ho hgS (blk_norow hB3 ho (by decide)))
    have NW1 : Hid (∀ g, Value.ownBlock (.slice A0 (cs.length + 1) C0) = some g → Value.ownBlock vT = some g ∨ W0.heap.size ≤ g) := Lib.hid hnew
    have KEEP : Hid (∀ (b' : Nat) (e' : TypeId) (m : Nat) (ys : List Value) (z : Value), W0.ownsRow b' e' 1 z m ys → e' ≠ 3 → e' ≠ 69 → W1.ownsRow b' e' 1 z m ys) := Lib.hid (fun b' e' m ys z hz h1 h2 => by
      have k1 : w3.ownsRow b' e' 1 z m ys := by
        obtain ⟨hl, hx⟩ := hz
        refine ⟨hl, ?_⟩
        rcases hx with hx | ⟨g, cap, cur, y1, y2, y3, y4⟩
        · exact .inl hx
        · refine .inr ⟨g, cap, cur, y1, y2, (x1.2.2.2.2 g (Array.getElem?_eq_some_iff.1 y3).1 (fun hB => ?_)).trans y3, y4⟩
          obtain ⟨cs', h3⟩ := own_rowT own0.out g hB
          rw [y3] at h3
          injection h3 with h3
          injection h3 with _ h3 _
          exact h1 h3
      exact own_off k1 hgS (blk_norow (BP.out |> fun hb => x1.blk hb hnp) k1 (fun e => h2 e.symm)))
    have F1 : Hid (FrN (PB pb vT vS vV) w W1) := Lib.hid (F0.out.trans (B' := fun i => Value.ownBlock vT = some i ∨ i = pb) ((x1.mono (fun i hi => .inl hi)).grow hgS (fun g hg => .inl (.inr (by injection hg with hg; exact hg.symm)))) (fun i hi => by rcases hi with hi | hi; exact .inl (.inr (.inl hi)); exact .inl (.inl hi)))
    have hs1 : W0.heap.size ≤ W1.heap.size := Nat.le_trans x1.2.2.2.1 hgS.size
    have oS1 := Lib.hid (KEEP.out _ _ _ _ _ oS0.out (by decide) (by decide))
    have oV1 := Lib.hid (KEEP.out _ _ _ _ _ oV0.out (by decide) (by decide))
    have hbase' : base ≤ W1.heap.size := Nat.le_trans hbase hs1
    clear hc hD ho hnew e0 hv2 x1 x2 hB3 hC3 hgS KEEP hpb hcb hnp hnc p1 c0 hbase
    have hbase := hbase'
    clear hbase'
    go_upto_region 2 with fail
    rw [← hW1]
    clear hW1 q1 f1
    have own1 := oS1
    have hpb : pb < W1.heap.size := BP1.out.lt
    have hcb : cb < W1.heap.size := BC1.out.lt
    have hnp : ¬ (Value.ownBlock vS = some pb) := blk_norow BP1.out own1.out (by decide)
    have hnc : ¬ (Value.ownBlock vS = some cb) := blk_norow BC1.out own1.out (by decide)
    have p2 := BP1.out.cell 2
    have c1 := BC1.out.cell 1
    simp at p2 c1
    refine wp_region_gen 9 (JC [some (.pointer (some ⟨pb, 0, none⟩)), some (.pointer (some ⟨pb, 0, none⟩)), some (.pointer (some ⟨pb, 0, none⟩)), some (.pointer (some ⟨pb, 2, none⟩)), some (vS), some (.pointer (some ⟨cb, 1, none⟩)), some (.bool xs), none, none] (fun D u w => FrN (fun i => Value.ownBlock vS = some i) W1 w ∧ AppI W1 base 7 8 vS 4 cs.length (sOf cs) (.bool xs) D u w)) (by kernel_rfl) (by kernel_rfl) ?_ ?_ ?_
    · intro u
      exact ⟨(fun j c _ h => by cases h), FrN.refl _ _, AppI.start own1.out⟩
    · intro AA hA
      have hasz : AA.tmps.size = 37 := by rw [hA]; kernel_rfl
      have ea0 : AA.eval (.tmp 0) = .pointer (some ⟨pb, 0, none⟩) := by rw [hA]; kernel_rfl
      have ea3 : AA.eval (.tmp 3) = .pointer (some ⟨cb, 0, none⟩) := by rw [hA]; kernel_rfl
      clear hA
      simp only [List.take_succ_cons, List.take_zero]
      refine .cons ?_ (.cons ?_ (.cons ?_ (.cons ?_ (.cons ?_ (.cons ?_ (.cons ?_ (.cons ?_ (.cons ?_ (.nil)))))))))
      · exact gd_gen (by kernel_rfl) (Want.none_ rfl) rfl (fun D u w v h => ⟨h.1, h.2.other v (by omega) (by omega)⟩) (fun D u ρ w kn => by
          have e0 := kn.own 0 (c := .pointer (some ⟨pb, 0, none⟩)) (by kernel_rfl) ea0
          simp [execOp, kn.rho.con, e0, go_sem])
      · exact gd_gen (by kernel_rfl) (Want.none_ rfl) rfl (fun D u w v h => ⟨h.1, h.2.other v (by omega) (by omega)⟩) (fun D u ρ w kn => by
          have e0 := kn.own 0 (c := .pointer (some ⟨pb, 0, none⟩)) (by kernel_rfl) ea0
          simp [execOp, kn.rho.con, e0, go_sem])
      · exact gd_gen (by kernel_rfl) (Want.none_ rfl) rfl (fun D u w v h => ⟨h.1, h.2.other v (by omega) (by omega)⟩) (fun D u ρ w kn => by
          have e0 := kn.con 1 16 (c := .pointer (some ⟨pb, 0, none⟩)) (by kernel_rfl) (by omega) (by kernel_rfl) rfl
          simp [execOp, kn.rho.con, e0, go_sem])
      · exact gd_gen (by kernel_rfl) (Want.none_ rfl) rfl (fun D u w v h => ⟨h.1, h.2.other v (by omega) (by omega)⟩) (fun D u ρ w kn => by
          have e0 := kn.con 2 17 (c := .pointer (some ⟨pb, 0, none⟩)) (by kernel_rfl) (by omega) (by kernel_rfl) rfl
          simp [execOp, kn.rho.con, e0, go_sem])
      · exact gd_gen (by kernel_rfl) (Want.none_ rfl) rfl (fun D u w v h => ⟨h.1, h.2.other v (by omega) (by omega)⟩) (fun D u ρ w kn => by
          have e0 := kn.con 3 18 (c := .pointer (some ⟨pb, 2, none⟩)) (by kernel_rfl) (by omega) (by kernel_rfl) rfl
          have f0 := (kn.ext.1.cell hpb hnp).trans p2
          simp [execOp, kn.rho.con, e0, f0, go_sem])
      · exact gd_gen (by kernel_rfl) (Want.none_ rfl) rfl (fun D u w v h => ⟨h.1, h.2.other v (by omega) (by omega)⟩) (fun D u ρ w kn => by
          have e0 := kn.own 3 (c := .pointer (some ⟨cb, 0, none⟩)) (by kernel_rfl) ea3
          simp [execOp, kn.rho.con, e0, go_sem])
      · exact gd_gen (by kernel_rfl) (Want.none_ rfl) rfl (fun D u w v h => ⟨h.1, h.2.other v (by omega) (by omega)⟩) (fun D u ρ w kn => by
          have e0 := kn.con 5 20 (c := .pointer (some ⟨cb, 1, none⟩)) (by kernel_rfl) (by omega) (by kernel_rfl) rfl
          have f0 := (kn.ext.1.cell hcb hnc).trans c1
          simp [execOp, kn.rho.con, e0, f0, go_sem])
      · refine gd_eff (by kernel_rfl) (Want.none_ rfl) (fun D u ρ w kn hD => ?_)
        have e0 := kn.con 6 21 (c := .bool xs) (by kernel_rfl) (by omega) (by kernel_rfl) rfl
        obtain ⟨x1, x2⟩ := kn.ext
        exact ⟨.slice (some ⟨w.heap.size, 0, none⟩) 1 1, w.alloc (.cells #[.bool xs] 4), by simp [execOp, kn.rho.con, e0, go_sem], (fun c h => by injection h with h; cases h), x1.alloc _, x2.laid (by omega) hD x1.2.2.2.1⟩
      · refine gd_eff (by kernel_rfl) (Want.none_ rfl) (fun D u ρ w kn hD => ?_)
        have e0 := kn.con 4 19 (c := vS) (by kernel_rfl) (by omega) (by kernel_rfl) rfl
        have e1 := kn.slot 7 22 (by kernel_rfl) (by omega)
        have h1 := kn.dep 7 (by kernel_rfl)
        obtain ⟨x1, x2⟩ := kn.ext
        obtain ⟨v', w', hr, ho, hg, hb⟩ := x2.run hD h1 66 66 Tryz.underlying66 boolInfo37 rfl rfl (by decide) hnn (Nat.le_trans hbase x1.2.2.2.1)
        exact ⟨v', w', exec_append rfl e0 e1 hr, (fun c h => by injection h with h; cases h), x1.grow hg (fun g hg => .inl (hg)), x2.done (by omega) hD h1 x1.2.2.2.1 ho hb⟩
    · intro D u w3 hJ hD
      obtain ⟨hc, x1, x2⟩ := hJ
      obtain ⟨ho, hnew⟩ := x2.after (hD 8 (by omega))
      obtain ⟨A1, C1, hv2, -, -, -, -⟩ := Rd.of_own ho (by decide)
      have e0 : u 0 = .pointer (some ⟨pb, 0, none⟩) := hc 0 _ rfl (hD 0 (by omega))
      simp only [List.take_succ_cons, List.take_zero, List.drop_succ_cons, List.drop_zero, putAll]
      rw [hv2] at ho hnew ⊢
      rw [e0]
      have hB3 := x1.blk BP1.out hnp
      have hC3 := x1.blk BC1.out hnc
      have q2 := hB3.cell 2
      have f2 := hB3.frozen 2
      simp at q2
      obtain ⟨W2, hW2⟩ : ∃ W, W = w3.setCell ⟨pb, 2, none⟩ (.slice A1 (cs.length + 1) C1) := ⟨_, rfl⟩
      have hgS : w3.grownBy W2 (some pb) := by rw [hW2]; exact only_setCell (only_refl _ _) (.inl rfl) _
      have BP2 : Hid (Blk W2 pb 69 #[key, (.slice A0 (cs.length + 1) C0), (.slice A1 (cs.length + 1) C1), vV]) := Lib.hid (by rw [hW2]; simpa using hB3.set_ 2 (.slice A1 (cs.length + 1) C1))
      have BC2 : Hid (Blk W2 cb 91 #[.int .i64 xt, .bool xs, .slice xa xl.length xc]) := Lib.hid (hC3.grown hgS (by intro e; injection e; omega))
      have oN2 : Hid (W2.ownsRow base 4 1 (.slice A1 (cs.length + 1) C1) (cs.length + 1) (sOf cs ++ [.bool xs])) := Lib.hid (own_off ho hgS (blk_norow hB3 ho (by decide)))
      have NW2 : Hid (∀ g, Value.ownBlock (.slice A1 (cs.length + 1) C1) = some g → Value.ownBlock vS = some g ∨ W1.heap.size ≤ g) := Lib.hid hnew
      have KEEP : Hid (∀ (b' : Nat) (e' : TypeId) (m : Nat) (ys : List Value) (z : Value), W1.ownsRow b' e' 1 z m ys → e' ≠ 4 → e' ≠ 69 → W2.ownsRow b' e' 1 z m ys) := Lib.hid (fun b' e' m ys z hz h1 h2 => by
        have k1 : w3.ownsRow b' e' 1 z m ys := by
          obtain ⟨hl, hx⟩ := hz
          refine ⟨hl, ?_⟩
          rcases hx with hx | ⟨g, cap, cur, y1, y2, y3, y4⟩
          · exact .inl hx
          · refine .inr ⟨g, cap, cur, y1, y2, (x1.2.2.2.2 g (Array.getElem?_eq_some_iff.1 y3).1 (fun hB => ?_)).trans y3, y4⟩
            obtain ⟨cs', h3⟩ := own_rowT own1.out g hB
            rw [y3] at h3
            injection h3 with h3
            injection h3 with _ h3 _
            exact h1 h3
        exact own_off k1 hgS (blk_norow (BP1.out |> fun hb => x1.blk hb hnp) k1 (fun e => h2 e.symm)))
      have F2 : Hid (FrN (PB pb vT vS vV) w W2) := Lib.hid (F1.out.trans (B' := fun i => Value.ownBlock vS = some i ∨ i = pb) ((x1.mono (fun i hi => .inl hi)).grow hgS (fun g hg => .inl (.inr (by injection hg with hg; exact hg.symm)))) (fun i hi => by rcases hi with hi | hi; exact .inl (.inr (.inr (.inl hi))); exact .inl (.inl hi)))
      have hs2 : W1.heap.size ≤ W2.heap.size := Nat.le_trans x1.2.2.2.1 hgS.size
      have oV2 := Lib.hid (KEEP.out _ _ _ _ _ oV1.out (by decide) (by decide))
      have oT2 := Lib.hid (KEEP.out _ _ _ _ _ oN1.out (by decide) (by decide))
      have hbase' : base ≤ W2.heap.size := Nat.le_trans hbase hs2
      clear hc hD ho hnew e0 hv2 x1 x2 hB3 hC3 hgS KEEP hpb hcb hnp hnc p2 c1 hbase
      have hbase := hbase'
      clear hbase'
      go_upto_region 3 with fail
      rw [← hW2]
      clear hW2 q2 f2
      have own2 := oV2
      have hpb : pb < W2.heap.size := BP2.out.lt
      have hcb : cb < W2.heap.size := BC2.out.lt
      have hnp : ¬ (Value.ownBlock vV = some pb) := blk_norow BP2.out own2.out (by decide)
      have hnc : ¬ (Value.ownBlock vV = some cb) := blk_norow BC2.out own2.out (by decide)
      have p3 := BP2.out.cell 3
      have c2 := BC2.out.cell 2
      simp at p3 c2
      refine wp_region_gen 9 (JC [some (.pointer (some ⟨pb, 0, none⟩)), some (.pointer (some ⟨pb, 0, none⟩)), some (.pointer (some ⟨pb, 0, none⟩)), some (.pointer (some ⟨pb, 3, none⟩)), some (vV), some (.pointer (some ⟨cb, 2, none⟩)), some (.slice xa xl.length xc), none, none] (fun D u w => FrN (fun i => Value.ownBlock vV = some i) W2 w ∧ AppI W2 base 7 8 vV 24 cs.length (vOf cs) (.slice xa xl.length xc) D u w)) (by kernel_rfl) (by kernel_rfl) ?_ ?_ ?_
      · intro u
        exact ⟨(fun j c _ h => by cases h), FrN.refl _ _, AppI.start own2.out⟩
      · intro AA hA
        have hasz : AA.tmps.size = 37 := by rw [hA]; kernel_rfl
        have ea0 : AA.eval (.tmp 0) = .pointer (some ⟨pb, 0, none⟩) := by rw [hA]; kernel_rfl
        have ea3 : AA.eval (.tmp 3) = .pointer (some ⟨cb, 0, none⟩) := by rw [hA]; kernel_rfl
        clear hA
        simp only [List.take_succ_cons, List.take_zero]
        refine .cons ?_ (.cons ?_ (.cons ?_ (.cons ?_ (.cons ?_ (.cons ?_ (.cons ?_ (.cons ?_ (.cons ?_ (.nil)))))))))
        · exact gd_gen (by kernel_rfl) (Want.none_ rfl) rfl (fun D u w v h => ⟨h.1, h.2.other v (by omega) (by omega)⟩) (fun D u ρ w kn => by
            have e0 := kn.own 0 (c := .pointer (some ⟨pb, 0, none⟩)) (by kernel_rfl) ea0
            simp [execOp, kn.rho.con, e0, go_sem])
        · exact gd_gen (by kernel_rfl) (Want.none_ rfl) rfl (fun D u w v h => ⟨h.1, h.2.other v (by omega) (by omega)⟩) (fun D u ρ w kn => by
            have e0 := kn.own 0 (c := .pointer (some ⟨pb, 0, none⟩)) (by kernel_rfl) ea0
            simp [execOp, kn.rho.con, e0, go_sem])
        · exact gd_gen (by kernel_rfl) (Want.none_ rfl) rfl (fun D u w v h => ⟨h.1, h.2.other v (by omega) (by omega)⟩) (fun D u ρ w kn => by
            have e0 := kn.con 1 27 (c := .pointer (some ⟨pb, 0, none⟩)) (by kernel_rfl) (by omega) (by kernel_rfl) rfl
            simp [execOp, kn.rho.con, e0, go_sem])
        · exact gd_gen (by kernel_rfl) (Want.none_ rfl) rfl (fun D u w v h => ⟨h.1, h.2.other v (by omega) (by omega)⟩) (fun D u ρ w kn => by
            have e0 := kn.con 2 28 (c := .pointer (some ⟨pb, 0, none⟩)) (by kernel_rfl) (by omega) (by kernel_rfl) rfl
            simp [execOp, kn.rho.con, e0, go_sem])
        · exact gd_gen (by kernel_rfl) (Want.none_ rfl) rfl (fun D u w v h => ⟨h.1, h.2.other v (by omega) (by omega)⟩) (fun D u ρ w kn => by
            have e0 := kn.con 3 29 (c := .pointer (some ⟨pb, 3, none⟩)) (by kernel_rfl) (by omega) (by kernel_rfl) rfl
            have f0 := (kn.ext.1.cell hpb hnp).trans p3
            simp [execOp, kn.rho.con, e0, f0, go_sem])
        · exact gd_gen (by kernel_rfl) (Want.none_ rfl) rfl (fun D u w v h => ⟨h.1, h.2.other v (by omega) (by omega)⟩) (fun D u ρ w kn => by
            have e0 := kn.own 3 (c := .pointer (some ⟨cb, 0, none⟩)) (by kernel_rfl) ea3
            simp [execOp, kn.rho.con, e0, go_sem])
        · exact gd_gen (by kernel_rfl) (Want.none_ rfl) rfl (fun D u w v h => ⟨h.1, h.2.other v (by omega) (by omega)⟩) (fun D u ρ w kn => by
            have e0 := kn.con 5 31 (c := .pointer (some ⟨cb, 2, none⟩)) (by kernel_rfl) (by omega) (by kernel_rfl) rfl
            have f0 := (kn.ext.1.cell hcb hnc).trans c2
            simp [execOp, kn.rho.con, e0, f0, go_sem])
        · refine gd_eff (by kernel_rfl) (Want.none_ rfl) (fun D u ρ w kn hD => ?_)
          have e0 := kn.con 6 32 (c := .slice xa xl.length xc) (by kernel_rfl) (by omega) (by kernel_rfl) rfl
          obtain ⟨x1, x2⟩ := kn.ext
          exact ⟨.slice (some ⟨w.heap.size, 0, none⟩) 1 1, w.alloc (.cells #[.slice xa xl.length xc] 24), by simp [execOp, kn.rho.con, e0, go_sem], (fun c h => by injection h with h; cases h), x1.alloc _, x2.laid (by omega) hD x1.2.2.2.1⟩
        · refine gd_eff (by kernel_rfl) (Want.none_ rfl) (fun D u ρ w kn hD => ?_)
          have e0 := kn.con 4 30 (c := vV) (by kernel_rfl) (by omega) (by kernel_rfl) rfl
          have e1 := kn.slot 7 33 (by kernel_rfl) (by omega)
          have h1 := kn.dep 7 (by kernel_rfl)
          obtain ⟨x1, x2⟩ := kn.ext
          obtain ⟨v', w', hr, ho, hg, hb⟩ := x2.run hD h1 67 67 Tryz.underlying67 strsInfo37 rfl rfl (by decide) hnn (Nat.le_trans hbase x1.2.2.2.1)
          exact ⟨v', w', exec_append rfl e0 e1 hr, (fun c h => by injection h with h; cases h), x1.grow hg (fun g hg => .inl (hg)), x2.done (by omega) hD h1 x1.2.2.2.1 ho hb⟩
      · intro D u w3 hJ hD
        obtain ⟨hc, x1, x2⟩ := hJ
        obtain ⟨ho, hnew⟩ := x2.after (hD 8 (by omega))
        obtain ⟨A2, C2, hv2, -, -, -, -⟩ := Rd.of_own ho (by decide)
        have e0 : u 0 = .pointer (some ⟨pb, 0, none⟩) := hc 0 _ rfl (hD 0 (by omega))
        simp only [List.take_succ_cons, List.take_zero, List.drop_succ_cons, List.drop_zero, putAll]
        rw [hv2] at ho hnew ⊢
        rw [e0]
        have hB3 := x1.blk BP2.out hnp
        have hC3 := x1.blk BC2.out hnc
        have q3 := hB3.cell 3
        have f3 := hB3.frozen 3
        simp at q3
        obtain ⟨W3, hW3⟩ : ∃ W, W = w3.setCell ⟨pb, 3, none⟩ (.slice A2 (cs.length + 1) C2) := ⟨_, rfl⟩
        have hgS : w3.grownBy W3 (some pb) := by rw [hW3]; exact only_setCell (only_refl _ _) (.inl rfl) _
        have BP3 : Hid (Blk W3 pb 69 #[key, (.slice A0 (cs.length + 1) C0), (.slice A1 (cs.length + 1) C1), (.slice A2 (cs.length + 1) C2)]) := Lib.hid (by rw [hW3]; simpa using hB3.set_ 3 (.slice A2 (cs.length + 1) C2))
        have BC3 : Hid (Blk W3 cb 91 #[.int .i64 xt, .bool xs, .slice xa xl.length xc]) := Lib.hid (hC3.grown hgS (by intro e; injection e; omega))
        have oN3 : Hid (W3.ownsRow base 24 1 (.slice A2 (cs.length + 1) C2) (cs.length + 1) (vOf cs ++ [.slice xa xl.length xc])) := Lib.hid (own_off ho hgS (blk_norow hB3 ho (by decide)))
        have NW3 : Hid (∀ g, Value.ownBlock (.slice A2 (cs.length + 1) C2) = some g → Value.ownBlock vV = some g ∨ W2.heap.size ≤ g) := Lib.hid hnew
        have KEEP : Hid (∀ (b' : Nat) (e' : TypeId) (m : Nat) (ys : List Value) (z : Value), W2.ownsRow b' e' 1 z m ys → e' ≠ 24 → e' ≠ 69 → W3.ownsRow b' e' 1 z m ys) := Lib.hid (fun b' e' m ys z hz h1 h2 => by
          have k1 : w3.ownsRow b' e' 1 z m ys := by
            obtain ⟨hl, hx⟩ := hz
            refine ⟨hl, ?_⟩
            rcases hx with hx | ⟨g, cap, cur, y1, y2, y3, y4⟩
            · exact .inl hx
            · refine .inr ⟨g, cap, cur, y1, y2, (x1.2.2.2.2 g (Array.getElem?_eq_some_iff.1 y3).1 (fun hB => ?_)).trans y3, y4⟩
              obtain ⟨cs', h3⟩ := own_rowT own2.out g hB
              rw [y3] at h3
              injection h3 with h3
              injection h3 with _ h3 _
              exact h1 h3
          exact own_off k1 hgS (blk_norow (BP2.out |> fun hb => x1.blk hb hnp) k1 (fun e => h2 e.symm)))
        have F3 : Hid (FrN (PB pb vT vS vV) w W3) := Lib.hid (F2.out.trans (B' := fun i => Value.ownBlock vV = some i ∨ i = pb) ((x1.mono (fun i hi => .inl hi)).grow hgS (fun g hg => .inl (.inr (by injection hg with hg; exact hg.symm)))) (fun i hi => by rcases hi with hi | hi; exact .inl (.inr (.inr (.inr hi))); exact .inl (.inl hi)))
        have hs3 : W2.heap.size ≤ W3.heap.size := Nat.le_trans x1.2.2.2.1 hgS.size
        have oT3 := Lib.hid (KEEP.out _ _ _ _ _ oT2.out (by decide) (by decide))
        have oS3 := Lib.hid (KEEP.out _ _ _ _ _ oN2.out (by decide) (by decide))
        clear hc hD ho hnew e0 hv2 x1 x2 hB3 hC3 hgS KEEP hpb hcb hnp hnc p3 c2
        go_wp2_with fail
        rw [← hW3]
        exact bodyPost_ret (v := .tuple #[]) (by simp [results, Tryz.results51, go_sem]) rfl ⟨rfl, .slice A0 (cs.length + 1) C0, .slice A1 (cs.length + 1) C1, .slice A2 (cs.length + 1) C2, ⟨BP3.out, by rw [tOf_snoc]; simpa using oT3.out, by rw [sOf_snoc]; simpa using oS3.out, by rw [vOf_snoc]; simpa [StrR.val] using oN3.out⟩, F3.out, fun g hg => (NW1.out g hg).imp id (fun h => by have := F0.out.2.2.2.1; omega), fun g hg => (NW2.out g hg).imp id (fun h => by have := F0.out.2.2.2.1; omega), fun g hg => (NW3.out g hg).imp id (fun h => by have := F0.out.2.2.2.1; omega)⟩
end Go.Proofs.YtfkgcighooijhaaGreatDoor
