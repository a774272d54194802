/- group.at. Condition: sizes. -/
import Derived.Test.YtfkgcighooijhaaGreatDoorJGrpE
import Derived.Test.YtfkgcighooijhaaGreatDoorJGenB
namespace Go.Proofs.YtfkgcighooijhaaGreatDoor
open Go.RowKit
set_option linter.unusedVariables false
set_option linter.unusedSimpArgs false

theorem tOf_at {cs : List CM} {i : Nat} {x : CM} (h : cs[i]? = some x) : (tOf cs)[i]? = some (.int .i64 x.t) := by unfold tOf; rw [List.getElem?_map, h]; rfl
theorem sOf_at {cs : List CM} {i : Nat} {x : CM} (h : cs[i]? = some x) : (sOf cs)[i]? = some (.bool x.s) := by unfold sOf; rw [List.getElem?_map, h]; rfl
theorem vOf_at {cs : List CM} {i : Nat} {x : CM} (h : cs[i]? = some x) : (vOf cs)[i]? = some x.v.val := by unfold vOf; rw [List.getElem?_map, h]; rfl
theorem tOf_len (cs : List CM) : (tOf cs).length = cs.length := by unfold tOf; simp
theorem sOf_len (cs : List CM) : (sOf cs).length = cs.length := by unfold sOf; simp
theorem vOf_len (cs : List CM) : (vOf cs).length = cs.length := by unfold vOf; simp
/-- one value of a row at hand -/
theorem Rd.one {S : Nat → Prop} {w : World} {A : Option Addr} {xs : List Value} {k : Nat} {u : Value} (h : Rd S w A xs) (hu : xs[k]? = some u) : ∃ b off, A = some ⟨b, off, none⟩ ∧ b < w.heap.size ∧ w.cell? ⟨b, off + k, none⟩ = some u := by
  have hk : k < xs.length := by
    rcases Nat.lt_or_ge k xs.length with h1 | h1
    · exact h1
    · rw [List.getElem?_eq_none h1] at hu; cases hu
  obtain ⟨b, off, e, _, hlt, hc⟩ := h (by omega)
  exact ⟨b, off, e, hlt, hc k u hu⟩
set_option maxHeartbeats 4000000 in
set_option maxRecDepth 100000 in
theorem at_any {S : Nat → Prop} (p : PD) (i : Nat) (x : CM) (w : World) (hx : p.cs[i]? = some x) (hs : p.Sub S w) (hl : x.v.l.length ≤ 100000) (hn : p.cs.length ≤ 1000) :
    Calls Tryz.prog 53 #[.agg p.cells.toArray, .int .i64 i] w (CellP w x.pl) := by
  obtain ⟨hkey, hT, hSn, hV, hvs, h1, h2, h3, h4, h5, h6, -, -⟩ := hs
  obtain ⟨bT, oT, eT, lT, cT⟩ := hT.one (tOf_at hx)
  obtain ⟨bS, oS, eS, lS, cS⟩ := hSn.one (sOf_at hx)
  obtain ⟨bV, oV, eV, lV, cV⟩ := hV.one (vOf_at hx)
  have hi : i < p.cs.length := by
    rcases Nat.lt_or_ge i p.cs.length with h | h
    · exact h
    · rw [List.getElem?_eq_none h] at hx; cases hx
  have hin := hvs x (List.mem_of_getElem? hx)
  obtain ⟨kv, cs, ta, tc, sa, sc, va, vc⟩ := p
  simp only at eT eS eV hi hn
  subst eT eS eV
  obtain ⟨n, hnn⟩ : ∃ n, n = cs.length := ⟨_, rfl⟩
  obtain ⟨xt, xs, xl, xa, xc⟩ := x
  obtain ⟨kl, ka, kc⟩ := kv
  show Calls _ _ #[.agg #[.slice ka kl.length kc, .slice (some ⟨bT, oT, none⟩) cs.length tc, .slice (some ⟨bS, oS, none⟩) cs.length sc, .slice (some ⟨bV, oV, none⟩) cs.length vc], .int .i64 i] w (CellP w ⟨xt, xs, xl⟩)
  rw [← hnn] at hi hn ⊢
  simp only [StrR.val] at cV
  have KC : Hid (∀ w', w.grownBy w' none → Calls Tryz.prog 35 #[.slice xa xl.length xc] w' (CloneSPost w' xl.length (xl.map .string))) := Lib.hid (fun w' hg => cloneS_any xa xl.length xc (xl.map .string) w' (hin.1.grown hg (by simp)) (by simp) (by have := hl; simp only at this; omega) (by intro u hu; obtain ⟨s, -, rfl⟩ := List.mem_map.1 hu; rfl) hin.2.2.2)
  clear hkey hT hSn hV hvs h1 h2 h3 h4 h5 h6 hin hx hnn
  have i1 : ¬ (i : Int) ≥ (n : Int) := by omega
  have i2 : (i : Int) < (n : Int) := by omega
  go_enter Tryz.func53, Tryz.ntmps53
  go_upto_region 3 with fail
  obtain ⟨W, hW⟩ : ∃ W, W = (w.alloc (.cells #[.slice ka kl.length kc, .slice (some ⟨bT, oT, none⟩) n tc, .slice (some ⟨bS, oS, none⟩) n sc, .slice (some ⟨bV, oV, none⟩) n vc] 69)).alloc (.cells #[.int .i64 0, .bool false, .slice none 0 0] 91) := ⟨_, rfl⟩
  have hP : Blk W w.heap.size 69 #[.slice ka kl.length kc, .slice (some ⟨bT, oT, none⟩) n tc, .slice (some ⟨bS, oS, none⟩) n sc, .slice (some ⟨bV, oV, none⟩) n vc] := by rw [hW]; exact (Blk.new w _ _).alloc _
  have hC : Blk W (w.heap.size + 1) 91 #[.int .i64 0, .bool false, .slice none 0 0] := by
    rw [hW]
    have := Blk.new (w.alloc (.cells #[.slice ka kl.length kc, .slice (some ⟨bT, oT, none⟩) n tc, .slice (some ⟨bS, oS, none⟩) n sc, .slice (some ⟨bV, oV, none⟩) n vc] 69)) 91 #[.int .i64 0, .bool false, .slice none 0 0]
    simpa using this
  have hGW : w.grownBy W none := by rw [hW]; exact only_alloc (only_alloc (only_refl w none) _) _
  have GW := Lib.hid hGW
  have tT := (cellG hGW lT).trans cT
  have tS := (cellG hGW lS).trans cS
  have tV := (cellG hGW lV).trans cV
  have hT := Nat.lt_of_lt_of_le lT hGW.size
  have hS := Nat.lt_of_lt_of_le lS hGW.size
  have hV := Nat.lt_of_lt_of_le lV hGW.size
  rw [← hW]
  have p0 := hP.cell 0; have p1 := hP.cell 1; have p2 := hP.cell 2; have p3 := hP.cell 3
  simp at p0 p1 p2 p3
  obtain ⟨pb, hpbd⟩ : ∃ pb, pb = w.heap.size := ⟨_, rfl⟩
  have HPB := Lib.hid hpbd
  rw [← hpbd] at p0 p1 p2 p3 hP hC ⊢
  have hpb : pb < W.heap.size := hP.lt
  have hpb1 : pb + 1 < W.heap.size := hC.lt
  have HCC := Lib.hid hC
  clear hW hGW hP hC cT cS cV lT lS lV hpbd
  refine wp_region_gen 16 (JC [some (.pointer (some ⟨pb, 1, none⟩)), some (.slice (some ⟨bT, oT, none⟩) (n) (tc)), some (.int .i64 (i)), some (.pointer (some ⟨bT, oT + i, none⟩)), some (.int .i64 (xt)), some (.pointer (some ⟨pb, 2, none⟩)), some (.slice (some ⟨bS, oS, none⟩) (n) (sc)), some (.int .i64 (i)), some (.pointer (some ⟨bS, oS + i, none⟩)), some (.bool xs), some (.pointer (some ⟨pb, 3, none⟩)), some (.slice (some ⟨bV, oV, none⟩) (n) (vc)), some (.int .i64 (i)), some (.pointer (some ⟨bV, oV + i, none⟩)), some (.slice xa xl.length xc), none] (fun D u w => W.grownBy w none ∧ (D 15 = true → FreshS W.heap.size (xl.map .string) xl.length 9 w (u 15)))) (by kernel_rfl) (by kernel_rfl) ?_ ?_ ?_
  · intro u
    exact ⟨(fun j c _ h => by cases h), only_drew (only_refl _ _), (fun h => by cases h)⟩
  · intro AA hA
    have hasz : AA.tmps.size = 42 := by rw [hA]; kernel_rfl
    have ea1 : AA.eval (.tmp 1) = .int .i64 (i) := by rw [hA]; kernel_rfl
    have ea2 : AA.eval (.tmp 2) = .pointer (some ⟨pb, 0, none⟩) := by rw [hA]; kernel_rfl
    clear hA
    simp only [List.take_succ_cons, List.take_zero]
    refine .cons ?_ (.cons ?_ (.cons ?_ (.cons ?_ (.cons ?_ (.cons ?_ (.cons ?_ (.cons ?_ (.cons ?_ (.cons ?_ (.cons ?_ (.cons ?_ (.cons ?_ (.cons ?_ (.cons ?_ (.cons ?_ (.nil))))))))))))))))
    · exact gd_gen (by kernel_rfl) (Want.none_ rfl) rfl (fun D u w v h => by simpa [updB, upd] using h) (fun D u ρ w kn => by
        have e0 := kn.own 2 (c := .pointer (some ⟨pb, 0, none⟩)) (by kernel_rfl) ea2
        simp [execOp, kn.rho.con, e0, go_sem])
    · exact gd_gen (by kernel_rfl) (Want.none_ rfl) rfl (fun D u w v h => by simpa [updB, upd] using h) (fun D u ρ w kn => by
        have e0 := kn.con 0 25 (c := .pointer (some ⟨pb, 1, none⟩)) (by kernel_rfl) (by omega) (by kernel_rfl) rfl
        have f0 := (cellG kn.ext.1 hpb).trans p1
        simp [execOp, kn.rho.con, e0, f0, go_sem])
    · exact gd_gen (by kernel_rfl) (Want.none_ rfl) rfl (fun D u w v h => by simpa [updB, upd] using h) (fun D u ρ w kn => by
        have e0 := kn.own 1 (c := .int .i64 (i)) (by kernel_rfl) ea1
        simp [execOp, kn.rho.con, e0, go_sem])
    · exact gd_gen (by kernel_rfl) (Want.none_ rfl) rfl (fun D u w v h => by simpa [updB, upd] using h) (fun D u ρ w kn => by
        have e0 := kn.con 1 26 (c := .slice (some ⟨bT, oT, none⟩) (n) (tc)) (by kernel_rfl) (by omega) (by kernel_rfl) rfl
        have e1 := kn.con 2 27 (c := .int .i64 (i)) (by kernel_rfl) (by omega) (by kernel_rfl) rfl
        simp [execOp, kn.rho.con, e0, e1, go_sem, i2])
    · exact gd_gen (by kernel_rfl) (Want.none_ rfl) rfl (fun D u w v h => by simpa [updB, upd] using h) (fun D u ρ w kn => by
        have e0 := kn.con 3 28 (c := .pointer (some ⟨bT, oT + i, none⟩)) (by kernel_rfl) (by omega) (by kernel_rfl) rfl
        have f0 := (cellG kn.ext.1 hT).trans tT
        simp [execOp, kn.rho.con, e0, f0, go_sem])
    · exact gd_gen (by kernel_rfl) (Want.none_ rfl) rfl (fun D u w v h => by simpa [updB, upd] using h) (fun D u ρ w kn => by
        have e0 := kn.own 2 (c := .pointer (some ⟨pb, 0, none⟩)) (by kernel_rfl) ea2
        simp [execOp, kn.rho.con, e0, go_sem])
    · exact gd_gen (by kernel_rfl) (Want.none_ rfl) rfl (fun D u w v h => by simpa [updB, upd] using h) (fun D u ρ w kn => by
        have e0 := kn.con 5 30 (c := .pointer (some ⟨pb, 2, none⟩)) (by kernel_rfl) (by omega) (by kernel_rfl) rfl
        have f0 := (cellG kn.ext.1 hpb).trans p2
        simp [execOp, kn.rho.con, e0, f0, go_sem])
    · exact gd_gen (by kernel_rfl) (Want.none_ rfl) rfl (fun D u w v h => by simpa [updB, upd] using h) (fun D u ρ w kn => by
        have e0 := kn.own 1 (c := .int .i64 (i)) (by kernel_rfl) ea1
        simp [execOp, kn.rho.con, e0, go_sem])
    · exact gd_gen (by kernel_rfl) (Want.none_ rfl) rfl (fun D u w v h => by simpa [updB, upd] using h) (fun D u ρ w kn => by
        have e0 := kn.con 6 31 (c := .slice (some ⟨bS, oS, none⟩) (n) (sc)) (by kernel_rfl) (by omega) (by kernel_rfl) rfl
        have e1 := kn.con 7 32 (c := .int .i64 (i)) (by kernel_rfl) (by omega) (by kernel_rfl) rfl
        simp [execOp, kn.rho.con, e0, e1, go_sem, i2])
    · exact gd_gen (by kernel_rfl) (Want.none_ rfl) rfl (fun D u w v h => by simpa [updB, upd] using h) (fun D u ρ w kn => by
        have e0 := kn.con 8 33 (c := .pointer (some ⟨bS, oS + i, none⟩)) (by kernel_rfl) (by omega) (by kernel_rfl) rfl
        have f0 := (cellG kn.ext.1 hS).trans tS
        simp [execOp, kn.rho.con, e0, f0, go_sem])
    · exact gd_gen (by kernel_rfl) (Want.none_ rfl) rfl (fun D u w v h => by simpa [updB, upd] using h) (fun D u ρ w kn => by
        have e0 := kn.own 2 (c := .pointer (some ⟨pb, 0, none⟩)) (by kernel_rfl) ea2
        simp [execOp, kn.rho.con, e0, go_sem])
    · exact gd_gen (by kernel_rfl) (Want.none_ rfl) rfl (fun D u w v h => by simpa [updB, upd] using h) (fun D u ρ w kn => by
        have e0 := kn.con 10 35 (c := .pointer (some ⟨pb, 3, none⟩)) (by kernel_rfl) (by omega) (by kernel_rfl) rfl
        have f0 := (cellG kn.ext.1 hpb).trans p3
        simp [execOp, kn.rho.con, e0, f0, go_sem])
    · exact gd_gen (by kernel_rfl) (Want.none_ rfl) rfl (fun D u w v h => by simpa [updB, upd] using h) (fun D u ρ w kn => by
        have e0 := kn.own 1 (c := .int .i64 (i)) (by kernel_rfl) ea1
        simp [execOp, kn.rho.con, e0, go_sem])
    · exact gd_gen (by kernel_rfl) (Want.none_ rfl) rfl (fun D u w v h => by simpa [updB, upd] using h) (fun D u ρ w kn => by
        have e0 := kn.con 11 36 (c := .slice (some ⟨bV, oV, none⟩) (n) (vc)) (by kernel_rfl) (by omega) (by kernel_rfl) rfl
        have e1 := kn.con 12 37 (c := .int .i64 (i)) (by kernel_rfl) (by omega) (by kernel_rfl) rfl
        simp [execOp, kn.rho.con, e0, e1, go_sem, i2])
    · exact gd_gen (by kernel_rfl) (Want.none_ rfl) rfl (fun D u w v h => by simpa [updB, upd] using h) (fun D u ρ w kn => by
        have e0 := kn.con 13 38 (c := .pointer (some ⟨bV, oV + i, none⟩)) (by kernel_rfl) (by omega) (by kernel_rfl) rfl
        have f0 := (cellG kn.ext.1 hV).trans tV
        simp [execOp, kn.rho.con, e0, f0, go_sem])
    · refine gd_call (by kernel_rfl) (Want.none_ rfl) 35 (fun D u ρ w kn hD => ?_)
      have e0 := kn.con 14 39 (c := .slice xa xl.length xc) (by kernel_rfl) (by omega) (by kernel_rfl) rfl
      refine ⟨#[.slice xa xl.length xc], ?_, (KC.out w (only_trans GW.out kn.ext.1)).mono ?_⟩
      · simp only [execOp, resolve, Deferred.ofValue, List.map_toArray, List.map_cons, List.map_nil, e0, kn.rho.con, kn.rho.fn]
        simp [go_sem]
      · rintro e w' ⟨A1, c1, rfl, ho1, hg1⟩
        exact ⟨_, rfl, (fun c h => by injection h with h; cases h), only_trans kn.ext.1 hg1, fun _ => by rw [upd_at]; exact FreshS.of ho1 kn.ext.1.size⟩
  · intro D u w3 hJ hD
    obtain ⟨hc, x1, x2⟩ := hJ
    obtain ⟨A1, c1, e15, hn1, hm1, ho⟩ := x2 (hD 15 (by omega))
    have e4 : u 4 = .int .i64 xt := hc 4 _ rfl (hD 4 (by omega))
    have e9 : u 9 = .bool xs := hc 9 _ rfl (hD 9 (by omega))
    simp only [List.take_succ_cons, List.take_zero, List.drop_succ_cons, List.drop_zero, putAll]
    rw [e4, e9, e15]
    have G3 := Lib.hid (only_trans GW.out x1)
    have hC3 := HCC.out.grown x1 (by simp)
    have c0 := hC3.cell 0; have c1' := hC3.cell 1; have c2 := hC3.cell 2
    have f0 := hC3.frozen 0; have f1 := hC3.frozen 1; have f2 := hC3.frozen 2
    simp at c0 c1' c2
    have CC := Lib.hid hC3
    have HO := Lib.hid ho
    have HN1 := Lib.hid hn1
    have HM1 := Lib.hid hm1
    clear hc x2 e4 e9 e15 ho hn1 hm1 hC3 x1 tT tS tV p0 p1 p2 p3 hD
    go_wp2_with fail
    have q0 := (set3_blk (x := .int .i64 xt) (y := .bool xs) (z := .slice A1 xl.length c1) CC.out).cell 0; have q1 := (set3_blk (x := .int .i64 xt) (y := .bool xs) (z := .slice A1 xl.length c1) CC.out).cell 1; have q2 := (set3_blk (x := .int .i64 xt) (y := .bool xs) (z := .slice A1 xl.length c1) CC.out).cell 2
    simp [set3] at q0 q1 q2
    have RR := rd_ownG HO.out
    exact bodyPost_ret (v := .agg #[.int .i64 xt, .bool xs, .slice A1 xl.length c1]) (by simp [results, Tryz.results53, go_sem, q0, q1, q2]) rfl
      ⟨⟨xt, xs, ⟨xl, A1, c1⟩⟩, rfl, rfl, strR_of ((RR.grown set3_only (by intro b hb e; have hq : W.heap.size ≤ b := hb; injection e; omega)).mono (fun b hb _ => by have hq : W.heap.size ≤ b := hb; show w.heap.size ≤ b; have := HPB.out; omega)) HN1.out HM1.out, set3_grown G3.out (by have := HPB.out; omega)⟩
end Go.Proofs.YtfkgcighooijhaaGreatDoor

namespace Go.Proofs.YtfkgcighooijhaaGreatDoor
open Go.RowKit
set_option linter.unusedVariables false
set_option linter.unusedSimpArgs false

theorem fn_enter {f : FuncId} {fn : Func} (hf : Tryz.prog.funcs[f]? = some fn) (hname : (fn.name == "runtime.NumGoroutine") = false) (hb : fn.body.isNone = false) (args : Array Value) (w : World) : (callFunc f args).run Tryz.prog w = .ok (.enter f args) w := enterV hf hname hb args w
/-- what a kind makes of an event: the function at hand -/
def OfAt (k : Int) (w : World) (v : Value) : Prop :=
  (k = 0 ∧ v = fn0 67) ∨ (k = 1 ∧ ∃ b, v = fnC 89 b ∧ FnAt w b 66) ∨ ((k = 2 ∨ k = 3) ∧ ∃ b, v = fnC 89 b ∧ FnAt w b 65) ∨ (k = 4 ∧ v = fn0 73)
/-- how a kind merges two cells -/
def MgAt (k : Int) (w : World) (v : Value) : Prop :=
  ((k = 0 ∨ k = 1) ∧ ∃ b, v = fnC 88 b ∧ FnAt w b 69) ∨ (k = 2 ∧ ∃ b, v = fnC 88 b ∧ FnAt w b 71) ∨ (k = 3 ∧ ∃ b, v = fnC 88 b ∧ FnAt w b 72) ∨ (k = 4 ∧ v = fn0 74)
def EntAt (k : Int) (w : World) (v : Value) : Prop := ∃ a b, v = .agg #[a, b] ∧ OfAt k w a ∧ MgAt k w b
def KinV (w : World) (v : Value) : Prop := ∃ e w0, v = e ∧ KindsP w0 (.returned e) w
theorem OfAt.grown {k : Int} {w w' : World} {v : Value} (h : OfAt k w v) (hg : w.grownBy w' none) : OfAt k w' v := by
  rcases h with h | ⟨h, b, h1, h2⟩ | ⟨h, b, h1, h2⟩ | h
  · exact .inl h
  · exact .inr (.inl ⟨h, b, h1, h2.grown hg⟩)
  · exact .inr (.inr (.inl ⟨h, b, h1, h2.grown hg⟩))
  · exact .inr (.inr (.inr h))
theorem MgAt.grown {k : Int} {w w' : World} {v : Value} (h : MgAt k w v) (hg : w.grownBy w' none) : MgAt k w' v := by
  rcases h with ⟨h, b, h1, h2⟩ | ⟨h, b, h1, h2⟩ | ⟨h, b, h1, h2⟩ | h
  · exact .inl ⟨h, b, h1, h2.grown hg⟩
  · exact .inr (.inl ⟨h, b, h1, h2.grown hg⟩)
  · exact .inr (.inr (.inl ⟨h, b, h1, h2.grown hg⟩))
  · exact .inr (.inr (.inr h))
theorem EntAt.grown {k : Int} {w w' : World} {v : Value} (h : EntAt k w v) (hg : w.grownBy w' none) : EntAt k w' v := by
  obtain ⟨a, b, h1, h2, h3⟩ := h
  exact ⟨a, b, h1, h2.grown hg, h3.grown hg⟩
theorem KinV.grown {w w' : World} {v : Value} (h : KinV w v) (hg : w.grownBy w' none) : KinV w' v := by
  obtain ⟨e, w0, h1, b0, b1, b2, b3, b4, b5, b6, h2, f0, f1, f2, f3, f4, f5, f6, h3⟩ := h
  exact ⟨e, w0, h1, b0, b1, b2, b3, b4, b5, b6, h2, f0.grown hg, f1.grown hg, f2.grown hg, f3.grown hg, f4.grown hg, f5.grown hg, f6.grown hg, only_trans h3 hg⟩
set_option maxHeartbeats 2000000 in
theorem KinV.ix {w : World} {v : Value} {k : Int} (h : KinV w v) (h0 : 0 ≤ k) (h4 : k ≤ 4) : ∃ x, (Instr.index 97 v (.int .i64 k)).run Tryz.prog w = .ok x w ∧ EntAt k w x := by
  obtain ⟨e, w0, rfl, b0, b1, b2, b3, b4, b5, b6, h2, f0, f1, f2, f3, f4, f5, f6, h3⟩ := h
  injection h2 with h2
  subst h2
  have hk : k = 0 ∨ k = 1 ∨ k = 2 ∨ k = 3 ∨ k = 4 := by omega
  rcases hk with rfl | rfl | rfl | rfl | rfl
  · exact ⟨.agg #[fn0 67, fnC 88 b0], by kernel_rfl, _, _, rfl, .inl ⟨rfl, rfl⟩, .inl ⟨.inl rfl, b0, rfl, f0⟩⟩
  · exact ⟨.agg #[fnC 89 b1, fnC 88 b2], by kernel_rfl, _, _, rfl, .inr (.inl ⟨rfl, b1, rfl, f1⟩), .inl ⟨.inr rfl, b2, rfl, f2⟩⟩
  · exact ⟨.agg #[fnC 89 b3, fnC 88 b4], by kernel_rfl, _, _, rfl, .inr (.inr (.inl ⟨.inl rfl, b3, rfl, f3⟩)), .inr (.inl ⟨rfl, b4, rfl, f4⟩)⟩
  · exact ⟨.agg #[fnC 89 b5, fnC 88 b6], by kernel_rfl, _, _, rfl, .inr (.inr (.inl ⟨.inr rfl, b5, rfl, f5⟩)), .inr (.inr (.inl ⟨rfl, b6, rfl, f6⟩))⟩
  · exact ⟨.agg #[fn0 73, fn0 74], by kernel_rfl, _, _, rfl, .inr (.inr (.inr ⟨rfl, rfl⟩)), .inr (.inr (.inr ⟨rfl, rfl⟩))⟩
theorem kind_f0 (p q : Value) (w : World) : (Instr.field 96 (.agg #[p, q]) 0).run Tryz.prog w = .ok p w := by kernel_rfl
theorem kind_f1 (p q : Value) (w : World) : (Instr.field 96 (.agg #[p, q]) 1).run Tryz.prog w = .ok q w := by kernel_rfl
end Go.Proofs.YtfkgcighooijhaaGreatDoor
