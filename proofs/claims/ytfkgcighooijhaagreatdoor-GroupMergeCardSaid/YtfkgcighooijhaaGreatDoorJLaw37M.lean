/- The law of part 37 about the merging of partials (printed by mklaw37m.py). Condition: the table of powers of ten. -/
import Derived.Test.YtfkgcighooijhaaGreatDoorJGColl
import Derived.Test.YtfkgcighooijhaaGreatDoorJRMrgM
import Derived.Test.YtfkgcighooijhaaGreatDoorJEvA37
import Derived.Test.YtfkgcighooijhaaGreatDoorJRSameR
namespace Go.Proofs.YtfkgcighooijhaaGreatDoor
open Go.RowKit
set_option linter.unusedVariables false
set_option linter.unusedSimpArgs false

/-- a part of the events -/
structure EP where
  l : List Ev
  a : Option Addr
  c : Nat
def EP.val (x : EP) : Value := .slice x.a x.l.length x.c
theorem okS_collM {ps : List PD} {names : List ByteArray} {ags : List AggD} {es : List Ev} (h : ps.map PD.pl = collF names ags es) (hn : names.length ≤ 1000) (ha : ags.length ≤ 1000) (he : es.length ≤ 40000) : (∀ p ∈ ps, OkS p) ∧ (∀ p ∈ ps, OkP ags.length p) ∧ ps.length ≤ es.length := by
  have h1 := coll_okP h hn (by omega)
  exact ⟨fun p hp => by have h2 := h1.1 p hp; exact ⟨by have := h2.1; omega, by have := h2.2.1; omega, h2.2.2⟩, h1.1, h1.2⟩
theorem perm_set {vs : List EP} {j : Nat} {p q : EP} {y : Ev} (hj : vs[j]? = some p) (hq : q.l = y :: p.l) : ((vs.set j q).flatMap EP.l).Perm (y :: vs.flatMap EP.l) := by
  induction vs generalizing j with
  | nil => simp at hj
  | cons v vs ih =>
    cases j with
    | zero =>
      simp at hj
      subst hj
      simp [hq]
    | succ j =>
      simp at hj
      simp only [List.set_cons_succ, List.flatMap_cons]
      refine ((ih hj).append_left v.l).trans ?_
      exact List.perm_middle
theorem len_mem_flat : ∀ {vs : List EP} {p : EP}, p ∈ vs → p.l.length ≤ (vs.flatMap EP.l).length
  | v :: vs, p, h => by
    rw [List.flatMap_cons, List.length_append]
    rcases List.mem_cons.1 h with rfl | h
    · omega
    · have := len_mem_flat h; omega
theorem load_ev37 (w : World) (b o : Nat) (y : Ev) (h : w.cell? ⟨b, o, none⟩ = some (.int .i64 y.host) ∧ w.cell? ⟨b, o + 1, none⟩ = some (.int .i64 y.file) ∧ w.cell? ⟨b, o + 2, none⟩ = some (.int .i64 y.beg) ∧ w.cell? ⟨b, o + 3, none⟩ = some (.int .i64 y.fin) ∧ w.cell? ⟨b, o + 4, none⟩ = some (.slice y.la y.lines.length y.lc) ∧ w.cell? ⟨b, o + 5, none⟩ = some (.int .i64 y.time) ∧
    w.cell? ⟨b, o + 6, none⟩ = some (.int .i64 y.weight) ∧ w.cell? ⟨b, o + 7, none⟩ = some (.string y.trace) ∧ w.cell? ⟨b, o + 8, none⟩ = some (.string y.stream) ∧ w.cell? ⟨b, o + 9, none⟩ = some (.slice y.fa y.fields.length y.fc)) :
    (Instr.loadAt 35 (.pointer (some ⟨b, o, none⟩))).run Tryz.prog w = .ok (.agg y.cells.toArray) w := by
  obtain ⟨h0, h1, h2, h3, h4, h5, h6, h7, h8, h9⟩ := h
  have hu := Tryz.underlying35
  simp [go_sem, h0, h1, h2, h3, h4, h5, h6, h7, h8, h9, Ev.cells]
theorem ev_oneC (y : Ev) : ∀ u ∈ y.cells, u.oneCell' = true := fun u hu => by simpa using Ev.one y u (by simpa using hu)
theorem evs_oneC (l : List Ev) : ∀ u ∈ l.flatMap Ev.cells, u.oneCell' = true := fun u hu => by
  obtain ⟨e, -, he⟩ := List.mem_flatMap.1 hu
  exact ev_oneC e u he
/-- an alloc of an event in a drawn region -/
theorem lay_ev {ρ : Operand → Value} {w : World} {o : Oper} {x : Nat} (y : Ev) (ho : o.op = .buildSlice 26 1 #[(0, .tmp x)]) (hx : ρ (.tmp x) = .agg y.cells.toArray) : (execOp ρ o).run Tryz.prog w = .ok (.value (.slice (some ⟨w.heap.size, 0, none⟩) 1 1)) (w.alloc (.cells y.cells.toArray 35)) := by
  obtain ⟨host, file, beg, fin, lines, time, weight, trace, stream, fields, la, lc, fa, fc⟩ := y
  have hcl : (Ev.mk host file beg fin lines time weight trace stream fields la lc fa fc).cells.toArray = #[.int .i64 host, .int .i64 file, .int .i64 beg, .int .i64 fin, .slice la lines.length lc, .int .i64 time, .int .i64 weight, .string trace, .string stream, .slice fa fields.length fc] := rfl
  rw [hcl] at hx ⊢
  simp [execOp, ho, hx, go_sem]
theorem part_blk {w : World} {pb t : Nat} {vs : List EP} (h : Blk w pb t (vs.map EP.val).toArray) {j : Nat} {p : EP} (hj : vs[j]? = some p) : w.cell? ⟨pb, j, none⟩ = some p.val := by
  rw [h.cell j]; simp [hj]
theorem part_set {w : World} {pb t : Nat} {vs : List EP} (h : Blk w pb t (vs.map EP.val).toArray) (j : Nat) (q : EP) : Blk (w.setCell ⟨pb, j, none⟩ q.val) pb t ((vs.set j q).map EP.val).toArray := by
  have h1 := h.set_ j q.val
  simpa [List.map_set] using h1
set_option maxHeartbeats 16000000 in
set_option maxRecDepth 100000 in
theorem law_merge (A : Option Addr) (l : List Int) (c : Nat) (w : World) (hPow : Pow10 w)
    (h : Rd (fun _ => True) w A (l.map (.int .u8))) (hc : l.length ≤ c) (hcm : c ≤ maxLen) (hx : ∀ x ∈ l, 0 ≤ x ∧ x ≤ 255) :
    Calls Tryz.prog 3 #[.slice A l.length c] w (fun e w' => e = .returned (.bool true) ∧ w.grownBy w' none) := by
  have HS : Hid (∀ w', w.grownBy w' none → Calls Tryz.prog 8 #[.slice A l.length c] w' (ScenePost w')) := fun w' hg => scene_any A l c w' (h.grown hg (by simp)) hc hcm hx
  have HP : Hid (∀ w', w.grownBy w' none → Pow10 w') := Lib.hid (fun w' hg => hPow.grown hg)
  clear h hc hcm hx hPow
  go_enter Tryz.func3, Tryz.ntmps3
  go_wp2_with fail
  refine (awake_any _).mono ?_
  rintro e w1 ⟨rfl, hg1⟩
  have G1 := Lib.hid hg1
  clear hg1
  go_wp2_with fail
  refine (HS.out _ G1.out).mono ?_
  rintro e w2 ⟨A1, A2, A3, c1, c2, c3, ns, ags, es, g, k0, l0, rfl, n1, n2, n3, n4, hns, hrn, a1, a2, a3, a4, hao, hra, e1, e2, e3, hev, -, hgd, hcod, hwg, hg2⟩
  have G2 := Lib.hid (only_trans G1.out hg2)
  have HWG : Hid (w.heap.size ≤ g) := Lib.hid (Nat.le_trans G1.out.size hwg)
  have HNS : Hid (∀ n ∈ ns, n.size ≤ 1000) := Lib.hid (fun n hn => by have := hns n hn; omega)
  have RN := Lib.hid hrn
  have RA := Lib.hid hra
  have HAO := Lib.hid hao
  have HKI : Hid (KindsOk ags) := Lib.hid (fun a ha => ⟨(hao a ha).1, (hao a ha).2.1⟩)
  have EV := Lib.hid hev
  have HNV : Hid (∀ e ∈ es, EvV e) := Lib.hid (fun e he => (hgd e he).evV37)
  have HE1 := Lib.hid e1
  have COD := Lib.hid hcod
  clear HS hns hrn hra hao hev hgd hg2 n1 n2 e1 e2 a1 a2 hcod hwg G1
  go_upto_region 5 with fail
  obtain ⟨pb, hpb⟩ : ∃ b, b = w2.heap.size := ⟨_, rfl⟩
  obtain ⟨W, hW⟩ : ∃ W, W = w2.alloc (.cells #[.slice none 0 0, .slice none 0 0, .slice none 0 0] 30) := ⟨_, rfl⟩
  have BP : Hid (Blk W pb 30 (([⟨[], none, 0⟩, ⟨[], none, 0⟩, ⟨[], none, 0⟩] : List EP).map EP.val).toArray) := Lib.hid (by rw [hW, hpb]; exact Blk.new _ _ _)
  have GW : Hid (w2.grownBy W none) := Lib.hid (by rw [hW]; exact only_alloc (only_refl w2 none) _)
  have HPB := Lib.hid hpb
  rw [← hpb, ← hW]
  clear hpb hW
  have hgp : g < pb := by rw [HPB.out]; exact COD.out.lt
  go_wp2_with fail
  go_loopw [8] (fun v8 wr => ∃ (k kk : Nat) (vs : List EP), v8 = .int .i64 k ∧ k ≤ es.length ∧ vs.length = 3 ∧ (vs.flatMap EP.l).Perm (es.take k) ∧ Blk wr pb 30 (vs.map EP.val).toArray ∧ (∀ v ∈ vs, Rd (fun b => w2.heap.size ≤ b ∧ b ≠ pb) wr v.a (v.l.flatMap Ev.cells) ∧ v.l.length ≤ v.c) ∧ CodesAt wr g l0 kk ∧ w2.grownBy wr (some g)) (fun v8 _ => es.length - (intOf v8).toNat)
  case atStart => exact ⟨0, k0, [⟨[], none, 0⟩, ⟨[], none, 0⟩, ⟨[], none, 0⟩], rfl, Nat.zero_le _, rfl, .nil, BP.out, by simp [Rd.nil], COD.out.grown GW.out (by simp), only_of_none GW.out _⟩
  case round =>
    obtain ⟨i, kk, vs, rfl, hi, hvl, hpm, hB, hR, hC, hG⟩ := hrel
    have PM := Lib.hid hpm
    have RV := Lib.hid hR
    have BV := Lib.hid hB
    have GV := Lib.hid hG
    have HVL := Lib.hid hvl
    clear hpm hR hB hG hvl BP COD
    by_cases hlt : i < es.length
    · have i1 : (i : Int) < (es.length : Int) := by omega
      have CV := Lib.hid hC
      clear hC
      go_wp2_with fail
      refine (next_any g l0 kk 3 wr CV.out (by omega)).mono ?_
      rintro e W ⟨rfl, hcod, hgn⟩
      obtain ⟨jz, hjz⟩ : ∃ j, j = nextV l0 kk 3 := ⟨_, rfl⟩
      have hj0 : 0 ≤ jz ∧ jz < 3 := by
        obtain ⟨-, -, -, -, -, -, hx⟩ := CV.out
        rw [hjz]
        exact ⟨nextV_nonneg hx _ _, nextV_lt hx _ _ (by omega)⟩
      rw [← hjz]
      clear hjz
      obtain ⟨j, rfl⟩ : ∃ j : Nat, jz = (j : Int) := ⟨jz.toNat, by omega⟩
      have hj3 : j < 3 := by omega
      clear hj0
      have COD := Lib.hid hcod
      have GW2 := Lib.hid (only_trans GV.out hgn)
      have hpg : some pb ≠ some g := by intro e; injection e with e; omega
      have BW := Lib.hid (BV.out.grown hgn hpg)
      have RW_ : Hid (∀ v ∈ vs, Rd (fun b => w2.heap.size ≤ b ∧ b ≠ pb) W v.a (v.l.flatMap Ev.cells) ∧ v.l.length ≤ v.c) := Lib.hid (fun v hv => ⟨(RV.out v hv).1.grown hgn (by rintro b ⟨hb, -⟩ e; injection e with e; have := HPB.out; omega), (RV.out v hv).2⟩)
      clear hcod hgn CV BV RV
      obtain ⟨y, hy⟩ : ∃ y, es[i]? = some y := ⟨_, List.getElem?_eq_getElem hlt⟩
      obtain ⟨p, hp⟩ : ∃ p, vs[j]? = some p := ⟨_, List.getElem?_eq_getElem (by rw [HVL.out]; exact hj3)⟩
      have hEW := EV.out.1.grown GW2.out (by intro b hb e; injection e with e; omega)
      obtain ⟨bE, oE, eE, hbE, zz⟩ := ev_in hEW hy
      subst eE
      have ZZ := Lib.hid zz
      have p0 : W.cell? ⟨pb, j, none⟩ = some (.slice p.a p.l.length p.c) := part_blk BW.out hp
      have hpbW : pb < W.heap.size := BW.out.lt
      have RP := Lib.hid (RW_.out p (List.mem_of_getElem? hp))
      have hpl : p.l.length ≤ 30 := by
        have h1 := PM.out.length_eq
        rw [List.length_take] at h1
        have h2 : p.l.length ≤ (vs.flatMap EP.l).length := len_mem_flat (List.mem_of_getElem? hp)
        omega
      have hjj : (0 : Int) ≤ (j : Int) := by omega
      have hjj3 : (j : Int) < 3 := by omega
      have PM2 : Hid (∀ q : EP, q.l = y :: p.l → ((vs.set j q).flatMap EP.l).Perm (es.take (i + 1))) := Lib.hid (fun q hq => by
        refine (perm_set hp hq).trans ?_
        obtain ⟨h1, h2⟩ := List.getElem?_eq_some_iff.1 hy
        rw [List.take_succ_eq_append_getElem h1, h2]
        exact ((PM.out.cons y).trans (List.perm_append_comm (l₁ := [y])))) 
      clear zz hEW hy hp
      go_upto_region 9 with fail
      refine wp_region_gen 10 (JC [some (.int .i64 (j)), some (.slice (some ⟨bE, oE, none⟩) (es.length) (c3)), some (.int .i64 (i)), some (.pointer (some ⟨bE, oE + i * 10, none⟩)), some (.agg y.cells.toArray), none, some (.int .i64 (j)), some (.pointer (some ⟨pb, j, none⟩)), some (.slice p.a p.l.length p.c), none] (fun D u w => W.grownBy w none ∧ (D 5 = true → D 9 = false → ∃ b, u 5 = .slice (some ⟨b, 0, none⟩) 1 1 ∧ w.ownsRow W.heap.size 35 10 (.slice (some ⟨b, 0, none⟩) 1 1) 1 y.cells) ∧ (D 9 = true → D 5 = true ∧ w.ownsRow W.heap.size 35 10 (u 9) (p.l.length + 1) ((y :: p.l).flatMap Ev.cells)))) (by kernel_rfl) (by kernel_rfl) ?_ ?_ ?_
      · intro u
        exact ⟨(fun j c _ h => by cases h), only_drew (only_refl _ _), (fun h => by cases h), (fun h => by cases h)⟩
      · intro AA hA
        have hasz : AA.tmps.size = 101 := by rw [hA]; kernel_rfl
        have ea5 : AA.eval (.tmp 5) = .slice (some ⟨bE, oE, none⟩) (es.length) (c3) := by rw [hA]; kernel_rfl
        have ea7 : AA.eval (.tmp 7) = .pointer (some ⟨pb, 0, none⟩) := by rw [hA]; kernel_rfl
        have ea8 : AA.eval (.tmp 8) = .int .i64 (i) := by rw [hA]; kernel_rfl
        have ea9 : AA.eval (.tmp 9) = .int .i64 (j) := by rw [hA]; kernel_rfl
        clear hA
        simp only [List.take_succ_cons, List.take_zero]
        refine .cons ?_ (.cons ?_ (.cons ?_ (.cons ?_ (.cons ?_ (.cons ?_ (.cons ?_ (.cons ?_ (.cons ?_ (.cons ?_ (.nil))))))))))
        · exact gd_gen (by kernel_rfl) (Want.none_ rfl) rfl (fun D u w v h => by simpa [updB, upd] using h) (fun D u ρ w kn => by
            have e0 := kn.own 9 (c := .int .i64 (j)) (by kernel_rfl) ea9
            simp [execOp, kn.rho.con, e0, go_sem])
        · exact gd_gen (by kernel_rfl) (Want.none_ rfl) rfl (fun D u w v h => by simpa [updB, upd] using h) (fun D u ρ w kn => by
            have e0 := kn.own 5 (c := .slice (some ⟨bE, oE, none⟩) (es.length) (c3)) (by kernel_rfl) ea5
            simp [execOp, kn.rho.con, e0, go_sem])
        · exact gd_gen (by kernel_rfl) (Want.none_ rfl) rfl (fun D u w v h => by simpa [updB, upd] using h) (fun D u ρ w kn => by
            have e0 := kn.own 8 (c := .int .i64 (i)) (by kernel_rfl) ea8
            simp [execOp, kn.rho.con, e0, go_sem])
        · exact gd_gen (by kernel_rfl) (Want.none_ rfl) rfl (fun D u w v h => by simpa [updB, upd] using h) (fun D u ρ w kn => by
            have e0 := kn.con 1 33 (c := .slice (some ⟨bE, oE, none⟩) (es.length) (c3)) (by kernel_rfl) (by omega) (by kernel_rfl) rfl
            have e1 := kn.con 2 34 (c := .int .i64 (i)) (by kernel_rfl) (by omega) (by kernel_rfl) rfl
            simp [execOp, kn.rho.con, e0, e1, go_sem, i1])
        · exact gd_gen (by kernel_rfl) (Want.none_ rfl) rfl (fun D u w v h => by simpa [updB, upd] using h) (fun D u ρ w kn => by
            have e0 := kn.con 3 35 (c := .pointer (some ⟨bE, oE + i * 10, none⟩)) (by kernel_rfl) (by omega) (by kernel_rfl) rfl
            exact run_load ρ w rfl e0 (load_ev37 w bE (oE + i * 10) y ⟨(cellG kn.ext.1 hbE).trans ZZ.out.1, (cellG kn.ext.1 hbE).trans ZZ.out.2.1, (cellG kn.ext.1 hbE).trans ZZ.out.2.2.1, (cellG kn.ext.1 hbE).trans ZZ.out.2.2.2.1, (cellG kn.ext.1 hbE).trans ZZ.out.2.2.2.2.1, (cellG kn.ext.1 hbE).trans ZZ.out.2.2.2.2.2.1, (cellG kn.ext.1 hbE).trans ZZ.out.2.2.2.2.2.2.1, (cellG kn.ext.1 hbE).trans ZZ.out.2.2.2.2.2.2.2.1, (cellG kn.ext.1 hbE).trans ZZ.out.2.2.2.2.2.2.2.2.1, (cellG kn.ext.1 hbE).trans ZZ.out.2.2.2.2.2.2.2.2.2⟩))
        · refine gd_eff (by kernel_rfl) (Want.none_ rfl) (fun D u ρ w kn hD => ?_)
          have e0 := kn.con 4 36 (c := .agg y.cells.toArray) (by kernel_rfl) (by omega) (by kernel_rfl) rfl
          obtain ⟨x1, x2, x3⟩ := kn.ext
          have d9 : D 9 = false := by cases h : D 9 with | false => rfl | true => rw [(x3 h).1] at hD; cases hD
          refine ⟨_, _, lay_ev y rfl e0, (fun c h => by injection h with h; cases h), only_alloc x1 _, fun _ _ => ⟨w.heap.size, by rw [upd_at], ?_⟩, (fun h => by rw [updB_ne D (by omega), d9] at h; cases h)⟩
          have h1 := World.ownsRow_lit (base := W.heap.size) (e := 35) (size := 10) w y.cells.toArray 1 x1.size (by decide) (by simp [Ev.cells_len])
          exact h1
        · exact gd_gen (by kernel_rfl) (Want.none_ rfl) rfl (fun D u w v h => by simpa [updB, upd] using h) (fun D u ρ w kn => by
            have e0 := kn.own 9 (c := .int .i64 (j)) (by kernel_rfl) ea9
            simp [execOp, kn.rho.con, e0, go_sem])
        · exact gd_gen (by kernel_rfl) (Want.none_ rfl) rfl (fun D u w v h => by simpa [updB, upd] using h) (fun D u ρ w kn => by
            have e0 := kn.own 7 (c := .pointer (some ⟨pb, 0, none⟩)) (by kernel_rfl) ea7
            have e1 := kn.con 6 38 (c := .int .i64 (j)) (by kernel_rfl) (by omega) (by kernel_rfl) rfl
            simp [execOp, kn.rho.con, e0, e1, go_sem, hjj, hjj3])
        · exact gd_gen (by kernel_rfl) (Want.none_ rfl) rfl (fun D u w v h => by simpa [updB, upd] using h) (fun D u ρ w kn => by
            have e0 := kn.con 7 39 (c := .pointer (some ⟨pb, j, none⟩)) (by kernel_rfl) (by omega) (by kernel_rfl) rfl
            have f0 := (cellG kn.ext.1 hpbW).trans p0
            simp [execOp, kn.rho.con, e0, f0, go_sem])
        · refine gd_eff (by kernel_rfl) (Want.none_ rfl) (fun D u ρ w kn hD => ?_)
          have e0 := kn.slot 5 37 (by kernel_rfl) (by omega)
          have e1 := kn.con 8 40 (c := .slice p.a p.l.length p.c) (by kernel_rfl) (by omega) (by kernel_rfl) rfl
          have d5 := kn.dep 5 (by kernel_rfl)
          obtain ⟨x1, x2, x3⟩ := kn.ext
          obtain ⟨b, hb, ho⟩ := x2 d5 hD
          rw [hb] at e0
          obtain ⟨v', w', hr, hown, hg, -⟩ := run_appendN (P := Tryz.prog) W.heap.size 26 26 Tryz.underlying26 eventInfo rfl (by decide) ho p.a p.l.length p.c (RP.out.1.grown x1 (by simp)) (flat_len _ 10 Ev.cells_len _) (evs_oneC p.l) (by decide) (by omega) x1.size
          exact ⟨v', w', exec_append rfl e0 e1 hr, (fun c h => by injection h with h; cases h), only_own x1 hg ho (Nat.le_refl _), (fun _ h => by rw [updB_at] at h; cases h), fun _ => ⟨by rw [updB_ne D (by omega)]; exact d5, by rw [upd_at, Nat.add_comm]; exact hown⟩⟩
      · intro D u w5 hJ hD
        obtain ⟨hc, x1, x2, x3⟩ := hJ
        obtain ⟨-, hown⟩ := x3 (hD 9 (by omega))
        obtain ⟨AR, cR, hv, r1, r2, -, r3⟩ := Rd.of_own hown (by decide)
        have e0 : u 0 = .int .i64 j := hc 0 _ rfl (hD 0 (by omega))
        simp only [List.take_succ_cons, List.take_zero, List.drop_succ_cons, List.drop_zero, putAll]
        rw [hv, e0]
        have B5 := x1 |> fun h => BW.out.grown h (by simp)
        have q0 : w5.cell? ⟨pb, j, none⟩ = some (.slice p.a p.l.length p.c) := (cellG x1 hpbW).trans p0
        have f0 := B5.frozen j
        obtain ⟨W7, hW7⟩ : ∃ W, W = w5.setCell ⟨pb, j, none⟩ (.slice AR (p.l.length + 1) cR) := ⟨_, rfl⟩
        have hs7 : w5.grownBy W7 (some pb) := by rw [hW7]; exact only_setCell (only_refl _ _) (p := ⟨pb, j, none⟩) (.inl rfl) _
        have hq7 : (EP.mk (y :: p.l) AR cR).val = .slice AR (p.l.length + 1) cR := rfl
        have B7 : Hid (Blk W7 pb 30 ((vs.set j ⟨y :: p.l, AR, cR⟩).map EP.val).toArray) := Lib.hid (by rw [hW7, ← hq7]; exact part_set B5 j _)
        have hpw2 : w2.heap.size ≤ pb := by rw [HPB.out]; exact Nat.le_refl _
        have hwW : w2.heap.size ≤ W.heap.size := GW2.out.size
        have R7 : Hid (∀ v ∈ vs.set j ⟨y :: p.l, AR, cR⟩, Rd (fun b => w2.heap.size ≤ b ∧ b ≠ pb) W7 v.a (v.l.flatMap Ev.cells) ∧ v.l.length ≤ v.c) := Lib.hid (fun v hv => by
          rcases List.mem_or_eq_of_mem_set hv with hv | rfl
          · exact ⟨((RW_.out v hv).1.grown x1 (by simp)).grown hs7 (by rintro b ⟨-, hb⟩ e; injection e with e; exact hb e), (RW_.out v hv).2⟩
          · exact ⟨(r3.mono (S' := fun b => w2.heap.size ≤ b ∧ b ≠ pb) (fun b hb _ => ⟨Nat.le_trans hwW hb, fun e => by have hb2 : W.heap.size ≤ b := hb; omega⟩)).grown hs7 (by rintro b ⟨-, hb⟩ e; injection e with e; exact hb e), by simpa using r1⟩)
        have C7 : Hid (CodesAt W7 g l0 (nextK l0 kk 3)) := Lib.hid ((COD.out.grown x1 (by simp)).grown hs7 (by intro b hb e; injection e with e; omega))
        have G7 : Hid (w2.grownBy W7 (some g)) := Lib.hid (only_fresh (only_trans GW2.out (only_of_none x1 _)) hs7 hpw2)
        have HW7 := Lib.hid hW7
        clear hc x1 x2 x3 hown hv r1 r2 r3 hD B5 hs7 hq7 e0 hW7 p0
        go_wp2_with fail
        rw [← HW7.out]
        go_roundw
        case rel => exact ⟨i + 1, _, vs.set j ⟨y :: p.l, AR, cR⟩, by go_num, by omega, by rw [List.length_set]; exact HVL.out, PM2.out _ rfl, B7.out, R7.out, C7.out, G7.out⟩
        case measure => simp [intOf]; omega
    · have i1 : ¬ (i : Int) < (es.length : Int) := by omega
      have PE : Hid ((vs.flatMap EP.l).Perm es) := Lib.hid (by have h1 := PM.out; rw [List.take_of_length_le (by omega)] at h1; exact h1)
      clear PM hC
      obtain ⟨u0, u1, u2, rfl⟩ : ∃ a b c, vs = [a, b, c] := by
        have h := HVL.out
        match vs, h with
        | [a, b, c], _ => exact ⟨a, b, c, rfl⟩
      obtain ⟨W, rfl⟩ : ∃ W, W = wr := ⟨_, rfl⟩
      obtain ⟨⟨q0, q1, q2⟩, hLx⟩ : ∃ q : List Ev × List Ev × List Ev, q = (u0.l, u1.l, u2.l) := ⟨_, rfl⟩
      have PE2 : Hid ((u0.l ++ (u1.l ++ u2.l)).Perm es) := Lib.hid (by simpa using PE.out)
      have GWW : Hid (w.grownBy W none) := Lib.hid (only_fresh (only_of_none G2.out none) GV.out HWG.out)
      have PT := Lib.hid (HP.out _ GWW.out)
      have p0 : W.cell? ⟨pb, 0, none⟩ = some (.slice u0.a u0.l.length u0.c) := part_blk BV.out rfl
      have p1 : W.cell? ⟨pb, 1, none⟩ = some (.slice u1.a u1.l.length u1.c) := part_blk BV.out rfl
      have p2 : W.cell? ⟨pb, 2, none⟩ = some (.slice u2.a u2.l.length u2.c) := part_blk BV.out rfl
      have hpbW : pb < W.heap.size := BV.out.lt
      have hsub : ∀ e ∈ es, e.Sub (fun _ => True) W := fun e he => ((EV.out.2 e he).grown GV.out (by intro b hb e; injection e with e; omega)).mono (fun _ _ _ => trivial)
      have hmem : ∀ e, e ∈ u0.l ∨ e ∈ u1.l ∨ e ∈ u2.l → e ∈ es := fun e he => PE2.out.mem_iff.1 (by simpa using he)
      have hEVS : ∀ v, v = u0 ∨ v = u1 ∨ v = u2 → Evs (fun _ => True) W v.a v.l ∧ v.l.length ≤ v.c ∧ v.l.length ≤ 30 ∧ (∀ e ∈ v.l, e ∈ es) := fun v hv => by
        have hm : v ∈ [u0, u1, u2] := by simpa using hv
        have h1 := RV.out v hm
        have hin : ∀ e ∈ v.l, e ∈ es := fun e he => hmem e (by rcases hv with rfl | rfl | rfl <;> simp [he])
        have hlen := PE2.out.length_eq
        simp at hlen
        exact ⟨⟨h1.1.mono (fun _ _ _ => trivial), fun e he => hsub e (hin e he)⟩, h1.2, by rcases hv with rfl | rfl | rfl <;> omega, hin⟩
      have KC : Hid (∀ v, v = u0 ∨ v = u1 ∨ v = u2 → ∀ w', W.grownBy w' none → Calls Tryz.prog 10 #[.slice A1 ns.length c1, .slice A2 ags.length c2, .slice v.a v.l.length v.c] w' (PartsP w' (collF ns ags v.l))) := Lib.hid (fun v hv w' hg => by
        obtain ⟨h1, h2, h3, h4⟩ := hEVS v hv
        have hgs : ∀ {S : Nat → Prop} {B : Option Addr} {xs : List Value}, Rd (g < ·) w2 B xs → Rd (g < ·) w' B xs := fun h => (h.grown GV.out (by intro b hb e; injection e with e; omega)).grown hg (by simp)
        exact gcoll_any (T := (g < ·)) (U := (g < ·)) A1 ns c1 A2 ags c2 w' (hgs (S := fun _ => True) RN.out) (by omega) HNS.out (hgs (S := fun _ => True) RA.out) (by omega) HAO.out (PT.out.grown hg) 50 _ v.a v.l v.c w' (by omega) (only_refl _ _) (h1.grown hg (by simp)) h2 (by omega) (fun e he => HNV.out e (h4 e he)))
      have KE : Hid (∀ w', W.grownBy w' none → Calls Tryz.prog 10 #[.slice A1 ns.length c1, .slice A2 ags.length c2, .slice A3 es.length c3] w' (PartsP w' (collF ns ags es))) := Lib.hid (fun w' hg => by
        have hgs : ∀ {S : Nat → Prop} {B : Option Addr} {xs : List Value}, Rd (g < ·) w2 B xs → Rd (g < ·) w' B xs := fun h => (h.grown GV.out (by intro b hb e; injection e with e; omega)).grown hg (by simp)
        exact gcoll_any (T := (g < ·)) (U := (g < ·)) A1 ns c1 A2 ags c2 w' (hgs (S := fun _ => True) RN.out) (by omega) HNS.out (hgs (S := fun _ => True) RA.out) (by omega) HAO.out (PT.out.grown hg) 50 _ A3 es c3 w' (by omega) (only_refl _ _) ((EV.out.grown GV.out (by intro b hb e; injection e with e; omega)).grown hg (by simp)) HE1.out (by omega) HNV.out)
      have KM : Hid (∀ (Ax : Option Addr) (px : List PD) (cx : Nat) (Ay : Option Addr) (py : List PD) (cy : Nat) (lx ly : List Ev) (w' : World), W.grownBy w' none → PDs (fun _ => True) w' Ax px → PDs (fun _ => True) w' Ay py → px.length ≤ cx → py.length ≤ cy → px.map PD.pl = collF ns ags lx → py.map PD.pl = collF ns ags ly → lx.length ≤ 100 → ly.length ≤ 100 → Calls Tryz.prog 11 #[.slice A2 ags.length c2, .slice Ax px.length cx, .slice Ay py.length cy] w' (PartsP w' (collF ns ags (lx ++ ly)))) := Lib.hid (fun Ax px cx Ay py cy lx ly w' hg h1 h2 h3 h4 h5 h6 h7 h8 => by
        have o1 := okS_collM h5 (by omega) (by omega) (by omega)
        have o2 := okS_collM h6 (by omega) (by omega) (by omega)
        have h0 := gmerge_any A2 ags c2 Ax px cx Ay py cy w' ((RA.out.grown GV.out (by intro b hb e; injection e with e; omega)).grown hg (by simp)) (by omega) HAO.out h1 h2 h3 h4 o1.2.1 o2.2.1 (by have := o1.2.2; have := o2.2.2; omega)
        rw [h5, h6, collF_app] at h0
        exact h0)
      have KRM : Hid (∀ (Ax : Option Addr) (px : List PD) (cx : Nat) (Ay : Option Addr) (py : List PD) (cy : Nat) (lx ly : List Ev) (w' : World), W.grownBy w' none → PDs (fun _ => True) w' Ax px → PDs (fun _ => True) w' Ay py → px.map PD.pl = collF ns ags lx → py.map PD.pl = collF ns ags ly → lx.length ≤ 100 → ly.length ≤ 100 → (∀ e ∈ lx, e ∈ es) → (∀ e ∈ ly, e ∈ es) → Calls Tryz.prog 13 #[.slice A2 ags.length c2, .slice Ax px.length cx, .slice Ay py.length cy] w' (RPartsS (fun _ => True) w' (collF ns ags (lx ++ ly)))) := Lib.hid (fun Ax px cx Ay py cy lx ly w' hg h1 h2 h5 h6 h7 h8 h9 h10 => by
        have o1 := okS_collM h5 (by omega) (by omega) (by omega)
        have o2 := okS_collM h6 (by omega) (by omega) (by omega)
        have h0 := rmerge37_any A2 ags c2 Ax px cx Ay py cy w' ((RA.out.grown GV.out (by intro b hb e; injection e with e; omega)).grown hg (by simp)) (by omega) HAO.out h1 h2 o1.2.1 o2.2.1 (by rw [h5]; exact collF_can HKI.out (fun e he => evA_of (HNV.out e (h9 e he)).1 ags)) (by rw [h6]; exact collF_can HKI.out (fun e he => evA_of (HNV.out e (h10 e he)).1 ags)) (by have := o1.2.2; have := o2.2.2; omega)
        rw [h5, h6, collF_app] at h0
        exact h0)
      have HPRM : Hid (∀ lx : List Ev, lx.Perm es → collF ns ags lx = collF ns ags es) := Lib.hid (fun lx hl => collF_perm HKI.out hl (fun e he => evA_of (HNV.out e (hl.mem_iff.1 he)).1 ags))
      have L0 := hEVS u0 (.inl rfl)
      have L1 := hEVS u1 (.inr (.inl rfl))
      have L2 := hEVS u2 (.inr (.inr rfl))
      have HL : Hid ((u0.l.length ≤ 30 ∧ u1.l.length ≤ 30 ∧ u2.l.length ≤ 30) ∧ (∀ e ∈ u0.l, e ∈ es) ∧ (∀ e ∈ u1.l, e ∈ es)) := Lib.hid ⟨⟨L0.2.2.1, L1.2.2.1, L2.2.2.1⟩, L0.2.2.2, L1.2.2.2⟩
      have K0 := Lib.hid (KC.out u0 (.inl rfl))
      have K1 := Lib.hid (KC.out u1 (.inr (.inl rfl)))
      have K2 := Lib.hid (KC.out u2 (.inr (.inr rfl)))
      obtain ⟨z0, hz0⟩ : ∃ z, z = collF ns ags u0.l := ⟨_, rfl⟩
      obtain ⟨z1, hz1⟩ : ∃ z, z = collF ns ags u1.l := ⟨_, rfl⟩
      obtain ⟨z2, hz2⟩ : ∃ z, z = collF ns ags u2.l := ⟨_, rfl⟩
      rw [← hz0] at K0
      rw [← hz1] at K1
      rw [← hz2] at K2
      have HZ := Lib.hid (And.intro hz0 (And.intro hz1 hz2))
      clear hLx hsub hmem hEVS L0 L1 L2 hz0 hz1 hz2 RV KC
      go_upto_region 10 with fail
      refine wp_region_gen 15 (JC [some (.slice A1 ns.length c1), some (.slice A2 ags.length c2), some (.pointer (some ⟨pb, 0, none⟩)), some (.slice u0.a u0.l.length u0.c), none, some (.slice A1 ns.length c1), some (.slice A2 ags.length c2), some (.pointer (some ⟨pb, 1, none⟩)), some (.slice u1.a u1.l.length u1.c), none, some (.slice A1 ns.length c1), some (.slice A2 ags.length c2), some (.pointer (some ⟨pb, 2, none⟩)), some (.slice u2.a u2.l.length u2.c), none] (fun D u w => W.grownBy w none ∧ (D 4 = true → ∃ (A : Option Addr) (c : Nat) (ps : List PD), u 4 = .slice A ps.length c ∧ ps.map PD.pl = z0 ∧ ps.length ≤ c ∧ c ≤ maxLen ∧ PDs (W.heap.size ≤ ·) w A ps) ∧ (D 9 = true → ∃ (A : Option Addr) (c : Nat) (ps : List PD), u 9 = .slice A ps.length c ∧ ps.map PD.pl = z1 ∧ ps.length ≤ c ∧ c ≤ maxLen ∧ PDs (W.heap.size ≤ ·) w A ps) ∧ (D 14 = true → ∃ (A : Option Addr) (c : Nat) (ps : List PD), u 14 = .slice A ps.length c ∧ ps.map PD.pl = z2 ∧ ps.length ≤ c ∧ c ≤ maxLen ∧ PDs (W.heap.size ≤ ·) w A ps))) (by kernel_rfl) (by kernel_rfl) ?_ ?_ ?_
      · intro u
        exact ⟨(fun j c _ h => by cases h), only_drew (only_refl _ _), (fun h => by cases h), (fun h => by cases h), (fun h => by cases h)⟩
      · intro AA hA
        have hasz : AA.tmps.size = 101 := by rw [hA]; kernel_rfl
        have ea3 : AA.eval (.tmp 3) = .slice A1 ns.length c1 := by rw [hA]; kernel_rfl
        have ea4 : AA.eval (.tmp 4) = .slice A2 ags.length c2 := by rw [hA]; kernel_rfl
        have ea7 : AA.eval (.tmp 7) = .pointer (some ⟨pb, 0, none⟩) := by rw [hA]; kernel_rfl
        clear hA
        simp only [List.take_succ_cons, List.take_zero]
        refine .cons ?_ (.cons ?_ (.cons ?_ (.cons ?_ (.cons ?_ (.cons ?_ (.cons ?_ (.cons ?_ (.cons ?_ (.cons ?_ (.cons ?_ (.cons ?_ (.cons ?_ (.cons ?_ (.cons ?_ (.nil)))))))))))))))
        · exact gd_gen (by kernel_rfl) (Want.none_ rfl) rfl (fun D u w v h => by simpa [updB, upd] using h) (fun D u ρ w kn => by
            have e0 := kn.own 3 (c := .slice A1 ns.length c1) (by kernel_rfl) ea3
            simp [execOp, kn.rho.con, e0, go_sem])
        · exact gd_gen (by kernel_rfl) (Want.none_ rfl) rfl (fun D u w v h => by simpa [updB, upd] using h) (fun D u ρ w kn => by
            have e0 := kn.own 4 (c := .slice A2 ags.length c2) (by kernel_rfl) ea4
            simp [execOp, kn.rho.con, e0, go_sem])
        · exact gd_gen (by kernel_rfl) (Want.none_ rfl) rfl (fun D u w v h => by simpa [updB, upd] using h) (fun D u ρ w kn => by
            have e0 := kn.own 7 (c := .pointer (some ⟨pb, 0, none⟩)) (by kernel_rfl) ea7
            simp [execOp, kn.rho.con, e0, go_sem])
        · exact gd_gen (by kernel_rfl) (Want.none_ rfl) rfl (fun D u w v h => by simpa [updB, upd] using h) (fun D u ρ w kn => by
            have e0 := kn.con 2 45 (c := .pointer (some ⟨pb, 0, none⟩)) (by kernel_rfl) (by omega) (by kernel_rfl) rfl
            have f0 := (cellG kn.ext.1 hpbW).trans p0
            simp [execOp, kn.rho.con, e0, f0, go_sem])
        · refine gd_call (by kernel_rfl) (Want.none_ rfl) 10 (fun D u ρ w kn hD => ?_)
          have e0 := kn.con 0 43 (c := .slice A1 ns.length c1) (by kernel_rfl) (by omega) (by kernel_rfl) rfl
          have e1 := kn.con 1 44 (c := .slice A2 ags.length c2) (by kernel_rfl) (by omega) (by kernel_rfl) rfl
          have e2 := kn.con 3 46 (c := .slice u0.a u0.l.length u0.c) (by kernel_rfl) (by omega) (by kernel_rfl) rfl
          refine ⟨#[.slice A1 ns.length c1, .slice A2 ags.length c2, .slice u0.a u0.l.length u0.c], ?_, (K0.out w kn.ext.1).mono ?_⟩
          · simp only [execOp, resolve, Deferred.ofValue, List.map_toArray, List.map_cons, List.map_nil, e0, e1, e2, kn.rho.con, kn.rho.fn]
            simp [go_sem]
          · rintro e w' ⟨AN, cN, pN, rfl, h1, h2, h3, h4, hg⟩
            obtain ⟨x1, x2, x3, x4⟩ := kn.ext
            exact ⟨_, rfl, (fun c h => by injection h with h; cases h), only_trans x1 hg, fun _ => ⟨AN, cN, pN, by rw [upd_at], h1, h2, h3, h4.mono (fun b hb _ => Nat.le_trans x1.size hb)⟩, fun h => by rw [updB_ne D (by omega)] at h; rw [upd_ne u _ (by omega)]; obtain ⟨A0, c0, p0, g1, g2, g3, g4, g5⟩ := x3 h; exact ⟨A0, c0, p0, g1, g2, g3, g4, g5.grown hg (by simp)⟩, fun h => by rw [updB_ne D (by omega)] at h; rw [upd_ne u _ (by omega)]; obtain ⟨A0, c0, p0, g1, g2, g3, g4, g5⟩ := x4 h; exact ⟨A0, c0, p0, g1, g2, g3, g4, g5.grown hg (by simp)⟩⟩
        · exact gd_gen (by kernel_rfl) (Want.none_ rfl) rfl (fun D u w v h => by simpa [updB, upd] using h) (fun D u ρ w kn => by
            have e0 := kn.own 3 (c := .slice A1 ns.length c1) (by kernel_rfl) ea3
            simp [execOp, kn.rho.con, e0, go_sem])
        · exact gd_gen (by kernel_rfl) (Want.none_ rfl) rfl (fun D u w v h => by simpa [updB, upd] using h) (fun D u ρ w kn => by
            have e0 := kn.own 4 (c := .slice A2 ags.length c2) (by kernel_rfl) ea4
            simp [execOp, kn.rho.con, e0, go_sem])
        · exact gd_gen (by kernel_rfl) (Want.none_ rfl) rfl (fun D u w v h => by simpa [updB, upd] using h) (fun D u ρ w kn => by
            have e0 := kn.own 7 (c := .pointer (some ⟨pb, 0, none⟩)) (by kernel_rfl) ea7
            simp [execOp, kn.rho.con, e0, go_sem])
        · exact gd_gen (by kernel_rfl) (Want.none_ rfl) rfl (fun D u w v h => by simpa [updB, upd] using h) (fun D u ρ w kn => by
            have e0 := kn.con 7 50 (c := .pointer (some ⟨pb, 1, none⟩)) (by kernel_rfl) (by omega) (by kernel_rfl) rfl
            have f0 := (cellG kn.ext.1 hpbW).trans p1
            simp [execOp, kn.rho.con, e0, f0, go_sem])
        · refine gd_call (by kernel_rfl) (Want.none_ rfl) 10 (fun D u ρ w kn hD => ?_)
          have e0 := kn.con 5 48 (c := .slice A1 ns.length c1) (by kernel_rfl) (by omega) (by kernel_rfl) rfl
          have e1 := kn.con 6 49 (c := .slice A2 ags.length c2) (by kernel_rfl) (by omega) (by kernel_rfl) rfl
          have e2 := kn.con 8 51 (c := .slice u1.a u1.l.length u1.c) (by kernel_rfl) (by omega) (by kernel_rfl) rfl
          refine ⟨#[.slice A1 ns.length c1, .slice A2 ags.length c2, .slice u1.a u1.l.length u1.c], ?_, (K1.out w kn.ext.1).mono ?_⟩
          · simp only [execOp, resolve, Deferred.ofValue, List.map_toArray, List.map_cons, List.map_nil, e0, e1, e2, kn.rho.con, kn.rho.fn]
            simp [go_sem]
          · rintro e w' ⟨AN, cN, pN, rfl, h1, h2, h3, h4, hg⟩
            obtain ⟨x1, x2, x3, x4⟩ := kn.ext
            exact ⟨_, rfl, (fun c h => by injection h with h; cases h), only_trans x1 hg, fun h => by rw [updB_ne D (by omega)] at h; rw [upd_ne u _ (by omega)]; obtain ⟨A0, c0, p0, g1, g2, g3, g4, g5⟩ := x2 h; exact ⟨A0, c0, p0, g1, g2, g3, g4, g5.grown hg (by simp)⟩, fun _ => ⟨AN, cN, pN, by rw [upd_at], h1, h2, h3, h4.mono (fun b hb _ => Nat.le_trans x1.size hb)⟩, fun h => by rw [updB_ne D (by omega)] at h; rw [upd_ne u _ (by omega)]; obtain ⟨A0, c0, p0, g1, g2, g3, g4, g5⟩ := x4 h; exact ⟨A0, c0, p0, g1, g2, g3, g4, g5.grown hg (by simp)⟩⟩
        · exact gd_gen (by kernel_rfl) (Want.none_ rfl) rfl (fun D u w v h => by simpa [updB, upd] using h) (fun D u ρ w kn => by
            have e0 := kn.own 3 (c := .slice A1 ns.length c1) (by kernel_rfl) ea3
            simp [execOp, kn.rho.con, e0, go_sem])
        · exact gd_gen (by kernel_rfl) (Want.none_ rfl) rfl (fun D u w v h => by simpa [updB, upd] using h) (fun D u ρ w kn => by
            have e0 := kn.own 4 (c := .slice A2 ags.length c2) (by kernel_rfl) ea4
            simp [execOp, kn.rho.con, e0, go_sem])
        · exact gd_gen (by kernel_rfl) (Want.none_ rfl) rfl (fun D u w v h => by simpa [updB, upd] using h) (fun D u ρ w kn => by
            have e0 := kn.own 7 (c := .pointer (some ⟨pb, 0, none⟩)) (by kernel_rfl) ea7
            simp [execOp, kn.rho.con, e0, go_sem])
        · exact gd_gen (by kernel_rfl) (Want.none_ rfl) rfl (fun D u w v h => by simpa [updB, upd] using h) (fun D u ρ w kn => by
            have e0 := kn.con 12 55 (c := .pointer (some ⟨pb, 2, none⟩)) (by kernel_rfl) (by omega) (by kernel_rfl) rfl
            have f0 := (cellG kn.ext.1 hpbW).trans p2
            simp [execOp, kn.rho.con, e0, f0, go_sem])
        · refine gd_call (by kernel_rfl) (Want.none_ rfl) 10 (fun D u ρ w kn hD => ?_)
          have e0 := kn.con 10 53 (c := .slice A1 ns.length c1) (by kernel_rfl) (by omega) (by kernel_rfl) rfl
          have e1 := kn.con 11 54 (c := .slice A2 ags.length c2) (by kernel_rfl) (by omega) (by kernel_rfl) rfl
          have e2 := kn.con 13 56 (c := .slice u2.a u2.l.length u2.c) (by kernel_rfl) (by omega) (by kernel_rfl) rfl
          refine ⟨#[.slice A1 ns.length c1, .slice A2 ags.length c2, .slice u2.a u2.l.length u2.c], ?_, (K2.out w kn.ext.1).mono ?_⟩
          · simp only [execOp, resolve, Deferred.ofValue, List.map_toArray, List.map_cons, List.map_nil, e0, e1, e2, kn.rho.con, kn.rho.fn]
            simp [go_sem]
          · rintro e w' ⟨AN, cN, pN, rfl, h1, h2, h3, h4, hg⟩
            obtain ⟨x1, x2, x3, x4⟩ := kn.ext
            exact ⟨_, rfl, (fun c h => by injection h with h; cases h), only_trans x1 hg, fun h => by rw [updB_ne D (by omega)] at h; rw [upd_ne u _ (by omega)]; obtain ⟨A0, c0, p0, g1, g2, g3, g4, g5⟩ := x2 h; exact ⟨A0, c0, p0, g1, g2, g3, g4, g5.grown hg (by simp)⟩, fun h => by rw [updB_ne D (by omega)] at h; rw [upd_ne u _ (by omega)]; obtain ⟨A0, c0, p0, g1, g2, g3, g4, g5⟩ := x3 h; exact ⟨A0, c0, p0, g1, g2, g3, g4, g5.grown hg (by simp)⟩, fun _ => ⟨AN, cN, pN, by rw [upd_at], h1, h2, h3, h4.mono (fun b hb _ => Nat.le_trans x1.size hb)⟩⟩
      · intro D u w5 hJ hD
        obtain ⟨hc, x1, x2, x3, x4⟩ := hJ
        obtain ⟨AX, cX, xs, hxv, hx1, hx2, hx3, hx4⟩ := x2 (hD 4 (by omega))
        obtain ⟨AY, cY, ys, hyv, hy1, hy2, hy3, hy4⟩ := x3 (hD 9 (by omega))
        obtain ⟨AZ, cZ, zs, hzv, hz1, hz2, hz3, hz4⟩ := x4 (hD 14 (by omega))
        simp only [List.take_succ_cons, List.take_zero, List.drop_succ_cons, List.drop_zero, putAll]
        rw [hxv, hyv, hzv]
        rw [HZ.out.1] at hx1
        rw [HZ.out.2.1] at hy1
        rw [HZ.out.2.2] at hz1
        have G5 := Lib.hid x1
        have X1 := Lib.hid hx1
        have Y1 := Lib.hid hy1
        have Z1 := Lib.hid hz1
        have XC := Lib.hid (And.intro hx2 (And.intro hy2 hz2))
        have XP := Lib.hid (hx4.mono (S' := fun _ => True) (fun _ _ _ => trivial))
        have YP := Lib.hid (hy4.mono (S' := fun _ => True) (fun _ _ _ => trivial))
        have ZP := Lib.hid (hz4.mono (S' := fun _ => True) (fun _ _ _ => trivial))
        clear hc x1 x2 x3 x4 hxv hyv hzv hx1 hx2 hx3 hx4 hy1 hy2 hy3 hy4 hz1 hz2 hz3 hz4 hD K0 K1 K2 p0 p1 p2 HZ
        go_wp2_with fail
        refine (KM.out AX xs cX AY ys cY u0.l u1.l _ G5.out XP.out YP.out XC.out.1 XC.out.2.1 X1.out Y1.out (by have := HL.out.1; simp <;> omega) (by have := HL.out.1; simp <;> omega)).mono ?_
        rintro e w1_ ⟨A1_, c1_, p1_, rfl, h1, h2, h3, h4, hgN⟩
        have PP1 := Lib.hid (h4.mono (S' := fun _ => True) (fun _ _ _ => trivial))
        have GG1 := Lib.hid (only_trans G5.out hgN)
        have EE1 := Lib.hid h1
        have CC1 := Lib.hid h2
        have XP_1 := Lib.hid (XP.out.grown hgN (by simp))
        have YP_1 := Lib.hid (YP.out.grown hgN (by simp))
        have ZP_1 := Lib.hid (ZP.out.grown hgN (by simp))
        clear h1 h2 h3 h4 hgN
        go_wp2_with fail
        refine (KM.out A1_ p1_ c1_ AZ zs cZ (u0.l ++ u1.l) u2.l _ GG1.out PP1.out ZP_1.out CC1.out XC.out.2.2 EE1.out Z1.out (by have := HL.out.1; simp <;> omega) (by have := HL.out.1; simp <;> omega)).mono ?_
        rintro e w2_ ⟨A2_, c2_, p2_, rfl, h1, h2, h3, h4, hgN⟩
        have PP2 := Lib.hid (h4.mono (S' := fun _ => True) (fun _ _ _ => trivial))
        have GG2 := Lib.hid (only_trans GG1.out hgN)
        have EE2 := Lib.hid h1
        have CC2 := Lib.hid h2
        have XP_2 := Lib.hid (XP_1.out.grown hgN (by simp))
        have YP_2 := Lib.hid (YP_1.out.grown hgN (by simp))
        have ZP_2 := Lib.hid (ZP_1.out.grown hgN (by simp))
        have PP1_2 := Lib.hid (PP1.out.grown hgN (by simp))
        clear h1 h2 h3 h4 hgN
        go_wp2_with fail
        refine (KM.out AY ys cY AX xs cX u1.l u0.l _ GG2.out YP_2.out XP_2.out XC.out.2.1 XC.out.1 Y1.out X1.out (by have := HL.out.1; simp <;> omega) (by have := HL.out.1; simp <;> omega)).mono ?_
        rintro e w3_ ⟨A3_, c3_, p3_, rfl, h1, h2, h3, h4, hgN⟩
        have PP3 := Lib.hid (h4.mono (S' := fun _ => True) (fun _ _ _ => trivial))
        have GG3 := Lib.hid (only_trans GG2.out hgN)
        have EE3 := Lib.hid h1
        have CC3 := Lib.hid h2
        have XP_3 := Lib.hid (XP_2.out.grown hgN (by simp))
        have YP_3 := Lib.hid (YP_2.out.grown hgN (by simp))
        have ZP_3 := Lib.hid (ZP_2.out.grown hgN (by simp))
        have PP2_3 := Lib.hid (PP2.out.grown hgN (by simp))
        clear h1 h2 h3 h4 hgN
        go_wp2_with fail
        refine (KM.out AZ zs cZ A3_ p3_ c3_ u2.l (u1.l ++ u0.l) _ GG3.out ZP_3.out PP3.out XC.out.2.2 CC3.out Z1.out EE3.out (by have := HL.out.1; simp <;> omega) (by have := HL.out.1; simp <;> omega)).mono ?_
        rintro e w4_ ⟨A4_, c4_, p4_, rfl, h1, h2, h3, h4, hgN⟩
        have PP4 := Lib.hid (h4.mono (S' := fun _ => True) (fun _ _ _ => trivial))
        have GG4 := Lib.hid (only_trans GG3.out hgN)
        have EE4 := Lib.hid h1
        have CC4 := Lib.hid h2
        have XP_4 := Lib.hid (XP_3.out.grown hgN (by simp))
        have YP_4 := Lib.hid (YP_3.out.grown hgN (by simp))
        have ZP_4 := Lib.hid (ZP_3.out.grown hgN (by simp))
        have PP2_4 := Lib.hid (PP2_3.out.grown hgN (by simp))
        have PP3_4 := Lib.hid (PP3.out.grown hgN (by simp))
        clear h1 h2 h3 h4 hgN
        go_wp2_with fail
        refine (rsame_any A2_ p2_ c2_ A4_ p4_ c4_ _ PP2_4.out PP4.out (EE2.out.trans (((HPRM.out _ (by rw [List.append_assoc]; exact PE2.out)).trans (HPRM.out _ (((List.perm_append_comm (l₁ := u2.l)).trans ((List.perm_append_comm (l₁ := u1.l)).append_right u2.l)).trans (by rw [List.append_assoc]; exact PE2.out))).symm).trans EE4.out.symm)) (by have h := (okS_collM EE2.out (by omega) (by omega) (by have := HL.out.1; simp <;> omega)).2.2; have := HL.out.1; simp at h; omega) (okS_collM EE2.out (by omega) (by omega) (by have := HL.out.1; simp <;> omega)).1).mono ?_
        rintro e w5_ ⟨rfl, hgN⟩
        have GG5 := Lib.hid (only_trans GG4.out hgN)
        have XP_5 := Lib.hid (XP_4.out.grown hgN (by simp))
        have YP_5 := Lib.hid (YP_4.out.grown hgN (by simp))
        have PP2_5 := Lib.hid (PP2_4.out.grown hgN (by simp))
        have PP4_5 := Lib.hid (PP4.out.grown hgN (by simp))
        clear hgN
        go_wp2_with fail
        refine (KE.out _ GG5.out).mono ?_
        rintro e w6_ ⟨A6_, c6_, p6_, rfl, h1, h2, h3, h4, hgN⟩
        have PP6 := Lib.hid (h4.mono (S' := fun _ => True) (fun _ _ _ => trivial))
        have GG6 := Lib.hid (only_trans GG5.out hgN)
        have EE6 := Lib.hid h1
        have CC6 := Lib.hid h2
        have XP_6 := Lib.hid (XP_5.out.grown hgN (by simp))
        have YP_6 := Lib.hid (YP_5.out.grown hgN (by simp))
        have PP2_6 := Lib.hid (PP2_5.out.grown hgN (by simp))
        clear h1 h2 h3 h4 hgN
        go_wp2_with fail
        refine (rsame_any A2_ p2_ c2_ A6_ p6_ c6_ _ PP2_6.out PP6.out (EE2.out.trans ((HPRM.out _ (by rw [List.append_assoc]; exact PE2.out)).trans EE6.out.symm)) (by have h := (okS_collM EE2.out (by omega) (by omega) (by have := HL.out.1; simp <;> omega)).2.2; have := HL.out.1; simp at h; omega) (okS_collM EE2.out (by omega) (by omega) (by have := HL.out.1; simp <;> omega)).1).mono ?_
        rintro e w7_ ⟨rfl, hgN⟩
        have GG7 := Lib.hid (only_trans GG6.out hgN)
        have XP_7 := Lib.hid (XP_6.out.grown hgN (by simp))
        have YP_7 := Lib.hid (YP_6.out.grown hgN (by simp))
        have PP2_7 := Lib.hid (PP2_6.out.grown hgN (by simp))
        have PP6_7 := Lib.hid (PP6.out.grown hgN (by simp))
        clear hgN
        go_wp2_with fail
        refine (KM.out AX xs cX none [] 0 u0.l [] _ GG7.out XP_7.out ⟨Rd.nil, by simp⟩ XC.out.1 (Nat.le_refl _) X1.out rfl (by have := HL.out.1; simp <;> omega) (by have := HL.out.1; simp <;> omega)).mono ?_
        rintro e w8_ ⟨A8_, c8_, p8_, rfl, h1, h2, h3, h4, hgN⟩
        have PP8 := Lib.hid (h4.mono (S' := fun _ => True) (fun _ _ _ => trivial))
        have GG8 := Lib.hid (only_trans GG7.out hgN)
        have EE8 := Lib.hid h1
        have CC8 := Lib.hid h2
        have XP_8 := Lib.hid (XP_7.out.grown hgN (by simp))
        have YP_8 := Lib.hid (YP_7.out.grown hgN (by simp))
        clear h1 h2 h3 h4 hgN
        go_wp2_with fail
        refine (rsame_any A8_ p8_ c8_ AX xs cX _ PP8.out XP_8.out (EE8.out.trans ((congrArg (collF ns ags) (List.append_nil u0.l)).trans X1.out.symm)) (by have h := (okS_collM EE8.out (by omega) (by omega) (by have := HL.out.1; simp <;> omega)).2.2; have := HL.out.1; simp at h; omega) (okS_collM EE8.out (by omega) (by omega) (by have := HL.out.1; simp <;> omega)).1).mono ?_
        rintro e w9_ ⟨rfl, hgN⟩
        have GG9 := Lib.hid (only_trans GG8.out hgN)
        have XP_9 := Lib.hid (XP_8.out.grown hgN (by simp))
        have YP_9 := Lib.hid (YP_8.out.grown hgN (by simp))
        have PP8_9 := Lib.hid (PP8.out.grown hgN (by simp))
        clear hgN
        go_wp2_with fail
        refine (KM.out AX xs cX AY ys cY u0.l u1.l _ GG9.out XP_9.out YP_9.out XC.out.1 XC.out.2.1 X1.out Y1.out (by have := HL.out.1; simp <;> omega) (by have := HL.out.1; simp <;> omega)).mono ?_
        rintro e w10_ ⟨A10_, c10_, p10_, rfl, h1, h2, h3, h4, hgN⟩
        have PP10 := Lib.hid (h4.mono (S' := fun _ => True) (fun _ _ _ => trivial))
        have GG10 := Lib.hid (only_trans GG9.out hgN)
        have EE10 := Lib.hid h1
        have CC10 := Lib.hid h2
        have XP_10 := Lib.hid (XP_9.out.grown hgN (by simp))
        have YP_10 := Lib.hid (YP_9.out.grown hgN (by simp))
        clear h1 h2 h3 h4 hgN
        go_wp2_with fail
        refine (KRM.out AX xs cX AY ys cY u0.l u1.l _ GG10.out XP_10.out YP_10.out X1.out Y1.out (by have := HL.out.1; simp <;> omega) (by have := HL.out.1; simp <;> omega) HL.out.2.1 HL.out.2.2).mono ?_
        rintro e w11_ ⟨A11_, c11_, p11_, rfl, h1, h2, h3, h4, h5, hgN⟩
        have PP11 : Hid (PDs (fun _ => True) w11_ A11_ p11_) := Lib.hid ⟨h4.mono (fun _ _ _ => trivial), fun q hq => (h5 q hq).mono (fun _ _ _ => trivial)⟩
        have GG11 := Lib.hid (only_trans GG10.out hgN)
        have EE11 := Lib.hid h1
        have CC11 := Lib.hid h2
        have XP_11 := Lib.hid (XP_10.out.grown hgN (by simp))
        have YP_11 := Lib.hid (YP_10.out.grown hgN (by simp))
        have PP10_11 := Lib.hid (PP10.out.grown hgN (by simp))
        clear h1 h2 h3 h4 hgN h5
        go_wp2_with fail
        refine (rsame_any A10_ p10_ c10_ A11_ p11_ c11_ _ PP10_11.out PP11.out (EE10.out.trans ((rfl).trans EE11.out.symm)) (by have h := (okS_collM EE10.out (by omega) (by omega) (by have := HL.out.1; simp <;> omega)).2.2; have := HL.out.1; simp at h; omega) (okS_collM EE10.out (by omega) (by omega) (by have := HL.out.1; simp <;> omega)).1).mono ?_
        rintro e w12_ ⟨rfl, hgN⟩
        have GG12 := Lib.hid (only_trans GG11.out hgN)
        have PP10_12 := Lib.hid (PP10_11.out.grown hgN (by simp))
        have PP11_12 := Lib.hid (PP11.out.grown hgN (by simp))
        clear hgN
        have GF := Lib.hid GG12.out
        go_wp2_with fail
        go_ret
        exact ⟨rfl, only_trans GWW.out GF.out⟩
end Go.Proofs.YtfkgcighooijhaaGreatDoor
