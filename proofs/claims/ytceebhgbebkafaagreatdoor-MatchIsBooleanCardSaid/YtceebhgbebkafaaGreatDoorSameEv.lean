/- Same of the reference of chapter 12 and SameEvent, SameEvents of chapter 27, at equal events (printed by mksame.py). No condition. -/
import Derived.Test.YtceebhgbebkafaaGreatDoorSameL
import Derived.Test.YtceebhgbebkafaaGreatDoorEvMem
import Derived.StillTailTactics
namespace Go.Proofs.YtceebhgbebkafaaGreatDoor
open Go.RowKit
set_option linter.unusedVariables false
set_option linter.unusedSimpArgs false

/-- the same event at other places -/
def Ev.moved (a : Ev) (la : Option Addr) (lc : Nat) (fa : Option Addr) (fc : Nat) : Ev := { a with la := la, lc := lc, fa := fa, fc := fc }
theorem itBlk {w : World} {g t : Nat} {x : It} (h : Blk w g t x.cells.toArray) {m : Nat} (hm : m < 10) : w.cell? ⟨g, 1 + m, none⟩ = x.ev.cells[m]? := by
  rw [h.cell (1 + m)]
  show (It.cells x).toArray[1 + m]? = _
  simp [It.cells, Nat.add_comm 1 m]
set_option maxHeartbeats 4000000 in
set_option maxRecDepth 100000 in
theorem same_true {S S' : Nat → Prop} (a : Ev) (la : Option Addr) (lc : Nat) (fa : Option Addr) (fc : Nat) (w : World) (ha : a.Sub S w) (hb : (a.moved la lc fa fc).Sub S' w) (h1 : a.lines.length ≤ 100000) (h2 : a.fields.length ≤ 100000) :
    Calls Tryz.prog 78 #[.agg (It.mk ⟨#[]⟩ a).cells.toArray, .agg (It.mk ⟨#[]⟩ (a.moved la lc fa fc)).cells.toArray] w (BoolExt true w) := by
  obtain ⟨b, hb0⟩ : ∃ b, b = a.moved la lc fa fc := ⟨_, rfl⟩
  rw [← hb0] at hb ⊢
  have e0 : b.host = a.host := by rw [hb0]; rfl
  have e1 : b.file = a.file := by rw [hb0]; rfl
  have e2 : b.beg = a.beg := by rw [hb0]; rfl
  have e3 : b.fin = a.fin := by rw [hb0]; rfl
  have e4 : b.lines = a.lines := by rw [hb0]; rfl
  have e5 : b.time = a.time := by rw [hb0]; rfl
  have e6 : b.weight = a.weight := by rw [hb0]; rfl
  have e7 : b.trace = a.trace := by rw [hb0]; rfl
  have e8 : b.stream = a.stream := by rw [hb0]; rfl
  have e9 : b.fields = a.fields := by rw [hb0]; rfl
  have E := Lib.hid (And.intro e0 (And.intro e1 (And.intro e2 (And.intro e3 (And.intro e4 (And.intro e5 (And.intro e6 (And.intro e7 (And.intro e8 e9)))))))))
  have SA := Lib.hid ha
  have SB := Lib.hid hb
  clear hb0 e0 e1 e2 e3 e4 e5 e6 e7 e8 e9 ha hb
  obtain ⟨g1, hg1⟩ : ∃ g, g = w.heap.size := ⟨_, rfl⟩
  obtain ⟨g2, hg2⟩ : ∃ g, g = w.heap.size + 1 := ⟨_, rfl⟩
  obtain ⟨W, hW⟩ : ∃ W, W = (w.alloc (.cells (It.mk ⟨#[]⟩ a).cells.toArray 91)).alloc (.cells (It.mk ⟨#[]⟩ b).cells.toArray 91) := ⟨_, rfl⟩
  have B1 : Hid (Blk W g1 91 (It.mk ⟨#[]⟩ a).cells.toArray) := Lib.hid (by rw [hW, hg1]; exact (Blk.new w _ _).alloc _)
  have B2 : Hid (Blk W g2 91 (It.mk ⟨#[]⟩ b).cells.toArray) := Lib.hid (by rw [hW, hg2]; have := Blk.new (w.alloc (.cells (It.mk ⟨#[]⟩ a).cells.toArray 91)) 91 (It.mk ⟨#[]⟩ b).cells.toArray; simpa using this)
  have GW : Hid (w.grownBy W none) := Lib.hid (by rw [hW]; exact only_alloc (only_alloc (only_refl _ _) _) _)
  have HW : Hid ((w.alloc (.cells (It.mk ⟨#[]⟩ a).cells.toArray 91)).alloc (.cells (It.mk ⟨#[]⟩ b).cells.toArray 91) = W) := Lib.hid hW.symm
  have HG1 := Lib.hid hg1
  have HG2 := Lib.hid hg2
  clear hW hg1 hg2
  simp only [It.cells, Ev.cells] at HW ⊢
  go_enter Tryz.func78, Tryz.ntmps78
  go_upto_region 1 with fail
  rw [HW.out]
  rw [← HG2.out, ← HG1.out]
  clear HW
  obtain ⟨W0, hW0⟩ : ∃ W0, W0 = W := ⟨_, rfl⟩
  subst hW0
  refine wp_region_gen 8 (JC [some (.pointer (some ⟨g1, 1, none⟩)), some (.agg a.cells.toArray), some (.pointer (some ⟨g2, 1, none⟩)), some (.agg b.cells.toArray), none, none, none, none] (fun D u w => W0.grownBy w none ∧ (D 6 = true → D 4 = true) ∧ (D 7 = true → D 5 = true) ∧ BoxI W0.heap.size 35 4 6 zeroRow a.cells.toArray D u w ∧ BoxI W0.heap.size 35 5 7 zeroRow b.cells.toArray D u w ∧ (D 4 = true → D 5 = true → u 4 ≠ u 5))) (by kernel_rfl) (by kernel_rfl) ?_ ?_ ?_
  · intro u
    exact ⟨(fun j c _ h => by cases h), ⟨only_drew (only_refl _ _), (fun h => by cases h), (fun h => by cases h), (fun h => by cases h), (fun h => by cases h), fun h => by cases h⟩⟩
  · intro AA hA
    have hasz : AA.tmps.size = 86 := by rw [hA]; kernel_rfl
    have ea2 : AA.eval (.tmp 2) = .pointer (some ⟨g1, 0, none⟩) := by rw [hA]; kernel_rfl
    have ea3 : AA.eval (.tmp 3) = .pointer (some ⟨g2, 0, none⟩) := by rw [hA]; kernel_rfl
    clear hA
    simp only [List.take_succ_cons, List.take_zero]
    refine .cons ?_ (.cons ?_ (.cons ?_ (.cons ?_ (.cons ?_ (.cons ?_ (.cons ?_ (.cons ?_ (.nil))))))))
    · exact gd_gen (by kernel_rfl) (Want.none_ rfl) rfl (fun D u w v h => by simpa [updB, upd, BoxI] using h) (fun D u ρ w kn => by
        have e0 := kn.own 2 (c := .pointer (some ⟨g1, 0, none⟩)) (by kernel_rfl) ea2
        simp [execOp, kn.rho.con, e0, go_sem])
    · exact gd_gen (by kernel_rfl) (Want.none_ rfl) rfl (fun D u w v h => by simpa [updB, upd, BoxI] using h) (fun D u ρ w kn => by
        have e0 := kn.con 0 7 (c := .pointer (some ⟨g1, 1, none⟩)) (by kernel_rfl) (by omega) (by kernel_rfl) rfl
        exact run_load ρ w rfl e0 (load_evAt w g1 1 a (fun m hm => (cell_gr kn.ext.1 B1.out.lt).trans (itBlk B1.out hm))))
    · exact gd_gen (by kernel_rfl) (Want.none_ rfl) rfl (fun D u w v h => by simpa [updB, upd, BoxI] using h) (fun D u ρ w kn => by
        have e0 := kn.own 3 (c := .pointer (some ⟨g2, 0, none⟩)) (by kernel_rfl) ea3
        simp [execOp, kn.rho.con, e0, go_sem])
    · exact gd_gen (by kernel_rfl) (Want.none_ rfl) rfl (fun D u w v h => by simpa [updB, upd, BoxI] using h) (fun D u ρ w kn => by
        have e0 := kn.con 2 9 (c := .pointer (some ⟨g2, 1, none⟩)) (by kernel_rfl) (by omega) (by kernel_rfl) rfl
        exact run_load ρ w rfl e0 (load_evAt w g2 1 b (fun m hm => (cell_gr kn.ext.1 B2.out.lt).trans (itBlk B2.out hm))))
    · refine gd_eff (by kernel_rfl) (Want.none_ rfl) (fun D u ρ w kn hD => ?_)
      obtain ⟨x1, x2, x3, x4, x5, x6⟩ := kn.ext
      refine ⟨.pointer (some ⟨w.heap.size, 0, none⟩), w.alloc (.cells zeroRow 35), alloc_ev ρ w, by intro c h; simp at h, ?_⟩
      have hk : D 6 = false := by cases h : D 6 with | false => rfl | true => exact absurd (x2 h) (by simp [hD])
      have e1 : ∀ m, m ≠ 4 → updB D 4 m = D m := fun m h => updB_ne D h
      have e2 : ∀ m, m ≠ 4 → upd u 4 (.pointer (some ⟨w.heap.size, 0, none⟩)) m = u m := fun m h => upd_ne u _ h
      refine ⟨only_alloc x1 _, fun h => by rw [e1 6 (by omega)] at h; exact updB_at D 4, fun h => by rw [e1 7 (by omega)] at h; rw [e1 5 (by omega)]; exact x3 h, ?_, ?_, ?_⟩
      · exact BoxI.new x1 hk
      · exact x5.kept (e1 5 (by omega)) (e1 7 (by omega)) (e2 5 (by omega)) (fun b cs hb h => h.alloc _)
      · intro h1 h2
        rw [e1 5 (by omega)] at h2; rw [upd_at, e2 5 (by omega)]; obtain ⟨b', y1, y2, y3⟩ := x5 h2; rw [y1]; intro e; injection e with e; injection e with e; injection e with e; have := y3.lt; omega
    · refine gd_eff (by kernel_rfl) (Want.none_ rfl) (fun D u ρ w kn hD => ?_)
      obtain ⟨x1, x2, x3, x4, x5, x6⟩ := kn.ext
      refine ⟨.pointer (some ⟨w.heap.size, 0, none⟩), w.alloc (.cells zeroRow 35), alloc_ev ρ w, by intro c h; simp at h, ?_⟩
      have hk : D 7 = false := by cases h : D 7 with | false => rfl | true => exact absurd (x3 h) (by simp [hD])
      have e1 : ∀ m, m ≠ 5 → updB D 5 m = D m := fun m h => updB_ne D h
      have e2 : ∀ m, m ≠ 5 → upd u 5 (.pointer (some ⟨w.heap.size, 0, none⟩)) m = u m := fun m h => upd_ne u _ h
      refine ⟨only_alloc x1 _, fun h => by rw [e1 6 (by omega)] at h; rw [e1 4 (by omega)]; exact x2 h, fun h => by rw [e1 7 (by omega)] at h; exact updB_at D 5, ?_, ?_, ?_⟩
      · exact x4.kept (e1 4 (by omega)) (e1 6 (by omega)) (e2 4 (by omega)) (fun b cs hb h => h.alloc _)
      · exact BoxI.new x1 hk
      · intro h1 h2
        rw [e1 4 (by omega)] at h1; rw [upd_at, e2 4 (by omega)]; obtain ⟨b', y1, y2, y3⟩ := x4 h1; rw [y1]; intro e; injection e with e; injection e with e; injection e with e; have := y3.lt; omega
    · refine gd_skip (by kernel_rfl) (Want.none_ rfl) rfl (fun D u ρ w kn hD => ?_)
      have e0 := kn.slot 4 5 (by kernel_rfl) (by omega)
      have e1 := kn.con 1 8 (c := .agg a.cells.toArray) (by kernel_rfl) (by omega) (by kernel_rfl) rfl
      have hal := kn.dep 4 (by kernel_rfl)
      obtain ⟨x1, x2, x3, x4, x5, x6⟩ := kn.ext
      obtain ⟨b', y1, y2, y3⟩ := x4 hal
      obtain ⟨w', z1, z2, z3⟩ := store_ev w b' a y3 (by split <;> rfl)
      have f1 : ∀ m, m ≠ 6 → updB D 6 m = D m := fun m h => updB_ne D h
      have f2 : ∀ m, m ≠ 6 → upd u 6 undef m = u m := fun m h => upd_ne u _ h
      refine ⟨w', by rw [y1] at e0; simp only [execOp, e0, e1, Sem.run_bind, z1, Result.andThen_ok, Sem.run_pure], only_fresh x1 z3 y2, fun h => by rw [f1 4 (by omega)]; exact hal, fun h => by rw [f1 7 (by omega)] at h; rw [f1 5 (by omega)]; exact x3 h, ?_, ?_, ?_⟩
      · exact fun _ => ⟨b', by rw [f2 4 (by omega)]; exact y1, y2, by rw [updB_at, if_pos rfl]; exact z2⟩
      · exact x5.kept' (f1 5 (by omega)) (f1 7 (by omega)) (f2 5 (by omega)) (fun h b cs hb hu h9 => h9.grown z3 (by intro e; injection e with e; subst e; exact x6 hal h (y1.trans hu.symm)))
      · intro h1 h2
        rw [f1 4 (by omega)] at h1
        rw [f1 5 (by omega)] at h2
        rw [f2 4 (by omega), f2 5 (by omega)]
        exact x6 h1 h2
    · refine gd_skip (by kernel_rfl) (Want.none_ rfl) rfl (fun D u ρ w kn hD => ?_)
      have e0 := kn.slot 5 6 (by kernel_rfl) (by omega)
      have e1 := kn.con 3 10 (c := .agg b.cells.toArray) (by kernel_rfl) (by omega) (by kernel_rfl) rfl
      have hal := kn.dep 5 (by kernel_rfl)
      obtain ⟨x1, x2, x3, x4, x5, x6⟩ := kn.ext
      obtain ⟨b', y1, y2, y3⟩ := x5 hal
      obtain ⟨w', z1, z2, z3⟩ := store_ev w b' b y3 (by split <;> rfl)
      have f1 : ∀ m, m ≠ 7 → updB D 7 m = D m := fun m h => updB_ne D h
      have f2 : ∀ m, m ≠ 7 → upd u 7 undef m = u m := fun m h => upd_ne u _ h
      refine ⟨w', by rw [y1] at e0; simp only [execOp, e0, e1, Sem.run_bind, z1, Result.andThen_ok, Sem.run_pure], only_fresh x1 z3 y2, fun h => by rw [f1 6 (by omega)] at h; rw [f1 4 (by omega)]; exact x2 h, fun h => by rw [f1 5 (by omega)]; exact hal, ?_, ?_, ?_⟩
      · exact x4.kept' (f1 4 (by omega)) (f1 6 (by omega)) (f2 4 (by omega)) (fun h b cs hb hu h9 => h9.grown z3 (by intro e; injection e with e; subst e; exact x6 h hal (hu.trans y1.symm)))
      · exact fun _ => ⟨b', by rw [f2 5 (by omega)]; exact y1, y2, by rw [updB_at, if_pos rfl]; exact z2⟩
      · intro h1 h2
        rw [f1 4 (by omega)] at h1
        rw [f1 5 (by omega)] at h2
        rw [f2 4 (by omega), f2 5 (by omega)]
        exact x6 h1 h2
  · intro D u w3 hJ hD
    obtain ⟨hc, x1, -, -, x4, x5, -⟩ := hJ
    obtain ⟨b1, y1, y2, y3⟩ := x4 (hD 4 (by omega))
    obtain ⟨b2, z1, z2, z3⟩ := x5 (hD 5 (by omega))
    rw [hD 6 (by omega), if_pos rfl] at y3
    rw [hD 7 (by omega), if_pos rfl] at z3
    simp only [List.take_succ_cons, List.take_zero, List.drop_succ_cons, List.drop_zero, putAll]
    rw [y1, z1]
    have W1 := Lib.hid x1
    have Y1 := Lib.hid y3
    have Y2 := Lib.hid z3
    have r1 := (B1.out.grown x1 (by simp)).cell 0
    have r2 := (B2.out.grown x1 (by simp)).cell 0
    simp [It.cells] at r1 r2
    have S1 : Hid (a.Sub S w3) := Lib.hid (SA.out.grown (only_trans GW.out x1) (by simp))
    have S2 : Hid (b.Sub S' w3) := Lib.hid (SB.out.grown (only_trans GW.out x1) (by simp))
    clear hc x1 x4 x5 y1 z1 y3 z3 hD
    obtain ⟨d0, d1, d2, d3, d4, d5, d6, d7, d8, d9⟩ := Y1.out.load10
    obtain ⟨e0, e1, e2, e3, e4, e5, e6, e7, e8, e9⟩ := Y2.out.load10
    obtain ⟨E0, E1, E2, E3, E4, E5, E6, E7, E8, E9⟩ := E.out
    rw [E0] at e0
    rw [E1] at e1
    rw [E2] at e2
    rw [E3] at e3
    rw [E4] at e4
    rw [E5] at e5
    rw [E6] at e6
    rw [E7] at e7
    rw [E8] at e8
    rw [E9] at e9
    have KL : Hid (∀ n, Calls Tryz.prog 98 #[.slice a.la a.lines.length a.lc, .slice b.la a.lines.length b.lc] (w3.drewN n) (QuietV (.bool true) (w3.drewN n))) := Lib.hid (fun n => samelines_true a.la b.la a.lines a.lc b.lc _ (S1.out.1.drewN n) (by have := S2.out.1.drewN n; rw [E4] at this; exact this) (by omega))
    have KF : Hid (∀ n, Calls Tryz.prog 99 #[.slice a.fa a.fields.length a.fc, .slice b.fa a.fields.length b.fc] (w3.drewN n) (QuietV (.bool true) (w3.drewN n))) := Lib.hid (fun n => samefields_true a.fa b.fa a.fields a.fc b.fc _ (S1.out.2.1.drewN n) (by have := S2.out.2.1.drewN n; rw [E9] at this; exact this) (by omega))
    clear E0 E1 E2 E3 E4 E5 E6 E7 E8 E9
    go_wp2_with (first | (go_at_call 98; refine (KL.out 0).mono ?_; rintro e w4 ⟨rfl, n4, rfl⟩) | (go_at_call 99; refine (KF.out n4).mono ?_; rintro e w5 ⟨rfl, n5, rfl⟩))
    go_ret
    exact ⟨rfl, only_drewN (only_trans GW.out W1.out) _⟩
set_option maxHeartbeats 1000000 in
set_option maxRecDepth 100000 in
theorem sameevent_true {S S' : Nat → Prop} (a : Ev) (la : Option Addr) (lc : Nat) (fa : Option Addr) (fc : Nat) (w : World) (ha : a.Sub S w) (hb : (a.moved la lc fa fc).Sub S' w) (h1 : a.lines.length ≤ 100000) (h2 : a.fields.length ≤ 100000) :
    Calls Tryz.prog 40 #[.agg a.cells.toArray, .agg (a.moved la lc fa fc).cells.toArray] w (BoolExt true w) := by
  obtain ⟨W, hW⟩ : ∃ W, W = (w.alloc (.cells a.cells.toArray 35)).alloc (.cells (a.moved la lc fa fc).cells.toArray 35) := ⟨_, rfl⟩
  have GW : Hid (w.grownBy W none) := Lib.hid (by rw [hW]; exact only_alloc (only_alloc (only_refl _ _) _) _)
  have B1 : Hid (Blk W w.heap.size 35 a.cells.toArray) := Lib.hid (by rw [hW]; exact (Blk.new w _ _).alloc _)
  have B2 : Hid (Blk W (w.heap.size + 1) 35 (a.moved la lc fa fc).cells.toArray) := Lib.hid (by rw [hW]; have := Blk.new (w.alloc (.cells a.cells.toArray 35)) 35 (a.moved la lc fa fc).cells.toArray; simpa using this)
  have HW : Hid ((w.alloc (.cells a.cells.toArray 35)).alloc (.cells (a.moved la lc fa fc).cells.toArray 35) = W) := Lib.hid hW.symm
  have K : Hid (Calls Tryz.prog 78 #[.agg (It.mk ⟨#[]⟩ a).cells.toArray, .agg (It.mk ⟨#[]⟩ (a.moved la lc fa fc)).cells.toArray] W (BoolExt true W)) := Lib.hid (same_true a la lc fa fc W (ha.grown GW.out (by simp)) (hb.grown GW.out (by simp)) h1 h2)
  clear hW ha hb
  have c1 := B1.out.load10
  have c2 := B2.out.load10
  simp only [Ev.cells, Ev.moved] at HW c2 ⊢
  obtain ⟨d0, d1, d2, d3, d4, d5, d6, d7, d8, d9⟩ := c1
  obtain ⟨e0, e1, e2, e3, e4, e5, e6, e7, e8, e9⟩ := c2
  go_enter Tryz.func40, Tryz.ntmps40
  go_upto_region 1 with fail
  rw [HW.out]
  clear HW
  go_wp2_with fail
  refine K.out.mono ?_
  rintro e w2 ⟨rfl, hg2⟩
  clear d0 d1 d2 d3 d4 d5 d6 d7 d8 d9 e0 e1 e2 e3 e4 e5 e6 e7 e8 e9
  go_wp2_with fail
  go_ret
  exact ⟨rfl, only_trans GW.out hg2⟩
/-- the same event, perhaps elsewhere -/
def EvEq (a b : Ev) : Prop := ∃ la lc fa fc, b = a.moved la lc fa fc
theorem EvEq.refl (a : Ev) : EvEq a a := ⟨a.la, a.lc, a.fa, a.fc, rfl⟩
def EvsEq (a b : List Ev) : Prop := a.length = b.length ∧ ∀ (i : Nat) (x y : Ev), a[i]? = some x → b[i]? = some y → EvEq x y
theorem EvsEq.refl (a : List Ev) : EvsEq a a := ⟨rfl, fun i x y hx hy => by rw [hx] at hy; injection hy with hy; rw [← hy]; exact EvEq.refl x⟩
/-- events of bounded parts -/
def Bdd (l : List Ev) : Prop := ∀ e ∈ l, e.lines.length ≤ 100000 ∧ e.fields.length ≤ 100000
set_option maxHeartbeats 2000000 in
set_option maxRecDepth 100000 in
theorem sameevents_true {S S' : Nat → Prop} (A B : Option Addr) (es fs : List Ev) (c d : Nat) (w : World) (ha : Evs S w A es) (hb : Evs S' w B fs) (hq : EvsEq es fs) (hd : Bdd es) (hl : es.length ≤ 100000) :
    Calls Tryz.prog 13 #[.slice A es.length c, .slice B fs.length d] w (BoolExt true w) := by
  have hlen : fs.length = es.length := hq.1.symm
  rw [hlen]
  have HL := Lib.hid hlen
  have HA := Lib.hid ha
  have HB := Lib.hid hb
  have HQ := Lib.hid hq
  have HD := Lib.hid hd
  clear ha hb hq hd hlen
  have t1 : ((es.length : Int) != (es.length : Int)) = false := by simp
  go_enter Tryz.func13, Tryz.ntmps13
  go_wp2_with fail
  go_loopw [5] (fun i wr => ∃ k : Nat, k ≤ es.length ∧ i = .int .i64 k ∧ w.grownBy wr none) (fun i _ => es.length - (intOf i).toNat)
  case atStart => exact ⟨0, Nat.zero_le _, rfl, only_refl _ _⟩
  case round =>
    obtain ⟨k, hk, rfl, hG⟩ := hrel
    have G := Lib.hid hG
    clear hG
    by_cases hlt : k < es.length
    · obtain ⟨ba, oa, rfl, -, -, -⟩ := HA.out.1 (by rw [flat_len _ 10 Ev.cells_len]; omega)
      obtain ⟨bb, ob, rfl, -, -, -⟩ := HB.out.1 (by rw [flat_len _ 10 Ev.cells_len, HL.out]; omega)
      have hr := HA.out.1.grown G.out (by simp)
      have hr2 := HB.out.1.grown G.out (by simp)
      obtain ⟨x, hx⟩ : ∃ x, es[k] = x := ⟨_, rfl⟩
      have hlt2 : k < fs.length := by rw [HL.out]; exact hlt
      obtain ⟨y, hy⟩ : ∃ y, fs[k] = y := ⟨_, rfl⟩
      obtain ⟨d0, d1, d2, d3, d4, d5, d6, d7, d8, d9⟩ := Evs.load10 hr hlt hx
      obtain ⟨e0, e1, e2, e3, e4, e5, e6, e7, e8, e9⟩ := Evs.load10 hr2 hlt2 hy
      have hxm : x ∈ es := by rw [← hx]; exact List.getElem_mem _
      have hym : y ∈ fs := by rw [← hy]; exact List.getElem_mem _
      obtain ⟨la, lc, fa, fc, hxy⟩ := HQ.out.2 k x y (by rw [← hx]; exact List.getElem?_eq_getElem _) (by rw [← hy]; exact List.getElem?_eq_getElem _)
      have K : Hid (Calls Tryz.prog 40 #[.agg x.cells.toArray, .agg y.cells.toArray] wr.drew (BoolExt true wr.drew)) := Lib.hid (by
        have hs2 := (HB.out.2 y hym).grown G.out (by simp)
        rw [hxy] at hs2 ⊢
        exact sameevent_true (S := S) (S' := S') x la lc fa fc wr.drew ((HA.out.2 x hxm).grown (only_drew G.out) (by simp)) hs2 (HD.out x hxm).1 (HD.out x hxm).2)
      clear hr hr2 hx hy hxm hym hxy hlt2
      have i1 : (k : Int) < (es.length : Int) := by omega
      have n1 : (0 : Int) ≤ (k : Int) := by omega
      go_upto_region 6 with fail
      go_still_tail 8, (by kernel_rfl)
      change wpList _ _ _ _ _ wr.drew
      clear d0 d1 d2 d3 d4 d5 d6 d7 d8 d9 e0 e1 e2 e3 e4 e5 e6 e7 e8 e9 n1
      go_wp2_with (go_at_call 40; refine K.out.mono ?_; rintro e w2 ⟨rfl, hg2⟩)
      have G2 : Hid (w.grownBy w2 none) := Lib.hid (only_trans (only_drew G.out) hg2)
      clear hg2
      go_roundw
      case rel => exact ⟨k + 1, by omega, by go_num, G2.out⟩
      case measure => simp [intOf]; omega
    · have i1 : ¬ ((k : Int) < (es.length : Int)) := by omega
      go_wp2_with fail
      go_ret
      exact ⟨rfl, G.out⟩
end Go.Proofs.YtceebhgbebkafaaGreatDoor
