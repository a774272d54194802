/- Add of the reference of chapter 30, at a right manifest and entry (printed by mkadd.py). Condition: sizes. -/
import Derived.Test.YtphglalphejppaaRem
import Derived.Test.YtphglalphejppaaProgP
import Derived.Test.YtphglalphejppaaGenC
import Derived.StillTailTactics
import Derived.Deep.DeepCutAuto
namespace Go.Proofs.Ytphglalphejppaa
open Go.RowKit
set_option linter.unusedVariables false
set_option linter.unusedSimpArgs false

theorem load_segAt (w : World) (b : Nat) (s : SegD) (h : Blk w b 29 s.cells.toArray) :
    (Instr.loadAt 29 (.pointer (some ⟨b, 0, none⟩))).run Try.prog w = .ok (.agg s.cells.toArray) w := by
  have b0 := h.cell 0
  have b1 := h.cell 1
  have b2 := h.cell 2
  have b3 := h.cell 3
  have b4 := h.cell 4
  have b5 := h.cell 5
  have b6 := h.cell 6
  simp [SegD.cells] at b0 b1 b2 b3 b4 b5 b6
  have hu := Try.underlying29
  simp [go_sem, SegD.cells, b0, b1, b2, b3, b4, b5, b6]
theorem lit_seg (ρ : Operand → Value) (w : World) {o : Oper} {x : Nat} {e : SegD} (ho : o.op = .buildSlice 46 1 #[(0, .tmp x)]) (hx : ρ (.tmp x) = .agg e.cells.toArray) : (execOp ρ o).run Try.prog w = .ok (.value (.slice (some ⟨w.heap.size, 0, none⟩) 1 1)) (w.alloc (.cells e.cells.toArray 29)) := by
  simp [execOp, ho, hx, go_sem, SegD.cells]
theorem rd_blk {w : World} {g t : Nat} {cs : List Value} (h : Blk w g t cs.toArray) : Rd (fun _ => True) w (some ⟨g, 0, none⟩) cs := fun _ => ⟨g, 0, rfl, trivial, h.lt, fun j u hu => by rw [Nat.zero_add, h.cell j]; simpa using hu⟩
set_option maxHeartbeats 8000000 in
set_option maxRecDepth 100000 in
theorem radd_any {S S' S2 S3 : Nat → Prop} (num nid jn : Int) (A : Option Addr) (ss : List SegD) (c : Nat) (B : Option Addr) (ms : List MarkD) (d : Nat) (C : Option Addr) (ts : List Tal) (f : Nat) (E : Option Addr) (xs : List Tal) (h : Nat) (s0 s : SegD) (w : World) (hr : Rd S w A (ss.flatMap SegD.cells)) (hm : Rd S' w B (ms.flatMap MarkD.cells)) (ht : Rd S2 w C (ts.flatMap Tal.cells)) (hx : Rd S3 w E (xs.flatMap Tal.cells)) (hk : MOk num nid jn ss ms ts xs) (hn : num < 1000) (hi : nid < 1000) (hl : ss.length < 64) (hs : SegC (nid + 1) s) (hse : s = { s0 with id := nid }) :
    Calls Try.prog 27 #[.agg #[.int .i64 num, .int .i64 nid, .int .i64 jn, .slice A ss.length c, .slice B ms.length d, .slice C ts.length f, .slice E xs.length h], .agg s0.cells.toArray] w (ManiOut w (num + 1) (nid + 1) jn B ms.length d C ts.length f E xs.length h (ss ++ [s])) := by
  obtain ⟨W1, hW1⟩ : ∃ W1, W1 = ((w.alloc (.cells #[.int .i64 num, .int .i64 nid, .int .i64 jn, .slice A ss.length c, .slice B ms.length d, .slice C ts.length f, .slice E xs.length h] 52)).alloc (.cells s0.cells.toArray 29)).alloc (.cells #[.int .i64 0, .int .i64 0, .int .i64 0, .slice none 0 0, .slice none 0 0, .slice none 0 0, .slice none 0 0] 52) := ⟨_, rfl⟩
  have G1 : Hid (w.grownBy W1 none) := Lib.hid (by rw [hW1]; exact only_alloc (only_alloc (only_alloc (only_refl _ _) _) _) _)
  have hs1 : w.heap.size + 3 = W1.heap.size := by rw [hW1]; simp
  obtain ⟨mb, hmb⟩ : ∃ b, b = w.heap.size := ⟨_, rfl⟩
  obtain ⟨sb, hsb⟩ : ∃ b, b = w.heap.size + 1 := ⟨_, rfl⟩
  obtain ⟨rb, hrb⟩ : ∃ b, b = w.heap.size + 2 := ⟨_, rfl⟩
  have B1 : Hid (Blk W1 mb 52 #[.int .i64 num, .int .i64 nid, .int .i64 jn, .slice A ss.length c, .slice B ms.length d, .slice C ts.length f, .slice E xs.length h]) := Lib.hid (by rw [hW1, hmb]; exact ((Blk.new w _ _).alloc _).alloc _)
  have S1 : Hid (Blk W1 sb 29 s0.cells.toArray) := Lib.hid (by
    have := Blk.new (w.alloc (.cells #[.int .i64 num, .int .i64 nid, .int .i64 jn, .slice A ss.length c, .slice B ms.length d, .slice C ts.length f, .slice E xs.length h] 52)) 29 s0.cells.toArray
    rw [World.size_alloc] at this
    rw [hW1, hsb]; exact this.alloc _)
  have R1 : Hid (Blk W1 rb 52 #[.int .i64 0, .int .i64 0, .int .i64 0, .slice none 0 0, .slice none 0 0, .slice none 0 0, .slice none 0 0]) := Lib.hid (by
    have := Blk.new ((w.alloc (.cells #[.int .i64 num, .int .i64 nid, .int .i64 jn, .slice A ss.length c, .slice B ms.length d, .slice C ts.length f, .slice E xs.length h] 52)).alloc (.cells s0.cells.toArray 29)) 52 #[.int .i64 0, .int .i64 0, .int .i64 0, .slice none 0 0, .slice none 0 0, .slice none 0 0, .slice none 0 0]
    rw [World.size_alloc, World.size_alloc] at this
    rw [hW1, hrb]; exact this)
  have HR := Lib.hid ((hr.mono (S' := (· < w.heap.size)) (fun b _ hb => hb)).grown G1.out (by simp))
  have HM := Lib.hid ((hm.mono (S' := (· < w.heap.size)) (fun b _ hb => hb)).grown G1.out (by simp))
  have HT := Lib.hid ((ht.mono (S' := (· < w.heap.size)) (fun b _ hb => hb)).grown G1.out (by simp))
  have HX := Lib.hid ((hx.mono (S' := (· < w.heap.size)) (fun b _ hb => hb)).grown G1.out (by simp))
  have HK := Lib.hid hk
  have HC := Lib.hid hs
  have HSE := Lib.hid hse
  have HW := Lib.hid hW1.symm
  have HMB := Lib.hid hmb
  have HSB := Lib.hid hsb
  have HRB := Lib.hid hrb
  have hsl := hk.len
  have hnum := hk.hnum
  have hnid := hk.hnid
  have hmr : mb ≠ rb := by omega
  have hms : mb ≠ sb := by omega
  have hsr : sb ≠ rb := by omega
  have KC := Lib.hid (fun W (hW : W1.grownBy W none) => rcheckm_any num nid jn A ss c B ms d C ts f E xs h W (HR.out.grown hW (by simp)) (HM.out.grown hW (by simp)) (HT.out.grown hW (by simp)) (HX.out.grown hW (by simp)) HK.out)
  clear hW1 hmb hsb hrb hr hm ht hx hk hs hse
  go_enter Try.func27, Try.ntmps27
  go_upto_region 1 with fail
  rw [HW.out, ← HRB.out, ← HSB.out, ← HMB.out]
  clear HW
  have b0 := B1.out.cell 0
  have b1 := B1.out.cell 1
  have b2 := B1.out.cell 2
  have b3 := B1.out.cell 3
  have b4 := B1.out.cell 4
  have b5 := B1.out.cell 5
  have b6 := B1.out.cell 6
  simp at b0 b1 b2 b3 b4 b5 b6
  go_wp2_with fail
  refine (KC.out _ (only_refl _ _)).mono ?_
  rintro e w2 ⟨rfl, hg2⟩
  clear b0 b1 b2 b3 b4 b5 b6
  have G2 := Lib.hid hg2
  have hs2 := hg2.size
  have hB2 := B1.out.grown hg2 (by simp)
  have hS2 := S1.out.grown hg2 (by simp)
  have b1 := hB2.cell 1
  have s0' := hS2.cell 0
  have z0 := hS2.frozen 0
  simp [SegD.cells] at b1 s0'
  obtain ⟨W4, hW4⟩ : ∃ W4, W4 = w2.setCell ⟨sb, 0, none⟩ (.int .i64 nid) := ⟨_, rfl⟩
  have g4 : w2.grownBy W4 (some sb) := by rw [hW4]; exact only_setCell (only_refl _ _) (p := ⟨sb, 0, none⟩) (.inl rfl) _
  have hws : w.heap.size ≤ sb := by have := HSB.out; omega
  have hwm : w.heap.size ≤ mb := by have := HMB.out; omega
  have hwr : w.heap.size ≤ rb := by have := HRB.out; omega
  have HM4 := Lib.hid (hB2.grown g4 (by intro e; injection e with e; exact hms e))
  have HS4 : Hid (Blk W4 sb 29 s.cells.toArray) := Lib.hid (by
    have := hS2.set_ 0 (.int .i64 nid)
    rw [hW4, HSE.out]; simpa [SegD.cells] using this)
  have HR4b := Lib.hid ((R1.out.grown hg2 (by simp)).grown g4 (by intro e; injection e with e; exact hsr e.symm))
  have hM4 : W1.grownBy W4 (some sb) := only_trans (only_of_none hg2 _) g4
  have hsb1 : ∀ b, b < w.heap.size → some b ≠ some sb := fun b hb e => by injection e with e; omega
  have HR4 := Lib.hid (HR.out.grown hM4 hsb1)
  have HMM4 := Lib.hid (HM.out.grown hM4 hsb1)
  have HT4 := Lib.hid (HT.out.grown hM4 hsb1)
  have HX4 := Lib.hid (HX.out.grown hM4 hsb1)
  have G4 := Lib.hid (only_fresh (only_trans G1.out hg2) g4 hws)
  have hs4 : W1.heap.size ≤ W4.heap.size := by have := g4.size; omega
  have HW4 := Lib.hid hW4.symm
  clear hg2 hB2 hS2 hW4 g4 hM4
  go_upto_region 5 with fail
  rw [HW4.out]
  clear b1 s0' z0 HW4
  refine wp_region_gen 5 (JC [some (.pointer (some ⟨mb, 3, none⟩)), some (.slice A ss.length c), none, some (.agg s.cells.toArray), none] (fun D u wx => W4.grownBy wx none ∧ (D 2 = true → ∃ A2 c2, u 2 = .slice A2 ss.length c2 ∧ wx.ownsRow W4.heap.size 29 7 (.slice A2 ss.length c2) ss.length (ss.flatMap SegD.cells)) ∧ (D 4 = true → ∃ gb, u 4 = .slice (some ⟨gb, 0, none⟩) 1 1 ∧ Blk wx gb 29 s.cells.toArray))) (by kernel_rfl) (by kernel_rfl) ?_ ?_ ?_
  · intro u
    exact ⟨(fun j c _ h => by cases h), ⟨only_drew (only_refl _ _), (fun h => by cases h), fun h => by cases h⟩⟩
  · intro AA hA
    have hasz : AA.tmps.size = 39 := by rw [hA]; kernel_rfl
    have ea2 : AA.eval (.tmp 2) = .pointer (some ⟨mb, 0, none⟩) := by rw [hA]; kernel_rfl
    have ea3 : AA.eval (.tmp 3) = .pointer (some ⟨sb, 0, none⟩) := by rw [hA]; kernel_rfl
    clear hA
    simp only [List.take_succ_cons, List.take_zero]
    refine .cons ?_ (.cons ?_ (.cons ?_ (.cons ?_ (.cons ?_ (.nil)))))
    · exact gd_gen (by kernel_rfl) (Want.none_ rfl) rfl (fun D u w v h => by simpa [updB, upd] using h) (fun D u ρ w kn => by
        have e0 := kn.own 2 (c := .pointer (some ⟨mb, 0, none⟩)) (by kernel_rfl) ea2
        simp [execOp, kn.rho.con, e0, go_sem])
    · exact gd_gen (by kernel_rfl) (Want.none_ rfl) rfl (fun D u w v h => by simpa [updB, upd] using h) (fun D u ρ w kn => by
        have e0 := kn.con 0 17 (c := .pointer (some ⟨mb, 3, none⟩)) (by kernel_rfl) (by omega) (by kernel_rfl) rfl
        have f0 := (HM4.out.grown kn.ext.1 (by simp)).cell 3
        simp [execOp, kn.rho.con, e0, f0, go_sem])
    · refine gd_eff (by kernel_rfl) (Want.none_ rfl) (fun D u ρ wx kn hD => ?_)
      have e0 := kn.con 1 18 (c := .slice A ss.length c) (by kernel_rfl) (by omega) (by kernel_rfl) rfl
      obtain ⟨x1, x2, x3⟩ := kn.ext
      obtain ⟨v', w', hr, h1, h2, -⟩ := run_appendN (P := Try.prog) W4.heap.size 46 46 Try.underlying46 segInfo rfl (by decide) (v := .slice none 0 0) (World.ownsRow_nil _ _ _ _) A ss.length c (HR4.out.grown x1 (by simp)) (flat_len _ 7 SegD.cells_len _) (seg_ones ss) (by decide) (by omega) x1.size
      simp only [Nat.zero_add, List.nil_append] at h1
      obtain ⟨A2, c2, rfl, -, -, -, -⟩ := Rd.of_own h1 (by decide)
      have h2' : wx.grownBy w' none := by simpa [Value.ownBlock] using h2
      refine ⟨_, w', ?_, (fun c h => by cases h), only_trans x1 h2', (fun _ => ⟨A2, c2, upd_at _ _ _, h1⟩), fun h => ?_⟩
      · simp only [execOp, resolve, invoke, builtin, Sem.run_bind, Sem.run_pure, Result.andThen_ok, List.map_toArray, List.map_cons, List.map_nil, e0, kn.rho.con]
        simp [hr]
      · rw [updB_ne D (show (4 : Nat) ≠ 2 by omega)] at h
        rw [upd_ne u _ (show (4 : Nat) ≠ 2 by omega)]
        obtain ⟨gb, q1, q2⟩ := x3 h
        exact ⟨gb, q1, q2.grown h2' (by simp)⟩
    · exact gd_gen (by kernel_rfl) (Want.none_ rfl) rfl (fun D u w v h => by simpa [updB, upd] using h) (fun D u ρ w kn => by
        have e0 := kn.own 3 (c := .pointer (some ⟨sb, 0, none⟩)) (by kernel_rfl) ea3
        exact run_load ρ w rfl e0 (load_segAt w sb s (HS4.out.grown kn.ext.1 (by simp))))
    · refine gd_eff (by kernel_rfl) (Want.none_ rfl) (fun D u ρ wx kn hD => ?_)
      have e0 := kn.con 3 20 (c := .agg s.cells.toArray) (by kernel_rfl) (by omega) (by kernel_rfl) rfl
      obtain ⟨x1, x2, x3⟩ := kn.ext
      refine ⟨_, _, lit_seg ρ wx rfl e0, (fun c h => by cases h), only_alloc x1 _, (fun h => ?_), (fun _ => ⟨wx.heap.size, upd_at _ _ _, Blk.new wx _ _⟩)⟩
      rw [updB_ne D (show (2 : Nat) ≠ 4 by omega)] at h
      rw [upd_ne u _ (show (2 : Nat) ≠ 4 by omega)]
      obtain ⟨A2, c2, q1, q2⟩ := x2 h
      exact ⟨A2, c2, q1, own_ext q2 (only_alloc (only_refl _ _) _)⟩
  · intro D u w5 hJ hD
    obtain ⟨hcn, x1, x2, x3⟩ := hJ
    obtain ⟨A2, c2, q1, q2⟩ := x2 (hD 2 (by omega))
    obtain ⟨gb, r1, r2⟩ := x3 (hD 4 (by omega))
    simp only [List.take_succ_cons, List.take_zero, List.drop_succ_cons, List.drop_zero, putAll]
    rw [q1, r1]
    clear hcn x2 x3 q1 r1 hD
    have hs5 := x1.size
    refine wpList_appendN rfl _ _ 46 rfl W4.heap.size Try.underlying46 segInfo rfl (by decide) (v := .slice A2 ss.length c2) (by kernel_rfl) q2 (some ⟨gb, 0, none⟩) 1 1 (news := s.cells) (by kernel_rfl) (rd_blk r2) rfl (SegD.one s) (by decide) (by omega) (by omega) ?_
    intro v6 w6 hown6 hg6 hob6
    have G6 : Hid (W4.grownBy w6 none) := Lib.hid (only_own x1 hg6 q2 (Nat.le_refl _))
    have hcl : ss.flatMap SegD.cells ++ s.cells = (ss ++ [s]).flatMap SegD.cells := by simp
    rw [hcl] at hown6
    obtain ⟨A6, c6, rfl, -, -, -, -⟩ := Rd.of_own hown6 (by decide)
    have O6 := Lib.hid hown6
    have HB6 := HM4.out.grown G6.out (by simp)
    have HB6' := Lib.hid HB6
    have b0 := HB6.cell 0
    have b1 := HB6.cell 1
    have b3 := HB6.cell 3
    have f0 := HB6.frozen 0
    have f1 := HB6.frozen 1
    have f3 := HB6.frozen 3
    simp at b0 b1 b3
    have hwn : IntKind.i64.wrap (num + 1) = num + 1 := IntWalk.i64_in _ (by omega)
    have hwi : IntKind.i64.wrap (nid + 1) = nid + 1 := IntWalk.i64_in _ (by omega)
    obtain ⟨n1, hn1⟩ : ∃ n1, n1 = ss.length + 1 := ⟨_, rfl⟩
    rw [← hn1] at hown6 O6 ⊢
    have HN1 : Hid (n1 = (ss ++ [s]).length) := Lib.hid (by rw [hn1]; simp)
    clear x1 q2 r2 hown6 hg6 hob6 hcl HB6 hn1
    go_simp
    go_upto_region 8 with fail
    obtain ⟨W7, hW7⟩ : ∃ W7, W7 = ((w6.setCell ⟨mb, 3, none⟩ (.slice A6 n1 c6)).setCell ⟨mb, 1, none⟩ (.int .i64 (nid + 1))).setCell ⟨mb, 0, none⟩ (.int .i64 (num + 1)) := ⟨_, rfl⟩
    have g7 : w6.grownBy W7 (some mb) := by rw [hW7]; exact only_setCell (only_setCell (only_setCell (only_refl _ _) (p := ⟨mb, 3, none⟩) (.inl rfl) _) (p := ⟨mb, 1, none⟩) (.inl rfl) _) (p := ⟨mb, 0, none⟩) (.inl rfl) _
    have B7 := Lib.hid ((show Blk W7 mb 52 #[.int .i64 (num + 1), .int .i64 (nid + 1), .int .i64 jn, .slice A6 n1 c6, .slice B ms.length d, .slice C ts.length f, .slice E xs.length h] from by
      rw [hW7]; simpa using ((HB6'.out.set_ 3 (.slice A6 n1 c6)).set_ 1 (.int .i64 (nid + 1))).set_ 0 (.int .i64 (num + 1))))
    have R7 := Lib.hid ((HR4b.out.grown G6.out (by simp)).grown g7 (by intro e; injection e with e; exact hmr e.symm))
    have hrow : ∀ b j, (Value.slice A6 n1 c6).ownBlock = some j → b < W1.heap.size → j ≠ b := fun b j hj hb e => by have := (O6.out.lt j hj).1; omega
    have O7 := Lib.hid (O6.out.kept g7 (by
      cases hu : (Value.slice A6 n1 c6).ownBlock with
      | none => exact .inl rfl
      | some j => exact .inr (by intro e; injection e with e; exact hrow mb j hu (by have := HMB.out; omega) e)))
    have G7 := Lib.hid (only_fresh (only_trans G4.out G6.out) g7 hwm)
    have hM : W4.grownBy W7 (some mb) := only_trans (only_of_none G6.out _) g7
    obtain ⟨A7, c7, e7, hc7, hm7, -, hr7⟩ := Rd.of_own O7.out (by decide)
    injection e7 with e71 e72 e73
    subst e71 e73
    have HR7 := Lib.hid hr7
    have hs7 : W4.heap.size ≤ W7.heap.size := hM.size
    have hmb1 : ∀ b, b < w.heap.size → some b ≠ some mb := fun b hb e => by injection e with e; omega
    have HMM7 := Lib.hid (HMM4.out.grown hM hmb1)
    have HT7 := Lib.hid (HT4.out.grown hM hmb1)
    have HX7 := Lib.hid (HX4.out.grown hM hmb1)
    have KC7 : Hid (Calls Try.prog 47 #[.agg #[.int .i64 (num + 1), .int .i64 (nid + 1), .int .i64 jn, .slice A6 n1 c6, .slice B ms.length d, .slice C ts.length f, .slice E xs.length h]] W7 (QuietN (.int .i64 0) W7)) := Lib.hid (by
      rw [HN1.out]
      exact rcheckm_any (num + 1) (nid + 1) jn A6 (ss ++ [s]) c6 B ms d C ts f E xs h W7 HR7.out HMM7.out HT7.out HX7.out (HK.out.add hn hi hl HC.out (by rw [HSE.out])))
    have HW7 := Lib.hid hW7.symm
    clear hW7 g7 hM hr7 b0 b1 b3 f0 f1 f3 O6
    rw [HW7.out]
    have b0 := B7.out.cell 0
    have b1 := B7.out.cell 1
    have b2 := B7.out.cell 2
    have b3 := B7.out.cell 3
    have b4 := B7.out.cell 4
    have b5 := B7.out.cell 5
    have b6 := B7.out.cell 6
    simp at b0 b1 b2 b3 b4 b5 b6
    go_wp2_with fail
    refine KC7.out.mono ?_
    rintro e w8 ⟨rfl, hg8⟩
    have B8 := B7.out.grown hg8 (by simp)
    have R8 := R7.out.grown hg8 (by simp)
    have O8 := Lib.hid (O7.out.kept hg8 (by cases (Value.slice A6 n1 c6).ownBlock <;> simp))
    have G8 := Lib.hid (only_trans G7.out hg8)
    have hs8 := hg8.size
    clear b0 b1 b2 b3 b4 b5 b6 hg8
    have b0 := B8.cell 0
    have b1 := B8.cell 1
    have b2 := B8.cell 2
    have b3 := B8.cell 3
    have b4 := B8.cell 4
    have b5 := B8.cell 5
    have b6 := B8.cell 6
    have r0 := R8.cell 0
    have r1 := R8.cell 1
    have r2 := R8.cell 2
    have r3 := R8.cell 3
    have r4 := R8.cell 4
    have r5 := R8.cell 5
    have r6 := R8.cell 6
    have z0 := R8.frozen 0
    have z1 := R8.frozen 1
    have z2 := R8.frozen 2
    have z3 := R8.frozen 3
    have z4 := R8.frozen 4
    have z5 := R8.frozen 5
    have z6 := R8.frozen 6
    simp at b0 b1 b2 b3 b4 b5 b6 r0 r1 r2 r3 r4 r5 r6
    have P9 := blk_put7 R8 (.int .i64 (num + 1)) (.int .i64 (nid + 1)) (.int .i64 jn) (.slice A6 n1 c6) (.slice B ms.length d) (.slice C ts.length f) (.slice E xs.length h)
    have g9 : w8.grownBy _ (some rb) := only_set7 (only_refl w8 (some rb)) (b := rb) (.int .i64 (num + 1)) (.int .i64 (nid + 1)) (.int .i64 jn) (.slice A6 n1 c6) (.slice B ms.length d) (.slice C ts.length f) (.slice E xs.length h)
    clear B8 R8
    go_wp2_with fail
    obtain ⟨W9, hW9⟩ : ∃ W9, W9 = ((((((w8.setCell ⟨rb, 0, none⟩ (.int .i64 (num + 1))).setCell ⟨rb, 1, none⟩ (.int .i64 (nid + 1))).setCell ⟨rb, 2, none⟩ (.int .i64 jn)).setCell ⟨rb, 3, none⟩ (.slice A6 n1 c6)).setCell ⟨rb, 4, none⟩ (.slice B ms.length d)).setCell ⟨rb, 5, none⟩ (.slice C ts.length f)).setCell ⟨rb, 6, none⟩ (.slice E xs.length h) := ⟨_, rfl⟩
    rw [← hW9] at P9 g9 ⊢
    clear hW9
    have q0 := P9.cell 0
    have q1 := P9.cell 1
    have q2 := P9.cell 2
    have q3 := P9.cell 3
    have q4 := P9.cell 4
    have q5 := P9.cell 5
    have q6 := P9.cell 6
    simp at q0 q1 q2 q3 q4 q5 q6
    have O9 := O8.out.kept g9 (by
      cases hu : (Value.slice A6 n1 c6).ownBlock with
      | none => exact .inl rfl
      | some j => exact .inr (by intro e; injection e with e; exact hrow rb j hu (by have := HRB.out; omega) e))
    obtain ⟨A9, c9, e9, hc9, hm9, -, hr9⟩ := Rd.of_own O9 (by decide)
    injection e9 with e91 e92 e93
    subst e91 e93
    refine bodyPost_ret (v := .tuple #[.agg #[.int .i64 (num + 1), .int .i64 (nid + 1), .int .i64 jn, .slice A6 n1 c6, .slice B ms.length d, .slice C ts.length f, .slice E xs.length h], .int .i64 0]) (by simp [results, Try.results27, go_sem, q0, q1, q2, q3, q4, q5, q6]) rfl ?_
    rw [HN1.out] at hc9 ⊢
    exact ⟨A6, c6, rfl, hc9, hm9, hr9.mono (fun b hb _ => by have : W4.heap.size ≤ b := hb; omega), only_fresh G8.out g9 hwr⟩
end Go.Proofs.Ytphglalphejppaa

