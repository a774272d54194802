/- slices.Clone at []bool (printed by mkclone.py). Condition: sizes. -/
import Derived.Test.YtfkgcighooijhaaGreatDoorJGrpP
import Derived.Lib.SliceRun
import Derived.Test.YtfkgcighooijhaaGreatDoorJOneI
import Derived.Lib.AppendZeros
import Derived.Deep.DeepCutAuto
import Derived.Test.YtfkgcighooijhaaGreatDoorStepR
import Derived.StillTailTactics
namespace Go.Proofs.YtfkgcighooijhaaGreatDoor
open Go.RowKit
set_option linter.unusedVariables false
set_option linter.unusedSimpArgs false

def CloneBoPost (w : World) (n : Nat) (xs : List Value) (e : Ending) (w' : World) : Prop := ∃ A' c', e = .returned (.slice A' n c') ∧ w'.ownsRow w.heap.size 4 1 (.slice A' n c') n xs ∧ w.grownBy w' none
set_option maxHeartbeats 1000000 in
set_option maxRecDepth 100000 in
theorem cloneBo_any {S : Nat → Prop} (A : Option Addr) (n c : Nat) (xs : List Value) (w : World) (hr : Rd S w A xs) (hn : xs.length = n * 1) (hl : n ≤ 1000000) (h1 : ∀ u ∈ xs, u.oneCell' = true) (hA : A = none → n = 0) :
    Calls Tryz.prog 52 #[.slice A n c] w (CloneBoPost w n xs) := by
  have q22 : ∀ (w : World) (a : Option Addr) (n c n' c' : Nat), (binOp .eql 66 (.slice a n c) (.slice none n' c')).run Tryz.prog w = .ok (.bool a.isNone) w := fun w a n c n' c' => Lib.run_eql_slice_nil w _ _ a n c n' c' Tryz.underlying66
  have H1 := Lib.hid h1
  have HR := Lib.hid hr
  clear h1 hr
  cases A with
  | none =>
    obtain rfl := hA rfl
    obtain rfl : xs = [] := List.eq_nil_of_length_eq_zero (by omega)
    clear hA
    go_enter Tryz.func52, Tryz.ntmps52
    go_wp2_with fail
    go_ret
    exact ⟨none, 0, rfl, World.ownsRow_nil _ _ _ _, only_refl _ _⟩
  | some a =>
    clear hA
    go_enter Tryz.func52, Tryz.ntmps52
    go_wp2_with (at_builtin; refine wpList_appendN rfl _ _ 66 rfl w.heap.size Tryz.underlying66 boolInfo37 rfl (by decide) (v := .slice (some ⟨w.heap.size, 0, none⟩) 0 0) (by rfl) (World.ownsRow_made w #[] 0 (Nat.le_refl _) (Nat.zero_le _) (by simp)) (some a) n c (news := xs) (by rfl) (HR.out.alloc _) hn H1.out (by decide) (by omega) (by simp) ?_; intro v3 w3 hown3 hg3 hob3)
    have O3 : Hid (w3.ownsRow w.heap.size 4 1 v3 n xs) := Lib.hid (by simpa using hown3)
    have G3 : Hid (w.grownBy w3 none) := Lib.hid (only_fresh (only_alloc (only_refl _ _) _) (by simpa [Value.ownBlock] using hg3) (Nat.le_refl _))
    clear hown3 hg3 hob3
    obtain ⟨A3, c3, rfl, -, -, -, -⟩ := Rd.of_own O3.out (by decide)
    go_wp2_with fail
    go_ret
    exact ⟨A3, c3, rfl, O3.out, G3.out⟩
end Go.Proofs.YtfkgcighooijhaaGreatDoor

namespace Go.Proofs.YtfkgcighooijhaaGreatDoor
open Go.RowKit
set_option linter.unusedVariables false
set_option linter.unusedSimpArgs false

theorem alloc_part (ρ : Operand → Value) (w : World) {o : Oper} (ho : o.op = .alloc 69 := by rfl) : (execOp ρ o).run Tryz.prog w = .ok (.value (.pointer (some ⟨w.heap.size, 0, none⟩))) (w.alloc (.cells #[.slice none 0 0, .slice none 0 0, .slice none 0 0, .slice none 0 0] 69)) := by
  simp only [execOp, ho, Sem.run_bind]
  rw [show (Instr.alloc 69 true (.tuple #[])).run Tryz.prog w = .ok (.pointer (some ⟨w.heap.size, 0, none⟩)) (w.alloc (.cells #[.slice none 0 0, .slice none 0 0, .slice none 0 0, .slice none 0 0] 69)) by kernel_rfl]
  simp
theorem cells_of : ∀ (cs : List CM) (vs : List StrR), vs.map StrR.l = cs.map (fun c => c.v.l) →
    ∃ cs' : List CM, cs'.length = cs.length ∧ tOf cs' = tOf cs ∧ sOf cs' = sOf cs ∧ (vOf cs' = vs.map StrR.val ∧ ∀ c ∈ cs', ∃ s ∈ vs, c.v = s) ∧ cs'.map CM.pl = cs.map CM.pl
  | [], [], _ => ⟨[], rfl, rfl, rfl, ⟨rfl, by simp⟩, rfl⟩
  | [], _ :: _, h => by simp at h
  | _ :: _, [], h => by simp at h
  | c :: cs, v :: vs, h => by
    simp only [List.map_cons, List.cons.injEq] at h
    obtain ⟨cs', l1, l2, l3, l4, l5⟩ := cells_of cs vs h.2
    refine ⟨⟨c.t, c.s, v⟩ :: cs', by simp [l1], by unfold tOf at *; simp [l2], by unfold sOf at *; simp [l3], ⟨by unfold vOf at *; simp [l4.1], ?_⟩, ?_⟩
    · intro d hd
      rcases List.mem_cons.1 hd with rfl | hd
      · exact ⟨v, List.mem_cons_self .., rfl⟩
      · obtain ⟨s, hs, e⟩ := l4.2 d hd
        exact ⟨s, List.mem_cons_of_mem _ hs, e⟩
    · rw [List.map_cons, List.map_cons, l5]
      congr 1
      show CD.mk _ _ _ = CD.mk _ _ _
      rw [h.1]
set_option maxHeartbeats 16000000 in
set_option maxRecDepth 100000 in
theorem copied_any {S : Nat → Prop} (p : PD) (w : World) (hp : p.Sub S w) (hn : p.cs.length ≤ 1000) (hkl0 : p.key.l.length ≤ 100000) (hpv : ∀ c ∈ p.cs, c.v.l.length ≤ 100000) :
    Calls Tryz.prog 29 #[.agg p.cells.toArray] w (PartP w p.pl) := by
  obtain ⟨h1, h2, h3, h4, h5, -, -, -, -, -, -, h6, h7⟩ := hp
  have HV := Lib.hid h4
  have HVI := Lib.hid h5
  have HPV := Lib.hid hpv
  have KC : Hid (∀ w', w.grownBy w' none → Calls Tryz.prog 35 #[.slice p.key.a p.key.l.length p.key.c] w' (CloneSPost w' p.key.l.length (p.key.l.map .string))) := Lib.hid (fun w' hg => cloneS_any _ _ _ (p.key.l.map .string) w' (h1.1.grown hg (by simp)) (by simp) (by omega) (by intro u hu; obtain ⟨s, -, rfl⟩ := List.mem_map.1 hu; rfl) h1.2.2.2)
  have KT : Hid (∀ w', w.grownBy w' none → Calls Tryz.prog 36 #[.slice p.ta p.cs.length p.tc] w' (CloneIPost w' p.cs.length (tOf p.cs))) := Lib.hid (fun w' hg => cloneI_any _ _ _ (tOf p.cs) w' (h2.grown hg (by simp)) (by rw [tOf_len]; omega) (by omega) (by intro u hu; obtain ⟨s, -, rfl⟩ := List.mem_map.1 hu; rfl) h6)
  have KS : Hid (∀ w', w.grownBy w' none → Calls Tryz.prog 52 #[.slice p.sa p.cs.length p.sc] w' (CloneBoPost w' p.cs.length (sOf p.cs))) := Lib.hid (fun w' hg => cloneBo_any _ _ _ (sOf p.cs) w' (h3.grown hg (by simp)) (by rw [sOf_len]; omega) (by omega) (by intro u hu; obtain ⟨s, -, rfl⟩ := List.mem_map.1 hu; rfl) h7)
  clear h1 h2 h3 h4 h5 h6 h7 hpv
  obtain ⟨⟨kl, ka, kc⟩, cs, ta, tc, sa, sc, va, vc⟩ := p
  simp only at hn hkl0 KC KT KS HV HVI HPV
  have HCS : Hid ((PD.mk ⟨kl, ka, kc⟩ cs ta tc sa sc va vc).pl = ⟨kl, cs.map CM.pl⟩) := Lib.hid rfl
  obtain ⟨z, hz⟩ : ∃ z, z = (PD.mk ⟨kl, ka, kc⟩ cs ta tc sa sc va vc).pl := ⟨_, rfl⟩
  rw [← hz] at HCS ⊢
  obtain ⟨n, hnd⟩ : ∃ n, n = cs.length := ⟨_, rfl⟩
  have hc1 : (PD.mk ⟨kl, ka, kc⟩ cs ta tc sa sc va vc).cells.toArray = #[.slice ka kl.length kc, .slice ta n tc, .slice sa n sc, .slice va n vc] := by rw [hnd]; rfl
  rw [hc1]
  obtain ⟨TS, hTS⟩ : ∃ l, l = tOf cs := ⟨_, rfl⟩
  obtain ⟨SS, hSS⟩ : ∃ l, l = sOf cs := ⟨_, rfl⟩
  rw [← hnd, ← hTS] at KT
  rw [← hnd, ← hSS] at KS
  rw [← hnd] at hn
  have HN := Lib.hid hnd
  have HTS := Lib.hid hTS
  have HSS := Lib.hid hSS
  clear hc1 hz hnd hTS hSS
  go_enter Tryz.func29, Tryz.ntmps29
  go_upto_region 1 with fail
  obtain ⟨W, hW⟩ : ∃ W, W = (w.alloc (.cells #[.slice ka kl.length kc, .slice ta n tc, .slice sa n sc, .slice va n vc] 69)).alloc (.cells #[.slice none 0 0, .slice none 0 0, .slice none 0 0, .slice none 0 0] 69) := ⟨_, rfl⟩
  have hP : Blk W w.heap.size 69 #[.slice ka kl.length kc, .slice ta n tc, .slice sa n sc, .slice va n vc] := by rw [hW]; exact (Blk.new w _ _).alloc _
  have hR : Blk W (w.heap.size + 1) 69 #[.slice none 0 0, .slice none 0 0, .slice none 0 0, .slice none 0 0] := by
    rw [hW]
    have := Blk.new (w.alloc (.cells #[.slice ka kl.length kc, .slice ta n tc, .slice sa n sc, .slice va n vc] 69)) 69 #[.slice none 0 0, .slice none 0 0, .slice none 0 0, .slice none 0 0]
    simpa using this
  have GW : Hid (w.grownBy W none) := Lib.hid (by rw [hW]; exact only_alloc (only_alloc (only_refl w none) _) _)
  rw [← hW]
  obtain ⟨pa, hpad⟩ : ∃ pa, pa = w.heap.size := ⟨_, rfl⟩
  obtain ⟨rb, hrbd⟩ : ∃ rb, rb = w.heap.size + 1 := ⟨_, rfl⟩
  have HPA := Lib.hid hpad
  have HRB := Lib.hid hrbd
  rw [← hpad] at hP
  rw [← hrbd] at hR
  rw [← hrbd, ← hpad]
  have p0 := hP.cell 0; have p1 := hP.cell 1; have p2 := hP.cell 2; have p3 := hP.cell 3
  simp at p0 p1 p2 p3
  have hpa : pa < W.heap.size := hP.lt
  have hrb : rb < W.heap.size := hR.lt
  have BP := Lib.hid hP
  have BR := Lib.hid hR
  replace KC : Hid (∀ w', W.grownBy w' none → Calls Tryz.prog 35 #[.slice ka kl.length kc] w' (CloneSPost w' kl.length (kl.map .string))) := Lib.hid (fun w' hg => KC.out w' (only_trans GW.out hg))
  replace KT : Hid (∀ w', W.grownBy w' none → Calls Tryz.prog 36 #[.slice ta n tc] w' (CloneIPost w' n TS)) := Lib.hid (fun w' hg => KT.out w' (only_trans GW.out hg))
  replace KS : Hid (∀ w', W.grownBy w' none → Calls Tryz.prog 52 #[.slice sa n sc] w' (CloneBoPost w' n SS)) := Lib.hid (fun w' hg => KS.out w' (only_trans GW.out hg))
  clear hW hP hR hpad hrbd
  refine wp_region_gen 11 (JC [some (.pointer (some ⟨pa, 0, none⟩)), some (.slice ka kl.length kc), none, some (.pointer (some ⟨pa, 1, none⟩)), some (.slice ta n tc), none, some (.pointer (some ⟨pa, 2, none⟩)), some (.slice sa n sc), none, none, none] (fun D u w => W.grownBy w none ∧ (D 2 = true → FreshS W.heap.size (kl.map .string) kl.length 9 w (u 2)) ∧ (D 5 = true → FreshS W.heap.size TS n 3 w (u 5)) ∧ (D 8 = true → FreshS W.heap.size SS n 4 w (u 8)) ∧ (D 9 = true → (D 2 = true ∧ D 5 = true ∧ D 8 = true) ∧ u 9 = .agg #[u 2, u 5, u 8, .slice none 0 0]) ∧ (D 10 = true → ∃ b, u 10 = .pointer (some ⟨b, 0, none⟩) ∧ W.heap.size ≤ b ∧ Blk w b 69 #[.slice none 0 0, .slice none 0 0, .slice none 0 0, .slice none 0 0]))) (by kernel_rfl) (by kernel_rfl) ?_ ?_ ?_
  · intro u
    exact ⟨(fun j c _ h => by cases h), only_drew (only_refl _ _), (fun h => by cases h), (fun h => by cases h), (fun h => by cases h), (fun h => by cases h), (fun h => by cases h)⟩
  · intro AA hA
    have hasz : AA.tmps.size = 32 := by rw [hA]; kernel_rfl
    have ea1 : AA.eval (.tmp 1) = .pointer (some ⟨pa, 0, none⟩) := by rw [hA]; kernel_rfl
    clear hA
    simp only [List.take_succ_cons, List.take_zero]
    refine .cons ?_ (.cons ?_ (.cons ?_ (.cons ?_ (.cons ?_ (.cons ?_ (.cons ?_ (.cons ?_ (.cons ?_ (.cons ?_ (.cons ?_ (.nil)))))))))))
    · exact gd_gen (by kernel_rfl) (Want.none_ rfl) rfl (fun D u w v h => by simpa [updB, upd] using h) (fun D u ρ w kn => by
        have e0 := kn.own 1 (c := .pointer (some ⟨pa, 0, none⟩)) (by kernel_rfl) ea1
        simp [execOp, kn.rho.con, e0, go_sem])
    · exact gd_gen (by kernel_rfl) (Want.none_ rfl) rfl (fun D u w v h => by simpa [updB, upd] using h) (fun D u ρ w kn => by
        have e0 := kn.con 0 6 (c := .pointer (some ⟨pa, 0, none⟩)) (by kernel_rfl) (by omega) (by kernel_rfl) rfl
        have f0 := (cellG kn.ext.1 hpa).trans p0
        simp [execOp, kn.rho.con, e0, f0, go_sem])
    · refine gd_call (by kernel_rfl) (Want.none_ rfl) 35 (fun D u ρ w kn hD => ?_)
      have e0 := kn.con 1 7 (c := .slice ka kl.length kc) (by kernel_rfl) (by omega) (by kernel_rfl) rfl
      refine ⟨#[.slice ka kl.length kc], ?_, (KC.out w kn.ext.1).mono ?_⟩
      · simp only [execOp, resolve, Deferred.ofValue, List.map_toArray, List.map_cons, List.map_nil, e0, kn.rho.con, kn.rho.fn]
        simp [go_sem]
      · rintro e w' ⟨A1, c1, rfl, ho1, hg⟩
        obtain ⟨x1, x2, x3, x4, x5, x6⟩ := kn.ext
        exact ⟨_, rfl, (fun c h => by injection h with h; cases h), only_trans x1 hg, fun _ => by rw [upd_at]; exact FreshS.of ho1 x1.size, fun h => by rw [updB_ne D (by omega)] at h; rw [upd_ne u _ (by omega)]; exact (x3 h).grown hg, fun h => by rw [updB_ne D (by omega)] at h; rw [upd_ne u _ (by omega)]; exact (x4 h).grown hg, fun h => by rw [updB_ne D (by omega)] at h; exact absurd (x5 h).1.1 (by simp [hD]), fun h => by rw [updB_ne D (by omega)] at h; rw [upd_ne u _ (by omega)]; obtain ⟨b, y1, y2, y3⟩ := x6 h; exact ⟨b, y1, y2, y3.grown hg (by simp)⟩⟩
    · exact gd_gen (by kernel_rfl) (Want.none_ rfl) rfl (fun D u w v h => by simpa [updB, upd] using h) (fun D u ρ w kn => by
        have e0 := kn.own 1 (c := .pointer (some ⟨pa, 0, none⟩)) (by kernel_rfl) ea1
        simp [execOp, kn.rho.con, e0, go_sem])
    · exact gd_gen (by kernel_rfl) (Want.none_ rfl) rfl (fun D u w v h => by simpa [updB, upd] using h) (fun D u ρ w kn => by
        have e0 := kn.con 3 9 (c := .pointer (some ⟨pa, 1, none⟩)) (by kernel_rfl) (by omega) (by kernel_rfl) rfl
        have f0 := (cellG kn.ext.1 hpa).trans p1
        simp [execOp, kn.rho.con, e0, f0, go_sem])
    · refine gd_call (by kernel_rfl) (Want.none_ rfl) 36 (fun D u ρ w kn hD => ?_)
      have e0 := kn.con 4 10 (c := .slice ta n tc) (by kernel_rfl) (by omega) (by kernel_rfl) rfl
      refine ⟨#[.slice ta n tc], ?_, (KT.out w kn.ext.1).mono ?_⟩
      · simp only [execOp, resolve, Deferred.ofValue, List.map_toArray, List.map_cons, List.map_nil, e0, kn.rho.con, kn.rho.fn]
        simp [go_sem]
      · rintro e w' ⟨A1, c1, rfl, ho1, hg⟩
        obtain ⟨x1, x2, x3, x4, x5, x6⟩ := kn.ext
        exact ⟨_, rfl, (fun c h => by injection h with h; cases h), only_trans x1 hg, fun h => by rw [updB_ne D (by omega)] at h; rw [upd_ne u _ (by omega)]; exact (x2 h).grown hg, fun _ => by rw [upd_at]; exact FreshS.of ho1 x1.size, fun h => by rw [updB_ne D (by omega)] at h; rw [upd_ne u _ (by omega)]; exact (x4 h).grown hg, fun h => by rw [updB_ne D (by omega)] at h; exact absurd (x5 h).1.2.1 (by simp [hD]), fun h => by rw [updB_ne D (by omega)] at h; rw [upd_ne u _ (by omega)]; obtain ⟨b, y1, y2, y3⟩ := x6 h; exact ⟨b, y1, y2, y3.grown hg (by simp)⟩⟩
    · exact gd_gen (by kernel_rfl) (Want.none_ rfl) rfl (fun D u w v h => by simpa [updB, upd] using h) (fun D u ρ w kn => by
        have e0 := kn.own 1 (c := .pointer (some ⟨pa, 0, none⟩)) (by kernel_rfl) ea1
        simp [execOp, kn.rho.con, e0, go_sem])
    · exact gd_gen (by kernel_rfl) (Want.none_ rfl) rfl (fun D u w v h => by simpa [updB, upd] using h) (fun D u ρ w kn => by
        have e0 := kn.con 6 12 (c := .pointer (some ⟨pa, 2, none⟩)) (by kernel_rfl) (by omega) (by kernel_rfl) rfl
        have f0 := (cellG kn.ext.1 hpa).trans p2
        simp [execOp, kn.rho.con, e0, f0, go_sem])
    · refine gd_call (by kernel_rfl) (Want.none_ rfl) 52 (fun D u ρ w kn hD => ?_)
      have e0 := kn.con 7 13 (c := .slice sa n sc) (by kernel_rfl) (by omega) (by kernel_rfl) rfl
      refine ⟨#[.slice sa n sc], ?_, (KS.out w kn.ext.1).mono ?_⟩
      · simp only [execOp, resolve, Deferred.ofValue, List.map_toArray, List.map_cons, List.map_nil, e0, kn.rho.con, kn.rho.fn]
        simp [go_sem]
      · rintro e w' ⟨A1, c1, rfl, ho1, hg⟩
        obtain ⟨x1, x2, x3, x4, x5, x6⟩ := kn.ext
        exact ⟨_, rfl, (fun c h => by injection h with h; cases h), only_trans x1 hg, fun h => by rw [updB_ne D (by omega)] at h; rw [upd_ne u _ (by omega)]; exact (x2 h).grown hg, fun h => by rw [updB_ne D (by omega)] at h; rw [upd_ne u _ (by omega)]; exact (x3 h).grown hg, fun _ => by rw [upd_at]; exact FreshS.of ho1 x1.size, fun h => by rw [updB_ne D (by omega)] at h; exact absurd (x5 h).1.2.2 (by simp [hD]), fun h => by rw [updB_ne D (by omega)] at h; rw [upd_ne u _ (by omega)]; obtain ⟨b, y1, y2, y3⟩ := x6 h; exact ⟨b, y1, y2, y3.grown hg (by simp)⟩⟩
    · refine gd_eff (by kernel_rfl) (Want.none_ rfl) (fun D u ρ w kn hD => ?_)
      have e0 := kn.slot 2 8 (by kernel_rfl) (by omega)
      have e1 := kn.slot 5 11 (by kernel_rfl) (by omega)
      have e2 := kn.slot 8 14 (by kernel_rfl) (by omega)
      have d2 := kn.dep 2 (by kernel_rfl)
      have d5 := kn.dep 5 (by kernel_rfl)
      have d8 := kn.dep 8 (by kernel_rfl)
      obtain ⟨x1, x2, x3, x4, x5, x6⟩ := kn.ext
      obtain ⟨A2, c2, y2, -⟩ := x2 d2
      obtain ⟨A5, c5, y5, -⟩ := x3 d5
      obtain ⟨A8, c8, y8, -⟩ := x4 d8
      have z2 := x2 d2
      have z5 := x3 d5
      have z8 := x4 d8
      rw [y2] at e0
      rw [y5] at e1
      rw [y8] at e2
      refine ⟨.agg #[.slice A2 kl.length c2, .slice A5 n c5, .slice A8 n c8, .slice none 0 0], w, by simp [execOp, kn.rho.con, e0, e1, e2, go_sem], (fun c h => by injection h with h; cases h), x1, fun h => by rw [upd_ne u _ (by omega)]; exact z2, fun h => by rw [upd_ne u _ (by omega)]; exact z5, fun h => by rw [upd_ne u _ (by omega)]; exact z8, fun _ => ⟨⟨by rw [updB_ne D (by omega)]; exact d2, by rw [updB_ne D (by omega)]; exact d5, by rw [updB_ne D (by omega)]; exact d8⟩, by rw [upd_at, upd_ne u _ (by omega), upd_ne u _ (by omega), upd_ne u _ (by omega), y2, y5, y8]⟩, fun h => by rw [updB_ne D (by omega)] at h; rw [upd_ne u _ (by omega)]; exact x6 h⟩
    · refine gd_eff (by kernel_rfl) (Want.none_ rfl) (fun D u ρ w kn hD => ?_)
      obtain ⟨x1, x2, x3, x4, x5, x6⟩ := kn.ext
      have hg : w.grownBy (w.alloc (.cells #[.slice none 0 0, .slice none 0 0, .slice none 0 0, .slice none 0 0] 69)) none := World.grownBy_alloc w _ none
      exact ⟨.pointer (some ⟨w.heap.size, 0, none⟩), w.alloc (.cells #[.slice none 0 0, .slice none 0 0, .slice none 0 0, .slice none 0 0] 69), alloc_part ρ w, (fun c h => by injection h with h; cases h), only_trans x1 hg, fun h => by rw [updB_ne D (by omega)] at h; rw [upd_ne u _ (by omega)]; exact (x2 h).grown hg, fun h => by rw [updB_ne D (by omega)] at h; rw [upd_ne u _ (by omega)]; exact (x3 h).grown hg, fun h => by rw [updB_ne D (by omega)] at h; rw [upd_ne u _ (by omega)]; exact (x4 h).grown hg, fun h => by rw [updB_ne D (by omega)] at h; rw [updB_ne D (by omega), updB_ne D (by omega), updB_ne D (by omega), upd_ne u _ (by omega), upd_ne u _ (by omega), upd_ne u _ (by omega), upd_ne u _ (by omega)]; exact x5 h, fun _ => ⟨w.heap.size, by rw [upd_at], x1.size, Blk.new _ _ _⟩⟩
  · intro D u w3 hJ hD
    obtain ⟨hc, x1, x2, x3, x4, x5, x6⟩ := hJ
    obtain ⟨AK, cK, e2, hk1, hk2, hk3⟩ := x2 (hD 2 (by omega))
    obtain ⟨AT, cT, e5, ht1, ht2, ht3⟩ := x3 (hD 5 (by omega))
    obtain ⟨AS, cS, e8, hs1, hs2, hs3⟩ := x4 (hD 8 (by omega))
    obtain ⟨-, e9⟩ := x5 (hD 9 (by omega))
    obtain ⟨pb, e10, hpb, hB⟩ := x6 (hD 10 (by omega))
    rw [e2, e5, e8] at e9
    simp only [List.take_succ_cons, List.take_zero, List.drop_succ_cons, List.drop_zero, putAll]
    rw [e9, e10]
    have c0 := hB.cell 0; have c1 := hB.cell 1; have c2 := hB.cell 2; have c3 := hB.cell 3
    have f0 := hB.frozen 0; have f1 := hB.frozen 1; have f2 := hB.frozen 2; have f3 := hB.frozen 3
    simp at c0 c1 c2 c3
    obtain ⟨W4, hW4⟩ : ∃ W, W = (((w3.setCell ⟨pb, 0, none⟩ (.slice AK kl.length cK)).setCell ⟨pb, 1, none⟩ (.slice AT n cT)).setCell ⟨pb, 2, none⟩ (.slice AS n cS)).setCell ⟨pb, 3, none⟩ (.slice none 0 0) := ⟨_, rfl⟩
    have hS : W4 = set4 w3 pb (.slice AK kl.length cK) (.slice AT n cT) (.slice AS n cS) (.slice none 0 0) := hW4
    have hB4 : Blk W4 pb 69 #[.slice AK kl.length cK, .slice AT n cT, .slice AS n cS, .slice none 0 0] := by rw [hS]; exact set4_blk hB
    have hg4 : w3.grownBy W4 (some pb) := by rw [hS]; exact set4_only
    have PR4 := Lib.hid ((BP.out.grown x1 (by simp)).grown hg4 (by intro e; injection e; omega))
    have RB4 := Lib.hid ((BR.out.grown x1 (by simp)).grown hg4 (by intro e; injection e; omega))
    have G4 : Hid (W.grownBy W4 none) := Lib.hid (only_fresh x1 hg4 hpb)
    have hpbl := hB4.lt
    have nT : Value.ownBlock (.slice AT n cT) ≠ some pb := blk_norow hB ht3 (by decide)
    have nS : Value.ownBlock (.slice AS n cS) ≠ some pb := blk_norow hB hs3 (by decide)
    have nK : Value.ownBlock (.slice AK kl.length cK) ≠ some pb := blk_norow hB hk3 (by decide)
    have RK4 : Hid (Rd (fun b => W.heap.size ≤ b ∧ b ≠ pb) W4 AK (kl.map .string)) := Lib.hid ((rd_notB hk3 nK).grown hg4 (by intro b hb e; injection e with e; exact hb.2 e))
    have RT4 : Hid (Rd (fun b => W.heap.size ≤ b ∧ b ≠ pb) W4 AT TS) := Lib.hid ((rd_notB ht3 nT).grown hg4 (by intro b hb e; injection e with e; exact hb.2 e))
    have RS4 : Hid (Rd (fun b => W.heap.size ≤ b ∧ b ≠ pb) W4 AS SS) := Lib.hid ((rd_notB hs3 nS).grown hg4 (by intro b hb e; injection e with e; exact hb.2 e))
    have HB4 := Lib.hid hB4
    have HK := Lib.hid (⟨hk1, hk2⟩ : kl.length ≤ cK ∧ cK ≤ maxLen)
    have HT := Lib.hid (⟨ht1, ht2⟩ : n ≤ cT ∧ cT ≤ maxLen)
    have HS := Lib.hid (⟨hs1, hs2⟩ : n ≤ cS ∧ cS ≤ maxLen)
    have HPBG := Lib.hid hpb
    have q3 := PR4.out.cell 3
    simp at q3
    go_upto_region 2 with fail
    rw [← hW4]
    clear hc hD x1 x2 x3 x4 x5 x6 e2 e5 e8 e9 e10 hk1 hk2 hk3 ht1 ht2 ht3 hs1 hs2 hs3 hB hB4 hg4 hS hW4 c0 c1 c2 c3 f0 f1 f2 f3 nT nS nK p0 p1 p2 p3 BP BR KT KS
    go_wp2_with fail
    go_loopw [19] (fun i wr => ∃ (k : Nat) (vs : List StrR) (vV : Value), i = .int .i64 k ∧ k ≤ n ∧ vs.map StrR.l = (cs.take k).map (fun c => c.v.l) ∧ wr.ownsRow W.heap.size 24 1 vV vs.length (vs.map StrR.val) ∧ Blk wr pb 69 #[.slice AK kl.length cK, .slice AT n cT, .slice AS n cS, vV] ∧ (∀ s ∈ vs, s.In (fun b => W.heap.size ≤ b ∧ b ≠ pb ∧ Value.ownBlock vV ≠ some b) wr) ∧
      Rd (fun b => W.heap.size ≤ b ∧ b ≠ pb ∧ Value.ownBlock vV ≠ some b) wr AK (kl.map .string) ∧ Rd (fun b => W.heap.size ≤ b ∧ b ≠ pb ∧ Value.ownBlock vV ≠ some b) wr AT TS ∧ Rd (fun b => W.heap.size ≤ b ∧ b ≠ pb ∧ Value.ownBlock vV ≠ some b) wr AS SS ∧ Blk wr rb 69 #[.slice none 0 0, .slice none 0 0, .slice none 0 0, .slice none 0 0] ∧ W.grownBy wr none) (fun i _ => n - (intOf i).toNat)
    case atStart => exact ⟨0, [], .slice none 0 0, rfl, Nat.zero_le _, rfl, World.ownsRow_nil _ _ _ _, HB4.out, by simp, RK4.out.mono (fun b hb _ => ⟨hb.1, hb.2, by simp [Value.ownBlock]⟩), RT4.out.mono (fun b hb _ => ⟨hb.1, hb.2, by simp [Value.ownBlock]⟩), RS4.out.mono (fun b hb _ => ⟨hb.1, hb.2, by simp [Value.ownBlock]⟩), RB4.out, G4.out⟩
    case round =>
      obtain ⟨k, vs, vV, rfl, hk, hvs, hO, hBB, hin, hrk, hrt, hrs, hRB, hG⟩ := hrel
      have hvl : vs.length ≤ 1000 := by
        have := congrArg List.length hvs
        rw [List.length_map, List.length_map, List.length_take] at this
        omega
      have VS := Lib.hid hvs
      have OO := Lib.hid hO
      have BB := Lib.hid hBB
      have IN := Lib.hid hin
      have RK := Lib.hid hrk
      have RT := Lib.hid hrt
      have RS := Lib.hid hrs
      have RB := Lib.hid hRB
      have G := Lib.hid hG
      have hsz := hG.size
      have hpw := hBB.lt
      clear RK4 RT4 RS4 RB4 HB4 G4 q3 PR4 hvs hO hBB hin hrk hrt hrs hRB hG
      by_cases hlt : k < n
      · obtain ⟨x, hx⟩ : ∃ x, cs[k]? = some x := ⟨_, List.getElem?_eq_getElem (by rw [← HN.out]; exact hlt)⟩
        obtain ⟨bV, oV, eV, lV, cV⟩ := (HV.out.grown (only_trans GW.out G.out) (by simp)).one (vOf_at hx)
        have hxv := HPV.out x (List.mem_of_getElem? hx)
        have hxi := HVI.out x (List.mem_of_getElem? hx)
        have HNX : Hid ((cs.take (k + 1)).map (fun c => c.v.l) = (cs.take k).map (fun c => c.v.l) ++ [x.v.l]) := Lib.hid (by
          obtain ⟨h1, e⟩ := List.getElem?_eq_some_iff.1 hx
          rw [List.take_succ_eq_append_getElem h1, e]; simp)
        have KV : Hid (∀ w', wr.grownBy w' none → Calls Tryz.prog 35 #[.slice x.v.a x.v.l.length x.v.c] w' (CloneSPost w' x.v.l.length (x.v.l.map .string))) := Lib.hid (fun w' hg => cloneS_any _ _ _ (x.v.l.map .string) w' (hxi.1.grown (only_trans GW.out (only_trans G.out hg)) (by simp)) (by simp) (by omega) (by intro u hu; obtain ⟨s, -, rfl⟩ := List.mem_map.1 hu; rfl) hxi.2.2.2)
        subst eV
        simp only [StrR.val] at cV
        have i1 : (k : Int) < (n : Int) := by omega
        obtain ⟨xl, hxl⟩ : ∃ xl, xl = x.v.l := ⟨_, rfl⟩
        obtain ⟨xA, hxA⟩ : ∃ xA, xA = x.v.a := ⟨_, rfl⟩
        obtain ⟨xC, hxC⟩ : ∃ xC, xC = x.v.c := ⟨_, rfl⟩
        rw [← hxl] at HNX
        rw [← hxl, ← hxA, ← hxC] at cV KV
        clear hx hxv hxi hxl hxA hxC
        obtain ⟨AV, cVV, rfl, -, -, -, -⟩ := Rd.of_own OO.out (by decide)
        go_upto_region 5 with fail
        have q3 := BB.out.cell 3
        simp at q3
        have GD := Lib.hid (only_drew (only_refl wr none))
        go_region_law (first
          | (have htok := tok1; go_must (refine step_append1 rfl _ _ 67 rfl W.heap.size Tryz.underlying67 strsInfo37 rfl (by decide) (v := .slice AV vs.length cVV) (by rfl) (w0 := w5) (cs := #[.slice A5 xl.length c5]) (by rfl) (by rfl) (by rfl) (by rfl) O5.out (by rfl) rfl (by simp [Value.oneCell']) (by decide) (by omega) (by omega) ?_); intro v7 w7 hown7 hg7 hob7; obtain ⟨A7, c7, rfl, -, -, -, -⟩ := Rd.of_own hown7 (by decide); have B7 := Lib.hid (B5.out.grown hg7 (fun e => blk_norow B5.out O5.out (by decide) e.symm)); clear q3; have q3 := B7.out.cell 3; have f3 := B7.out.frozen 3; simp at q3)
          | (go_simp; go_at_call 35; go_must (with_reducible (refine (KV.out _ GD.out).mono ?_)); rintro e w5 ⟨A5, c5, rfl, ho5, hg5⟩; have G5 := Lib.hid (only_trans GD.out hg5); have O5 := Lib.hid (own_ext OO.out G5.out); have C5 := Lib.hid ho5; have hz5 : wr.heap.size ≤ w5.heap.size := G5.out.size; clear q3 ho5 hg5; have B5 := Lib.hid (BB.out.grown G5.out (by simp)); have q3 := B5.out.cell 3; simp at q3; have hp5 : pb < w5.heap.size := B5.out.lt; have hpn5 : pb ≠ w5.heap.size := Nat.ne_of_lt hp5; have tok1 := trivial))
        all_goals
          obtain ⟨W8, hW8⟩ : ∃ W, W = w7.setCell ⟨pb, 3, none⟩ (.slice A7 (vs.length + 1) c7) := ⟨_, rfl⟩
          have hg8 : w7.grownBy W8 (some pb) := by rw [hW8]; exact only_setCell (only_refl _ _) (.inl rfl) _
          have B8 : Hid (Blk W8 pb 69 #[.slice AK kl.length cK, .slice AT n cT, .slice AS n cS, .slice A7 (vs.length + 1) c7]) := Lib.hid (by rw [hW8]; simpa using B7.out.set_ 3 (.slice A7 (vs.length + 1) c7))
          have O8 : Hid (W8.ownsRow W.heap.size 24 1 (.slice A7 (vs ++ [(⟨xl, A5, c5⟩ : StrR)]).length c7) (vs ++ [(⟨xl, A5, c5⟩ : StrR)]).length ((vs ++ [(⟨xl, A5, c5⟩ : StrR)]).map StrR.val)) := Lib.hid (by
            have := own_off hown7 hg8 (blk_norow B7.out hown7 (by decide))
            simpa [StrR.val] using this)
          have FR : Hid (FrN (fun i => i = pb ∨ Value.ownBlock (.slice AV vs.length cVV) = some i) wr W8) := Lib.hid (((fr_of_none G5.out).grow hg7 (fun g hg => .inl (.inr hg))).grow hg8 (fun g hg => .inl (.inl (by injection hg with hg; exact hg.symm))))
          have NW : Hid (∀ g, Value.ownBlock (.slice A7 (vs.length + 1) c7) = some g → Value.ownBlock (.slice AV vs.length cVV) = some g ∨ w5.heap.size < g) := Lib.hid (fun g hg => by
            rcases hob7 with h | h
            · exact .inl (h.symm.trans hg)
            · rw [h] at hg; injection hg with hg; exact .inr (by omega))
          have KP : Hid (∀ b, (W.heap.size ≤ b ∧ b ≠ pb ∧ Value.ownBlock (.slice AV vs.length cVV) ≠ some b) → b < w5.heap.size → (W.heap.size ≤ b ∧ b ≠ pb ∧ Value.ownBlock (.slice A7 (vs.length + 1) c7) ≠ some b)) := Lib.hid (fun b hb hlt => ⟨hb.1, hb.2.1, fun e => by rcases NW.out b e with h | h; exact hb.2.2 h; omega⟩)
          have KR : Hid (∀ (A : Option Addr) (xs : List Value), Rd (fun b => W.heap.size ≤ b ∧ b ≠ pb ∧ Value.ownBlock (.slice AV vs.length cVV) ≠ some b) wr A xs → Rd (fun b => W.heap.size ≤ b ∧ b ≠ pb ∧ Value.ownBlock (.slice A7 (vs.length + 1) c7) ≠ some b) W8 A xs) := Lib.hid (fun A xs h =>
            (FR.out.rd (h.mono (S' := fun b => (W.heap.size ≤ b ∧ b ≠ pb ∧ Value.ownBlock (.slice AV vs.length cVV) ≠ some b) ∧ b < wr.heap.size) (fun b hb hlt => ⟨hb, hlt⟩)) (fun b hb hB => by rcases hB with h | h; exact hb.1.2.1 h; exact hb.1.2.2 h)).mono (fun b hb _ => KP.out b hb.1 (by omega)))
          have N5 : Hid ((StrR.mk xl A5 c5).In (fun b => W.heap.size ≤ b ∧ b ≠ pb ∧ Value.ownBlock (.slice A7 (vs.length + 1) c7) ≠ some b) W8) := Lib.hid (by
            obtain ⟨A', c', e1, y1, y2, -, -⟩ := Rd.of_own C5.out (by decide)
            injection e1 with e1 e2 e3
            subst e1 e3
            have r5 := rd_ownG C5.out
            have F5 : FrN (fun i => i = pb ∨ Value.ownBlock (.slice AV vs.length cVV) = some i) w5 W8 := ((FrN.refl _ w5).grow hg7 (fun g hg => .inl (.inr hg))).grow hg8 (fun g hg => .inl (.inl (by injection hg with hg; exact hg.symm)))
            have r6 := r5.mono (S' := fun b => wr.heap.size ≤ b ∧ b < w5.heap.size) (fun b hb hlt => ⟨hb, hlt⟩)
            refine strR_of ((F5.rd r6 (fun b hb hB => ?_)).mono (fun b hb _ => ?_)) y1 y2
            · rcases hB with h | h
              · have := hb.1; omega
              · have := (OO.out.lt b h).2; have := hb.1; omega
            · refine ⟨by have := hb.1; omega, by have := hb.1; omega, fun e => ?_⟩
              rcases NW.out b e with h | h
              · have := (OO.out.lt b h).2; have := hb.1; omega
              · have := hb.2; omega)
          have IN8 : Hid (∀ s ∈ vs ++ [(⟨xl, A5, c5⟩ : StrR)], s.In (fun b => W.heap.size ≤ b ∧ b ≠ pb ∧ Value.ownBlock (.slice A7 (vs.length + 1) c7) ≠ some b) W8) := Lib.hid (mem_snoc (fun s hs => ⟨KR.out _ _ (IN.out s hs).1, (IN.out s hs).2⟩) N5.out)
          have RK8 := Lib.hid (KR.out _ _ RK.out)
          have RT8 := Lib.hid (KR.out _ _ RT.out)
          have RS8 := Lib.hid (KR.out _ _ RS.out)
          have RB8 := Lib.hid (FR.out.blk RB.out (fun hB => by rcases hB with h | h; have := HPBG.out; omega; have := (OO.out.lt _ h).1; omega))
          have G8 : Hid (W.grownBy W8 none) := Lib.hid (FR.out.none_ G.out (fun i hi => by rcases hi with h | h; have := HPBG.out; omega; exact (OO.out.lt _ h).1))
          have VS8 : Hid ((vs ++ [(⟨xl, A5, c5⟩ : StrR)]).map StrR.l = (cs.take (k + 1)).map (fun c => c.v.l)) := Lib.hid (by rw [HNX.out, List.map_append, VS.out]; rfl)
          have hll : (vs ++ [(⟨xl, A5, c5⟩ : StrR)]).length = vs.length + 1 := by simp
          rw [hll] at O8
          rw [← hW8]
          clear hW8 hg8 hown7 hg7 hob7 FR NW KP KR N5 B5 B7 O5 C5 G5 GD KV HNX q3 f3 cV OO BB IN RK RT RS RB G VS
          go_wp2_with fail
          go_roundw
          case rel => exact ⟨k + 1, vs ++ [(⟨xl, A5, c5⟩ : StrR)], .slice A7 (vs.length + 1) c7, by go_num, by omega, VS8.out, by rw [hll]; exact O8.out, B8.out, IN8.out, RK8.out, RT8.out, RS8.out, RB8.out, G8.out⟩
          case measure => simp [intOf]; omega
      · have i1 : ¬ (k : Int) < (n : Int) := by omega
        obtain ⟨AV, cVV, rfl, hv1, hv2, -, hv3⟩ := Rd.of_own OO.out (by decide)
        have p0 := BB.out.cell 0; have p1 := BB.out.cell 1; have p2 := BB.out.cell 2; have p3 := BB.out.cell 3
        have r0 := RB.out.cell 0; have r1 := RB.out.cell 1; have r2 := RB.out.cell 2; have r3 := RB.out.cell 3
        have f0 := RB.out.frozen 0; have f1 := RB.out.frozen 1; have f2 := RB.out.frozen 2; have f3 := RB.out.frozen 3
        simp at p0 p1 p2 p3 r0 r1 r2 r3
        have HV1 := Lib.hid (⟨hv1, hv2⟩ : vs.length ≤ cVV ∧ cVV ≤ maxLen)
        have HV3 := Lib.hid hv3
        have VL : Hid (vs.map StrR.l = cs.map (fun c => c.v.l)) := Lib.hid (by rw [VS.out, List.take_of_length_le (by have := HN.out; omega)])
        clear hv1 hv2 hv3
        go_wp2_with fail
        have hB9 := set4_blk (x := .slice AK kl.length cK) (y := .slice AT n cT) (z := .slice AS n cS) (u := .slice AV vs.length cVV) RB.out
        have q0 := hB9.cell 0; have q1 := hB9.cell 1; have q2 := hB9.cell 2; have q3' := hB9.cell 3
        simp [set4] at q0 q1 q2 q3'
        obtain ⟨cs', l1, l2, l3, l4, l5⟩ := cells_of cs vs VL.out
        have hcl' : cs'.length = n := by rw [l1, HN.out]
        have hvl' : vs.length = n := by have := congrArg List.length VL.out; rw [List.length_map, List.length_map] at this; rw [this, HN.out]
        exact bodyPost_ret (v := .agg #[.slice AK kl.length cK, .slice AT n cT, .slice AS n cS, .slice AV vs.length cVV]) (by simp [results, Tryz.results29, go_sem, q0, q1, q2, q3']) rfl
          ⟨⟨⟨kl, AK, cK⟩, cs', AT, cT, AS, cS, AV, cVV⟩, by rw [hcl', hvl'], by rw [HCS.out]; unfold PD.pl; rw [l5], by
            have key : PD.Sub (W.heap.size ≤ ·) wr ⟨⟨kl, AK, cK⟩, cs', AT, cT, AS, cS, AV, cVV⟩ := by
              refine ⟨strR_of (RK.out.mono (fun b hb _ => hb.1)) HK.out.1 HK.out.2, ?_, ?_, ?_, ?_, by rw [hcl']; exact HT.out.1, HT.out.2, by rw [hcl']; exact HS.out.1, HS.out.2, by rw [hcl', ← hvl']; exact HV1.out.1, HV1.out.2, ?_, ?_⟩
              · show Rd _ _ AT (tOf cs'); rw [l2, ← HTS.out]; exact RT.out.mono (fun b hb _ => hb.1)
              · show Rd _ _ AS (sOf cs'); rw [l3, ← HSS.out]; exact RS.out.mono (fun b hb _ => hb.1)
              · show Rd _ _ AV (vOf cs'); rw [l4.1]; exact HV3.out
              · intro c hc; obtain ⟨s, hs, e⟩ := l4.2 c hc; rw [e]; exact (IN.out s hs).mono (fun b hb _ => hb.1)
              · intro e
                have e' : AT = none := e
                have h0 := RT.out
                rw [e'] at h0
                have := rd_none h0
                rw [HTS.out, tOf_len] at this
                rw [hcl', HN.out]; exact this
              · intro e
                have e' : AS = none := e
                have h0 := RS.out
                rw [e'] at h0
                have := rd_none h0
                rw [HSS.out, sOf_len] at this
                rw [hcl', HN.out]; exact this
            exact (key.grown set4_only (by intro b hb e; have hq : W.heap.size ≤ b := hb; injection e; omega)).mono (fun b hb _ => by have hq : W.heap.size ≤ b := hb; have := GW.out.size; show w.heap.size ≤ b; omega), only_fresh (only_trans GW.out G.out) set4_only (by have := HRB.out; omega)⟩
end Go.Proofs.YtfkgcighooijhaaGreatDoor

namespace Go.Proofs.YtfkgcighooijhaaGreatDoor
open Go.RowKit
set_option linter.unusedVariables false
set_option linter.unusedSimpArgs false

def EmptyPa (w : World) (e : Ending) (w' : World) : Prop := ∃ v, e = .returned v ∧ w'.ownsRow w.heap.size 69 4 v 0 [] ∧ w.grownBy w' none
set_option maxHeartbeats 2000000 in
set_option maxRecDepth 100000 in
theorem growPa (n : Nat) (w : World) (hn : n ≤ 1000000) : Calls Tryz.prog 54 #[.slice none 0 0, .int .i64 n] w (EmptyPa w) := by
  by_cases h0 : n = 0
  · subst h0
    go_enter Tryz.func54, Tryz.ntmps54
    go_wp2_with fail
    go_ret
    exact ⟨_, rfl, World.ownsRow_nil _ _ _ _, only_refl _ _⟩
  · obtain ⟨i0, hi0, hz0, hz1, hz2⟩ := info_parts partInfo
    obtain ⟨G, hG⟩ : ∃ G, G = grownCap w n 0 69 := ⟨_, rfl⟩
    have hGn : n ≤ G := by rw [hG]; exact grownCap_ge w _ _ _
    have hGm : G ≤ maxLen := by rw [hG]; exact grownCap_le_maxLen w _ _ _ (by unfold maxLen; omega)
    obtain ⟨ROW, hROW⟩ : ∃ ROW : Array Value, ROW = Builtin.zeroCells (.agg #[.slice none 0 0, .slice none 0 0, .slice none 0 0, .slice none 0 0] : Value).cells n ++ Builtin.zeroCells (.agg #[.slice none 0 0, .slice none 0 0, .slice none 0 0, .slice none 0 0] : Value).cells (G - n) := ⟨_, rfl⟩
    have hRl : ROW.size = G * 4 := by
      rw [hROW]
      simp [Builtin.zeroCells, Value.cells]
      omega
    obtain ⟨W1, hW1⟩ : ∃ W1, W1 = w.drew.alloc (.cells ROW 69) := ⟨_, rfl⟩
    obtain ⟨g1, hg1⟩ : ∃ g1, g1 = w.heap.size := ⟨_, rfl⟩
    have hr : ∀ ty, (Builtin.append_ #[36, 3] ty #[.slice none 0 0, .int .i64 n]).run Tryz.prog w = .ok (.slice (some ⟨g1, 0, none⟩) n G) W1 := fun ty => by
      have := Lib.run_append_nil_zeros w 36 3 ty 69 i0 (.agg #[.slice none 0 0, .slice none 0 0, .slice none 0 0, .slice none 0 0]) .i64 .i64 Tryz.underlying36 Tryz.underlying3 hi0 hz0 n (by omega) (by rw [hz1]; decide) (by omega) (by rw [hz2]; omega)
      rw [← hG] at this
      rw [hW1, hROW, hg1]; exact this
    have HF : Hid (EmptyPa w (.returned (.slice (some ⟨g1, 0, none⟩) 0 G)) W1) := Lib.hid (by
      refine ⟨_, rfl, ?_, ?_⟩
      · rw [hW1, hg1]
        have := World.ownsRow_made w.drew (base := w.heap.size) (e := 69) ROW G (Nat.le_refl _) hGm hRl
        exact this
      · rw [hW1]; exact only_alloc (only_drew (only_refl _ _)) _)
    have j0 : (0 : Int) < (n : Int) := by omega
    have j1 : (0 : Int) ≤ (n : Int) := by omega
    have hw0 : IntKind.i64.wrap (n : Int) = (n : Int) := IntWalk.i64_in _ (by omega)
    have j2 : ¬ ((n : Int) < 0) := by omega
    clear hW1 hg1 hG hROW hRl hi0 hz0 hz1 hz2 hGm h0
    go_enter Tryz.func54, Tryz.ntmps54
    go_wp2_with (at_builtin; refine Lib.wpList_append_run _ rfl _ _ _ _ rfl _ _ rfl rfl _ _ (hr _) ?_)
    go_ret
    exact HF.out
/-- a row at hand -/
structure RwPa where
  A : Option Addr
  n : Nat
  l : List Value
  c : Nat
def RwPa.v (r : RwPa) : Value := .slice r.A r.n r.c
def catPa (rs : List RwPa) : List Value := rs.flatMap (·.l)
def numPa (rs : List RwPa) : Nat := (rs.map (·.n)).sum
theorem catPa_snoc (rs : List RwPa) (r : RwPa) : catPa (rs ++ [r]) = catPa rs ++ r.l := by unfold catPa; rw [List.flatMap_append]; simp
theorem numPa_snoc (rs : List RwPa) (r : RwPa) : numPa (rs ++ [r]) = numPa rs + r.n := by unfold numPa; simp
theorem numPa_le {rs : List RwPa} {m : Nat} (h : ∀ r ∈ rs, r.n ≤ m) : numPa rs ≤ rs.length * m := by
  unfold numPa
  induction rs with
  | nil => simp
  | cons a t ih =>
    have h1 := h a List.mem_cons_self
    have h2 := ih (fun r hr => h r (List.mem_cons_of_mem _ hr))
    rw [List.map_cons, List.sum_cons, List.length_cons, Nat.add_mul]; omega
def CatPaPost (w : World) (n : Nat) (xs : List Value) (e : Ending) (w' : World) : Prop := ∃ v, e = .returned v ∧ w'.ownsRow w.heap.size 69 4 v n xs ∧ w.grownBy w' none
set_option maxHeartbeats 4000000 in
set_option maxRecDepth 100000 in
theorem concatPa_any {S : Nat → Prop} (vb : Nat) (rs : List RwPa) (w : World) (hB : Blk w vb 36 (rs.map RwPa.v).toArray) (hr : ∀ r ∈ rs, Rd S w r.A r.l) (hz : ∀ r ∈ rs, r.l.length = r.n * 4) (h1 : ∀ r ∈ rs, ∀ u ∈ r.l, u.oneCell' = true) (hn : rs.length ≤ 10) (hl : ∀ r ∈ rs, r.n ≤ 100000) :
    Calls Tryz.prog 31 #[.slice (some ⟨vb, 0, none⟩) rs.length rs.length] w (CatPaPost w (numPa rs) (catPa rs)) := by
  have HB := Lib.hid hB
  have HR := Lib.hid hr
  have HL := Lib.hid hl
  have HZ := Lib.hid hz
  have H1 := Lib.hid h1
  clear hB hr hl hz h1
  go_enter Tryz.func31, Tryz.ntmps31
  go_wp2_with fail
  go_loop [3, 11] (fun n i => ∃ k : Nat, k ≤ rs.length ∧ i = .int .i64 k ∧ n = .int .i64 (numPa (rs.take k) : Nat)) (fun _ i => rs.length - (intOf i).toNat)
  case atStart => exact ⟨0, Nat.zero_le _, rfl, rfl⟩
  case round =>
    obtain ⟨k, hk, rfl, rfl⟩ := hrel
    have hcl : numPa (rs.take k) ≤ 1000000 := by
      have := numPa_le (rs := rs.take k) (m := 100000) (fun r hr => HL.out r (List.mem_of_mem_take hr))
      rw [List.length_take] at this
      have h2 : min k rs.length * 100000 ≤ 10 * 100000 := Nat.mul_le_mul_right _ (by omega)
      omega
    obtain ⟨n, hn0⟩ : ∃ n, n = numPa (rs.take k) := ⟨_, rfl⟩
    rw [← hn0] at hcl ⊢
    have HN := Lib.hid hn0
    clear hn0
    by_cases hlt : k < rs.length
    · obtain ⟨r, hrk⟩ : ∃ r, rs[k]? = some r := ⟨_, List.getElem?_eq_getElem hlt⟩
      have c0 := HB.out.cell k
      have hrk2 : (rs.map RwPa.v).toArray[k]? = some (.slice r.A r.n r.c) := by simp [hrk, RwPa.v]
      rw [hrk2] at c0
      have hrl := HL.out r (List.mem_of_getElem? hrk)
      have HT : Hid (numPa (rs.take (k + 1)) = n + r.n) := Lib.hid (by
        have e : rs.take (k + 1) = rs.take k ++ [r] := by
          rw [List.take_succ_eq_append_getElem hlt]
          rw [List.getElem?_eq_getElem hlt] at hrk
          injection hrk with hrk
          rw [hrk]
        rw [e, numPa_snoc, HN.out])
      have i1 : (k : Int) < (rs.length : Int) := by omega
      have i2 : ¬ ((n : Int) + (r.n : Int) < 0) := by omega
      have hw0 : IntKind.i64.wrap ((n : Int) + (r.n : Int)) = (n : Int) + (r.n : Int) := IntWalk.i64_in _ (by omega)
      clear hrk hrk2
      go_wp2_with fail
      go_round
      case rel => exact ⟨k + 1, by omega, by go_num, by rw [HT.out]; push_cast; rfl⟩
      case measure => simp [intOf]; omega
    · have HE : Hid (rs.take k = rs) := Lib.hid (List.take_of_length_le (by omega))
      have KG := Lib.hid (growPa n w (by omega))
      go_wp2_with fail
      refine KG.out.mono ?_
      rintro e w1 ⟨v1, rfl, ho1, hg1⟩
      have O1 := Lib.hid ho1
      have G1 := Lib.hid hg1
      clear ho1 hg1 KG
      go_wp2_with fail
      go_loopw [6, 27] (fun v i wr => ∃ k : Nat, k ≤ rs.length ∧ i = .int .i64 k ∧ wr.ownsRow w.heap.size 69 4 v (numPa (rs.take k)) (catPa (rs.take k)) ∧ w.grownBy wr none) (fun _ i _ => rs.length - (intOf i).toNat)
      case atStart => exact ⟨0, Nat.zero_le _, rfl, O1.out, G1.out⟩
      case round =>
        clear O1 G1
        obtain ⟨k, hk, rfl, hO, hG⟩ := hrel
        have O := Lib.hid hO
        have G := Lib.hid hG
        have hsz := hG.size
        clear hO hG
        have hcl2 : numPa (rs.take k) ≤ 1000000 := by
          have := numPa_le (rs := rs.take k) (m := 100000) (fun r hr => HL.out r (List.mem_of_mem_take hr))
          rw [List.length_take] at this
          have h2 : min k rs.length * 100000 ≤ 10 * 100000 := Nat.mul_le_mul_right _ (by omega)
          omega
        by_cases hlt : k < rs.length
        · obtain ⟨r, hrk⟩ : ∃ r, rs[k]? = some r := ⟨_, List.getElem?_eq_getElem hlt⟩
          have c0 := (HB.out.grown G.out (by simp)).cell k
          have hrk2 : (rs.map RwPa.v).toArray[k]? = some (.slice r.A r.n r.c) := by simp [hrk, RwPa.v]
          rw [hrk2] at c0
          have hrl := HL.out r (List.mem_of_getElem? hrk)
          have RR := Lib.hid ((HR.out r (List.mem_of_getElem? hrk)).grown G.out (by simp))
          have RZ := Lib.hid (HZ.out r (List.mem_of_getElem? hrk))
          have R1 := Lib.hid (H1.out r (List.mem_of_getElem? hrk))
          have HT : Hid (catPa (rs.take (k + 1)) = catPa (rs.take k) ++ r.l ∧ numPa (rs.take (k + 1)) = numPa (rs.take k) + r.n) := Lib.hid (by
            have e : rs.take (k + 1) = rs.take k ++ [r] := by
              rw [List.take_succ_eq_append_getElem hlt]
              rw [List.getElem?_eq_getElem hlt] at hrk
              injection hrk with hrk
              rw [hrk]
            exact ⟨by rw [e, catPa_snoc], by rw [e, numPa_snoc]⟩)
          have i1 : (k : Int) < (rs.length : Int) := by omega
          obtain ⟨L, hL⟩ : ∃ L, L = catPa (rs.take k) := ⟨_, rfl⟩
          obtain ⟨M, hM⟩ : ∃ M, M = numPa (rs.take k) := ⟨_, rfl⟩
          have O2 : Hid (wr.ownsRow w.heap.size 69 4 u6 M L) := Lib.hid (by rw [hL, hM]; exact O.out)
          rw [← hM] at hcl2
          rw [← hL, ← hM] at HT
          clear hrk hrk2 hL hM O
          go_wp2_with (at_builtin; refine wpList_appendN rfl _ _ 36 rfl w.heap.size Tryz.underlying36 partInfo rfl (by decide) (v := _) (by rfl) O2.out r.A r.n r.c (news := r.l) (by rfl) RR.out RZ.out R1.out (by decide) (by omega) (by omega) ?_; intro v7 w7 hown7 hg7 hob7)
          have O7 : Hid (w7.ownsRow w.heap.size 69 4 v7 (numPa (rs.take (k + 1))) (catPa (rs.take (k + 1)))) := Lib.hid (by rw [HT.out.1, HT.out.2]; exact hown7)
          have G7 : Hid (w.grownBy w7 none) := Lib.hid (only_own G.out hg7 O2.out (Nat.le_refl _))
          clear hown7 hg7 hob7 c0
          go_wp2_with fail
          go_roundw
          case rel => exact ⟨k + 1, by omega, by go_num, O7.out, G7.out⟩
          case measure => simp [intOf]; omega
        · have HE2 : Hid (rs.take k = rs) := Lib.hid (List.take_of_length_le (by omega))
          go_wp2_with fail
          go_ret
          have := O.out
          rw [HE2.out] at this
          exact ⟨_, rfl, this, G.out⟩
end Go.Proofs.YtfkgcighooijhaaGreatDoor

namespace Go.Proofs.YtfkgcighooijhaaGreatDoor
open Go.RowKit
set_option linter.unusedVariables false
set_option linter.unusedSimpArgs false
theorem Rd.dropG {S : Nat → Prop} {w : World} {b off : Nat} {xs : List Value} (h : Rd S w (some ⟨b, off, none⟩) xs) (m : Nat) : Rd S w (some ⟨b, off + m, none⟩) (xs.drop m) := by
  have := h.drop m
  have hadd : (⟨b, off, none⟩ : Addr).add m = ⟨b, off + m, none⟩ := by unfold Addr.add; split <;> simp_all
  rw [Option.map_some, hadd] at this
  exact this
def tailG (off z c : Nat) : Nat := if c = 1 then off else off + z
theorem run_tailG (ρ : Operand → Value) (w : World) {o : Oper} {t e : TypeId} {z x b off n c : Nat} (ho : o.op = .slice t (.tmp x) (some (.const (.int .i64 1))) none none) (ht : Tryz.prog.underlying t = some (.slice e)) (hz : (Tryz.prog.info? e).map (·.size) = some z)
    (hc : ∀ v, ρ (.const v) = v) (hx : ρ (.tmp x) = .slice (some ⟨b, off, none⟩) (n + 1) c) (h1 : n + 1 ≤ c) : (execOp ρ o).run Tryz.prog w = .ok (.value (.slice (some ⟨b, tailG off z c, none⟩) n (c - 1))) w := by
  obtain ⟨i, hi, hiz⟩ : ∃ i, Tryz.prog.info? e = some i ∧ i.size = z := by
    cases h : Tryz.prog.info? e with
    | none => rw [h] at hz; cases hz
    | some i => rw [h] at hz; exact ⟨i, rfl, by simpa using hz⟩
  have hs : (sizeOf e).run Tryz.prog w = .ok z w := by simp [sizeOf, typeInfo, hi, hiz, Sem.run_bind, go_sem]
  have e3 : (1 : Int) ≤ (n : Int) + 1 := by omega
  by_cases h : c = 1
  · subst h
    obtain rfl : n = 0 := by omega
    simp [execOp, ho, hc, hx, go_sem, tailG, ht, hs]
  · have e0 : (0 : Int) ≤ (c : Int) - 1 := by omega
    have e1 : (1 : Int) ≤ (c : Int) := by omega
    have e2 : (n : Int) + 1 ≤ (c : Int) := by omega
    simp [execOp, ho, hc, hx, go_sem, tailG, ht, hs, h, e0, e1, e2, e3]
theorem wpList_tailG {ops : Array Oper} {rest : List Oper} {o : Oper} {a : Act} {w : World} {Q : Exit → Act → World → Prop} (hgd : o.guard = none) {t e : TypeId} {z x b off n c : Nat} (ho : o.op = .slice t (.tmp x) (some (.const (.int .i64 1))) none none) (ht : Tryz.prog.underlying t = some (.slice e)) (hz : (Tryz.prog.info? e).map (·.size) = some z)
    (hx : a.eval (.tmp x) = .slice (some ⟨b, off, none⟩) (n + 1) c) (h1 : n + 1 ≤ c) (h : wpList Tryz.prog ops Q rest (a.put o.dst (.slice (some ⟨b, tailG off z c, none⟩) n (c - 1))) w) : wpList Tryz.prog ops Q (o :: rest) a w :=
  wpList_plain hgd fun K hK => by
    unfold Oper.wp
    rw [run_tailG a.eval w ho ht hz (fun v => rfl) hx h1]
    exact hK _ _ h
theorem Rd.tailG_ {S : Nat → Prop} {w : World} {b off z n c : Nat} {x xs : List Value} (h : Rd S w (some ⟨b, off, none⟩) (x ++ xs)) (hx : x.length = z) (hl : xs.length = n * z) (h1 : n + 1 ≤ c) : Rd S w (some ⟨b, tailG off z c, none⟩) xs := by
  unfold tailG
  split
  · obtain rfl : n = 0 := by omega
    intro h0; rw [hl] at h0; omega
  · have := h.dropG z
    rw [List.drop_left' hx] at this
    exact this
theorem wpStill_tailG {ops : Array Oper} {rest : List Oper} {o : Oper} {a : Act} {w : World} {Q : Act → Prop} (hgd : o.guard = none) {t e : TypeId} {z x b off n c : Nat} (ho : o.op = .slice t (.tmp x) (some (.const (.int .i64 1))) none none) (ht : Tryz.prog.underlying t = some (.slice e)) (hz : (Tryz.prog.info? e).map (·.size) = some z)
    (hx : a.eval (.tmp x) = .slice (some ⟨b, off, none⟩) (n + 1) c) (h1 : n + 1 ≤ c) (h : wpStill Tryz.prog ops w Q rest (a.put o.dst (.slice (some ⟨b, tailG off z c, none⟩) n (c - 1)))) : wpStill Tryz.prog ops w Q (o :: rest) a :=
  wpStill_step fun K hK => by
    rw [if_pos (by simp [Region.wanted, hgd])]
    unfold Oper.still
    rw [run_tailG a.eval w ho ht hz (fun v => rfl) hx h1, Oper.stillUpon_value]
    exact hK _ h
end Go.Proofs.YtfkgcighooijhaaGreatDoor
