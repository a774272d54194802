/- slices.BinarySearchFunc at api.Tally, its comparison, logtide/ingest.tally (printed by mkbsf.py). Condition: sizes. -/
import Derived.Test.YtiogpomgpknjlaaJTal
import Derived.Test.YtiogpomgpknjlaaJHosts
import Derived.Test.YtiogpomgpknjlaaJCmpI
import Derived.Test.YtiogpomgpknjlaaJGenC
import Derived.Deep.DeepCutAuto
namespace Go.Proofs.Ytiogpomgpknjlaa
open Go.RowKit
set_option linter.unusedVariables false
set_option linter.unusedSimpArgs false

/-- the comparison of an element with a key -/
def cfTal (k0 : Int) (k1 : ByteArray) (x : Tal) : Int := if cmpI x.host k0 = 0 then cmpS x.rule k1 else cmpI x.host k0
theorem loadB_tal (w : World) (b o : Nat) (x : Tal) (h : ∀ j, j < 3 → w.cell? ⟨b, o + j, none⟩ = x.cells[j]?) :
    (Instr.loadAt 62 (.pointer (some ⟨b, o, none⟩))).run Try.prog w = .ok (.agg x.cells.toArray) w := by
  have b0 := h 0 (by omega)
  have b1 := h 1 (by omega)
  have b2 := h 2 (by omega)
  simp [Tal.cells] at b0 b1 b2
  have hu := Try.underlying62
  simp [go_sem, Tal.cells, b0, b1, b2]
theorem loadT_tal (w : World) (g : Nat) (k0 : Int) (k1 : ByteArray) (h : Blk w g 62 #[.int .i64 k0, .string k1, .int .i64 0]) :
    (Instr.loadAt 62 (.pointer (some ⟨g, 0, none⟩))).run Try.prog w = .ok (.agg #[.int .i64 k0, .string k1, .int .i64 0]) w := by
  have b0 := h.cell 0
  have b1 := h.cell 1
  have b2 := h.cell 2
  simp at b0 b1 b2
  have hu := Try.underlying62
  simp [go_sem, b0, b1, b2]
theorem run_loadTal (ρ : Operand → Value) (w : World) {o : Oper} {t : TypeId} {x : Nat} {p c : Value} (ho : o.op = .load t (.tmp x)) (hx : ρ (.tmp x) = p) (h : (Instr.loadAt t p).run Try.prog w = .ok c w) : (execOp ρ o).run Try.prog w = .ok (.value c) w := by
  simp only [execOp, ho, hx, Sem.run_bind, h, Result.andThen_ok, Sem.run_pure]
set_option maxHeartbeats 2000000 in
set_option maxRecDepth 100000 in
theorem cloTal_any (x : Tal) (k0 : Int) (k1 : ByteArray) (w : World) :
    Calls Try.prog 78 #[.agg x.cells.toArray, .agg #[.int .i64 k0, .string k1, .int .i64 0]] w (ExtV (.int .i64 (cfTal k0 k1 x)) w) := by
  obtain ⟨xb, hxb⟩ : ∃ b, b = w.heap.size := ⟨_, rfl⟩
  obtain ⟨tb, htb⟩ : ∃ b, b = w.heap.size + 1 := ⟨_, rfl⟩
  obtain ⟨W0, hW0⟩ : ∃ W, W = (w.alloc (.cells x.cells.toArray 62)).alloc (.cells #[.int .i64 k0, .string k1, .int .i64 0] 62) := ⟨_, rfl⟩
  have HXB : Hid (Blk W0 xb 62 x.cells.toArray) := Lib.hid (by rw [hW0, hxb]; exact (Blk.new w _ _).alloc _)
  have HTB : Hid (Blk W0 tb 62 #[.int .i64 k0, .string k1, .int .i64 0]) := Lib.hid (by
    have := Blk.new (w.alloc (.cells x.cells.toArray 62)) 62 #[.int .i64 k0, .string k1, .int .i64 0]
    rw [World.size_alloc] at this
    rw [hW0, htb]; exact this)
  have G0 : Hid (w.grownBy W0 none) := Lib.hid (by rw [hW0]; exact only_alloc (only_alloc (only_refl _ _) _) _)
  obtain ⟨c1, hc1⟩ : ∃ c, c = cmpI x.host k0 := ⟨_, rfl⟩
  obtain ⟨c2, hc2⟩ : ∃ c, c = cmpS x.rule k1 := ⟨_, rfl⟩
  obtain ⟨cc, hcc⟩ : ∃ c, c = cfTal k0 k1 x := ⟨_, rfl⟩
  have HOR : Hid ((c1 = 0 ∧ cc = c2) ∨ (c1 ≠ 0 ∧ cc = c1)) := Lib.hid (by
    rw [hcc]; unfold cfTal; rw [← hc1, ← hc2]
    by_cases h : c1 = 0
    · exact .inl ⟨h, by rw [if_pos h]⟩
    · exact .inr ⟨h, by rw [if_neg h]⟩)
  have HC1 : Hid (∀ wx, Calls Try.prog 33 #[.int .i64 x.host, .int .i64 k0] wx (fun e w' => e = .returned (.int .i64 c1) ∧ w' = wx)) := Lib.hid (fun wx => by rw [hc1]; exact cmpI_any _ _ wx)
  have HC2 : Hid (∀ wx, Calls Try.prog 34 #[.string x.rule, .string k1] wx (fun e w' => e = .returned (.int .i64 c2) ∧ w' = wx)) := Lib.hid (fun wx => by rw [hc2]; exact cmpS_any _ _ wx)
  have HCC := Lib.hid hcc
  have HW0 := Lib.hid hW0.symm
  have HXE := Lib.hid hxb.symm
  have HTE := Lib.hid htb.symm
  clear hxb htb hW0 hc1 hc2 hcc
  go_enter Try.func78, Try.ntmps78
  go_upto_region 1 with fail
  rw [HW0.out, HTE.out, HXE.out]
  clear HW0 HTE HXE
  refine wp_region_gen 12 (JC [some (.pointer (some ⟨xb, 0, none⟩)), some (.int .i64 (x.host)), some (.pointer (some ⟨tb, 0, none⟩)), some (.int .i64 (k0)), some (.int .i64 (c1)), some (.pointer (some ⟨xb, 1, none⟩)), some (.string x.rule), some (.pointer (some ⟨tb, 1, none⟩)), some (.string k1), some (.int .i64 (c2)), none, some (.int .i64 (cc))] (fun D u wx => W0.grownBy wx none ∧ (D 10 = true → ∃ gb, u 10 = .slice (some ⟨gb, 0, none⟩) 2 2 ∧ Blk wx gb 3 #[.int .i64 c1, .int .i64 c2]))) (by kernel_rfl) (by kernel_rfl) ?_ ?_ ?_
  · intro u
    exact ⟨(fun j c _ h => by cases h), ⟨only_drew (only_refl _ _), fun h => by cases h⟩⟩
  · intro AA hA
    have hasz : AA.tmps.size = 17 := by rw [hA]; kernel_rfl
    have ea2 : AA.eval (.tmp 2) = .pointer (some ⟨xb, 0, none⟩) := by rw [hA]; kernel_rfl
    have ea3 : AA.eval (.tmp 3) = .pointer (some ⟨tb, 0, none⟩) := by rw [hA]; kernel_rfl
    clear hA
    simp only [List.take_succ_cons, List.take_zero]
    refine .cons ?_ (.cons ?_ (.cons ?_ (.cons ?_ (.cons ?_ (.cons ?_ (.cons ?_ (.cons ?_ (.cons ?_ (.cons ?_ (.cons ?_ (.cons ?_ (.nil))))))))))))
    · exact gd_gen (by kernel_rfl) (Want.none_ rfl) rfl (fun D u w v h => by simpa [updB, upd] using h) (fun D u ρ w kn => by
        have e0 := kn.own 2 (c := .pointer (some ⟨xb, 0, none⟩)) (by kernel_rfl) ea2
        simp [execOp, kn.rho.con, e0, go_sem])
    · exact gd_gen (by kernel_rfl) (Want.none_ rfl) rfl (fun D u w v h => by simpa [updB, upd] using h) (fun D u ρ w kn => by
        have e0 := kn.con 0 5 (c := .pointer (some ⟨xb, 0, none⟩)) (by kernel_rfl) (by omega) (by kernel_rfl) rfl
        have f0 := (show w.cell? ⟨xb, 0, none⟩ = some (.int .i64 x.host) from (HXB.out.grown kn.ext.1 (by simp)).cell 0)
        simp [execOp, kn.rho.con, e0, f0, go_sem])
    · exact gd_gen (by kernel_rfl) (Want.none_ rfl) rfl (fun D u w v h => by simpa [updB, upd] using h) (fun D u ρ w kn => by
        have e0 := kn.own 3 (c := .pointer (some ⟨tb, 0, none⟩)) (by kernel_rfl) ea3
        simp [execOp, kn.rho.con, e0, go_sem])
    · exact gd_gen (by kernel_rfl) (Want.none_ rfl) rfl (fun D u w v h => by simpa [updB, upd] using h) (fun D u ρ w kn => by
        have e0 := kn.con 2 7 (c := .pointer (some ⟨tb, 0, none⟩)) (by kernel_rfl) (by omega) (by kernel_rfl) rfl
        have f0 := (show w.cell? ⟨tb, 0, none⟩ = some (.int .i64 k0) from (HTB.out.grown kn.ext.1 (by simp)).cell 0)
        simp [execOp, kn.rho.con, e0, f0, go_sem])
    · refine gd_call (by kernel_rfl) (Want.none_ rfl) 33 (fun D u ρ wx kn hD => ?_)
      have e0 := kn.con 1 6 (c := .int .i64 x.host) (by kernel_rfl) (by omega) (by kernel_rfl) rfl
      have e1 := kn.con 3 8 (c := .int .i64 k0) (by kernel_rfl) (by omega) (by kernel_rfl) rfl
      obtain ⟨x1, x2⟩ := kn.ext
      refine ⟨#[.int .i64 x.host, .int .i64 k0], ?_, (HC1.out wx).mono ?_⟩
      · simp only [execOp, resolve, Deferred.ofValue, List.map_toArray, List.map_cons, List.map_nil, e0, e1, kn.rho.con, kn.rho.fn]
        simp [go_sem]
      · rintro e w' ⟨rfl, rfl⟩
        exact ⟨_, rfl, (fun c h => by injection h with h; injection h), x1, (fun h => by rw [updB_ne D (show (10 : Nat) ≠ 4 by omega)] at h; rw [upd_ne u _ (show (10 : Nat) ≠ 4 by omega)]; exact x2 h)⟩
    · exact gd_gen (by kernel_rfl) (Want.none_ rfl) rfl (fun D u w v h => by simpa [updB, upd] using h) (fun D u ρ w kn => by
        have e0 := kn.own 2 (c := .pointer (some ⟨xb, 0, none⟩)) (by kernel_rfl) ea2
        simp [execOp, kn.rho.con, e0, go_sem])
    · exact gd_gen (by kernel_rfl) (Want.none_ rfl) rfl (fun D u w v h => by simpa [updB, upd] using h) (fun D u ρ w kn => by
        have e0 := kn.con 5 10 (c := .pointer (some ⟨xb, 1, none⟩)) (by kernel_rfl) (by omega) (by kernel_rfl) rfl
        have f0 := (show w.cell? ⟨xb, 1, none⟩ = some (.string x.rule) from (HXB.out.grown kn.ext.1 (by simp)).cell 1)
        simp [execOp, kn.rho.con, e0, f0, go_sem])
    · exact gd_gen (by kernel_rfl) (Want.none_ rfl) rfl (fun D u w v h => by simpa [updB, upd] using h) (fun D u ρ w kn => by
        have e0 := kn.own 3 (c := .pointer (some ⟨tb, 0, none⟩)) (by kernel_rfl) ea3
        simp [execOp, kn.rho.con, e0, go_sem])
    · exact gd_gen (by kernel_rfl) (Want.none_ rfl) rfl (fun D u w v h => by simpa [updB, upd] using h) (fun D u ρ w kn => by
        have e0 := kn.con 7 12 (c := .pointer (some ⟨tb, 1, none⟩)) (by kernel_rfl) (by omega) (by kernel_rfl) rfl
        have f0 := (show w.cell? ⟨tb, 1, none⟩ = some (.string k1) from (HTB.out.grown kn.ext.1 (by simp)).cell 1)
        simp [execOp, kn.rho.con, e0, f0, go_sem])
    · refine gd_call (by kernel_rfl) (Want.none_ rfl) 34 (fun D u ρ wx kn hD => ?_)
      have e0 := kn.con 6 11 (c := .string x.rule) (by kernel_rfl) (by omega) (by kernel_rfl) rfl
      have e1 := kn.con 8 13 (c := .string k1) (by kernel_rfl) (by omega) (by kernel_rfl) rfl
      obtain ⟨x1, x2⟩ := kn.ext
      refine ⟨#[.string x.rule, .string k1], ?_, (HC2.out wx).mono ?_⟩
      · simp only [execOp, resolve, Deferred.ofValue, List.map_toArray, List.map_cons, List.map_nil, e0, e1, kn.rho.con, kn.rho.fn]
        simp [go_sem]
      · rintro e w' ⟨rfl, rfl⟩
        exact ⟨_, rfl, (fun c h => by injection h with h; injection h), x1, (fun h => by rw [updB_ne D (show (10 : Nat) ≠ 9 by omega)] at h; rw [upd_ne u _ (show (10 : Nat) ≠ 9 by omega)]; exact x2 h)⟩
    · refine gd_eff (by kernel_rfl) (Want.none_ rfl) (fun D u ρ wx kn hD => ?_)
      have e0 := kn.con 4 9 (c := .int .i64 c1) (by kernel_rfl) (by omega) (by kernel_rfl) rfl
      have e1 := kn.con 9 14 (c := .int .i64 c2) (by kernel_rfl) (by omega) (by kernel_rfl) rfl
      obtain ⟨x1, x2⟩ := kn.ext
      exact ⟨.slice (some ⟨wx.heap.size, 0, none⟩) 2 2, wx.alloc (.cells #[.int .i64 c1, .int .i64 c2] 3), by simp [execOp, e0, e1, go_sem], (fun c h => by cases h), only_alloc x1 _, (fun _ => ⟨wx.heap.size, upd_at _ _ _, Blk.new wx _ _⟩)⟩
    · refine gd_call (by kernel_rfl) (Want.none_ rfl) 32 (fun D u ρ wx kn hD => ?_)
      have e0 := kn.slot 10 15 (by kernel_rfl) (by omega)
      have d10 := kn.dep 10 (by kernel_rfl)
      obtain ⟨x1, x2⟩ := kn.ext
      obtain ⟨gb, q1, q2⟩ := x2 d10
      rw [q1] at e0
      refine ⟨#[.slice (some ⟨gb, 0, none⟩) 2 2], ?_, (or_any gb c1 c2 cc wx q2 HOR.out).mono ?_⟩
      · simp only [execOp, resolve, Deferred.ofValue, List.map_toArray, List.map_cons, List.map_nil, e0, kn.rho.con, kn.rho.fn]
        simp [go_sem]
      · rintro e w' ⟨rfl, rfl⟩
        exact ⟨_, rfl, (fun c h => by injection h with h; injection h), x1, (fun h => by rw [updB_ne D (show (10 : Nat) ≠ 11 by omega)] at h; rw [upd_ne u _ (show (10 : Nat) ≠ 11 by omega)]; exact x2 h)⟩
  · intro D u w9 hJ hD
    obtain ⟨hcn, x1, -⟩ := hJ
    have e11 : u 11 = .int .i64 cc := hcn 11 _ rfl (hD 11 (by omega))
    simp only [List.take_succ_cons, List.take_zero, List.drop_succ_cons, List.drop_zero, putAll]
    rw [e11]
    clear hcn e11 hD
    go_simp
    go_wp2_with fail
    go_ret
    exact ⟨ret_int HCC.out, only_trans G0.out x1⟩
/-- where the element with a key is, or would be -/
def BsPost (w : World) (i : Nat) (ok : Bool) (e : Ending) (w' : World) : Prop := e = .returned (.tuple #[.int .i64 i, .bool ok]) ∧ w.grownBy w' none
set_option maxHeartbeats 4000000 in
set_option maxRecDepth 100000 in
theorem bsfTal_any {S : Nat → Prop} (A : Option Addr) (xs : List Tal) (c : Nat) (k0 : Int) (k1 : ByteArray) (w : World) (hr : Rd S w A (xs.flatMap Tal.cells)) (hl : xs.length ≤ 100000) (hm : MonoC (cfTal k0 k1) xs) :
    Calls Try.prog 77 #[.slice A xs.length c, .agg #[.int .i64 k0, .string k1, .int .i64 0], .func (.func 78) #[] #[]] w (BsPost w (lowC (cfTal k0 k1) xs) (okC (cfTal k0 k1) xs)) := by
  obtain ⟨tb, htb⟩ : ∃ b, b = w.heap.size := ⟨_, rfl⟩
  obtain ⟨W1, hW1⟩ : ∃ W, W = w.alloc (.cells #[.int .i64 k0, .string k1, .int .i64 0] 62) := ⟨_, rfl⟩
  have TB1 : Hid (Blk W1 tb 62 #[.int .i64 k0, .string k1, .int .i64 0]) := Lib.hid (by rw [hW1, htb]; exact Blk.new w _ _)
  have G1 : Hid (w.grownBy W1 none) := Lib.hid (by rw [hW1]; exact only_alloc (only_refl _ _) _)
  have HR := Lib.hid (hr.grown G1.out (by simp))
  have HM := Lib.hid hm
  have HW1 := Lib.hid hW1.symm
  have HTE := Lib.hid htb.symm
  clear htb hW1 hr hm
  go_enter Try.func77, Try.ntmps77
  go_upto_region 1 with fail
  rw [HW1.out, HTE.out]
  clear HW1 HTE
  go_wp2_with fail
  go_loopw [9, 10] (fun vi vj wr => ∃ i j : Nat, vi = .int .i64 i ∧ vj = .int .i64 j ∧ i ≤ j ∧ j ≤ xs.length ∧ (∀ q x, q < i → xs[q]? = some x → cfTal k0 k1 x < 0) ∧ (∀ q x, j ≤ q → xs[q]? = some x → ¬ cfTal k0 k1 x < 0) ∧ W1.grownBy wr none) (fun vi vj _ => (intOf vj).toNat - (intOf vi).toNat)
  case atStart => exact ⟨0, xs.length, rfl, rfl, Nat.zero_le _, Nat.le_refl _, (fun q x h => by omega), (fun q x h hx => by have := (List.getElem?_eq_some_iff.1 hx).1; omega), only_refl _ _⟩
  case round =>
    obtain ⟨i, j, rfl, rfl, hij, hj, hlo, hhi, hG⟩ := hrel
    have G := Lib.hid hG
    have LO := Lib.hid hlo
    have HI := Lib.hid hhi
    have HRR := Lib.hid (HR.out.grown hG (by simp))
    have HTB := Lib.hid (TB1.out.grown hG (by simp))
    clear hG hlo hhi
    by_cases hlt : i < j
    · obtain ⟨m, hm⟩ : ∃ m, m = (i + j) / 2 := ⟨_, rfl⟩
      have hm1 : i ≤ m := by omega
      have hm2 : m < j := by omega
      obtain ⟨x, hx⟩ : ∃ x, xs[m]? = some x := ⟨_, List.getElem?_eq_getElem (by omega)⟩
      have HXM := Lib.hid hx
      have HMM := Lib.hid hm
      have i1 : (i : Int) < (j : Int) := by omega
      have hml : (m : Int) < (xs.length : Int) := by omega
      obtain ⟨b, o, rfl, -, -, -⟩ := HRR.out (by rw [flat_len _ 3 Tal.cells_len]; omega)
      clear hx hm
      have hw1 : IntKind.i64.wrap ((i : Int) + (j : Int)) = (i : Int) + (j : Int) := IntWalk.i64_in _ (by omega)
      have hmm : ((i : Int) + (j : Int)) / 2 = (m : Int) := by have := HMM.out; omega
      go_upto_region 5 with fail
      have hwm : IntKind.i64.wrap ((m : Int) + 1) = (m : Int) + 1 := IntWalk.i64_in _ (by omega)
      clear hmm hw1
      obtain ⟨W0, rfl⟩ : ∃ W0 : World, W0 = wr := ⟨_, rfl⟩
      by_cases hcf : cfTal k0 k1 x < 0
      · have HCF := Lib.hid hcf
        refine wp_region_gen 8 (JC [some (.func (.func 78) #[] #[]), some (.slice (some ⟨b, o, none⟩) (xs.length) (c)), some (.int .i64 ((m : Int))), some (.pointer (some ⟨b, o + m * 3, none⟩)), some (.agg x.cells.toArray), some (.agg #[.int .i64 k0, .string k1, .int .i64 0]), some (.int .i64 (cfTal k0 k1 x)), some (.bool true)] (fun D u wx => W0.grownBy wx none)) (by kernel_rfl) (by kernel_rfl) ?_ ?_ ?_
        · intro u
          exact ⟨(fun j c _ h => by cases h), only_drew (only_refl _ _)⟩
        · intro AA hA
          have hasz : AA.tmps.size = 49 := by rw [hA]; kernel_rfl
          have ea0 : AA.eval (.tmp 0) = .slice (some ⟨b, o, none⟩) (xs.length) (c) := by rw [hA]; kernel_rfl
          have ea2 : AA.eval (.tmp 2) = .func (.func 78) #[] #[] := by rw [hA]; kernel_rfl
          have ea4 : AA.eval (.tmp 4) = .pointer (some ⟨tb, 0, none⟩) := by rw [hA]; kernel_rfl
          have ea11 : AA.eval (.tmp 11) = .int .i64 ((m : Int)) := by rw [hA]; kernel_rfl
          clear hA
          simp only [List.take_succ_cons, List.take_zero]
          refine .cons ?_ (.cons ?_ (.cons ?_ (.cons ?_ (.cons ?_ (.cons ?_ (.cons ?_ (.cons ?_ (.nil))))))))
          · exact gd_gen (by kernel_rfl) (Want.none_ rfl) rfl (fun D u w v h => by simpa [updB, upd] using h) (fun D u ρ w kn => by
              have e0 := kn.own 2 (c := .func (.func 78) #[] #[]) (by kernel_rfl) ea2
              simp [execOp, kn.rho.con, e0, go_sem])
          · exact gd_gen (by kernel_rfl) (Want.none_ rfl) rfl (fun D u w v h => by simpa [updB, upd] using h) (fun D u ρ w kn => by
              have e0 := kn.own 0 (c := .slice (some ⟨b, o, none⟩) (xs.length) (c)) (by kernel_rfl) ea0
              simp [execOp, kn.rho.con, e0, go_sem])
          · exact gd_gen (by kernel_rfl) (Want.none_ rfl) rfl (fun D u w v h => by simpa [updB, upd] using h) (fun D u ρ w kn => by
              have e0 := kn.own 11 (c := .int .i64 ((m : Int))) (by kernel_rfl) ea11
              simp [execOp, kn.rho.con, e0, go_sem])
          · exact gd_gen (by kernel_rfl) (Want.none_ rfl) rfl (fun D u w v h => by simpa [updB, upd] using h) (fun D u ρ w kn => by
              have e0 := kn.con 1 25 (c := .slice (some ⟨b, o, none⟩) (xs.length) (c)) (by kernel_rfl) (by omega) (by kernel_rfl) rfl
              have e1 := kn.con 2 26 (c := .int .i64 ((m : Int))) (by kernel_rfl) (by omega) (by kernel_rfl) rfl
              simp [execOp, kn.rho.con, e0, e1, go_sem, hml])
          · exact gd_gen (by kernel_rfl) (Want.none_ rfl) rfl (fun D u w v h => by simpa [updB, upd] using h) (fun D u ρ w kn => by
              have e0 := kn.con 3 27 (c := .pointer (some ⟨b, o + m * 3, none⟩)) (by kernel_rfl) (by omega) (by kernel_rfl) rfl
              exact run_loadTal ρ w rfl e0 (loadB_tal w b (o + m * 3) x (fun j hj => (HRR.out.grown kn.ext (by simp)).flatAt Tal.cells_len HXM.out j hj)))
          · exact gd_gen (by kernel_rfl) (Want.none_ rfl) rfl (fun D u w v h => by simpa [updB, upd] using h) (fun D u ρ w kn => by
              have e0 := kn.own 4 (c := .pointer (some ⟨tb, 0, none⟩)) (by kernel_rfl) ea4
              exact run_loadTal ρ w rfl e0 (loadT_tal w tb k0 k1 (HTB.out.grown kn.ext (by simp))))
          · refine gd_call (by kernel_rfl) (Want.none_ rfl) 78 (fun D u ρ wx kn hD => ?_)
            have e0 := kn.con 0 24 (c := .func (.func 78) #[] #[]) (by kernel_rfl) (by omega) (by kernel_rfl) rfl
            have e1 := kn.con 4 28 (c := .agg x.cells.toArray) (by kernel_rfl) (by omega) (by kernel_rfl) rfl
            have e2 := kn.con 5 29 (c := .agg #[.int .i64 k0, .string k1, .int .i64 0]) (by kernel_rfl) (by omega) (by kernel_rfl) rfl
            refine ⟨#[.agg x.cells.toArray, .agg #[.int .i64 k0, .string k1, .int .i64 0]], ?_, (cloTal_any x k0 k1 wx).mono ?_⟩
            · simp only [execOp, resolve, Deferred.ofValue, List.map_toArray, List.map_cons, List.map_nil, e0, e1, e2, kn.rho.con, kn.rho.fn]
              simp [go_sem]
            · rintro e w' ⟨rfl, hg⟩
              exact ⟨_, rfl, (fun c h => by injection h with h; injection h), only_trans kn.ext hg⟩
          · exact gd_gen (by kernel_rfl) (Want.none_ rfl) rfl (fun D u w v h => by simpa [updB, upd] using h) (fun D u ρ w kn => by
              have e0 := kn.con 6 30 (c := .int .i64 (cfTal k0 k1 x)) (by kernel_rfl) (by omega) (by kernel_rfl) rfl
              simp [execOp, kn.rho.con, e0, go_sem, hcf])
        · intro D u w9 hJ hD
          obtain ⟨hcn, x1⟩ := hJ
          have e7 : u 7 = .bool true := hcn 7 _ rfl (hD 7 (by omega))
          have G9 := Lib.hid (only_trans G.out x1)
          simp only [List.take_succ_cons, List.take_zero, List.drop_succ_cons, List.drop_zero, putAll]
          rw [e7]
          clear hcn x1 e7 hD hcf
          go_simp
          go_wp2_with fail
          go_roundw
          case rel => exact ⟨m + 1, j, by go_num, rfl, by omega, hj, (fun q y hq hy => if h : q = m then by subst h; rw [HXM.out] at hy; injection hy with hy; rw [← hy]; exact HCF.out else HM.out q m y x (by omega) hy HXM.out HCF.out), HI.out, G9.out⟩
          case measure => simp [intOf]; omega
      · have HCF := Lib.hid hcf
        refine wp_region_gen 8 (JC [some (.func (.func 78) #[] #[]), some (.slice (some ⟨b, o, none⟩) (xs.length) (c)), some (.int .i64 ((m : Int))), some (.pointer (some ⟨b, o + m * 3, none⟩)), some (.agg x.cells.toArray), some (.agg #[.int .i64 k0, .string k1, .int .i64 0]), some (.int .i64 (cfTal k0 k1 x)), some (.bool false)] (fun D u wx => W0.grownBy wx none)) (by kernel_rfl) (by kernel_rfl) ?_ ?_ ?_
        · intro u
          exact ⟨(fun j c _ h => by cases h), only_drew (only_refl _ _)⟩
        · intro AA hA
          have hasz : AA.tmps.size = 49 := by rw [hA]; kernel_rfl
          have ea0 : AA.eval (.tmp 0) = .slice (some ⟨b, o, none⟩) (xs.length) (c) := by rw [hA]; kernel_rfl
          have ea2 : AA.eval (.tmp 2) = .func (.func 78) #[] #[] := by rw [hA]; kernel_rfl
          have ea4 : AA.eval (.tmp 4) = .pointer (some ⟨tb, 0, none⟩) := by rw [hA]; kernel_rfl
          have ea11 : AA.eval (.tmp 11) = .int .i64 ((m : Int)) := by rw [hA]; kernel_rfl
          clear hA
          simp only [List.take_succ_cons, List.take_zero]
          refine .cons ?_ (.cons ?_ (.cons ?_ (.cons ?_ (.cons ?_ (.cons ?_ (.cons ?_ (.cons ?_ (.nil))))))))
          · exact gd_gen (by kernel_rfl) (Want.none_ rfl) rfl (fun D u w v h => by simpa [updB, upd] using h) (fun D u ρ w kn => by
              have e0 := kn.own 2 (c := .func (.func 78) #[] #[]) (by kernel_rfl) ea2
              simp [execOp, kn.rho.con, e0, go_sem])
          · exact gd_gen (by kernel_rfl) (Want.none_ rfl) rfl (fun D u w v h => by simpa [updB, upd] using h) (fun D u ρ w kn => by
              have e0 := kn.own 0 (c := .slice (some ⟨b, o, none⟩) (xs.length) (c)) (by kernel_rfl) ea0
              simp [execOp, kn.rho.con, e0, go_sem])
          · exact gd_gen (by kernel_rfl) (Want.none_ rfl) rfl (fun D u w v h => by simpa [updB, upd] using h) (fun D u ρ w kn => by
              have e0 := kn.own 11 (c := .int .i64 ((m : Int))) (by kernel_rfl) ea11
              simp [execOp, kn.rho.con, e0, go_sem])
          · exact gd_gen (by kernel_rfl) (Want.none_ rfl) rfl (fun D u w v h => by simpa [updB, upd] using h) (fun D u ρ w kn => by
              have e0 := kn.con 1 25 (c := .slice (some ⟨b, o, none⟩) (xs.length) (c)) (by kernel_rfl) (by omega) (by kernel_rfl) rfl
              have e1 := kn.con 2 26 (c := .int .i64 ((m : Int))) (by kernel_rfl) (by omega) (by kernel_rfl) rfl
              simp [execOp, kn.rho.con, e0, e1, go_sem, hml])
          · exact gd_gen (by kernel_rfl) (Want.none_ rfl) rfl (fun D u w v h => by simpa [updB, upd] using h) (fun D u ρ w kn => by
              have e0 := kn.con 3 27 (c := .pointer (some ⟨b, o + m * 3, none⟩)) (by kernel_rfl) (by omega) (by kernel_rfl) rfl
              exact run_loadTal ρ w rfl e0 (loadB_tal w b (o + m * 3) x (fun j hj => (HRR.out.grown kn.ext (by simp)).flatAt Tal.cells_len HXM.out j hj)))
          · exact gd_gen (by kernel_rfl) (Want.none_ rfl) rfl (fun D u w v h => by simpa [updB, upd] using h) (fun D u ρ w kn => by
              have e0 := kn.own 4 (c := .pointer (some ⟨tb, 0, none⟩)) (by kernel_rfl) ea4
              exact run_loadTal ρ w rfl e0 (loadT_tal w tb k0 k1 (HTB.out.grown kn.ext (by simp))))
          · refine gd_call (by kernel_rfl) (Want.none_ rfl) 78 (fun D u ρ wx kn hD => ?_)
            have e0 := kn.con 0 24 (c := .func (.func 78) #[] #[]) (by kernel_rfl) (by omega) (by kernel_rfl) rfl
            have e1 := kn.con 4 28 (c := .agg x.cells.toArray) (by kernel_rfl) (by omega) (by kernel_rfl) rfl
            have e2 := kn.con 5 29 (c := .agg #[.int .i64 k0, .string k1, .int .i64 0]) (by kernel_rfl) (by omega) (by kernel_rfl) rfl
            refine ⟨#[.agg x.cells.toArray, .agg #[.int .i64 k0, .string k1, .int .i64 0]], ?_, (cloTal_any x k0 k1 wx).mono ?_⟩
            · simp only [execOp, resolve, Deferred.ofValue, List.map_toArray, List.map_cons, List.map_nil, e0, e1, e2, kn.rho.con, kn.rho.fn]
              simp [go_sem]
            · rintro e w' ⟨rfl, hg⟩
              exact ⟨_, rfl, (fun c h => by injection h with h; injection h), only_trans kn.ext hg⟩
          · exact gd_gen (by kernel_rfl) (Want.none_ rfl) rfl (fun D u w v h => by simpa [updB, upd] using h) (fun D u ρ w kn => by
              have e0 := kn.con 6 30 (c := .int .i64 (cfTal k0 k1 x)) (by kernel_rfl) (by omega) (by kernel_rfl) rfl
              simp [execOp, kn.rho.con, e0, go_sem, hcf])
        · intro D u w9 hJ hD
          obtain ⟨hcn, x1⟩ := hJ
          have e7 : u 7 = .bool false := hcn 7 _ rfl (hD 7 (by omega))
          have G9 := Lib.hid (only_trans G.out x1)
          simp only [List.take_succ_cons, List.take_zero, List.drop_succ_cons, List.drop_zero, putAll]
          rw [e7]
          clear hcn x1 e7 hD hcf
          go_simp
          go_wp2_with fail
          go_roundw
          case rel => exact ⟨i, m, rfl, rfl, hm1, by omega, LO.out, (fun q y hq hy hlt2 => if h : q = m then HCF.out (by subst h; rw [HXM.out] at hy; injection hy with hy; rw [hy]; exact hlt2) else HCF.out (HM.out m q x y (by omega) HXM.out hy hlt2)), G9.out⟩
          case measure => simp [intOf]; omega
    · obtain rfl : i = j := by omega
      have hlow : lowC (cfTal k0 k1) xs = i := lowC_at hj LO.out (fun x hx => HI.out i x (Nat.le_refl _) hx)
      have HLW := Lib.hid hlow
      clear hlow hlt
      obtain ⟨W0, rfl⟩ : ∃ W0 : World, W0 = wr := ⟨_, rfl⟩
      by_cases hil0 : i < xs.length
      · obtain ⟨x, hx⟩ : ∃ x, xs[i]? = some x := ⟨_, List.getElem?_eq_getElem hil0⟩
        have HXM := Lib.hid hx
        have hil : (i : Int) < (xs.length : Int) := by omega
        have hok : okC (cfTal k0 k1) xs = (cfTal k0 k1 x == 0) := by unfold okC; rw [HLW.out, hx]
        obtain ⟨b, o, rfl, -, -, -⟩ := HRR.out (by rw [flat_len _ 3 Tal.cells_len]; omega)
        have HOK := Lib.hid hok
        clear hx hok hil0
        have i2 : ¬ ((i : Int) < (i : Int)) := by omega
        go_upto_region 8 with fail
        by_cases hcf : cfTal k0 k1 x = 0
        · have HV : Hid (okC (cfTal k0 k1) xs = true) := Lib.hid (by rw [HOK.out]; simp [hcf])
          refine wp_region_gen 16 (JC [some (.int .i64 ((i : Int))), some (.int .i64 ((i : Int))), some (.int .i64 ((xs.length : Int))), some (.bool true), some (.bool true), some (.func (.func 78) #[] #[]), some (.slice (some ⟨b, o, none⟩) (xs.length) (c)), some (.int .i64 ((i : Int))), some (.pointer (some ⟨b, o + i * 3, none⟩)), some (.agg x.cells.toArray), some (.agg #[.int .i64 k0, .string k1, .int .i64 0]), some (.int .i64 (cfTal k0 k1 x)), some (.bool true), some (.bool true), some (.int .i64 ((i : Int))), some (.bool true)] (fun D u wx => W0.grownBy wx none)) (by kernel_rfl) (by kernel_rfl) ?_ ?_ ?_
          · intro u
            exact ⟨(fun j c _ h => by cases h), only_drew (only_refl _ _)⟩
          · intro AA hA
            have hasz : AA.tmps.size = 49 := by rw [hA]; kernel_rfl
            have ea0 : AA.eval (.tmp 0) = .slice (some ⟨b, o, none⟩) (xs.length) (c) := by rw [hA]; kernel_rfl
            have ea2 : AA.eval (.tmp 2) = .func (.func 78) #[] #[] := by rw [hA]; kernel_rfl
            have ea4 : AA.eval (.tmp 4) = .pointer (some ⟨tb, 0, none⟩) := by rw [hA]; kernel_rfl
            have ea8 : AA.eval (.tmp 8) = .int .i64 ((xs.length : Int)) := by rw [hA]; kernel_rfl
            have ea9 : AA.eval (.tmp 9) = .int .i64 ((i : Int)) := by rw [hA]; kernel_rfl
            clear hA
            simp only [List.take_succ_cons, List.take_zero]
            refine .cons ?_ (.cons ?_ (.cons ?_ (.cons ?_ (.cons ?_ (.cons ?_ (.cons ?_ (.cons ?_ (.cons ?_ (.cons ?_ (.cons ?_ (.cons ?_ (.cons ?_ (.cons ?_ (.cons ?_ (.cons ?_ (.nil))))))))))))))))
            · exact gd_gen (by kernel_rfl) (Want.none_ rfl) rfl (fun D u w v h => by simpa [updB, upd] using h) (fun D u ρ w kn => by
                have e0 := kn.own 9 (c := .int .i64 ((i : Int))) (by kernel_rfl) ea9
                simp [execOp, kn.rho.con, e0, go_sem])
            · exact gd_gen (by kernel_rfl) (Want.none_ rfl) rfl (fun D u w v h => by simpa [updB, upd] using h) (fun D u ρ w kn => by
                have e0 := kn.own 9 (c := .int .i64 ((i : Int))) (by kernel_rfl) ea9
                simp [execOp, kn.rho.con, e0, go_sem])
            · exact gd_gen (by kernel_rfl) (Want.none_ rfl) rfl (fun D u w v h => by simpa [updB, upd] using h) (fun D u ρ w kn => by
                have e0 := kn.own 8 (c := .int .i64 ((xs.length : Int))) (by kernel_rfl) ea8
                simp [execOp, kn.rho.con, e0, go_sem])
            · exact gd_gen (by kernel_rfl) (Want.none_ rfl) rfl (fun D u w v h => by simpa [updB, upd] using h) (fun D u ρ w kn => by
                have e0 := kn.con 1 36 (c := .int .i64 ((i : Int))) (by kernel_rfl) (by omega) (by kernel_rfl) rfl
                have e1 := kn.con 2 37 (c := .int .i64 ((xs.length : Int))) (by kernel_rfl) (by omega) (by kernel_rfl) rfl
                simp [execOp, kn.rho.con, e0, e1, go_sem, hil])
            · exact gd_gen (by kernel_rfl) (Want.none_ rfl) rfl (fun D u w v h => by simpa [updB, upd] using h) (fun D u ρ w kn => by
                have e0 := kn.con 3 38 (c := .bool true) (by kernel_rfl) (by omega) (by kernel_rfl) rfl
                simp [execOp, kn.rho.con, e0, go_sem])
            · exact gd_gen (by kernel_rfl) (Want.some_ (g := 4) (v := true) rfl rfl (by kernel_rfl) (by omega) rfl rfl (by kernel_rfl)) rfl (fun D u w v h => by simpa [updB, upd] using h) (fun D u ρ w kn => by
                have e0 := kn.own 2 (c := .func (.func 78) #[] #[]) (by kernel_rfl) ea2
                simp [execOp, kn.rho.con, e0, go_sem])
            · exact gd_gen (by kernel_rfl) (Want.some_ (g := 4) (v := true) rfl rfl (by kernel_rfl) (by omega) rfl rfl (by kernel_rfl)) rfl (fun D u w v h => by simpa [updB, upd] using h) (fun D u ρ w kn => by
                have e0 := kn.own 0 (c := .slice (some ⟨b, o, none⟩) (xs.length) (c)) (by kernel_rfl) ea0
                simp [execOp, kn.rho.con, e0, go_sem])
            · exact gd_gen (by kernel_rfl) (Want.some_ (g := 4) (v := true) rfl rfl (by kernel_rfl) (by omega) rfl rfl (by kernel_rfl)) rfl (fun D u w v h => by simpa [updB, upd] using h) (fun D u ρ w kn => by
                have e0 := kn.own 9 (c := .int .i64 ((i : Int))) (by kernel_rfl) ea9
                simp [execOp, kn.rho.con, e0, go_sem])
            · exact gd_gen (by kernel_rfl) (Want.some_ (g := 4) (v := true) rfl rfl (by kernel_rfl) (by omega) rfl rfl (by kernel_rfl)) rfl (fun D u w v h => by simpa [updB, upd] using h) (fun D u ρ w kn => by
                have e0 := kn.con 6 41 (c := .slice (some ⟨b, o, none⟩) (xs.length) (c)) (by kernel_rfl) (by omega) (by kernel_rfl) rfl
                have e1 := kn.con 7 42 (c := .int .i64 ((i : Int))) (by kernel_rfl) (by omega) (by kernel_rfl) rfl
                simp [execOp, kn.rho.con, e0, e1, go_sem, hil])
            · exact gd_gen (by kernel_rfl) (Want.some_ (g := 4) (v := true) rfl rfl (by kernel_rfl) (by omega) rfl rfl (by kernel_rfl)) rfl (fun D u w v h => by simpa [updB, upd] using h) (fun D u ρ w kn => by
                have e0 := kn.con 8 43 (c := .pointer (some ⟨b, o + i * 3, none⟩)) (by kernel_rfl) (by omega) (by kernel_rfl) rfl
                exact run_loadTal ρ w rfl e0 (loadB_tal w b (o + i * 3) x (fun j hj => (HRR.out.grown kn.ext (by simp)).flatAt Tal.cells_len HXM.out j hj)))
            · exact gd_gen (by kernel_rfl) (Want.some_ (g := 4) (v := true) rfl rfl (by kernel_rfl) (by omega) rfl rfl (by kernel_rfl)) rfl (fun D u w v h => by simpa [updB, upd] using h) (fun D u ρ w kn => by
                have e0 := kn.own 4 (c := .pointer (some ⟨tb, 0, none⟩)) (by kernel_rfl) ea4
                exact run_loadTal ρ w rfl e0 (loadT_tal w tb k0 k1 (HTB.out.grown kn.ext (by simp))))
            · refine gd_call (by kernel_rfl) (Want.some_ (g := 4) (v := true) rfl rfl (by kernel_rfl) (by omega) rfl rfl (by kernel_rfl)) 78 (fun D u ρ wx kn hD => ?_)
              have e0 := kn.con 5 40 (c := .func (.func 78) #[] #[]) (by kernel_rfl) (by omega) (by kernel_rfl) rfl
              have e1 := kn.con 9 44 (c := .agg x.cells.toArray) (by kernel_rfl) (by omega) (by kernel_rfl) rfl
              have e2 := kn.con 10 45 (c := .agg #[.int .i64 k0, .string k1, .int .i64 0]) (by kernel_rfl) (by omega) (by kernel_rfl) rfl
              refine ⟨#[.agg x.cells.toArray, .agg #[.int .i64 k0, .string k1, .int .i64 0]], ?_, (cloTal_any x k0 k1 wx).mono ?_⟩
              · simp only [execOp, resolve, Deferred.ofValue, List.map_toArray, List.map_cons, List.map_nil, e0, e1, e2, kn.rho.con, kn.rho.fn]
                simp [go_sem]
              · rintro e w' ⟨rfl, hg⟩
                exact ⟨_, rfl, (fun c h => by injection h with h; injection h), only_trans kn.ext hg⟩
            · exact gd_gen (by kernel_rfl) (Want.some_ (g := 4) (v := true) rfl rfl (by kernel_rfl) (by omega) rfl rfl (by kernel_rfl)) rfl (fun D u w v h => by simpa [updB, upd] using h) (fun D u ρ w kn => by
                have e0 := kn.con 11 46 (c := .int .i64 (cfTal k0 k1 x)) (by kernel_rfl) (by omega) (by kernel_rfl) rfl
                simp [execOp, kn.rho.con, e0, go_sem, hcf])
            · exact gd_gen (by kernel_rfl) (Want.none_ rfl) rfl (fun D u w v h => by simpa [updB, upd] using h) (fun D u ρ w kn => by
                have e0 := kn.con 4 39 (c := .bool true) (by kernel_rfl) (by omega) (by kernel_rfl) rfl
                have e1 := kn.con 12 47 (c := .bool true) (by kernel_rfl) (by omega) (by kernel_rfl) rfl
                simp [execOp, kn.rho.con, e0, e1, go_sem])
            · exact gd_gen (by kernel_rfl) (Want.none_ rfl) rfl (fun D u w v h => by simpa [updB, upd] using h) (fun D u ρ w kn => by
                have e0 := kn.con 0 35 (c := .int .i64 ((i : Int))) (by kernel_rfl) (by omega) (by kernel_rfl) rfl
                simp [execOp, kn.rho.con, e0, go_sem])
            · exact gd_gen (by kernel_rfl) (Want.none_ rfl) rfl (fun D u w v h => by simpa [updB, upd] using h) (fun D u ρ w kn => by
                have e0 := kn.con 13 48 (c := .bool true) (by kernel_rfl) (by omega) (by kernel_rfl) rfl
                simp [execOp, kn.rho.con, e0, go_sem])
          · intro D u w9 hJ hD
            obtain ⟨hcn, x1⟩ := hJ
            have e0 : u 14 = .int .i64 (i : Int) := hcn 14 _ rfl (hD 14 (by omega))
            have e13 : u 15 = .bool true := hcn 15 _ rfl (hD 15 (by omega))
            simp only [List.take_succ_cons, List.take_zero, List.drop_succ_cons, List.drop_zero, putAll]
            rw [e0, e13]
            clear hcn e0 e13 hD hcf
            go_simp
            go_wp2_with fail
            go_ret2
            exact ⟨by rw [HLW.out, HV.out]; rfl, only_trans G1.out (only_trans G.out x1)⟩
        · have HV : Hid (okC (cfTal k0 k1) xs = false) := Lib.hid (by rw [HOK.out]; simp [hcf])
          refine wp_region_gen 16 (JC [some (.int .i64 ((i : Int))), some (.int .i64 ((i : Int))), some (.int .i64 ((xs.length : Int))), some (.bool true), some (.bool true), some (.func (.func 78) #[] #[]), some (.slice (some ⟨b, o, none⟩) (xs.length) (c)), some (.int .i64 ((i : Int))), some (.pointer (some ⟨b, o + i * 3, none⟩)), some (.agg x.cells.toArray), some (.agg #[.int .i64 k0, .string k1, .int .i64 0]), some (.int .i64 (cfTal k0 k1 x)), some (.bool false), some (.bool false), some (.int .i64 ((i : Int))), some (.bool false)] (fun D u wx => W0.grownBy wx none)) (by kernel_rfl) (by kernel_rfl) ?_ ?_ ?_
          · intro u
            exact ⟨(fun j c _ h => by cases h), only_drew (only_refl _ _)⟩
          · intro AA hA
            have hasz : AA.tmps.size = 49 := by rw [hA]; kernel_rfl
            have ea0 : AA.eval (.tmp 0) = .slice (some ⟨b, o, none⟩) (xs.length) (c) := by rw [hA]; kernel_rfl
            have ea2 : AA.eval (.tmp 2) = .func (.func 78) #[] #[] := by rw [hA]; kernel_rfl
            have ea4 : AA.eval (.tmp 4) = .pointer (some ⟨tb, 0, none⟩) := by rw [hA]; kernel_rfl
            have ea8 : AA.eval (.tmp 8) = .int .i64 ((xs.length : Int)) := by rw [hA]; kernel_rfl
            have ea9 : AA.eval (.tmp 9) = .int .i64 ((i : Int)) := by rw [hA]; kernel_rfl
            clear hA
            simp only [List.take_succ_cons, List.take_zero]
            refine .cons ?_ (.cons ?_ (.cons ?_ (.cons ?_ (.cons ?_ (.cons ?_ (.cons ?_ (.cons ?_ (.cons ?_ (.cons ?_ (.cons ?_ (.cons ?_ (.cons ?_ (.cons ?_ (.cons ?_ (.cons ?_ (.nil))))))))))))))))
            · exact gd_gen (by kernel_rfl) (Want.none_ rfl) rfl (fun D u w v h => by simpa [updB, upd] using h) (fun D u ρ w kn => by
                have e0 := kn.own 9 (c := .int .i64 ((i : Int))) (by kernel_rfl) ea9
                simp [execOp, kn.rho.con, e0, go_sem])
            · exact gd_gen (by kernel_rfl) (Want.none_ rfl) rfl (fun D u w v h => by simpa [updB, upd] using h) (fun D u ρ w kn => by
                have e0 := kn.own 9 (c := .int .i64 ((i : Int))) (by kernel_rfl) ea9
                simp [execOp, kn.rho.con, e0, go_sem])
            · exact gd_gen (by kernel_rfl) (Want.none_ rfl) rfl (fun D u w v h => by simpa [updB, upd] using h) (fun D u ρ w kn => by
                have e0 := kn.own 8 (c := .int .i64 ((xs.length : Int))) (by kernel_rfl) ea8
                simp [execOp, kn.rho.con, e0, go_sem])
            · exact gd_gen (by kernel_rfl) (Want.none_ rfl) rfl (fun D u w v h => by simpa [updB, upd] using h) (fun D u ρ w kn => by
                have e0 := kn.con 1 36 (c := .int .i64 ((i : Int))) (by kernel_rfl) (by omega) (by kernel_rfl) rfl
                have e1 := kn.con 2 37 (c := .int .i64 ((xs.length : Int))) (by kernel_rfl) (by omega) (by kernel_rfl) rfl
                simp [execOp, kn.rho.con, e0, e1, go_sem, hil])
            · exact gd_gen (by kernel_rfl) (Want.none_ rfl) rfl (fun D u w v h => by simpa [updB, upd] using h) (fun D u ρ w kn => by
                have e0 := kn.con 3 38 (c := .bool true) (by kernel_rfl) (by omega) (by kernel_rfl) rfl
                simp [execOp, kn.rho.con, e0, go_sem])
            · exact gd_gen (by kernel_rfl) (Want.some_ (g := 4) (v := true) rfl rfl (by kernel_rfl) (by omega) rfl rfl (by kernel_rfl)) rfl (fun D u w v h => by simpa [updB, upd] using h) (fun D u ρ w kn => by
                have e0 := kn.own 2 (c := .func (.func 78) #[] #[]) (by kernel_rfl) ea2
                simp [execOp, kn.rho.con, e0, go_sem])
            · exact gd_gen (by kernel_rfl) (Want.some_ (g := 4) (v := true) rfl rfl (by kernel_rfl) (by omega) rfl rfl (by kernel_rfl)) rfl (fun D u w v h => by simpa [updB, upd] using h) (fun D u ρ w kn => by
                have e0 := kn.own 0 (c := .slice (some ⟨b, o, none⟩) (xs.length) (c)) (by kernel_rfl) ea0
                simp [execOp, kn.rho.con, e0, go_sem])
            · exact gd_gen (by kernel_rfl) (Want.some_ (g := 4) (v := true) rfl rfl (by kernel_rfl) (by omega) rfl rfl (by kernel_rfl)) rfl (fun D u w v h => by simpa [updB, upd] using h) (fun D u ρ w kn => by
                have e0 := kn.own 9 (c := .int .i64 ((i : Int))) (by kernel_rfl) ea9
                simp [execOp, kn.rho.con, e0, go_sem])
            · exact gd_gen (by kernel_rfl) (Want.some_ (g := 4) (v := true) rfl rfl (by kernel_rfl) (by omega) rfl rfl (by kernel_rfl)) rfl (fun D u w v h => by simpa [updB, upd] using h) (fun D u ρ w kn => by
                have e0 := kn.con 6 41 (c := .slice (some ⟨b, o, none⟩) (xs.length) (c)) (by kernel_rfl) (by omega) (by kernel_rfl) rfl
                have e1 := kn.con 7 42 (c := .int .i64 ((i : Int))) (by kernel_rfl) (by omega) (by kernel_rfl) rfl
                simp [execOp, kn.rho.con, e0, e1, go_sem, hil])
            · exact gd_gen (by kernel_rfl) (Want.some_ (g := 4) (v := true) rfl rfl (by kernel_rfl) (by omega) rfl rfl (by kernel_rfl)) rfl (fun D u w v h => by simpa [updB, upd] using h) (fun D u ρ w kn => by
                have e0 := kn.con 8 43 (c := .pointer (some ⟨b, o + i * 3, none⟩)) (by kernel_rfl) (by omega) (by kernel_rfl) rfl
                exact run_loadTal ρ w rfl e0 (loadB_tal w b (o + i * 3) x (fun j hj => (HRR.out.grown kn.ext (by simp)).flatAt Tal.cells_len HXM.out j hj)))
            · exact gd_gen (by kernel_rfl) (Want.some_ (g := 4) (v := true) rfl rfl (by kernel_rfl) (by omega) rfl rfl (by kernel_rfl)) rfl (fun D u w v h => by simpa [updB, upd] using h) (fun D u ρ w kn => by
                have e0 := kn.own 4 (c := .pointer (some ⟨tb, 0, none⟩)) (by kernel_rfl) ea4
                exact run_loadTal ρ w rfl e0 (loadT_tal w tb k0 k1 (HTB.out.grown kn.ext (by simp))))
            · refine gd_call (by kernel_rfl) (Want.some_ (g := 4) (v := true) rfl rfl (by kernel_rfl) (by omega) rfl rfl (by kernel_rfl)) 78 (fun D u ρ wx kn hD => ?_)
              have e0 := kn.con 5 40 (c := .func (.func 78) #[] #[]) (by kernel_rfl) (by omega) (by kernel_rfl) rfl
              have e1 := kn.con 9 44 (c := .agg x.cells.toArray) (by kernel_rfl) (by omega) (by kernel_rfl) rfl
              have e2 := kn.con 10 45 (c := .agg #[.int .i64 k0, .string k1, .int .i64 0]) (by kernel_rfl) (by omega) (by kernel_rfl) rfl
              refine ⟨#[.agg x.cells.toArray, .agg #[.int .i64 k0, .string k1, .int .i64 0]], ?_, (cloTal_any x k0 k1 wx).mono ?_⟩
              · simp only [execOp, resolve, Deferred.ofValue, List.map_toArray, List.map_cons, List.map_nil, e0, e1, e2, kn.rho.con, kn.rho.fn]
                simp [go_sem]
              · rintro e w' ⟨rfl, hg⟩
                exact ⟨_, rfl, (fun c h => by injection h with h; injection h), only_trans kn.ext hg⟩
            · exact gd_gen (by kernel_rfl) (Want.some_ (g := 4) (v := true) rfl rfl (by kernel_rfl) (by omega) rfl rfl (by kernel_rfl)) rfl (fun D u w v h => by simpa [updB, upd] using h) (fun D u ρ w kn => by
                have e0 := kn.con 11 46 (c := .int .i64 (cfTal k0 k1 x)) (by kernel_rfl) (by omega) (by kernel_rfl) rfl
                simp [execOp, kn.rho.con, e0, go_sem, hcf])
            · exact gd_gen (by kernel_rfl) (Want.none_ rfl) rfl (fun D u w v h => by simpa [updB, upd] using h) (fun D u ρ w kn => by
                have e0 := kn.con 4 39 (c := .bool true) (by kernel_rfl) (by omega) (by kernel_rfl) rfl
                have e1 := kn.con 12 47 (c := .bool false) (by kernel_rfl) (by omega) (by kernel_rfl) rfl
                simp [execOp, kn.rho.con, e0, e1, go_sem])
            · exact gd_gen (by kernel_rfl) (Want.none_ rfl) rfl (fun D u w v h => by simpa [updB, upd] using h) (fun D u ρ w kn => by
                have e0 := kn.con 0 35 (c := .int .i64 ((i : Int))) (by kernel_rfl) (by omega) (by kernel_rfl) rfl
                simp [execOp, kn.rho.con, e0, go_sem])
            · exact gd_gen (by kernel_rfl) (Want.none_ rfl) rfl (fun D u w v h => by simpa [updB, upd] using h) (fun D u ρ w kn => by
                have e0 := kn.con 13 48 (c := .bool false) (by kernel_rfl) (by omega) (by kernel_rfl) rfl
                simp [execOp, kn.rho.con, e0, go_sem])
          · intro D u w9 hJ hD
            obtain ⟨hcn, x1⟩ := hJ
            have e0 : u 14 = .int .i64 (i : Int) := hcn 14 _ rfl (hD 14 (by omega))
            have e13 : u 15 = .bool false := hcn 15 _ rfl (hD 15 (by omega))
            simp only [List.take_succ_cons, List.take_zero, List.drop_succ_cons, List.drop_zero, putAll]
            rw [e0, e13]
            clear hcn e0 e13 hD hcf
            go_simp
            go_wp2_with fail
            go_ret2
            exact ⟨by rw [HLW.out, HV.out]; rfl, only_trans G1.out (only_trans G.out x1)⟩
      · have hok : okC (cfTal k0 k1) xs = false := by unfold okC; rw [HLW.out, List.getElem?_eq_none (by omega)]
        have hil : ¬ ((i : Int) < (xs.length : Int)) := by omega
        have i2 : ¬ ((i : Int) < (i : Int)) := by omega
        have HV := Lib.hid hok
        clear hok hil0
        go_upto_region 8 with fail
        refine wp_region_gen 16 (JC [some (.int .i64 ((i : Int))), some (.int .i64 ((i : Int))), some (.int .i64 ((xs.length : Int))), some (.bool false), some (.bool false), some (undef), some (undef), some (undef), some (undef), some (undef), some (undef), some (undef), some (undef), some (.bool false), some (.int .i64 ((i : Int))), some (.bool false)] (fun D u wx => W0.grownBy wx none)) (by kernel_rfl) (by kernel_rfl) ?_ ?_ ?_
        · intro u
          exact ⟨(fun j c _ h => by cases h), only_drew (only_refl _ _)⟩
        · intro AA hA
          have hasz : AA.tmps.size = 49 := by rw [hA]; kernel_rfl
          have ea8 : AA.eval (.tmp 8) = .int .i64 ((xs.length : Int)) := by rw [hA]; kernel_rfl
          have ea9 : AA.eval (.tmp 9) = .int .i64 ((i : Int)) := by rw [hA]; kernel_rfl
          clear hA
          simp only [List.take_succ_cons, List.take_zero]
          refine .cons ?_ (.cons ?_ (.cons ?_ (.cons ?_ (.cons ?_ (.cons ?_ (.cons ?_ (.cons ?_ (.cons ?_ (.cons ?_ (.cons ?_ (.cons ?_ (.cons ?_ (.cons ?_ (.cons ?_ (.cons ?_ (.nil))))))))))))))))
          · exact gd_gen (by kernel_rfl) (Want.none_ rfl) rfl (fun D u w v h => by simpa [updB, upd] using h) (fun D u ρ w kn => by
              have e0 := kn.own 9 (c := .int .i64 ((i : Int))) (by kernel_rfl) ea9
              simp [execOp, kn.rho.con, e0, go_sem])
          · exact gd_gen (by kernel_rfl) (Want.none_ rfl) rfl (fun D u w v h => by simpa [updB, upd] using h) (fun D u ρ w kn => by
              have e0 := kn.own 9 (c := .int .i64 ((i : Int))) (by kernel_rfl) ea9
              simp [execOp, kn.rho.con, e0, go_sem])
          · exact gd_gen (by kernel_rfl) (Want.none_ rfl) rfl (fun D u w v h => by simpa [updB, upd] using h) (fun D u ρ w kn => by
              have e0 := kn.own 8 (c := .int .i64 ((xs.length : Int))) (by kernel_rfl) ea8
              simp [execOp, kn.rho.con, e0, go_sem])
          · exact gd_gen (by kernel_rfl) (Want.none_ rfl) rfl (fun D u w v h => by simpa [updB, upd] using h) (fun D u ρ w kn => by
              have e0 := kn.con 1 36 (c := .int .i64 ((i : Int))) (by kernel_rfl) (by omega) (by kernel_rfl) rfl
              have e1 := kn.con 2 37 (c := .int .i64 ((xs.length : Int))) (by kernel_rfl) (by omega) (by kernel_rfl) rfl
              simp [execOp, kn.rho.con, e0, e1, go_sem, hil])
          · exact gd_gen (by kernel_rfl) (Want.none_ rfl) rfl (fun D u w v h => by simpa [updB, upd] using h) (fun D u ρ w kn => by
              have e0 := kn.con 3 38 (c := .bool false) (by kernel_rfl) (by omega) (by kernel_rfl) rfl
              simp [execOp, kn.rho.con, e0, go_sem])
          · exact gd_off (by kernel_rfl) (Want.some_ (g := 4) (v := false) rfl rfl (by kernel_rfl) (by omega) rfl rfl (by kernel_rfl)) (.inr rfl) (fun D u w v h => by simpa [updB, upd] using h)
          · exact gd_off (by kernel_rfl) (Want.some_ (g := 4) (v := false) rfl rfl (by kernel_rfl) (by omega) rfl rfl (by kernel_rfl)) (.inr rfl) (fun D u w v h => by simpa [updB, upd] using h)
          · exact gd_off (by kernel_rfl) (Want.some_ (g := 4) (v := false) rfl rfl (by kernel_rfl) (by omega) rfl rfl (by kernel_rfl)) (.inr rfl) (fun D u w v h => by simpa [updB, upd] using h)
          · exact gd_off (by kernel_rfl) (Want.some_ (g := 4) (v := false) rfl rfl (by kernel_rfl) (by omega) rfl rfl (by kernel_rfl)) (.inr rfl) (fun D u w v h => by simpa [updB, upd] using h)
          · exact gd_off (by kernel_rfl) (Want.some_ (g := 4) (v := false) rfl rfl (by kernel_rfl) (by omega) rfl rfl (by kernel_rfl)) (.inr rfl) (fun D u w v h => by simpa [updB, upd] using h)
          · exact gd_off (by kernel_rfl) (Want.some_ (g := 4) (v := false) rfl rfl (by kernel_rfl) (by omega) rfl rfl (by kernel_rfl)) (.inr rfl) (fun D u w v h => by simpa [updB, upd] using h)
          · exact gd_off (by kernel_rfl) (Want.some_ (g := 4) (v := false) rfl rfl (by kernel_rfl) (by omega) rfl rfl (by kernel_rfl)) (.inr rfl) (fun D u w v h => by simpa [updB, upd] using h)
          · exact gd_off (by kernel_rfl) (Want.some_ (g := 4) (v := false) rfl rfl (by kernel_rfl) (by omega) rfl rfl (by kernel_rfl)) (.inr rfl) (fun D u w v h => by simpa [updB, upd] using h)
          · exact gd_gen (by kernel_rfl) (Want.none_ rfl) rfl (fun D u w v h => by simpa [updB, upd] using h) (fun D u ρ w kn => by
              have e0 := kn.con 4 39 (c := .bool false) (by kernel_rfl) (by omega) (by kernel_rfl) rfl
              have e1 := kn.con 12 47 (c := undef) (by kernel_rfl) (by omega) (by kernel_rfl) rfl
              simp [execOp, kn.rho.con, e0, e1, go_sem])
          · exact gd_gen (by kernel_rfl) (Want.none_ rfl) rfl (fun D u w v h => by simpa [updB, upd] using h) (fun D u ρ w kn => by
              have e0 := kn.con 0 35 (c := .int .i64 ((i : Int))) (by kernel_rfl) (by omega) (by kernel_rfl) rfl
              simp [execOp, kn.rho.con, e0, go_sem])
          · exact gd_gen (by kernel_rfl) (Want.none_ rfl) rfl (fun D u w v h => by simpa [updB, upd] using h) (fun D u ρ w kn => by
              have e0 := kn.con 13 48 (c := .bool false) (by kernel_rfl) (by omega) (by kernel_rfl) rfl
              simp [execOp, kn.rho.con, e0, go_sem])
        · intro D u w9 hJ hD
          obtain ⟨hcn, x1⟩ := hJ
          have e0 : u 14 = .int .i64 (i : Int) := hcn 14 _ rfl (hD 14 (by omega))
          have e13 : u 15 = .bool false := hcn 15 _ rfl (hD 15 (by omega))
          simp only [List.take_succ_cons, List.take_zero, List.drop_succ_cons, List.drop_zero, putAll]
          rw [e0, e13]
          clear hcn e0 e13 hD
          go_simp
          go_wp2_with fail
          go_ret2
          exact ⟨by rw [HLW.out, HV.out]; rfl, only_trans G1.out (only_trans G.out x1)⟩
set_option maxHeartbeats 1000000 in
theorem findTal_any {S : Nat → Prop} (A : Option Addr) (xs : List Tal) (c : Nat) (k0 : Int) (k1 : ByteArray) (w : World) (hr : Rd S w A (xs.flatMap Tal.cells)) (hl : xs.length ≤ 100000) (hm : MonoC (cfTal k0 k1) xs) :
    Calls Try.prog 64 #[.slice A xs.length c, .int .i64 k0, .string k1] w (BsPost w (lowC (cfTal k0 k1) xs) (okC (cfTal k0 k1) xs)) := by
  have K := Lib.hid (bsfTal_any A xs c k0 k1 w hr hl hm)
  clear hr hm
  go_enter Try.func64, Try.ntmps64
  go_wp2_with fail
  refine K.out.mono ?_
  rintro e w1 ⟨rfl, hg⟩
  go_wp2_with fail
  go_ret2
  exact ⟨rfl, hg⟩
end Go.Proofs.Ytiogpomgpknjlaa
