/- Due of package tiers and of the reference of chapter 33 (printed by mkdue.py). Condition: sizes. -/
import Derived.Test.YtganfhmjklcchaaTgt
import Derived.Test.YtganfhmjklcchaaGenC
import Derived.Test.YtganfhmjklcchaaFlatAt
import Derived.Test.YtganfhmjklcchaaShelf33
import Derived.Sort.OwnSortedInts
import Derived.Deep.DeepCutAuto
namespace Go.Proofs.Ytganfhmjklcchaa
open Go.RowKit
set_option linter.unusedVariables false
set_option linter.unusedSimpArgs false

/-- the identifiers of the segments that have to be moved -/
def dueL (ss : List SegD) (now : Int) : List Int := (ss.filter (fun s => tgt s now != s.tier)).map (·.id)
theorem dueL_snoc (ss : List SegD) (now : Int) (s : SegD) : dueL (ss ++ [s]) now = dueL ss now ++ if (tgt s now != s.tier) = true then [s.id] else [] := by
  unfold dueL
  rw [List.filter_append, List.map_append]
  congr 1
  by_cases h : (tgt s now != s.tier) = true
  · rw [if_pos h]; simp [List.filter_cons, h]
  · rw [if_neg h]; simp only [List.filter_cons, h]; rfl
theorem dueL_len (ss : List SegD) (now : Int) : (dueL ss now).length ≤ ss.length := by unfold dueL; rw [List.length_map]; exact List.length_filter_le _ _
theorem load_segO (w : World) (b o : Nat) (s : SegD) (h : ∀ j, j < 7 → w.cell? ⟨b, o + j, none⟩ = s.cells[j]?) :
    (Instr.loadAt 38 (.pointer (some ⟨b, o, none⟩))).run Try.prog w = .ok (.agg s.cells.toArray) w := by
  have b0 := h 0 (by omega)
  have b1 := h 1 (by omega)
  have b2 := h 2 (by omega)
  have b3 := h 3 (by omega)
  have b4 := h 4 (by omega)
  have b5 := h 5 (by omega)
  have b6 := h 6 (by omega)
  simp [SegD.cells] at b0 b1 b2 b3 b4 b5 b6
  have hu := Try.underlying38
  simp [go_sem, SegD.cells, b0, b1, b2, b3, b4, b5, b6]
theorem run_load (ρ : Operand → Value) (w : World) {o : Oper} {t : TypeId} {x : Nat} {p c : Value} (ho : o.op = .load t (.tmp x)) (hx : ρ (.tmp x) = p) (h : (Instr.loadAt t p).run Try.prog w = .ok c w) : (execOp ρ o).run Try.prog w = .ok (.value c) w := by
  simp only [execOp, ho, hx, Sem.run_bind, h, Result.andThen_ok, Sem.run_pure]
theorem intInfoM : (Try.prog.info? 3).map (fun i => (i.zero, i.size, i.bytes)) = some (some (.int .i64 0), 1, 8) := by kernel_rfl
def OfPost (w : World) (l : List Int) (e : Ending) (w' : World) : Prop :=
  ∃ (A : Option Addr) (c : Nat), e = .returned (.slice A l.length c) ∧ l.length ≤ c ∧ c ≤ maxLen ∧ Rd (w.heap.size ≤ ·) w' A (l.map (.int .i64)) ∧ w.grownBy w' none
set_option maxHeartbeats 4000000 in
set_option maxRecDepth 100000 in
theorem rdue_any {S : Nat → Prop} (num nid jn : Int) (A : Option Addr) (ss : List SegD) (c : Nat) (B : Option Addr) (nb d : Nat) (C : Option Addr) (nc f : Nat) (E : Option Addr) (ne h : Nat) (now : Int) (w : World) (hr : Rd S w A (ss.flatMap SegD.cells)) (hl : ss.length ≤ 100000) :
    Calls Try.prog 24 #[.agg #[.int .i64 num, .int .i64 nid, .int .i64 jn, .slice A ss.length c, .slice B nb d, .slice C nc f, .slice E ne h], .int .i64 now] w (OfPost w (dueL ss now)) := by
  obtain ⟨W1, hW1⟩ : ∃ W1, W1 = w.alloc (.cells #[.int .i64 num, .int .i64 nid, .int .i64 jn, .slice A ss.length c, .slice B nb d, .slice C nc f, .slice E ne h] 45) := ⟨_, rfl⟩
  have G1 : Hid (w.grownBy W1 none) := Lib.hid (by rw [hW1]; exact only_alloc (only_refl _ _) _)
  obtain ⟨mb, hmb⟩ : ∃ b, b = w.heap.size := ⟨_, rfl⟩
  have B1 : Hid (Blk W1 mb 45 #[.int .i64 num, .int .i64 nid, .int .i64 jn, .slice A ss.length c, .slice B nb d, .slice C nc f, .slice E ne h]) := Lib.hid (by rw [hW1, hmb]; exact Blk.new w _ _)
  have HR := Lib.hid (hr.grown G1.out (by simp))
  have HW := Lib.hid hW1.symm
  have HMB := Lib.hid hmb
  have hsz1 := G1.out.size
  clear hW1 hmb hr
  go_enter Try.func24, Try.ntmps24
  go_upto_region 1 with fail
  rw [HW.out, ← HMB.out]
  clear HW
  go_wp2_with fail
  go_loopw [5, 6] (fun vo vi wr => ∃ k : Nat, vi = .int .i64 k ∧ k ≤ ss.length ∧ wr.ownsRow W1.heap.size 3 1 vo (dueL (ss.take k) now).length ((dueL (ss.take k) now).map (.int .i64)) ∧ W1.grownBy wr none) (fun _ vi _ => ss.length - (intOf vi).toNat)
  case atStart => exact ⟨0, rfl, Nat.zero_le _, World.ownsRow_nil _ _ _ _, only_refl _ _⟩
  case round =>
    obtain ⟨k, rfl, hk, hO, hG⟩ := hrel
    have G := Lib.hid hG
    have O := Lib.hid hO
    have hol : (dueL (ss.take k) now).length ≤ 100000 := by
      have h1 := dueL_len (ss.take k) now
      have h2 := List.length_take_le k ss
      omega
    have hszr := hG.size
    have hB := B1.out.grown hG (by simp)
    have HBM := Lib.hid hB
    have c3 := hB.cell 3
    simp at c3
    obtain ⟨Ao, co, rfl, hoc, hom, -, hro⟩ := Rd.of_own hO (by decide)
    have RO := Lib.hid hro
    clear hG hO hB hro
    by_cases hkl : k < ss.length
    · obtain ⟨b, o, rfl, -, -, -⟩ := HR.out (by rw [flat_len _ 7 SegD.cells_len]; omega)
      obtain ⟨s, hs⟩ : ∃ s, ss[k]? = some s := ⟨_, List.getElem?_eq_getElem hkl⟩
      have HS := Lib.hid hs
      have HSR := Lib.hid (HR.out.grown G.out (by simp))
      have i1 : (k : Int) < (ss.length : Int) := by omega
      have i2 : (0 : Int) ≤ (k : Int) := by omega
      have HT : Hid (ss.take (k + 1) = ss.take k ++ [s]) := Lib.hid (by
        obtain ⟨q1, q2⟩ := List.getElem?_eq_some_iff.1 hs
        rw [List.take_succ_eq_append_getElem q1, q2])
      clear hs
      obtain ⟨W0, rfl⟩ : ∃ W0 : World, W0 = wr := ⟨_, rfl⟩
      by_cases h1 : (tgt s now != s.tier) = true
      · have HN : Hid (dueL (ss.take (k + 1)) now = dueL (ss.take k) now ++ [s.id]) := Lib.hid (by rw [HT.out, dueL_snoc, if_pos h1])
        have hne : ¬ tgt s now = s.tier := by simpa using h1
        clear h1
        go_upto_region 5 with fail
        refine wp_region_gen 14 (JC [some (.pointer (some ⟨mb, 3, none⟩)), some (.slice (some ⟨b, o, none⟩) (ss.length) (c)), some (.int .i64 ((k : Int))), some (.pointer (some ⟨b, o + k * 7, none⟩)), some (.agg s.cells.toArray), some (.int .i64 (now)), some (.int .i64 (tgt s now)), some (.pointer (some ⟨mb, 3, none⟩)), some (.slice (some ⟨b, o, none⟩) (ss.length) (c)), some (.int .i64 ((k : Int))), some (.pointer (some ⟨b, o + k * 7, none⟩)), some (.pointer (some ⟨b, o + k * 7 + 2, none⟩)), some (.int .i64 (s.tier)), some (.bool true)] (fun D u wx => W0.grownBy wx none)) (by kernel_rfl) (by kernel_rfl) ?_ ?_ ?_
        · intro u
          exact ⟨(fun j c _ h => by cases h), only_drew (only_refl _ _)⟩
        · intro AA hA
          have hasz : AA.tmps.size = 38 := by rw [hA]; kernel_rfl
          have ea1 : AA.eval (.tmp 1) = .int .i64 (now) := by rw [hA]; kernel_rfl
          have ea2 : AA.eval (.tmp 2) = .pointer (some ⟨mb, 0, none⟩) := by rw [hA]; kernel_rfl
          have ea6 : AA.eval (.tmp 6) = .int .i64 ((k : Int)) := by rw [hA]; kernel_rfl
          clear hA
          simp only [List.take_succ_cons, List.take_zero]
          refine .cons ?_ (.cons ?_ (.cons ?_ (.cons ?_ (.cons ?_ (.cons ?_ (.cons ?_ (.cons ?_ (.cons ?_ (.cons ?_ (.cons ?_ (.cons ?_ (.cons ?_ (.cons ?_ (.nil))))))))))))))
          · exact gd_gen (by kernel_rfl) (Want.none_ rfl) rfl (fun D u w v h => by simpa [updB, upd] using h) (fun D u ρ w kn => by
              have e0 := kn.own 2 (c := .pointer (some ⟨mb, 0, none⟩)) (by kernel_rfl) ea2
              simp [execOp, kn.rho.con, e0, go_sem])
          · exact gd_gen (by kernel_rfl) (Want.none_ rfl) rfl (fun D u w v h => by simpa [updB, upd] using h) (fun D u ρ w kn => by
              have e0 := kn.con 0 14 (c := .pointer (some ⟨mb, 3, none⟩)) (by kernel_rfl) (by omega) (by kernel_rfl) rfl
              have f0 := (HBM.out.grown kn.ext (by simp)).cell 3
              simp [execOp, kn.rho.con, e0, f0, go_sem])
          · exact gd_gen (by kernel_rfl) (Want.none_ rfl) rfl (fun D u w v h => by simpa [updB, upd] using h) (fun D u ρ w kn => by
              have e0 := kn.own 6 (c := .int .i64 ((k : Int))) (by kernel_rfl) ea6
              simp [execOp, kn.rho.con, e0, go_sem])
          · exact gd_gen (by kernel_rfl) (Want.none_ rfl) rfl (fun D u w v h => by simpa [updB, upd] using h) (fun D u ρ w kn => by
              have e0 := kn.con 1 15 (c := .slice (some ⟨b, o, none⟩) (ss.length) (c)) (by kernel_rfl) (by omega) (by kernel_rfl) rfl
              have e1 := kn.con 2 16 (c := .int .i64 ((k : Int))) (by kernel_rfl) (by omega) (by kernel_rfl) rfl
              simp [execOp, kn.rho.con, e0, e1, go_sem, i1])
          · exact gd_gen (by kernel_rfl) (Want.none_ rfl) rfl (fun D u w v h => by simpa [updB, upd] using h) (fun D u ρ w kn => by
              have e0 := kn.con 3 17 (c := .pointer (some ⟨b, o + k * 7, none⟩)) (by kernel_rfl) (by omega) (by kernel_rfl) rfl
              exact run_load ρ w rfl e0 (load_segO w b (o + k * 7) s (fun j hj => (HSR.out.grown kn.ext (by simp)).flatAt SegD.cells_len HS.out j hj)))
          · exact gd_gen (by kernel_rfl) (Want.none_ rfl) rfl (fun D u w v h => by simpa [updB, upd] using h) (fun D u ρ w kn => by
              have e0 := kn.own 1 (c := .int .i64 (now)) (by kernel_rfl) ea1
              simp [execOp, kn.rho.con, e0, go_sem])
          · refine gd_call (by kernel_rfl) (Want.none_ rfl) 21 (fun D u ρ wx kn hD => ?_)
            have e0 := kn.con 4 18 (c := .agg s.cells.toArray) (by kernel_rfl) (by omega) (by kernel_rfl) rfl
            have e1 := kn.con 5 19 (c := .int .i64 now) (by kernel_rfl) (by omega) (by kernel_rfl) rfl
            refine ⟨#[.agg s.cells.toArray, .int .i64 now], ?_, (rtarget_any s now wx).mono ?_⟩
            · simp only [execOp, resolve, Deferred.ofValue, List.map_toArray, List.map_cons, List.map_nil, e0, e1, kn.rho.con, kn.rho.fn]
              simp [go_sem]
            · rintro e w' ⟨rfl, hg⟩
              exact ⟨_, rfl, (fun c h => by injection h with h; injection h), only_trans kn.ext hg⟩
          · exact gd_gen (by kernel_rfl) (Want.none_ rfl) rfl (fun D u w v h => by simpa [updB, upd] using h) (fun D u ρ w kn => by
              have e0 := kn.own 2 (c := .pointer (some ⟨mb, 0, none⟩)) (by kernel_rfl) ea2
              simp [execOp, kn.rho.con, e0, go_sem])
          · exact gd_gen (by kernel_rfl) (Want.none_ rfl) rfl (fun D u w v h => by simpa [updB, upd] using h) (fun D u ρ w kn => by
              have e0 := kn.con 7 21 (c := .pointer (some ⟨mb, 3, none⟩)) (by kernel_rfl) (by omega) (by kernel_rfl) rfl
              have f0 := (HBM.out.grown kn.ext (by simp)).cell 3
              simp [execOp, kn.rho.con, e0, f0, go_sem])
          · exact gd_gen (by kernel_rfl) (Want.none_ rfl) rfl (fun D u w v h => by simpa [updB, upd] using h) (fun D u ρ w kn => by
              have e0 := kn.own 6 (c := .int .i64 ((k : Int))) (by kernel_rfl) ea6
              simp [execOp, kn.rho.con, e0, go_sem])
          · exact gd_gen (by kernel_rfl) (Want.none_ rfl) rfl (fun D u w v h => by simpa [updB, upd] using h) (fun D u ρ w kn => by
              have e0 := kn.con 8 22 (c := .slice (some ⟨b, o, none⟩) (ss.length) (c)) (by kernel_rfl) (by omega) (by kernel_rfl) rfl
              have e1 := kn.con 9 23 (c := .int .i64 ((k : Int))) (by kernel_rfl) (by omega) (by kernel_rfl) rfl
              simp [execOp, kn.rho.con, e0, e1, go_sem, i1])
          · exact gd_gen (by kernel_rfl) (Want.none_ rfl) rfl (fun D u w v h => by simpa [updB, upd] using h) (fun D u ρ w kn => by
              have e0 := kn.con 10 24 (c := .pointer (some ⟨b, o + k * 7, none⟩)) (by kernel_rfl) (by omega) (by kernel_rfl) rfl
              simp [execOp, kn.rho.con, e0, go_sem])
          · exact gd_gen (by kernel_rfl) (Want.none_ rfl) rfl (fun D u w v h => by simpa [updB, upd] using h) (fun D u ρ w kn => by
              have e0 := kn.con 11 25 (c := .pointer (some ⟨b, o + k * 7 + 2, none⟩)) (by kernel_rfl) (by omega) (by kernel_rfl) rfl
              have f0 := (show w.cell? ⟨b, o + k * 7 + 2, none⟩ = some (.int .i64 s.tier) from (HSR.out.grown kn.ext (by simp)).flatAt SegD.cells_len HS.out 2 (by omega))
              simp [execOp, kn.rho.con, e0, f0, go_sem])
          · exact gd_gen (by kernel_rfl) (Want.none_ rfl) rfl (fun D u w v h => by simpa [updB, upd] using h) (fun D u ρ w kn => by
              have e0 := kn.con 6 20 (c := .int .i64 (tgt s now)) (by kernel_rfl) (by omega) (by kernel_rfl) rfl
              have e1 := kn.con 12 26 (c := .int .i64 (s.tier)) (by kernel_rfl) (by omega) (by kernel_rfl) rfl
              simp [execOp, kn.rho.con, e0, e1, go_sem, hne])
        · intro D u w9 hJ hD
          obtain ⟨hcn, x1⟩ := hJ
          have e13 : u 13 = .bool true := hcn 13 _ rfl (hD 13 (by omega))
          have d0 := (HSR.out.grown x1 (by simp)).flatAt SegD.cells_len HS.out 0 (by omega)
          simp [SegD.cells] at d0
          have hb9 := (HBM.out.grown x1 (by simp)).cell 3
          simp at hb9
          have O9 := Lib.hid (own_ext O.out x1)
          have G9 := Lib.hid (only_trans G.out x1)
          have hs9 := x1.size
          simp only [List.take_succ_cons, List.take_zero, List.drop_succ_cons, List.drop_zero, putAll]
          rw [e13]
          clear hcn x1 e13 hD c3 hne
          go_simp
          go_wp2_with (at_builtin; refine wpList_append1 rfl _ _ 49 rfl W1.heap.size Try.underlying49 intInfoM rfl (by decide) (v := .slice Ao (dueL (ss.take k) now).length co) (by rfl) (w0 := w9) (cs := #[.int .i64 s.id]) O9.out (by rfl) rfl (by simp [Value.oneCell']) (by decide) (by omega) (by omega) ?_; intro v7 w7 hown7 hg7 hob7)
          have O7 : Hid (w7.ownsRow W1.heap.size 3 1 v7 (dueL (ss.take (k + 1)) now).length ((dueL (ss.take (k + 1)) now).map (.int .i64))) := Lib.hid (by rw [HN.out]; simpa using hown7)
          have G7 : Hid (W1.grownBy w7 none) := Lib.hid (only_own G9.out hg7 O9.out (Nat.le_refl _))
          clear hown7 hg7 hob7
          go_wp2_with fail
          go_roundw
          case rel => exact ⟨k + 1, by go_num, by omega, O7.out, G7.out⟩
          case measure => simp [intOf]; omega
      · have HN : Hid (dueL (ss.take (k + 1)) now = dueL (ss.take k) now) := Lib.hid (by rw [HT.out, dueL_snoc, if_neg h1, List.append_nil])
        have hne : tgt s now = s.tier := by simpa using h1
        clear h1
        go_upto_region 5 with fail
        refine wp_region_gen 14 (JC [some (.pointer (some ⟨mb, 3, none⟩)), some (.slice (some ⟨b, o, none⟩) (ss.length) (c)), some (.int .i64 ((k : Int))), some (.pointer (some ⟨b, o + k * 7, none⟩)), some (.agg s.cells.toArray), some (.int .i64 (now)), some (.int .i64 (tgt s now)), some (.pointer (some ⟨mb, 3, none⟩)), some (.slice (some ⟨b, o, none⟩) (ss.length) (c)), some (.int .i64 ((k : Int))), some (.pointer (some ⟨b, o + k * 7, none⟩)), some (.pointer (some ⟨b, o + k * 7 + 2, none⟩)), some (.int .i64 (s.tier)), some (.bool false)] (fun D u wx => W0.grownBy wx none)) (by kernel_rfl) (by kernel_rfl) ?_ ?_ ?_
        · intro u
          exact ⟨(fun j c _ h => by cases h), only_drew (only_refl _ _)⟩
        · intro AA hA
          have hasz : AA.tmps.size = 38 := by rw [hA]; kernel_rfl
          have ea1 : AA.eval (.tmp 1) = .int .i64 (now) := by rw [hA]; kernel_rfl
          have ea2 : AA.eval (.tmp 2) = .pointer (some ⟨mb, 0, none⟩) := by rw [hA]; kernel_rfl
          have ea6 : AA.eval (.tmp 6) = .int .i64 ((k : Int)) := by rw [hA]; kernel_rfl
          clear hA
          simp only [List.take_succ_cons, List.take_zero]
          refine .cons ?_ (.cons ?_ (.cons ?_ (.cons ?_ (.cons ?_ (.cons ?_ (.cons ?_ (.cons ?_ (.cons ?_ (.cons ?_ (.cons ?_ (.cons ?_ (.cons ?_ (.cons ?_ (.nil))))))))))))))
          · exact gd_gen (by kernel_rfl) (Want.none_ rfl) rfl (fun D u w v h => by simpa [updB, upd] using h) (fun D u ρ w kn => by
              have e0 := kn.own 2 (c := .pointer (some ⟨mb, 0, none⟩)) (by kernel_rfl) ea2
              simp [execOp, kn.rho.con, e0, go_sem])
          · exact gd_gen (by kernel_rfl) (Want.none_ rfl) rfl (fun D u w v h => by simpa [updB, upd] using h) (fun D u ρ w kn => by
              have e0 := kn.con 0 14 (c := .pointer (some ⟨mb, 3, none⟩)) (by kernel_rfl) (by omega) (by kernel_rfl) rfl
              have f0 := (HBM.out.grown kn.ext (by simp)).cell 3
              simp [execOp, kn.rho.con, e0, f0, go_sem])
          · exact gd_gen (by kernel_rfl) (Want.none_ rfl) rfl (fun D u w v h => by simpa [updB, upd] using h) (fun D u ρ w kn => by
              have e0 := kn.own 6 (c := .int .i64 ((k : Int))) (by kernel_rfl) ea6
              simp [execOp, kn.rho.con, e0, go_sem])
          · exact gd_gen (by kernel_rfl) (Want.none_ rfl) rfl (fun D u w v h => by simpa [updB, upd] using h) (fun D u ρ w kn => by
              have e0 := kn.con 1 15 (c := .slice (some ⟨b, o, none⟩) (ss.length) (c)) (by kernel_rfl) (by omega) (by kernel_rfl) rfl
              have e1 := kn.con 2 16 (c := .int .i64 ((k : Int))) (by kernel_rfl) (by omega) (by kernel_rfl) rfl
              simp [execOp, kn.rho.con, e0, e1, go_sem, i1])
          · exact gd_gen (by kernel_rfl) (Want.none_ rfl) rfl (fun D u w v h => by simpa [updB, upd] using h) (fun D u ρ w kn => by
              have e0 := kn.con 3 17 (c := .pointer (some ⟨b, o + k * 7, none⟩)) (by kernel_rfl) (by omega) (by kernel_rfl) rfl
              exact run_load ρ w rfl e0 (load_segO w b (o + k * 7) s (fun j hj => (HSR.out.grown kn.ext (by simp)).flatAt SegD.cells_len HS.out j hj)))
          · exact gd_gen (by kernel_rfl) (Want.none_ rfl) rfl (fun D u w v h => by simpa [updB, upd] using h) (fun D u ρ w kn => by
              have e0 := kn.own 1 (c := .int .i64 (now)) (by kernel_rfl) ea1
              simp [execOp, kn.rho.con, e0, go_sem])
          · refine gd_call (by kernel_rfl) (Want.none_ rfl) 21 (fun D u ρ wx kn hD => ?_)
            have e0 := kn.con 4 18 (c := .agg s.cells.toArray) (by kernel_rfl) (by omega) (by kernel_rfl) rfl
            have e1 := kn.con 5 19 (c := .int .i64 now) (by kernel_rfl) (by omega) (by kernel_rfl) rfl
            refine ⟨#[.agg s.cells.toArray, .int .i64 now], ?_, (rtarget_any s now wx).mono ?_⟩
            · simp only [execOp, resolve, Deferred.ofValue, List.map_toArray, List.map_cons, List.map_nil, e0, e1, kn.rho.con, kn.rho.fn]
              simp [go_sem]
            · rintro e w' ⟨rfl, hg⟩
              exact ⟨_, rfl, (fun c h => by injection h with h; injection h), only_trans kn.ext hg⟩
          · exact gd_gen (by kernel_rfl) (Want.none_ rfl) rfl (fun D u w v h => by simpa [updB, upd] using h) (fun D u ρ w kn => by
              have e0 := kn.own 2 (c := .pointer (some ⟨mb, 0, none⟩)) (by kernel_rfl) ea2
              simp [execOp, kn.rho.con, e0, go_sem])
          · exact gd_gen (by kernel_rfl) (Want.none_ rfl) rfl (fun D u w v h => by simpa [updB, upd] using h) (fun D u ρ w kn => by
              have e0 := kn.con 7 21 (c := .pointer (some ⟨mb, 3, none⟩)) (by kernel_rfl) (by omega) (by kernel_rfl) rfl
              have f0 := (HBM.out.grown kn.ext (by simp)).cell 3
              simp [execOp, kn.rho.con, e0, f0, go_sem])
          · exact gd_gen (by kernel_rfl) (Want.none_ rfl) rfl (fun D u w v h => by simpa [updB, upd] using h) (fun D u ρ w kn => by
              have e0 := kn.own 6 (c := .int .i64 ((k : Int))) (by kernel_rfl) ea6
              simp [execOp, kn.rho.con, e0, go_sem])
          · exact gd_gen (by kernel_rfl) (Want.none_ rfl) rfl (fun D u w v h => by simpa [updB, upd] using h) (fun D u ρ w kn => by
              have e0 := kn.con 8 22 (c := .slice (some ⟨b, o, none⟩) (ss.length) (c)) (by kernel_rfl) (by omega) (by kernel_rfl) rfl
              have e1 := kn.con 9 23 (c := .int .i64 ((k : Int))) (by kernel_rfl) (by omega) (by kernel_rfl) rfl
              simp [execOp, kn.rho.con, e0, e1, go_sem, i1])
          · exact gd_gen (by kernel_rfl) (Want.none_ rfl) rfl (fun D u w v h => by simpa [updB, upd] using h) (fun D u ρ w kn => by
              have e0 := kn.con 10 24 (c := .pointer (some ⟨b, o + k * 7, none⟩)) (by kernel_rfl) (by omega) (by kernel_rfl) rfl
              simp [execOp, kn.rho.con, e0, go_sem])
          · exact gd_gen (by kernel_rfl) (Want.none_ rfl) rfl (fun D u w v h => by simpa [updB, upd] using h) (fun D u ρ w kn => by
              have e0 := kn.con 11 25 (c := .pointer (some ⟨b, o + k * 7 + 2, none⟩)) (by kernel_rfl) (by omega) (by kernel_rfl) rfl
              have f0 := (show w.cell? ⟨b, o + k * 7 + 2, none⟩ = some (.int .i64 s.tier) from (HSR.out.grown kn.ext (by simp)).flatAt SegD.cells_len HS.out 2 (by omega))
              simp [execOp, kn.rho.con, e0, f0, go_sem])
          · exact gd_gen (by kernel_rfl) (Want.none_ rfl) rfl (fun D u w v h => by simpa [updB, upd] using h) (fun D u ρ w kn => by
              have e0 := kn.con 6 20 (c := .int .i64 (tgt s now)) (by kernel_rfl) (by omega) (by kernel_rfl) rfl
              have e1 := kn.con 12 26 (c := .int .i64 (s.tier)) (by kernel_rfl) (by omega) (by kernel_rfl) rfl
              simp [execOp, kn.rho.con, e0, e1, go_sem, hne])
        · intro D u w9 hJ hD
          obtain ⟨hcn, x1⟩ := hJ
          have e13 : u 13 = .bool false := hcn 13 _ rfl (hD 13 (by omega))
          have O9 := Lib.hid (own_ext O.out x1)
          have G9 := Lib.hid (only_trans G.out x1)
          simp only [List.take_succ_cons, List.take_zero, List.drop_succ_cons, List.drop_zero, putAll]
          rw [e13]
          clear hcn x1 e13 hD c3 hne
          go_simp
          go_wp2_with fail
          go_roundw
          case rel => exact ⟨k + 1, by go_num, by omega, by rw [HN.out]; exact O9.out, G9.out⟩
          case measure => simp [intOf]; omega
    · have i1 : ¬ ((k : Int) < (ss.length : Int)) := by omega
      have HT : Hid (dueL (ss.take k) now = dueL ss now) := Lib.hid (by rw [List.take_of_length_le (by omega)])
      go_wp2_with fail
      go_ret
      refine ⟨Ao, co, by rw [← HT.out]; rfl, by rw [← HT.out]; exact hoc, hom, by rw [← HT.out]; exact RO.out.mono (fun b hb _ => Nat.le_trans hsz1 hb), only_trans G1.out G.out⟩
theorem sort_asc {zs : List Int} (h : zs.Pairwise (· ≤ ·)) : (zs.mergeSort fun x y => decide (x ≤ y)) = zs := List.mergeSort_of_pairwise (by simpa using h)
set_option maxHeartbeats 4000000 in
set_option maxRecDepth 100000 in
theorem due_any {S : Nat → Prop} (num nid jn : Int) (A : Option Addr) (ss : List SegD) (c : Nat) (B : Option Addr) (nb d : Nat) (C : Option Addr) (nc f : Nat) (E : Option Addr) (ne h : Nat) (now : Int) (w : World) (hr : Rd S w A (ss.flatMap SegD.cells)) (hl : ss.length ≤ 100000) (hasc : (dueL ss now).Pairwise (· ≤ ·)) :
    Calls Try.prog 23 #[.agg #[.int .i64 num, .int .i64 nid, .int .i64 jn, .slice A ss.length c, .slice B nb d, .slice C nc f, .slice E ne h], .int .i64 now] w (OfPost w (dueL ss now)) := by
  obtain ⟨W1, hW1⟩ : ∃ W1, W1 = w.alloc (.cells #[.int .i64 num, .int .i64 nid, .int .i64 jn, .slice A ss.length c, .slice B nb d, .slice C nc f, .slice E ne h] 45) := ⟨_, rfl⟩
  have G1 : Hid (w.grownBy W1 none) := Lib.hid (by rw [hW1]; exact only_alloc (only_refl _ _) _)
  obtain ⟨mb, hmb⟩ : ∃ b, b = w.heap.size := ⟨_, rfl⟩
  have B1 : Hid (Blk W1 mb 45 #[.int .i64 num, .int .i64 nid, .int .i64 jn, .slice A ss.length c, .slice B nb d, .slice C nc f, .slice E ne h]) := Lib.hid (by rw [hW1, hmb]; exact Blk.new w _ _)
  have HR := Lib.hid (hr.grown G1.out (by simp))
  have HW := Lib.hid hW1.symm
  have HMB := Lib.hid hmb
  have HSA := Lib.hid (sort_asc hasc)
  have hsz1 := G1.out.size
  have c3 := B1.out.cell 3
  simp at c3
  clear hW1 hmb hr hasc
  go_enter Try.func23, Try.ntmps23
  go_upto_region 1 with fail
  rw [HW.out, ← HMB.out]
  clear HW
  go_wp2_with fail
  clear c3
  go_loopw [5, 11] (fun vo vi wr => ∃ k : Nat, vi = .int .i64 k ∧ k ≤ ss.length ∧ wr.ownsRow W1.heap.size 3 1 vo (dueL (ss.take k) now).length ((dueL (ss.take k) now).map (.int .i64)) ∧ W1.grownBy wr none) (fun _ vi _ => ss.length - (intOf vi).toNat)
  case atStart => exact ⟨0, rfl, Nat.zero_le _, World.ownsRow_nil _ _ _ _, only_refl _ _⟩
  case round =>
    obtain ⟨k, rfl, hk, hO, hG⟩ := hrel
    have G := Lib.hid hG
    have O := Lib.hid hO
    have hol : (dueL (ss.take k) now).length ≤ 100000 := by
      have h1 := dueL_len (ss.take k) now
      have h2 := List.length_take_le k ss
      omega
    have hszr := hG.size
    by_cases hkl : k < ss.length
    · obtain ⟨Ao, co, rfl, hoc, hom, -, hro⟩ := Rd.of_own hO (by decide)
      clear hG hO hro
      obtain ⟨b, o, rfl, -, hbo, -⟩ := (HR.out.grown G.out (by simp)) (by rw [flat_len _ 7 SegD.cells_len]; omega)
      obtain ⟨s, hs⟩ : ∃ s, ss[k]? = some s := ⟨_, List.getElem?_eq_getElem hkl⟩
      have hrr := HR.out.grown G.out (by simp)
      have d0 : wr.cell? ⟨b, o + k * 7, none⟩ = some (.int .i64 s.id) := hrr.flatAt SegD.cells_len hs 0 (by omega)
      have d1 : wr.cell? ⟨b, o + k * 7 + 1, none⟩ = some (.int .i64 s.level) := hrr.flatAt SegD.cells_len hs 1 (by omega)
      have d2 : wr.cell? ⟨b, o + k * 7 + 2, none⟩ = some (.int .i64 s.tier) := hrr.flatAt SegD.cells_len hs 2 (by omega)
      have d3 : wr.cell? ⟨b, o + k * 7 + 3, none⟩ = some (.int .i64 s.count) := hrr.flatAt SegD.cells_len hs 3 (by omega)
      have d4 : wr.cell? ⟨b, o + k * 7 + 4, none⟩ = some (.int .i64 s.min) := hrr.flatAt SegD.cells_len hs 4 (by omega)
      have d5 : wr.cell? ⟨b, o + k * 7 + 5, none⟩ = some (.int .i64 s.max) := hrr.flatAt SegD.cells_len hs 5 (by omega)
      have d6 : wr.cell? ⟨b, o + k * 7 + 6, none⟩ = some (.int .i64 s.size) := hrr.flatAt SegD.cells_len hs 6 (by omega)
      have HT : Hid (ss.take (k + 1) = ss.take k ++ [s]) := Lib.hid (by
        obtain ⟨q1, q2⟩ := List.getElem?_eq_some_iff.1 hs
        rw [List.take_succ_eq_append_getElem q1, q2])
      have i1 : (k : Int) < (ss.length : Int) := by omega
      have i2 : (0 : Int) ≤ (k : Int) := by omega
      obtain ⟨gs, hgs⟩ : ∃ g, g = wr.heap.size := ⟨_, rfl⟩
      obtain ⟨W0, hW0⟩ : ∃ W, W = wr.alloc (.cells #[.int .i64 s.id, .int .i64 s.level, .int .i64 s.tier, .int .i64 s.count, .int .i64 s.min, .int .i64 s.max, .int .i64 s.size] 38) := ⟨_, rfl⟩
      have HGS : Hid (Blk W0 gs 38 s.cells.toArray) := Lib.hid (by rw [hW0, hgs]; exact Blk.new wr _ _)
      have ga : wr.grownBy W0 none := by rw [hW0]; exact only_alloc (only_refl _ _) _
      have G0 := Lib.hid (only_trans G.out ga)
      have O0 := Lib.hid (own_ext O.out ga)
      have HW0 := Lib.hid hW0.symm
      have HGG := Lib.hid hgs.symm
      clear hs hrr hW0 hgs ga
      go_upto_region 5 with fail
      rw [HW0.out, HGG.out]
      clear d0 d1 d2 d3 d4 d5 d6 HW0 HGG
      by_cases h1 : (tgt s now != s.tier) = true
      · have HN : Hid (dueL (ss.take (k + 1)) now = dueL (ss.take k) now ++ [s.id]) := Lib.hid (by rw [HT.out, dueL_snoc, if_pos h1])
        have hne : ¬ tgt s now = s.tier := by simpa using h1
        clear h1
        refine wp_region_gen 6 (JC [some (.agg s.cells.toArray), some (.int .i64 (now)), some (.int .i64 (tgt s now)), some (.pointer (some ⟨gs, 2, none⟩)), some (.int .i64 (s.tier)), some (.bool true)] (fun D u wx => W0.grownBy wx none)) (by kernel_rfl) (by kernel_rfl) ?_ ?_ ?_
        · intro u
          exact ⟨(fun j c _ h => by cases h), only_drew (only_refl _ _)⟩
        · intro AA hA
          have hasz : AA.tmps.size = 30 := by rw [hA]; kernel_rfl
          have ea1 : AA.eval (.tmp 1) = .int .i64 (now) := by rw [hA]; kernel_rfl
          have ea7 : AA.eval (.tmp 7) = .pointer (some ⟨gs, 0, none⟩) := by rw [hA]; kernel_rfl
          clear hA
          simp only [List.take_succ_cons, List.take_zero]
          refine .cons ?_ (.cons ?_ (.cons ?_ (.cons ?_ (.cons ?_ (.cons ?_ (.nil))))))
          · exact gd_gen (by kernel_rfl) (Want.none_ rfl) rfl (fun D u w v h => by simpa [updB, upd] using h) (fun D u ρ w kn => by
              have e0 := kn.own 7 (c := .pointer (some ⟨gs, 0, none⟩)) (by kernel_rfl) ea7
              exact run_load ρ w rfl e0 (load_segO w gs 0 s (fun j hj => by rw [Nat.zero_add]; simpa using (HGS.out.grown kn.ext (by simp)).cell j)))
          · exact gd_gen (by kernel_rfl) (Want.none_ rfl) rfl (fun D u w v h => by simpa [updB, upd] using h) (fun D u ρ w kn => by
              have e0 := kn.own 1 (c := .int .i64 (now)) (by kernel_rfl) ea1
              simp [execOp, kn.rho.con, e0, go_sem])
          · refine gd_call (by kernel_rfl) (Want.none_ rfl) 20 (fun D u ρ wx kn hD => ?_)
            have e0 := kn.con 0 15 (c := .agg s.cells.toArray) (by kernel_rfl) (by omega) (by kernel_rfl) rfl
            have e1 := kn.con 1 16 (c := .int .i64 now) (by kernel_rfl) (by omega) (by kernel_rfl) rfl
            refine ⟨#[.agg s.cells.toArray, .int .i64 now], ?_, (target_any s now wx).mono ?_⟩
            · simp only [execOp, resolve, Deferred.ofValue, List.map_toArray, List.map_cons, List.map_nil, e0, e1, kn.rho.con, kn.rho.fn]
              simp [go_sem]
            · rintro e w' ⟨rfl, hg⟩
              exact ⟨_, rfl, (fun c h => by injection h with h; injection h), only_trans kn.ext hg⟩
          · exact gd_gen (by kernel_rfl) (Want.none_ rfl) rfl (fun D u w v h => by simpa [updB, upd] using h) (fun D u ρ w kn => by
              have e0 := kn.own 7 (c := .pointer (some ⟨gs, 0, none⟩)) (by kernel_rfl) ea7
              simp [execOp, kn.rho.con, e0, go_sem])
          · exact gd_gen (by kernel_rfl) (Want.none_ rfl) rfl (fun D u w v h => by simpa [updB, upd] using h) (fun D u ρ w kn => by
              have e0 := kn.con 3 18 (c := .pointer (some ⟨gs, 2, none⟩)) (by kernel_rfl) (by omega) (by kernel_rfl) rfl
              have f0 := (show w.cell? ⟨gs, 2, none⟩ = some (.int .i64 s.tier) from (HGS.out.grown kn.ext (by simp)).cell 2)
              simp [execOp, kn.rho.con, e0, f0, go_sem])
          · exact gd_gen (by kernel_rfl) (Want.none_ rfl) rfl (fun D u w v h => by simpa [updB, upd] using h) (fun D u ρ w kn => by
              have e0 := kn.con 2 17 (c := .int .i64 (tgt s now)) (by kernel_rfl) (by omega) (by kernel_rfl) rfl
              have e1 := kn.con 4 19 (c := .int .i64 (s.tier)) (by kernel_rfl) (by omega) (by kernel_rfl) rfl
              simp [execOp, kn.rho.con, e0, e1, go_sem, hne])
        · intro D u w9 hJ hD
          obtain ⟨hcn, x1⟩ := hJ
          have e5 : u 5 = .bool true := hcn 5 _ rfl (hD 5 (by omega))
          have d0 := (HGS.out.grown x1 (by simp)).cell 0
          simp [SegD.cells] at d0
          have O9 := Lib.hid (own_ext O0.out x1)
          have G9 := Lib.hid (only_trans G0.out x1)
          have hs9 := x1.size
          have hs8 := G0.out.size
          simp only [List.take_succ_cons, List.take_zero, List.drop_succ_cons, List.drop_zero, putAll]
          rw [e5]
          clear hcn x1 e5 hD hne
          go_simp
          go_wp2_with (at_builtin; refine wpList_append1 rfl _ _ 49 rfl W1.heap.size Try.underlying49 intInfoM rfl (by decide) (v := .slice Ao (dueL (ss.take k) now).length co) (by rfl) (w0 := w9) (cs := #[.int .i64 s.id]) O9.out (by rfl) rfl (by simp [Value.oneCell']) (by decide) (by omega) (by omega) ?_; intro v7 w7 hown7 hg7 hob7)
          have O7 : Hid (w7.ownsRow W1.heap.size 3 1 v7 (dueL (ss.take (k + 1)) now).length ((dueL (ss.take (k + 1)) now).map (.int .i64))) := Lib.hid (by rw [HN.out]; simpa using hown7)
          have G7 : Hid (W1.grownBy w7 none) := Lib.hid (only_own G9.out hg7 O9.out (Nat.le_refl _))
          clear hown7 hg7 hob7
          go_wp2_with fail
          go_roundw
          case rel => exact ⟨k + 1, by go_num, by omega, O7.out, G7.out⟩
          case measure => simp [intOf]; omega
      · have HN : Hid (dueL (ss.take (k + 1)) now = dueL (ss.take k) now) := Lib.hid (by rw [HT.out, dueL_snoc, if_neg h1, List.append_nil])
        have hne : tgt s now = s.tier := by simpa using h1
        clear h1
        refine wp_region_gen 6 (JC [some (.agg s.cells.toArray), some (.int .i64 (now)), some (.int .i64 (tgt s now)), some (.pointer (some ⟨gs, 2, none⟩)), some (.int .i64 (s.tier)), some (.bool false)] (fun D u wx => W0.grownBy wx none)) (by kernel_rfl) (by kernel_rfl) ?_ ?_ ?_
        · intro u
          exact ⟨(fun j c _ h => by cases h), only_drew (only_refl _ _)⟩
        · intro AA hA
          have hasz : AA.tmps.size = 30 := by rw [hA]; kernel_rfl
          have ea1 : AA.eval (.tmp 1) = .int .i64 (now) := by rw [hA]; kernel_rfl
          have ea7 : AA.eval (.tmp 7) = .pointer (some ⟨gs, 0, none⟩) := by rw [hA]; kernel_rfl
          clear hA
          simp only [List.take_succ_cons, List.take_zero]
          refine .cons ?_ (.cons ?_ (.cons ?_ (.cons ?_ (.cons ?_ (.cons ?_ (.nil))))))
          · exact gd_gen (by kernel_rfl) (Want.none_ rfl) rfl (fun D u w v h => by simpa [updB, upd] using h) (fun D u ρ w kn => by
              have e0 := kn.own 7 (c := .pointer (some ⟨gs, 0, none⟩)) (by kernel_rfl) ea7
              exact run_load ρ w rfl e0 (load_segO w gs 0 s (fun j hj => by rw [Nat.zero_add]; simpa using (HGS.out.grown kn.ext (by simp)).cell j)))
          · exact gd_gen (by kernel_rfl) (Want.none_ rfl) rfl (fun D u w v h => by simpa [updB, upd] using h) (fun D u ρ w kn => by
              have e0 := kn.own 1 (c := .int .i64 (now)) (by kernel_rfl) ea1
              simp [execOp, kn.rho.con, e0, go_sem])
          · refine gd_call (by kernel_rfl) (Want.none_ rfl) 20 (fun D u ρ wx kn hD => ?_)
            have e0 := kn.con 0 15 (c := .agg s.cells.toArray) (by kernel_rfl) (by omega) (by kernel_rfl) rfl
            have e1 := kn.con 1 16 (c := .int .i64 now) (by kernel_rfl) (by omega) (by kernel_rfl) rfl
            refine ⟨#[.agg s.cells.toArray, .int .i64 now], ?_, (target_any s now wx).mono ?_⟩
            · simp only [execOp, resolve, Deferred.ofValue, List.map_toArray, List.map_cons, List.map_nil, e0, e1, kn.rho.con, kn.rho.fn]
              simp [go_sem]
            · rintro e w' ⟨rfl, hg⟩
              exact ⟨_, rfl, (fun c h => by injection h with h; injection h), only_trans kn.ext hg⟩
          · exact gd_gen (by kernel_rfl) (Want.none_ rfl) rfl (fun D u w v h => by simpa [updB, upd] using h) (fun D u ρ w kn => by
              have e0 := kn.own 7 (c := .pointer (some ⟨gs, 0, none⟩)) (by kernel_rfl) ea7
              simp [execOp, kn.rho.con, e0, go_sem])
          · exact gd_gen (by kernel_rfl) (Want.none_ rfl) rfl (fun D u w v h => by simpa [updB, upd] using h) (fun D u ρ w kn => by
              have e0 := kn.con 3 18 (c := .pointer (some ⟨gs, 2, none⟩)) (by kernel_rfl) (by omega) (by kernel_rfl) rfl
              have f0 := (show w.cell? ⟨gs, 2, none⟩ = some (.int .i64 s.tier) from (HGS.out.grown kn.ext (by simp)).cell 2)
              simp [execOp, kn.rho.con, e0, f0, go_sem])
          · exact gd_gen (by kernel_rfl) (Want.none_ rfl) rfl (fun D u w v h => by simpa [updB, upd] using h) (fun D u ρ w kn => by
              have e0 := kn.con 2 17 (c := .int .i64 (tgt s now)) (by kernel_rfl) (by omega) (by kernel_rfl) rfl
              have e1 := kn.con 4 19 (c := .int .i64 (s.tier)) (by kernel_rfl) (by omega) (by kernel_rfl) rfl
              simp [execOp, kn.rho.con, e0, e1, go_sem, hne])
        · intro D u w9 hJ hD
          obtain ⟨hcn, x1⟩ := hJ
          have e5 : u 5 = .bool false := hcn 5 _ rfl (hD 5 (by omega))
          have O9 := Lib.hid (own_ext O0.out x1)
          have G9 := Lib.hid (only_trans G0.out x1)
          simp only [List.take_succ_cons, List.take_zero, List.drop_succ_cons, List.drop_zero, putAll]
          rw [e5]
          clear hcn x1 e5 hD hne
          go_simp
          go_wp2_with fail
          go_roundw
          case rel => exact ⟨k + 1, by go_num, by omega, by rw [HN.out]; exact O9.out, G9.out⟩
          case measure => simp [intOf]; omega
    · have i1 : ¬ ((k : Int) < (ss.length : Int)) := by omega
      have HT : Hid (dueL (ss.take k) now = dueL ss now) := Lib.hid (by rw [List.take_of_length_le (by omega)])
      obtain ⟨L, hL⟩ : ∃ L, L = dueL ss now := ⟨_, rfl⟩
      rw [HT.out, ← hL] at hO hol
      rw [← hL] at HSA
      have HL := Lib.hid hL
      have HO := Lib.hid hO
      obtain ⟨ho1, ho2⟩ := hO
      clear hG HT O hL
      rcases ho2 with ⟨rfl, hz⟩ | ⟨g, cap, cur, rfl, hge, hb, h1, h2, h3, h4⟩
      · have HE : Hid (dueL ss now = []) := Lib.hid (by rw [← HL.out]; exact List.eq_nil_of_length_eq_zero hz)
        clear ho1 hz HO HSA hol
        go_wp2_with fail
        refine (Try.slices_Sort_int_none none 0 _).mono ?_
        rintro e w2 ⟨rfl, rfl⟩
        go_wp2_with fail
        go_ret
        exact ⟨none, 0, by rw [HE.out]; rfl, by rw [HE.out]; exact Nat.zero_le _, by unfold maxLen; omega, by rw [HE.out]; exact Rd.nil, only_trans G1.out G.out⟩
      · have h4' : cur.toList.take L.length = L.map (.int .i64) := by simpa using h4
        have hH := holds_of_blockI hb h4'
        have hgl : g < wr.heap.size := (Array.getElem?_eq_some_iff.1 hb).1
        have KS := Lib.hid (Try.slices_Sort_int g 0 cap L wr hH hgl (by omega))
        have HB := Lib.hid hb
        have H3 := Lib.hid h3
        clear hH hb h3 h4 h4' ho1
        go_wp2_with fail
        refine KS.out.mono ?_
        rintro e w2 ⟨rfl, n, os, rfl⟩
        have HO2 := Lib.hid (ownsRow_sortedI (os := os) (n := n) (ts := L) (ss := L) rfl hge HB.out h1 h2 H3.out)
        have HG2 := Lib.hid (grownBy_sortedI (w := wr) (g := g) (n := n) (os := os) L.toArray)
        rw [HSA.out]
        obtain ⟨w2, hw2⟩ : ∃ w2, w2 = Go.Sort.grow (Go.Sort.putRow (Value.int .i64) (Go.Sort.ahead wr n) g 0 L.toArray) os := ⟨_, rfl⟩
        rw [← hw2] at HO2 HG2 ⊢
        clear hw2 KS
        obtain ⟨A9, c9, e9, hc9, hm9, -, hr9⟩ := Rd.of_own HO2.out (by decide)
        injection e9 with e91 e92 e93
        subst e91 e93
        have R9 := Lib.hid hr9
        clear hr9
        go_wp2_with fail
        go_ret
        rw [HL.out] at hc9 R9
        exact ⟨_, cap, by rw [← HL.out]; rfl, hc9, hm9, R9.out.mono (fun b hb _ => Nat.le_trans hsz1 hb), only_fresh (only_trans G1.out G.out) HG2.out (Nat.le_trans hsz1 hge)⟩
end Go.Proofs.Ytganfhmjklcchaa
