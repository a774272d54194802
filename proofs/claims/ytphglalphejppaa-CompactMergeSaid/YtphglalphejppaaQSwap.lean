/- (queue).Swap. No condition. -/
import Derived.Test.YtphglalphejppaaQLess
import Derived.Test.YtphglalphejppaaInsert
namespace Go.Proofs.Ytphglalphejppaa
open Go.RowKit
set_option linter.unusedVariables false
set_option linter.unusedSimpArgs false

/-- a list of events that is being merged -/
structure Src where
  rest : List Ev
  A : Option Addr
  c : Nat
  idx : Int
def Src.cells (s : Src) : List Value := [.slice s.A s.rest.length s.c, .int .i64 s.idx]
theorem Src.cells_len (s : Src) : s.cells.length = 2 := rfl
theorem Src.one (s : Src) : ∀ u ∈ s.cells, u.oneCell' = true := by simp [Src.cells, Value.oneCell']
theorem own_setk {w : World} {base e size g n c k : Nat} {xs : List Value} {u : Value} (h : w.ownsRow base e size (.slice (some ⟨g, 0, none⟩) n c) n xs) (hk : k < n * size) : (w.setCell ⟨g, k, none⟩ u).ownsRow base e size (.slice (some ⟨g, 0, none⟩) n c) n (xs.set k u) := by
  obtain ⟨hl, h2⟩ := h
  refine ⟨by simpa using hl, ?_⟩
  rcases h2 with ⟨h3, _⟩ | ⟨g', cap, cur, h3, h4, h5, h6, h7, h8, h9⟩
  · cases h3
  · injection h3 with e1 e2 e3
    injection e1 with e1
    injection e1 with e1
    subst e1 e3
    refine .inr ⟨g, c, cur.setIfInBounds k u, rfl, h4, ?_, h6, h7, by simpa using h8, ?_⟩
    · simp [World.setCell, Array.getElem?_modify, h5]
    · rw [Array.toList_setIfInBounds, List.take_set, h9]
theorem own_cellk {w : World} {base e size g n c k : Nat} {xs : List Value} (h : w.ownsRow base e size (.slice (some ⟨g, 0, none⟩) n c) n xs) (hk : k < n * size) : w.cell? ⟨g, k, none⟩ = xs[k]? ∧ w.frozen? ⟨g, k, none⟩ = false := by
  obtain ⟨hl, h2⟩ := h
  rcases h2 with ⟨h3, _⟩ | ⟨g', cap, cur, h3, h4, h5, h6, h7, h8, h9⟩
  · cases h3
  · injection h3 with e1 e2 e3
    injection e1 with e1
    injection e1 with e1
    subst e1 e3
    have hB : Blk w g e cur := h5
    refine ⟨?_, hB.frozen k⟩
    rw [hB.cell k, ← h9, List.getElem?_take_of_lt (by omega), Array.getElem?_toList]
def SRow (base : Nat) (w : World) (gr n cq : Nat) (ss : List Src) : Prop := ss.length = n ∧ w.ownsRow base 76 2 (.slice (some ⟨gr, 0, none⟩) n cq) n (ss.flatMap Src.cells)
theorem SRow.cells {base : Nat} {w : World} {gr n cq : Nat} {ss : List Src} (h : SRow base w gr n cq ss) {i : Nat} {s : Src} (hs : ss[i]? = some s) :
    w.cell? ⟨gr, i * 2, none⟩ = some (.slice s.A s.rest.length s.c) ∧ w.cell? ⟨gr, i * 2 + 1, none⟩ = some (.int .i64 s.idx) ∧ w.frozen? ⟨gr, i * 2, none⟩ = false ∧ w.frozen? ⟨gr, i * 2 + 1, none⟩ = false := by
  obtain ⟨h1, h2⟩ := h
  have hi : i < ss.length := (List.getElem?_eq_some_iff.1 hs).1
  have a0 := own_cellk h2 (k := i * 2) (by omega)
  have a1 := own_cellk h2 (k := i * 2 + 1) (by omega)
  have e0 := flat_at Src.cells 2 Src.cells_len ss i 0 hi (by omega)
  have e1 := flat_at Src.cells 2 Src.cells_len ss i 1 hi (by omega)
  have hs' : ss[i] = s := (List.getElem?_eq_some_iff.1 hs).2
  rw [hs'] at e0 e1
  rw [Nat.add_zero] at e0
  exact ⟨a0.1.trans e0, a1.1.trans e1, a0.2, a1.2⟩
theorem SRow.set {base : Nat} {w : World} {gr n cq : Nat} {ss : List Src} (h : SRow base w gr n cq ss) {i : Nat} (hi : i < n) (s : Src) :
    SRow base ((w.setCell ⟨gr, i * 2, none⟩ (.slice s.A s.rest.length s.c)).setCell ⟨gr, i * 2 + 1, none⟩ (.int .i64 s.idx)) gr n cq (ss.set i s) := by
  obtain ⟨h1, h2⟩ := h
  refine ⟨by simpa using h1, ?_⟩
  have a := own_setk (own_setk h2 (k := i * 2) (u := .slice s.A s.rest.length s.c) (by omega)) (k := i * 2 + 1) (u := .int .i64 s.idx) (by omega)
  have hi' : i < ss.length := by omega
  have f1 := flat_set Src.cells_len ss i 0 hi' (⟨s.rest, s.A, s.c, ss[i].idx⟩ : Src) (.slice s.A s.rest.length s.c) (by omega) rfl
  rw [Nat.add_zero] at f1
  rw [f1] at a
  have f2 := flat_set Src.cells_len (ss.set i (⟨s.rest, s.A, s.c, ss[i].idx⟩ : Src)) i 1 (by simpa using hi') s (.int .i64 s.idx) (by omega) (by simp [Src.cells])
  rw [f2] at a
  simpa using a
theorem SRow.grown {base : Nat} {w w' : World} {gr n cq : Nat} {ss : List Src} (h : SRow base w gr n cq ss) (hg : w.grownBy w' none) : SRow base w' gr n cq ss := ⟨h.1, own_ext h.2 hg⟩
theorem SRow.drew {base : Nat} {w : World} {gr n cq : Nat} {ss : List Src} (h : SRow base w gr n cq ss) : SRow base w.drew gr n cq ss := h
def swp (ss : List Src) (i j : Nat) (a b : Src) : List Src := (ss.set i b).set j a
def SwpPost (base : Nat) (w : World) (gr n cq : Nat) (ss : List Src) (e : Ending) (w' : World) : Prop := (∃ v, e = .returned v) ∧ SRow base w' gr n cq ss ∧ w.grownBy w' (some gr)
theorem load_src (w : World) (b o : Nat) (s : Src) (h0 : w.cell? ⟨b, o, none⟩ = some (.slice s.A s.rest.length s.c)) (h1 : w.cell? ⟨b, o + 1, none⟩ = some (.int .i64 s.idx)) :
    (Instr.loadAt 76 (.pointer (some ⟨b, o, none⟩))).run Try.prog w = .ok (.agg #[.slice s.A s.rest.length s.c, .int .i64 s.idx]) w := by
  have hu := Try.underlying76
  simp [go_sem, h0, h1]
theorem SRow.frozen {base : Nat} {w : World} {gr n cq : Nat} {ss : List Src} (h : SRow base w gr n cq ss) {i : Nat} (hi : i < n) : w.frozen? ⟨gr, i * 2, none⟩ = false ∧ w.frozen? ⟨gr, i * 2 + 1, none⟩ = false :=
  ⟨(own_cellk h.2 (k := i * 2) (by omega)).2, (own_cellk h.2 (k := i * 2 + 1) (by omega)).2⟩
theorem SRow.some_ {base : Nat} {w : World} {gr n cq : Nat} {ss : List Src} (h : SRow base w gr n cq ss) {i : Nat} (hi : i < n) : (∃ A l c, w.cell? ⟨gr, i * 2, none⟩ = some (.slice A l c)) ∧ ∃ x, w.cell? ⟨gr, i * 2 + 1, none⟩ = some (.int .i64 x) := by
  have hl : i < ss.length := by rw [h.1]; exact hi
  obtain ⟨c0, c1, -, -⟩ := h.cells (List.getElem?_eq_getElem hl)
  exact ⟨⟨_, _, _, c0⟩, _, c1⟩
theorem store_src (w : World) (g o : Nat) (s : Src) (f0 : w.frozen? ⟨g, o, none⟩ = false) (f1 : w.frozen? ⟨g, o + 1, none⟩ = false) (c0 : ∃ A l c, w.cell? ⟨g, o, none⟩ = some (.slice A l c)) (c1 : ∃ x, w.cell? ⟨g, o + 1, none⟩ = some (.int .i64 x)) :
    (Instr.storeAt 76 (.pointer (some ⟨g, o, none⟩)) (.agg #[.slice s.A s.rest.length s.c, .int .i64 s.idx])).run Try.prog w = .ok () ((w.setCell ⟨g, o, none⟩ (.slice s.A s.rest.length s.c)).setCell ⟨g, o + 1, none⟩ (.int .i64 s.idx)) := by
  obtain ⟨A, l, c, c0⟩ := c0
  obtain ⟨x, c1⟩ := c1
  have hu := Try.underlying76
  simp [go_sem, c0, c1, f0, f1]
theorem grown_sets (w : World) (g k : Nat) (u v : Value) : w.grownBy ((w.setCell ⟨g, k, none⟩ u).setCell ⟨g, k + 1, none⟩ v) (some g) := by
  have g1 : w.grownBy (w.setCell ⟨g, k, none⟩ u) (some g) := only_setCell (only_refl _ _) (p := ⟨g, k, none⟩) (.inl rfl) u
  exact only_setCell g1 (p := ⟨g, k + 1, none⟩) (.inl rfl) v
set_option maxHeartbeats 2000000 in
set_option maxRecDepth 100000 in
theorem swap_any (base gr n cq i j : Nat) (ss : List Src) (a b : Src) (w : World) (h : SRow base w gr n cq ss) (ha : ss[i]? = some a) (hb : ss[j]? = some b) :
    Calls Try.prog 111 #[.slice (some ⟨gr, 0, none⟩) n cq, .int .i64 i, .int .i64 j] w (SwpPost base w gr n cq (swp ss i j a b)) := by
  have H := Lib.hid h
  have HA := Lib.hid ha
  have HB := Lib.hid hb
  have hi : i < n := by have := (List.getElem?_eq_some_iff.1 ha).1; rw [h.1] at this; exact this
  have hj : j < n := by have := (List.getElem?_eq_some_iff.1 hb).1; rw [h.1] at this; exact this
  obtain ⟨a0, a1, a2, a3⟩ := h.cells ha
  obtain ⟨b0, b1, b2, b3⟩ := h.cells hb
  have hiI : (i : Int) < (n : Int) := by omega
  have hjI : (j : Int) < (n : Int) := by omega
  clear h ha hb
  go_enter Try.func111, Try.ntmps111
  go_wp2_with fail
  refine wp_region_gen 16 (JC [some (.slice (some ⟨gr, 0, none⟩) (n) (cq)), some (.int .i64 (i)), some (.slice (some ⟨gr, 0, none⟩) (n) (cq)), some (.int .i64 (j)), some (.slice (some ⟨gr, 0, none⟩) (n) (cq)), some (.int .i64 (j)), some (.pointer (some ⟨gr, j * 2, none⟩)), some (.agg #[.slice b.A b.rest.length b.c, .int .i64 b.idx]), some (.slice (some ⟨gr, 0, none⟩) (n) (cq)), some (.int .i64 (i)), some (.pointer (some ⟨gr, i * 2, none⟩)), some (.agg #[.slice a.A a.rest.length a.c, .int .i64 a.idx]), some (.pointer (some ⟨gr, i * 2, none⟩)), none, some (.pointer (some ⟨gr, j * 2, none⟩)), none] (fun D u wx => w.grownBy wx (some gr) ∧ (D 13 = true → D 7 = true ∧ D 11 = true) ∧ (D 15 = true → D 13 = true) ∧ SRow base wx gr n cq (if D 15 = true then swp ss i j a b else if D 13 = true then ss.set i b else ss))) (by kernel_rfl) (by kernel_rfl) ?_ ?_ ?_
  · intro u
    exact ⟨(fun j c _ h => by cases h), ⟨only_drew (only_refl _ _), (fun h => by cases h), (fun h => by cases h), H.out.drew⟩⟩
  · intro AA hA
    have hasz : AA.tmps.size = 20 := by rw [hA]; kernel_rfl
    have ea0 : AA.eval (.tmp 0) = .slice (some ⟨gr, 0, none⟩) (n) (cq) := by rw [hA]; kernel_rfl
    have ea1 : AA.eval (.tmp 1) = .int .i64 (i) := by rw [hA]; kernel_rfl
    have ea2 : AA.eval (.tmp 2) = .int .i64 (j) := by rw [hA]; kernel_rfl
    clear hA
    simp only [List.take_succ_cons, List.take_zero]
    refine .cons ?_ (.cons ?_ (.cons ?_ (.cons ?_ (.cons ?_ (.cons ?_ (.cons ?_ (.cons ?_ (.cons ?_ (.cons ?_ (.cons ?_ (.cons ?_ (.cons ?_ (.cons ?_ (.cons ?_ (.cons ?_ (.nil))))))))))))))))
    · exact gd_gen (by kernel_rfl) (Want.none_ rfl) rfl (fun D u w v h => by simpa [updB, upd] using h) (fun D u ρ w kn => by
        have e0 := kn.own 0 (c := .slice (some ⟨gr, 0, none⟩) (n) (cq)) (by kernel_rfl) ea0
        simp [execOp, kn.rho.con, e0, go_sem])
    · exact gd_gen (by kernel_rfl) (Want.none_ rfl) rfl (fun D u w v h => by simpa [updB, upd] using h) (fun D u ρ w kn => by
        have e0 := kn.own 1 (c := .int .i64 (i)) (by kernel_rfl) ea1
        simp [execOp, kn.rho.con, e0, go_sem])
    · exact gd_gen (by kernel_rfl) (Want.none_ rfl) rfl (fun D u w v h => by simpa [updB, upd] using h) (fun D u ρ w kn => by
        have e0 := kn.own 0 (c := .slice (some ⟨gr, 0, none⟩) (n) (cq)) (by kernel_rfl) ea0
        simp [execOp, kn.rho.con, e0, go_sem])
    · exact gd_gen (by kernel_rfl) (Want.none_ rfl) rfl (fun D u w v h => by simpa [updB, upd] using h) (fun D u ρ w kn => by
        have e0 := kn.own 2 (c := .int .i64 (j)) (by kernel_rfl) ea2
        simp [execOp, kn.rho.con, e0, go_sem])
    · exact gd_gen (by kernel_rfl) (Want.none_ rfl) rfl (fun D u w v h => by simpa [updB, upd] using h) (fun D u ρ w kn => by
        have e0 := kn.own 0 (c := .slice (some ⟨gr, 0, none⟩) (n) (cq)) (by kernel_rfl) ea0
        simp [execOp, kn.rho.con, e0, go_sem])
    · exact gd_gen (by kernel_rfl) (Want.none_ rfl) rfl (fun D u w v h => by simpa [updB, upd] using h) (fun D u ρ w kn => by
        have e0 := kn.own 2 (c := .int .i64 (j)) (by kernel_rfl) ea2
        simp [execOp, kn.rho.con, e0, go_sem])
    · exact gd_gen (by kernel_rfl) (Want.none_ rfl) rfl (fun D u w v h => by simpa [updB, upd] using h) (fun D u ρ w kn => by
        have e0 := kn.con 4 10 (c := .slice (some ⟨gr, 0, none⟩) (n) (cq)) (by kernel_rfl) (by omega) (by kernel_rfl) rfl
        have e1 := kn.con 5 11 (c := .int .i64 (j)) (by kernel_rfl) (by omega) (by kernel_rfl) rfl
        simp [execOp, kn.rho.con, e0, e1, go_sem, hjI])
    · refine gd_eff (by kernel_rfl) (Want.none_ rfl) (fun D u ρ wx kn hD => ?_)
      have e0 := kn.con 6 12 (c := .pointer (some ⟨gr, j * 2, none⟩)) (by kernel_rfl) (by omega) (by kernel_rfl) rfl
      obtain ⟨x1, x2, x3, x4⟩ := kn.ext
      have h13 : D 13 = false := by cases h : D 13 with | false => rfl | true => have := x2 h; rw [hD] at this; simp at this
      have h15 : D 15 = false := by cases h : D 15 with | false => rfl | true => rw [x3 h] at h13; cases h13
      have hS : SRow base wx gr n cq ss := by rw [h13, h15] at x4; exact x4
      obtain ⟨c0, c1, -, -⟩ := hS.cells HB.out
      refine ⟨.agg #[.slice b.A b.rest.length b.c, .int .i64 b.idx], wx, run_load ρ wx rfl e0 (load_src wx gr (j * 2) b c0 c1), (fun c h => by injection h with h; injection h), by simpa [updB, h13, h15] using And.intro x1 hS⟩
    · exact gd_gen (by kernel_rfl) (Want.none_ rfl) rfl (fun D u w v h => by simpa [updB, upd] using h) (fun D u ρ w kn => by
        have e0 := kn.own 0 (c := .slice (some ⟨gr, 0, none⟩) (n) (cq)) (by kernel_rfl) ea0
        simp [execOp, kn.rho.con, e0, go_sem])
    · exact gd_gen (by kernel_rfl) (Want.none_ rfl) rfl (fun D u w v h => by simpa [updB, upd] using h) (fun D u ρ w kn => by
        have e0 := kn.own 1 (c := .int .i64 (i)) (by kernel_rfl) ea1
        simp [execOp, kn.rho.con, e0, go_sem])
    · exact gd_gen (by kernel_rfl) (Want.none_ rfl) rfl (fun D u w v h => by simpa [updB, upd] using h) (fun D u ρ w kn => by
        have e0 := kn.con 8 14 (c := .slice (some ⟨gr, 0, none⟩) (n) (cq)) (by kernel_rfl) (by omega) (by kernel_rfl) rfl
        have e1 := kn.con 9 15 (c := .int .i64 (i)) (by kernel_rfl) (by omega) (by kernel_rfl) rfl
        simp [execOp, kn.rho.con, e0, e1, go_sem, hiI])
    · refine gd_eff (by kernel_rfl) (Want.none_ rfl) (fun D u ρ wx kn hD => ?_)
      have e0 := kn.con 10 16 (c := .pointer (some ⟨gr, i * 2, none⟩)) (by kernel_rfl) (by omega) (by kernel_rfl) rfl
      obtain ⟨x1, x2, x3, x4⟩ := kn.ext
      have h13 : D 13 = false := by cases h : D 13 with | false => rfl | true => have := x2 h; rw [hD] at this; simp at this
      have h15 : D 15 = false := by cases h : D 15 with | false => rfl | true => rw [x3 h] at h13; cases h13
      have hS : SRow base wx gr n cq ss := by rw [h13, h15] at x4; exact x4
      obtain ⟨c0, c1, -, -⟩ := hS.cells HA.out
      refine ⟨.agg #[.slice a.A a.rest.length a.c, .int .i64 a.idx], wx, run_load ρ wx rfl e0 (load_src wx gr (i * 2) a c0 c1), (fun c h => by injection h with h; injection h), by simpa [updB, h13, h15] using And.intro x1 hS⟩
    · exact gd_gen (by kernel_rfl) (Want.none_ rfl) rfl (fun D u w v h => by simpa [updB, upd] using h) (fun D u ρ w kn => by
        have e0 := kn.con 0 6 (c := .slice (some ⟨gr, 0, none⟩) (n) (cq)) (by kernel_rfl) (by omega) (by kernel_rfl) rfl
        have e1 := kn.con 1 7 (c := .int .i64 (i)) (by kernel_rfl) (by omega) (by kernel_rfl) rfl
        simp [execOp, kn.rho.con, e0, e1, go_sem, hiI])
    · refine gd_skip (by kernel_rfl) (Want.none_ rfl) rfl (fun D u ρ wx kn hD => ?_)
      have e0 := kn.con 12 18 (c := .pointer (some ⟨gr, i * 2, none⟩)) (by kernel_rfl) (by omega) (by kernel_rfl) rfl
      have e1 := kn.con 7 13 (c := .agg #[.slice b.A b.rest.length b.c, .int .i64 b.idx]) (by kernel_rfl) (by omega) (by kernel_rfl) rfl
      have d7 := kn.dep 7 (by kernel_rfl)
      have d11 := kn.dep 11 (by kernel_rfl)
      obtain ⟨x1, x2, x3, x4⟩ := kn.ext
      have h15 : D 15 = false := by cases h : D 15 with | false => rfl | true => have := x3 h; rw [hD] at this; cases this
      have hS : SRow base wx gr n cq ss := by rw [hD, h15] at x4; exact x4
      have hg := grown_sets wx gr (i * 2) (.slice b.A b.rest.length b.c) (.int .i64 b.idx)
      obtain ⟨f0, f1⟩ := hS.frozen (i := i) hi
      obtain ⟨g0, g1⟩ := hS.some_ (i := i) hi
      refine ⟨_, by simp only [execOp, e0, e1, Sem.run_bind, store_src wx gr (i * 2) b f0 f1 g0 g1, Result.andThen_ok, Sem.run_pure], only_trans x1 hg, ?_, ?_, ?_⟩
      · intro _
        exact ⟨by rw [updB_ne D (by omega)]; exact d7, by rw [updB_ne D (by omega)]; exact d11⟩
      · intro _
        exact updB_at D 13
      · rw [updB_at, updB_ne D (show (15 : Nat) ≠ 13 by omega), h15]
        exact hS.set hi b
    · exact gd_gen (by kernel_rfl) (Want.none_ rfl) rfl (fun D u w v h => by simpa [updB, upd] using h) (fun D u ρ w kn => by
        have e0 := kn.con 2 8 (c := .slice (some ⟨gr, 0, none⟩) (n) (cq)) (by kernel_rfl) (by omega) (by kernel_rfl) rfl
        have e1 := kn.con 3 9 (c := .int .i64 (j)) (by kernel_rfl) (by omega) (by kernel_rfl) rfl
        simp [execOp, kn.rho.con, e0, e1, go_sem, hjI])
    · refine gd_skip (by kernel_rfl) (Want.none_ rfl) rfl (fun D u ρ wx kn hD => ?_)
      have e0 := kn.con 14 19 (c := .pointer (some ⟨gr, j * 2, none⟩)) (by kernel_rfl) (by omega) (by kernel_rfl) rfl
      have e1 := kn.con 11 17 (c := .agg #[.slice a.A a.rest.length a.c, .int .i64 a.idx]) (by kernel_rfl) (by omega) (by kernel_rfl) rfl
      have d7 := kn.dep 13 (by kernel_rfl)
      have d11 := kn.dep 13 (by kernel_rfl)
      obtain ⟨x1, x2, x3, x4⟩ := kn.ext
      have hS : SRow base wx gr n cq (ss.set i b) := by rw [hD, d7] at x4; exact x4
      have hg := grown_sets wx gr (j * 2) (.slice a.A a.rest.length a.c) (.int .i64 a.idx)
      obtain ⟨f0, f1⟩ := hS.frozen (i := j) hj
      obtain ⟨g0, g1⟩ := hS.some_ (i := j) hj
      refine ⟨_, by simp only [execOp, e0, e1, Sem.run_bind, store_src wx gr (j * 2) a f0 f1 g0 g1, Result.andThen_ok, Sem.run_pure], only_trans x1 hg, ?_, ?_, ?_⟩
      · intro _
        have := x2 d7
        exact ⟨by rw [updB_ne D (by omega)]; exact this.1, by rw [updB_ne D (by omega)]; exact this.2⟩
      · intro _
        rw [updB_ne D (show (13 : Nat) ≠ 15 by omega)]
        exact d7
      · rw [updB_at]
        exact hS.set hj a
  · intro D u w3 hJ hD
    obtain ⟨-, x1, -, -, x4⟩ := hJ
    rw [hD 15 (by omega), if_pos rfl] at x4
    simp only [List.take_succ_cons, List.take_zero, List.drop_succ_cons, List.drop_zero, putAll]
    have X1 := Lib.hid x1
    have X4 := Lib.hid x4
    clear x1 x4 hD
    go_wp2_with fail
    go_end0
    exact ⟨⟨_, rfl⟩, X4.out, X1.out⟩
end Go.Proofs.Ytphglalphejppaa
