/- law31: CompactMerge (printed by mkmergelaw.py): the walk of the law itself. For every input. -/
import Derived.Test.YtphglalphejppaaERow
namespace Go.Proofs.Ytphglalphejppaa
open Go.RowKit
set_option linter.unusedVariables false
set_option linter.unusedSimpArgs false

/-- lists that can be merged -/
def LR (w wx : World) (A : Option Addr) (rs : List Pl) : Prop :=
  rs.length ≤ 5 ∧ Rd (fun _ => True) wx A (rs.map Pl.cell) ∧ (∀ p ∈ rs, p.Ok (fun _ => True) wx) ∧ (∀ p ∈ rs, ∀ e ∈ p.evs, e.Sub (fun _ => True) wx ∧ e.lines.length ≤ 100000 ∧ e.fields.length ≤ 100000) ∧ (rs.map (·.evs)).flatten.length ≤ 73 ∧ w.grownBy wx none
def OldB (N g go : Nat) (b : Nat) : Prop := b < N ∧ b ≠ g ∧ b ≠ go
/-- the row of lists, and the lists in old memory -/
def LS (base g go m N : Nat) (w : World) (qs : List Pl) (wx : World) : Prop :=
  wx.ownsRow base 26 1 (.slice (some ⟨go, 0, none⟩) m m) m (qs.map Pl.cell) ∧ (∀ p ∈ qs, p.Ok (OldB N g go) wx ∧ ∀ e ∈ p.evs, e.Sub (OldB N g go) wx ∧ e.lines.length ≤ 100000 ∧ e.fields.length ≤ 100000) ∧ w.grownBy wx none
theorem LS.turn {base g go m N x : Nat} {w wx w2 : World} {qs : List Pl} (h : LS base g go m N w qs wx) (hg : wx.grownBy w2 (some x)) (hx : x ≠ go) (hx2 : x = g ∨ N ≤ x) (hw : w.heap.size ≤ x) : LS base g go m N w qs w2 := by
  have hr : ∀ b, OldB N g go b → some b ≠ some x := fun b hb e => by
    injection e with e
    obtain ⟨h1, h2, h3⟩ := hb
    omega
  exact ⟨own_apart h.1 hg (by intro e; exact hx (by injection e with e; exact e.symm)), fun p hp => ⟨(h.2.1 p hp).1.grown hg hr, fun e he => ⟨((h.2.1 p hp).2 e he).1.grown hg hr, ((h.2.1 p hp).2 e he).2⟩⟩, only_fresh h.2.2 hg hw⟩
theorem LS.ext {base g go m N : Nat} {w wx w2 : World} {qs : List Pl} (h : LS base g go m N w qs wx) (hg : wx.grownBy w2 none) : LS base g go m N w qs w2 :=
  ⟨own_ext h.1 hg, fun p hp => ⟨(h.2.1 p hp).1.grown hg (by simp), fun e he => ⟨((h.2.1 p hp).2 e he).1.grown hg (by simp), ((h.2.1 p hp).2 e he).2⟩⟩, only_trans h.2.2 hg⟩
theorem TR.ls {base g go m : Nat} {l : List Int} {w wx : World} {qs : List Pl} (h : TR base g go m l w wx qs) (hgb : g < base) : LS base g go m wx.heap.size w qs wx := by
  obtain ⟨h1, h2, h3, h4, h5, h6⟩ := h
  have hgo := (h2.1.lt go rfl).1
  refine ⟨by have := h2.1; rw [h1] at this; exact this, fun p hp => ⟨?_, fun e he => ⟨(h3 p hp e he).1.mono (fun b hb hlt => ⟨hlt, by omega, by omega⟩), (h3 p hp e he).2⟩⟩, h6⟩
  obtain ⟨A2, c2, e2, k1, k2, -, k3⟩ := Rd.of_own (h2.2.1 p hp) (by decide)
  unfold Pl.cell at e2
  injection e2 with a1 a2 a3
  subst a1 a3
  refine ⟨fun hn => ?_, k1, k2⟩
  obtain ⟨b, off, e1, q1, q2, q3⟩ := k3 hn
  refine ⟨b, off, e1, ⟨q2, by omega, ?_⟩, q2, q3⟩
  have h7 := own_types h2.1 (h2.2.1 p hp) (by decide) rfl
  intro e; subst e
  exact h7 (by unfold Pl.cell; rw [e1]; rfl)
theorem TR.lr {base g go m : Nat} {l : List Int} {w wx : World} {qs : List Pl} (h : TR base g go m l w wx qs) (hm : m ≤ 4 := by assumption) : ∃ (A : Option Addr) (c : Nat) (rs : List Pl), Value.slice (some ⟨go, 0, none⟩) m m = .slice A rs.length c ∧ LR w wx A rs := by
  obtain ⟨h1, h2, h3, h4, h5, h6⟩ := h
  obtain ⟨A, c, e, -, -, h7, h8⟩ := h2.rd
  exact ⟨A, c, qs, e, by omega, h7.mono fun _ _ _ => trivial, fun p hp => (h8 p hp).mono fun _ _ _ => trivial, fun p hp e he => ⟨(h3 p hp e he).1.mono fun _ _ _ => trivial, (h3 p hp e he).2⟩, by omega, h6⟩
set_option maxHeartbeats 4000000 in
set_option maxRecDepth 100000 in
theorem law_merge (A : Option Addr) (l : List Int) (d : Nat) (w : World) (h : Rd (fun _ => True) w A (l.map (.int .u8))) (hc : l.length ≤ d) (hcm : d ≤ maxLen) (hx : ∀ x ∈ l, 0 ≤ x ∧ x ≤ 255) :
    Calls Try.prog 4 #[.slice A l.length d] w (TrueExt w) := by
  have HX := Lib.hid hx
  have HL := Lib.hid h
  clear hx h
  go_enter Try.func4, Try.ntmps4
  go_wp2_with (go_at_call 9; refine (awake_any _).mono ?_; rintro e w1 ⟨rfl, hg1⟩)
  refine (new_any A l d 500 _ (HL.out.grown hg1 (by simp)) hc hcm (by omega) HX.out).mono ?_
  rintro e w2 ⟨rfl, h2, hg2, hlt2⟩
  have G2 : Hid (w.grownBy w2 none) := only_trans hg1 hg2
  have hs2 := G2.out.size
  have hs1 := hg1.size
  generalize w1.heap.size = g at *
  clear HL HX hg1 hg2
  go_wp2_with fail
  refine (events_some g _ _ 6 _ h2 (by omega)).mono ?_
  rintro e w3 ⟨A3, c3, es, k3, rfl, hc3, hm3, hl3, hev, hsrt, hgood, h3, hg3⟩
  have G3 : Hid (w.grownBy w3 none) := only_fresh G2.out hg3 (by omega)
  have hs3 := hg3.size
  obtain ⟨base, hbs⟩ : ∃ b, b = w3.heap.size := ⟨_, rfl⟩
  have KP := Lib.hid (parts_any g _ k3 A3 es c3 w3 h3 (hev.1.mono (fun b hb _ => by show b ≠ g; omega)) hsrt (by omega))
  have BDD := Lib.hid (bdd_good hgood)
  have EV3 : Hid (Evs (fun b => g < b ∧ b < base) w3 A3 es) := Lib.hid (hev.mono (fun b hb hlt => ⟨by omega, by omega⟩))
  clear hev hsrt hgood h3 hg3 h2 G2
  go_wp2_with fail
  refine KP.out.mono ?_
  rintro e w4 ⟨go, m, ps, rfl, hm1, hm4, hPS⟩
  have T4 : Hid (TR base g go m (l.take 500) w w4 ps) := Lib.hid (by
    obtain ⟨p1, p2, p3, p4, p5⟩ := hPS
    refine ⟨p1, by rw [hbs]; exact p2, fun p hp e he => ?_, by have := p3.2.2; omega, p4, only_fresh G3.out p5 (by omega)⟩
    have he' : e ∈ es := by have := (p3.1 p hp).2 e he; rw [List.take_length] at this; exact this
    exact ⟨(EV3.out.2 e he').grown p5 (fun b hb e => by injection e; omega), BDD.out e he'⟩)
  have hgb : g < base := by omega
  have hgw : w.heap.size ≤ g := by omega
  have hgo3 := (hPS.2.1.1.lt go rfl).1
  rw [← hbs] at hgo3
  clear hPS EV3 BDD KP G3 hs1 hs2 hs3 hlt2 hbs hl3 hc3 hm3
  obtain ⟨k4, h4⟩ := T4.out.2.2.2.2.1
  go_wp2_with fail
  refine (next_some g _ k4 4 _ h4 (by omega) (by omega)).mono ?_
  rintro e w5 ⟨v5, k5, rfl, hv5, h5, hg5⟩
  have T5 := Lib.hid (T4.out.next h5 hg5 hgb hgw)
  clear h5 hg5 h4 T4
  have hwb : w.heap.size ≤ base := by omega
  obtain ⟨B5, hB5⟩ : ∃ B : Bool, (v5 == 3) = B := ⟨_, rfl⟩
  go_upto_if 23 with fail
  go_cut [] (fun wx => ∃ qs, TR base g go m (l.take 500) w wx qs)
  case first =>
    cases B5 with
    | false =>
      go_wp2_with fail
      go_meet
      exact ⟨ps, T5.out⟩
    | true =>
      obtain ⟨k6, h6⟩ := T5.out.2.2.2.2.1
      clear hB5
      go_wp2_with fail
      refine (next_some g _ k6 m _ h6 (by omega) (by omega)).mono ?_
      rintro e w6 ⟨v6, k7, rfl, hv6, h7, hg7⟩
      obtain ⟨k, rfl⟩ := Int.eq_ofNat_of_zero_le hv6.1
      have T6 := Lib.hid (T5.out.next h7 hg7 hgb hgw)
      clear h7 hg7 h6 T5
      have hkm : k < m := by omega
      obtain ⟨p, hp, hpm, c0, hpo, hgne, hgo⟩ := T6.out.2.1.at_ T6.out.1 hkm
      have hpl := T6.out.len hpm
      have HPK := Lib.hid hp
      have HPO := Lib.hid hpo
      obtain ⟨pe, pa, pc⟩ := p
      simp only [Pl.cell] at c0 hpl hgne
      clear hp hpm hpo
      by_cases hn1 : 1 < pe.length
      · have hn1I : (1 : Int) < (pe.length : Int) := by omega
        obtain ⟨k8, h8⟩ := T6.out.2.2.2.2.1
        go_wp2_with fail
        refine (next_some g _ k8 pe.length _ h8 (by omega) (by omega)).mono ?_
        rintro e w8 ⟨v8, k9, rfl, hv8, h9, hg9⟩
        obtain ⟨i, rfl⟩ := Int.eq_ofNat_of_zero_le hv8.1
        have T8 := Lib.hid (T6.out.next h9 hg9 hgb hgw)
        clear h9 hg9 h8 T6 HPO c0 hgo hgne
        obtain ⟨p, hp, hpm, c0, hpo, hgne, hgo⟩ := T8.out.2.1.at_ T8.out.1 hkm
        obtain rfl : p = ⟨pe, pa, pc⟩ := by have := HPK.out; rw [hp] at this; injection this
        simp only [Pl.cell] at c0 hpo hgne
        obtain ⟨n, hn⟩ : ∃ n, pe.length = n + 1 := ⟨pe.length - 1, by omega⟩
        have hpo2 := hpo
        rw [hn] at hpo2
        obtain ⟨gr, cap, e1, hgr, -, -⟩ := own_shape hpo2
        injection e1 with e1 e2 e3
        subst e1 e3
        clear hpo2 hn e2
        obtain ⟨cap, rfl⟩ : ∃ cap, cap = pc := ⟨_, rfl⟩
        obtain ⟨n, hnl⟩ : ∃ n, n = pe.length := ⟨_, rfl⟩
        rw [← hnl] at hpo c0 hn1I hgne hv8 hpl ⊢
        obtain ⟨es, hes⟩ : ∃ es, es = pe := ⟨_, rfl⟩
        obtain ⟨W0, rfl⟩ : ∃ W0 : World, W0 = w8 := ⟨_, rfl⟩
        have HE : Hid (ER base W0 gr n cap es) := Lib.hid (by rw [hes]; exact ⟨hnl.symm, hpo⟩)
        obtain ⟨a, ha⟩ : ∃ a, es[0]? = some a := ⟨_, List.getElem?_eq_getElem (by rw [hes]; omega)⟩
        obtain ⟨b, hb⟩ : ∃ b, es[i]? = some b := ⟨_, List.getElem?_eq_getElem (by rw [hes]; omega)⟩
        have HA := Lib.hid ha
        have HB := Lib.hid hb
        have hgg : some go ≠ some gr := fun e => hgne e.symm
        have hin : i < n := by omega
        have hn0 : 0 < n := by omega
        have HES := Lib.hid hes
        have HNL := Lib.hid hnl
        have HP8 := Lib.hid hp
        clear ha hb hes hnl hp hpm hpo HPK
        go_wp2_with fail
        refine wp_region_gen 26 (JC [some (.slice (some ⟨go, 0, none⟩) m m), some (.int .i64 ((k : Int))), some (.pointer (some ⟨go, k, none⟩)), some (.slice (some ⟨gr, 0, none⟩) (n) (cap)), some (.slice (some ⟨go, 0, none⟩) m m), some (.int .i64 ((k : Int))), some (.pointer (some ⟨go, k, none⟩)), some (.slice (some ⟨gr, 0, none⟩) (n) (cap)), some (.int .i64 ((i : Int))), some (.slice (some ⟨go, 0, none⟩) m m), some (.int .i64 ((k : Int))), some (.pointer (some ⟨go, k, none⟩)), some (.slice (some ⟨gr, 0, none⟩) (n) (cap)), some (.int .i64 ((i : Int))), some (.pointer (some ⟨gr, i * 10, none⟩)), some (.agg b.cells.toArray), some (.slice (some ⟨go, 0, none⟩) m m), some (.int .i64 ((k : Int))), some (.pointer (some ⟨go, k, none⟩)), some (.slice (some ⟨gr, 0, none⟩) (n) (cap)), some (.pointer (some ⟨gr, 0, none⟩)), some (.agg a.cells.toArray), some (.pointer (some ⟨gr, 0, none⟩)), none, some (.pointer (some ⟨gr, i * 10, none⟩)), none] (fun D u wx => W0.grownBy wx (some gr) ∧ (D 23 = true → D 15 = true ∧ D 21 = true) ∧ (D 25 = true → D 23 = true) ∧ ER base wx gr n cap (if D 25 = true then (es.set 0 b).set i a else if D 23 = true then es.set 0 b else es))) (by kernel_rfl) (by kernel_rfl) ?_ ?_ ?_
        · intro u
          exact ⟨(fun j c _ h => by cases h), ⟨only_drew (only_refl _ _), (fun h => by cases h), (fun h => by cases h), HE.out⟩⟩
        · intro AA hA
          have hasz : AA.tmps.size = 110 := by rw [hA]; kernel_rfl
          have ea4 : AA.eval (.tmp 4) = .slice (some ⟨go, 0, none⟩) m m := by rw [hA]; kernel_rfl
          have ea5 : AA.eval (.tmp 5) = .int .i64 ((k : Int)) := by rw [hA]; kernel_rfl
          have ea7 : AA.eval (.tmp 7) = .int .i64 ((i : Int)) := by rw [hA]; kernel_rfl
          clear hA
          simp only [List.take_succ_cons, List.take_zero]
          refine .cons ?_ (.cons ?_ (.cons ?_ (.cons ?_ (.cons ?_ (.cons ?_ (.cons ?_ (.cons ?_ (.cons ?_ (.cons ?_ (.cons ?_ (.cons ?_ (.cons ?_ (.cons ?_ (.cons ?_ (.cons ?_ (.cons ?_ (.cons ?_ (.cons ?_ (.cons ?_ (.cons ?_ (.cons ?_ (.cons ?_ (.cons ?_ (.cons ?_ (.cons ?_ (.nil))))))))))))))))))))))))))
          · exact gd_gen (by kernel_rfl) (Want.none_ rfl) rfl (fun D u w v h => by simpa [updB, upd] using h) (fun D u ρ w kn => by
              have e0 := kn.own 4 (c := .slice (some ⟨go, 0, none⟩) m m) (by kernel_rfl) ea4
              simp [execOp, kn.rho.con, e0, go_sem])
          · exact gd_gen (by kernel_rfl) (Want.none_ rfl) rfl (fun D u w v h => by simpa [updB, upd] using h) (fun D u ρ w kn => by
              have e0 := kn.own 5 (c := .int .i64 ((k : Int))) (by kernel_rfl) ea5
              simp [execOp, kn.rho.con, e0, go_sem])
          · exact gd_gen (by kernel_rfl) (Want.none_ rfl) rfl (fun D u w v h => by simpa [updB, upd] using h) (fun D u ρ w kn => by
              have e0 := kn.con 0 38 (c := .slice (some ⟨go, 0, none⟩) m m) (by kernel_rfl) (by omega) (by kernel_rfl) rfl
              have e1 := kn.con 1 39 (c := .int .i64 ((k : Int))) (by kernel_rfl) (by omega) (by kernel_rfl) rfl
              simp [execOp, kn.rho.con, e0, e1, go_sem, hkm])
          · exact gd_gen (by kernel_rfl) (Want.none_ rfl) rfl (fun D u w v h => by simpa [updB, upd] using h) (fun D u ρ w kn => by
              have e0 := kn.con 2 40 (c := .pointer (some ⟨go, k, none⟩)) (by kernel_rfl) (by omega) (by kernel_rfl) rfl
              have f0 := (cell_of_g kn.ext.1 hgo hgg).trans c0
              simp [execOp, kn.rho.con, e0, f0, go_sem])
          · exact gd_gen (by kernel_rfl) (Want.none_ rfl) rfl (fun D u w v h => by simpa [updB, upd] using h) (fun D u ρ w kn => by
              have e0 := kn.own 4 (c := .slice (some ⟨go, 0, none⟩) m m) (by kernel_rfl) ea4
              simp [execOp, kn.rho.con, e0, go_sem])
          · exact gd_gen (by kernel_rfl) (Want.none_ rfl) rfl (fun D u w v h => by simpa [updB, upd] using h) (fun D u ρ w kn => by
              have e0 := kn.own 5 (c := .int .i64 ((k : Int))) (by kernel_rfl) ea5
              simp [execOp, kn.rho.con, e0, go_sem])
          · exact gd_gen (by kernel_rfl) (Want.none_ rfl) rfl (fun D u w v h => by simpa [updB, upd] using h) (fun D u ρ w kn => by
              have e0 := kn.con 4 42 (c := .slice (some ⟨go, 0, none⟩) m m) (by kernel_rfl) (by omega) (by kernel_rfl) rfl
              have e1 := kn.con 5 43 (c := .int .i64 ((k : Int))) (by kernel_rfl) (by omega) (by kernel_rfl) rfl
              simp [execOp, kn.rho.con, e0, e1, go_sem, hkm])
          · exact gd_gen (by kernel_rfl) (Want.none_ rfl) rfl (fun D u w v h => by simpa [updB, upd] using h) (fun D u ρ w kn => by
              have e0 := kn.con 6 44 (c := .pointer (some ⟨go, k, none⟩)) (by kernel_rfl) (by omega) (by kernel_rfl) rfl
              have f0 := (cell_of_g kn.ext.1 hgo hgg).trans c0
              simp [execOp, kn.rho.con, e0, f0, go_sem])
          · exact gd_gen (by kernel_rfl) (Want.none_ rfl) rfl (fun D u w v h => by simpa [updB, upd] using h) (fun D u ρ w kn => by
              have e0 := kn.own 7 (c := .int .i64 ((i : Int))) (by kernel_rfl) ea7
              simp [execOp, kn.rho.con, e0, go_sem])
          · exact gd_gen (by kernel_rfl) (Want.none_ rfl) rfl (fun D u w v h => by simpa [updB, upd] using h) (fun D u ρ w kn => by
              have e0 := kn.own 4 (c := .slice (some ⟨go, 0, none⟩) m m) (by kernel_rfl) ea4
              simp [execOp, kn.rho.con, e0, go_sem])
          · exact gd_gen (by kernel_rfl) (Want.none_ rfl) rfl (fun D u w v h => by simpa [updB, upd] using h) (fun D u ρ w kn => by
              have e0 := kn.own 5 (c := .int .i64 ((k : Int))) (by kernel_rfl) ea5
              simp [execOp, kn.rho.con, e0, go_sem])
          · exact gd_gen (by kernel_rfl) (Want.none_ rfl) rfl (fun D u w v h => by simpa [updB, upd] using h) (fun D u ρ w kn => by
              have e0 := kn.con 9 47 (c := .slice (some ⟨go, 0, none⟩) m m) (by kernel_rfl) (by omega) (by kernel_rfl) rfl
              have e1 := kn.con 10 48 (c := .int .i64 ((k : Int))) (by kernel_rfl) (by omega) (by kernel_rfl) rfl
              simp [execOp, kn.rho.con, e0, e1, go_sem, hkm])
          · exact gd_gen (by kernel_rfl) (Want.none_ rfl) rfl (fun D u w v h => by simpa [updB, upd] using h) (fun D u ρ w kn => by
              have e0 := kn.con 11 49 (c := .pointer (some ⟨go, k, none⟩)) (by kernel_rfl) (by omega) (by kernel_rfl) rfl
              have f0 := (cell_of_g kn.ext.1 hgo hgg).trans c0
              simp [execOp, kn.rho.con, e0, f0, go_sem])
          · exact gd_gen (by kernel_rfl) (Want.none_ rfl) rfl (fun D u w v h => by simpa [updB, upd] using h) (fun D u ρ w kn => by
              have e0 := kn.own 7 (c := .int .i64 ((i : Int))) (by kernel_rfl) ea7
              simp [execOp, kn.rho.con, e0, go_sem])
          · exact gd_gen (by kernel_rfl) (Want.none_ rfl) rfl (fun D u w v h => by simpa [updB, upd] using h) (fun D u ρ w kn => by
              have e0 := kn.con 12 50 (c := .slice (some ⟨gr, 0, none⟩) (n) (cap)) (by kernel_rfl) (by omega) (by kernel_rfl) rfl
              have e1 := kn.con 13 51 (c := .int .i64 ((i : Int))) (by kernel_rfl) (by omega) (by kernel_rfl) rfl
              simp [execOp, kn.rho.con, e0, e1, go_sem, hin, Nat.zero_add])
          · refine gd_eff (by kernel_rfl) (Want.none_ rfl) (fun D u ρ wx kn hD => ?_)
            have e0 := kn.con 14 52 (c := .pointer (some ⟨gr, i * 10, none⟩)) (by kernel_rfl) (by omega) (by kernel_rfl) rfl
            obtain ⟨x1, x2, x3, x4⟩ := kn.ext
            have h13 : D 23 = false := by cases h : D 23 with | false => rfl | true => have := x2 h; rw [hD] at this; simp at this
            have h15 : D 25 = false := by cases h : D 25 with | false => rfl | true => rw [x3 h] at h13; cases h13
            have hS : ER base wx gr n cap es := by rw [h13, h15] at x4; exact x4
            refine ⟨.agg b.cells.toArray, wx, run_load ρ wx rfl e0 (load_evAt wx gr (i * 10) b (fun m hm => (hS.cell HB.out m hm).1)), (fun c h => by injection h with h; injection h), by simpa [updB, h13, h15] using And.intro x1 hS⟩
          · exact gd_gen (by kernel_rfl) (Want.none_ rfl) rfl (fun D u w v h => by simpa [updB, upd] using h) (fun D u ρ w kn => by
              have e0 := kn.own 4 (c := .slice (some ⟨go, 0, none⟩) m m) (by kernel_rfl) ea4
              simp [execOp, kn.rho.con, e0, go_sem])
          · exact gd_gen (by kernel_rfl) (Want.none_ rfl) rfl (fun D u w v h => by simpa [updB, upd] using h) (fun D u ρ w kn => by
              have e0 := kn.own 5 (c := .int .i64 ((k : Int))) (by kernel_rfl) ea5
              simp [execOp, kn.rho.con, e0, go_sem])
          · exact gd_gen (by kernel_rfl) (Want.none_ rfl) rfl (fun D u w v h => by simpa [updB, upd] using h) (fun D u ρ w kn => by
              have e0 := kn.con 16 54 (c := .slice (some ⟨go, 0, none⟩) m m) (by kernel_rfl) (by omega) (by kernel_rfl) rfl
              have e1 := kn.con 17 55 (c := .int .i64 ((k : Int))) (by kernel_rfl) (by omega) (by kernel_rfl) rfl
              simp [execOp, kn.rho.con, e0, e1, go_sem, hkm])
          · exact gd_gen (by kernel_rfl) (Want.none_ rfl) rfl (fun D u w v h => by simpa [updB, upd] using h) (fun D u ρ w kn => by
              have e0 := kn.con 18 56 (c := .pointer (some ⟨go, k, none⟩)) (by kernel_rfl) (by omega) (by kernel_rfl) rfl
              have f0 := (cell_of_g kn.ext.1 hgo hgg).trans c0
              simp [execOp, kn.rho.con, e0, f0, go_sem])
          · exact gd_gen (by kernel_rfl) (Want.none_ rfl) rfl (fun D u w v h => by simpa [updB, upd] using h) (fun D u ρ w kn => by
              have e0 := kn.con 19 57 (c := .slice (some ⟨gr, 0, none⟩) (n) (cap)) (by kernel_rfl) (by omega) (by kernel_rfl) rfl
              simp [execOp, kn.rho.con, e0, go_sem, hn0])
          · refine gd_eff (by kernel_rfl) (Want.none_ rfl) (fun D u ρ wx kn hD => ?_)
            have e0 := kn.con 20 58 (c := .pointer (some ⟨gr, 0, none⟩)) (by kernel_rfl) (by omega) (by kernel_rfl) rfl
            obtain ⟨x1, x2, x3, x4⟩ := kn.ext
            have h13 : D 23 = false := by cases h : D 23 with | false => rfl | true => have := x2 h; rw [hD] at this; simp at this
            have h15 : D 25 = false := by cases h : D 25 with | false => rfl | true => rw [x3 h] at h13; cases h13
            have hS : ER base wx gr n cap es := by rw [h13, h15] at x4; exact x4
            refine ⟨.agg a.cells.toArray, wx, run_load ρ wx rfl e0 (load_evAt wx gr (0) a (fun m hm => by simpa using (hS.cell HA.out m hm).1)), (fun c h => by injection h with h; injection h), by simpa [updB, h13, h15] using And.intro x1 hS⟩
          · exact gd_gen (by kernel_rfl) (Want.none_ rfl) rfl (fun D u w v h => by simpa [updB, upd] using h) (fun D u ρ w kn => by
              have e0 := kn.con 3 41 (c := .slice (some ⟨gr, 0, none⟩) (n) (cap)) (by kernel_rfl) (by omega) (by kernel_rfl) rfl
              simp [execOp, kn.rho.con, e0, go_sem, hn0])
          · refine gd_skip (by kernel_rfl) (Want.none_ rfl) rfl (fun D u ρ wx kn hD => ?_)
            have e0 := kn.con 22 60 (c := .pointer (some ⟨gr, 0, none⟩)) (by kernel_rfl) (by omega) (by kernel_rfl) rfl
            have e1 := kn.con 15 53 (c := .agg b.cells.toArray) (by kernel_rfl) (by omega) (by kernel_rfl) rfl
            have d7 := kn.dep 15 (by kernel_rfl)
            have d11 := kn.dep 21 (by kernel_rfl)
            obtain ⟨x1, x2, x3, x4⟩ := kn.ext
            have h15 : D 25 = false := by cases h : D 25 with | false => rfl | true => have := x3 h; rw [hD] at this; cases this
            have hS : ER base wx gr n cap es := by rw [hD, h15] at x4; exact x4
            obtain ⟨o, ho⟩ : ∃ o, es[0]? = some o := ⟨_, List.getElem?_eq_getElem (by have := hS.1; omega)⟩
            refine ⟨setEvAt wx gr (0) b, by simp only [execOp, e0, e1, Sem.run_bind, store_evAt wx gr (0) o b (fun m hm => by simpa using hS.cell ho m hm), Result.andThen_ok, Sem.run_pure], only_trans x1 (grown_setEvAt wx gr (0) b), ?_, ?_, ?_⟩
            · intro _
              exact ⟨by rw [updB_ne D (by omega)]; exact d7, by rw [updB_ne D (by omega)]; exact d11⟩
            · intro _
              exact updB_at D 23
            · rw [updB_at, updB_ne D (show (25 : Nat) ≠ 23 by omega), h15]
              have := hS.set ho b
              rw [Nat.zero_mul] at this
              exact this
          · exact gd_gen (by kernel_rfl) (Want.none_ rfl) rfl (fun D u w v h => by simpa [updB, upd] using h) (fun D u ρ w kn => by
              have e0 := kn.con 7 45 (c := .slice (some ⟨gr, 0, none⟩) (n) (cap)) (by kernel_rfl) (by omega) (by kernel_rfl) rfl
              have e1 := kn.con 8 46 (c := .int .i64 ((i : Int))) (by kernel_rfl) (by omega) (by kernel_rfl) rfl
              simp [execOp, kn.rho.con, e0, e1, go_sem, hin, Nat.zero_add])
          · refine gd_skip (by kernel_rfl) (Want.none_ rfl) rfl (fun D u ρ wx kn hD => ?_)
            have e0 := kn.con 24 61 (c := .pointer (some ⟨gr, i * 10, none⟩)) (by kernel_rfl) (by omega) (by kernel_rfl) rfl
            have e1 := kn.con 21 59 (c := .agg a.cells.toArray) (by kernel_rfl) (by omega) (by kernel_rfl) rfl
            have d7 := kn.dep 23 (by kernel_rfl)
            have d11 := kn.dep 23 (by kernel_rfl)
            obtain ⟨x1, x2, x3, x4⟩ := kn.ext
            have hS : ER base wx gr n cap (es.set 0 b) := by rw [hD, d7] at x4; exact x4
            obtain ⟨o, ho⟩ : ∃ o, (es.set 0 b)[i]? = some o := ⟨_, List.getElem?_eq_getElem (by have := hS.1; omega)⟩
            refine ⟨setEvAt wx gr (i * 10) a, by simp only [execOp, e0, e1, Sem.run_bind, store_evAt wx gr (i * 10) o a (fun m hm => hS.cell ho m hm), Result.andThen_ok, Sem.run_pure], only_trans x1 (grown_setEvAt wx gr (i * 10) a), ?_, ?_, ?_⟩
            · intro _
              have := x2 d7
              exact ⟨by rw [updB_ne D (by omega)]; exact this.1, by rw [updB_ne D (by omega)]; exact this.2⟩
            · intro _
              rw [updB_ne D (show (23 : Nat) ≠ 25 by omega)]
              exact d7
            · rw [updB_at]
              exact hS.set ho a
        · intro D u w9 hJ hD
          obtain ⟨-, x1, -, -, x4⟩ := hJ
          rw [hD 25 (by omega), if_pos rfl] at x4
          simp only [List.take_succ_cons, List.take_zero, List.drop_succ_cons, List.drop_zero, putAll]
          have T9 : Hid (∃ qs, TR base g go m (l.take 500) w w9 qs) := Lib.hid (by
            have hx := x4.2
            have hlen : ((es.set 0 b).set i a).length = pe.length := by simp [HES.out]
            exact ⟨_, T8.out.turn (es' := (es.set 0 b).set i a) HP8.out rfl hlen (fun e he => by
              rcases List.mem_or_eq_of_mem_set he with he | rfl
              · rcases List.mem_or_eq_of_mem_set he with he | rfl
                · rw [← HES.out]; exact he
                · rw [← HES.out]; exact List.mem_of_getElem? HB.out
              · rw [← HES.out]; exact List.mem_of_getElem? HA.out) (by rw [HNL.out] at hx; exact hx) x1 hgb hwb⟩)
          clear x1 x4 hD
          go_wp2_with fail
          go_simp
          go_meet
          exact T9.out
      · have hn1I : ¬ ((1 : Int) < (pe.length : Int)) := by omega
        go_wp2_with fail
        go_meet
        exact ⟨ps, T6.out⟩
  case rest =>
    obtain ⟨qs, hT⟩ := hcut
    have T10 := Lib.hid hT
    clear hT T5 hB5
    by_cases hdum : True
    rotate_left
    · exact absurd trivial hdum
    clear hdum
    obtain ⟨p0, hq0, hpm0, c0, hpo0, hgne0, hgo0⟩ := T10.out.2.1.at_ (k := 0) T10.out.1 (by omega)
    obtain ⟨k11, h11⟩ := T10.out.2.2.2.2.1
    have hp0l := T10.out.len hpm0
    obtain ⟨pe, pa, pc⟩ := p0
    simp only [Pl.cell] at c0 hpo0 hgne0 hp0l
    have hgg0 : go ≠ g := by omega
    have Q0 := Lib.hid hq0
    clear hq0 hpm0 hpo0 hgne0
    go_upto_region 11 with fail
    go_cut [71] (fun v wx => ∃ B : Bool, v = .bool B ∧ (B = true → 0 < pe.length) ∧ TR base g go m (l.take 500) w wx qs)
    case first =>
      go_wp2_with fail
      refine (next_some g _ k11 4 _ h11 (by omega) (by omega)).mono ?_
      rintro e w12 ⟨v12, k12, rfl, hv12, h12, hg12⟩
      have T12 := Lib.hid (T10.out.next h12 hg12 hgb hgw)
      have c12 : w12.cell? ⟨go, 0, none⟩ = some (.slice pa pe.length pc) := ((ocell hg12).1 go 0 hgo0 hgg0).trans c0
      clear h12 hg12 h11 T10 c0
      have hm0 : (0 : Int) < (m : Int) := by omega
      by_cases hv3 : v12 = 3
      · subst hv3
        by_cases hpe : 0 < pe.length
        · have i1 : (0 : Int) < (pe.length : Int) := by omega
          have i2 : decide (0 < pe.length) = true := by simpa using hpe
          go_wp2_with fail
          go_meet
          exact ⟨true, by simp [hpe], fun _ => hpe, T12.out⟩
        · have i1 : ¬ ((0 : Int) < (pe.length : Int)) := by omega
          have i2 : decide (0 < pe.length) = false := by simpa using hpe
          go_wp2_with fail
          go_meet
          exact ⟨false, by simp [hpe], (fun h => by cases h), T12.out⟩
      · have i1 : (v12 == 3) = false := by simp [hv3]
        go_wp2_with fail
        go_meet
        exact ⟨false, rfl, (fun h => by cases h), T12.out⟩
    case rest =>
      obtain ⟨B, rfl, hBp, hT⟩ := hcut
      have T12 := Lib.hid hT
      have BP := Lib.hid hBp
      clear hT hBp T10 h11 c0 hgo0
      go_upto_if 71 with fail
      go_cut [4] (fun v wx => ∃ (A : Option Addr) (c : Nat) (rs : List Pl), v = .slice A rs.length c ∧ LR w wx A rs)
      case first =>
        cases B with
        | false =>
          go_wp2_with fail
          go_meet
          exact T12.out.lr
        | true =>
          have hpe : 0 < pe.length := BP.out rfl
          obtain ⟨p, hp, hpm, c0, hpo, hgne, hgo⟩ := T12.out.2.1.at_ (k := 0) T12.out.1 (by omega)
          obtain rfl : p = ⟨pe, pa, pc⟩ := by have := Q0.out; rw [hp] at this; injection this
          simp only [Pl.cell] at c0 hpo hgne
          obtain ⟨n, hn⟩ : ∃ n, pe.length = n + 1 := ⟨pe.length - 1, by omega⟩
          have hpo2 := hpo
          rw [hn] at hpo2
          obtain ⟨gr, cap, e1, hgr, -, -⟩ := own_shape hpo2
          injection e1 with e1 e2 e3
          subst e1 e3
          clear hpo2 hn e2
          obtain ⟨cap, rfl⟩ : ∃ cap, cap = pc := ⟨_, rfl⟩
          obtain ⟨n, hnl⟩ : ∃ n, n = pe.length := ⟨_, rfl⟩
          rw [← hnl] at hpo c0 hgne hpe hp0l
          obtain ⟨es, hes⟩ : ∃ es, es = pe := ⟨_, rfl⟩
          obtain ⟨W0, rfl⟩ : ∃ W0 : World, W0 = wc := ⟨_, rfl⟩
          have HE : Hid (ER base W0 gr n cap es) := Lib.hid (by rw [hes]; exact ⟨hnl.symm, hpo⟩)
          obtain ⟨k12, h12⟩ := T12.out.2.2.2.2.1
          have HC12 := Lib.hid h12
          have hgrW : gr < W0.heap.size := (hpo.lt gr rfl).2
          have hgrg : some gr ≠ some g := by intro e; injection e; omega
          have hggs : some go ≠ some g := by intro e; injection e; omega
          have hm0N : 0 < m := by omega
          have hgW : g < W0.heap.size := by have := HC12.out.lt; exact this
          have L0 : Hid (LS base g go m W0.heap.size w qs W0) := Lib.hid (T12.out.ls hgb)
          have TOT0 : Hid ((qs.map (·.evs)).flatten.length ≤ 72) := Lib.hid T12.out.2.2.2.1
          have HQL : Hid (qs.length = m) := Lib.hid T12.out.1
          have HES := Lib.hid hes
          clear hnl hes hp hpo hgne h12 BP Q0
          have HPM := Lib.hid hpm
          clear hpm
          go_wp2_with fail
          refine wp_region_gen 12 (JC [some (.slice (some ⟨go, 0, none⟩) m m), some (.pointer (some ⟨go, 0, none⟩)), some (.slice (some ⟨gr, 0, none⟩) (n) (cap)), some (.pointer (some ⟨g, 0, none⟩)), some (.slice (some ⟨go, 0, none⟩) m m), some (.pointer (some ⟨go, 0, none⟩)), some (.slice (some ⟨gr, 0, none⟩) (n) (cap)), some (.int .i64 ((n : Int))), none, none, none, none] (fun D u wx => W0.grownBy wx (some g) ∧ (∃ k, CodesAt wx g (l.take 500) k) ∧ (D 8 = true → ∃ v : Nat, v < n ∧ u 8 = .int .i64 v) ∧ (D 9 = true → ∃ v : Nat, v < n ∧ u 9 = .pointer (some ⟨gr, v * 10, none⟩)) ∧ (D 10 = true → ∃ e ∈ es, u 10 = .agg e.cells.toArray) ∧ (D 11 = true → ∃ b, u 11 = .pointer (some ⟨b, 0, none⟩) ∧ W0.heap.size ≤ b ∧ Blk wx b 34 zeroRow))) (by kernel_rfl) (by kernel_rfl) ?_ ?_ ?_
          · intro u
            exact ⟨(fun j c _ h => by cases h), ⟨only_drew (only_refl _ _), ⟨_, HC12.out.drew⟩, (fun h => by cases h), (fun h => by cases h), (fun h => by cases h), fun h => by cases h⟩⟩
          · intro AA hA
            have hasz : AA.tmps.size = 110 := by rw [hA]; kernel_rfl
            have ea4 : AA.eval (.tmp 4) = .slice (some ⟨go, 0, none⟩) m m := by rw [hA]; kernel_rfl
            have ea3 : AA.eval (.tmp 3) = .pointer (some ⟨g, 0, none⟩) := by rw [hA]; kernel_rfl
            clear hA
            simp only [List.take_succ_cons, List.take_zero]
            refine .cons ?_ (.cons ?_ (.cons ?_ (.cons ?_ (.cons ?_ (.cons ?_ (.cons ?_ (.cons ?_ (.cons ?_ (.cons ?_ (.cons ?_ (.cons ?_ (.nil))))))))))))
            · exact gd_gen (by kernel_rfl) (Want.none_ rfl) rfl (fun D u w v h => by simpa [updB, upd] using h) (fun D u ρ w kn => by
                have e0 := kn.own 4 (c := .slice (some ⟨go, 0, none⟩) m m) (by kernel_rfl) ea4
                simp [execOp, kn.rho.con, e0, go_sem])
            · exact gd_gen (by kernel_rfl) (Want.none_ rfl) rfl (fun D u w v h => by simpa [updB, upd] using h) (fun D u ρ w kn => by
                have e0 := kn.con 0 72 (c := .slice (some ⟨go, 0, none⟩) m m) (by kernel_rfl) (by omega) (by kernel_rfl) rfl
                simp [execOp, kn.rho.con, e0, go_sem, hm0N])
            · exact gd_gen (by kernel_rfl) (Want.none_ rfl) rfl (fun D u w v h => by simpa [updB, upd] using h) (fun D u ρ w kn => by
                have e0 := kn.con 1 73 (c := .pointer (some ⟨go, 0, none⟩)) (by kernel_rfl) (by omega) (by kernel_rfl) rfl
                have f0 := (cell_of_g kn.ext.1 hgo hggs).trans c0
                simp [execOp, kn.rho.con, e0, f0, go_sem])
            · exact gd_gen (by kernel_rfl) (Want.none_ rfl) rfl (fun D u w v h => by simpa [updB, upd] using h) (fun D u ρ w kn => by
                have e0 := kn.own 3 (c := .pointer (some ⟨g, 0, none⟩)) (by kernel_rfl) ea3
                simp [execOp, kn.rho.con, e0, go_sem])
            · exact gd_gen (by kernel_rfl) (Want.none_ rfl) rfl (fun D u w v h => by simpa [updB, upd] using h) (fun D u ρ w kn => by
                have e0 := kn.own 4 (c := .slice (some ⟨go, 0, none⟩) m m) (by kernel_rfl) ea4
                simp [execOp, kn.rho.con, e0, go_sem])
            · exact gd_gen (by kernel_rfl) (Want.none_ rfl) rfl (fun D u w v h => by simpa [updB, upd] using h) (fun D u ρ w kn => by
                have e0 := kn.con 4 76 (c := .slice (some ⟨go, 0, none⟩) m m) (by kernel_rfl) (by omega) (by kernel_rfl) rfl
                simp [execOp, kn.rho.con, e0, go_sem, hm0N])
            · exact gd_gen (by kernel_rfl) (Want.none_ rfl) rfl (fun D u w v h => by simpa [updB, upd] using h) (fun D u ρ w kn => by
                have e0 := kn.con 5 77 (c := .pointer (some ⟨go, 0, none⟩)) (by kernel_rfl) (by omega) (by kernel_rfl) rfl
                have f0 := (cell_of_g kn.ext.1 hgo hggs).trans c0
                simp [execOp, kn.rho.con, e0, f0, go_sem])
            · exact gd_gen (by kernel_rfl) (Want.none_ rfl) rfl (fun D u w v h => by simpa [updB, upd] using h) (fun D u ρ w kn => by
                have e0 := kn.con 6 78 (c := .slice (some ⟨gr, 0, none⟩) (n) (cap)) (by kernel_rfl) (by omega) (by kernel_rfl) rfl
                simp [execOp, kn.rho.con, e0, go_sem])
            · refine gd_call (by kernel_rfl) (Want.none_ rfl) 15 (fun D u ρ w kn hD => ?_)
              have e0 := kn.con 3 75 (c := .pointer (some ⟨g, 0, none⟩)) (by kernel_rfl) (by omega) (by kernel_rfl) rfl
              have e1 := kn.con 7 79 (c := .int .i64 (n : Int)) (by kernel_rfl) (by omega) (by kernel_rfl) rfl
              obtain ⟨x1, ⟨k, x2⟩, x3, x4, x5, x6⟩ := kn.ext
              refine ⟨#[.pointer (some ⟨g, 0, none⟩), .int .i64 (n : Int)], ?_, (next_some g _ k n w x2 (by omega) (by omega)).mono ?_⟩
              · simp only [execOp, resolve, Deferred.ofValue, List.map_toArray, List.map_cons, List.map_nil, e0, e1, kn.rho.con, kn.rho.fn]
                simp [go_sem]
              · rintro e w' ⟨v, k', rfl, hv, hc', hg'⟩
                obtain ⟨v, rfl⟩ := Int.eq_ofNat_of_zero_le hv.1
                exact ⟨_, rfl, (fun c h => by cases h), only_trans x1 hg', ⟨k', hc'⟩, (fun _ => ⟨v, by omega, upd_at _ _ _⟩), (fun h => by rw [updB_ne D (show (9 : Nat) ≠ 8 by omega)] at h; rw [upd_ne u _ (show (9 : Nat) ≠ 8 by omega)]; exact x4 h), (fun h => by rw [updB_ne D (show (10 : Nat) ≠ 8 by omega)] at h; rw [upd_ne u _ (show (10 : Nat) ≠ 8 by omega)]; exact x5 h), (fun h => by rw [updB_ne D (show (11 : Nat) ≠ 8 by omega)] at h; rw [upd_ne u _ (show (11 : Nat) ≠ 8 by omega)]; obtain ⟨b, q1, q2, q3⟩ := x6 h; exact ⟨b, q1, q2, q3.grown hg' (by intro e; injection e; omega)⟩)⟩
            · refine gd_eff (by kernel_rfl) (Want.none_ rfl) (fun D u ρ wx kn hD => ?_)
              have e0 := kn.con 2 74 (c := .slice (some ⟨gr, 0, none⟩) n cap) (by kernel_rfl) (by omega) (by kernel_rfl) rfl
              have e1 := kn.slot 8 80 (by kernel_rfl) (by omega)
              have d8 := kn.dep 8 (by kernel_rfl)
              obtain ⟨x1, x2, x3, x4, x5, x6⟩ := kn.ext
              obtain ⟨v, hv, hu⟩ := x3 d8
              rw [hu] at e1
              exact ⟨.pointer (some ⟨gr, v * 10, none⟩), wx, by simp [execOp, kn.rho.con, e0, e1, go_sem, hv], (fun c h => by cases h), x1, x2, (fun h => by rw [updB_ne D (show (8 : Nat) ≠ 9 by omega)] at h; rw [upd_ne u _ (show (8 : Nat) ≠ 9 by omega)]; exact x3 h), (fun _ => ⟨v, hv, upd_at _ _ _⟩), (fun h => by rw [updB_ne D (show (10 : Nat) ≠ 9 by omega)] at h; rw [upd_ne u _ (show (10 : Nat) ≠ 9 by omega)]; exact x5 h), (fun h => by rw [updB_ne D (show (11 : Nat) ≠ 9 by omega)] at h; rw [upd_ne u _ (show (11 : Nat) ≠ 9 by omega)]; obtain ⟨b, q1, q2, q3⟩ := x6 h; exact ⟨b, q1, q2, q3⟩)⟩
            · refine gd_eff (by kernel_rfl) (Want.none_ rfl) (fun D u ρ wx kn hD => ?_)
              have e0 := kn.slot 9 81 (by kernel_rfl) (by omega)
              have d9 := kn.dep 9 (by kernel_rfl)
              obtain ⟨x1, x2, x3, x4, x5, x6⟩ := kn.ext
              obtain ⟨v, hv, hu⟩ := x4 d9
              rw [hu] at e0
              obtain ⟨e, he⟩ : ∃ e, es[v]? = some e := ⟨_, List.getElem?_eq_getElem (by have := HE.out.1; omega)⟩
              exact ⟨.agg e.cells.toArray, wx, run_load ρ wx rfl e0 (load_evAt wx gr (v * 10) e (fun m hm => (cell_of_g x1 hgrW hgrg).trans (HE.out.cell he m hm).1)), (fun c h => by cases h), x1, x2, (fun h => by rw [updB_ne D (show (8 : Nat) ≠ 10 by omega)] at h; rw [upd_ne u _ (show (8 : Nat) ≠ 10 by omega)]; exact x3 h), (fun h => by rw [updB_ne D (show (9 : Nat) ≠ 10 by omega)] at h; rw [upd_ne u _ (show (9 : Nat) ≠ 10 by omega)]; exact x4 h), (fun _ => ⟨e, List.mem_of_getElem? he, upd_at _ _ _⟩), (fun h => by rw [updB_ne D (show (11 : Nat) ≠ 10 by omega)] at h; rw [upd_ne u _ (show (11 : Nat) ≠ 10 by omega)]; obtain ⟨b, q1, q2, q3⟩ := x6 h; exact ⟨b, q1, q2, q3⟩)⟩
            · refine gd_eff (by kernel_rfl) (Want.none_ rfl) (fun D u ρ wx kn hD => ?_)
              obtain ⟨x1, ⟨k, x2⟩, x3, x4, x5, x6⟩ := kn.ext
              exact ⟨.pointer (some ⟨wx.heap.size, 0, none⟩), wx.alloc (.cells zeroRow 34), alloc_ev ρ wx, (fun c h => by cases h), only_alloc x1 _, ⟨k, x2.alloc _⟩, (fun h => by rw [updB_ne D (show (8 : Nat) ≠ 11 by omega)] at h; rw [upd_ne u _ (show (8 : Nat) ≠ 11 by omega)]; exact x3 h), (fun h => by rw [updB_ne D (show (9 : Nat) ≠ 11 by omega)] at h; rw [upd_ne u _ (show (9 : Nat) ≠ 11 by omega)]; exact x4 h), (fun h => by rw [updB_ne D (show (10 : Nat) ≠ 11 by omega)] at h; rw [upd_ne u _ (show (10 : Nat) ≠ 11 by omega)]; exact x5 h), (fun _ => ⟨wx.heap.size, upd_at _ _ _, x1.size, Blk.new _ _ _⟩)⟩
          · intro D u w13 hJ hD
            obtain ⟨hc, x1, x2, -, -, x5, x6⟩ := hJ
            obtain ⟨e, hee, hu10⟩ := x5 (hD 10 (by omega))
            obtain ⟨b, hu11, hbw, hB⟩ := x6 (hD 11 (by omega))
            simp only [List.take_succ_cons, List.take_zero, List.drop_succ_cons, List.drop_zero, putAll]
            rw [hu10, hu11]
            obtain ⟨k13, h13⟩ := x2
            have L13 : Hid (LS base g go m W0.heap.size w qs w13) := Lib.hid (L0.out.turn x1 (by omega) (.inl rfl) hgw)
            have H13 := Lib.hid h13
            have hsz13 := x1.size
            have HEE := Lib.hid hee
            have B13 := Lib.hid hB
            have f0 := hB.frozen 0
            have f1 := hB.frozen 1
            have f2 := hB.frozen 2
            have f3 := hB.frozen 3
            have f4 := hB.frozen 4
            have f5 := hB.frozen 5
            have f6 := hB.frozen 6
            have f7 := hB.frozen 7
            have f8 := hB.frozen 8
            have f9 := hB.frozen 9
            obtain ⟨z0, z1, z2, z3, z4, z5, z6, z7, z8, z9⟩ := hB.zero10
            clear hc x1 x5 x6 hu10 hu11 hD h13 hB hee HC12 HE c0 T12
            simp only [Ev.cells]
            obtain ⟨W14, hW14⟩ : ∃ W14, W14 = setEv w13 b e := ⟨_, rfl⟩
            have HW14 : Hid (((((((((((w13.setCell ⟨b, 0, none⟩ (.int .i64 e.host)).setCell ⟨b, 1, none⟩ (.int .i64 e.file)).setCell ⟨b, 2, none⟩ (.int .i64 e.beg)).setCell ⟨b, 3, none⟩ (.int .i64 e.fin)).setCell ⟨b, 4, none⟩ (.slice e.la e.lines.length e.lc)).setCell ⟨b, 5, none⟩ (.int .i64 e.time)).setCell ⟨b, 6, none⟩ (.int .i64 e.weight)).setCell ⟨b, 7, none⟩ (.string e.trace)).setCell ⟨b, 8, none⟩ (.string e.stream)).setCell ⟨b, 9, none⟩ (.slice e.fa e.fields.length e.fc)) = W14) := Lib.hid hW14.symm
            have hg14 := (setEv_blk e B13.out rfl).2
            rw [← hW14] at hg14
            have B14 : Hid (Blk W14 b 34 e.cells.toArray) := Lib.hid (by rw [hW14]; exact (setEv_blk e B13.out rfl).1)
            have hgo0W : go < W0.heap.size := hgo
            have L14 : Hid (LS base g go m W0.heap.size w qs W14) := Lib.hid (L13.out.turn hg14 (by omega) (.inr hbw) (by omega))
            have h14 : CodesAt W14 g (l.take 500) k13 := H13.out.grown hg14 (fun q hq e1 => by injection e1; omega)
            clear hW14 hg14 L13 H13 B13
            go_upto_region 13 with fail
            rw [HW14.out]
            clear z0 z1 z2 z3 z4 z5 z6 z7 z8 z9 f0 f1 f2 f3 f4 f5 f6 f7 f8 f9 HW14
            go_wp2_with fail
            refine (next_some g _ k13 2 _ h14 (by omega) (by omega)).mono ?_
            rintro e15 w15 ⟨v15, k15, rfl, hv15, h15, hg15⟩
            have L15 : Hid (LS base g go m W0.heap.size w qs w15) := Lib.hid (L14.out.turn hg15 (by omega) (.inl rfl) hgw)
            have B15 := B14.out.grown hg15 (by intro e1; injection e1; omega)
            have f6 := B15.frozen 6
            have z6 := B15.cell 6
            simp [Ev.cells] at z6
            have HB15 := Lib.hid B15
            have hsz15 := hg15.size
            clear h14 h15 hg15 L14 B14 B15
            obtain ⟨x, hx⟩ : ∃ x : Ev, x = { e with weight := 1 + v15 } := ⟨_, rfl⟩
            obtain ⟨W16, hW16⟩ : ∃ W16, W16 = w15.setCell ⟨b, 6, none⟩ (.int .i64 (1 + v15)) := ⟨_, rfl⟩
            have HW16 : Hid (w15.setCell ⟨b, 6, none⟩ (.int .i64 (1 + v15)) = W16) := Lib.hid hW16.symm
            have hg16 : w15.grownBy W16 (some b) := by rw [hW16]; exact only_setCell (only_refl _ _) (p := ⟨b, 6, none⟩) (.inl rfl) _
            have B16 : Hid (Blk W16 b 34 x.cells.toArray) := Lib.hid (by
              have := HB15.out.set_ 6 (.int .i64 (1 + v15))
              rw [hW16, hx]
              simpa [Ev.cells] using this)
            have L16 : Hid (LS base g go m W0.heap.size w qs W16) := Lib.hid (L15.out.turn hg16 (by omega) (.inr hbw) (by omega))
            have HXE : Hid (x.Sub (OldB W0.heap.size g go) W16 ∧ x.lines.length ≤ 100000 ∧ x.fields.length ≤ 100000) := Lib.hid (by
              have := (L16.out.2.1 _ HPM.out).2 e (by rw [← HES.out]; exact HEE.out)
              rw [hx]; exact this)
            have hsz16 := hg16.size
            clear hW16 hg16 L15 HB15 hx HEE
            go_upto_region 14 with fail
            rw [HW16.out]
            clear HW16 f6 z6
            obtain ⟨z0, z1, z2, z3, z4, z5, z6, z7, z8, z9⟩ := B16.out.load10
            obtain ⟨sz, hszz⟩ : ∃ s, s = W16.heap.size := ⟨_, rfl⟩
            have hmr : m ≤ 10000000 := by omega
            have hgo16 := (L16.out.1.lt go rfl).2
            have hbsz : base ≤ W16.heap.size + 1 := by omega
            go_wp2_with (at_builtin; refine wpList_append1h rfl _ _ 36 rfl base Try.underlying36 evsInfo rfl (by decide) (v := .slice (some ⟨go, 0, none⟩) m m) (by rfl) (w0 := W16.alloc (.cells x.cells.toArray 34)) (cs := #[.slice (some ⟨W16.heap.size, 0, none⟩) 1 1]) (L16.out.1.alloc _) (W16.heap.size + 1) (by simp) (by rfl) rfl (by simp [Value.oneCell']) (by decide) hmr hbsz ?_; intro v17 w17 hown17 hg17 hob17)
            go_meet
            obtain ⟨A9, c9, e9, -, -, -, h9⟩ := Rd.of_own hown17 (by decide)
            have hg17' : (W16.alloc (.cells x.cells.toArray 34)).grownBy w17 (some go) := hg17
            have hA : W16.grownBy (W16.alloc (.cells x.cells.toArray 34)) none := only_alloc (only_refl _ _) _
            have hne : ∀ q, OldB W0.heap.size g go q → some q ≠ some go := fun q hq e1 => by injection e1 with e1; exact hq.2.2 e1
            have hLA := L16.out.ext hA
            have hBn := (Blk.new W16 34 x.cells.toArray).grown hg17' (by intro e1; injection e1; omega)
            have hq1 : (qs ++ [(⟨[x], some ⟨W16.heap.size, 0, none⟩, 1⟩ : Pl)]).length = m + 1 := by rw [List.length_append, HQL.out]; rfl
            refine ⟨A9, c9, qs ++ [⟨[x], some ⟨W16.heap.size, 0, none⟩, 1⟩], by rw [hq1]; exact e9, by rw [hq1]; omega, ?_, fun p hp => ?_, fun p hp e' he' => ?_, ?_, ?_⟩
            · rw [List.map_append]; exact h9.mono fun _ _ _ => trivial
            · rcases List.mem_append.1 hp with hp | hp
              · exact ((hLA.2.1 p hp).1.grown hg17' hne).mono fun _ _ _ => trivial
              · rw [List.mem_singleton.1 hp]
                refine ⟨?_, Nat.le_refl _, by unfold maxLen; exact Nat.le_of_ble_eq_true rfl⟩
                have := hBn.rdl
                simpa using this
            · rcases List.mem_append.1 hp with hp | hp
              · have h3 := (hLA.2.1 p hp).2 e' he'
                exact ⟨(h3.1.grown hg17' hne).mono fun _ _ _ => trivial, h3.2⟩
              · rw [List.mem_singleton.1 hp] at he'
                have he2 : e' = x := by simpa using he'
                rw [he2]
                exact ⟨((HXE.out.1.grown hA (by simp)).grown hg17' hne).mono fun _ _ _ => trivial, HXE.out.2⟩
            · have h4 := TOT0.out
              rw [List.map_append, List.flatten_append, List.length_append]
              simp only [List.map_cons, List.map_nil, List.flatten_cons, List.flatten_nil, List.append_nil, List.length_cons, List.length_nil]
              omega
            · exact only_fresh hLA.2.2 hg17' (by omega)
      case rest =>
        obtain ⟨A20, c20, rs, rfl, hR⟩ := hcut
        have R20 := Lib.hid hR
        clear hR T12 BP
        clear Q0
        have hrl := R20.out.1
        have KM : Hid (Calls Try.prog 16 #[.slice A20 rs.length c20] wc (MergePost wc (rs.map (·.evs)))) := Lib.hid (qmerge_any (S := fun _ => True) A20 rs c20 wc R20.out.2.1 R20.out.2.2.1 (by omega) (by have := R20.out.2.2.2.2.1; omega))
        have KR : Hid (∀ w', wc.grownBy w' none → Calls Try.prog 17 #[.slice A20 rs.length c20] w' (MergePost w' (rs.map (·.evs)))) := Lib.hid (fun w' hw => rmerge_any (S := fun _ => True) A20 rs c20 w' (R20.out.2.1.grown hw (by simp)) (fun p hp => (R20.out.2.2.1 p hp).grown hw (by simp)) (by omega) (by have := R20.out.2.2.2.2.1; omega))
        have KE : Hid (∀ (out : List Ev) w', IsMerge (rs.map (·.evs)).flatten out → wc.grownBy w' none → (∀ e ∈ out, e.Sub (fun _ => True) w') ∧ Bdd out) := Lib.hid (fun out w' hm hw => by
          have hme : ∀ e ∈ out, e.Sub (fun _ => True) wc ∧ e.lines.length ≤ 100000 ∧ e.fields.length ≤ 100000 := fun e he => by
            obtain ⟨l9, hl9, hel⟩ := List.mem_flatten.1 ((hm.2 e).1 he).mem
            obtain ⟨p, hp, rfl⟩ := List.mem_map.1 hl9
            exact R20.out.2.2.2.1 p hp e hel
          exact ⟨fun e he => (hme e he).1.grown hw (by simp), fun e he => (hme e he).2⟩)
        have HTT : Hid ((rs.map (·.evs)).flatten.length ≤ 73) := Lib.hid R20.out.2.2.2.2.1
        have GC : Hid (w.grownBy wc none) := Lib.hid R20.out.2.2.2.2.2
        clear R20
        go_wp2_with fail
        refine KM.out.mono ?_
        rintro e w21 ⟨hg21, hres⟩
        have KR2 := Lib.hid (KR.out w21 hg21)
        clear KR KM
        rcases hres with ⟨hall, A21, c21, o21, rfl, hmg, hol, hoc, hom, hro⟩ | ⟨hno, rfl⟩
        · have RO21 := Lib.hid hro
          have MG := Lib.hid hmg
          have HALL := Lib.hid hall
          have G21 := Lib.hid hg21
          have hol9 : o21.length ≤ 73 := by have := HTT.out; omega
          clear hall hmg hol hro hg21
          go_wp2_with fail
          refine KR2.out.mono ?_
          rintro e w22 ⟨hg22, ⟨-, A22, c22, o22, rfl, hmg2, -, -, -, hro2⟩ | ⟨⟨l9, hl9, hn9⟩, -⟩⟩
          rotate_left
          · exact absurd (HALL.out l9 hl9) hn9
          obtain rfl : o22 = o21 := merge_uniq hmg2 MG.out
          have hsb := KE.out o22 w22 hmg2 (only_trans G21.out hg22)
          have KS : Hid (Calls Try.prog 18 #[.slice A21 o22.length c21, .slice A22 o22.length c22] w22 (BoolExt true w22)) := Lib.hid (sameevents_true (S := fun _ => True) (S' := fun _ => True) A21 A22 o22 o22 c21 c22 w22 ⟨(RO21.out.grown hg22 (by simp)).mono fun _ _ _ => trivial, hsb.1⟩ ⟨hro2.mono fun _ _ _ => trivial, hsb.1⟩ (EvsEq.refl _) hsb.2 (by omega))
          have G22 : Hid (w.grownBy w22 none) := Lib.hid (only_trans (only_trans GC.out G21.out) hg22)
          clear hg22 hmg2 hro2 hsb KR2 RO21 MG HALL G21 KE
          go_wp2_with fail
          refine KS.out.mono ?_
          rintro e w23 ⟨rfl, hg23⟩
          go_wp2_with fail
          go_ret
          exact ⟨rfl, only_trans G22.out hg23⟩
        · have HNO := Lib.hid hno
          have G21 := Lib.hid hg21
          clear hno hg21
          go_wp2_with fail
          refine KR2.out.mono ?_
          rintro e w22 ⟨hg22, ⟨hall, -⟩ | ⟨-, rfl⟩⟩
          · obtain ⟨l9, hl9, hn9⟩ := HNO.out
            exact absurd (hall l9 hl9) hn9
          have KS : Hid (Calls Try.prog 18 #[.slice none 0 0, .slice none 0 0] w22 (BoolExt true w22)) := Lib.hid (sameevents_true (S := fun _ => True) (S' := fun _ => True) none none [] [] 0 0 w22 ⟨Rd.nil, by simp⟩ ⟨Rd.nil, by simp⟩ (EvsEq.refl _) (by intro e he; cases he) (by simp))
          have G22 : Hid (w.grownBy w22 none) := Lib.hid (only_trans (only_trans GC.out G21.out) hg22)
          clear hg22 KR2 HNO G21 KE
          go_wp2_with fail
          refine KS.out.mono ?_
          rintro e w23 ⟨rfl, hg23⟩
          go_wp2_with fail
          go_ret
          exact ⟨rfl, only_trans G22.out hg23⟩
end Go.Proofs.Ytphglalphejppaa
