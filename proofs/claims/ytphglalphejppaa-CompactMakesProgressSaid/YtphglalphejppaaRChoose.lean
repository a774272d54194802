/- Choose of the reference of chapter 31. No condition. -/
import Derived.Test.YtphglalphejppaaBest
import Derived.Deep.DeepCutAuto
namespace Go.Proofs.Ytphglalphejppaa
open Go.RowKit
set_option linter.unusedVariables false
set_option linter.unusedSimpArgs false

/-- what the loop of the reference's Choose holds -/
def RCur (B : Nat) (ss : List SegD) (wr : World) (vb vl vt : Value) : Option Kp → Prop
  | none => vb = .slice none 0 0 ∧ vl = .int .i64 0 ∧ vt = .int .i64 0
  | some b => ∃ A c, vb = .slice (some A) 4 c ∧ 4 ≤ c ∧ c ≤ maxLen ∧ Rd (B ≤ ·) wr (some A) (((ofK ss b).take 4).map (.int .i64)) ∧ vl = .int .i64 b.1 ∧ vt = .int .i64 b.2
theorem RCur.quiet {B : Nat} {ss : List SegD} {w w' : World} {vb vl vt : Value} {acc : Option Kp} (h : RCur B ss w vb vl vt acc) (hg : w.grownBy w' none) : RCur B ss w' vb vl vt acc := by
  cases acc with
  | none => exact h
  | some b =>
    obtain ⟨A, c, h1, h2, h3, h4, h5⟩ := h
    exact ⟨A, c, h1, h2, h3, h4.grown hg (by simp), h5⟩
theorem ret_slice {A : Option Addr} {n m c : Nat} (h : n = m) : Ending.returned (.slice A n c) = .returned (.slice A m c) := by rw [h]
def RDone (ss : List SegD) (k : Nat) (x : Kp) : Prop := ∃ s ∈ ss.take k, x = (s.level, s.tier)
theorem RDone.succ {ss : List SegD} {k : Nat} {s : SegD} (hs : ss[k]? = some s) (x : Kp) : RDone ss (k + 1) x ↔ (RDone ss k x ∨ x = (s.level, s.tier)) := by
  obtain ⟨h1, h2⟩ := List.getElem?_eq_some_iff.1 hs
  unfold RDone
  rw [List.take_succ_eq_append_getElem h1, h2]
  constructor
  · rintro ⟨t, ht, rfl⟩
    rcases List.mem_append.1 ht with ht | ht
    · exact .inl ⟨t, ht, rfl⟩
    · rw [List.mem_singleton.1 ht]; exact .inr rfl
  · rintro (⟨t, ht, rfl⟩ | rfl)
    · exact ⟨t, List.mem_append.2 (.inl ht), rfl⟩
    · exact ⟨s, by simp, rfl⟩
def RRel (B : Nat) (W1 : World) (ss : List SegD) (vb vl vt vi : Value) (wr : World) : Prop :=
  ∃ (k : Nat) (acc : Option Kp), vi = .int .i64 k ∧ k ≤ ss.length ∧ BestOn (ofK ss) (RDone ss k) acc ∧ RCur B ss wr vb vl vt acc ∧ W1.grownBy wr none
set_option maxHeartbeats 8000000 in
set_option maxRecDepth 100000 in
theorem rchoose_any {S : Nat → Prop} (num nid jn : Int) (A : Option Addr) (ss : List SegD) (c : Nat) (B : Option Addr) (nb d : Nat) (C : Option Addr) (nc f : Nat) (E : Option Addr) (ne h : Nat) (w : World) (hr : Rd S w A (ss.flatMap SegD.cells)) (hl : ss.length ≤ 100000) (hb : ∀ s ∈ ss, 0 ≤ s.level ∧ s.level ≤ 1000 ∧ 0 ≤ s.tier ∧ s.tier ≤ 1000) :
    Calls Try.prog 23 #[.agg #[.int .i64 num, .int .i64 nid, .int .i64 jn, .slice A ss.length c, .slice B nb d, .slice C nc f, .slice E ne h]] w (ChPost w ss) := by
  obtain ⟨W1, hW1⟩ : ∃ W1, W1 = w.alloc (.cells #[.int .i64 num, .int .i64 nid, .int .i64 jn, .slice A ss.length c, .slice B nb d, .slice C nc f, .slice E ne h] 52) := ⟨_, rfl⟩
  have G1 : Hid (w.grownBy W1 none) := Lib.hid (by rw [hW1]; exact only_alloc (only_refl _ _) _)
  obtain ⟨mb, hmb⟩ : ∃ b, b = w.heap.size := ⟨_, rfl⟩
  have B1 : Hid (Blk W1 mb 52 #[.int .i64 num, .int .i64 nid, .int .i64 jn, .slice A ss.length c, .slice B nb d, .slice C nc f, .slice E ne h]) := Lib.hid (by rw [hW1, hmb]; exact Blk.new w _ _)
  have HR := Lib.hid (hr.grown G1.out (by simp))
  have HB := Lib.hid hb
  have HW := Lib.hid hW1.symm
  have HMB := Lib.hid hmb
  have hsz1 := G1.out.size
  clear hW1 hmb hr hb
  go_enter Try.func23, Try.ntmps23
  go_upto_region 1 with fail
  rw [HW.out, ← HMB.out]
  clear HW
  go_wp2_with fail
  go_loopw [3, 4, 5, 6] (fun vb vl vt vi wr => RRel W1.heap.size W1 ss vb vl vt vi wr) (fun _ _ _ vi _ => ss.length - (intOf vi).toNat)
  case atStart => exact ⟨0, none, rfl, Nat.zero_le _, (fun k hk => by obtain ⟨s, hs, _⟩ := hk; simp at hs), ⟨rfl, rfl, rfl⟩, only_refl _ _⟩
  case round =>
    obtain ⟨k, acc, rfl, hk, hbest, hcur, hG⟩ := hrel
    have G := Lib.hid hG
    have BE := Lib.hid hbest
    have hszr := hG.size
    have hBm := B1.out.grown hG (by simp)
    have b0 := hBm.cell 0
    have b1 := hBm.cell 1
    have b2 := hBm.cell 2
    have b3 := hBm.cell 3
    have b4 := hBm.cell 4
    have b5 := hBm.cell 5
    have b6 := hBm.cell 6
    simp at b0 b1 b2 b3 b4 b5 b6
    have hlm : mb < wr.heap.size := hBm.lt
    clear hG hbest hBm
    by_cases hkl : k < ss.length
    · obtain ⟨b, o, rfl, -, hbo, -⟩ := (HR.out.grown G.out (by simp)) (by rw [flat_len _ 7 SegD.cells_len]; omega)
      obtain ⟨s, hs⟩ : ∃ s, ss[k]? = some s := ⟨_, List.getElem?_eq_getElem hkl⟩
      have hr := HR.out.grown G.out (by simp)
      have d0 : wr.cell? ⟨b, o + k * 7, none⟩ = some (.int .i64 s.id) := hr.flatAt SegD.cells_len hs 0 (by omega)
      have d1 : wr.cell? ⟨b, o + k * 7 + 1, none⟩ = some (.int .i64 s.level) := hr.flatAt SegD.cells_len hs 1 (by omega)
      have d2 : wr.cell? ⟨b, o + k * 7 + 2, none⟩ = some (.int .i64 s.tier) := hr.flatAt SegD.cells_len hs 2 (by omega)
      have d3 : wr.cell? ⟨b, o + k * 7 + 3, none⟩ = some (.int .i64 s.count) := hr.flatAt SegD.cells_len hs 3 (by omega)
      have d4 : wr.cell? ⟨b, o + k * 7 + 4, none⟩ = some (.int .i64 s.min) := hr.flatAt SegD.cells_len hs 4 (by omega)
      have d5 : wr.cell? ⟨b, o + k * 7 + 5, none⟩ = some (.int .i64 s.max) := hr.flatAt SegD.cells_len hs 5 (by omega)
      have d6 : wr.cell? ⟨b, o + k * 7 + 6, none⟩ = some (.int .i64 s.size) := hr.flatAt SegD.cells_len hs 6 (by omega)
      have HS := Lib.hid hs
      have hbd := HB.out s (List.mem_of_getElem? hs)
      have i1 : (k : Int) < (ss.length : Int) := by omega
      have i2 : (0 : Int) ≤ (k : Int) := by omega
      have HC := Lib.hid hcur
      clear hr hs hcur
      have KO : Hid (∀ W, W1.grownBy W none → Calls Try.prog 45 #[.agg #[.int .i64 num, .int .i64 nid, .int .i64 jn, .slice (some ⟨b, o, none⟩) ss.length c, .slice B nb d, .slice C nc f, .slice E ne h], .int .i64 s.level, .int .i64 s.tier] W (OfPost W (ofK ss (s.level, s.tier)))) := Lib.hid (fun W hW => of_any num nid jn _ ss c B nb d C nc f E ne h s.level s.tier W (HR.out.grown hW (by simp)) hl)
      obtain ⟨sb, hsb⟩ : ∃ sb, sb = wr.heap.size := ⟨_, rfl⟩
      obtain ⟨W2, hW2⟩ : ∃ W2, W2 = wr.alloc (.cells #[.int .i64 s.id, .int .i64 s.level, .int .i64 s.tier, .int .i64 s.count, .int .i64 s.min, .int .i64 s.max, .int .i64 s.size] 29) := ⟨_, rfl⟩
      have G2 : Hid (wr.grownBy W2 none) := Lib.hid (by rw [hW2]; exact only_alloc (only_refl _ _) _)
      have B2 : Hid (Blk W2 sb 29 #[.int .i64 s.id, .int .i64 s.level, .int .i64 s.tier, .int .i64 s.count, .int .i64 s.min, .int .i64 s.max, .int .i64 s.size]) := Lib.hid (by rw [hW2, hsb]; exact Blk.new wr _ _)
      have HW2 := Lib.hid hW2.symm
      have HSB := Lib.hid hsb
      clear hW2 hsb
      go_wp2_with fail
      refine (KO.out _ (only_trans G.out (only_alloc (only_refl _ _) _))).mono ?_
      rw [HW2.out]
      rintro e W3 ⟨Ao, co, rfl, hoc, hom, hro, hg3⟩
      have G3 : Hid (W1.grownBy W3 none) := Lib.hid (only_trans (only_trans G.out G2.out) hg3)
      have HC3 := Lib.hid (HC.out.quiet (only_trans G2.out hg3))
      have hB3 := B2.out.grown hg3 (by simp)
      have e1 := hB3.cell 1
      have e2 := hB3.cell 2
      simp at e1 e2
      rw [HSB.out] at e1 e2
      have hsz2 : wr.heap.size + 1 = W2.heap.size := by rw [← HW2.out]; simp
      have RO := Lib.hid (hro.mono (S' := (W1.heap.size ≤ ·)) (fun b hb _ => by omega))
      have hole := ofK_len ss (s.level, s.tier)
      obtain ⟨L, hL⟩ : ∃ L, L = (ofK ss (s.level, s.tier)).length := ⟨_, rfl⟩
      rw [← hL] at hoc hole
      have HL := Lib.hid hL
      rw [← hL]
      clear b0 b1 b2 b3 b4 b5 b6 d0 d1 d2 d3 d4 d5 d6 hro hg3 hL hB3
      by_cases h4 : L < 4
      · have t1 : ¬ ((4 : Int) ≤ (L : Int)) := by omega
        have BE' : Hid (BestOn (ofK ss) (RDone ss (k + 1)) acc) := Lib.hid ((BE.out.few (c := (s.level, s.tier)) (by rw [← HL.out]; exact h4)).turn (RDone.succ HS.out))
        go_wp2_with fail
        go_roundw
        case rel => exact ⟨k + 1, acc, by go_num, by omega, BE'.out, HC3.out, G3.out⟩
        case measure => simp [intOf]; omega
      · have t1 : ((4 : Int) ≤ (L : Int)) := by omega
        have H4 : Hid (4 ≤ (ofK ss (s.level, s.tier)).length) := Lib.hid (by rw [← HL.out]; omega)
        obtain ⟨bo, oo, rfl, -, -, -⟩ := RO.out (by simp; have := H4.out; omega)
        have hco : 4 ≤ co := by omega
        have R4 : Hid (Rd (W1.heap.size ≤ ·) W3 (some ⟨bo, oo, none⟩) (((ofK ss (s.level, s.tier)).take 4).map (.int .i64))) := Lib.hid (by
          intro hp
          obtain ⟨b', o', e', x1, x2, x3⟩ := RO.out (by simp; have := H4.out; omega)
          refine ⟨b', o', e', x1, x2, fun j u hu => x3 j u ?_⟩
          rw [List.getElem?_map, List.getElem?_take] at hu
          rw [List.getElem?_map]
          split at hu
          · exact hu
          · cases hu)
        cases acc with
        | none =>
          obtain ⟨hv1, hv2, hv3⟩ := HC3.out
          subst hv1 hv2 hv3
          have BE' : Hid (BestOn (ofK ss) (RDone ss (k + 1)) (some (s.level, s.tier))) := Lib.hid ((BE.out.first (c := (s.level, s.tier)) H4.out).turn (RDone.succ HS.out))
          have q0 : ∀ (W : World), (binOp .eql 45 (.slice none 0 0) (.slice none 0 0)).run Try.prog W = .ok (.bool true) W := fun W => Lib.run_eql_slice_nil W _ 3 none 0 0 0 0 Try.underlying45
          clear h4
          go_wp2_with fail
          go_quiet (fail)
          go_wp2_with fail
          go_roundw
          case rel => exact ⟨k + 1, _, by go_num, by omega, BE'.out, ⟨_, _, rfl, hco, hom, R4.out.drewN _, rfl, rfl⟩, only_drewN G3.out _⟩
          case measure => simp [intOf]; omega
        | some a =>
          obtain ⟨Ab, cb, hv1, hcb, hcm, hrb, hv2, hv3⟩ := HC3.out
          obtain ⟨al, at_⟩ := a
          simp only at hv2 hv3
          subst hv1 hv2 hv3
          have RB := Lib.hid hrb
          have q0 : ∀ (W : World), (binOp .eql 45 (.slice (some Ab) 4 cb) (.slice none 0 0)).run Try.prog W = .ok (.bool false) W := fun W => Lib.run_eql_slice_nil W _ 3 (some Ab) 4 cb 0 0 Try.underlying45
          clear h4 hrb
          by_cases hlt : s.level < al
          · have BE' : Hid (BestOn (ofK ss) (RDone ss (k + 1)) (some (s.level, s.tier))) := Lib.hid ((BE.out.better (c := (s.level, s.tier)) H4.out (.inl hlt)).turn (RDone.succ HS.out))
            go_wp2_with fail
            go_quiet (fail)
            go_wp2_with fail
            go_roundw
            case rel => exact ⟨k + 1, _, by go_num, by omega, BE'.out, ⟨_, _, rfl, hco, hom, R4.out.drewN _, rfl, rfl⟩, only_drewN G3.out _⟩
            case measure => simp [intOf]; omega
          · by_cases heq : s.level = al
            · have e3 : (s.level == al) = true := by simp [heq]
              have HE := Lib.hid heq
              clear heq
              by_cases hlt2 : s.tier < at_
              · have BE' : Hid (BestOn (ofK ss) (RDone ss (k + 1)) (some (s.level, s.tier))) := Lib.hid ((BE.out.better (c := (s.level, s.tier)) H4.out (.inr ⟨HE.out, hlt2⟩)).turn (RDone.succ HS.out))
                go_wp2_with fail
                go_quiet (fail)
                go_wp2_with fail
                go_roundw
                case rel => exact ⟨k + 1, _, by go_num, by omega, BE'.out, ⟨_, _, rfl, hco, hom, R4.out.drewN _, rfl, rfl⟩, only_drewN G3.out _⟩
                case measure => simp [intOf]; omega
              · have BE' : Hid (BestOn (ofK ss) (RDone ss (k + 1)) (some (al, at_))) := Lib.hid ((BE.out.later (c := (s.level, s.tier)) (by unfold Klt; simp only; omega)).turn (RDone.succ HS.out))
                go_wp2_with fail
                go_roundw
                case rel => exact ⟨k + 1, _, by go_num, by omega, BE'.out, HC3.out, G3.out⟩
                case measure => simp [intOf]; omega
            · have e3 : (s.level == al) = false := by simp [heq]
              have BE' : Hid (BestOn (ofK ss) (RDone ss (k + 1)) (some (al, at_))) := Lib.hid ((BE.out.later (c := (s.level, s.tier)) (by unfold Klt; simp only; omega)).turn (RDone.succ HS.out))
              clear heq
              go_wp2_with fail
              go_roundw
              case rel => exact ⟨k + 1, _, by go_num, by omega, BE'.out, HC3.out, G3.out⟩
              case measure => simp [intOf]; omega
    · have i1 : ¬ ((k : Int) < (ss.length : Int)) := by omega
      have hkk : k = ss.length := by omega
      have BO : Hid (bestO ss acc) := Lib.hid ⟨_, BE.out, fun c hc => by
        obtain ⟨s, hs, e⟩ := ofK_four hc
        exact ⟨s, by rw [hkk, List.take_of_length_le (Nat.le_refl _)]; exact hs, e⟩⟩
      clear hkk
      cases acc with
      | none =>
        obtain ⟨hv1, hv2, hv3⟩ := hcur
        subst hv1 hv2 hv3
        go_wp2_with fail
        go_ret
        exact ⟨none, 0, none, BO.out, rfl, Nat.le_refl _, Nat.zero_le _, Rd.nil, only_trans G1.out G.out⟩
      | some a =>
        obtain ⟨Ab, cb, hv1, hcb, hcm, hrb, hv2, hv3⟩ := hcur
        subst hv1 hv2 hv3
        have hla : (chL (ofK ss) (some a)).length = 4 := chL_len BE.out.2.1
        have HLA := Lib.hid hla
        have RB := Lib.hid hrb
        clear hla hrb
        go_wp2_with fail
        go_ret
        exact ⟨some Ab, cb, some a, BO.out, ret_slice HLA.out.symm, by rw [HLA.out]; exact hcb, hcm, RB.out.mono (fun b hb _ => Nat.le_trans hsz1 hb), only_trans G1.out G.out⟩
end Go.Proofs.Ytphglalphejppaa
