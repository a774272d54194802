/- Marks and intakes as plain data (with the bounds of the tallies' lines). No condition. -/
import Derived.Test.YtiogpomgpknjlaaTalC
import Derived.Test.YtiogpomgpknjlaaDrawTime
import Derived.Test.YtiogpomgpknjlaaApart
import Derived.Deep.RegionWith
import Derived.Deep.RegionLaw
import Derived.Deep.DeepMust
import Derived.Deep.DeepCutAuto
namespace Go.Proofs.Ytiogpomgpknjlaa
open Go.RowKit
set_option linter.unusedVariables false
set_option linter.unusedSimpArgs false

structure MarkD where
  host : Int
  file : Int
  off : Int
def MarkD.cells (x : MarkD) : List Value := [.int .i64 x.host, .int .i64 x.file, .int .i64 x.off]
theorem MarkD.cells_len (x : MarkD) : x.cells.length = 3 := rfl
theorem MarkD.one (x : MarkD) : ∀ u ∈ x.cells, u.oneCell' = true := by simp [MarkD.cells, Value.oneCell']
theorem markInfo : (Try.prog.info? 83).map (fun i => (i.zero, i.size, i.bytes)) = some (some (.agg #[.int .i64 0, .int .i64 0, .int .i64 0]), 3, 24) := by kernel_rfl
def Mlt (a b : MarkD) : Prop := a.host < b.host ∨ (a.host = b.host ∧ a.file < b.file)
/-- marks drawn so far: all ahead of (host, file) -/
def MarksOk (ms : List MarkD) (host file : Int) : Prop := ms.Pairwise Mlt ∧ ∀ x ∈ ms, (x.host < host ∨ (x.host = host ∧ x.file < file)) ∧ 1 ≤ x.host ∧ 0 ≤ x.file ∧ 0 ≤ x.off
theorem MarksOk.turn {ms : List MarkD} {h f h' f' : Int} (k : MarksOk ms h f) (hl : h < h' ∨ (h = h' ∧ f ≤ f')) : MarksOk ms h' f' := ⟨k.1, fun x hx => by
  obtain ⟨a, b⟩ := k.2 x hx
  exact ⟨by omega, b⟩⟩
theorem MarksOk.snoc {ms : List MarkD} {h f : Int} (k : MarksOk ms h f) {v : Int} (h1 : 1 ≤ h) (h2 : 0 ≤ f) (h3 : 0 ≤ v) : MarksOk (ms ++ [⟨h, f, v⟩]) h (f + 1) := by
  refine ⟨List.pairwise_append.2 ⟨k.1, List.pairwise_singleton _ _, fun a ha b hb => ?_⟩, fun x hx => ?_⟩
  · rw [List.mem_singleton.1 hb]; exact (k.2 a ha).1
  · rcases List.mem_append.1 hx with hx | hx
    · obtain ⟨a, b⟩ := k.2 x hx; exact ⟨by omega, b⟩
    · rw [List.mem_singleton.1 hx]; exact ⟨.inr ⟨rfl, by show f < f + 1; omega⟩, h1, h2, h3⟩
def IntakePost (w : World) (g : Nat) (l : List Int) (e : Ending) (w' : World) : Prop :=
  ∃ (A B : Option Addr) (c d : Nat) (ms : List MarkD) (ts : List Tal) (k : Nat), e = .returned (.agg #[.slice A ms.length c, .slice B ts.length d]) ∧ ms.length ≤ 100 ∧ ms.length ≤ c ∧ c ≤ maxLen ∧ MarksOk ms 3 0 ∧ Rd (w.heap.size ≤ ·) w' A (ms.flatMap MarkD.cells) ∧
    ts.length ≤ d ∧ d ≤ maxLen ∧ ts.length ≤ 4 ∧ TSrt ts ∧ TIn 36 ts ∧ Rd (w.heap.size ≤ ·) w' B (ts.flatMap Tal.cells) ∧ CodesAt w' g l k ∧ w.grownBy w' (some g)
end Go.Proofs.Ytiogpomgpknjlaa
namespace Go.Proofs.Ytiogpomgpknjlaa
open Go.RowKit
set_option linter.unusedVariables false
set_option linter.unusedSimpArgs false

/-- the head of a round -/
def IR (w : World) (g : Nat) (l : List Int) (rb ib : Nat) (h f : Int) (N : Nat) (v : Value) (ms : List MarkD) (wr : World) : Prop :=
  Blk wr rb 39 #[.slice none 0 0, .slice none 0 0] ∧ Blk wr ib 39 #[v, .slice none 0 0] ∧ wr.ownsRow w.heap.size 83 3 v ms.length (ms.flatMap MarkD.cells) ∧ MarksOk ms h f ∧ ms.length ≤ N ∧ (∃ k, CodesAt wr g l k) ∧ w.grownBy wr (some g)
theorem IR.next {w wr w2 : World} {g : Nat} {l : List Int} {rb ib : Nat} {h f : Int} {N : Nat} {v : Value} {ms : List MarkD} {k : Nat} (hI : IR w g l rb ib h f N v ms wr) (hc : CodesAt w2 g l k) (hg : wr.grownBy w2 (some g)) (hlt : g < w.heap.size) (h1 : g < rb) (h2 : g < ib) : IR w g l rb ib h f N v ms w2 :=
  ⟨hI.1.grown hg (by intro e; injection e; omega), hI.2.1.grown hg (by intro e; injection e; omega), own_only hI.2.2.1 hg hlt, hI.2.2.2.1, hI.2.2.2.2.1, ⟨k, hc⟩, only_trans hI.2.2.2.2.2.2 hg⟩
theorem IR.turn {w wr : World} {g : Nat} {l : List Int} {rb ib : Nat} {h f h' f' : Int} {N N' : Nat} {v : Value} {ms : List MarkD} (hI : IR w g l rb ib h f N v ms wr) (hN : N ≤ N') (hl : h < h' ∨ (h = h' ∧ f ≤ f')) : IR w g l rb ib h' f' N' v ms wr :=
  ⟨hI.1, hI.2.1, hI.2.2.1, hI.2.2.2.1.turn hl, Nat.le_trans hI.2.2.2.2.1 hN, hI.2.2.2.2.2⟩
set_option maxHeartbeats 4000000 in
set_option maxRecDepth 100000 in
theorem intake_some (g : Nat) (l : List Int) (k : Nat) (w : World) (h : CodesAt w g l k) :
    Calls Try.prog 18 #[.pointer (some ⟨g, 0, none⟩)] w (IntakePost w g l) := by
  have hlt0 := h.lt
  have HC := Lib.hid h
  clear h
  go_enter Try.func18, Try.ntmps18
  go_wp2_with fail
  obtain ⟨rb, hrb⟩ : ∃ b, b = w.heap.size := ⟨_, rfl⟩
  obtain ⟨ib, hib⟩ : ∃ b, b = w.heap.size + 1 := ⟨_, rfl⟩
  obtain ⟨W1, hW1⟩ : ∃ W1, W1 = (w.alloc (.cells #[.slice none 0 0, .slice none 0 0] 39)).alloc (.cells #[.slice none 0 0, .slice none 0 0] 39) := ⟨_, rfl⟩
  have I1 : Hid (IR w g l rb ib 1 0 (3 * 0) (.slice none 0 0) [] W1) := Lib.hid (by
    rw [hW1, hrb, hib]
    refine ⟨(Blk.new w _ _).alloc _, ?_, World.ownsRow_nil _ _ _ _, ⟨List.Pairwise.nil, by simp⟩, by simp, ⟨k, (HC.out.alloc _).alloc _⟩, only_alloc (only_alloc (only_refl _ _) _) _⟩
    have := Blk.new (w.alloc (.cells #[.slice none 0 0, .slice none 0 0] 39)) 39 #[.slice none 0 0, .slice none 0 0]
    simpa using this)
  rw [← hib, ← hrb, ← hW1]
  have hgr : g < rb := by omega
  have hgi : g < ib := by omega
  have hri : rb ≠ ib := by omega
  have hrl : rb < ib := by omega
  have HRB := Lib.hid hrb
  clear hW1 hib hrb HC
  go_loopw [4] (fun vh wr => ∃ (h : Nat) (v : Value) (ms : List MarkD), vh = .int .i64 ((h : Int) + 1) ∧ h ≤ 2 ∧ IR w g l rb ib ((h : Int) + 1) 0 (3 * h) v ms wr) (fun vh _ => 4 - (intOf vh).toNat)
  case atStart => exact ⟨0, _, [], rfl, by omega, by simpa using I1.out⟩
  case round =>
    obtain ⟨h, v, ms, rfl, hh, hI⟩ := hrel
    have I2 := Lib.hid hI
    clear hI I1
    by_cases hh1 : h ≤ 1
    · have i1 : (h : Int) + 1 ≤ 2 := by omega
      go_wp2_with fail
      obtain ⟨wo, rfl⟩ : ∃ wo : World, wo = wr := ⟨_, rfl⟩
      go_loopw [5] (fun vf wr => ∃ (f : Nat) (v : Value) (ms : List MarkD), vf = .int .i64 ((f : Int) + 5) ∧ f ≤ 3 ∧ IR w g l rb ib ((h : Int) + 1) ((f : Int) + 5) (3 * h + f) v ms wr) (fun vf _ => 9 - (intOf vf).toNat)
      case atStart => exact ⟨0, v, ms, rfl, by omega, I2.out.turn (by omega) (.inr ⟨rfl, by omega⟩)⟩
      case round =>
        obtain ⟨f, v, ms, rfl, hf, hI⟩ := hrel
        have I3 := Lib.hid hI
        obtain ⟨k3, h3⟩ := hI.2.2.2.2.2.1
        clear hI I2
        go_wp2_with fail
        refine (next_some g l k3 3 _ h3 (by omega) (by omega)).mono ?_
        rintro e w4 ⟨v4, k4, rfl, hv4, h4, hg4⟩
        have I4 := Lib.hid (I3.out.next h4 hg4 hlt0 hgr hgi)
        clear hg4 h3 I3
        by_cases hle : (f : Int) + 5 ≤ 5 + v4
        · have i2 : decide ((f : Int) + 5 ≤ 5 + v4) = true := by simp; omega
          have hf2 : f ≤ 2 := by omega
          go_wp2_with fail
          refine (next_some g l k4 2 _ h4 (by omega) (by omega)).mono ?_
          rintro e w5 ⟨v5, k5, rfl, hv5, h5, hg5⟩
          have I5 := Lib.hid (I4.out.next h5 hg5 hlt0 hgr hgi)
          clear hg5 h4 I4
          by_cases h51 : v5 = 1
          · subst h51
            obtain ⟨Am, cm, rfl, -, -, -, -⟩ := Rd.of_own I5.out.2.2.1 (by decide)
            have c0 := I5.out.2.1.cell 0
            have f0 := I5.out.2.1.frozen 0
            simp at c0
            have hO := I5.out.2.2.1
            have hml := I5.out.2.2.2.2.1
            have hsz5 := I5.out.2.2.2.2.2.2.size
            have hB := I5.out.2.1
            have hbase : w.heap.size ≤ w5.heap.size := hsz5
            have HO := Lib.hid hO
            have HB := Lib.hid hB
            clear hO hB
            go_wp2_with fail
            go_region_law (first
              | (have htok := HO6; go_must (refine step_append1 rfl _ _ 37 rfl w.heap.size Try.underlying37 markInfo rfl (by decide) (v := _) (by rfl) (w0 := w6) (cs := (MarkD.mk ((h : Int) + 1) ((f : Int) + 5) v6).cells.toArray) (by rfl) (by rfl) (by rfl) (by rfl) HO6.out (by rfl) rfl (by simpa using MarkD.one _) (by decide) (by omega) (by omega) ?_); intro v7 w7 hown7 hg7 hob7; obtain ⟨A7, q7, rfl, -, -, -, -⟩ := Rd.of_own hown7 (by decide); go_must (have hB7 := hB6.grown hg7 (fun e => blk_norow hB6 HO6.out (by decide) e.symm)); have c7 := hB7.cell 0; have f7 := hB7.frozen 0; go_must (simp at c7))
              | (go_simp; go_at_call 28; refine (next_some g l k5 60 _ (by exact h5.drew) (by omega) (by omega)).mono ?_; rintro e w6 ⟨v6, k6, rfl, hv6, h6, hg6⟩; have HO6 : Hid (w6.ownsRow w.heap.size 83 3 (.slice Am ms.length cm) ms.length (ms.flatMap MarkD.cells)) := Lib.hid (own_only (own_drew HO.out) hg6 hlt0); have hB6 := HB.out.drew.grown hg6 (by intro e; injection e; omega); have c6 := hB6.cell 0; have f6 := hB6.frozen 0; simp at c6; have hl6 := hB6.lt; have hl7 : ib ≠ w6.heap.size := (by omega); have hsz6 : w5.heap.size ≤ w6.heap.size := hg6.size))
            all_goals
              have I7 : Hid (IR w g l rb ib ((h : Int) + 1) ((f : Int) + 5 + 1) (3 * h + f + 1) (.slice A7 (ms.length + 1) q7) (ms ++ [⟨(h : Int) + 1, (f : Int) + 5, v6⟩]) (w7.setCell ⟨ib, 0, none⟩ (.slice A7 (ms.length + 1) q7))) := Lib.hid (by
                have hs := only_setCell (only_refl w7 (some ib)) (p := ⟨ib, 0, none⟩) (.inl rfl) (.slice A7 (ms.length + 1) q7)
                have ho : w7.ownsRow w.heap.size 83 3 (.slice A7 (ms.length + 1) q7) (ms ++ [(⟨(h : Int) + 1, (f : Int) + 5, v6⟩ : MarkD)]).length ((ms ++ [(⟨(h : Int) + 1, (f : Int) + 5, v6⟩ : MarkD)]).flatMap MarkD.cells) := by simpa using hown7
                have hR6 := I5.out.1.drew.grown hg6 (by intro e; injection e; omega)
                have hR7 := hR6.grown hg7 (fun e => blk_norow hR6 HO6.out (by decide) e.symm)
                refine ⟨hR7.grown hs (by intro e; injection e; exact hri (by assumption)), by simpa using hB7.set_ 0 (.slice A7 (ms.length + 1) q7), own_off ho hs (blk_norow hB7 ho (by decide)), I5.out.2.2.2.1.snoc (by omega) (by omega) hv6.1, by simp; omega, ⟨k6, ?_⟩, ?_⟩
                · have h7 := h6.grown hg7 (fun b hb e => by have := (HO6.out.lt b e.symm).1; omega)
                  exact h7.grown hs (fun b hb e => by injection e; omega)
                · have h8 := only_own (only_trans (only_drew I5.out.2.2.2.2.2.2) hg6) hg7 HO6.out (Nat.le_refl _)
                  exact only_fresh h8 hs (by have := HRB.out; omega))
              clear hown7 hg7 hob7 hg6 hB7 hB6 h6 HO6 c6 f6 c7 f7 I5 HO HB c0 f0 hsz6
              go_wp2_with fail
              exact ⟨⟨f + 1, _, _, by go_num, by omega, by have := I7.out; rw [show ((f + 1 : Nat) : Int) + 5 = (f : Int) + 5 + 1 by omega]; exact this⟩, by simp [intOf]; omega⟩
          · have i3 : (v5 == 1) = false := by simp [h51]
            go_wp2_with fail
            go_roundw
            case rel => exact ⟨f + 1, v, ms, by go_num, by omega, I5.out.turn (by omega) (.inr ⟨rfl, by omega⟩)⟩
            case measure => simp [intOf]; omega
        · have i2 : decide ((f : Int) + 5 ≤ 5 + v4) = false := by simp; omega
          go_wp2_with fail
          go_roundw
          case rel => exact ⟨h + 1, v, ms, by go_num, by omega, I4.out.turn (by omega) (.inl (by omega))⟩
          case measure => simp [intOf]; omega
    · have i1 : ¬ ((h : Int) + 1 ≤ 2) := by omega
      obtain ⟨Am, cm, rfl, hmc, hmm, -, hrm⟩ := Rd.of_own I2.out.2.2.1 (by decide)
      have RM := Lib.hid hrm
      obtain ⟨k2, h2⟩ := I2.out.2.2.2.2.2.1
      have hml := I2.out.2.2.2.2.1
      have hsz2 := I2.out.2.2.2.2.2.2.size
      clear hrm
      go_wp2_with fail
      refine (tallies_some g l k2 _ h2).mono ?_
      rintro e w9 ⟨At, ct, ts, k9, rfl, htc, htm, ht4, hts, hti, hrt, h9, hg9⟩
      have hB9 := I2.out.2.1.grown hg9 (by intro e; injection e; omega)
      have hR9 := I2.out.1.grown hg9 (by intro e; injection e; omega)
      have c0 := hB9.cell 0
      have c1 := hB9.cell 1
      have f1 := hB9.frozen 1
      have q0 := hR9.cell 0
      have q1 := hR9.cell 1
      have p0 := hR9.frozen 0
      have p1 := hR9.frozen 1
      simp at c0 c1 q0 q1
      have hir : ib ≠ rb := fun e => hri e.symm
      have TS := Lib.hid hts
      have TI := Lib.hid hti
      have H9 := Lib.hid h9
      have G9 : Hid (w.grownBy w9 (some g)) := Lib.hid (only_trans I2.out.2.2.2.2.2.2 hg9)
      have HO9 : Hid (w9.ownsRow w.heap.size 83 3 (.slice Am ms.length cm) ms.length (ms.flatMap MarkD.cells)) := Lib.hid (own_only I2.out.2.2.1 hg9 hlt0)
      have HB9 := Lib.hid hB9
      have HR9 := Lib.hid hR9
      have RT : Hid (Rd (fun b => ib < b) w9 At (ts.flatMap Tal.cells)) := Lib.hid (hrt.mono (fun b hb _ => by have := I2.out.2.1.lt; omega))
      have OK := Lib.hid (I2.out.2.2.2.1)
      clear hB9 hR9 hrt hts hti h9 hg9 I2 h2 RM
      unfold maxLen at htm hmm
      go_wp2_with fail
      refine bodyPost_ret (v := .agg #[.slice Am ms.length cm, .slice At ts.length ct]) (by simp [results, Try.results18, go_sem, q0, q1]) rfl ?_
      have s1 := only_setCell (only_refl w9 (some ib)) (p := ⟨ib, 1, none⟩) (.inl rfl) (.slice At ts.length ct)
      have s2 := only_setCell (only_refl (w9.setCell ⟨ib, 1, none⟩ (.slice At ts.length ct)) (some rb)) (p := ⟨rb, 0, none⟩) (.inl rfl) (.slice Am ms.length cm)
      have s3 := only_setCell s2 (p := ⟨rb, 1, none⟩) (.inl rfl) (.slice At ts.length ct)
      have o1 := own_off HO9.out s1 (blk_norow HB9.out HO9.out (by decide))
      have r1 := HR9.out.grown s1 (by intro e; injection e; exact hri (by assumption))
      have o2 := own_off o1 s3 (blk_norow r1 o1 (by decide))
      obtain ⟨A2, c2, e2, -, -, -, h2⟩ := Rd.of_own o2 (by decide)
      injection e2 with a1 a2 a3
      subst a1
      have hrbw : w.heap.size ≤ rb := by have := HRB.out; omega
      refine ⟨Am, At, cm, ct, ms, ts, k9, rfl, by omega, hmc, by unfold maxLen; exact hmm, ?_, h2, htc, by unfold maxLen; exact htm, ht4, TS.out, TI.out, ?_, ?_, ?_⟩
      · have h3 : h = 2 := by omega
        have := OK.out
        rw [h3] at this
        exact this
      · exact ((RT.out.grown s1 (fun b hb e => by injection e; omega)).grown s3 (fun b hb e => by injection e; omega)).mono (fun b hb _ => by omega)
      · exact (H9.out.grown s1 (fun b hb e => by injection e; omega)).grown s3 (fun b hb e => by injection e; omega)
      · exact only_fresh (only_fresh G9.out s1 (by omega)) s3 (by omega)
end Go.Proofs.Ytiogpomgpknjlaa
