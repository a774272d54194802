/- law31: awake, and CompactInfo: the walk of the law itself. For every input. -/
import Derived.Test.YtphglalphejppaaInfoR
namespace Go.Proofs.Ytphglalphejppaa
open Go.RowKit
set_option linter.unusedVariables false
set_option linter.unusedSimpArgs false

def TrueExt (w : World) (e : Ending) (w' : World) : Prop := e = .returned (.bool true) ∧ w.grownBy w' none
def ev7 : Ev := ⟨0, 0, 0, 0, [], 7, 0, ⟨#[]⟩, ⟨#[]⟩, [], none, 0, none, 0⟩
theorem Blk.rdl {w : World} {g : Nat} {t : TypeId} {cs : Array Value} (h : Blk w g t cs) : Rd (fun _ => True) w (some ⟨g, 0, none⟩) cs.toList := fun _ =>
  ⟨g, 0, rfl, trivial, h.lt, fun j u hu => by rw [Nat.zero_add, h.cell j]; simpa using hu⟩
set_option maxHeartbeats 1000000 in
set_option maxRecDepth 100000 in
theorem awake_any (w : World) : Calls Try.prog 9 #[] w (TrueExt w) := by
  have hR : Rd (fun _ => True) (w.alloc (.cells ev7.cells.toArray 34)) (some ⟨w.heap.size, 0, none⟩) ([ev7].flatMap Ev.cells) := by
    have := (Blk.new w 34 ev7.cells.toArray).rdl
    simpa using this
  have HC : Hid (Calls Try.prog 12 #[.slice (some ⟨w.heap.size, 0, none⟩) 1 1, .int .i64 2, .int .i64 1, .int .i64 9] (w.alloc (.cells ev7.cells.toArray 34)) (InfoPost (w.alloc (.cells ev7.cells.toArray 34)) [ev7] 2 1 9)) := info_any (some ⟨w.heap.size, 0, none⟩) [ev7] 1 2 1 9 _ hR (by simp) (by simp) (by unfold maxLen; omega)
  have hfld : ∀ w : World, (Instr.field 29 (.agg #[.int .i64 0, .int .i64 2, .int .i64 1, .int .i64 1, .int .i64 7, .int .i64 7, .int .i64 9]) 4).run Try.prog w = .ok (.int .i64 7) w := fun w => by kernel_rfl
  clear hR
  go_enter Try.func9, Try.ntmps9
  go_wp2_with fail
  refine HC.out.mono ?_
  rintro e w2 ⟨rfl, hg2⟩
  have hrow : siRow 0 2 1 ([ev7] : List Ev).length (minT [ev7]) (maxT [ev7]) 9 = #[.int .i64 0, .int .i64 2, .int .i64 1, .int .i64 1, .int .i64 7, .int .i64 7, .int .i64 9] := rfl
  rw [hrow]
  have G2 : Hid (w.grownBy w2 none) := only_trans (only_alloc (only_refl _ _) _) hg2
  clear hg2 HC hrow
  go_wp2_with fail
  go_ret
  exact ⟨rfl, G2.out⟩

set_option maxHeartbeats 4000000 in
set_option maxRecDepth 100000 in
theorem law_info (A : Option Addr) (l : List Int) (d : Nat) (level tier size : Int) (w : World) (h : Rd (fun _ => True) w A (l.map (.int .u8))) (hc : l.length ≤ d) (hcm : d ≤ maxLen) (hx : ∀ x ∈ l, 0 ≤ x ∧ x ≤ 255) :
    Calls Try.prog 3 #[.slice A l.length d, .int .i64 level, .int .i64 tier, .int .i64 size] w (TrueExt w) := by
  have HX := Lib.hid hx
  have HL := Lib.hid h
  clear hx h
  go_enter Try.func3, Try.ntmps3
  go_wp2_with (go_at_call 9; refine (awake_any _).mono ?_; rintro e w1 ⟨rfl, hg1⟩)
  refine (new_any A l d 300 _ (HL.out.grown hg1 (by simp)) hc hcm (by omega) HX.out).mono ?_
  rintro e w2 ⟨rfl, h2, hg2, hlt2⟩
  have G2 : Hid (w.grownBy w2 none) := only_trans hg1 hg2
  have hs2 := G2.out.size
  have hs1 := hg1.size
  generalize w1.heap.size = g at *
  clear HL HX hg1 hg2
  go_wp2_with fail
  refine (events_some g _ _ 5 _ h2 (by omega)).mono ?_
  rintro e w3 ⟨A3, c3, es, k3, rfl, hc3, hm3, hl3, hev, hsrt, hgood, h3, hg3⟩
  have EV := Lib.hid hev.1
  have G3 : Hid (w.grownBy w3 none) := only_fresh G2.out hg3 (by omega)
  have hs3 := hg3.size
  clear hev hsrt hgood h3 hg3 h2 G2
  go_wp2_with fail
  refine (info_any A3 es c3 level tier size _ EV.out (by omega) hc3 hm3).mono ?_
  rintro e w4 ⟨rfl, hg4⟩
  have EV4 := Lib.hid (EV.out.grown hg4 (by simp))
  have G4 : Hid (w.grownBy w4 none) := only_trans G3.out hg4
  have HML : Hid (∀ e ∈ es, minT es ≤ e.time ∧ e.time ≤ maxT es) := minT_le
  obtain ⟨W, hW⟩ : ∃ W, W = w4.alloc (.cells (siRow 0 level tier es.length (minT es) (maxT es) size) 29) := ⟨_, rfl⟩
  have HBW : Hid (Blk W w4.heap.size 29 (siRow 0 level tier es.length (minT es) (maxT es) size)) := hW ▸ Blk.new w4 _ _
  have GW : Hid (w4.grownBy W none) := hW ▸ only_alloc (only_refl _ _) _
  have RC : Hid (∀ w', W.grownBy w' none → Calls Try.prog 13 #[.slice A3 es.length c3, .int .i64 level, .int .i64 tier, .int .i64 size] w' (InfoPost w' es level tier size)) := fun w' hw' => rinfo_any A3 es c3 level tier size w' ((EV4.out.grown GW.out (by simp)).grown hw' (by simp)) (by omega) hc3 hm3
  have hrow : siRow 0 level tier es.length (minT es) (maxT es) size = #[.int .i64 0, .int .i64 level, .int .i64 tier, .int .i64 es.length, .int .i64 (minT es), .int .i64 (maxT es), .int .i64 size] := rfl
  rw [hrow] at hW HBW
  have HROW : Hid (∀ w', InfoPost w' es level tier size = fun e w'' => e = .returned (.agg #[.int .i64 0, .int .i64 level, .int .i64 tier, .int .i64 es.length, .int .i64 (minT es), .int .i64 (maxT es), .int .i64 size]) ∧ w'.grownBy w'' none) := fun _ => rfl
  rw [hrow]
  have HW := Lib.hid hW
  have EVW : Hid (Rd (g.le ·) W A3 (es.flatMap Ev.cells)) := (EV4.out.grown GW.out (by simp)).mono (fun b hb _ => by show g ≤ b; omega)
  clear hW hg4 hrow EV EV4 G3
  unfold maxLen at hm3
  generalize minT es = mn at *
  generalize maxT es = mx at *
  go_wp2_with fail
  rw [← HW.out]
  have HG : Hid (w.grownBy W none) := only_trans G4.out GW.out
  have hb0 := HBW.out.cell 0; have hb1 := HBW.out.cell 1; have hb2 := HBW.out.cell 2; have hb3 := HBW.out.cell 3; have hb4 := HBW.out.cell 4; have hb5 := HBW.out.cell 5; have hb6 := HBW.out.cell 6
  simp at hb0 hb1 hb2 hb3 hb4 hb5 hb6
  have hxlt := HBW.out.lt
  clear HW G4 GW
  go_region_with (first | (go_at_call 13; refine (RC.out _ (only_drew (only_refl _ _))).mono ?_; rw [HROW.out]; rintro e w6 ⟨rfl, hg6⟩; have B6 := (HBW.out.drew).grown hg6 (by simp); have hd0 := B6.cell 0; have hd1 := B6.cell 1; have hd2 := B6.cell 2; have hd3 := B6.cell 3; have hd4 := B6.cell 4; have hd5 := B6.cell 5; have hd6 := B6.cell 6; simp at hd0 hd1 hd2 hd3 hd4 hd5 hd6))
  all_goals
    have HG6 : Hid (W.grownBy w6 none) := only_trans (only_drew (only_refl _ _)) hg6
    clear hb0 hb1 hb2 hb3 hb4 hb5 hb6 hd0 hd1 hd2 hd3 hd4 hd5 hd6 hg6 B6
    go_wp2_with fail
    go_loopw [12] (fun i wr => ∃ k : Nat, k ≤ es.length ∧ i = .int .i64 k ∧ W.grownBy wr none) (fun i _ => es.length - (intOf i).toNat)
    case atStart => exact ⟨0, Nat.zero_le _, rfl, HG6.out⟩
    case round =>
      obtain ⟨k, hk, rfl, hgr⟩ := hrel
      have GR := Lib.hid hgr
      have hb4 := (HBW.out.grown hgr (by simp)).cell 4
      have hb5 := (HBW.out.grown hgr (by simp)).cell 5
      simp at hb4 hb5
      clear hgr
      by_cases hkl : k < es.length
      · obtain ⟨b, off, rfl, -, -, -⟩ := EVW.out (by rw [flat_len _ 10 Ev.cells_len]; omega)
        obtain ⟨y, hy⟩ : ∃ y, es[k] = y := ⟨_, rfl⟩
        obtain ⟨e0, e1, e2, e3, e4, e5, e6, e7, e8, e9⟩ := Evs.load10 (EVW.out.grown GR.out (by simp)) hkl hy
        have hml := HML.out y (by rw [← hy]; exact List.getElem_mem hkl)
        have d1 : decide (y.time < mn) = false := by simp; omega
        have d2 : decide (mx < y.time) = false := by simp; omega
        have hkI : (k : Int) < (es.length : Int) := by omega
        have hkn : (0 : Int) ≤ (k : Int) := by omega
        clear hy e0 e1 e2 e3 e4 e6 e7 e8 e9
        go_wp2_with fail
        go_quiet (fail)
        go_wp2_with fail
        go_roundw
        case rel => exact ⟨k + 1, by omega, by go_num, only_drewN GR.out _⟩
        case measure => simp [intOf]; omega
      · go_wp2_with fail
        go_ret
        exact ⟨rfl, only_trans HG.out GR.out⟩
end Go.Proofs.Ytphglalphejppaa
