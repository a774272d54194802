/- slices.Equal and ContainsFunc at fields; event.Check at good events. Conditions: good events. -/
import Derived.Test.YtpaiideboodaeaaGreatDoorJInsC
import Derived.Test.YtpaiideboodaeaaGreatDoorJFlat
import Derived.StillTailTactics
import Derived.Test.YtpaiideboodaeaaGreatDoorJIdxW
import Derived.Deep.RegionLaw
import Derived.WideLaws
import Derived.Test.YtpaiideboodaeaaGreatDoorJChkA
namespace Go.Proofs.YtpaiideboodaeaaGreatDoor
open Go.RowKit
set_option linter.unusedVariables false
set_option linter.unusedSimpArgs false

set_option maxHeartbeats 2000000 in
set_option maxRecDepth 100000 in
theorem feq_any {S S' : Nat → Prop} (A B : Option Addr) (fs : List FieldD) (c d : Nat) (w : World) (h1 : Rd S w A (fs.flatMap FieldD.cells)) (h2 : Rd S' w B (fs.flatMap FieldD.cells)) (hl : fs.length ≤ 1000) :
    Calls Tryz.prog 95 #[.slice A fs.length c, .slice B fs.length d] w (OkB0 w) := by
  have H1 := Lib.hid h1
  have H2 := Lib.hid h2
  clear h1 h2
  go_enter Tryz.func95, Tryz.ntmps95
  go_wp2_with fail
  go_loopw [13] (fun vi wr => ∃ k : Nat, vi = .int .i64 k ∧ k ≤ fs.length ∧ w.grownBy wr none) (fun vi _ => fs.length - (intOf vi).toNat)
  case atStart => exact ⟨0, rfl, Nat.zero_le _, only_refl _ _⟩
  case round =>
    obtain ⟨k, rfl, hk, hG⟩ := hrel
    have G := Lib.hid hG
    clear hG
    by_cases hlt : k < fs.length
    · obtain ⟨z, hz⟩ : ∃ z, fs[k]? = some z := ⟨_, List.getElem?_eq_getElem hlt⟩
      have r1 := H1.out.grown G.out (by simp)
      have r2 := H2.out.grown G.out (by simp)
      obtain ⟨fb, fo, rfl, -, -, -⟩ := r1 (by rw [flat_len _ 2 FieldD.cells_len]; omega)
      obtain ⟨gb, go, rfl, -, -, -⟩ := r2 (by rw [flat_len _ 2 FieldD.cells_len]; omega)
      have q0 : wr.cell? ⟨fb, fo + k * 2, none⟩ = some (.string z.name) := r1.flatAt FieldD.cells_len hz 0 (by omega)
      have q1 : wr.cell? ⟨fb, fo + k * 2 + 1, none⟩ = some (.string z.value) := r1.flatAt FieldD.cells_len hz 1 (by omega)
      have q2 : wr.cell? ⟨gb, go + k * 2, none⟩ = some (.string z.name) := r2.flatAt FieldD.cells_len hz 0 (by omega)
      have q3 : wr.cell? ⟨gb, go + k * 2 + 1, none⟩ = some (.string z.value) := r2.flatAt FieldD.cells_len hz 1 (by omega)
      have j1 : (k : Int) < (fs.length : Int) := by omega
      have j2 : (0 : Int) ≤ (k : Int) := by omega
      clear r1 r2 hz
      go_wp2_with fail
      go_quiet (fail)
      have G5 := Lib.hid (only_drewN G.out nq)
      clear q0 q1 q2 q3 G
      go_wp2_with fail
      go_roundw
      case rel => exact ⟨k + 1, by go_num, by omega, G5.out⟩
      case measure => simp [intOf]; omega
    · have j1 : ¬ ((k : Int) < (fs.length : Int)) := by omega
      go_wp2_with fail
      go_ret
      exact ⟨rfl, G.out⟩
set_option maxHeartbeats 1000000 in
theorem vlong_any (a b : ByteArray) (hb : b.size ≤ 2000) (w : World) : Calls Tryz.prog 97 #[.agg #[.string a, .string b]] w (fun e w' => e = .returned (.bool false) ∧ w.grownBy w' none) := by
  have G1 : Hid (w.grownBy (w.alloc (.cells #[.string a, .string b] 85)) none) := Lib.hid (only_alloc (only_refl _ _) _)
  have i1 : ¬ ((2000 : Int) < (b.size : Int)) := by omega
  go_enter Tryz.func97, Tryz.ntmps97
  go_wp2_with fail
  go_ret
  exact ⟨by simp, G1.out⟩
set_option maxHeartbeats 2000000 in
set_option maxRecDepth 100000 in
theorem fidx_any {S : Nat → Prop} (A : Option Addr) (fs : List FieldD) (c : Nat) (w : World) (h1 : Rd S w A (fs.flatMap FieldD.cells)) (hl : fs.length ≤ 1000) (hv : ∀ f ∈ fs, f.value.size ≤ 2000) :
    Calls Tryz.prog 159 #[.slice A fs.length c, .func (.func 97) #[] #[]] w (fun e w' => e = .returned (.int .i64 (-1)) ∧ w.grownBy w' none) := by
  have H1 := Lib.hid h1
  have HV := Lib.hid hv
  clear h1 hv
  go_enter Tryz.func159, Tryz.ntmps159
  go_wp2_with fail
  go_loopw [8] (fun vi wr => ∃ k : Nat, vi = .int .i64 k ∧ k ≤ fs.length ∧ w.grownBy wr none) (fun vi _ => fs.length - (intOf vi).toNat)
  case atStart => exact ⟨0, rfl, Nat.zero_le _, only_refl _ _⟩
  case round =>
    obtain ⟨k, rfl, hk, hG⟩ := hrel
    have G := Lib.hid hG
    clear hG
    by_cases hlt : k < fs.length
    · obtain ⟨z, hz⟩ : ∃ z, fs[k]? = some z := ⟨_, List.getElem?_eq_getElem hlt⟩
      have r1 := H1.out.grown G.out (by simp)
      obtain ⟨fb, fo, rfl, -, -, -⟩ := r1 (by rw [flat_len _ 2 FieldD.cells_len]; omega)
      have q0 : wr.cell? ⟨fb, fo + k * 2, none⟩ = some (.string z.name) := r1.flatAt FieldD.cells_len hz 0 (by omega)
      have q1 : wr.cell? ⟨fb, fo + k * 2 + 1, none⟩ = some (.string z.value) := r1.flatAt FieldD.cells_len hz 1 (by omega)
      have j1 : (k : Int) < (fs.length : Int) := by omega
      have j2 : (0 : Int) ≤ (k : Int) := by omega
      have KV := Lib.hid (vlong_any z.name z.value (HV.out z (List.mem_of_getElem? hz)) wr)
      clear r1 hz
      go_wp2_with fail
      refine KV.out.mono ?_
      rintro e w2 ⟨rfl, hg2⟩
      have G5 := Lib.hid (only_trans G.out hg2)
      clear q0 q1 G hg2 KV
      go_wp2_with fail
      go_roundw
      case rel => exact ⟨k + 1, by go_num, by omega, G5.out⟩
      case measure => simp [intOf]; omega
    · have j1 : ¬ ((k : Int) < (fs.length : Int)) := by omega
      go_wp2_with fail
      go_ret
      exact ⟨rfl, G.out⟩
set_option maxHeartbeats 1000000 in
theorem fcont_any {S : Nat → Prop} (A : Option Addr) (fs : List FieldD) (c : Nat) (w : World) (h1 : Rd S w A (fs.flatMap FieldD.cells)) (hl : fs.length ≤ 1000) (hv : ∀ f ∈ fs, f.value.size ≤ 2000) :
    Calls Tryz.prog 96 #[.slice A fs.length c, .func (.func 97) #[] #[]] w (fun e w' => e = .returned (.bool false) ∧ w.grownBy w' none) := by
  have KI := Lib.hid (fidx_any A fs c w h1 hl hv)
  clear h1 hv
  go_enter Tryz.func96, Tryz.ntmps96
  go_wp2_with fail
  refine KI.out.mono ?_
  rintro e w2 ⟨rfl, hg2⟩
  have G2 := Lib.hid hg2
  clear hg2
  go_wp2_with fail
  go_ret
  exact ⟨rfl, G2.out⟩
/-- what event.Check asks -/
structure EvO (e : Ev) : Prop where
  h0 : 0 ≤ e.host ∧ e.host ≤ 999
  f0 : 0 ≤ e.file ∧ e.file ≤ 2147483646
  b0 : 0 ≤ e.beg
  bf : e.beg < e.fin
  f2 : e.fin ≤ 60000
  t0 : 0 ≤ e.time ∧ e.time ≤ 253402300799999
  wt : IsWeight e.weight
  l0 : 1 ≤ e.lines.length
  l1 : e.lines.length ≤ 40
  ch : Chain e.beg e.lines e.fin
  tr : e.trace.size ≤ 32
  st : e.stream.size ≤ 32
  fl : e.fields.length ≤ 19
  fn : ∀ f ∈ e.fields, LowNm f.name
  fs : AscN_ e.fields
  fv : ∀ f ∈ e.fields, f.value.size ≤ 2000
  fa : e.fa = none → e.fields.length = 0
set_option maxHeartbeats 8000000 in
set_option maxRecDepth 100000 in
theorem echeck_any {S : Nat → Prop} (e : Ev) (w : World) (hs : e.Sub S w) (h : EvO e) (hK : Kinds w) :
    Calls Tryz.prog 52 #[.agg e.cells.toArray] w (OkE w) := by
  have hEV : e.cells.toArray = #[.int .i64 e.host, .int .i64 e.file, .int .i64 e.beg, .int .i64 e.fin, .slice e.la e.lines.length e.lc, .int .i64 e.time, .int .i64 e.weight, .string e.trace, .string e.stream, .slice e.fa e.fields.length e.fc] := rfl
  obtain ⟨xb, hxb⟩ : ∃ b, b = w.heap.size := ⟨_, rfl⟩
  obtain ⟨W1, hW1⟩ : ∃ W, W = w.alloc (.cells #[.int .i64 e.host, .int .i64 e.file, .int .i64 e.beg, .int .i64 e.fin, .slice e.la e.lines.length e.lc, .int .i64 e.time, .int .i64 e.weight, .string e.trace, .string e.stream, .slice e.fa e.fields.length e.fc] 44) := ⟨_, rfl⟩
  have g1 : w.grownBy W1 none := by rw [hW1]; exact only_alloc (only_refl _ _) _
  have G1 : Hid (w.grownBy W1 none) := Lib.hid g1
  have B1 : Hid (Blk W1 xb 44 #[.int .i64 e.host, .int .i64 e.file, .int .i64 e.beg, .int .i64 e.fin, .slice e.la e.lines.length e.lc, .int .i64 e.time, .int .i64 e.weight, .string e.trace, .string e.stream, .slice e.fa e.fields.length e.fc]) := Lib.hid (by rw [hW1, hxb]; exact Blk.new w _ _)
  have KP : Hid (∀ W, Calls Tryz.prog 91 #[.agg #[.int .i64 e.host, .int .i64 e.file, .int .i64 e.beg, .int .i64 e.fin, .slice e.la e.lines.length e.lc, .int .i64 e.time, .int .i64 e.weight, .string e.trace, .string e.stream, .slice e.fa e.fields.length e.fc]] W (OkB0 W)) := Lib.hid (fun W => by have := place_e e h.h0 h.f0 h.b0 h.bf h.f2 W; rwa [hEV] at this)
  have KT := Lib.hid (within_any e.time 0 253402300799999 h.t0.1 h.t0.2)
  have KL : Hid (∀ W, w.grownBy W none → Calls Tryz.prog 93 #[.agg #[.int .i64 e.host, .int .i64 e.file, .int .i64 e.beg, .int .i64 e.fin, .slice e.la e.lines.length e.lc, .int .i64 e.time, .int .i64 e.weight, .string e.trace, .string e.stream, .slice e.fa e.fields.length e.fc], .int .i64 2000] W (OkE W)) := Lib.hid (fun W hg => by have := lines_e e 2000 (hs.grown hg (by simp)) h.l0 h.l1 h.b0 h.f2 h.ch (by omega); rwa [hEV] at this)
  have KS : Hid (∀ W, w.grownBy W none → Calls Tryz.prog 94 #[.slice e.fa e.fields.length e.fc] W (PSortP W e.fields)) := Lib.hid (fun W hg => psort_any e.fa e.fields e.fc W (hs.2.1.grown hg (by simp)) h.fl h.fs h.fn (hK.grown hg (by simp)) h.fa)
  have HF := Lib.hid hs.2.1
  have HFV := Lib.hid h.fv
  have HWT := Lib.hid h.wt
  have hfl := h.fl
  have i1 : ¬ ((32 : Int) < (e.trace.size : Int)) := by have := h.tr; omega
  have i2 : ¬ ((32 : Int) < (e.stream.size : Int)) := by have := h.st; omega
  have HW := Lib.hid hW1.symm
  have HXB := Lib.hid hxb
  rw [hEV]
  clear hW1 hxb g1 hs h hK hEV
  go_enter Tryz.func52, Tryz.ntmps52
  go_upto_region 1 with fail
  rw [HW.out, ← HXB.out]
  clear HW
  have c0 := B1.out.cell 0; have c1 := B1.out.cell 1; have c2 := B1.out.cell 2; have c3 := B1.out.cell 3; have c4 := B1.out.cell 4; have c5 := B1.out.cell 5; have c6 := B1.out.cell 6; have c7 := B1.out.cell 7; have c8 := B1.out.cell 8; have c9 := B1.out.cell 9; simp at c0 c1 c2 c3 c4 c5 c6 c7 c8 c9
  go_wp2_with fail
  refine (KP.out W1).mono ?_
  rintro en w2 ⟨rfl, hg2⟩
  have G2 := Lib.hid (only_trans G1.out hg2)
  have B2 := Lib.hid (B1.out.grown hg2 (by simp))
  clear hg2 c0 c1 c2 c3 c4 c5 c6 c7 c8 c9 B1 KP
  have c0 := B2.out.cell 0; have c1 := B2.out.cell 1; have c2 := B2.out.cell 2; have c3 := B2.out.cell 3; have c4 := B2.out.cell 4; have c5 := B2.out.cell 5; have c6 := B2.out.cell 6; have c7 := B2.out.cell 7; have c8 := B2.out.cell 8; have c9 := B2.out.cell 9; simp at c0 c1 c2 c3 c4 c5 c6 c7 c8 c9
  go_wp2_with fail
  refine (KT.out w2).mono ?_
  rintro en w3 ⟨rfl, rfl⟩
  go_upto_region 3 with fail
  go_cut [16] (fun v wx => v = .bool false ∧ w.grownBy wx none ∧ Blk wx xb 44 #[.int .i64 e.host, .int .i64 e.file, .int .i64 e.beg, .int .i64 e.fin, .slice e.la e.lines.length e.lc, .int .i64 e.time, .int .i64 e.weight, .string e.trace, .string e.stream, .slice e.fa e.fields.length e.fc])
  case first =>
    obtain ⟨q, hq⟩ : ∃ q, q = e.weight := ⟨_, rfl⟩
    rw [← hq] at c6
    have HQ := HWT.out
    rw [← hq] at HQ
    have HB := Lib.hid (And.intro G2.out B2.out)
    clear hq
    rcases HQ with rfl | rfl | rfl | rfl | rfl
    all_goals go_wp2_with fail
    all_goals go_meet
    all_goals exact ⟨rfl, HB.out⟩
  case rest =>
    obtain ⟨rfl, hgc, hbc⟩ := hcut
    have G3 := Lib.hid hgc
    have B3 := Lib.hid hbc
    clear hgc hbc G2 B2 c0 c1 c2 c3 c4 c5 c6 c7 c8 c9
    have c0 := B3.out.cell 0; have c1 := B3.out.cell 1; have c2 := B3.out.cell 2; have c3 := B3.out.cell 3; have c4 := B3.out.cell 4; have c5 := B3.out.cell 5; have c6 := B3.out.cell 6; have c7 := B3.out.cell 7; have c8 := B3.out.cell 8; have c9 := B3.out.cell 9; simp at c0 c1 c2 c3 c4 c5 c6 c7 c8 c9
    go_wp2_with fail
    refine (KL.out wc G3.out).mono ?_
    rintro en w4 ⟨rfl, hg4⟩
    have G4 := Lib.hid (only_trans G3.out hg4)
    have B4 := Lib.hid (B3.out.grown hg4 (by simp))
    clear hg4 c0 c1 c2 c3 c4 c5 c6 c7 c8 c9 B3 G3 KL
    have c0 := B4.out.cell 0; have c1 := B4.out.cell 1; have c2 := B4.out.cell 2; have c3 := B4.out.cell 3; have c4 := B4.out.cell 4; have c5 := B4.out.cell 5; have c6 := B4.out.cell 6; have c7 := B4.out.cell 7; have c8 := B4.out.cell 8; have c9 := B4.out.cell 9; simp at c0 c1 c2 c3 c4 c5 c6 c7 c8 c9
    go_wp2_with fail
    refine (KS.out w4 G4.out).mono ?_
    rintro en w5 ⟨A5, cp5, rfl, hr5, hg5⟩
    have G5 := Lib.hid (only_trans G4.out hg5)
    have B5 := Lib.hid (B4.out.grown hg5 (by simp))
    have KQ := Lib.hid (feq_any A5 e.fa e.fields cp5 e.fc w5 hr5 (HF.out.grown G5.out (by simp)) (by omega))
    have R5 := Lib.hid hr5
    clear hg5 hr5 c0 c1 c2 c3 c4 c5 c6 c7 c8 c9 B4 G4 KS
    have c0 := B5.out.cell 0; have c1 := B5.out.cell 1; have c2 := B5.out.cell 2; have c3 := B5.out.cell 3; have c4 := B5.out.cell 4; have c5 := B5.out.cell 5; have c6 := B5.out.cell 6; have c7 := B5.out.cell 7; have c8 := B5.out.cell 8; have c9 := B5.out.cell 9; simp at c0 c1 c2 c3 c4 c5 c6 c7 c8 c9
    go_wp2_with fail
    refine KQ.out.mono ?_
    rintro en w6 ⟨rfl, hg6⟩
    have G6 := Lib.hid (only_trans G5.out hg6)
    have KC := Lib.hid (fcont_any A5 e.fields cp5 w6 (R5.out.grown hg6 (by simp)) (by omega) HFV.out)
    clear hg6 c0 c1 c2 c3 c4 c5 c6 c7 c8 c9 B5 G5 KQ
    go_wp2_with fail
    refine KC.out.mono ?_
    rintro en w7 ⟨rfl, hg7⟩
    have G7 := Lib.hid (only_trans G6.out hg7)
    clear hg7 KC G6
    go_wp2_with fail
    go_ret
    exact ⟨rfl, G7.out⟩
end Go.Proofs.YtpaiideboodaeaaGreatDoor

namespace Go.Proofs.YtpaiideboodaeaaGreatDoor
open Go.RowKit
set_option linter.unusedVariables false
set_option linter.unusedSimpArgs false

def cmpI (a b : Int) : Int := if a < b then -1 else if b < a then 1 else 0
set_option maxHeartbeats 1000000 in
theorem cmpI_any (a b : Int) (w : World) : Calls Tryz.prog 99 #[.int .i64 a, .int .i64 b] w (fun e w' => e = .returned (.int .i64 (cmpI a b)) ∧ w' = w) := by
  by_cases h1 : a < b
  · have hv : cmpI a b = -1 := by simp [cmpI, h1]
    rw [hv]
    have d1 : decide (a < b) = true := by simp; omega
    clear hv h1
    go_enter Tryz.func99, Tryz.ntmps99
    go_wp2
    go_ret
    exact ⟨rfl, rfl⟩
  · have d1 : decide (a < b) = false := by simp; omega
    by_cases h2 : b < a
    · have hv : cmpI a b = 1 := by simp [cmpI, h1, h2]
      rw [hv]
      have d2 : decide (b < a) = true := by simp; omega
      clear hv h1 h2
      go_enter Tryz.func99, Tryz.ntmps99
      go_wp2
      go_ret
      exact ⟨rfl, rfl⟩
    · have hv : cmpI a b = 0 := by simp [cmpI, h1, h2]
      rw [hv]
      have d2 : decide (b < a) = false := by simp; omega
      clear hv h1 h2
      go_enter Tryz.func99, Tryz.ntmps99
      go_wp2
      go_ret
      exact ⟨rfl, rfl⟩
/-- the first number that is not 0 -/
def fnz : List Int → Int
  | [] => 0
  | a :: l => if a = 0 then fnz l else a
theorem fnz_drop {vs : List Int} {k : Nat} (h : k < vs.length) : fnz (vs.drop k) = if vs[k] = 0 then fnz (vs.drop (k + 1)) else vs[k] := by
  rw [List.drop_eq_getElem_cons h, fnz]
set_option maxHeartbeats 1000000 in
theorem orN_any (g c : Nat) (vs : List Int) (w : World) (hB : Blk w g 3 (vs.map (.int .i64)).toArray) (hl : vs.length ≤ 100000) :
    Calls Tryz.prog 98 #[.slice (some ⟨g, 0, none⟩) vs.length c] w (fun e w' => e = .returned (.int .i64 (fnz vs)) ∧ w' = w) := by
  have HB := Lib.hid hB
  clear hB
  go_enter Tryz.func98, Tryz.ntmps98
  go_wp2
  go_loop [8] (fun i => ∃ k : Nat, k ≤ vs.length ∧ i = .int .i64 k ∧ fnz (vs.drop k) = fnz vs) (fun i => vs.length - (intOf i).toNat)
  case atStart => exact ⟨0, by omega, rfl, rfl⟩
  case round =>
    obtain ⟨k, hk, rfl, h1⟩ := hrel
    have H1 := Lib.hid h1
    clear h1
    by_cases hlt : k < vs.length
    · have kI : (k : Int) < (vs.length : Int) := by omega
      obtain ⟨x, hx⟩ : ∃ x, vs[k] = x := ⟨_, rfl⟩
      have hcell : w.cell? ⟨g, k, none⟩ = some (.int .i64 x) := by rw [HB.out.cell k]; simp [hlt, hx]
      have HF := Lib.hid (fnz_drop hlt)
      rw [hx] at HF
      clear hx
      by_cases hz : x = 0
      · have d1 : (x != 0) = false := by simp [hz]
        have HZ := Lib.hid hz
        clear hz
        go_wp2
        go_round
        case rel => exact ⟨k + 1, by omega, by go_num, by rw [← H1.out, HF.out, if_pos HZ.out]⟩
        case measure => simp [intOf]; omega
      · have d1 : (x != 0) = true := by simp [hz]
        have HZ := Lib.hid hz
        clear hz
        go_wp2
        go_ret
        exact ⟨ret_int (by rw [← H1.out, HF.out, if_neg HZ.out]), rfl⟩
    · go_wp2
      go_ret
      exact ⟨ret_int (by rw [← H1.out, List.drop_eq_nil_of_le (by omega)]; rfl), rfl⟩
theorem less_fnz (a b : Ev) : decide (fnz [cmpI a.time b.time, cmpI a.host b.host, cmpI a.file b.file, cmpI a.beg b.beg] < 0) = a.less b := by
  have h0 : ∀ {x y : Int}, cmpI x y = 0 ↔ x = y := by intro x y; unfold cmpI; split; omega; split; omega; omega
  have h1 : ∀ {x y : Int}, x ≠ y → decide (cmpI x y < 0) = decide (x < y) := by intro x y h; unfold cmpI; split; simp [*]; split; simp; omega; omega
  by_cases e1 : a.time = b.time
  · have z1 := h0.2 e1
    by_cases e2 : a.host = b.host
    · have z2 := h0.2 e2
      by_cases e3 : a.file = b.file
      · have z3 := h0.2 e3
        rw [show a.less b = decide (a.beg < b.beg) by simp [Ev.less, e1, e2, e3]]
        by_cases e4 : a.beg = b.beg
        · have z4 := h0.2 e4
          rw [show fnz [cmpI a.time b.time, cmpI a.host b.host, cmpI a.file b.file, cmpI a.beg b.beg] = 0 by simp only [fnz, z1, z2, z3, z4, if_true]]
          simp; omega
        · have z4 := mt h0.1 e4
          rw [show fnz [cmpI a.time b.time, cmpI a.host b.host, cmpI a.file b.file, cmpI a.beg b.beg] = cmpI a.beg b.beg by simp only [fnz, z1, z2, z3, z4, if_true, if_false]]
          exact h1 e4
      · have z3 := mt h0.1 e3
        rw [show a.less b = decide (a.file < b.file) by simp [Ev.less, e1, e2, e3], show fnz [cmpI a.time b.time, cmpI a.host b.host, cmpI a.file b.file, cmpI a.beg b.beg] = cmpI a.file b.file by simp only [fnz, z1, z2, z3, if_true, if_false]]
        exact h1 e3
    · have z2 := mt h0.1 e2
      rw [show a.less b = decide (a.host < b.host) by simp [Ev.less, e1, e2], show fnz [cmpI a.time b.time, cmpI a.host b.host, cmpI a.file b.file, cmpI a.beg b.beg] = cmpI a.host b.host by simp only [fnz, z1, z2, if_true, if_false]]
      exact h1 e2
  · have z1 := mt h0.1 e1
    rw [show a.less b = decide (a.time < b.time) by simp [Ev.less, e1], show fnz [cmpI a.time b.time, cmpI a.host b.host, cmpI a.file b.file, cmpI a.beg b.beg] = cmpI a.time b.time by simp only [fnz, z1, if_false]]
    exact h1 e1
theorem blk_new3 (w : World) (o1 o2 : Obj) (t : TypeId) (cs : Array Value) : Blk (((w.alloc o1).alloc o2).alloc (.cells cs t)).drew (w.heap.size + 1 + 1) t cs := by
  have h := Blk.new ((w.alloc o1).alloc o2) t cs
  rw [World.size_alloc, World.size_alloc] at h
  exact h
set_option maxHeartbeats 2000000 in
set_option maxRecDepth 100000 in
theorem eless_any (a b : Ev) (w : World) : Calls Tryz.prog 53 #[.agg a.cells.toArray, .agg b.cells.toArray] w (BoolExt (a.less b) w) := by
  have HL := Lib.hid (less_fnz a b)
  obtain ⟨c1, hc1⟩ : ∃ c, c = cmpI a.time b.time := ⟨_, rfl⟩
  obtain ⟨c2, hc2⟩ : ∃ c, c = cmpI a.host b.host := ⟨_, rfl⟩
  obtain ⟨c3, hc3⟩ : ∃ c, c = cmpI a.file b.file := ⟨_, rfl⟩
  obtain ⟨c4, hc4⟩ : ∃ c, c = cmpI a.beg b.beg := ⟨_, rfl⟩
  have K1 : Hid (∀ w1, Calls Tryz.prog 99 #[.int .i64 a.time, .int .i64 b.time] w1 (fun e w' => e = .returned (.int .i64 c1) ∧ w' = w1)) := Lib.hid (fun w1 => by rw [hc1]; exact cmpI_any _ _ _)
  have K2 : Hid (∀ w1, Calls Tryz.prog 99 #[.int .i64 a.host, .int .i64 b.host] w1 (fun e w' => e = .returned (.int .i64 c2) ∧ w' = w1)) := Lib.hid (fun w1 => by rw [hc2]; exact cmpI_any _ _ _)
  have K3 : Hid (∀ w1, Calls Tryz.prog 99 #[.int .i64 a.file, .int .i64 b.file] w1 (fun e w' => e = .returned (.int .i64 c3) ∧ w' = w1)) := Lib.hid (fun w1 => by rw [hc3]; exact cmpI_any _ _ _)
  have K4 : Hid (∀ w1, Calls Tryz.prog 99 #[.int .i64 a.beg, .int .i64 b.beg] w1 (fun e w' => e = .returned (.int .i64 c4) ∧ w' = w1)) := Lib.hid (fun w1 => by rw [hc4]; exact cmpI_any _ _ _)
  rw [← hc1, ← hc2, ← hc3, ← hc4] at HL
  obtain ⟨f, hf⟩ : ∃ f, f = fnz [c1, c2, c3, c4] := ⟨_, rfl⟩
  have HF := Lib.hid hf
  rw [← hf] at HL
  rw [← HL.out]
  have hE : w.grownBy ((w.alloc (.cells a.cells.toArray 44)).alloc (.cells b.cells.toArray 44)) none := only_alloc (only_alloc (only_refl _ _) _) _
  have HE := Lib.hid hE
  obtain ⟨W0, hW0⟩ : ∃ W0, W0 = (w.alloc (.cells a.cells.toArray 44)).alloc (.cells b.cells.toArray 44) := ⟨_, rfl⟩
  clear hE hc1 hc2 hc3 hc4 hf HL
  simp only [Ev.cells] at HE ⊢ hW0
  have HW0 := Lib.hid hW0
  have hs0 : W0.heap.size = w.heap.size + 2 := by rw [hW0]; simp
  have HS0 := Lib.hid hs0
  clear hW0 hs0
  go_enter Tryz.func53, Tryz.ntmps53
  go_wp2_with fail
  refine wp_region_still_tail 20 (by kernel_rfl) (by kernel_rfl) ?_
  change wpStill _ _ (World.drew _) (fun a' => wpList _ _ _ _ a' (World.drew _)) _ _
  simp only [List.take_succ_cons, List.take_zero, List.drop_succ_cons, List.drop_zero]
  repeat still_step
  still_call (K1.out _)
  repeat still_step
  still_call (K2.out _)
  repeat still_step
  still_call (K3.out _)
  repeat still_step
  still_call (K4.out _)
  refine wpStill_nil ?_
  go_wp2_with fail
  refine (orN_any (w.heap.size + 1 + 1) 4 [c1, c2, c3, c4] _ (blk_new3 _ _ _ _ _) (by simp)).mono ?_
  rintro e w' ⟨rfl, rfl⟩
  rw [← HF.out]
  go_wp2_with fail
  go_ret
  exact ⟨rfl, only_drew (only_alloc HE.out _)⟩
end Go.Proofs.YtpaiideboodaeaaGreatDoor

namespace Go.Proofs.YtpaiideboodaeaaGreatDoor
open Go.RowKit
set_option linter.unusedVariables false
set_option linter.unusedSimpArgs false

theorem srt_nodup {l : List ByteArray} (h : Srt l) : l.Nodup := List.Pairwise.imp (fun {a b} hab e => by rw [e, sl_irrefl] at hab; cases hab) h
theorem idx_size {g : Ev → List ByteArray} {es : List Ev} {w' : World} {b n : Nat} (h : SM w' b (b + 1) n (idxU g es es.length)) :
    ∃ ms clock, w'.heap[b]? = some (.map ms clock) ∧ ms.size = (dist (es.flatMap g)).length :=
  h.len (srt_nodup (dist_srt _)) (fun k => by rw [idxU_ne, List.take_length, dist_mem])
set_option maxHeartbeats 8000000 in
set_option maxRecDepth 100000 in
theorem scheck_any {S : Nat → Prop} (A : Option Addr) (es : List Ev) (c : Nat) (w : World) (hev : Evs S w A es) (hel : es.length ≤ 256) (ho : ∀ e ∈ es, EvO e) (ht : ∀ e ∈ es, (∀ l ∈ e.lines, l.text.size ≤ 100000) ∧ (textOf e.lines).size ≤ 400 ∧ ∀ f ∈ e.fields, f.name.size ≤ 1000) (hr : SrtE es)
    (hwl : (dist (es.flatMap wordsG)).length ≤ 32768) (hnl : (dist (es.flatMap namesG)).length ≤ 32768) (hK : Kinds w) :
    Calls Tryz.prog 21 #[.slice A es.length c] w (OkE w) := by
  have HEV := Lib.hid (hev.mono (S' := fun b => b < w.heap.size) (fun b _ h => h))
  have KC := Lib.hid (fun (e : Ev) (he : e ∈ es) (w' : World) (hg : w.grownBy w' none) => echeck_any e w' ((hev.2 e he).grown hg (by simp)) (ho e he) (hK.grown hg (by simp)))
  have KW := Lib.hid (fun (w' : World) (hg : w.grownBy w' none) => swords_idx A es c w' (hev.grown hg (by simp)) (by omega) (fun e he => ⟨by have := (ho e he).l1; omega, (ht e he).1, (ht e he).2.1⟩))
  have KN := Lib.hid (fun (w' : World) (hg : w.grownBy w' none) => snames_any A es c w' (hev.grown hg (by simp)) (by omega) (fun e he => ⟨by have := (ho e he).fl; omega, (ht e he).2.2⟩))
  have HLS : Hid (∀ (k : Nat) (x y : Ev), es[k]? = some x → es[k + 1]? = some y → x.less y = true) := Lib.hid (fun k x y hx hy => by
    obtain ⟨h1, h2⟩ := List.getElem?_eq_some_iff.1 hx
    obtain ⟨h3, h4⟩ := List.getElem?_eq_some_iff.1 hy
    have h5 := List.pairwise_iff_getElem.1 hr k (k + 1) h1 h3 (Nat.lt_succ_self k)
    rw [h2, h4] at h5
    exact h5)
  have n3 : ¬ (256 : Int) < (es.length : Int) := by omega
  clear hev ho ht hr hK
  go_enter Tryz.func21, Tryz.ntmps21
  go_wp2_with fail
  go_loopw [12] (fun vi wr => ∃ k : Nat, vi = .int .i64 k ∧ k ≤ es.length ∧ w.grownBy wr none) (fun vi _ => es.length - (intOf vi).toNat)
  case atStart => exact ⟨0, rfl, Nat.zero_le _, only_refl _ _⟩
  case round =>
    obtain ⟨k, rfl, hk, hG⟩ := hrel
    have G := Lib.hid hG
    clear hG
    by_cases hlt : k < es.length
    · obtain ⟨y, hy⟩ : ∃ y, es[k]? = some y := ⟨_, List.getElem?_eq_getElem hlt⟩
      obtain ⟨kb, ko, eE, hkw, z0, z1, z2, z3, z4, z5, z6, z7, z8, z9⟩ := ev_in (HEV.out.1.grown G.out (by simp)) hy
      subst eE
      have K1 : Hid (∀ W, w.grownBy W none → Calls Tryz.prog 52 #[.agg #[.int .i64 y.host, .int .i64 y.file, .int .i64 y.beg, .int .i64 y.fin, .slice y.la y.lines.length y.lc, .int .i64 y.time, .int .i64 y.weight, .string y.trace, .string y.stream, .slice y.fa y.fields.length y.fc]] W (OkE W)) := Lib.hid (fun W hg => KC.out y (List.mem_of_getElem? hy) W hg)
      have i1 : (k : Int) < (es.length : Int) := by omega
      have i2 : (0 : Int) ≤ (k : Int) := by omega
      clear hy
      go_wp2_with fail
      refine (K1.out _ (only_alloc G.out _)).mono ?_
      rintro en w2 ⟨rfl, hg2⟩
      have G2 := Lib.hid (only_trans (only_alloc G.out _) hg2)
      clear hg2 K1 z0 z1 z2 z3 z4 z5 z6 z7 z8 z9 G
      go_wp2_with fail
      go_roundw
      case rel => exact ⟨k + 1, by go_num, by omega, G2.out⟩
      case measure => simp [intOf]; omega
    · have i1 : ¬ (k : Int) < (es.length : Int) := by omega
      go_wp2_with fail
      obtain ⟨wo, rfl⟩ : ∃ wo : World, wo = wr := ⟨_, rfl⟩
      go_loopw [6] (fun vi wr => ∃ k : Nat, vi = .int .i64 ((k : Int) + 1) ∧ (k ≤ es.length) ∧ w.grownBy wr none) (fun vi _ => es.length + 2 - (intOf vi).toNat)
      case atStart => exact ⟨0, rfl, Nat.zero_le _, G.out⟩
      case round =>
        clear i1 hlt hk
        obtain ⟨k, rfl, hk, hG⟩ := hrel
        have G2 := Lib.hid hG
        clear hG
        by_cases hlt : k + 1 < es.length
        · obtain ⟨x, hx⟩ : ∃ x, es[k]? = some x := ⟨_, List.getElem?_eq_getElem (by omega)⟩
          obtain ⟨y, hy⟩ : ∃ y, es[k + 1]? = some y := ⟨_, List.getElem?_eq_getElem hlt⟩
          have hxy := HLS.out k x y hx hy
          obtain ⟨kb, ko, eE, hkw, z0, z1, z2, z3, z4, z5, z6, z7, z8, z9⟩ := ev_in (HEV.out.1.grown G2.out (by simp)) hx
          subst eE
          obtain ⟨kb', ko', eE, hkw', y0, y1, y2, y3, y4, y5, y6, y7, y8, y9⟩ := ev_in (HEV.out.1.grown G2.out (by simp)) hy
          injection eE with eE
          injection eE with e1 e2
          subst e1 e2
          have KL : Hid (∀ W, Calls Tryz.prog 53 #[.agg #[.int .i64 x.host, .int .i64 x.file, .int .i64 x.beg, .int .i64 x.fin, .slice x.la x.lines.length x.lc, .int .i64 x.time, .int .i64 x.weight, .string x.trace, .string x.stream, .slice x.fa x.fields.length x.fc], .agg #[.int .i64 y.host, .int .i64 y.file, .int .i64 y.beg, .int .i64 y.fin, .slice y.la y.lines.length y.lc, .int .i64 y.time, .int .i64 y.weight, .string y.trace, .string y.stream, .slice y.fa y.fields.length y.fc]] W (BoolExt true W)) := Lib.hid (fun W => by have := eless_any x y W; rw [hxy] at this; exact this)
          have i2 : (k : Int) + 1 < (es.length : Int) := by omega
          have i3 : (k : Int) < (es.length : Int) := by omega
          have i4 : (0 : Int) ≤ (k : Int) := by omega
          have hwk : IntKind.i64.wrap (k : Int) = (k : Int) := IntWalk.i64_in _ (by omega)
          clear hx hy hxy
          go_upto_region 13 with fail
          go_cut [38] (fun v wx => v = .bool false ∧ wr.grownBy wx none)
          case first =>
            go_region_with (go_at_call 53; refine (KL.out _).mono ?_; rintro en w2 ⟨rfl, hg2⟩)
            all_goals
              go_wp2_with fail
              go_meet
              exact ⟨rfl, only_trans (only_drew (only_refl _ _)) hg2⟩
          case rest =>
            obtain ⟨rfl, hgc⟩ := hcut
            have G3 := Lib.hid (only_trans G2.out hgc)
            clear hgc z0 z1 z2 z3 z4 z5 z6 z7 z8 z9 y0 y1 y2 y3 y4 y5 y6 y7 y8 y9 G2 KL
            go_wp2_with fail
            go_roundw
            case rel => exact ⟨k + 1, by go_num, by omega, G3.out⟩
            case measure => simp [intOf]; omega
        · have i2 : ¬ ((k : Int) + 1 < (es.length : Int)) := by omega
          go_wp2_with fail
          refine (KW.out wr G2.out).mono ?_
          rintro en w5 ⟨b, n, rfl, hbw, hSM, hg5⟩
          obtain ⟨ms, clock, hmb, hms⟩ := idx_size hSM
          have G5 := Lib.hid (only_trans G2.out hg5)
          have m1 : ¬ ((32768 : Int) < (ms.size : Int)) := by omega
          clear hSM hg5 hms
          have hlm := run_len_map (P := Tryz.prog) (w := w5) 108 3 b ms clock (by kernel_rfl) hmb
          go_wp2_with fail
          refine (KN.out w5 G5.out).mono ?_
          rintro en w6 ⟨b', n', rfl, hbw', hSM', hg6⟩
          obtain ⟨ms', clock', hmb', hms'⟩ := idx_size hSM'
          have G6 := Lib.hid (only_trans G5.out hg6)
          have m2 : ¬ ((32768 : Int) < (ms'.size : Int)) := by omega
          have hlm' := run_len_map (P := Tryz.prog) (w := w6) 108 3 b' ms' clock' (by kernel_rfl) hmb'
          clear hSM' hg6 hms' hmb hlm
          go_wp2_with fail
          go_ret
          exact ⟨rfl, G6.out⟩
end Go.Proofs.YtpaiideboodaeaaGreatDoor

namespace Go.Proofs.YtpaiideboodaeaaGreatDoor
open Go.RowKit
set_option linter.unusedVariables false
set_option linter.unusedSimpArgs false

theorem bl_lt : ∀ (a b : List UInt8), Op.bytesLess a b = true → a < b := by
  intro a
  induction a with
  | nil => intro b h; cases b with
    | nil => simp [Op.bytesLess] at h
    | cons y b => exact List.nil_lt_cons _ _
  | cons x a ih =>
    intro b h
    cases b with
    | nil => simp [Op.bytesLess] at h
    | cons y b =>
      rw [List.cons_lt_cons_iff]
      unfold Op.bytesLess at h
      by_cases h1 : x < y
      · exact .inl h1
      · by_cases h2 : x = y
        · subst h2
          refine .inr ⟨rfl, ih b ?_⟩
          simpa [h1] using h
        · simp [h1, h2] at h
theorem asc_of_srt {fs : List FieldD} (h : Srt (fs.map FieldD.name)) : AscN_ fs := by
  unfold AscN_
  refine List.Pairwise.imp ?_ h
  intro a b hab
  have := bl_lt _ _ hab
  rwa [ByteArray.toList_eq, ByteArray.toList_eq] at this
/-- both Checks' wants -/
theorem EvC.o {S : Nat → Prop} {w : World} {e : Ev} (h : EvC e) (hs : e.Sub S w) (hl : e.fields.length ≤ 19) : EvO e :=
  ⟨⟨h.h0, h.h1⟩, ⟨h.f0, h.f1⟩, h.b0, h.bf, h.f2, ⟨h.t0, h.t1⟩, h.wt, h.l0, h.l1, h.ch, h.tr, h.st, hl, fun f hf => h.fn f hf, asc_of_srt h.fs, h.fv, fun hn => by
    by_cases h0 : e.fields.length = 0
    · exact h0
    · obtain ⟨b, o, e1, _⟩ := hs.2.1 (by rw [flat_len _ 2 FieldD.cells_len]; omega)
      rw [hn] at e1; cases e1⟩
end Go.Proofs.YtpaiideboodaeaaGreatDoor

namespace Go.Proofs.YtpaiideboodaeaaGreatDoor
open Go.RowKit
set_option linter.unusedVariables false
set_option linter.unusedSimpArgs false

set_option maxHeartbeats 4000000 in
set_option maxRecDepth 100000 in
theorem pput_full {S : Nat → Prop} (A : Option Addr) (xs : List Int) (n width : Nat) (w : World) (h : Rd S w A (xs.map (.int .u8))) (hx0 : 0 < xs.length) (hx : xs.length ≤ 4000000) (hw0 : 0 < width) (hw : width ≤ 8) (hn : n < 18446744073709551616) :
    Calls Tryz.prog 30 #[.slice A xs.length xs.length, .int .u64 n, .int .i64 (width : Int)] w (NewB w (xs ++ beB width n)) := by
  obtain ⟨b0, o0, rfl, -, hb0, hc0⟩ := h (by rw [List.length_map]; exact hx0)
  have HC := Lib.hid hc0
  clear h hc0
  go_enter Tryz.func30, Tryz.ntmps30
  go_wp2_with fail
  go_loopw [0, 7] (fun u i wr => ∃ (m : Nat) (ys : List Int), m ≤ width ∧ i = .int .i64 ((m : Int) - 1) ∧ ys ++ beB m n = xs ++ beB width n ∧ ((m = width ∧ u = .slice (some ⟨b0, o0, none⟩) xs.length xs.length ∧ ys = xs ∧ wr = w) ∨ (m < width ∧ Byts w.heap.size wr u ys ∧ w.grownBy wr none))) (fun _ i _ => (intOf i + 1).toNat)
  case atStart => exact ⟨width, xs, Nat.le_refl _, rfl, rfl, .inl ⟨rfl, rfl, rfl, rfl⟩⟩
  case round =>
    obtain ⟨m, ys, hm, rfl, he, hor⟩ := hrel
    have hl : ys.length ≤ 4000010 := by
      have h1 := congrArg List.length he
      simp [beB_len] at h1
      omega
    have HE := Lib.hid he
    clear he
    by_cases hc : 1 ≤ m
    · obtain ⟨j, rfl⟩ : ∃ j, m = j + 1 := ⟨m - 1, by omega⟩
      have hjj : (((j + 1 : Nat) : Int) - 1) = (j : Int) := by omega
      rw [hjj]
      have i1 : (0 : Int) ≤ (j : Int) := by omega
      clear hjj
      have HE2 : Hid (ys ++ [((n / 256 ^ j % 256 : Nat) : Int)] ++ beB j n = xs ++ beB width n) := Lib.hid (by rw [← HE.out, beB]; simp)
      rcases hor with ⟨hmw, rfl, rfl, rfl⟩ | ⟨hmw, hB, hG⟩
      · go_wp2_with (at_builtin; go_must (refine wpList_append1F rfl _ _ 22 rfl Tryz.underlying22 byteInfo rfl (by rfl) (w0 := wr) (xs := ys.map (.int .u8)) (u := .int .u8 ((n : Int) / 2 ^ (8 * j) % 256)) (by rw [List.length_map]) HC.out hb0 (by rfl) (by simp [Value.oneCell']) (by decide) (by omega) ?_); intro v1 w1 hv1 hg1)
        rw [be_el] at hv1
        have B1 := Lib.hid (Byts.snoc hv1)
        have G1 := Lib.hid hg1
        clear hv1 hg1
        go_wp2_with fail
        go_roundw
        case rel => exact ⟨j, ys ++ [((n / 256 ^ j % 256 : Nat) : Int)], by omega, rfl, HE2.out, .inr ⟨by omega, B1.out, G1.out⟩⟩
        case measure => simp [intOf] <;> omega
      · have HB := Lib.hid hB
        have HG := Lib.hid hG
        have hz := hG.size
        clear hB hG
        go_wp2_with (at_builtin; go_must (refine wpList_append1 rfl _ _ 22 rfl w.heap.size Tryz.underlying22 byteInfo rfl (by decide) (v := u0) (by rfl) (w0 := wr) (cs := #[.int .u8 ((n : Int) / 2 ^ (8 * j) % 256)]) HB.out (by rfl) rfl (by simp [Value.oneCell']) (by decide) (by omega) (by omega) ?_); intro v1 w1 hv1 hg1 hob1)
        rw [be_el] at hv1
        have B1 := Lib.hid (Byts.snoc hv1)
        have G1 := Lib.hid (HB.out.only (onto_ap hg1 hob1) HG.out (Nat.le_refl _))
        clear hv1 hg1 hob1
        go_wp2_with fail
        go_roundw
        case rel => exact ⟨j, ys ++ [((n / 256 ^ j % 256 : Nat) : Int)], by omega, rfl, HE2.out, .inr ⟨by omega, B1.out, G1.out⟩⟩
        case measure => simp [intOf] <;> omega
    · have hm0 : m = 0 := by omega
      subst hm0
      rcases hor with ⟨hmw, -, -, -⟩ | ⟨hmw, hB, hG⟩
      · omega
      · have HE2 : Hid (ys = xs ++ beB width n) := Lib.hid (by have h := HE.out; simpa [beB] using h)
        have B9 : Hid (Byts w.heap.size wr u0 (xs ++ beB width n)) := Lib.hid (by rw [← HE2.out]; exact hB)
        have G9 := Lib.hid hG
        clear hB hG
        go_wp2_with fail
        go_ret
        exact ⟨u0, rfl, B9.out, G9.out⟩
end Go.Proofs.YtpaiideboodaeaaGreatDoor
