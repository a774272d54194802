/- Check of an event and of events: the references of chapters 12 and 27, at good events. Conditions: good events. -/
import Derived.Test.YtodaabofpkafjaaGreatJChkA
import Derived.Test.YtodaabofpkafjaaGreatJFil27
namespace Go.Proofs.YtodaabofpkafjaaGreat
open Go.RowKit
set_option linter.unusedVariables false
set_option linter.unusedSimpArgs false

/-- an event that Check lets by -/
structure EvC (e : Ev) : Prop where
  h0 : 0 ≤ e.host
  h1 : e.host ≤ 999
  f0 : 0 ≤ e.file
  f1 : e.file ≤ 2147483646
  b0 : 0 ≤ e.beg
  bf : e.beg < e.fin
  f2 : e.fin ≤ 60000
  t0 : 0 ≤ e.time
  t1 : e.time ≤ 253402300799999
  wt : IsWeight e.weight
  l0 : 1 ≤ e.lines.length
  l1 : e.lines.length ≤ 40
  ch : Chain e.beg e.lines e.fin
  tr : e.trace.size ≤ 32
  st : e.stream.size ≤ 32
  fl : e.fields.length ≤ 32
  fn : ∀ f ∈ e.fields, LowName f.name
  fs : Srt (e.fields.map FieldD.name)
  fv : ∀ f ∈ e.fields, f.value.size ≤ 2000
def OkP0 (w : World) (e : Ending) (w' : World) : Prop := e = .returned (.int .i64 0) ∧ w.grownBy w' none
theorem evAgg (e : Ev) : e.cells.toArray = #[.int .i64 e.host, .int .i64 e.file, .int .i64 e.beg, .int .i64 e.fin, .slice e.la e.lines.length e.lc, .int .i64 e.time, .int .i64 e.weight, .string e.trace, .string e.stream, .slice e.fa e.fields.length e.fc] := rfl
set_option maxHeartbeats 4000000 in
set_option maxRecDepth 100000 in
theorem place_any (e : Ev) (h : EvC e) (w : World) : Calls Tryz.prog 81 #[.agg e.cells.toArray] w (OkP0 w) := by
  rw [evAgg]
  have i1 : ¬ e.host < 0 := by have := h.h0; omega
  have i2 : ¬ 999 < e.host := by have := h.h1; omega
  have i3 : ¬ e.file < 0 := by have := h.f0; omega
  have i4 : ¬ 2147483646 < e.file := by have := h.f1; omega
  have i5 : ¬ e.beg < 0 := by have := h.b0; omega
  have i6 : ¬ e.fin ≤ e.beg := by have := h.bf; omega
  have i7 : ¬ 60000 < e.fin := by have := h.f2; omega
  clear h
  go_enter Tryz.func81, Tryz.ntmps81
  go_wp2_with fail
  go_ret
  exact ⟨rfl, only_alloc (only_refl _ _) _⟩
set_option maxHeartbeats 2000000 in
theorem weight_any (x : Int) (h : IsWeight x) (w : World) : Calls Tryz.prog 82 #[.int .i64 x] w (StayB true w) := by
  rcases h with rfl | rfl | rfl | rfl | rfl
  all_goals
    go_enter Tryz.func82, Tryz.ntmps82
    go_wp2_with fail
    go_ret
    exact ⟨rfl, rfl⟩
set_option maxHeartbeats 8000000 in
set_option maxRecDepth 100000 in
theorem lines12_any {S : Nat → Prop} (e : Ev) (h : EvC e) (w : World) (hs : e.Sub S w) : Calls Tryz.prog 83 #[.agg e.cells.toArray, .int .i64 2000] w (OkP0 w) := by
  rw [evAgg]
  have HL := Lib.hid hs.1
  have CH0 := Lib.hid h.ch
  have hb0 := h.b0
  have hb1 := h.f2
  have hb2 := h.bf
  have l0 := h.l0
  have l1 := h.l1
  obtain ⟨host, file, beg, fin, ls, time, weight, trace, stream, fields, la, lc, fa, fc⟩ := e
  simp only at HL CH0 hb0 hb1 hb2 l0 l1 ⊢
  clear h hs
  have i0 : ¬ ls.length = 0 := by omega
  have i00 : ¬ (ls.length : Int) = 0 := by omega
  have i1 : ¬ (40 : Int) < (ls.length : Int) := by omega
  have i11 : ¬ 40 < ls.length := by omega
  go_enter Tryz.func83, Tryz.ntmps83
  go_upto_region 1 with fail
  obtain ⟨xb, hxb⟩ : ∃ b, b = w.heap.size := ⟨_, rfl⟩
  obtain ⟨W, hW⟩ : ∃ W, W = w.alloc (.cells #[.int .i64 host, .int .i64 file, .int .i64 beg, .int .i64 fin, .slice la ls.length lc, .int .i64 time, .int .i64 weight, .string trace, .string stream, .slice fa fields.length fc] 34) := ⟨_, rfl⟩
  have hBW : Blk W xb 34 #[.int .i64 host, .int .i64 file, .int .i64 beg, .int .i64 fin, .slice la ls.length lc, .int .i64 time, .int .i64 weight, .string trace, .string stream, .slice fa fields.length fc] := by rw [hW, hxb]; exact Blk.new _ _ _
  have hG0 : w.grownBy W none := by rw [hW]; exact only_alloc (only_refl _ _) _
  have BW := Lib.hid hBW
  have G0 := Lib.hid hG0
  have e2 := hBW.cell 2; have e3 := hBW.cell 3; have e4 := hBW.cell 4
  simp at e2 e3 e4
  rw [← hW, ← hxb]
  clear hW hxb hBW hG0
  go_wp2_with fail
  go_loopw [5, 6] (fun va vi wr => ∃ (k : Nat) (a : Int), vi = .int .i64 k ∧ k ≤ ls.length ∧ va = .int .i64 a ∧ 0 ≤ a ∧ Chain a (ls.drop k) fin ∧ W.grownBy wr none) (fun _ vi _ => ls.length - (intOf vi).toNat)
  case atStart => exact ⟨0, beg, rfl, Nat.zero_le _, rfl, hb0, CH0.out, only_refl _ _⟩
  case round =>
    clear e2 e3 e4
    obtain ⟨k, a, rfl, hk, rfl, ha0, hC, hG⟩ := hrel
    have BW2 := BW.out.grown hG (by simp)
    have e2 := BW2.cell 2; have e3 := BW2.cell 3; have e4 := BW2.cell 4
    simp at e2 e3 e4
    have G := Lib.hid hG
    have CC := Lib.hid hC
    have hxw : xb < wr.heap.size := BW2.lt
    clear BW2 hG hC
    by_cases hlt : k < ls.length
    · obtain ⟨x, hx⟩ : ∃ x, ls[k]? = some x := ⟨_, List.getElem?_eq_getElem hlt⟩
      have hdr : ls.drop k = x :: ls.drop (k + 1) := by
        obtain ⟨h1, h2⟩ := List.getElem?_eq_some_iff.1 hx
        rw [List.drop_eq_getElem_cons h1, h2]
      have hC := CC.out
      rw [hdr] at hC
      obtain ⟨hoff, hsz, hlen, hrest⟩ := hC
      have hle := hrest.le
      rw [List.length_drop] at hle
      have hrr := HL.out.grown (only_trans G0.out G.out) (by simp)
      obtain ⟨lb, lo, ela, hlb, -, -⟩ := hrr (by rw [flat_len _ 3 LineD.cells_len]; omega)
      rw [ela] at hrr e4
      have d0 : wr.cell? ⟨lb, lo + k * 3, none⟩ = some (.int .i64 x.off) := hrr.flatAt LineD.cells_len hx 0 (by omega)
      have d1 : wr.cell? ⟨lb, lo + k * 3 + 1, none⟩ = some (.int .i64 x.len) := hrr.flatAt LineD.cells_len hx 1 (by omega)
      have d2 : wr.cell? ⟨lb, lo + k * 3 + 2, none⟩ = some (.string x.text) := hrr.flatAt LineD.cells_len hx 2 (by omega)
      rw [hoff] at d0
      have HR := Lib.hid hrest
      have hlast : k + 1 = ls.length → x.len = fin - a := fun h => by
        have h1 := hrest
        rw [List.drop_of_length_le (by omega)] at h1
        simp only [Chain] at h1
        omega
      have HLA := Lib.hid hlast
      have j0 : (a != a) = false := by simp
      have j1 : ¬ x.len < 1 := by omega
      have j2 : ¬ fin - a < x.len := by omega
      have j3 : ¬ (2000 : Int) < (x.text.size : Int) := by omega
      have j33 : ¬ 2000 < x.text.size := by omega
      have i2 : (k : Int) < (ls.length : Int) := by omega
      have ja : a ≤ 60000 := by omega
      clear hx hdr hrr ela hrest hlast hle hlb hoff
      go_upto_region 10 with fail
      obtain ⟨yb, hyb⟩ : ∃ b, b = wr.heap.size := ⟨_, rfl⟩
      obtain ⟨V, hV⟩ : ∃ V, V = wr.alloc (.cells #[.int .i64 a, .int .i64 x.len, .string x.text] 90) := ⟨_, rfl⟩
      have hBV : Blk V yb 90 #[.int .i64 a, .int .i64 x.len, .string x.text] := by rw [hV, hyb]; exact Blk.new _ _ _
      have hGV : wr.grownBy V none := by rw [hV]; exact only_alloc (only_refl _ _) _
      have GV := Lib.hid (only_trans G.out hGV)
      have BW3 := BW.out.grown GV.out (by simp)
      rw [← hV, ← hyb]
      clear e2 e3 e4 hV hyb hGV d0 d1 d2
      have e2 := BW3.cell 2; have e3 := BW3.cell 3; have e4 := BW3.cell 4
      simp at e2 e3 e4
      have y0 := hBV.cell 0; have y1 := hBV.cell 1; have y2 := hBV.cell 2
      simp at y0 y1 y2
      clear BW3 hBV
      by_cases hl : k + 1 = ls.length
      · have c1 : ((k : Int) == (ls.length : Int) - 1) = true := by simp; omega
        have c2 : (x.len != fin - a) = false := by rw [HLA.out hl]; simp
        clear hl
        go_wp2_with fail
        go_roundw
        case rel => exact ⟨k + 1, a + x.len, by go_num, by omega, by go_num, by omega, HR.out, GV.out⟩
        case measure => simp [intOf]; omega
      · have c1 : ((k : Int) == (ls.length : Int) - 1) = false := by simp; omega
        clear hl
        go_wp2_with fail
        go_roundw
        case rel => exact ⟨k + 1, a + x.len, by go_num, by omega, by go_num, by omega, HR.out, GV.out⟩
        case measure => simp [intOf]; omega
    · have i2 : ¬ (k : Int) < (ls.length : Int) := by omega
      go_wp2_with fail
      go_ret
      exact ⟨rfl, only_trans G0.out G.out⟩
set_option maxHeartbeats 8000000 in
set_option maxRecDepth 100000 in
theorem check12_any {S : Nat → Prop} (e : Ev) (h : EvC e) (w : World) (hs : e.Sub S w) : Calls Tryz.prog 52 #[.agg e.cells.toArray] w (OkP0 w) := by
  have KP := Lib.hid (place_any e h)
  have KW := Lib.hid (weight_any e.weight h.wt)
  have KL := Lib.hid (fun w' (hg : w.grownBy w' none) => lines12_any e h w' (hs.grown hg (by simp)))
  have KS := Lib.hid (fun w' (hg : w.grownBy w' none) => fsort_any e.fa e.fields e.fc w' (hs.2.1.grown hg (by simp)) h.fl h.fn h.fs)
  have HF := Lib.hid (hs.2.1.mono (S' := fun b => b < w.heap.size) (fun b _ h => h))
  have HFV := Lib.hid h.fv
  have hfl := h.fl
  have a1 : ¬ e.time < 0 := by have := h.t0; omega
  have a2 : ¬ 253402300799999 < e.time := by have := h.t1; omega
  have a3 : ¬ (32 : Int) < (e.trace.size : Int) := by have := h.tr; omega
  have a33 : ¬ 32 < e.trace.size := by have := h.tr; omega
  have a4 : ¬ (32 : Int) < (e.stream.size : Int) := by have := h.st; omega
  have a44 : ¬ 32 < e.stream.size := by have := h.st; omega
  rw [evAgg] at KP KL ⊢
  obtain ⟨host, file, beg, fin, ls, time, weight, trace, stream, fs, la, lc, fa, fc⟩ := e
  simp only at KP KW KL KS HF HFV hfl a1 a2 a3 a33 a4 a44 ⊢
  clear h hs
  go_enter Tryz.func52, Tryz.ntmps52
  go_upto_region 1 with fail
  obtain ⟨xb, hxb⟩ : ∃ b, b = w.heap.size := ⟨_, rfl⟩
  obtain ⟨W, hW⟩ : ∃ W, W = w.alloc (.cells #[.int .i64 host, .int .i64 file, .int .i64 beg, .int .i64 fin, .slice la ls.length lc, .int .i64 time, .int .i64 weight, .string trace, .string stream, .slice fa fs.length fc] 34) := ⟨_, rfl⟩
  have hBW : Blk W xb 34 #[.int .i64 host, .int .i64 file, .int .i64 beg, .int .i64 fin, .slice la ls.length lc, .int .i64 time, .int .i64 weight, .string trace, .string stream, .slice fa fs.length fc] := by rw [hW, hxb]; exact Blk.new _ _ _
  have hG0 : w.grownBy W none := by rw [hW]; exact only_alloc (only_refl _ _) _
  have BW := Lib.hid hBW
  have G0 := Lib.hid hG0
  have GR : Hid (W.grownBy W none) := Lib.hid (only_refl _ _)
  rw [← hW, ← hxb]
  clear hW hxb hBW hG0
  have BX := BW.out.grown GR.out (by simp)
  have e0 := BX.cell 0; have e1 := BX.cell 1; have e2 := BX.cell 2; have e3 := BX.cell 3; have e4 := BX.cell 4; have e5 := BX.cell 5; have e6 := BX.cell 6; have e7 := BX.cell 7; have e8 := BX.cell 8; have e9 := BX.cell 9
  simp at e0 e1 e2 e3 e4 e5 e6 e7 e8 e9
  clear BX
  go_wp2_with fail
  refine (KP.out W).mono ?_
  rintro en w1 ⟨rfl, hg1⟩
  have G1 := Lib.hid hg1
  clear hg1 KP e0 e1 e2 e3 e4 e5 e6 e7 e8 e9
  have BX := BW.out.grown G1.out (by simp)
  have e0 := BX.cell 0; have e1 := BX.cell 1; have e2 := BX.cell 2; have e3 := BX.cell 3; have e4 := BX.cell 4; have e5 := BX.cell 5; have e6 := BX.cell 6; have e7 := BX.cell 7; have e8 := BX.cell 8; have e9 := BX.cell 9
  simp at e0 e1 e2 e3 e4 e5 e6 e7 e8 e9
  clear BX
  go_wp2_with fail
  refine (KW.out w1).mono ?_
  rintro en w2 ⟨rfl, rfl⟩
  clear KW
  go_wp2_with fail
  refine (KL.out w2 (only_trans G0.out G1.out)).mono ?_
  rintro en w3 ⟨rfl, hg3⟩
  have G3 := Lib.hid (only_trans G1.out hg3)
  clear hg3 KL G1 e0 e1 e2 e3 e4 e5 e6 e7 e8 e9
  have BX := BW.out.grown G3.out (by simp)
  have e0 := BX.cell 0; have e1 := BX.cell 1; have e2 := BX.cell 2; have e3 := BX.cell 3; have e4 := BX.cell 4; have e5 := BX.cell 5; have e6 := BX.cell 6; have e7 := BX.cell 7; have e8 := BX.cell 8; have e9 := BX.cell 9
  simp at e0 e1 e2 e3 e4 e5 e6 e7 e8 e9
  clear BX
  go_wp2_with fail
  refine (KS.out w3 (only_trans G0.out G3.out)).mono ?_
  rintro en w4 ⟨AS, cS, rfl, hrs, hg4⟩
  have G4 := Lib.hid (only_trans G3.out hg4)
  have RS := Lib.hid hrs
  clear hg4 KS hrs G3 e0 e1 e2 e3 e4 e5 e6 e7 e8 e9
  have BX := BW.out.grown G4.out (by simp)
  have e0 := BX.cell 0; have e1 := BX.cell 1; have e2 := BX.cell 2; have e3 := BX.cell 3; have e4 := BX.cell 4; have e5 := BX.cell 5; have e6 := BX.cell 6; have e7 := BX.cell 7; have e8 := BX.cell 8; have e9 := BX.cell 9
  simp at e0 e1 e2 e3 e4 e5 e6 e7 e8 e9
  clear BX e0 e1 e2 e3 e4 e5 e6 e7 e8
  have KE := Lib.hid (fsame_true AS fa fs cS fc w4 RS.out (HF.out.grown (only_trans G0.out G4.out) (by simp)) (by omega))
  go_wp2_with fail
  refine KE.out.mono ?_
  rintro en w5 ⟨rfl, n5, hw5⟩
  have G5 : Hid (W.grownBy w5 none) := Lib.hid (by rw [hw5]; exact only_drewN G4.out n5)
  have R5 : Hid (Rd (w3.heap.size ≤ ·) w5 AS (fs.flatMap FieldD.cells)) := Lib.hid (by rw [hw5]; exact RS.out)
  clear hw5 KE G4 RS e9
  go_wp2_with fail
  go_loopw [7] (fun vi wr => ∃ k : Nat, vi = .int .i64 k ∧ k ≤ fs.length ∧ wr = w5) (fun vi _ => fs.length - (intOf vi).toNat)
  case atStart => exact ⟨0, rfl, Nat.zero_le _, rfl⟩
  case round =>
    obtain ⟨k, rfl, hk, rfl⟩ := hrel
    by_cases hlt : k < fs.length
    · obtain ⟨y, hy⟩ : ∃ y, fs[k]? = some y := ⟨_, List.getElem?_eq_getElem hlt⟩
      obtain ⟨fb, fo, rfl, -, f0, f1⟩ := fld_in R5.out hy
      have hyv := HFV.out y (List.mem_of_getElem? hy)
      have i1 : (k : Int) < (fs.length : Int) := by omega
      have i2 : ¬ (2000 : Int) < (y.value.size : Int) := by omega
      have i3 : ¬ 2000 < y.value.size := by omega
      clear hy
      go_wp2_with fail
      go_roundw
      case rel => exact ⟨k + 1, by go_num, by omega, trivial⟩
      case measure => simp [intOf]; omega
    · have i1 : ¬ (k : Int) < (fs.length : Int) := by omega
      go_wp2_with fail
      go_ret
      exact ⟨rfl, only_trans G0.out G5.out⟩
set_option maxHeartbeats 8000000 in
set_option maxRecDepth 100000 in
theorem check27_any {S : Nat → Prop} (A : Option Addr) (es : List Ev) (c : Nat) (w : World) (hev : Evs S w A es) (hel : es.length ≤ 40) (hs : ∀ e ∈ es, EvS e) (hc : ∀ e ∈ es, EvC e) (hr : SrtE es) :
    Calls Tryz.prog 42 #[.slice A es.length c] w (OkP0 w) := by
  have HEV := Lib.hid (hev.mono (S' := fun b => b < w.heap.size) (fun b _ h => h))
  have KC := Lib.hid (fun (e : Ev) (he : e ∈ es) (w' : World) (hg : w.grownBy w' none) => check12_any e (hc e he) w' ((hev.2 e he).grown hg (by simp)))
  have KWD := Lib.hid (fun (w' : World) (hg : w.grownBy w' none) => words_any A es c w' (hev.grown hg (by simp)) (by omega) hs)
  have KNM := Lib.hid (fun (w' : World) (hg : w.grownBy w' none) => names_any A es c w' (hev.grown hg (by simp)) (by omega) hs)
  have hwl := wordsX_len hs hel
  have hnl := namesX_len hs hel
  have HLS : Hid (∀ (k : Nat) (x y : Ev), es[k]? = some x → es[k + 1]? = some y → x.less y = true) := Lib.hid (fun k x y hx hy => by
    obtain ⟨h1, h2⟩ := List.getElem?_eq_some_iff.1 hx
    obtain ⟨h3, h4⟩ := List.getElem?_eq_some_iff.1 hy
    have h5 := List.pairwise_iff_getElem.1 hr k (k + 1) h1 h3 (Nat.lt_succ_self k)
    rw [h2, h4] at h5
    exact h5)
  have n1 : ¬ (32768 : Int) < ((wordsX es).length : Int) := by omega
  have n11 : ¬ 32768 < (wordsX es).length := by omega
  have n2 : ¬ (32768 : Int) < ((namesX es).length : Int) := by omega
  have n22 : ¬ 32768 < (namesX es).length := by omega
  have n3 : ¬ (256 : Int) < (es.length : Int) := by omega
  have n33 : ¬ 256 < es.length := by omega
  clear hev hs hc hr hwl hnl
  go_enter Tryz.func42, Tryz.ntmps42
  go_wp2_with fail
  go_loopw [3] (fun vi wr => ∃ k : Nat, vi = .int .i64 k ∧ k ≤ es.length ∧ w.grownBy wr none) (fun vi _ => es.length - (intOf vi).toNat)
  case atStart => exact ⟨0, rfl, Nat.zero_le _, only_refl _ _⟩
  case round =>
    obtain ⟨k, rfl, hk, hG⟩ := hrel
    have G := Lib.hid hG
    clear hG
    by_cases hlt : k < es.length
    · obtain ⟨y, hy⟩ : ∃ y, es[k]? = some y := ⟨_, List.getElem?_eq_getElem hlt⟩
      obtain ⟨kb, ko, eE, hkw, z0, z1, z2, z3, z4, z5, z6, z7, z8, z9⟩ := ev_in (HEV.out.1.grown G.out (by simp)) hy
      subst eE
      have K1 := KC.out y (List.mem_of_getElem? hy) wr G.out
      rw [evAgg] at K1
      have K1 := Lib.hid K1
      have i1 : (k : Int) < (es.length : Int) := by omega
      clear hy
      go_wp2_with fail
      refine K1.out.mono ?_
      rintro en w2 ⟨rfl, hg2⟩
      have G2 := Lib.hid (only_trans G.out hg2)
      clear hg2 K1 z0 z1 z2 z3 z4 z5 z6 z7 z8 z9
      go_wp2_with fail
      go_roundw
      case rel => exact ⟨k + 1, by go_num, by omega, G2.out⟩
      case measure => simp [intOf]; omega
    · have i1 : ¬ (k : Int) < (es.length : Int) := by omega
      go_wp2_with fail
      obtain ⟨wo, rfl⟩ : ∃ wo : World, wo = wr := ⟨_, rfl⟩
      go_loopw [5] (fun vi wr => ∃ k : Nat, vi = .int .i64 ((k : Int) + 1) ∧ (k ≤ es.length) ∧ w.grownBy wr none) (fun vi _ => es.length + 2 - (intOf vi).toNat)
      case atStart => exact ⟨0, rfl, Nat.zero_le _, G.out⟩
      case round =>
        clear i1 hlt hk
        obtain ⟨k, rfl, hk, hG⟩ := hrel
        have G2 := Lib.hid hG
        clear hG
        by_cases hlt : k + 1 < es.length
        · obtain ⟨x, hx⟩ : ∃ x, es[k]? = some x := ⟨_, List.getElem?_eq_getElem (by omega)⟩
          obtain ⟨y, hy⟩ : ∃ y, es[k + 1]? = some y := ⟨_, List.getElem?_eq_getElem hlt⟩
          have hxy := HLS.out k x y hx hy
          obtain ⟨kb, ko, eE, hkw, z0, z1, z2, z3, z4, z5, z6, z7, z8, z9⟩ := ev_in (HEV.out.1.grown G2.out (by simp)) hx
          subst eE
          obtain ⟨kb', ko', eE, hkw', y0, y1, y2, y3, y4, y5, y6, y7, y8, y9⟩ := ev_in (HEV.out.1.grown G2.out (by simp)) hy
          injection eE with eE
          injection eE with e1 e2
          subst e1 e2
          have KL := rless_any x y
          rw [evAgg, evAgg, hxy] at KL
          have KL := Lib.hid KL
          have i2 : (k : Int) + 1 < (es.length : Int) := by omega
          have i3 : (k : Int) < (es.length : Int) := by omega
          have i4 : (0 : Int) ≤ (k : Int) := by omega
          have hwk : IntKind.i64.wrap (k : Int) = (k : Int) := IntWalk.i64_in _ (by omega)
          clear hx hy hxy
          go_upto_region 12 with fail
          go_cut [39] (fun v wx => v = .bool false ∧ wr.grownBy wx none)
          case first =>
            go_region_with (go_at_call 51; refine (KL.out _).mono ?_; rintro en w2 ⟨rfl, hg2⟩)
            all_goals
              go_wp2_with fail
              go_meet
              exact ⟨rfl, only_trans (only_drew (only_refl _ _)) hg2⟩
          case rest =>
            obtain ⟨rfl, hgc⟩ := hcut
            have G3 := Lib.hid (only_trans G2.out hgc)
            clear hgc z0 z1 z2 z3 z4 z5 z6 z7 z8 z9 y0 y1 y2 y3 y4 y5 y6 y7 y8 y9
            go_wp2_with fail
            go_roundw
            case rel => exact ⟨k + 1, by go_num, by omega, G3.out⟩
            case measure => simp [intOf]; omega
        · have i2 : ¬ (k : Int) + 1 < (es.length : Int) := by omega
          have K1 := Lib.hid (KWD.out wr G2.out)
          go_wp2_with fail
          refine K1.out.mono ?_
          rintro en w3 ⟨AW, cW, rfl, -, -, -, hg3⟩
          have G3 := Lib.hid (only_trans G2.out hg3)
          have K2 := Lib.hid (KNM.out w3 G3.out)
          clear hg3 K1
          go_wp2_with fail
          refine K2.out.mono ?_
          rintro en w4 ⟨AW, cW, rfl, -, -, -, hg4⟩
          have G4 := Lib.hid (only_trans G3.out hg4)
          clear hg4 K2
          go_wp2_with fail
          go_ret
          exact ⟨rfl, G4.out⟩
end Go.Proofs.YtodaabofpkafjaaGreat
