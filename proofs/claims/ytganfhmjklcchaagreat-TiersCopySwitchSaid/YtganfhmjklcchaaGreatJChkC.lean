/- Check of an event and of events: the references of chapters 12 and 27, at good events. Conditions: good events. -/
import Derived.Test.YtganfhmjklcchaaGreatJPln33
import Derived.Test.YtganfhmjklcchaaGreatJPrefP
import Derived.Test.YtganfhmjklcchaaGreatJHdrT
import Derived.Lib.SlBytesConst
import Derived.Test.YtganfhmjklcchaaGreatJHdrW
import Derived.ArgAppend
namespace Go.Proofs.YtganfhmjklcchaaGreat
open Go.RowKit
set_option linter.unusedVariables false
set_option linter.unusedSimpArgs false

/-- an event that Check lets by -/
structure EvC (e : Ev) : Prop where
  h0 : 0 ≤ e.host
  h1 : e.host ≤ 999
  f0 : 0 ≤ e.file
  f1 : e.file ≤ 2147483646
  b0 : 0 ≤ e.beg
  bf : e.beg < e.fin
  f2 : e.fin ≤ 60000
  t0 : 0 ≤ e.time
  t1 : e.time ≤ 253402300799999
  wt : IsWeight e.weight
  l0 : 1 ≤ e.lines.length
  l1 : e.lines.length ≤ 40
  ch : Chain e.beg e.lines e.fin
  tr : e.trace.size ≤ 32
  st : e.stream.size ≤ 32
  fl : e.fields.length ≤ 32
  fn : ∀ f ∈ e.fields, LowName f.name
  fs : Srt (e.fields.map FieldD.name)
  fv : ∀ f ∈ e.fields, f.value.size ≤ 2000
def OkP0 (w : World) (e : Ending) (w' : World) : Prop := e = .returned (.int .i64 0) ∧ w.grownBy w' none
theorem evAgg (e : Ev) : e.cells.toArray = #[.int .i64 e.host, .int .i64 e.file, .int .i64 e.beg, .int .i64 e.fin, .slice e.la e.lines.length e.lc, .int .i64 e.time, .int .i64 e.weight, .string e.trace, .string e.stream, .slice e.fa e.fields.length e.fc] := rfl
set_option maxHeartbeats 4000000 in
set_option maxRecDepth 100000 in
theorem place_any (e : Ev) (h : EvC e) (w : World) : Calls Tryz.prog 94 #[.agg e.cells.toArray] w (OkP0 w) := by
  rw [evAgg]
  have i1 : ¬ e.host < 0 := by have := h.h0; omega
  have i2 : ¬ 999 < e.host := by have := h.h1; omega
  have i3 : ¬ e.file < 0 := by have := h.f0; omega
  have i4 : ¬ 2147483646 < e.file := by have := h.f1; omega
  have i5 : ¬ e.beg < 0 := by have := h.b0; omega
  have i6 : ¬ e.fin ≤ e.beg := by have := h.bf; omega
  have i7 : ¬ 60000 < e.fin := by have := h.f2; omega
  clear h
  go_enter Tryz.func94, Tryz.ntmps94
  go_wp2_with fail
  go_ret
  exact ⟨rfl, only_alloc (only_refl _ _) _⟩
set_option maxHeartbeats 2000000 in
theorem weight_any (x : Int) (h : IsWeight x) (w : World) : Calls Tryz.prog 95 #[.int .i64 x] w (StayB true w) := by
  rcases h with rfl | rfl | rfl | rfl | rfl
  all_goals
    go_enter Tryz.func95, Tryz.ntmps95
    go_wp2_with fail
    go_ret
    exact ⟨rfl, rfl⟩
set_option maxHeartbeats 8000000 in
set_option maxRecDepth 100000 in
theorem lines12_any {S : Nat → Prop} (e : Ev) (h : EvC e) (w : World) (hs : e.Sub S w) : Calls Tryz.prog 96 #[.agg e.cells.toArray, .int .i64 2000] w (OkP0 w) := by
  rw [evAgg]
  have HL := Lib.hid hs.1
  have CH0 := Lib.hid h.ch
  have hb0 := h.b0
  have hb1 := h.f2
  have hb2 := h.bf
  have l0 := h.l0
  have l1 := h.l1
  obtain ⟨host, file, beg, fin, ls, time, weight, trace, stream, fields, la, lc, fa, fc⟩ := e
  simp only at HL CH0 hb0 hb1 hb2 l0 l1 ⊢
  clear h hs
  have i0 : ¬ ls.length = 0 := by omega
  have i00 : ¬ (ls.length : Int) = 0 := by omega
  have i1 : ¬ (40 : Int) < (ls.length : Int) := by omega
  have i11 : ¬ 40 < ls.length := by omega
  go_enter Tryz.func96, Tryz.ntmps96
  go_upto_region 1 with fail
  obtain ⟨xb, hxb⟩ : ∃ b, b = w.heap.size := ⟨_, rfl⟩
  obtain ⟨W, hW⟩ : ∃ W, W = w.alloc (.cells #[.int .i64 host, .int .i64 file, .int .i64 beg, .int .i64 fin, .slice la ls.length lc, .int .i64 time, .int .i64 weight, .string trace, .string stream, .slice fa fields.length fc] 67) := ⟨_, rfl⟩
  have hBW : Blk W xb 67 #[.int .i64 host, .int .i64 file, .int .i64 beg, .int .i64 fin, .slice la ls.length lc, .int .i64 time, .int .i64 weight, .string trace, .string stream, .slice fa fields.length fc] := by rw [hW, hxb]; exact Blk.new _ _ _
  have hG0 : w.grownBy W none := by rw [hW]; exact only_alloc (only_refl _ _) _
  have BW := Lib.hid hBW
  have G0 := Lib.hid hG0
  have e2 := hBW.cell 2; have e3 := hBW.cell 3; have e4 := hBW.cell 4
  simp at e2 e3 e4
  rw [← hW, ← hxb]
  clear hW hxb hBW hG0
  go_wp2_with fail
  go_loopw [5, 6] (fun va vi wr => ∃ (k : Nat) (a : Int), vi = .int .i64 k ∧ k ≤ ls.length ∧ va = .int .i64 a ∧ 0 ≤ a ∧ Chain a (ls.drop k) fin ∧ W.grownBy wr none) (fun _ vi _ => ls.length - (intOf vi).toNat)
  case atStart => exact ⟨0, beg, rfl, Nat.zero_le _, rfl, hb0, CH0.out, only_refl _ _⟩
  case round =>
    clear e2 e3 e4
    obtain ⟨k, a, rfl, hk, rfl, ha0, hC, hG⟩ := hrel
    have BW2 := BW.out.grown hG (by simp)
    have e2 := BW2.cell 2; have e3 := BW2.cell 3; have e4 := BW2.cell 4
    simp at e2 e3 e4
    have G := Lib.hid hG
    have CC := Lib.hid hC
    have hxw : xb < wr.heap.size := BW2.lt
    clear BW2 hG hC
    by_cases hlt : k < ls.length
    · obtain ⟨x, hx⟩ : ∃ x, ls[k]? = some x := ⟨_, List.getElem?_eq_getElem hlt⟩
      have hdr : ls.drop k = x :: ls.drop (k + 1) := by
        obtain ⟨h1, h2⟩ := List.getElem?_eq_some_iff.1 hx
        rw [List.drop_eq_getElem_cons h1, h2]
      have hC := CC.out
      rw [hdr] at hC
      obtain ⟨hoff, hsz, hlen, hrest⟩ := hC
      have hle := hrest.le
      rw [List.length_drop] at hle
      have hrr := HL.out.grown (only_trans G0.out G.out) (by simp)
      obtain ⟨lb, lo, ela, hlb, -, -⟩ := hrr (by rw [flat_len _ 3 LineD.cells_len]; omega)
      rw [ela] at hrr e4
      have d0 : wr.cell? ⟨lb, lo + k * 3, none⟩ = some (.int .i64 x.off) := hrr.flatAt LineD.cells_len hx 0 (by omega)
      have d1 : wr.cell? ⟨lb, lo + k * 3 + 1, none⟩ = some (.int .i64 x.len) := hrr.flatAt LineD.cells_len hx 1 (by omega)
      have d2 : wr.cell? ⟨lb, lo + k * 3 + 2, none⟩ = some (.string x.text) := hrr.flatAt LineD.cells_len hx 2 (by omega)
      rw [hoff] at d0
      have HR := Lib.hid hrest
      have hlast : k + 1 = ls.length → x.len = fin - a := fun h => by
        have h1 := hrest
        rw [List.drop_of_length_le (by omega)] at h1
        simp only [Chain] at h1
        omega
      have HLA := Lib.hid hlast
      have j0 : (a != a) = false := by simp
      have j1 : ¬ x.len < 1 := by omega
      have j2 : ¬ fin - a < x.len := by omega
      have j3 : ¬ (2000 : Int) < (x.text.size : Int) := by omega
      have j33 : ¬ 2000 < x.text.size := by omega
      have i2 : (k : Int) < (ls.length : Int) := by omega
      have ja : a ≤ 60000 := by omega
      clear hx hdr hrr ela hrest hlast hle hlb hoff
      go_upto_region 10 with fail
      obtain ⟨yb, hyb⟩ : ∃ b, b = wr.heap.size := ⟨_, rfl⟩
      obtain ⟨V, hV⟩ : ∃ V, V = wr.alloc (.cells #[.int .i64 a, .int .i64 x.len, .string x.text] 146) := ⟨_, rfl⟩
      have hBV : Blk V yb 146 #[.int .i64 a, .int .i64 x.len, .string x.text] := by rw [hV, hyb]; exact Blk.new _ _ _
      have hGV : wr.grownBy V none := by rw [hV]; exact only_alloc (only_refl _ _) _
      have GV := Lib.hid (only_trans G.out hGV)
      have BW3 := BW.out.grown GV.out (by simp)
      rw [← hV, ← hyb]
      clear e2 e3 e4 hV hyb hGV d0 d1 d2
      have e2 := BW3.cell 2; have e3 := BW3.cell 3; have e4 := BW3.cell 4
      simp at e2 e3 e4
      have y0 := hBV.cell 0; have y1 := hBV.cell 1; have y2 := hBV.cell 2
      simp at y0 y1 y2
      clear BW3 hBV
      by_cases hl : k + 1 = ls.length
      · have c1 : ((k : Int) == (ls.length : Int) - 1) = true := by simp; omega
        have c2 : (x.len != fin - a) = false := by rw [HLA.out hl]; simp
        clear hl
        go_wp2_with fail
        go_roundw
        case rel => exact ⟨k + 1, a + x.len, by go_num, by omega, by go_num, by omega, HR.out, GV.out⟩
        case measure => simp [intOf]; omega
      · have c1 : ((k : Int) == (ls.length : Int) - 1) = false := by simp; omega
        clear hl
        go_wp2_with fail
        go_roundw
        case rel => exact ⟨k + 1, a + x.len, by go_num, by omega, by go_num, by omega, HR.out, GV.out⟩
        case measure => simp [intOf]; omega
    · have i2 : ¬ (k : Int) < (ls.length : Int) := by omega
      go_wp2_with fail
      go_ret
      exact ⟨rfl, only_trans G0.out G.out⟩
set_option maxHeartbeats 8000000 in
set_option maxRecDepth 100000 in
theorem check12_any {S : Nat → Prop} (e : Ev) (h : EvC e) (w : World) (hs : e.Sub S w) : Calls Tryz.prog 69 #[.agg e.cells.toArray] w (OkP0 w) := by
  have KP := Lib.hid (place_any e h)
  have KW := Lib.hid (weight_any e.weight h.wt)
  have KL := Lib.hid (fun w' (hg : w.grownBy w' none) => lines12_any e h w' (hs.grown hg (by simp)))
  have KS := Lib.hid (fun w' (hg : w.grownBy w' none) => fsort_any e.fa e.fields e.fc w' (hs.2.1.grown hg (by simp)) h.fl h.fn h.fs)
  have HF := Lib.hid (hs.2.1.mono (S' := fun b => b < w.heap.size) (fun b _ h => h))
  have HFV := Lib.hid h.fv
  have hfl := h.fl
  have a1 : ¬ e.time < 0 := by have := h.t0; omega
  have a2 : ¬ 253402300799999 < e.time := by have := h.t1; omega
  have a3 : ¬ (32 : Int) < (e.trace.size : Int) := by have := h.tr; omega
  have a33 : ¬ 32 < e.trace.size := by have := h.tr; omega
  have a4 : ¬ (32 : Int) < (e.stream.size : Int) := by have := h.st; omega
  have a44 : ¬ 32 < e.stream.size := by have := h.st; omega
  rw [evAgg] at KP KL ⊢
  obtain ⟨host, file, beg, fin, ls, time, weight, trace, stream, fs, la, lc, fa, fc⟩ := e
  simp only at KP KW KL KS HF HFV hfl a1 a2 a3 a33 a4 a44 ⊢
  clear h hs
  go_enter Tryz.func69, Tryz.ntmps69
  go_upto_region 1 with fail
  obtain ⟨xb, hxb⟩ : ∃ b, b = w.heap.size := ⟨_, rfl⟩
  obtain ⟨W, hW⟩ : ∃ W, W = w.alloc (.cells #[.int .i64 host, .int .i64 file, .int .i64 beg, .int .i64 fin, .slice la ls.length lc, .int .i64 time, .int .i64 weight, .string trace, .string stream, .slice fa fs.length fc] 67) := ⟨_, rfl⟩
  have hBW : Blk W xb 67 #[.int .i64 host, .int .i64 file, .int .i64 beg, .int .i64 fin, .slice la ls.length lc, .int .i64 time, .int .i64 weight, .string trace, .string stream, .slice fa fs.length fc] := by rw [hW, hxb]; exact Blk.new _ _ _
  have hG0 : w.grownBy W none := by rw [hW]; exact only_alloc (only_refl _ _) _
  have BW := Lib.hid hBW
  have G0 := Lib.hid hG0
  have GR : Hid (W.grownBy W none) := Lib.hid (only_refl _ _)
  rw [← hW, ← hxb]
  clear hW hxb hBW hG0
  have BX := BW.out.grown GR.out (by simp)
  have e0 := BX.cell 0; have e1 := BX.cell 1; have e2 := BX.cell 2; have e3 := BX.cell 3; have e4 := BX.cell 4; have e5 := BX.cell 5; have e6 := BX.cell 6; have e7 := BX.cell 7; have e8 := BX.cell 8; have e9 := BX.cell 9
  simp at e0 e1 e2 e3 e4 e5 e6 e7 e8 e9
  clear BX
  go_wp2_with fail
  refine (KP.out W).mono ?_
  rintro en w1 ⟨rfl, hg1⟩
  have G1 := Lib.hid hg1
  clear hg1 KP e0 e1 e2 e3 e4 e5 e6 e7 e8 e9
  have BX := BW.out.grown G1.out (by simp)
  have e0 := BX.cell 0; have e1 := BX.cell 1; have e2 := BX.cell 2; have e3 := BX.cell 3; have e4 := BX.cell 4; have e5 := BX.cell 5; have e6 := BX.cell 6; have e7 := BX.cell 7; have e8 := BX.cell 8; have e9 := BX.cell 9
  simp at e0 e1 e2 e3 e4 e5 e6 e7 e8 e9
  clear BX
  go_wp2_with fail
  refine (KW.out w1).mono ?_
  rintro en w2 ⟨rfl, rfl⟩
  clear KW
  go_wp2_with fail
  refine (KL.out w2 (only_trans G0.out G1.out)).mono ?_
  rintro en w3 ⟨rfl, hg3⟩
  have G3 := Lib.hid (only_trans G1.out hg3)
  clear hg3 KL G1 e0 e1 e2 e3 e4 e5 e6 e7 e8 e9
  have BX := BW.out.grown G3.out (by simp)
  have e0 := BX.cell 0; have e1 := BX.cell 1; have e2 := BX.cell 2; have e3 := BX.cell 3; have e4 := BX.cell 4; have e5 := BX.cell 5; have e6 := BX.cell 6; have e7 := BX.cell 7; have e8 := BX.cell 8; have e9 := BX.cell 9
  simp at e0 e1 e2 e3 e4 e5 e6 e7 e8 e9
  clear BX
  go_wp2_with fail
  refine (KS.out w3 (only_trans G0.out G3.out)).mono ?_
  rintro en w4 ⟨AS, cS, rfl, hrs, hg4⟩
  have G4 := Lib.hid (only_trans G3.out hg4)
  have RS := Lib.hid hrs
  clear hg4 KS hrs G3 e0 e1 e2 e3 e4 e5 e6 e7 e8 e9
  have BX := BW.out.grown G4.out (by simp)
  have e0 := BX.cell 0; have e1 := BX.cell 1; have e2 := BX.cell 2; have e3 := BX.cell 3; have e4 := BX.cell 4; have e5 := BX.cell 5; have e6 := BX.cell 6; have e7 := BX.cell 7; have e8 := BX.cell 8; have e9 := BX.cell 9
  simp at e0 e1 e2 e3 e4 e5 e6 e7 e8 e9
  clear BX e0 e1 e2 e3 e4 e5 e6 e7 e8
  have KE := Lib.hid (fsame_true AS fa fs cS fc w4 RS.out (HF.out.grown (only_trans G0.out G4.out) (by simp)) (by omega))
  go_wp2_with fail
  refine KE.out.mono ?_
  rintro en w5 ⟨rfl, n5, hw5⟩
  have G5 : Hid (W.grownBy w5 none) := Lib.hid (by rw [hw5]; exact only_drewN G4.out n5)
  have R5 : Hid (Rd (w3.heap.size ≤ ·) w5 AS (fs.flatMap FieldD.cells)) := Lib.hid (by rw [hw5]; exact RS.out)
  clear hw5 KE G4 RS e9
  go_wp2_with fail
  go_loopw [7] (fun vi wr => ∃ k : Nat, vi = .int .i64 k ∧ k ≤ fs.length ∧ wr = w5) (fun vi _ => fs.length - (intOf vi).toNat)
  case atStart => exact ⟨0, rfl, Nat.zero_le _, rfl⟩
  case round =>
    obtain ⟨k, rfl, hk, rfl⟩ := hrel
    by_cases hlt : k < fs.length
    · obtain ⟨y, hy⟩ : ∃ y, fs[k]? = some y := ⟨_, List.getElem?_eq_getElem hlt⟩
      obtain ⟨fb, fo, rfl, -, f0, f1⟩ := fld_in R5.out hy
      have hyv := HFV.out y (List.mem_of_getElem? hy)
      have i1 : (k : Int) < (fs.length : Int) := by omega
      have i2 : ¬ (2000 : Int) < (y.value.size : Int) := by omega
      have i3 : ¬ 2000 < y.value.size := by omega
      clear hy
      go_wp2_with fail
      go_roundw
      case rel => exact ⟨k + 1, by go_num, by omega, trivial⟩
      case measure => simp [intOf]; omega
    · have i1 : ¬ (k : Int) < (fs.length : Int) := by omega
      go_wp2_with fail
      go_ret
      exact ⟨rfl, only_trans G0.out G5.out⟩
set_option maxHeartbeats 8000000 in
set_option maxRecDepth 100000 in
theorem check27_any {S : Nat → Prop} (A : Option Addr) (es : List Ev) (c : Nat) (w : World) (hev : Evs S w A es) (hel : es.length ≤ 40) (hs : ∀ e ∈ es, EvS e) (hc : ∀ e ∈ es, EvC e) (hr : SrtE es) :
    Calls Tryz.prog 47 #[.slice A es.length c] w (OkP0 w) := by
  have HEV := Lib.hid (hev.mono (S' := fun b => b < w.heap.size) (fun b _ h => h))
  have KC := Lib.hid (fun (e : Ev) (he : e ∈ es) (w' : World) (hg : w.grownBy w' none) => check12_any e (hc e he) w' ((hev.2 e he).grown hg (by simp)))
  have KWD := Lib.hid (fun (w' : World) (hg : w.grownBy w' none) => words_any A es c w' (hev.grown hg (by simp)) (by omega) hs)
  have KNM := Lib.hid (fun (w' : World) (hg : w.grownBy w' none) => names_any A es c w' (hev.grown hg (by simp)) (by omega) hs)
  have hwl := wordsX_len hs hel
  have hnl := namesX_len hs hel
  have HLS : Hid (∀ (k : Nat) (x y : Ev), es[k]? = some x → es[k + 1]? = some y → x.less y = true) := Lib.hid (fun k x y hx hy => by
    obtain ⟨h1, h2⟩ := List.getElem?_eq_some_iff.1 hx
    obtain ⟨h3, h4⟩ := List.getElem?_eq_some_iff.1 hy
    have h5 := List.pairwise_iff_getElem.1 hr k (k + 1) h1 h3 (Nat.lt_succ_self k)
    rw [h2, h4] at h5
    exact h5)
  have n1 : ¬ (32768 : Int) < ((wordsX es).length : Int) := by omega
  have n11 : ¬ 32768 < (wordsX es).length := by omega
  have n2 : ¬ (32768 : Int) < ((namesX es).length : Int) := by omega
  have n22 : ¬ 32768 < (namesX es).length := by omega
  have n3 : ¬ (256 : Int) < (es.length : Int) := by omega
  have n33 : ¬ 256 < es.length := by omega
  clear hev hs hc hr hwl hnl
  go_enter Tryz.func47, Tryz.ntmps47
  go_wp2_with fail
  go_loopw [3] (fun vi wr => ∃ k : Nat, vi = .int .i64 k ∧ k ≤ es.length ∧ w.grownBy wr none) (fun vi _ => es.length - (intOf vi).toNat)
  case atStart => exact ⟨0, rfl, Nat.zero_le _, only_refl _ _⟩
  case round =>
    obtain ⟨k, rfl, hk, hG⟩ := hrel
    have G := Lib.hid hG
    clear hG
    by_cases hlt : k < es.length
    · obtain ⟨y, hy⟩ : ∃ y, es[k]? = some y := ⟨_, List.getElem?_eq_getElem hlt⟩
      obtain ⟨kb, ko, eE, hkw, z0, z1, z2, z3, z4, z5, z6, z7, z8, z9⟩ := ev_in (HEV.out.1.grown G.out (by simp)) hy
      subst eE
      have K1 := KC.out y (List.mem_of_getElem? hy) wr G.out
      rw [evAgg] at K1
      have K1 := Lib.hid K1
      have i1 : (k : Int) < (es.length : Int) := by omega
      clear hy
      go_wp2_with fail
      refine K1.out.mono ?_
      rintro en w2 ⟨rfl, hg2⟩
      have G2 := Lib.hid (only_trans G.out hg2)
      clear hg2 K1 z0 z1 z2 z3 z4 z5 z6 z7 z8 z9
      go_wp2_with fail
      go_roundw
      case rel => exact ⟨k + 1, by go_num, by omega, G2.out⟩
      case measure => simp [intOf]; omega
    · have i1 : ¬ (k : Int) < (es.length : Int) := by omega
      go_wp2_with fail
      obtain ⟨wo, rfl⟩ : ∃ wo : World, wo = wr := ⟨_, rfl⟩
      go_loopw [5] (fun vi wr => ∃ k : Nat, vi = .int .i64 ((k : Int) + 1) ∧ (k ≤ es.length) ∧ w.grownBy wr none) (fun vi _ => es.length + 2 - (intOf vi).toNat)
      case atStart => exact ⟨0, rfl, Nat.zero_le _, G.out⟩
      case round =>
        clear i1 hlt hk
        obtain ⟨k, rfl, hk, hG⟩ := hrel
        have G2 := Lib.hid hG
        clear hG
        by_cases hlt : k + 1 < es.length
        · obtain ⟨x, hx⟩ : ∃ x, es[k]? = some x := ⟨_, List.getElem?_eq_getElem (by omega)⟩
          obtain ⟨y, hy⟩ : ∃ y, es[k + 1]? = some y := ⟨_, List.getElem?_eq_getElem hlt⟩
          have hxy := HLS.out k x y hx hy
          obtain ⟨kb, ko, eE, hkw, z0, z1, z2, z3, z4, z5, z6, z7, z8, z9⟩ := ev_in (HEV.out.1.grown G2.out (by simp)) hx
          subst eE
          obtain ⟨kb', ko', eE, hkw', y0, y1, y2, y3, y4, y5, y6, y7, y8, y9⟩ := ev_in (HEV.out.1.grown G2.out (by simp)) hy
          injection eE with eE
          injection eE with e1 e2
          subst e1 e2
          have KL := rless_any x y
          rw [evAgg, evAgg, hxy] at KL
          have KL := Lib.hid KL
          have i2 : (k : Int) + 1 < (es.length : Int) := by omega
          have i3 : (k : Int) < (es.length : Int) := by omega
          have i4 : (0 : Int) ≤ (k : Int) := by omega
          have hwk : IntKind.i64.wrap (k : Int) = (k : Int) := IntWalk.i64_in _ (by omega)
          clear hx hy hxy
          go_upto_region 12 with fail
          go_cut [39] (fun v wx => v = .bool false ∧ wr.grownBy wx none)
          case first =>
            go_region_with (go_at_call 68; refine (KL.out _).mono ?_; rintro en w2 ⟨rfl, hg2⟩)
            all_goals
              go_wp2_with fail
              go_meet
              exact ⟨rfl, only_trans (only_drew (only_refl _ _)) hg2⟩
          case rest =>
            obtain ⟨rfl, hgc⟩ := hcut
            have G3 := Lib.hid (only_trans G2.out hgc)
            clear hgc z0 z1 z2 z3 z4 z5 z6 z7 z8 z9 y0 y1 y2 y3 y4 y5 y6 y7 y8 y9
            go_wp2_with fail
            go_roundw
            case rel => exact ⟨k + 1, by go_num, by omega, G3.out⟩
            case measure => simp [intOf]; omega
        · have i2 : ¬ (k : Int) + 1 < (es.length : Int) := by omega
          have K1 := Lib.hid (KWD.out wr G2.out)
          go_wp2_with fail
          refine K1.out.mono ?_
          rintro en w3 ⟨AW, cW, rfl, -, -, -, hg3⟩
          have G3 := Lib.hid (only_trans G2.out hg3)
          have K2 := Lib.hid (KNM.out w3 G3.out)
          clear hg3 K1
          go_wp2_with fail
          refine K2.out.mono ?_
          rintro en w4 ⟨AW, cW, rfl, -, -, -, hg4⟩
          have G4 := Lib.hid (only_trans G3.out hg4)
          clear hg4 K2
          go_wp2_with fail
          go_ret
          exact ⟨rfl, G4.out⟩
end Go.Proofs.YtganfhmjklcchaaGreat

namespace Go.Proofs.YtganfhmjklcchaaGreat
open Go.RowKit
set_option linter.unusedVariables false
set_option linter.unusedSimpArgs false

/-- the bytes of a section -/
noncomputable def secX (es : List Ev) (j : Nat) : List Int :=
  if j ≤ 6 then colX (numsX es j) else if j ≤ 8 then idxX (txtsX es j) else if j = 9 then linesX es else if j = 10 then fieldsX es else if j = 11 then indexX es else filX es
def firstT (es : List Ev) : Nat := ((es.head?.map Ev.time).getD 0).toNat
def lastT (es : List Ev) : Nat := ((es.getLast?.map Ev.time).getD 0).toNat
noncomputable def headTo (es : List Ev) : Nat → List Int
  | 0 => [76, 84, 83, 49] ++ beB 4 es.length ++ beB 8 (firstT es) ++ beB 8 (lastT es)
  | k + 1 => headTo es k ++ beB 4 (secX es (k + 1)).length ++ beB 4 (crcN (secX es (k + 1)))
noncomputable def bodyTo (es : List Ev) : Nat → List Int
  | 0 => []
  | k + 1 => bodyTo es k ++ secX es (k + 1)
noncomputable def encX (es : List Ev) : List Int := headTo es 12 ++ beB 4 (crcN (headTo es 12)) ++ bodyTo es 12
theorem headTo_len (es : List Ev) : ∀ k, (headTo es k).length = 24 + 8 * k
  | 0 => by simp [headTo, beB_len]
  | k + 1 => by
    have := headTo_len es k
    simp only [headTo, List.length_append, beB_len]
    omega
/-- good events: what Encode asks -/
structure EvE (e : Ev) : Prop where
  s : EvS e
  c : EvC e
theorem EvE.num {e : Ev} (h : EvE e) (j : Nat) : I64 (numX e j) := by
  obtain ⟨-, h⟩ := h
  have h0 := h.h0; have h1 := h.h1; have f0 := h.f0; have f1 := h.f1; have b0 := h.b0; have bf := h.bf; have f2 := h.f2; have t0 := h.t0; have t1 := h.t1
  have hw := h.wt
  unfold IsWeight at hw
  unfold I64 numX
  split
  · omega
  · split
    · omega
    · split
      · omega
      · split
        · omega
        · split
          · omega
          · split <;> omega
theorem chain_i64 : ∀ {xs : List LineD} {a b : Int}, Chain a xs b → 0 ≤ a → b ≤ 60000 → ∀ x ∈ xs, I64 x.off ∧ I64 x.len
  | [], _, _, _, _, _, x, hx => by cases hx
  | y :: ys, a, b, h, h0, h1, x, hx => by
    obtain ⟨e1, e2, e3, e4⟩ := h
    have hle := e4.le
    rcases List.mem_cons.1 hx with rfl | hx
    · unfold I64; omega
    · exact chain_i64 e4 (by omega) h1 x hx
theorem EvE.l {e : Ev} (h : EvE e) : EvL e := ⟨h.s, chain_i64 h.c.ch h.c.b0 h.c.f2⟩
theorem secX_len {es : List Ev} (hs : ∀ e ∈ es, EvE e) (hl : es.length ≤ 40) (j : Nat) : (secX es j).length ≤ (if j ≤ 6 then 411 else if j ≤ 8 then 11000 else if j = 9 then 20000 else if j = 10 then 1914000 else if j = 11 then 6921500 else 8195) := by
  have hS : ∀ e ∈ es, EvS e := fun e he => (hs e he).s
  unfold secX
  split
  · have h := colX_len (vs := numsX es j) (fun x hx => by obtain ⟨e, he, rfl⟩ := List.mem_map.1 hx; exact (hs e he).num j) (by unfold numsX; rw [List.length_map]; omega)
    unfold numsX at h ⊢
    rw [List.length_map] at h
    omega
  · split
    · exact idxX_len (fun x hx => by
        obtain ⟨e, he, rfl⟩ := List.mem_map.1 hx
        have h1 := (hS e he).2.2.2.2.2
        split <;> omega) (by unfold txtsX; rw [List.length_map]; exact hl)
    · split
      · have h0 := lnsL_len (fun e he => (hs e he).l) hl
        have hm := lnsL_mem (fun e he => (hs e he).l)
        have h1 := colX_len (vs := cntL es) (fun x hx => by obtain ⟨e, he, rfl⟩ := List.mem_map.1 hx; have := (hS e he).1; exact i64_small (by omega)) (by unfold cntL; rw [List.length_map]; omega)
        have h2 := colX_len (vs := (lnsL es).map (·.off)) (fun x hx => by obtain ⟨e, he, rfl⟩ := List.mem_map.1 hx; exact (hm e he).2.1) (by rw [List.length_map]; omega)
        have h3 := colX_len (vs := (lnsL es).map (·.len)) (fun x hx => by obtain ⟨e, he, rfl⟩ := List.mem_map.1 hx; exact (hm e he).2.2) (by rw [List.length_map]; omega)
        have h4 := colX_len (vs := (lnsL es).map (fun x => (x.text.size : Int))) (fun x hx => by obtain ⟨e, he, rfl⟩ := List.mem_map.1 hx; have := (hm e he).1; exact i64_small (by omega)) (by rw [List.length_map]; omega)
        have h5 := txtL_len (lnsL es) (fun x hx => (hm x hx).1)
        have hc : (cntL es).length = es.length := by unfold cntL; rw [List.length_map]
        rw [List.length_map] at h2 h3 h4
        have g1 := blkP_len (b := colX (cntL es)) (by omega)
        have g2 := blkP_len (b := colX ((lnsL es).map (·.off))) (by omega)
        have g3 := blkP_len (b := colX ((lnsL es).map (·.len))) (by omega)
        have g4 := blkP_len (b := colX ((lnsL es).map (fun x => (x.text.size : Int)))) (by omega)
        unfold linesX
        simp only [List.length_append]
        omega
      · split
        · have hn := namesX_len hS hl
          have h := fieldsTo_len hS hl (namesX_sz hS) hn (namesX es).length
          unfold fieldsX
          omega
        · split
          · have hn := wordsX_len hS hl
            have h := idxTo_len hl (fun x hx => by have := wordsX_sz es x hx; omega : ∀ x ∈ wordsX es, x.size ≤ 250) hn (wordsX es).length
            unfold indexX
            omega
          · exact filX_len es
theorem bodyTo_step (es : List Ev) (k : Nat) : (bodyTo es (k + 1)).length = (bodyTo es k).length + (secX es (k + 1)).length := by rw [bodyTo, List.length_append]
def secB (k : Nat) : Nat := if k ≤ 6 then 411 * k else if k ≤ 8 then 2466 + 11000 * (k - 6) else if k = 9 then 44466 else if k = 10 then 1958466 else if k = 11 then 8879966 else 8888161
theorem bodyTo_len' {es : List Ev} (hs : ∀ e ∈ es, EvE e) (hl : es.length ≤ 40) : ∀ k, k ≤ 12 → (bodyTo es k).length ≤ secB k
  | 0, _ => by simp [bodyTo]
  | k + 1, hk => by
    have ih := bodyTo_len' hs hl k (by omega)
    have h := secX_len hs hl (k + 1)
    rw [bodyTo_step]
    generalize (bodyTo es k).length = a at *
    generalize (secX es (k + 1)).length = b at *
    unfold secB at *
    have hc : k = 0 ∨ k = 1 ∨ k = 2 ∨ k = 3 ∨ k = 4 ∨ k = 5 ∨ k = 6 ∨ k = 7 ∨ k = 8 ∨ k = 9 ∨ k = 10 ∨ k = 11 := by omega
    clear hs hl hk
    rcases hc with rfl | rfl | rfl | rfl | rfl | rfl | rfl | rfl | rfl | rfl | rfl | rfl <;> simp at ih h ⊢ <;> omega
theorem bodyTo_len {es : List Ev} (hs : ∀ e ∈ es, EvE e) (hl : es.length ≤ 40) {k : Nat} (hk : k ≤ 12) : (bodyTo es k).length ≤ 8900000 := by
  have h := bodyTo_len' hs hl k hk
  have hb : secB k ≤ 8900000 := by unfold secB; split; omega; split; omega; split; omega; split; omega; split <;> omega
  omega
theorem section_any {S : Nat → Prop} (A : Option Addr) (es : List Ev) (c j : Nat) (w : World) (hev : Evs S w A es) (hel : es.length ≤ 40) (hs : ∀ e ∈ es, EvE e) (h1 : 1 ≤ j) (h2 : j ≤ 12) :
    Calls Tryz.prog 49 #[.slice A es.length c, .int .i64 j] w (NewB w (secX es j)) := by
  have hS : ∀ e ∈ es, EvS e := fun e he => (hs e he).s
  unfold secX
  split
  · exact section_num A es c j w hev (by omega) h1 (by assumption) (fun e he => (hs e he).num j)
  · split
    · exact section_txt A es c j w hev (by omega) (by omega) (by assumption) hS
    · have hj : j = 9 ∨ j = 10 ∨ j = 11 ∨ j = 12 := by omega
      rcases hj with rfl | rfl | rfl | rfl
      · rw [if_pos rfl]; exact section_lin A es c w hev hel (fun e he => (hs e he).l)
      · rw [if_neg (by decide), if_pos rfl]; exact section_fld A es c w hev hel hS
      · rw [if_neg (by decide), if_neg (by decide), if_pos rfl]; exact section_wds A es c w hev hel hS
      · rw [if_neg (by decide), if_neg (by decide), if_neg (by decide)]; exact section_fil A es c w hev hel hS
def EncP (w : World) (xs : List Int) (e : Ending) (w' : World) : Prop := ∃ v, e = .returned (.tuple #[v, .int .i64 0]) ∧ Byts w.heap.size w' v xs ∧ w.grownBy w' none
theorem firstT_cons (x : Ev) (xs : List Ev) : firstT (x :: xs) = x.time.toNat := rfl
theorem firstT_at {es : List Ev} {x : Ev} (hx : es[0]? = some x) : firstT es = x.time.toNat := by
  cases es with
  | nil => simp at hx
  | cons y ys =>
    simp at hx
    rw [firstT_cons, hx]
theorem lastT_at {es : List Ev} {m : Nat} {y : Ev} (hm : es.length = m + 1) (hy : es[m]? = some y) : lastT es = y.time.toNat := by
  unfold lastT
  rw [List.getLast?_eq_getElem?, hm, Nat.add_sub_cancel, hy]
  rfl
set_option maxHeartbeats 16000000 in
set_option maxRecDepth 100000 in
theorem rencode27_any {S : Nat → Prop} (A : Option Addr) (es : List Ev) (c : Nat) (w : World) (hev : Evs S w A es) (hel : es.length ≤ 40) (hs : ∀ e ∈ es, EvE e) (hr : SrtE es) :
    Calls Tryz.prog 24 #[.slice A es.length c] w (EncP w (encX es)) := by
  have HEV := Lib.hid (hev.mono (S' := fun b => b < w.heap.size) (fun b _ h => h))
  have KC := Lib.hid (check27_any A es c w hev hel (fun e he => (hs e he).s) (fun e he => (hs e he).c) hr)
  have KS := Lib.hid (fun (j : Nat) (h1 : 1 ≤ j) (h2 : j ≤ 12) (w' : World) (hg : w.grownBy w' none) => section_any A es c j w' (hev.grown hg (by simp)) hel hs h1 h2)
  have HSL : Hid (∀ j, 1 ≤ j → j ≤ 12 → (secX es j).length ≤ 7000000) := Lib.hid (fun j h1 h2 => by
    have h := secX_len hs hel j
    split at h
    · omega
    · split at h
      · omega
      · split at h
        · omega
        · split at h
          · omega
          · split at h <;> omega)
  have HBL : Hid (∀ k, k ≤ 12 → (bodyTo es k).length ≤ 8900000) := Lib.hid (fun k hk => bodyTo_len hs hel hk)
  have HHL := Lib.hid (headTo_len es)
  have HCN := Lib.hid crcN_lt
  have HT : Hid (∀ e ∈ es, 0 ≤ e.time ∧ e.time ≤ 253402300799999) := Lib.hid (fun e he => ⟨(hs e he).c.t0, (hs e he).c.t1⟩)
  have HH0 : Hid (headTo es 0 = [76, 84, 83, 49] ++ beB 4 es.length ++ beB 8 (firstT es) ++ beB 8 (lastT es)) := Lib.hid rfl
  have HH1 : Hid (∀ k, headTo es (k + 1) = headTo es k ++ beB 4 (secX es (k + 1)).length ++ beB 4 (crcN (secX es (k + 1)))) := Lib.hid (fun k => rfl)
  have HB1 : Hid (∀ k, bodyTo es (k + 1) = bodyTo es k ++ secX es (k + 1)) := Lib.hid (fun k => rfl)
  have HX : Hid (encX es = headTo es 12 ++ beB 4 (crcN (headTo es 12)) ++ bodyTo es 12) := Lib.hid rfl
  have HFL : Hid (firstT es < 18446744073709551616 ∧ lastT es < 18446744073709551616) := Lib.hid (by
    constructor
    · cases es with
      | nil => have h0 : firstT ([] : List Ev) = 0 := rfl; omega
      | cons x xs => rw [firstT_cons]; have := HT.out x (List.mem_cons_self ..); omega
    · rcases Nat.eq_zero_or_pos es.length with h | h
      · have h0 : lastT ([] : List Ev) = 0 := rfl
        rw [List.eq_nil_of_length_eq_zero h]; omega
      · rw [lastT_at (m := es.length - 1) (by omega) (List.getElem?_eq_getElem (by omega))]
        have := HT.out _ (List.getElem_mem (show es.length - 1 < es.length by omega))
        omega)
  have HF0 : Hid (∀ x, es[0]? = some x → firstT es = x.time.toNat) := Lib.hid (fun x hx => firstT_at hx)
  have HFZ : Hid (es.length = 0 → firstT es = 0 ∧ lastT es = 0) := Lib.hid (fun h => by rw [List.eq_nil_of_length_eq_zero h]; exact ⟨rfl, rfl⟩)
  have HLT : Hid (∀ m y, es.length = m + 1 → es[m]? = some y → lastT es = y.time.toNat) := Lib.hid (fun m y hm hy => lastT_at hm hy)
  obtain ⟨tf, htf⟩ : ∃ t, t = firstT es := ⟨_, rfl⟩
  obtain ⟨tl, htl⟩ : ∃ t, t = lastT es := ⟨_, rfl⟩
  rw [← htf] at HFL HF0 HFZ HH0
  rw [← htl] at HFL HFZ HLT HH0
  obtain ⟨R, hR⟩ : ∃ r, r = encX es := ⟨_, rfl⟩
  rw [← hR] at HX ⊢
  clear hev hs hr htf htl hR
  go_enter Tryz.func24, Tryz.ntmps24
  go_wp2_with fail
  refine KC.out.mono ?_
  rintro en w1 ⟨rfl, hg1⟩
  have G1 := Lib.hid hg1
  clear hg1 KC
  go_upto_if 18 with fail
  go_cut [5, 6] (fun va vb wx => va = .int .i64 (tf : Nat) ∧ vb = .int .i64 (tl : Nat) ∧ ∃ q, wx = w1.drewN q)
  case first =>
    by_cases h0 : es.length = 0
    · obtain ⟨z1, z2⟩ := HFZ.out h0
      have i1 : ¬ (0 : Int) < (es.length : Int) := by omega
      clear h0
      go_wp2_with fail
      go_meet
      exact ⟨by rw [z1]; rfl, by rw [z2]; rfl, 0, rfl⟩
    · obtain ⟨m, hm⟩ : ∃ m, es.length = m + 1 := ⟨es.length - 1, by omega⟩
      obtain ⟨x, hx⟩ : ∃ x, es[0]? = some x := ⟨_, List.getElem?_eq_getElem (by omega)⟩
      obtain ⟨y, hy⟩ : ∃ y, es[m]? = some y := ⟨_, List.getElem?_eq_getElem (by omega)⟩
      have hxt := HF0.out x hx
      have hyt := HLT.out m y hm hy
      obtain ⟨kb, ko, eE, -, -, -, -, -, -, x5, -, -, -, -⟩ := ev_in (HEV.out.1.grown G1.out (by simp)) hx
      subst eE
      obtain ⟨kb', ko', eE, -, -, -, -, -, -, y5, -, -, -, -⟩ := ev_in (HEV.out.1.grown G1.out (by simp)) hy
      injection eE with eE
      injection eE with e1 e2
      subst e1 e2
      have hx0 := (HT.out x (List.mem_of_getElem? hx)).1
      have hy0 := (HT.out y (List.mem_of_getElem? hy)).1
      have ex : x.time = (tf : Int) := by omega
      have ey : y.time = (tl : Int) := by omega
      rw [ex] at x5
      rw [ey] at y5
      simp only [Nat.zero_mul, Nat.add_zero] at x5
      have i1 : (0 : Int) < (es.length : Int) := by omega
      have i2 : (es.length : Int) - 1 = (m : Int) := by omega
      have i3 : (m : Int) < (es.length : Int) := by omega
      have hwk : IntKind.i64.wrap (m : Int) = (m : Int) := IntWalk.i64_in _ (by omega)
      clear hx hy hxt hyt hx0 hy0 ex ey hm h0
      go_wp2_with fail
      go_quiet (fail)
      go_wp2_with fail
      go_meet
      exact ⟨rfl, rfl, nq, rfl⟩
  case rest =>
    obtain ⟨rfl, rfl, q, hwc⟩ := hcut
    have G2 : Hid (w.grownBy wc none) := Lib.hid (by rw [hwc]; exact only_drewN G1.out q)
    clear hwc G1
    obtain ⟨w1, rfl⟩ : ∃ w1 : World, w1 = wc := ⟨_, rfl⟩
    have kc := fun (w : World) (C : Array Value) (n c : Nat) => Lib.run_convert_bytes_const (P := Tryz.prog) w 22 5 C n c Tryz.underlying22 Tryz.underlying5
    have hfl1 := HFL.out.1
    have hfl2 := HFL.out.2
    go_wp2_with fail
    obtain ⟨W0, hW0⟩ : ∃ W, W = w1.alloc (.cells #[.int .u8 76, .int .u8 84, .int .u8 83, .int .u8 49] 5 (4, 5)) := ⟨_, rfl⟩
    have g0 : w1.grownBy W0 none := by rw [hW0]; exact only_alloc (only_refl _ _) _
    have hr0 : Rd (fun _ => True) W0 (some ⟨w1.heap.size, 0, none⟩) (([76, 84, 83, 49] : List Int).map (.int .u8)) := fun _ => ⟨w1.heap.size, 0, rfl, trivial, by rw [hW0]; simp, fun j u hu => by
      rw [Nat.zero_add, cell_of_row W0 w1.heap.size j _ _ (4, 5) (by rw [hW0]; exact heap_alloc_new w1 _)]
      simpa using hu⟩
    have KP0 := Lib.hid (sput_full (some ⟨w1.heap.size, 0, none⟩) [76, 84, 83, 49] es.length 4 W0 hr0 (by decide) (by decide) (by decide) (by decide) (by omega))
    rw [← hW0]
    clear hW0 kc hr0
    have G3 := Lib.hid g0
    have hz0 := g0.size
    clear g0
    refine KP0.out.mono ?_
    rintro en w3 ⟨v3, rfl, hB3, hG3⟩
    have B3 := Lib.hid (hB3.base hz0)
    have G4 : Hid (w1.grownBy w3 none) := Lib.hid (only_trans G3.out hG3)
    have hz3 := G4.out.size
    clear hB3 hG3 KP0 G3
    go_wp2_with fail
    refine (sput_any w1.heap.size _ _ tf 8 w3 B3.out (by simp [beB_len]) (by decide) hfl1 hz3).mono ?_
    rintro en w4 ⟨v4, rfl, hB4, hO4⟩
    have B4 := Lib.hid hB4
    have G5 : Hid (w1.grownBy w4 none) := Byts.only B3.out hO4 G4.out (Nat.le_refl _)
    have hz4 := G5.out.size
    clear hB4 hO4 B3 G4
    go_wp2_with fail
    refine (sput_any w1.heap.size _ _ tl 8 w4 B4.out (by simp [beB_len]) (by decide) hfl2 hz4).mono ?_
    rintro en w5 ⟨v5, rfl, hB5, hO5⟩
    have B5 : Hid (Byts w1.heap.size w5 v5 (headTo es 0)) := Lib.hid (by rw [HH0.out]; exact hB5)
    have G6 : Hid (w1.grownBy w5 none) := Byts.only B4.out hO5 G5.out (Nat.le_refl _)
    clear hB5 hO5 B4 G5 hfl1 hfl2
    have HY0 : Hid (bodyTo es 0 = []) := Lib.hid rfl
    go_wp2_with fail
    go_loopw [7, 8, 9] (fun vb vy vk wr => ∃ k : Nat, vk = .int .i64 ((k : Int) + 1) ∧ k ≤ 12 ∧ Byts w1.heap.size wr vb (headTo es k) ∧ Byts w1.heap.size wr vy (bodyTo es k) ∧ Apt vb vy ∧ w1.grownBy wr none) (fun _ _ vk _ => 13 - (intOf vk).toNat)
    case atStart => exact ⟨0, rfl, by omega, B5.out, by rw [HY0.out]; exact Byts.nil _ _, fun g _ h => by simp [Value.ownBlock] at h, G6.out⟩
    case round =>
      clear B5 G6 HY0 hz0 hz3 hz4
      obtain ⟨k, rfl, hk, hB, hY, hA, hG⟩ := hrel
      have BB := Lib.hid hB
      have BY := Lib.hid hY
      have AP := Lib.hid hA
      have G := Lib.hid hG
      have hbr := hG.size
      obtain ⟨vB, hvB⟩ : ∃ v, v = u7 := ⟨_, rfl⟩
      obtain ⟨vY, hvY⟩ : ∃ v, v = u8 := ⟨_, rfl⟩
      rw [← hvB] at BB AP ⊢
      rw [← hvY] at BY AP ⊢
      clear hB hY hA hG hvB hvY
      have hhl := HHL.out k
      by_cases hlt : k < 12
      · have KS1 := KS.out (k + 1) (by omega) (by omega) wr (only_trans G2.out G.out)
        rw [show ((k + 1 : Nat) : Int) = (k : Int) + 1 from by omega] at KS1
        have KS1 := Lib.hid KS1
        have hsl := HSL.out (k + 1) (by omega) (by omega)
        have hbl := HBL.out (k + 1) (by omega)
        have HN1 := Lib.hid (HH1.out k)
        have HN2 := Lib.hid (HB1.out k)
        have hcn := HCN.out (secX es (k + 1))
        obtain ⟨sx, hsx⟩ : ∃ s, s = secX es (k + 1) := ⟨_, rfl⟩
        rw [← hsx] at KS1 hsl HN1 HN2 hcn
        obtain ⟨cn, hcnd⟩ : ∃ c, c = crcN sx := ⟨_, rfl⟩
        rw [← hcnd] at HN1 hcn
        rw [HN2.out, List.length_append] at hbl
        have HCN1 := Lib.hid hcnd
        have i1 : (k : Int) + 1 ≤ 12 := by omega
        clear hsx hcnd
        go_wp2_with fail
        refine KS1.out.mono ?_
        intro en w3 hN
        obtain ⟨AS, cS, rfl, -, -, b3, hg3⟩ := hN.row
        have G3 := Lib.hid (only_trans G.out hg3)
        have BB3 : Hid (Byts w1.heap.size w3 vB (headTo es k)) := Lib.hid (own_ext BB.out hg3)
        have BY3 : Hid (Byts w1.heap.size w3 vY (bodyTo es k)) := Lib.hid (own_ext BY.out hg3)
        have RS3 := Lib.hid (b3.mono (S' := fun b => wr.heap.size ≤ b ∧ b < w3.heap.size) (fun b h1 h2 => ⟨h1, h2⟩))
        have HNB : Hid (∀ b, (wr.heap.size ≤ b ∧ b < w3.heap.size) → some b ≠ vB.ownBlock) := Lib.hid (fun b hb e => by have := BB.out.below b e.symm; omega)
        have HNY : Hid (∀ b, (wr.heap.size ≤ b ∧ b < w3.heap.size) → some b ≠ vY.ownBlock) := Lib.hid (fun b hb e => by have := BY.out.below b e.symm; omega)
        have hz3 := G3.out.size
        have hz33 := hg3.size
        clear b3 hg3 hN KS1 BB BY
        go_wp2_with fail
        refine (sput_any w1.heap.size vB (headTo es k) sx.length 4 w3 BB3.out (by omega) (by decide) (by omega) hz3).mono ?_
        rintro en w4 ⟨v4, rfl, hB4, hO4⟩
        have BB4 := Lib.hid hB4
        have BY4 : Hid (Byts w1.heap.size w4 vY (bodyTo es k)) := Lib.hid (BY3.out.keepA AP.out.symm hO4)
        have AP4 : Hid (Apt v4 vY) := Lib.hid (AP.out.symm.onto hO4 BY3.out.below).symm
        have G4 : Hid (w1.grownBy w4 none) := BB3.out.only hO4 G3.out (Nat.le_refl _)
        have RS4 := Lib.hid (RS3.out.grown hO4.1 HNB.out)
        have HNB4 : Hid (∀ b, (wr.heap.size ≤ b ∧ b < w3.heap.size) → some b ≠ v4.ownBlock) := Lib.hid (hO4.ne (fun b hb => hb.2) HNB.out)
        have hz4 := G4.out.size
        clear hB4 hO4 BB3 BY3 RS3 HNB AP
        have KC := Lib.hid (crc_any AS sx cS w4 RS4.out (by omega))
        go_wp2_with fail
        refine KC.out.mono ?_
        rintro en w5 ⟨rfl, rfl⟩
        rw [← HCN1.out]
        clear KC
        go_wp2_with fail
        refine (sput_any w1.heap.size v4 (headTo es k ++ beB 4 sx.length) cn 4 w5 BB4.out (by rw [List.length_append, beB_len]; omega) (by decide) (by omega) hz4).mono ?_
        rintro en w6 ⟨v6, rfl, hB6, hO6⟩
        have BB6 : Hid (Byts w1.heap.size w6 v6 (headTo es (k + 1))) := Lib.hid (by rw [HN1.out]; exact hB6)
        have BY6 : Hid (Byts w1.heap.size w6 vY (bodyTo es k)) := Lib.hid (BY4.out.keepA AP4.out.symm hO6)
        have AP6 : Hid (Apt v6 vY) := Lib.hid (AP4.out.symm.onto hO6 BY4.out.below).symm
        have G6 : Hid (w1.grownBy w6 none) := BB4.out.only hO6 G4.out (Nat.le_refl _)
        have RS6 := Lib.hid (RS4.out.grown hO6.1 HNB4.out)
        have hz6 := G6.out.size
        clear hB6 hO6 BB4 BY4 RS4 HNB4 AP4
        go_wp2_with (at_builtin; go_must (refine wpList_appendN rfl _ _ 22 rfl w1.heap.size Tryz.underlying22 byteInfo rfl (by decide) (v := vY) (by rfl) BY6.out AS sx.length cS (by rfl) RS6.out (by simp) (byte_ones _) (by decide) (by omega) hz6 ?_); intro v7 w7 hown7 hg7 hob7)
        have hO7 : Onto w6 vY v7 w7 := onto_apN hg7 hob7
        have BY7 : Hid (Byts w1.heap.size w7 v7 (bodyTo es (k + 1))) := Lib.hid (by
          rw [HN2.out]
          unfold Byts
          rw [List.length_append, List.map_append]
          exact hown7)
        have BB7 : Hid (Byts w1.heap.size w7 v6 (headTo es (k + 1))) := Lib.hid (BB6.out.keepA AP6.out hO7)
        have AP7 : Hid (Apt v6 v7) := Lib.hid (AP6.out.onto hO7 BB6.out.below)
        have G7 : Hid (w1.grownBy w7 none) := Lib.hid (BY6.out.only hO7 G6.out (Nat.le_refl _))
        clear hown7 hg7 hob7 hO7
        go_wp2_with fail
        go_roundw
        case rel => exact ⟨k + 1, by go_num, by omega, BB7.out, BY7.out, AP7.out, G7.out⟩
        case measure => simp [intOf]; omega
      · have hkE : k = 12 := by omega
        have HE : Hid (R = headTo es k ++ beB 4 (crcN (headTo es k)) ++ bodyTo es k) := Lib.hid (by rw [hkE]; exact HX.out)
        have hbl := HBL.out k hk
        have hcn := HCN.out (headTo es k)
        have i1 : ¬ (k : Int) + 1 ≤ 12 := by omega
        obtain ⟨hd, hhd⟩ : ∃ h, h = headTo es k := ⟨_, rfl⟩
        obtain ⟨bd, hbd⟩ : ∃ b, b = bodyTo es k := ⟨_, rfl⟩
        rw [← hhd] at hhl hcn BB
        rw [← hbd] at hbl BY
        rw [← hhd, ← hbd] at HE
        obtain ⟨cn, hcnd⟩ : ∃ c, c = crcN hd := ⟨_, rfl⟩
        rw [← hcnd] at HE hcn
        have HCN1 := Lib.hid hcnd
        obtain ⟨AB, cB, hv1, -, -, rB⟩ := BB.out.rd
        obtain ⟨AY, cY, hv2, -, -, -⟩ := BY.out.rd
        rw [hv1] at BB AP
        rw [hv2] at BY AP
        rw [hv1, hv2]
        have KC := Lib.hid (crc_any AB hd cB wr rB (by omega))
        have hhl2 : hd.length ≤ 200 := by omega
        clear hkE hhd hbd hv1 hv2 rB hcnd hhl
        go_wp2_with fail
        refine KC.out.mono ?_
        rintro en w2 ⟨rfl, rfl⟩
        rw [← HCN1.out]
        clear KC
        go_wp2_with fail
        refine (sput_any w1.heap.size _ hd cn 4 w2 BB.out (by omega) (by decide) (by omega) hbr).mono ?_
        rintro en w3 ⟨v3, rfl, hB3, hO3⟩
        have BB3 := Lib.hid hB3
        have BY3 : Hid (Byts w1.heap.size w3 (.slice AY bd.length cY) bd) := Lib.hid (BY.out.keepA AP.out.symm hO3)
        have G3 : Hid (w1.grownBy w3 none) := BB.out.only hO3 G.out (Nat.le_refl _)
        have hz3 := G3.out.size
        obtain ⟨AY', cY', e9, -, -, rY⟩ := BY3.out.rd
        injection e9 with e1 e2 e3
        subst e1 e3
        have RY := Lib.hid rY
        clear hB3 hO3 BB BY AP e2 rY
        go_wp2_with (at_builtin; go_must (refine wpList_appendN rfl _ _ 22 rfl w1.heap.size Tryz.underlying22 byteInfo rfl (by decide) (v := v3) (by rfl) BB3.out AY bd.length cY (by rfl) RY.out (by simp) (byte_ones _) (by decide) (by rw [List.length_append, beB_len]; omega) hz3 ?_); intro v7 w7 hown7 hg7 hob7)
        have B7 : Hid (Byts w1.heap.size w7 v7 R) := Lib.hid (by
          rw [HE.out]
          unfold Byts
          rw [List.length_append, List.map_append]
          exact hown7)
        have G7 : Hid (w1.grownBy w7 none) := Lib.hid (BB3.out.only (onto_apN hg7 hob7) G3.out (Nat.le_refl _))
        clear hown7 hg7 hob7
        go_wp2_with fail
        go_ret2
        exact ⟨v7, rfl, B7.out.base G2.out.size, only_trans G2.out G7.out⟩
end Go.Proofs.YtganfhmjklcchaaGreat

namespace Go.Proofs.YtganfhmjklcchaaGreat
open Go.RowKit
set_option linter.unusedVariables false
set_option linter.unusedSimpArgs false

theorem beB_in : ∀ (k v : Nat), ∀ x ∈ beB k v, 0 ≤ x ∧ x ≤ 255
  | 0, v, x, h => by cases h
  | k + 1, v, x, h => by
    rcases List.mem_cons.1 h with rfl | h
    · omega
    · exact beB_in k v x h
theorem headTo_in (es : List Ev) : ∀ k, ∀ x ∈ headTo es k, 0 ≤ x ∧ x ≤ 255
  | 0, x, h => by
    simp only [headTo, List.mem_append] at h
    rcases h with ((h | h) | h) | h
    · simp at h; omega
    · exact beB_in _ _ x h
    · exact beB_in _ _ x h
    · exact beB_in _ _ x h
  | k + 1, x, h => by
    simp only [headTo, List.mem_append] at h
    rcases h with (h | h) | h
    · exact headTo_in es k x h
    · exact beB_in _ _ x h
    · exact beB_in _ _ x h
theorem encX_ge (es : List Ev) : 124 ≤ (encX es).length := by
  unfold encX
  rw [List.length_append, List.length_append, headTo_len, beB_len]
  omega
theorem encX_le {es : List Ev} (hs : ∀ e ∈ es, EvE e) (hl : es.length ≤ 40) : (encX es).length ≤ 8900124 := by
  unfold encX
  have := bodyTo_len hs hl (k := 12) (by decide)
  rw [List.length_append, List.length_append, headTo_len, beB_len]
  omega
theorem encX_in (es : List Ev) : InH (encX es) := by
  intro x hx
  unfold encX at hx
  rw [List.take_append_of_le_length (by rw [List.length_append, headTo_len, beB_len]; omega)] at hx
  have h := List.mem_of_mem_take hx
  rw [List.mem_append] at h
  rcases h with h | h
  · exact headTo_in es 12 x h
  · exact beB_in _ _ x h
theorem InH.of {bs : List Int} (h : ∀ x ∈ bs, 0 ≤ x ∧ x ≤ 255) : InH bs := fun x hx => h x (List.mem_of_mem_take hx)
theorem InH.take {bs : List Int} (h : InH bs) (k : Nat) : InH (bs.take k) := fun x hx => by
  rw [List.take_take, Nat.min_comm, ← List.take_take] at hx
  exact h x (List.mem_of_mem_take hx)
theorem InH.set_ {bs : List Int} (h : InH bs) (i : Nat) {v : Int} (hv : 0 ≤ v ∧ v ≤ 255) : InH (bs.set i v) := fun x hx => by
  rw [List.take_set] at hx
  rcases List.mem_or_eq_of_mem_set hx with h1 | h1
  · exact h x h1
  · rw [h1]; exact hv
theorem InH.snoc {bs : List Int} (h : InH bs) (hl : 124 ≤ bs.length) (v : Int) : InH (bs ++ [v]) := fun x hx => by
  rw [List.take_append_of_le_length hl] at hx
  exact h x hx
theorem own_setH {w : World} {base e g n c j : Nat} {xs : List Value} {u : Value} (h : w.ownsRow base e 1 (.slice (some ⟨g, 0, none⟩) n c) n xs) (hj : j < n) : (w.setCell ⟨g, j, none⟩ u).ownsRow base e 1 (.slice (some ⟨g, 0, none⟩) n c) n (xs.set j u) := by
  obtain ⟨hl, h2⟩ := h
  refine ⟨by simpa using hl, ?_⟩
  rcases h2 with ⟨h3, _⟩ | ⟨g', cap, cur, h3, h4, h5, h6, h7, h8, h9⟩
  · cases h3
  · injection h3 with e1 e2 e3
    injection e1 with e1
    injection e1 with e1
    subst e1 e3
    refine .inr ⟨g, c, cur.setIfInBounds j u, rfl, h4, ?_, h6, h7, by simpa using h8, ?_⟩
    · simp [World.setCell, Array.getElem?_modify, h5]
    · rw [Array.toList_setIfInBounds, List.take_set, h9]
theorem own_cellsH {w : World} {base e g n c j : Nat} {xs : List Value} (h : w.ownsRow base e 1 (.slice (some ⟨g, 0, none⟩) n c) n xs) (hj : j < n) : w.cell? ⟨g, j, none⟩ = xs[j]? ∧ w.frozen? ⟨g, j, none⟩ = false := by
  obtain ⟨hl, h2⟩ := h
  rcases h2 with ⟨h3, _⟩ | ⟨g', cap, cur, h3, h4, h5, h6, h7, h8, h9⟩
  · cases h3
  · injection h3 with e1 e2 e3
    injection e1 with e1
    injection e1 with e1
    subst e1 e3
    have hB : Blk w g e cur := h5
    refine ⟨?_, hB.frozen j⟩
    rw [hB.cell j, ← h9, List.getElem?_take_of_lt (by omega), Array.getElem?_toList]
theorem xor_in (a b : Int) : 0 ≤ bits .xor .u8 a b ∧ bits .xor .u8 a b ≤ 255 := by
  show 0 ≤ IntKind.u8.wrap ((BitVec.ofInt 8 a ^^^ BitVec.ofInt 8 b).toNat : Int) ∧ IntKind.u8.wrap ((BitVec.ofInt 8 a ^^^ BitVec.ofInt 8 b).toNat : Int) ≤ 255
  rw [IntKind.wrap_u8]; omega
theorem rd_cells {S : Nat → Prop} {w : World} {b off : Nat} {xs : List Value} (h : Rd S w (some ⟨b, off, none⟩) xs) : ∀ j u, xs[j]? = some u → w.cell? ((⟨b, off, none⟩ : Addr).add j) = some u := by
  intro j u hu
  have hlen : 0 < xs.length := by
    rcases Nat.eq_zero_or_pos xs.length with h0 | h0
    · rw [List.eq_nil_of_length_eq_zero h0] at hu; simp at hu
    · exact h0
  obtain ⟨b', off', e, _, _, hc⟩ := h hlen
  injection e with e
  injection e with e1 e2
  subst e1 e2
  have hadd : (⟨b, off, none⟩ : Addr).add j = ⟨b, off + j, none⟩ := by unfold Addr.add; split <;> simp_all
  rw [hadd]; exact hc j u hu
/-- append of one element onto a slice without room: a new row -/
theorem wpList_appendG {P : Program} {ops : Array Oper} {rest : List Oper} {o : Oper} {a : Act} {w : World} {Q : Exit → Act → World → Prop} (hgd : o.guard = none) (s x : Operand) (t : TypeId)
    (ho : o.op = .call { callee := .builtin .append, args := #[s, x], argTypes := #[t, t] })
    {e : TypeId} {z : Value} {size bytes : Nat} (ht : P.underlying t = some (.slice e)) (hi : (P.info? e).map (fun i => (i.zero, i.size, i.bytes)) = some (some z, size, bytes)) (hzs : z.cells.size = size) (hsz : 0 < size)
    {b : Addr} {n : Nat} {olds : List Value} (hs : a.eval s = .slice (some b) n n) (hlo : olds.length = n * size) (holds : ∀ j u, olds[j]? = some u → w.cell? (b.add j) = some u)
    {a2 : Addr} {m c : Nat} {news : List Value} (hx : a.eval x = .slice (some a2) m c) (hl : news.length = m * size) (hnews : ∀ j u, news[j]? = some u → w.cell? (a2.add j) = some u)
    (hb : bytes ≤ 1000) (hm : 0 < m) (hn : n + m ≤ 10000000)
    (h : ∀ v' w', w'.ownsRow w.heap.size e size v' (n + m) (olds ++ news) → w.grownBy w' none → wpList P ops Q rest (a.put o.dst v') w') : wpList P ops Q (o :: rest) a w :=
  wpList_plain hgd fun K hK => by
    obtain ⟨i0, hi0, hz0, hz1, hz2⟩ := info_parts hi
    obtain ⟨v', w', hrun, h2, h3⟩ := run_append_arg_grows (P := P) w t o.type e i0 z size bytes ht hi0 hz0 hz1 hz2 hzs hsz b n n olds hlo holds a2 m c news hl hnews (by omega) (by unfold maxLen; omega) (by
      have : (n + m) * bytes ≤ 10000000 * 1000 := Nat.mul_le_mul hn hb
      omega)
    unfold Oper.wp execOp
    simp only [ho, resolve, invoke, builtin, Sem.run_bind, Sem.run_pure, Result.andThen_ok, List.map_toArray, List.map_cons, List.map_nil, hs, hx, hrun]
    exact hK _ _ (h v' w' h2 h3)
/-- the number of Mod -/
def modV (x : Int) (n : Nat) : Nat := ((x.tmod (n : Int) + (n : Int)).tmod (n : Int)).toNat
theorem modV_lt (x : Int) {n : Nat} (h0 : 0 < n) : modV x n < n := by
  unfold modV
  have b := Int.tmod_lt_of_pos (x.tmod (n : Int) + (n : Int)) (show (0 : Int) < n by omega)
  omega
set_option maxHeartbeats 1000000 in
theorem mod_is (x : Int) (n : Nat) (w : World) (h0 : 0 < n) (hn : n ≤ 10000000) :
    Calls Tryz.prog 15 #[.int .i64 x, .int .i64 n] w (SameW (.int .i64 (modV x n : Nat)) w) := by
  obtain ⟨t, ht⟩ : ∃ t, x.tmod (n : Int) = t := ⟨_, rfl⟩
  have h1 : -(n : Int) < t ∧ t < n := by
    rw [← ht]
    have a := Int.lt_tmod_of_pos x (show (0 : Int) < n by omega)
    have b := Int.tmod_lt_of_pos x (show (0 : Int) < n by omega)
    omega
  obtain ⟨m, hm0⟩ : ∃ m, m = modV x n := ⟨_, rfl⟩
  have hm : (t + (n : Int)).tmod (n : Int) = (m : Int) := by
    rw [hm0]; unfold modV; rw [ht]
    have := Int.tmod_nonneg (n : Int) (show 0 ≤ t + (n : Int) by omega)
    omega
  have hmn : m < n := by
    have b := Int.tmod_lt_of_pos (t + (n : Int)) (show (0 : Int) < n by omega)
    rw [hm] at b; omega
  obtain ⟨h2, h3⟩ := h1
  have htw : wrap64 t = t := IntWalk.wrap64_in _ (by omega)
  have htw2 : IntKind.i64.wrap t = t := IntWalk.i64_in _ (by omega)
  have hmw : wrap64 (m : Int) = (m : Int) := IntWalk.wrap64_in _ (by omega)
  have hmw2 : IntKind.i64.wrap (m : Int) = (m : Int) := IntWalk.i64_in _ (by omega)
  have hs : wrap64 (t + (n : Int)) = t + (n : Int) := IntWalk.wrap64_in _ (by omega)
  have d1 : decide ((n : Int) < 1) = false := decide_eq_false (by omega)
  have hn0 : ((n : Int) == 0) = false := by rw [beq_eq_false_iff_ne]; omega
  have hn1 : ¬ (n : Int) = 0 := by omega
  have hn2 : ¬ n = 0 := by omega
  have HM := Lib.hid hm0
  clear hm0
  go_enter Tryz.func15, Tryz.ntmps15
  go_wp2_with fail
  go_ret
  exact ⟨by rw [← HM.out]; rfl, rfl⟩
/-- a row of bytes as the law's list holds it -/
def BRH (W : World) (v : Value) : Prop := ∃ A bs c, v = .slice A (List.length bs) c ∧ Rd (fun _ => True) W A (bs.map (.int .u8)) ∧ bs.length ≤ c ∧ c ≤ 9223372036854775807 ∧ bs.length ≤ 9000000 ∧ InH bs
theorem BRH.gr {W W' : World} {v : Value} (h : BRH W v) (hg : W.grownBy W' none) : BRH W' v := by
  obtain ⟨A, bs, c, h1, h2, h3⟩ := h
  exact ⟨A, bs, c, h1, h2.grown hg (by simp), h3⟩
end Go.Proofs.YtganfhmjklcchaaGreat

namespace Go.Proofs.YtganfhmjklcchaaGreat
open Go.RowKit
set_option linter.unusedVariables false
set_option linter.unusedSimpArgs false

theorem fold_beB : ∀ (k v a : Nat), (beB k v).foldl (fun (v : Nat) (b : Int) => v * 256 + b.toNat) a = a * 256 ^ k + v % 256 ^ k
  | 0, v, a => by simp [beB, Nat.mod_one]
  | k + 1, v, a => by
    simp only [beB, List.foldl_cons]
    rw [fold_beB k v, Int.toNat_natCast, Nat.mod_pow_succ, Nat.pow_succ, Nat.add_mul, Nat.mul_assoc, Nat.mul_comm 256 (256 ^ k), Nat.mul_comm (v / 256 ^ k % 256)]
    omega
theorem getN_beB {k v : Nat} (h : v < 256 ^ k) : getN (beB k v) = v := by
  unfold getN
  rw [fold_beB, Nat.mod_eq_of_lt h]
  omega
theorem cutB_mid (a m b : List Int) {i k : Nat} (hi : i = a.length) (hk : k = m.length) : cutB (a ++ m ++ b) i k = m := by
  subst hi hk
  unfold cutB
  rw [List.append_assoc, List.drop_left, List.take_left]
theorem headTo_ext (es : List Ev) (k : Nat) : ∀ d, ∃ r, headTo es (k + d) = headTo es k ++ r
  | 0 => ⟨[], by simp⟩
  | d + 1 => by
    obtain ⟨r, h⟩ := headTo_ext es k d
    exact ⟨r ++ beB 4 (secX es (k + d + 1)).length ++ beB 4 (crcN (secX es (k + d + 1))), by rw [← Nat.add_assoc]; simp only [headTo]; rw [h]; simp only [List.append_assoc]⟩
theorem bodyTo_ext (es : List Ev) (k : Nat) : ∀ d, ∃ r, bodyTo es (k + d) = bodyTo es k ++ r
  | 0 => ⟨[], by simp⟩
  | d + 1 => by
    obtain ⟨r, h⟩ := bodyTo_ext es k d
    exact ⟨r ++ secX es (k + d + 1), by rw [← Nat.add_assoc]; simp only [bodyTo]; rw [h]; simp only [List.append_assoc]⟩
/-- the bytes around the entry of section k + 1 -/
theorem encX_head (es : List Ev) {k : Nat} (hk : k < 12) : ∃ r, encX es = headTo es k ++ beB 4 (secX es (k + 1)).length ++ (beB 4 (crcN (secX es (k + 1))) ++ r) := by
  obtain ⟨r, h⟩ := headTo_ext es (k + 1) (11 - k)
  rw [show k + 1 + (11 - k) = 12 by omega] at h
  refine ⟨r ++ beB 4 (crcN (headTo es 12)) ++ bodyTo es 12, ?_⟩
  have e : headTo es 12 = headTo es k ++ beB 4 (secX es (k + 1)).length ++ beB 4 (crcN (secX es (k + 1))) ++ r := by rw [h]; rfl
  unfold encX
  generalize crcN (headTo es 12) = q
  rw [e]
  simp only [List.append_assoc]
theorem secX_small {es : List Ev} (hs : ∀ e ∈ es, EvE e) (hl : es.length ≤ 40) (j : Nat) : (secX es j).length < 256 ^ 4 := by
  have h := secX_len hs hl j
  have : (256 : Nat) ^ 4 = 4294967296 := by decide
  rw [this]
  split at h
  · omega
  · split at h
    · omega
    · split at h
      · omega
      · split at h
        · omega
        · split at h <;> omega
theorem crc_small (bs : List Int) : crcN bs < 256 ^ 4 := by
  have : (256 : Nat) ^ 4 = 4294967296 := by decide
  rw [this]; exact crcN_lt bs
theorem lenH_enc {es : List Ev} (hs : ∀ e ∈ es, EvE e) (hl : es.length ≤ 40) {k : Nat} (hk : k < 12) : lenH (encX es) (k + 1) = (secX es (k + 1)).length := by
  obtain ⟨r, h⟩ := encX_head es hk
  unfold lenH cutN
  rw [h, cutB_mid _ _ _ (by rw [headTo_len]; omega) (by rw [beB_len])]
  exact getN_beB (secX_small hs hl _)
theorem crcH_enc {es : List Ev} {k : Nat} (hk : k < 12) : crcH (encX es) (k + 1) = crcN (secX es (k + 1)) := by
  obtain ⟨r, h⟩ := encX_head es hk
  unfold crcH cutN
  rw [h, ← List.append_assoc, cutB_mid _ _ _ (by rw [List.length_append, headTo_len, beB_len]; omega) (by rw [beB_len])]
  exact getN_beB (crc_small _)
theorem offH_enc {es : List Ev} (hs : ∀ e ∈ es, EvE e) (hl : es.length ≤ 40) : ∀ k, k ≤ 12 → offH (encX es) k = 124 + (bodyTo es k).length
  | 0, _ => by simp [offH, bodyTo]
  | k + 1, hk => by
    simp only [offH]
    rw [offH_enc hs hl k (by omega), lenH_enc hs hl (by omega), bodyTo_step]
    omega
theorem secH_enc {es : List Ev} (hs : ∀ e ∈ es, EvE e) (hl : es.length ≤ 40) {k : Nat} (hk : k < 12) : secH (encX es) (k + 1) = secX es (k + 1) := by
  obtain ⟨r, h⟩ := bodyTo_ext es (k + 1) (11 - k)
  rw [show k + 1 + (11 - k) = 12 by omega] at h
  unfold secH
  rw [Nat.add_sub_cancel, lenH_enc hs hl hk, offH_enc hs hl k (by omega)]
  have e : encX es = (headTo es 12 ++ beB 4 (crcN (headTo es 12)) ++ bodyTo es k) ++ secX es (k + 1) ++ r := by
    unfold encX
    rw [h]
    simp only [bodyTo, List.append_assoc]
  rw [e]
  exact cutB_mid _ _ _ (by rw [List.length_append, List.length_append, headTo_len, beB_len]) rfl
theorem rightH_enc {es : List Ev} (hs : ∀ e ∈ es, EvE e) (hl : es.length ≤ 40) {k : Nat} (hk : k < 12) : rightH (encX es) (k + 1) = true := by
  unfold rightH
  rw [crcH_enc hk, secH_enc hs hl hk, beq_self_eq_true]
theorem damH_enc {es : List Ev} (hs : ∀ e ∈ es, EvE e) (hl : es.length ≤ 40) : ∀ k, k ≤ 12 → damH (encX es) k = []
  | 0, _ => rfl
  | k + 1, hk => by
    simp only [damH]
    rw [damH_enc hs hl k (by omega), rightH_enc hs hl (by omega)]
    rfl
theorem headTo_take4 (es : List Ev) : ∃ r, encX es = [76, 84, 83, 49] ++ r := by
  obtain ⟨r, h⟩ := headTo_ext es 0 12
  rw [Nat.zero_add] at h
  refine ⟨beB 4 es.length ++ beB 8 (firstT es) ++ beB 8 (lastT es) ++ r ++ beB 4 (crcN (headTo es 12)) ++ bodyTo es 12, ?_⟩
  have e : headTo es 12 = [76, 84, 83, 49] ++ beB 4 es.length ++ beB 8 (firstT es) ++ beB 8 (lastT es) ++ r := by rw [h]; rfl
  unfold encX
  generalize crcN (headTo es 12) = q
  rw [e]
  simp only [List.append_assoc]
theorem magic_enc (es : List Ev) : magicB (encX es) = true := by
  obtain ⟨r, h⟩ := headTo_take4 es
  unfold magicB
  rw [h, show ([76, 84, 83, 49] ++ r : List Int).take 4 = [76, 84, 83, 49] from List.take_left' rfl]
  rw [Lib.strOfNums_toList, mgl]
  rfl
theorem take120_enc (es : List Ev) : (encX es).take 120 = headTo es 12 := by
  unfold encX
  rw [List.append_assoc]
  exact List.take_left' (by rw [headTo_len])
/-- the header of what Encode gives is right -/
theorem errS_enc {es : List Ev} (hs : ∀ e ∈ es, EvE e) (hl : es.length ≤ 40) : errS (encX es) = 0 := by
  have h1 : 124 ≤ (encX es).length := by
    unfold encX
    rw [List.length_append, List.length_append, headTo_len, beB_len]
    omega
  have h2 : cutN (encX es) 120 4 = crcN ((encX es).take 120) := by
    rw [take120_enc]
    unfold cutN
    rw [show encX es = headTo es 12 ++ beB 4 (crcN (headTo es 12)) ++ bodyTo es 12 from rfl, cutB_mid _ _ _ (by rw [headTo_len]) (by rw [beB_len])]
    exact getN_beB (crc_small _)
  have h3 : (encX es).length = offH (encX es) 12 := by
    rw [offH_enc hs hl 12 (Nat.le_refl _)]
    unfold encX
    rw [List.length_append, List.length_append, headTo_len, beB_len]
  rw [errS_end h1 (magic_enc es) h2, if_neg (by omega)]
theorem damL_enc {es : List Ev} (hs : ∀ e ∈ es, EvE e) (hl : es.length ≤ 40) : damL (encX es) = [] := by
  unfold damL
  rw [if_pos (errS_enc hs hl), damH_enc hs hl 12 (Nat.le_refl _)]
theorem secY_enc {es : List Ev} (hs : ∀ e ∈ es, EvE e) (hl : es.length ≤ 40) {k : Nat} (hk1 : 1 ≤ k) (hk : k ≤ 12) : secE (encX es) k = 0 ∧ secY (encX es) k = secX es k := by
  obtain ⟨j, rfl⟩ : ∃ j, k = j + 1 := ⟨k - 1, by omega⟩
  have h : secE (encX es) ((j + 1 : Nat) : Int) = 0 := by
    rw [secE_ok hk1 hk (errS_enc hs hl), rightH_enc hs hl (by omega)]
    rfl
  exact ⟨h, by rw [secY_yes h, secH_enc hs hl (by omega)]⟩
end Go.Proofs.YtganfhmjklcchaaGreat
