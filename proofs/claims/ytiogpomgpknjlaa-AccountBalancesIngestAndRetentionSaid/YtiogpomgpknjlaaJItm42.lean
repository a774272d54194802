/- CheckItem of the reference of chapter 12, Check of that of chapter 28, at good items (printed by mk42c.py). Conditions: good items. -/
import Derived.Test.YtiogpomgpknjlaaJChkJ
import Derived.Test.YtiogpomgpknjlaaJFiles
import Derived.Test.YtiogpomgpknjlaaJTalC
import Derived.Test.YtiogpomgpknjlaaJEv
import Derived.Test.YtiogpomgpknjlaaJEvIn
import Derived.Deep.RegionWith
import Derived.Deep.RegionLaw
import Derived.Deep.DeepMust
import Derived.Deep.DeepCutAuto
import Derived.Test.YtiogpomgpknjlaaJHosts
namespace Go.Proofs.Ytiogpomgpknjlaa
open Go.RowKit
set_option linter.unusedVariables false
set_option linter.unusedSimpArgs false

structure EvPl (e : Ev) : Prop where
  h0 : 0 ≤ e.host
  h1 : e.host ≤ 999
  f0 : 0 ≤ e.file
  f1 : e.file ≤ 2147483646
  b0 : 0 ≤ e.beg
  bf : e.beg < e.fin
  f2 : e.fin ≤ 60000
  l0 : 1 ≤ e.lines.length
  l1 : e.lines.length ≤ 40
  ch : Chain e.beg e.lines e.fin
/-- a good item: an event, or lines that were dropped -/
structure ItG (host : Int) (x : It) : Prop where
  ho : x.ev.host = host
  pl : EvPl x.ev
  l6 : x.ev.lines.length ≤ 6
  kind : (x.rule = ⟨#[]⟩ ∧ EvC x.ev) ∨ (1 ≤ x.rule.size ∧ x.rule.size ≤ 10 ∧ SkipEv x.ev)
theorem itAgg (x : It) : x.cells.toArray = #[.string x.rule, .int .i64 x.ev.host, .int .i64 x.ev.file, .int .i64 x.ev.beg, .int .i64 x.ev.fin, .slice x.ev.la x.ev.lines.length x.ev.lc, .int .i64 x.ev.time, .int .i64 x.ev.weight, .string x.ev.trace, .string x.ev.stream, .slice x.ev.fa x.ev.fields.length x.ev.fc] := rfl
set_option maxHeartbeats 4000000 in
set_option maxRecDepth 100000 in
theorem place12p (e : Ev) (h : EvPl e) (w : World) : Calls Try.prog 93 #[.agg e.cells.toArray] w (OkP0 w) := by
  rw [evAgg]
  have i1 : ¬ e.host < 0 := by have := h.h0; omega
  have i2 : ¬ 999 < e.host := by have := h.h1; omega
  have i3 : ¬ e.file < 0 := by have := h.f0; omega
  have i4 : ¬ 2147483646 < e.file := by have := h.f1; omega
  have i5 : ¬ e.beg < 0 := by have := h.b0; omega
  have i6 : ¬ e.fin ≤ e.beg := by have := h.bf; omega
  have i7 : ¬ 60000 < e.fin := by have := h.f2; omega
  clear h
  go_enter Try.func93, Try.ntmps93
  go_wp2_with fail
  go_ret
  exact ⟨rfl, only_alloc (only_refl _ _) _⟩
set_option maxHeartbeats 8000000 in
set_option maxRecDepth 100000 in
theorem lines12p {S : Nat → Prop} (e : Ev) (h : EvPl e) (w : World) (hs : e.Sub S w) : Calls Try.prog 94 #[.agg e.cells.toArray, .int .i64 20000] w (OkP0 w) := by
  rw [evAgg]
  have HL := Lib.hid hs.1
  have CH0 := Lib.hid h.ch
  have hb0 := h.b0
  have hb1 := h.f2
  have hb2 := h.bf
  have l0 := h.l0
  have l1 := h.l1
  obtain ⟨host, file, beg, fin, ls, time, weight, trace, stream, fields, la, lc, fa, fc⟩ := e
  simp only at HL CH0 hb0 hb1 hb2 l0 l1 ⊢
  clear h hs
  have i0 : ¬ ls.length = 0 := by omega
  have i00 : ¬ (ls.length : Int) = 0 := by omega
  have i1 : ¬ (40 : Int) < (ls.length : Int) := by omega
  have i11 : ¬ 40 < ls.length := by omega
  go_enter Try.func94, Try.ntmps94
  go_upto_region 1 with fail
  obtain ⟨xb, hxb⟩ : ∃ b, b = w.heap.size := ⟨_, rfl⟩
  obtain ⟨W, hW⟩ : ∃ W, W = w.alloc (.cells #[.int .i64 host, .int .i64 file, .int .i64 beg, .int .i64 fin, .slice la ls.length lc, .int .i64 time, .int .i64 weight, .string trace, .string stream, .slice fa fields.length fc] 75) := ⟨_, rfl⟩
  have hBW : Blk W xb 75 #[.int .i64 host, .int .i64 file, .int .i64 beg, .int .i64 fin, .slice la ls.length lc, .int .i64 time, .int .i64 weight, .string trace, .string stream, .slice fa fields.length fc] := by rw [hW, hxb]; exact Blk.new _ _ _
  have hG0 : w.grownBy W none := by rw [hW]; exact only_alloc (only_refl _ _) _
  have BW := Lib.hid hBW
  have G0 := Lib.hid hG0
  have e2 := hBW.cell 2; have e3 := hBW.cell 3; have e4 := hBW.cell 4
  simp at e2 e3 e4
  rw [← hW, ← hxb]
  clear hW hxb hBW hG0
  go_wp2_with fail
  go_loopw [5, 6] (fun va vi wr => ∃ (k : Nat) (a : Int), vi = .int .i64 k ∧ k ≤ ls.length ∧ va = .int .i64 a ∧ 0 ≤ a ∧ Chain a (ls.drop k) fin ∧ W.grownBy wr none) (fun _ vi _ => ls.length - (intOf vi).toNat)
  case atStart => exact ⟨0, beg, rfl, Nat.zero_le _, rfl, hb0, CH0.out, only_refl _ _⟩
  case round =>
    clear e2 e3 e4
    obtain ⟨k, a, rfl, hk, rfl, ha0, hC, hG⟩ := hrel
    have BW2 := BW.out.grown hG (by simp)
    have e2 := BW2.cell 2; have e3 := BW2.cell 3; have e4 := BW2.cell 4
    simp at e2 e3 e4
    have G := Lib.hid hG
    have CC := Lib.hid hC
    have hxw : xb < wr.heap.size := BW2.lt
    clear BW2 hG hC
    by_cases hlt : k < ls.length
    · obtain ⟨x, hx⟩ : ∃ x, ls[k]? = some x := ⟨_, List.getElem?_eq_getElem hlt⟩
      have hdr : ls.drop k = x :: ls.drop (k + 1) := by
        obtain ⟨h1, h2⟩ := List.getElem?_eq_some_iff.1 hx
        rw [List.drop_eq_getElem_cons h1, h2]
      have hC := CC.out
      rw [hdr] at hC
      obtain ⟨hoff, hsz, hlen, hrest⟩ := hC
      have hle := hrest.le
      rw [List.length_drop] at hle
      have hrr := HL.out.grown (only_trans G0.out G.out) (by simp)
      obtain ⟨lb, lo, ela, hlb, -, -⟩ := hrr (by rw [flat_len _ 3 LineD.cells_len]; omega)
      rw [ela] at hrr e4
      have d0 : wr.cell? ⟨lb, lo + k * 3, none⟩ = some (.int .i64 x.off) := hrr.flatAt LineD.cells_len hx 0 (by omega)
      have d1 : wr.cell? ⟨lb, lo + k * 3 + 1, none⟩ = some (.int .i64 x.len) := hrr.flatAt LineD.cells_len hx 1 (by omega)
      have d2 : wr.cell? ⟨lb, lo + k * 3 + 2, none⟩ = some (.string x.text) := hrr.flatAt LineD.cells_len hx 2 (by omega)
      rw [hoff] at d0
      have HR := Lib.hid hrest
      have hlast : k + 1 = ls.length → x.len = fin - a := fun h => by
        have h1 := hrest
        rw [List.drop_of_length_le (by omega)] at h1
        simp only [Chain] at h1
        omega
      have HLA := Lib.hid hlast
      have j0 : (a != a) = false := by simp
      have j1 : ¬ x.len < 1 := by omega
      have j2 : ¬ fin - a < x.len := by omega
      have j3 : ¬ (20000 : Int) < (x.text.size : Int) := by omega
      have j33 : ¬ 20000 < x.text.size := by omega
      have i2 : (k : Int) < (ls.length : Int) := by omega
      have ja : a ≤ 60000 := by omega
      clear hx hdr hrr ela hrest hlast hle hlb hoff
      go_upto_region 10 with fail
      obtain ⟨yb, hyb⟩ : ∃ b, b = wr.heap.size := ⟨_, rfl⟩
      obtain ⟨V, hV⟩ : ∃ V, V = wr.alloc (.cells #[.int .i64 a, .int .i64 x.len, .string x.text] 122) := ⟨_, rfl⟩
      have hBV : Blk V yb 122 #[.int .i64 a, .int .i64 x.len, .string x.text] := by rw [hV, hyb]; exact Blk.new _ _ _
      have hGV : wr.grownBy V none := by rw [hV]; exact only_alloc (only_refl _ _) _
      have GV := Lib.hid (only_trans G.out hGV)
      have BW3 := BW.out.grown GV.out (by simp)
      rw [← hV, ← hyb]
      clear e2 e3 e4 hV hyb hGV d0 d1 d2
      have e2 := BW3.cell 2; have e3 := BW3.cell 3; have e4 := BW3.cell 4
      simp at e2 e3 e4
      have y0 := hBV.cell 0; have y1 := hBV.cell 1; have y2 := hBV.cell 2
      simp at y0 y1 y2
      clear BW3 hBV
      by_cases hl : k + 1 = ls.length
      · have c1 : ((k : Int) == (ls.length : Int) - 1) = true := by simp; omega
        have c2 : (x.len != fin - a) = false := by rw [HLA.out hl]; simp
        clear hl
        go_wp2_with fail
        go_roundw
        case rel => exact ⟨k + 1, a + x.len, by go_num, by omega, by go_num, by omega, HR.out, GV.out⟩
        case measure => simp [intOf]; omega
      · have c1 : ((k : Int) == (ls.length : Int) - 1) = false := by simp; omega
        clear hl
        go_wp2_with fail
        go_roundw
        case rel => exact ⟨k + 1, a + x.len, by go_num, by omega, by go_num, by omega, HR.out, GV.out⟩
        case measure => simp [intOf]; omega
    · have i2 : ¬ (k : Int) < (ls.length : Int) := by omega
      go_wp2_with fail
      go_ret
      exact ⟨rfl, only_trans G0.out G.out⟩
theorem rule_ne {s : ByteArray} (h : 1 ≤ s.size) : s.toList.isEmpty = false := by
  rw [ByteArray.toList_eq]
  cases hs : s.data.toList with
  | nil => have : s.size = 0 := by rw [← ByteArray.size_data, ← Array.length_toList, hs]; rfl
           omega
  | cons a l => rfl
set_option maxHeartbeats 8000000 in
set_option maxRecDepth 100000 in
theorem checkitem_any {S : Nat → Prop} (host : Int) (x : It) (h : ItG host x) (w : World) (hs : x.ev.Sub S w) : Calls Try.prog 70 #[.agg x.cells.toArray] w (OkP0 w) := by
  rw [itAgg]
  obtain ⟨xb, hxb⟩ : ∃ b, b = w.heap.size := ⟨_, rfl⟩
  obtain ⟨W1, hW1⟩ : ∃ W, W = w.alloc (.cells #[.string x.rule, .int .i64 x.ev.host, .int .i64 x.ev.file, .int .i64 x.ev.beg, .int .i64 x.ev.fin, .slice x.ev.la x.ev.lines.length x.ev.lc, .int .i64 x.ev.time, .int .i64 x.ev.weight, .string x.ev.trace, .string x.ev.stream, .slice x.ev.fa x.ev.fields.length x.ev.fc] 77) := ⟨_, rfl⟩
  have G1 : Hid (w.grownBy W1 none) := Lib.hid (by rw [hW1]; exact only_alloc (only_refl _ _) _)
  have B1 : Hid (Blk W1 xb 77 #[.string x.rule, .int .i64 x.ev.host, .int .i64 x.ev.file, .int .i64 x.ev.beg, .int .i64 x.ev.fin, .slice x.ev.la x.ev.lines.length x.ev.lc, .int .i64 x.ev.time, .int .i64 x.ev.weight, .string x.ev.trace, .string x.ev.stream, .slice x.ev.fa x.ev.fields.length x.ev.fc]) := Lib.hid (by rw [hW1, hxb]; exact Blk.new w _ _)
  have HS := Lib.hid (hs.grown G1.out (by simp))
  have HH := Lib.hid h
  have HW := Lib.hid hW1.symm
  have HXB := Lib.hid hxb
  have b0 := B1.out.cell 0; have b1 := B1.out.cell 1; have b2 := B1.out.cell 2; have b3 := B1.out.cell 3; have b4 := B1.out.cell 4; have b5 := B1.out.cell 5; have b6 := B1.out.cell 6; have b7 := B1.out.cell 7; have b8 := B1.out.cell 8; have b9 := B1.out.cell 9; have b10 := B1.out.cell 10
  simp at b0 b1 b2 b3 b4 b5 b6 b7 b8 b9 b10
  rcases h.kind with ⟨hr, hc⟩ | ⟨hr1, hr2, hsk⟩
  · have KC := Lib.hid (check12_any x.ev hc W1 HS.out)
    rw [evAgg] at KC
    clear hW1 hxb hs h hc
    rw [hr] at b0 HW ⊢
    have e0 : (⟨#[]⟩ : ByteArray).toList.isEmpty = true := by rw [ByteArray.toList_eq]; rfl
    clear hr
    go_enter Try.func70, Try.ntmps70
    go_upto_region 1 with fail
    rw [HW.out, ← HXB.out]
    clear HW
    go_wp2_with fail
    refine KC.out.mono ?_
    rintro e w2 ⟨rfl, hg2⟩
    have G2 := Lib.hid (only_trans G1.out hg2)
    clear hg2
    go_wp2_with fail
    go_ret
    exact ⟨rfl, G2.out⟩
  · have KP := Lib.hid (fun (W : World) => place12p x.ev h.pl W)
    have KL := Lib.hid (fun (W : World) (hW : W1.grownBy W none) => lines12p x.ev h.pl W (HS.out.grown hW (by simp)))
    have hl40 := h.pl.l1
    obtain ⟨rule, ⟨eh, ef, eb, en, ls, tm, wt, tc, st, fs, la, lc, fa, fc⟩⟩ := x
    obtain ⟨ht, hw, htc, hst, hfs, htx⟩ := hsk
    simp only at ht hw htc hst hfs htx hr1 hr2 hl40
    subst ht hw htc hst hfs
    have HTX := Lib.hid htx
    have HLN := Lib.hid HS.out.1
    have e0 := rule_ne hr1
    have i1 : ¬ (32 : Int) < (rule.size : Int) := by omega
    have e1 : (⟨#[]⟩ : ByteArray).toList.isEmpty = true := by rw [ByteArray.toList_eq]; rfl
    rw [evAgg] at KP KL
    simp only at KP KL HW B1 HLN HTX b0 b1 b2 b3 b4 b5 b6 b7 b8 b9 b10 ⊢
    simp only [List.length_nil] at KP KL HW B1 b10 ⊢
    clear hW1 hxb hs h htx HS HH
    go_enter Try.func70, Try.ntmps70
    go_upto_region 1 with fail
    rw [HW.out, ← HXB.out]
    clear HW
    obtain ⟨W2, hW2⟩ : ∃ W, W = W1.alloc (.cells #[.int .i64 eh, .int .i64 ef, .int .i64 eb, .int .i64 en, .slice la ls.length lc, .int .i64 0, .int .i64 0, .string ⟨#[]⟩, .string ⟨#[]⟩, .slice fa 0 fc] 75) := ⟨_, rfl⟩
    obtain ⟨yb, hyb⟩ : ∃ b, b = W1.heap.size := ⟨_, rfl⟩
    have g2 : W1.grownBy W2 none := by rw [hW2]; exact only_alloc (only_refl _ _) _
    have Y2 : Hid (Blk W2 yb 75 #[.int .i64 eh, .int .i64 ef, .int .i64 eb, .int .i64 en, .slice la ls.length lc, .int .i64 0, .int .i64 0, .string ⟨#[]⟩, .string ⟨#[]⟩, .slice fa 0 fc]) := Lib.hid (by rw [hW2, hyb]; exact Blk.new W1 _ _)
    have G2 := Lib.hid g2
    have HW2 := Lib.hid hW2.symm
    have HYB := Lib.hid hyb
    clear hW2 hyb g2
    go_upto_region 6 with fail
    rw [HW2.out, ← HYB.out]
    clear HW2 b0 b1 b2 b3 b4 b5 b6 b7 b8 b9 b10
    have y0 := Y2.out.cell 0; have y1 := Y2.out.cell 1; have y2 := Y2.out.cell 2; have y3 := Y2.out.cell 3; have y4 := Y2.out.cell 4; have y5 := Y2.out.cell 5; have y6 := Y2.out.cell 6; have y7 := Y2.out.cell 7; have y8 := Y2.out.cell 8; have y9 := Y2.out.cell 9; simp at y0 y1 y2 y3 y4 y5 y6 y7 y8 y9
    go_wp2_with fail
    refine (KP.out W2).mono ?_
    rintro e w3 ⟨rfl, hg3⟩
    have G3 := Lib.hid (only_trans G2.out hg3)
    have Y3 := Lib.hid (Y2.out.grown hg3 (by simp))
    clear y0 y1 y2 y3 y4 y5 y6 y7 y8 y9 hg3 Y2
    have y0 := Y3.out.cell 0; have y1 := Y3.out.cell 1; have y2 := Y3.out.cell 2; have y3 := Y3.out.cell 3; have y4 := Y3.out.cell 4; have y5 := Y3.out.cell 5; have y6 := Y3.out.cell 6; have y7 := Y3.out.cell 7; have y8 := Y3.out.cell 8; have y9 := Y3.out.cell 9; simp at y0 y1 y2 y3 y4 y5 y6 y7 y8 y9
    go_wp2_with fail
    refine (KL.out w3 G3.out).mono ?_
    rintro e w4 ⟨rfl, hg4⟩
    have G4 := Lib.hid (only_trans G3.out hg4)
    have Y4 := Lib.hid (Y3.out.grown hg4 (by simp))
    clear y0 y1 y2 y3 y4 y5 y6 y7 y8 y9 hg4 Y3
    have y0 := Y4.out.cell 0; have y1 := Y4.out.cell 1; have y2 := Y4.out.cell 2; have y3 := Y4.out.cell 3; have y4 := Y4.out.cell 4; have y5 := Y4.out.cell 5; have y6 := Y4.out.cell 6; have y7 := Y4.out.cell 7; have y8 := Y4.out.cell 8; have y9 := Y4.out.cell 9; simp at y0 y1 y2 y3 y4 y5 y6 y7 y8 y9
    go_wp2_with fail
    go_loopw [6] (fun vi wr => ∃ k : Nat, vi = .int .i64 k ∧ k ≤ ls.length ∧ wr = w4) (fun vi _ => ls.length - (intOf vi).toNat)
    case atStart => exact ⟨0, rfl, Nat.zero_le _, (by first | rfl | trivial)⟩
    case round =>
      obtain ⟨k, rfl, hk, rfl⟩ := hrel
      by_cases hlt : k < ls.length
      · obtain ⟨z, hz⟩ : ∃ z, ls[k]? = some z := ⟨_, List.getElem?_eq_getElem hlt⟩
        have hzt := HTX.out z (List.mem_of_getElem? hz)
        have hln := HLN.out.grown G4.out (by simp)
        obtain ⟨b, o, rfl, -, -, -⟩ := hln (by rw [flat_len _ 3 LineD.cells_len]; omega)
        have d2 : wr.cell? ⟨b, o + k * 3 + 2, none⟩ = some (.string z.text) := hln.flatAt LineD.cells_len hz 2 (by omega)
        rw [hzt] at d2
        have j1 : (k : Int) < (ls.length : Int) := by omega
        have j2 : (0 : Int) ≤ (k : Int) := by omega
        clear hz hzt hln
        go_wp2_with fail
        go_roundw
        case rel => exact ⟨k + 1, by go_num, by omega, (by first | rfl | trivial)⟩
        case measure => simp [intOf]; omega
      · have j1 : ¬ ((k : Int) < (ls.length : Int)) := by omega
        go_wp2_with fail
        go_ret
        exact ⟨rfl, only_trans G1.out G4.out⟩
end Go.Proofs.Ytiogpomgpknjlaa

namespace Go.Proofs.Ytiogpomgpknjlaa
open Go.RowKit
set_option linter.unusedVariables false
set_option linter.unusedSimpArgs false

structure MarkD where
  host : Int
  file : Int
  off : Int
def MarkD.cells (x : MarkD) : List Value := [.int .i64 x.host, .int .i64 x.file, .int .i64 x.off]
theorem MarkD.cells_len (x : MarkD) : x.cells.length = 3 := rfl
theorem MarkD.one (x : MarkD) : ∀ u ∈ x.cells, u.oneCell' = true := by simp [MarkD.cells, Value.oneCell']
theorem markInfo : (Try.prog.info? 83).map (fun i => (i.zero, i.size, i.bytes)) = some (some (.agg #[.int .i64 0, .int .i64 0, .int .i64 0]), 3, 24) := by kernel_rfl
def Mlt (a b : MarkD) : Prop := a.host < b.host ∨ (a.host = b.host ∧ a.file < b.file)
/-- marks drawn so far: all ahead of (host, file) -/
def MarksOk (ms : List MarkD) (host file : Int) : Prop := ms.Pairwise Mlt ∧ ∀ x ∈ ms, (x.host < host ∨ (x.host = host ∧ x.file < file)) ∧ 1 ≤ x.host ∧ 0 ≤ x.file ∧ 0 ≤ x.off
theorem MarksOk.turn {ms : List MarkD} {h f h' f' : Int} (k : MarksOk ms h f) (hl : h < h' ∨ (h = h' ∧ f ≤ f')) : MarksOk ms h' f' := ⟨k.1, fun x hx => by
  obtain ⟨a, b⟩ := k.2 x hx
  exact ⟨by omega, b⟩⟩
theorem MarksOk.snoc {ms : List MarkD} {h f : Int} (k : MarksOk ms h f) {v : Int} (h1 : 1 ≤ h) (h2 : 0 ≤ f) (h3 : 0 ≤ v) : MarksOk (ms ++ [⟨h, f, v⟩]) h (f + 1) := by
  refine ⟨List.pairwise_append.2 ⟨k.1, List.pairwise_singleton _ _, fun a ha b hb => ?_⟩, fun x hx => ?_⟩
  · rw [List.mem_singleton.1 hb]; exact (k.2 a ha).1
  · rcases List.mem_append.1 hx with hx | hx
    · obtain ⟨a, b⟩ := k.2 x hx; exact ⟨by omega, b⟩
    · rw [List.mem_singleton.1 hx]; exact ⟨.inr ⟨rfl, by show f < f + 1; omega⟩, h1, h2, h3⟩
def IntakePost (w : World) (g : Nat) (l : List Int) (e : Ending) (w' : World) : Prop :=
  ∃ (A B : Option Addr) (c d : Nat) (ms : List MarkD) (ts : List Tal) (k : Nat), e = .returned (.agg #[.slice A ms.length c, .slice B ts.length d]) ∧ ms.length ≤ 100 ∧ ms.length ≤ c ∧ c ≤ maxLen ∧ MarksOk ms 3 0 ∧ Rd (w.heap.size ≤ ·) w' A (ms.flatMap MarkD.cells) ∧
    ts.length ≤ d ∧ d ≤ maxLen ∧ ts.length ≤ 4 ∧ TSrt ts ∧ TIn 36 ts ∧ Rd (w.heap.size ≤ ·) w' B (ts.flatMap Tal.cells) ∧ CodesAt w' g l k ∧ w.grownBy w' (some g)
end Go.Proofs.Ytiogpomgpknjlaa
namespace Go.Proofs.Ytiogpomgpknjlaa
open Go.RowKit
set_option linter.unusedVariables false
set_option linter.unusedSimpArgs false

/-- the head of a round -/
def IR (w : World) (g : Nat) (l : List Int) (rb ib : Nat) (h f : Int) (N : Nat) (v : Value) (ms : List MarkD) (wr : World) : Prop :=
  Blk wr rb 39 #[.slice none 0 0, .slice none 0 0] ∧ Blk wr ib 39 #[v, .slice none 0 0] ∧ wr.ownsRow w.heap.size 83 3 v ms.length (ms.flatMap MarkD.cells) ∧ MarksOk ms h f ∧ ms.length ≤ N ∧ (∃ k, CodesAt wr g l k) ∧ w.grownBy wr (some g)
theorem IR.next {w wr w2 : World} {g : Nat} {l : List Int} {rb ib : Nat} {h f : Int} {N : Nat} {v : Value} {ms : List MarkD} {k : Nat} (hI : IR w g l rb ib h f N v ms wr) (hc : CodesAt w2 g l k) (hg : wr.grownBy w2 (some g)) (hlt : g < w.heap.size) (h1 : g < rb) (h2 : g < ib) : IR w g l rb ib h f N v ms w2 :=
  ⟨hI.1.grown hg (by intro e; injection e; omega), hI.2.1.grown hg (by intro e; injection e; omega), own_only hI.2.2.1 hg hlt, hI.2.2.2.1, hI.2.2.2.2.1, ⟨k, hc⟩, only_trans hI.2.2.2.2.2.2 hg⟩
theorem IR.turn {w wr : World} {g : Nat} {l : List Int} {rb ib : Nat} {h f h' f' : Int} {N N' : Nat} {v : Value} {ms : List MarkD} (hI : IR w g l rb ib h f N v ms wr) (hN : N ≤ N') (hl : h < h' ∨ (h = h' ∧ f ≤ f')) : IR w g l rb ib h' f' N' v ms wr :=
  ⟨hI.1, hI.2.1, hI.2.2.1, hI.2.2.2.1.turn hl, Nat.le_trans hI.2.2.2.2.1 hN, hI.2.2.2.2.2⟩
set_option maxHeartbeats 4000000 in
set_option maxRecDepth 100000 in
theorem intake_some (g : Nat) (l : List Int) (k : Nat) (w : World) (h : CodesAt w g l k) :
    Calls Try.prog 18 #[.pointer (some ⟨g, 0, none⟩)] w (IntakePost w g l) := by
  have hlt0 := h.lt
  have HC := Lib.hid h
  clear h
  go_enter Try.func18, Try.ntmps18
  go_wp2_with fail
  obtain ⟨rb, hrb⟩ : ∃ b, b = w.heap.size := ⟨_, rfl⟩
  obtain ⟨ib, hib⟩ : ∃ b, b = w.heap.size + 1 := ⟨_, rfl⟩
  obtain ⟨W1, hW1⟩ : ∃ W1, W1 = (w.alloc (.cells #[.slice none 0 0, .slice none 0 0] 39)).alloc (.cells #[.slice none 0 0, .slice none 0 0] 39) := ⟨_, rfl⟩
  have I1 : Hid (IR w g l rb ib 1 0 (3 * 0) (.slice none 0 0) [] W1) := Lib.hid (by
    rw [hW1, hrb, hib]
    refine ⟨(Blk.new w _ _).alloc _, ?_, World.ownsRow_nil _ _ _ _, ⟨List.Pairwise.nil, by simp⟩, by simp, ⟨k, (HC.out.alloc _).alloc _⟩, only_alloc (only_alloc (only_refl _ _) _) _⟩
    have := Blk.new (w.alloc (.cells #[.slice none 0 0, .slice none 0 0] 39)) 39 #[.slice none 0 0, .slice none 0 0]
    simpa using this)
  rw [← hib, ← hrb, ← hW1]
  have hgr : g < rb := by omega
  have hgi : g < ib := by omega
  have hri : rb ≠ ib := by omega
  have hrl : rb < ib := by omega
  have HRB := Lib.hid hrb
  clear hW1 hib hrb HC
  go_loopw [4] (fun vh wr => ∃ (h : Nat) (v : Value) (ms : List MarkD), vh = .int .i64 ((h : Int) + 1) ∧ h ≤ 2 ∧ IR w g l rb ib ((h : Int) + 1) 0 (3 * h) v ms wr) (fun vh _ => 4 - (intOf vh).toNat)
  case atStart => exact ⟨0, _, [], rfl, by omega, by simpa using I1.out⟩
  case round =>
    obtain ⟨h, v, ms, rfl, hh, hI⟩ := hrel
    have I2 := Lib.hid hI
    clear hI I1
    by_cases hh1 : h ≤ 1
    · have i1 : (h : Int) + 1 ≤ 2 := by omega
      go_wp2_with fail
      obtain ⟨wo, rfl⟩ : ∃ wo : World, wo = wr := ⟨_, rfl⟩
      go_loopw [5] (fun vf wr => ∃ (f : Nat) (v : Value) (ms : List MarkD), vf = .int .i64 ((f : Int) + 5) ∧ f ≤ 3 ∧ IR w g l rb ib ((h : Int) + 1) ((f : Int) + 5) (3 * h + f) v ms wr) (fun vf _ => 9 - (intOf vf).toNat)
      case atStart => exact ⟨0, v, ms, rfl, by omega, I2.out.turn (by omega) (.inr ⟨rfl, by omega⟩)⟩
      case round =>
        obtain ⟨f, v, ms, rfl, hf, hI⟩ := hrel
        have I3 := Lib.hid hI
        obtain ⟨k3, h3⟩ := hI.2.2.2.2.2.1
        clear hI I2
        go_wp2_with fail
        refine (next_some g l k3 3 _ h3 (by omega) (by omega)).mono ?_
        rintro e w4 ⟨v4, k4, rfl, hv4, h4, hg4⟩
        have I4 := Lib.hid (I3.out.next h4 hg4 hlt0 hgr hgi)
        clear hg4 h3 I3
        by_cases hle : (f : Int) + 5 ≤ 5 + v4
        · have i2 : decide ((f : Int) + 5 ≤ 5 + v4) = true := by simp; omega
          have hf2 : f ≤ 2 := by omega
          go_wp2_with fail
          refine (next_some g l k4 2 _ h4 (by omega) (by omega)).mono ?_
          rintro e w5 ⟨v5, k5, rfl, hv5, h5, hg5⟩
          have I5 := Lib.hid (I4.out.next h5 hg5 hlt0 hgr hgi)
          clear hg5 h4 I4
          by_cases h51 : v5 = 1
          · subst h51
            obtain ⟨Am, cm, rfl, -, -, -, -⟩ := Rd.of_own I5.out.2.2.1 (by decide)
            have c0 := I5.out.2.1.cell 0
            have f0 := I5.out.2.1.frozen 0
            simp at c0
            have hO := I5.out.2.2.1
            have hml := I5.out.2.2.2.2.1
            have hsz5 := I5.out.2.2.2.2.2.2.size
            have hB := I5.out.2.1
            have hbase : w.heap.size ≤ w5.heap.size := hsz5
            have HO := Lib.hid hO
            have HB := Lib.hid hB
            clear hO hB
            go_wp2_with fail
            go_region_law (first
              | (have htok := HO6; go_must (refine step_append1 rfl _ _ 37 rfl w.heap.size Try.underlying37 markInfo rfl (by decide) (v := _) (by rfl) (w0 := w6) (cs := (MarkD.mk ((h : Int) + 1) ((f : Int) + 5) v6).cells.toArray) (by rfl) (by rfl) (by rfl) (by rfl) HO6.out (by rfl) rfl (by simpa using MarkD.one _) (by decide) (by omega) (by omega) ?_); intro v7 w7 hown7 hg7 hob7; obtain ⟨A7, q7, rfl, -, -, -, -⟩ := Rd.of_own hown7 (by decide); go_must (have hB7 := hB6.grown hg7 (fun e => blk_norow hB6 HO6.out (by decide) e.symm)); have c7 := hB7.cell 0; have f7 := hB7.frozen 0; go_must (simp at c7))
              | (go_simp; go_at_call 28; refine (next_some g l k5 60 _ (by exact h5.drew) (by omega) (by omega)).mono ?_; rintro e w6 ⟨v6, k6, rfl, hv6, h6, hg6⟩; have HO6 : Hid (w6.ownsRow w.heap.size 83 3 (.slice Am ms.length cm) ms.length (ms.flatMap MarkD.cells)) := Lib.hid (own_only (own_drew HO.out) hg6 hlt0); have hB6 := HB.out.drew.grown hg6 (by intro e; injection e; omega); have c6 := hB6.cell 0; have f6 := hB6.frozen 0; simp at c6; have hl6 := hB6.lt; have hl7 : ib ≠ w6.heap.size := (by omega); have hsz6 : w5.heap.size ≤ w6.heap.size := hg6.size))
            all_goals
              have I7 : Hid (IR w g l rb ib ((h : Int) + 1) ((f : Int) + 5 + 1) (3 * h + f + 1) (.slice A7 (ms.length + 1) q7) (ms ++ [⟨(h : Int) + 1, (f : Int) + 5, v6⟩]) (w7.setCell ⟨ib, 0, none⟩ (.slice A7 (ms.length + 1) q7))) := Lib.hid (by
                have hs := only_setCell (only_refl w7 (some ib)) (p := ⟨ib, 0, none⟩) (.inl rfl) (.slice A7 (ms.length + 1) q7)
                have ho : w7.ownsRow w.heap.size 83 3 (.slice A7 (ms.length + 1) q7) (ms ++ [(⟨(h : Int) + 1, (f : Int) + 5, v6⟩ : MarkD)]).length ((ms ++ [(⟨(h : Int) + 1, (f : Int) + 5, v6⟩ : MarkD)]).flatMap MarkD.cells) := by simpa using hown7
                have hR6 := I5.out.1.drew.grown hg6 (by intro e; injection e; omega)
                have hR7 := hR6.grown hg7 (fun e => blk_norow hR6 HO6.out (by decide) e.symm)
                refine ⟨hR7.grown hs (by intro e; injection e; exact hri (by assumption)), by simpa using hB7.set_ 0 (.slice A7 (ms.length + 1) q7), own_off ho hs (blk_norow hB7 ho (by decide)), I5.out.2.2.2.1.snoc (by omega) (by omega) hv6.1, by simp; omega, ⟨k6, ?_⟩, ?_⟩
                · have h7 := h6.grown hg7 (fun b hb e => by have := (HO6.out.lt b e.symm).1; omega)
                  exact h7.grown hs (fun b hb e => by injection e; omega)
                · have h8 := only_own (only_trans (only_drew I5.out.2.2.2.2.2.2) hg6) hg7 HO6.out (Nat.le_refl _)
                  exact only_fresh h8 hs (by have := HRB.out; omega))
              clear hown7 hg7 hob7 hg6 hB7 hB6 h6 HO6 c6 f6 c7 f7 I5 HO HB c0 f0 hsz6
              go_wp2_with fail
              exact ⟨⟨f + 1, _, _, by go_num, by omega, by have := I7.out; rw [show ((f + 1 : Nat) : Int) + 5 = (f : Int) + 5 + 1 by omega]; exact this⟩, by simp [intOf]; omega⟩
          · have i3 : (v5 == 1) = false := by simp [h51]
            go_wp2_with fail
            go_roundw
            case rel => exact ⟨f + 1, v, ms, by go_num, by omega, I5.out.turn (by omega) (.inr ⟨rfl, by omega⟩)⟩
            case measure => simp [intOf]; omega
        · have i2 : decide ((f : Int) + 5 ≤ 5 + v4) = false := by simp; omega
          go_wp2_with fail
          go_roundw
          case rel => exact ⟨h + 1, v, ms, by go_num, by omega, I4.out.turn (by omega) (.inl (by omega))⟩
          case measure => simp [intOf]; omega
    · have i1 : ¬ ((h : Int) + 1 ≤ 2) := by omega
      obtain ⟨Am, cm, rfl, hmc, hmm, -, hrm⟩ := Rd.of_own I2.out.2.2.1 (by decide)
      have RM := Lib.hid hrm
      obtain ⟨k2, h2⟩ := I2.out.2.2.2.2.2.1
      have hml := I2.out.2.2.2.2.1
      have hsz2 := I2.out.2.2.2.2.2.2.size
      clear hrm
      go_wp2_with fail
      refine (tallies_some g l k2 _ h2).mono ?_
      rintro e w9 ⟨At, ct, ts, k9, rfl, htc, htm, ht4, hts, hti, hrt, h9, hg9⟩
      have hB9 := I2.out.2.1.grown hg9 (by intro e; injection e; omega)
      have hR9 := I2.out.1.grown hg9 (by intro e; injection e; omega)
      have c0 := hB9.cell 0
      have c1 := hB9.cell 1
      have f1 := hB9.frozen 1
      have q0 := hR9.cell 0
      have q1 := hR9.cell 1
      have p0 := hR9.frozen 0
      have p1 := hR9.frozen 1
      simp at c0 c1 q0 q1
      have hir : ib ≠ rb := fun e => hri e.symm
      have TS := Lib.hid hts
      have TI := Lib.hid hti
      have H9 := Lib.hid h9
      have G9 : Hid (w.grownBy w9 (some g)) := Lib.hid (only_trans I2.out.2.2.2.2.2.2 hg9)
      have HO9 : Hid (w9.ownsRow w.heap.size 83 3 (.slice Am ms.length cm) ms.length (ms.flatMap MarkD.cells)) := Lib.hid (own_only I2.out.2.2.1 hg9 hlt0)
      have HB9 := Lib.hid hB9
      have HR9 := Lib.hid hR9
      have RT : Hid (Rd (fun b => ib < b) w9 At (ts.flatMap Tal.cells)) := Lib.hid (hrt.mono (fun b hb _ => by have := I2.out.2.1.lt; omega))
      have OK := Lib.hid (I2.out.2.2.2.1)
      clear hB9 hR9 hrt hts hti h9 hg9 I2 h2 RM
      unfold maxLen at htm hmm
      go_wp2_with fail
      refine bodyPost_ret (v := .agg #[.slice Am ms.length cm, .slice At ts.length ct]) (by simp [results, Try.results18, go_sem, q0, q1]) rfl ?_
      have s1 := only_setCell (only_refl w9 (some ib)) (p := ⟨ib, 1, none⟩) (.inl rfl) (.slice At ts.length ct)
      have s2 := only_setCell (only_refl (w9.setCell ⟨ib, 1, none⟩ (.slice At ts.length ct)) (some rb)) (p := ⟨rb, 0, none⟩) (.inl rfl) (.slice Am ms.length cm)
      have s3 := only_setCell s2 (p := ⟨rb, 1, none⟩) (.inl rfl) (.slice At ts.length ct)
      have o1 := own_off HO9.out s1 (blk_norow HB9.out HO9.out (by decide))
      have r1 := HR9.out.grown s1 (by intro e; injection e; exact hri (by assumption))
      have o2 := own_off o1 s3 (blk_norow r1 o1 (by decide))
      obtain ⟨A2, c2, e2, -, -, -, h2⟩ := Rd.of_own o2 (by decide)
      injection e2 with a1 a2 a3
      subst a1
      have hrbw : w.heap.size ≤ rb := by have := HRB.out; omega
      refine ⟨Am, At, cm, ct, ms, ts, k9, rfl, by omega, hmc, by unfold maxLen; exact hmm, ?_, h2, htc, by unfold maxLen; exact htm, ht4, TS.out, TI.out, ?_, ?_, ?_⟩
      · have h3 : h = 2 := by omega
        have := OK.out
        rw [h3] at this
        exact this
      · exact ((RT.out.grown s1 (fun b hb e => by injection e; omega)).grown s3 (fun b hb e => by injection e; omega)).mono (fun b hb _ => by omega)
      · exact (H9.out.grown s1 (fun b hb e => by injection e; omega)).grown s3 (fun b hb e => by injection e; omega)
      · exact only_fresh (only_fresh G9.out s1 (by omega)) s3 (by omega)
end Go.Proofs.Ytiogpomgpknjlaa

namespace Go.Proofs.Ytiogpomgpknjlaa
open Go.RowKit
set_option linter.unusedVariables false
set_option linter.unusedSimpArgs false

def AtP (n : Nat) (w : World) (e : Ending) (w' : World) : Prop := ∃ (i : Nat) (ok : Bool), e = .returned (.tuple #[.int .i64 i, .bool ok]) ∧ i ≤ n ∧ (ok = true → i < n) ∧ ∃ q, w' = w.drewN q
set_option maxHeartbeats 2000000 in
set_option maxRecDepth 100000 in
theorem at28_any {S : Nat → Prop} (A : Option Addr) (ms : List MarkD) (c : Nat) (h f : Int) (w : World) (hr : Rd S w A (ms.flatMap MarkD.cells)) (hl : ms.length ≤ 100000) :
    Calls Try.prog 71 #[.slice A ms.length c, .int .i64 h, .int .i64 f] w (AtP ms.length w) := by
  have HR := Lib.hid hr
  clear hr
  go_enter Try.func71, Try.ntmps71
  go_wp2_with fail
  go_loopw [8] (fun vi wr => ∃ k : Nat, vi = .int .i64 k ∧ k ≤ ms.length ∧ wr = w) (fun vi _ => ms.length - (intOf vi).toNat)
  case atStart => exact ⟨0, rfl, Nat.zero_le _, rfl⟩
  case round =>
    obtain ⟨k, rfl, hk, rfl⟩ := hrel
    by_cases hlt : k < ms.length
    · obtain ⟨x, hx⟩ : ∃ x, ms[k]? = some x := ⟨_, List.getElem?_eq_getElem hlt⟩
      obtain ⟨b, o, rfl, -, -, -⟩ := HR.out (by rw [flat_len _ 3 MarkD.cells_len]; omega)
      have d0 : wr.cell? ⟨b, o + k * 3, none⟩ = some (.int .i64 x.host) := HR.out.flatAt MarkD.cells_len hx 0 (by omega)
      have d1 : wr.cell? ⟨b, o + k * 3 + 1, none⟩ = some (.int .i64 x.file) := HR.out.flatAt MarkD.cells_len hx 1 (by omega)
      have i1 : (k : Int) < (ms.length : Int) := by omega
      have i2 : (0 : Int) ≤ (k : Int) := by omega
      clear hx
      by_cases h1 : x.host < h
      · go_wp2_with fail
        go_roundw
        case rel => exact ⟨k + 1, by go_num, by omega, (by first | rfl | trivial)⟩
        case measure => simp [intOf]; omega
      · by_cases h2 : x.host = h
        · have e2 : (x.host == h) = true := by simp [h2]
          by_cases h3 : x.file < f
          · clear h2
            go_wp2_with fail
            go_roundw
            case rel => exact ⟨k + 1, by go_num, by omega, (by first | rfl | trivial)⟩
            case measure => simp [intOf]; omega
          · by_cases h4 : x.file = f
            · have e4 : (x.file == f) = true := by simp [h4]
              clear h2 h4
              go_wp2_with fail
              go_quiet (fail)
              go_wp2_with fail
              go_ret2
              exact ⟨k, true, rfl, hk, fun _ => hlt, nq, rfl⟩
            · have e4 : (x.file == f) = false := by simp [h4]
              clear h2 h4
              go_wp2_with fail
              go_quiet (fail)
              go_wp2_with fail
              go_ret2
              exact ⟨k, false, rfl, hk, (fun e => by cases e), nq, rfl⟩
        · have e2 : (x.host == h) = false := by simp [h2]
          clear h2
          go_wp2_with fail
          go_quiet (fail)
          go_wp2_with fail
          go_ret2
          exact ⟨k, false, rfl, hk, (fun e => by cases e), nq, rfl⟩
    · have i1 : ¬ ((k : Int) < (ms.length : Int)) := by omega
      go_wp2_with fail
      go_quiet (fail)
      go_wp2_with fail
      go_ret2
      exact ⟨k, false, rfl, hk, (fun e => by cases e), nq, rfl⟩
def AnyI (w : World) (e : Ending) (w' : World) : Prop := ∃ v : Int, e = .returned (.int .i64 v) ∧ w.grownBy w' none
set_option maxHeartbeats 2000000 in
set_option maxRecDepth 100000 in
theorem mark28_any {S : Nat → Prop} (A : Option Addr) (ms : List MarkD) (c : Nat) (v1 : Value) (h f : Int) (w : World) (hr : Rd S w A (ms.flatMap MarkD.cells)) (hl : ms.length ≤ 100000) :
    Calls Try.prog 54 #[.agg #[.slice A ms.length c, v1], .int .i64 h, .int .i64 f] w (AnyI w) := by
  obtain ⟨mb, hmb⟩ : ∃ b, b = w.heap.size := ⟨_, rfl⟩
  obtain ⟨W1, hW1⟩ : ∃ W, W = w.alloc (.cells #[.slice A ms.length c, v1] 39) := ⟨_, rfl⟩
  have G1 : Hid (w.grownBy W1 none) := Lib.hid (by rw [hW1]; exact only_alloc (only_refl _ _) _)
  have B1 : Hid (Blk W1 mb 39 #[.slice A ms.length c, v1]) := Lib.hid (by rw [hW1, hmb]; exact Blk.new w _ _)
  have HR := Lib.hid (hr.grown G1.out (by simp))
  have KA := Lib.hid (at28_any A ms c h f W1 HR.out hl)
  have b0 := B1.out.cell 0
  simp at b0
  have HW := Lib.hid hW1.symm
  have HMB := Lib.hid hmb
  clear hW1 hmb hr
  go_enter Try.func54, Try.ntmps54
  go_upto_region 1 with fail
  rw [HW.out, ← HMB.out]
  clear HW
  go_wp2_with fail
  refine KA.out.mono ?_
  rintro e w2 ⟨i, ok, rfl, hi, hok, q, rfl⟩
  have G2 := Lib.hid (only_drewN G1.out q)
  have c0 : (W1.drewN q).cell? ⟨mb, 0, none⟩ = some (.slice A ms.length c) := b0
  cases ok with
  | false =>
    clear hok b0
    go_wp2_with fail
    go_ret
    exact ⟨0, rfl, G2.out⟩
  | true =>
    have hlt := hok rfl
    obtain ⟨x, hx⟩ : ∃ x, ms[i]? = some x := ⟨_, List.getElem?_eq_getElem hlt⟩
    obtain ⟨b, o, rfl, -, -, -⟩ := HR.out (by rw [flat_len _ 3 MarkD.cells_len]; omega)
    have d2 : (W1.drewN q).cell? ⟨b, o + i * 3 + 2, none⟩ = some (.int .i64 x.off) := HR.out.flatAt MarkD.cells_len hx 2 (by omega)
    have i1 : (i : Int) < (ms.length : Int) := by omega
    have i2 : (0 : Int) ≤ (i : Int) := by omega
    clear hx hok b0
    go_wp2_with fail
    go_ret
    exact ⟨x.off, rfl, G2.out⟩
end Go.Proofs.Ytiogpomgpknjlaa

namespace Go.Proofs.Ytiogpomgpknjlaa
open Go.RowKit
set_option linter.unusedVariables false
set_option linter.unusedSimpArgs false

/-- items at hand -/
def Its (S : Nat → Prop) (w : World) (host : Int) (A : Option Addr) (xs : List It) : Prop := Rd S w A (xs.flatMap It.cells) ∧ ∀ x ∈ xs, ItG host x ∧ x.ev.Sub S w
theorem Its.grown {S : Nat → Prop} {w w' : World} {host : Int} {A : Option Addr} {xs : List It} {row : Option Nat} (h : Its S w host A xs) (hg : w.grownBy w' row) (hr : ∀ b, S b → some b ≠ row) : Its S w' host A xs := ⟨h.1.grown hg hr, fun x hx => ⟨(h.2 x hx).1, (h.2 x hx).2.grown hg hr⟩⟩
theorem Its.mono {S S' : Nat → Prop} {w : World} {host : Int} {A : Option Addr} {xs : List It} (h : Its S w host A xs) (hS : ∀ b, S b → b < w.heap.size → S' b) : Its S' w host A xs := ⟨h.1.mono hS, fun x hx => ⟨(h.2 x hx).1, (h.2 x hx).2.mono hS⟩⟩
set_option maxHeartbeats 4000000 in
set_option maxRecDepth 100000 in
theorem check28_any {S : Nat → Prop} (host num : Int) (A : Option Addr) (xs : List It) (c : Nat) (w : World) (h : Its S w host A xs) (hl : xs.length ≤ 40) : Calls Try.prog 53 #[.agg #[.int .i64 host, .int .i64 num, .slice A xs.length c]] w (AnyI w) := by
  obtain ⟨bb, hbb⟩ : ∃ b, b = w.heap.size := ⟨_, rfl⟩
  obtain ⟨W1, hW1⟩ : ∃ W, W = w.alloc (.cells #[.int .i64 host, .int .i64 num, .slice A xs.length c] 56) := ⟨_, rfl⟩
  have G1 : Hid (w.grownBy W1 none) := Lib.hid (by rw [hW1]; exact only_alloc (only_refl _ _) _)
  have B1 : Hid (Blk W1 bb 56 #[.int .i64 host, .int .i64 num, .slice A xs.length c]) := Lib.hid (by rw [hW1, hbb]; exact Blk.new w _ _)
  have HI := Lib.hid (h.grown G1.out (by simp))
  have HW := Lib.hid hW1.symm
  have HBB := Lib.hid hbb
  have b2 := B1.out.cell 2
  simp at b2
  have i0 : ¬ (40 : Int) < (xs.length : Int) := by omega
  clear hW1 hbb h
  go_enter Try.func53, Try.ntmps53
  go_upto_region 1 with fail
  rw [HW.out, ← HBB.out]
  clear HW
  go_wp2_with fail
  go_loopw [3] (fun vi wr => ∃ k : Nat, vi = .int .i64 k ∧ k ≤ xs.length ∧ W1.grownBy wr none) (fun vi _ => xs.length - (intOf vi).toNat)
  case atStart => exact ⟨0, rfl, Nat.zero_le _, only_refl _ _⟩
  case round =>
    obtain ⟨k, rfl, hk, hG⟩ := hrel
    have G := Lib.hid hG
    have BR := Lib.hid (B1.out.grown hG (by simp))
    clear b2 hG
    have b2 := BR.out.cell 2
    simp at b2
    by_cases hlt : k < xs.length
    · obtain ⟨x, hx⟩ : ∃ x, xs[k]? = some x := ⟨_, List.getElem?_eq_getElem hlt⟩
      have hm := HI.out.2 x (List.mem_of_getElem? hx)
      have hir := HI.out.1.grown G.out (by simp)
      obtain ⟨b, o, rfl, -, hbl, -⟩ := hir (by rw [flat_len _ 11 It.cells_len]; omega)
      obtain ⟨d0, d1, d2, d3, d4, d5, d6, d7, d8, d9, d10⟩ := Fl.load11 hir hx
      rw [hm.1.ho] at d1
      have HXG := Lib.hid hm.1
      have HXS := Lib.hid (hm.2.grown G.out (by simp))
      have i1 : (k : Int) < (xs.length : Int) := by omega
      have i2 : (0 : Int) ≤ (k : Int) := by omega
      obtain ⟨W2, hW2⟩ : ∃ W, W = wr.alloc (.cells #[.string x.rule, .int .i64 host, .int .i64 x.ev.file, .int .i64 x.ev.beg, .int .i64 x.ev.fin, .slice x.ev.la x.ev.lines.length x.ev.lc, .int .i64 x.ev.time, .int .i64 x.ev.weight, .string x.ev.trace, .string x.ev.stream, .slice x.ev.fa x.ev.fields.length x.ev.fc] 77) := ⟨_, rfl⟩
      obtain ⟨yb, hyb⟩ : ∃ b, b = wr.heap.size := ⟨_, rfl⟩
      have g2 : wr.grownBy W2 none := by rw [hW2]; exact only_alloc (only_refl _ _) _
      have Y2 : Hid (Blk W2 yb 77 #[.string x.rule, .int .i64 host, .int .i64 x.ev.file, .int .i64 x.ev.beg, .int .i64 x.ev.fin, .slice x.ev.la x.ev.lines.length x.ev.lc, .int .i64 x.ev.time, .int .i64 x.ev.weight, .string x.ev.trace, .string x.ev.stream, .slice x.ev.fa x.ev.fields.length x.ev.fc]) := Lib.hid (by rw [hW2, hyb]; exact Blk.new wr _ _)
      have G2 := Lib.hid (only_trans G.out g2)
      have HW2 := Lib.hid hW2.symm
      have HYB := Lib.hid hyb
      have KI : Hid (Calls Try.prog 70 #[.agg #[.string x.rule, .int .i64 host, .int .i64 x.ev.file, .int .i64 x.ev.beg, .int .i64 x.ev.fin, .slice x.ev.la x.ev.lines.length x.ev.lc, .int .i64 x.ev.time, .int .i64 x.ev.weight, .string x.ev.trace, .string x.ev.stream, .slice x.ev.fa x.ev.fields.length x.ev.fc]] W2 (OkP0 W2)) := Lib.hid (by
        have h0 := checkitem_any host x HXG.out W2 (HXS.out.grown g2 (by simp))
        rw [itAgg, HXG.out.ho] at h0
        exact h0)
      clear hx hm hir hW2 hyb hbl g2
      go_upto_region 7 with fail
      rw [HW2.out, ← HYB.out]
      clear HW2 d0 d1 d2 d3 d4 d5 d6 d7 d8 d9 d10
      have y0 := Y2.out.cell 0; have y1 := Y2.out.cell 1; have y2 := Y2.out.cell 2; have y3 := Y2.out.cell 3; have y4 := Y2.out.cell 4; have y5 := Y2.out.cell 5; have y6 := Y2.out.cell 6; have y7 := Y2.out.cell 7; have y8 := Y2.out.cell 8; have y9 := Y2.out.cell 9; have y10 := Y2.out.cell 10; simp at y0 y1 y2 y3 y4 y5 y6 y7 y8 y9 y10
      go_wp2_with fail
      refine KI.out.mono ?_
      rintro e w3 ⟨rfl, hg3⟩
      have G3 := Lib.hid (only_trans G2.out hg3)
      have Y3 := Y2.out.grown hg3 (by simp)
      have B3 := B1.out.grown G3.out (by simp)
      clear y0 y1 y2 y3 y4 y5 y6 y7 y8 y9 y10 b2 hg3 KI
      have y0 := Y3.cell 0; have y1 := Y3.cell 1; have y2 := Y3.cell 2; have y3 := Y3.cell 3; have y4 := Y3.cell 4; have y5 := Y3.cell 5; have y6 := Y3.cell 6; have y7 := Y3.cell 7; have y8 := Y3.cell 8; have y9 := Y3.cell 9; have y10 := Y3.cell 10; simp at y0 y1 y2 y3 y4 y5 y6 y7 y8 y9 y10
      have b0 := B3.cell 0
      have b2 := B3.cell 2
      simp at b0 b2
      clear Y3 B3
      cases hd : (x.rule.toList == [42]) with
      | true =>
        go_wp2_with fail
        go_ret
        exact ⟨_, rfl, only_trans G1.out G3.out⟩
      | false =>
        go_wp2_with fail
        go_roundw
        case rel => exact ⟨k + 1, by go_num, by omega, G3.out⟩
        case measure => simp [intOf]; omega
    · have i1 : ¬ ((k : Int) < (xs.length : Int)) := by omega
      go_wp2_with fail
      go_ret
      exact ⟨_, rfl, only_trans G1.out G.out⟩
end Go.Proofs.Ytiogpomgpknjlaa
