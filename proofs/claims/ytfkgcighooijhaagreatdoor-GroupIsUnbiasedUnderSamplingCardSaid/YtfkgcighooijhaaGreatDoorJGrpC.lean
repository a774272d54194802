/- The closures of group.kinds: what a cell is made of, and how two are merged. Condition: sizes. -/
import Derived.Test.YtfkgcighooijhaaGreatDoorJGrpP
import Derived.Test.YtfkgcighooijhaaGreatDoorJSortS
import Derived.Deep.DeepCutAuto
import Derived.Deep.RegionLaw
import Derived.Test.YtfkgcighooijhaaGreatDoorStr
import Derived.Lib.SliceRun
namespace Go.Proofs.YtfkgcighooijhaaGreatDoor
open Go.RowKit
set_option linter.unusedVariables false
set_option linter.unusedSimpArgs false

def IntG (n : Int) (w : World) (e : Ending) (w' : World) : Prop := e = .returned (.int .i64 n) ∧ w.grownBy w' none
theorem k1_any (n : Int) (e : Ev) (w : World) : Calls Tryz.prog 65 #[.int .i64 n, .agg e.cells.toArray] w (IntG n w) := by
  obtain ⟨host, file, beg, fin, lines, time, weight, trace, stream, fields, la, lc, fa, fc⟩ := e
  show Calls _ _ #[_, .agg #[.int .i64 host, .int .i64 file, .int .i64 beg, .int .i64 fin, .slice la lines.length lc, .int .i64 time, .int .i64 weight, .string trace, .string stream, .slice fa fields.length fc]] w _
  go_enter Tryz.func65, Tryz.ntmps65
  go_wp2_with fail
  go_ret
  exact ⟨rfl, only_alloc (only_refl _ _) _⟩
theorem k2_any (n : Int) (e : Ev) (w : World) : Calls Tryz.prog 66 #[.int .i64 n, .agg e.cells.toArray] w (IntG (wrap64 (n * e.weight)) w) := by
  obtain ⟨host, file, beg, fin, lines, time, weight, trace, stream, fields, la, lc, fa, fc⟩ := e
  show Calls _ _ #[_, .agg #[.int .i64 host, .int .i64 file, .int .i64 beg, .int .i64 fin, .slice la lines.length lc, .int .i64 time, .int .i64 weight, .string trace, .string stream, .slice fa fields.length fc]] w _
  go_enter Tryz.func66, Tryz.ntmps66
  go_wp2_with fail
  go_ret
  exact ⟨rfl, only_alloc (only_refl _ _) _⟩
theorem plus_any (a b : Int) (w : World) : Calls Tryz.prog 69 #[.int .i64 a, .int .i64 b] w (IntG (addW a b) w) := by
  unfold addW
  go_enter Tryz.func69, Tryz.ntmps69
  go_wp2_with fail
  go_ret
  exact ⟨rfl, only_refl _ _⟩
theorem minI_eq (a b : Int) : minI a b = min a b := by unfold minI; split <;> omega
theorem maxI_eq (a b : Int) : maxI a b = max a b := by unfold maxI; split <;> omega
theorem least_any (a b : Int) (w : World) : Calls Tryz.prog 71 #[.int .i64 a, .int .i64 b] w (IntG (minI a b) w) := by
  rw [minI_eq]
  go_enter Tryz.func71, Tryz.ntmps71
  go_wp2_with fail
  go_ret
  exact ⟨rfl, only_refl _ _⟩
theorem greatest_any (a b : Int) (w : World) : Calls Tryz.prog 72 #[.int .i64 a, .int .i64 b] w (IntG (maxI a b) w) := by
  rw [maxI_eq]
  go_enter Tryz.func72, Tryz.ntmps72
  go_wp2_with fail
  go_ret
  exact ⟨rfl, only_refl _ _⟩
set_option maxHeartbeats 2000000 in
theorem count_any (f : ByteArray) (e : Ev) (w : World) : Calls Tryz.prog 67 #[.string f, .agg e.cells.toArray] w (CellP w ⟨e.weight, true, []⟩) := by
  obtain ⟨host, file, beg, fin, lines, time, weight, trace, stream, fields, la, lc, fa, fc⟩ := e
  show Calls _ _ #[_, .agg #[.int .i64 host, .int .i64 file, .int .i64 beg, .int .i64 fin, .slice la lines.length lc, .int .i64 time, .int .i64 weight, .string trace, .string stream, .slice fa fields.length fc]] w _
  go_enter Tryz.func67, Tryz.ntmps67
  go_wp2_with fail
  exact bodyPost_ret (v := .agg #[.int .i64 weight, .bool true, .slice none 0 0]) (by simp [results, Tryz.results67, go_sem]) rfl ⟨⟨weight, true, ⟨[], none, 0⟩⟩, rfl, rfl, StrR.nil_in, only_alloc (only_alloc (only_refl _ _) _) _⟩
/-- what a group makes of a number -/
def numC (h : Int → Int) : Option Int → CD
  | none => ⟨0, false, []⟩
  | some n => ⟨h n, true, []⟩
set_option maxHeartbeats 4000000 in
set_option maxRecDepth 100000 in
theorem numd_any {S : Nat → Prop} (g : FuncId) (hh : Int → Int) (fld : ByteArray) (e : Ev) (b : Nat) (w : World) (eg : ∀ (args : Array Value) (w : World), (callFunc g args).run Tryz.prog w = .ok (.enter g args) w)
    (hg : ∀ n w', Calls Tryz.prog g #[.int .i64 n, .agg e.cells.toArray] w' (IntG (hh n) w')) (hb : w.cell? ⟨b, 0, none⟩ = some (.func (.func g) #[] #[])) (hs : e.Sub S w) (hi : EvV e) (hn : fld.size ≤ maxLen) (ht : Pow10 w) :
    Calls Tryz.prog 89 #[.string fld, .agg e.cells.toArray, .pointer (some ⟨b, 0, none⟩)] w (CellP w (numC hh (numOf e fld))) := by
  have HN : Hid (∀ w', w.grownBy w' none → Calls Tryz.prog 90 #[.agg e.cells.toArray, .string fld] w' (NumP w' (numOf e fld))) := fun w' hg => num_any e fld w' (hs.grown hg (by simp)) hi hn (ht.grown hg)
  have hbl : b < w.heap.size := World.block_lt_of_cell? w _ hb
  have HB : Hid (∀ w', w.grownBy w' none → w'.cell? ⟨b, 0, none⟩ = some (.func (.func g) #[] #[])) := Lib.hid (fun w' hg => (World.cell?_of_block (a := ⟨b, 0, none⟩) (hg.block b hbl (by simp))).trans hb)
  have HG := Lib.hid hg
  have EG := Lib.hid eg
  clear hs hi hn ht hb hg eg
  obtain ⟨o, ho⟩ : ∃ o, o = numOf e fld := ⟨_, rfl⟩
  rw [← ho] at HN ⊢
  clear ho
  obtain ⟨host, file, beg, fin, lines, time, weight, trace, stream, fields, la, lc, fa, fc⟩ := e
  have hcl : (Ev.mk host file beg fin lines time weight trace stream fields la lc fa fc).cells.toArray = #[.int .i64 host, .int .i64 file, .int .i64 beg, .int .i64 fin, .slice la lines.length lc, .int .i64 time, .int .i64 weight, .string trace, .string stream, .slice fa fields.length fc] := rfl
  rw [hcl] at HN HG ⊢
  clear hcl
  go_enter Tryz.func89, Tryz.ntmps89
  go_wp2_with fail
  refine (HN.out _ (only_alloc (only_alloc (only_refl _ _) _) _)).mono ?_
  rintro en w1 ⟨rfl, hg1⟩
  have hB := ((Blk.new w 35 #[.int .i64 host, .int .i64 file, .int .i64 beg, .int .i64 fin, .slice la lines.length lc, .int .i64 time, .int .i64 weight, .string trace, .string stream, .slice fa fields.length fc]).alloc (.cells #[.int .i64 0, .bool false, .slice none 0 0] 91)).grown hg1 (by simp)
  have hC := (Blk.new (w.alloc (.cells #[.int .i64 host, .int .i64 file, .int .i64 beg, .int .i64 fin, .slice la lines.length lc, .int .i64 time, .int .i64 weight, .string trace, .string stream, .slice fa fields.length fc] 35)) 91 #[.int .i64 0, .bool false, .slice none 0 0]).grown hg1 (by simp)
  have G1 : Hid (w.grownBy w1 none) := only_trans (only_alloc (only_alloc (only_refl _ _) _) _) hg1
  rw [show (w.alloc (.cells #[.int .i64 host, .int .i64 file, .int .i64 beg, .int .i64 fin, .slice la lines.length lc, .int .i64 time, .int .i64 weight, .string trace, .string stream, .slice fa fields.length fc] 35)).heap.size = w.heap.size + 1 by simp] at hC
  have e0 := hB.cell 0; have e1 := hB.cell 1; have e2 := hB.cell 2; have e3 := hB.cell 3; have e4 := hB.cell 4; have e5 := hB.cell 5; have e6 := hB.cell 6; have e7 := hB.cell 7; have e8 := hB.cell 8; have e9 := hB.cell 9
  have c0 := hC.cell 0; have c1 := hC.cell 1; have c2 := hC.cell 2
  have f0 := hC.frozen 0; have f1 := hC.frozen 1; have f2 := hC.frozen 2
  simp at e0 e1 e2 e3 e4 e5 e6 e7 e8 e9 c0 c1 c2
  have z0 := HB.out w1 G1.out
  have hbl1 : b < w1.heap.size := Nat.lt_of_lt_of_le hbl G1.out.size
  have CC := Lib.hid hC
  clear hg1 hB hC HN
  cases o with
  | none =>
    simp only [numV, numC]
    go_wp2_with fail
    have q0 := (set3_blk (x := .int .i64 0) (y := .bool false) (z := .slice none 0 0) CC.out).cell 0; have q1 := (set3_blk (x := .int .i64 0) (y := .bool false) (z := .slice none 0 0) CC.out).cell 1; have q2 := (set3_blk (x := .int .i64 0) (y := .bool false) (z := .slice none 0 0) CC.out).cell 2
    simp [set3] at q0 q1 q2
    exact bodyPost_ret (v := .agg #[.int .i64 0, .bool false, .slice none 0 0]) (by simp [results, Tryz.results89, go_sem, q0, q1, q2]) rfl ⟨⟨0, false, ⟨[], none, 0⟩⟩, rfl, rfl, StrR.nil_in, set3_grown G1.out (by omega)⟩
  | some n =>
    have EG2 := EG.out #[.int .i64 n, .agg #[.int .i64 host, .int .i64 file, .int .i64 beg, .int .i64 fin, .slice la lines.length lc, .int .i64 time, .int .i64 weight, .string trace, .string stream, .slice fa fields.length fc]] w1
    simp only [numV, numC]
    go_wp2_with fail
    refine (HG.out n w1).mono ?_
    rintro en w2 ⟨rfl, hg2⟩
    have hC2 := CC.out.grown hg2 (by simp)
    have G2 : Hid (w.grownBy w2 none) := only_trans G1.out hg2
    clear c0 c1 c2 f0 f1 f2 e0 e1 e2 e3 e4 e5 e6 e7 e8 e9 z0 EG2 CC hg2 hbl1 hbl
    have c0 := hC2.cell 0; have c1 := hC2.cell 1; have c2 := hC2.cell 2
    have f0 := hC2.frozen 0; have f1 := hC2.frozen 1; have f2 := hC2.frozen 2
    simp at c0 c1 c2
    have CC := Lib.hid hC2
    clear hC2
    go_wp2_with fail
    have q0 := (set3_blk (x := .int .i64 (hh n)) (y := .bool true) (z := .slice none 0 0) CC.out).cell 0; have q1 := (set3_blk (x := .int .i64 (hh n)) (y := .bool true) (z := .slice none 0 0) CC.out).cell 1; have q2 := (set3_blk (x := .int .i64 (hh n)) (y := .bool true) (z := .slice none 0 0) CC.out).cell 2
    simp [set3] at q0 q1 q2
    exact bodyPost_ret (v := .agg #[.int .i64 (hh n), .bool true, .slice none 0 0]) (by simp [results, Tryz.results89, go_sem, q0, q1, q2]) rfl ⟨⟨hh n, true, ⟨[], none, 0⟩⟩, rfl, rfl, StrR.nil_in, set3_grown G2.out (by omega)⟩
/-- what a group makes of a value -/
def valC : Option ByteArray → CD
  | none => ⟨0, true, []⟩
  | some s => ⟨1, true, [s]⟩
set_option maxHeartbeats 4000000 in
set_option maxRecDepth 100000 in
theorem dis_any {S : Nat → Prop} (fld : ByteArray) (e : Ev) (w : World) (hs : e.Sub S w) (hi : EvI e) (hn : fld.size ≤ maxLen) (ht : Pow10 w) :
    Calls Tryz.prog 73 #[.string fld, .agg e.cells.toArray] w (CellP w (valC (valOf e fld))) := by
  have HN : Hid (∀ w', w.grownBy w' none → Calls Tryz.prog 38 #[.agg e.cells.toArray, .string fld] w' (ValP w' (valOf e fld))) := fun w' hg => val_any e fld w' (hs.grown hg (by simp)) hi hn (ht.grown hg)
  clear hs hi hn ht
  obtain ⟨o, ho⟩ : ∃ o, o = valOf e fld := ⟨_, rfl⟩
  rw [← ho] at HN ⊢
  clear ho
  obtain ⟨host, file, beg, fin, lines, time, weight, trace, stream, fields, la, lc, fa, fc⟩ := e
  have hcl : (Ev.mk host file beg fin lines time weight trace stream fields la lc fa fc).cells.toArray = #[.int .i64 host, .int .i64 file, .int .i64 beg, .int .i64 fin, .slice la lines.length lc, .int .i64 time, .int .i64 weight, .string trace, .string stream, .slice fa fields.length fc] := rfl
  rw [hcl] at HN ⊢
  clear hcl
  go_enter Tryz.func73, Tryz.ntmps73
  go_wp2_with fail
  refine (HN.out _ (only_alloc (only_alloc (only_refl _ _) _) _)).mono ?_
  rintro en w1 ⟨rfl, hg1⟩
  have hC := (Blk.new (w.alloc (.cells #[.int .i64 host, .int .i64 file, .int .i64 beg, .int .i64 fin, .slice la lines.length lc, .int .i64 time, .int .i64 weight, .string trace, .string stream, .slice fa fields.length fc] 35)) 91 #[.int .i64 0, .bool false, .slice none 0 0]).grown hg1 (by simp)
  have G1 : Hid (w.grownBy w1 none) := only_trans (only_alloc (only_alloc (only_refl _ _) _) _) hg1
  have hz1 := hg1.size
  simp at hz1
  rw [show (w.alloc (.cells #[.int .i64 host, .int .i64 file, .int .i64 beg, .int .i64 fin, .slice la lines.length lc, .int .i64 time, .int .i64 weight, .string trace, .string stream, .slice fa fields.length fc] 35)).heap.size = w.heap.size + 1 by simp] at hC
  clear hg1 HN
  cases o with
  | none =>
    have c0 := hC.cell 0; have c1 := hC.cell 1; have c2 := hC.cell 2
    have f0 := hC.frozen 0; have f1 := hC.frozen 1; have f2 := hC.frozen 2
    simp at c0 c1 c2
    have CC := Lib.hid hC
    clear hC
    simp only [valV, valC]
    go_wp2_with fail
    have q0 := (set3_blk (x := .int .i64 0) (y := .bool true) (z := .slice none 0 0) CC.out).cell 0; have q1 := (set3_blk (x := .int .i64 0) (y := .bool true) (z := .slice none 0 0) CC.out).cell 1; have q2 := (set3_blk (x := .int .i64 0) (y := .bool true) (z := .slice none 0 0) CC.out).cell 2
    simp [set3] at q0 q1 q2
    exact bodyPost_ret (v := .agg #[.int .i64 0, .bool true, .slice none 0 0]) (by simp [results, Tryz.results73, go_sem, q0, q1, q2]) rfl ⟨⟨0, true, ⟨[], none, 0⟩⟩, rfl, rfl, StrR.nil_in, set3_grown G1.out (by omega)⟩
  | some s =>
    simp only [valV, valC]
    have hbs : w.heap.size + 1 ≠ w1.heap.size := by omega
    have hbs2 : w.heap.size + 1 < w1.heap.size := by omega
    have c0 := hC.cell 0; have c1 := hC.cell 1; have c2 := hC.cell 2
    have f0 := hC.frozen 0; have f1 := hC.frozen 1; have f2 := hC.frozen 2
    simp at c0 c1 c2
    have CC := Lib.hid hC
    clear hC
    go_wp2_with fail
    have hB9 := (set3_blk (x := .int .i64 1) (y := .bool true) (z := .slice (some ⟨w1.heap.size, 0, none⟩) 1 1) CC.out).alloc (.cells #[.string s] 9)
    have hBs := Blk.new (set3 w1 (w.heap.size + 1) (.int .i64 1) (.bool true) (.slice (some ⟨w1.heap.size, 0, none⟩) 1 1)) 9 #[.string s]
    rw [set3_size] at hBs
    have q0 := hB9.cell 0; have q1 := hB9.cell 1; have q2 := hB9.cell 2
    simp [set3] at q0 q1 q2
    exact bodyPost_ret (v := .agg #[.int .i64 1, .bool true, .slice (some ⟨w1.heap.size, 0, none⟩) 1 1]) (by simp [results, Tryz.results73, go_sem, q0, q1, q2]) rfl
      ⟨⟨1, true, ⟨[s], some ⟨w1.heap.size, 0, none⟩, 1⟩⟩, rfl, rfl, strR_of (rd_lit1 hBs (by show w.heap.size ≤ w1.heap.size; omega)) (Nat.le_refl _) (by unfold maxLen; omega), only_alloc (set3_grown G1.out (by omega)) _⟩
set_option maxHeartbeats 4000000 in
set_option maxRecDepth 100000 in
theorem chosen_any {S : Nat → Prop} (g : FuncId) (ff : Int → Int → Int) (x y : CM) (b : Nat) (w : World) (eg : ∀ (args : Array Value) (w : World), (callFunc g args).run Tryz.prog w = .ok (.enter g args) w)
    (hg : ∀ p q w', Calls Tryz.prog g #[.int .i64 p, .int .i64 q] w' (IntG (ff p q) w')) (hb : w.cell? ⟨b, 0, none⟩ = some (.func (.func g) #[] #[])) (hx : x.v.In S w) (hy : y.v.In S w) :
    Calls Tryz.prog 88 #[.agg x.cells.toArray, .agg y.cells.toArray, .pointer (some ⟨b, 0, none⟩)] w (CellS S w (chosenC ff x.pl y.pl)) := by
  have hbl : b < w.heap.size := World.block_lt_of_cell? w _ hb
  have HG := Lib.hid hg
  have HX := Lib.hid hx
  have HY := Lib.hid hy
  have hbn1 : b ≠ w.heap.size := by omega
  have hbn2 : b ≠ w.heap.size + 1 := by omega
  have hbn3 : b ≠ w.heap.size + 1 + 1 := by omega
  obtain ⟨xt, xs, xl, xa, xc⟩ := x
  obtain ⟨yt, ys, yl, ya, yc⟩ := y
  show Calls _ _ #[.agg #[.int .i64 xt, .bool xs, .slice xa xl.length xc], .agg #[.int .i64 yt, .bool ys, .slice ya yl.length yc], _] w _
  clear hg hx hy
  cases xs with
  | false =>
    have HV : Hid (chosenC ff (CM.mk xt false ⟨xl, xa, xc⟩).pl (CM.mk yt ys ⟨yl, ya, yc⟩).pl = ⟨yt, ys, yl⟩) := Lib.hid (by simp [chosenC, CM.pl])
    rw [HV.out]
    go_enter Tryz.func88, Tryz.ntmps88
    go_wp2_with fail
    exact bodyPost_ret (v := .agg #[.int .i64 yt, .bool ys, .slice ya yl.length yc]) (by simp [results, Tryz.results88, go_sem]) rfl ⟨⟨yt, ys, ⟨yl, ya, yc⟩⟩, rfl, rfl, HY.out.grown (only_alloc (only_alloc (only_alloc (only_refl w none) _) _) _) (by simp), only_alloc (only_alloc (only_alloc (only_refl _ _) _) _) _⟩
  | true =>
    cases ys with
    | false =>
      have HV : Hid (chosenC ff (CM.mk xt true ⟨xl, xa, xc⟩).pl (CM.mk yt false ⟨yl, ya, yc⟩).pl = ⟨xt, true, xl⟩) := Lib.hid (by simp [chosenC, CM.pl])
      rw [HV.out]
      go_enter Tryz.func88, Tryz.ntmps88
      go_wp2_with fail
      exact bodyPost_ret (v := .agg #[.int .i64 xt, .bool true, .slice xa xl.length xc]) (by simp [results, Tryz.results88, go_sem]) rfl ⟨⟨xt, true, ⟨xl, xa, xc⟩⟩, rfl, rfl, HX.out.grown (only_alloc (only_alloc (only_alloc (only_refl w none) _) _) _) (by simp), only_alloc (only_alloc (only_alloc (only_refl _ _) _) _) _⟩
    | true =>
      have HV : Hid (chosenC ff (CM.mk xt true ⟨xl, xa, xc⟩).pl (CM.mk yt true ⟨yl, ya, yc⟩).pl = ⟨ff xt yt, true, []⟩) := Lib.hid (by simp [chosenC, CM.pl])
      rw [HV.out]
      have EG2 := fun w' => eg #[.int .i64 xt, .int .i64 yt] w'
      go_enter Tryz.func88, Tryz.ntmps88
      go_upto_region 5 with fail
      obtain ⟨W, hW⟩ : ∃ W, W = ((w.alloc (.cells #[.int .i64 xt, .bool true, .slice xa xl.length xc] 91)).alloc (.cells #[.int .i64 yt, .bool true, .slice ya yl.length yc] 91)).alloc (.cells #[.int .i64 0, .bool false, .slice none 0 0] 91) := ⟨_, rfl⟩
      have hX : Blk W w.heap.size 91 #[.int .i64 xt, .bool true, .slice xa xl.length xc] := by rw [hW]; exact ((Blk.new w _ _).alloc _).alloc _
      have hY : Blk W (w.heap.size + 1) 91 #[.int .i64 yt, .bool true, .slice ya yl.length yc] := by
        rw [hW]
        have := (Blk.new (w.alloc (.cells #[.int .i64 xt, .bool true, .slice xa xl.length xc] 91)) 91 #[.int .i64 yt, .bool true, .slice ya yl.length yc]).alloc (.cells #[.int .i64 0, .bool false, .slice none 0 0] 91)
        simpa using this
      have hC : Blk W (w.heap.size + 1 + 1) 91 #[.int .i64 0, .bool false, .slice none 0 0] := by
        rw [hW]
        have := Blk.new ((w.alloc (.cells #[.int .i64 xt, .bool true, .slice xa xl.length xc] 91)).alloc (.cells #[.int .i64 yt, .bool true, .slice ya yl.length yc] 91)) 91 #[.int .i64 0, .bool false, .slice none 0 0]
        simpa using this
      have hGW : w.grownBy W none := by rw [hW]; exact only_alloc (only_alloc (only_alloc (only_refl w none) _) _) _
      have z0 : W.cell? ⟨b, 0, none⟩ = some (.func (.func g) #[] #[]) := (World.cell?_of_block (a := ⟨b, 0, none⟩) (hGW.block b hbl (by simp))).trans hb
      have GW := Lib.hid hGW
      have CC := Lib.hid hC
      rw [← hW]
      have x0 := hX.cell 0; have x1 := hX.cell 1; have x2 := hX.cell 2
      have y0 := hY.cell 0; have y1 := hY.cell 1; have y2 := hY.cell 2
      simp at x0 x1 x2 y0 y1 y2
      clear hW hGW hX hY hC hbn1 hbn2 hbn3 hb
      go_wp2_with fail
      refine (HG.out xt yt _).mono ?_
      rintro en w2 ⟨rfl, hg2⟩
      have hC2 := CC.out.grown hg2 (by simp)
      have G2 : Hid (w.grownBy w2 none) := only_trans GW.out hg2
      clear x0 x1 x2 y0 y1 y2 z0 CC hg2
      have c0 := hC2.cell 0; have c1 := hC2.cell 1; have c2 := hC2.cell 2
      have f0 := hC2.frozen 0; have f1 := hC2.frozen 1; have f2 := hC2.frozen 2
      simp at c0 c1 c2
      have CC := Lib.hid hC2
      clear hC2
      go_wp2_with fail
      have q0 := (set3_blk (x := .int .i64 (ff xt yt)) (y := .bool true) (z := .slice none 0 0) CC.out).cell 0; have q1 := (set3_blk (x := .int .i64 (ff xt yt)) (y := .bool true) (z := .slice none 0 0) CC.out).cell 1; have q2 := (set3_blk (x := .int .i64 (ff xt yt)) (y := .bool true) (z := .slice none 0 0) CC.out).cell 2
      simp [set3] at q0 q1 q2
      exact bodyPost_ret (v := .agg #[.int .i64 (ff xt yt), .bool true, .slice none 0 0]) (by simp [results, Tryz.results88, go_sem, q0, q1, q2]) rfl ⟨⟨ff xt yt, true, ⟨[], none, 0⟩⟩, rfl, rfl, StrR.nil_in, set3_grown G2.out (by omega)⟩
end Go.Proofs.YtfkgcighooijhaaGreatDoor

namespace Go.Proofs.YtfkgcighooijhaaGreatDoor
open Go.RowKit
set_option linter.unusedVariables false
set_option linter.unusedSimpArgs false

set_option maxHeartbeats 4000000 in
set_option maxRecDepth 100000 in
theorem puni_any {S : Nat → Prop} (x y : CM) (w : World) (hx : x.v.In S w) (hy : y.v.In S w) (hlx : x.v.l.length ≤ 100000) (hly : y.v.l.length ≤ 100000) :
    Calls Tryz.prog 74 #[.agg x.cells.toArray, .agg y.cells.toArray] w (CellP w (uniC x.pl y.pl)) := by
  have HX := Lib.hid hx
  have HY := Lib.hid hy
  obtain ⟨xt, xs, xl, xa, xc⟩ := x
  obtain ⟨yt, ys, yl, ya, yc⟩ := y
  show Calls _ _ #[.agg #[.int .i64 xt, .bool xs, .slice xa xl.length xc], .agg #[.int .i64 yt, .bool ys, .slice ya yl.length yc]] w (CellP w ⟨(dist (xl ++ yl)).length, true, dist (xl ++ yl)⟩)
  clear hx hy
  simp only at hlx hly HX HY
  have hzl : (xl ++ yl).length ≤ 200000 := by rw [List.length_append]; omega
  obtain ⟨zl, hzl0⟩ : ∃ zl, zl = xl ++ yl := ⟨_, rfl⟩
  have HZ := Lib.hid hzl0
  rw [← hzl0] at hzl ⊢
  clear hzl0
  go_enter Tryz.func74, Tryz.ntmps74
  go_upto_region 1 with fail
  obtain ⟨W, hW⟩ : ∃ W, W = ((w.alloc (.cells #[.int .i64 xt, .bool xs, .slice xa xl.length xc] 91)).alloc (.cells #[.int .i64 yt, .bool ys, .slice ya yl.length yc] 91)).alloc (.cells #[.int .i64 0, .bool false, .slice none 0 0] 91) := ⟨_, rfl⟩
  have hX : Blk W w.heap.size 91 #[.int .i64 xt, .bool xs, .slice xa xl.length xc] := by rw [hW]; exact ((Blk.new w _ _).alloc _).alloc _
  have hY : Blk W (w.heap.size + 1) 91 #[.int .i64 yt, .bool ys, .slice ya yl.length yc] := by
    rw [hW]
    have := (Blk.new (w.alloc (.cells #[.int .i64 xt, .bool xs, .slice xa xl.length xc] 91)) 91 #[.int .i64 yt, .bool ys, .slice ya yl.length yc]).alloc (.cells #[.int .i64 0, .bool false, .slice none 0 0] 91)
    simpa using this
  have hC : Blk W (w.heap.size + 1 + 1) 91 #[.int .i64 0, .bool false, .slice none 0 0] := by
    rw [hW]
    have := Blk.new ((w.alloc (.cells #[.int .i64 xt, .bool xs, .slice xa xl.length xc] 91)).alloc (.cells #[.int .i64 yt, .bool ys, .slice ya yl.length yc] 91)) 91 #[.int .i64 0, .bool false, .slice none 0 0]
    simpa using this
  have hGW : w.grownBy W none := by rw [hW]; exact only_alloc (only_alloc (only_alloc (only_refl w none) _) _) _
  have GW := Lib.hid hGW
  have CC := Lib.hid hC
  rw [← hW]
  have x2 := hX.cell 2
  have y2 := hY.cell 2
  simp at x2 y2
  have KC : Hid (∀ (vb : Nat) (w' : World), W.grownBy w' none → Blk w' vb 24 #[.slice xa xl.length xc, .slice ya yl.length yc] → Calls Tryz.prog 91 #[.slice (some ⟨vb, 0, none⟩) 2 2] w' (CatStPost w' (xl ++ yl).length ((xl ++ yl).map .string))) := Lib.hid (fun vb w' hg hB => by
    have h0 := concatSt_any (S := S) vb [⟨xa, xl.length, xl.map .string, xc⟩, ⟨ya, yl.length, yl.map .string, yc⟩] w' hB (by
      intro r hr
      simp only [List.mem_cons, List.not_mem_nil, or_false] at hr
      rcases hr with rfl | rfl
      · exact (HX.out.1.grown GW.out (by simp)).grown hg (by simp)
      · exact (HY.out.1.grown GW.out (by simp)).grown hg (by simp)) (by
      intro r hr
      simp only [List.mem_cons, List.not_mem_nil, or_false] at hr
      rcases hr with rfl | rfl <;> simp) (by
      intro r hr u hu
      simp only [List.mem_cons, List.not_mem_nil, or_false] at hr
      rcases hr with rfl | rfl <;> (obtain ⟨s, -, rfl⟩ := List.mem_map.1 hu; rfl)) (by simp) (by
      intro r hr
      simp only [List.mem_cons, List.not_mem_nil, or_false] at hr
      rcases hr with rfl | rfl
      · exact hlx
      · exact hly)
    have e1 : numSt [⟨xa, xl.length, xl.map .string, xc⟩, ⟨ya, yl.length, yl.map .string, yc⟩] = (xl ++ yl).length := by simp [numSt]
    have e2 : catSt [⟨xa, xl.length, xl.map .string, xc⟩, ⟨ya, yl.length, yl.map .string, yc⟩] = (xl ++ yl).map .string := by simp [catSt]
    rw [e1, e2] at h0
    exact h0)
  rw [← HZ.out] at KC
  have hWz : w.heap.size + 1 + 1 < W.heap.size := hC.lt
  clear hW hGW hX hY hC HX HY
  have KK := KC.out W.heap.size (W.alloc (.cells #[.slice xa xl.length xc, .slice ya yl.length yc] 24)) (only_alloc (only_refl _ _) _) (Blk.new _ _ _)
  have K1 := Lib.hid KK
  clear KK KC
  go_wp2_with fail
  refine K1.out.mono ?_
  rintro e w1 ⟨v1, rfl, ho1, hg1⟩
  have G1 := Lib.hid (only_trans GW.out (only_trans (only_alloc (only_refl W none) _) hg1))
  have C1 := Lib.hid ((CC.out.alloc (.cells #[.slice xa xl.length xc, .slice ya yl.length yc] 24)).grown hg1 (by simp))
  have hz1 : W.heap.size + 1 ≤ w1.heap.size := by simpa using hg1.size
  have O1 := Lib.hid ho1
  clear ho1 hg1 x2 y2 CC GW K1
  go_wp2_with fail
  refine (sort_ownS _ v1 zl w1 O1.out (by omega)).mono ?_
  rintro e w3 ⟨rfl, ho3, hg3⟩
  have G3 : Hid (w.grownBy w3 none) := Lib.hid (only_own G1.out hg3 O1.out (by simp; omega))
  have hne1 : v1.ownBlock ≠ some (w.heap.size + 1 + 1) := by
    intro e
    have := (O1.out.lt _ e).1
    simp at this
    omega
  have C3 : Hid (Blk w3 (w.heap.size + 1 + 1) 91 #[.int .i64 0, .bool false, .slice none 0 0]) := Lib.hid (C1.out.grown hg3 (fun e => hne1 e.symm))
  have O3 := Lib.hid ho3
  have hz3 := hg3.size
  have hsl : (sorted (zl.map ofB)).length ≤ 200000 := by rw [sorted_len, List.length_map]; exact hzl
  have HN := Lib.hid hne1
  clear ho3 hg3 O1 C1 G1 hne1
  go_wp2_with fail
  refine (comp_ownS _ v1 (sorted (zl.map ofB)) w3 O3.out (by omega)).mono ?_
  rintro e w4 ⟨A4, c4, rfl, hc4, hm4, hr4, hg4⟩
  have G4 : Hid (w.grownBy w4 none) := Lib.hid (only_own G3.out hg4 O3.out (by simp; omega))
  have hB4 : Blk w4 (w.heap.size + 1 + 1) 91 #[.int .i64 0, .bool false, .slice none 0 0] := C3.out.grown hg4 (fun e => HN.out e.symm)
  have hR4 : Rd (w.heap.size + 1 + 1 < ·) w4 A4 ((dist zl).map .string) := by
    have h := hr4.mono (S' := (w.heap.size + 1 + 1 < ·)) (fun b hb _ => by have hq := hb; simp at hq; show w.heap.size + 1 + 1 < b; omega)
    unfold dist
    rw [List.map_map]
    exact h
  have hdl : (dist zl).length = (Lib.compact (sorted (zl.map ofB))).length := by unfold dist; rw [List.length_map]
  rw [← hdl] at hc4 ⊢
  have R4 := Lib.hid hr4
  have RR := Lib.hid hR4
  have HC4 := Lib.hid hc4
  have HM4 := Lib.hid hm4
  have c0 := hB4.cell 0; have c1 := hB4.cell 1; have c2 := hB4.cell 2
  have f0 := hB4.frozen 0; have f1 := hB4.frozen 1; have f2 := hB4.frozen 2
  simp at c0 c1 c2
  have CC := Lib.hid hB4
  clear hr4 hR4 hg4 hB4 hc4 hm4 hdl O3 C3 G3 HN R4
  go_wp2_with fail
  have q0 := (set3_blk (x := .int .i64 (dist zl).length) (y := .bool true) (z := .slice A4 (dist zl).length c4) CC.out).cell 0; have q1 := (set3_blk (x := .int .i64 (dist zl).length) (y := .bool true) (z := .slice A4 (dist zl).length c4) CC.out).cell 1; have q2 := (set3_blk (x := .int .i64 (dist zl).length) (y := .bool true) (z := .slice A4 (dist zl).length c4) CC.out).cell 2
  simp [set3] at q0 q1 q2
  exact bodyPost_ret (v := .agg #[.int .i64 (dist zl).length, .bool true, .slice A4 (dist zl).length c4]) (by simp [results, Tryz.results74, go_sem, q0, q1, q2]) rfl
    ⟨⟨(dist zl).length, true, ⟨dist zl, A4, c4⟩⟩, rfl, rfl, strR_of ((RR.out.grown set3_only (by intro b hb e; have hq : w.heap.size + 1 + 1 < b := hb; injection e; omega)).mono (fun b hb _ => by have hq : w.heap.size + 1 + 1 < b := hb; show w.heap.size ≤ b; omega)) HC4.out HM4.out, set3_grown G4.out (by omega)⟩
end Go.Proofs.YtfkgcighooijhaaGreatDoor

namespace Go.Proofs.YtfkgcighooijhaaGreatDoor
open Go.RowKit
set_option linter.unusedVariables false
set_option linter.unusedSimpArgs false

def CloneSPost (w : World) (n : Nat) (xs : List Value) (e : Ending) (w' : World) : Prop := ∃ A' c', e = .returned (.slice A' n c') ∧ w'.ownsRow w.heap.size 9 1 (.slice A' n c') n xs ∧ w.grownBy w' none
set_option maxHeartbeats 1000000 in
set_option maxRecDepth 100000 in
theorem cloneS_any {S : Nat → Prop} (A : Option Addr) (n c : Nat) (xs : List Value) (w : World) (hr : Rd S w A xs) (hn : xs.length = n * 1) (hl : n ≤ 1000000) (h1 : ∀ u ∈ xs, u.oneCell' = true) (hA : A = none → n = 0) :
    Calls Tryz.prog 35 #[.slice A n c] w (CloneSPost w n xs) := by
  have q22 : ∀ (w : World) (a : Option Addr) (n c n' c' : Nat), (binOp .eql 24 (.slice a n c) (.slice none n' c')).run Tryz.prog w = .ok (.bool a.isNone) w := fun w a n c n' c' => Lib.run_eql_slice_nil w _ _ a n c n' c' Tryz.underlying24
  have H1 := Lib.hid h1
  have HR := Lib.hid hr
  clear h1 hr
  cases A with
  | none =>
    obtain rfl := hA rfl
    obtain rfl : xs = [] := List.eq_nil_of_length_eq_zero (by omega)
    clear hA
    go_enter Tryz.func35, Tryz.ntmps35
    go_wp2_with fail
    go_ret
    exact ⟨none, 0, rfl, World.ownsRow_nil _ _ _ _, only_refl _ _⟩
  | some a =>
    clear hA
    go_enter Tryz.func35, Tryz.ntmps35
    go_wp2_with (at_builtin; refine wpList_appendN rfl _ _ 24 rfl w.heap.size Tryz.underlying24 strInfo rfl (by decide) (v := .slice (some ⟨w.heap.size, 0, none⟩) 0 0) (by rfl) (World.ownsRow_made w #[] 0 (Nat.le_refl _) (Nat.zero_le _) (by simp)) (some a) n c (news := xs) (by rfl) (HR.out.alloc _) hn H1.out (by decide) (by omega) (by simp) ?_; intro v3 w3 hown3 hg3 hob3)
    have O3 : Hid (w3.ownsRow w.heap.size 9 1 v3 n xs) := Lib.hid (by simpa using hown3)
    have G3 : Hid (w.grownBy w3 none) := Lib.hid (only_fresh (only_alloc (only_refl _ _) _) (by simpa [Value.ownBlock] using hg3) (Nat.le_refl _))
    clear hown3 hg3 hob3
    obtain ⟨A3, c3, rfl, -, -, -, -⟩ := Rd.of_own O3.out (by decide)
    go_wp2_with fail
    go_ret
    exact ⟨A3, c3, rfl, O3.out, G3.out⟩
end Go.Proofs.YtfkgcighooijhaaGreatDoor
