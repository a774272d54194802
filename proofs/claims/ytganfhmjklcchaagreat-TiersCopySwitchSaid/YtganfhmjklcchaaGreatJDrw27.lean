/- XDrw27: what this seat has of them (joined by partseat.py). Conditions: as there. -/
import Derived.Test.YtganfhmjklcchaaGreatJChkC
import Derived.Test.YtganfhmjklcchaaGreatJCln33
import Derived.Test.YtganfhmjklcchaaGreatJPln33
import Derived.Deep.RegionLaw
namespace Go.Proofs.YtganfhmjklcchaaGreat
open Go.RowKit
set_option linter.unusedVariables false
set_option linter.unusedSimpArgs false

theorem lowTab : ∀ s ∈ nameTab, LowName s ∧ s.size ≤ 20 := by
  intro s hs
  simp only [nameTab, List.mem_cons, List.not_mem_nil, or_false] at hs
  rcases hs with rfl | rfl | rfl | rfl <;> exact ⟨⟨by decide, by decide, by decide⟩, by decide⟩
theorem nameTab_srt : Srt nameTab := by
  simp [Srt, nameTab, sl, ByteArray.toList_eq, Op.bytesLess]
theorem EvGood.e {e : Ev} (h : EvGood e) : EvE e := by
  obtain ⟨⟨t0, t1, hw, htr, hst, hf⟩, hc, hl1, hl3, hh1, hh2, hf5, hf7, hb0, hb1⟩ := h
  have hle := hc.le
  have ht := chain_text hc
  have hsub : (e.fields.map FieldD.name).Sublist nameTab := by have := hf.1; rwa [show nameTab.take 4 = nameTab from rfl] at this
  have hnm : ∀ f ∈ e.fields, LowName f.name ∧ f.name.size ≤ 20 := fun f hf' => lowTab _ (hsub.subset (List.mem_map_of_mem (f := FieldD.name) hf'))
  have hfl : e.fields.length ≤ 4 := by have := hsub.length_le; simp [nameTab] at this; omega
  refine ⟨⟨hl3, ht, ?_, hfl, fun f hf' => ⟨(hnm f hf').2, hf.2 f hf'⟩, htr, hst⟩, ⟨by omega, by omega, by omega, by omega, hb0, by omega, by omega, t0, t1, hw, hl1, by omega, hc, by omega, by omega, by omega, fun f hf' => (hnm f hf').1, nameTab_srt.sublist hsub, fun f hf' => by have := hf.2 f hf'; omega⟩⟩
  have := textOf_le ht
  have : e.lines.length * (59 + 1) ≤ 3 * 60 := Nat.mul_le_mul hl3 (by omega)
  omega
def DrawP27 (m : Nat) (w : World) (e : Ending) (w' : World) : Prop :=
  ∃ (A : Option Addr) (c : Nat) (es : List Ev) (B : Option Addr) (d g : Nat) (l : List Int) (k : Nat), e = .returned (.tuple #[.slice A es.length c, .slice B (encX es).length d, .pointer (some ⟨g, 0, none⟩)]) ∧ es.length ≤ m ∧ es.length ≤ c ∧ c ≤ maxLen ∧ Evs (g < ·) w' A es ∧ SrtE es ∧ (∀ e ∈ es, EvE e) ∧
    (encX es).length ≤ d ∧ d ≤ maxLen ∧ w'.ownsRow (g + 1) 5 1 (.slice B (encX es).length d) (encX es).length ((encX es).map (.int .u8)) ∧ (∀ b, Value.ownBlock (.slice B (encX es).length d) = some b → ∀ b', b = b' → g < b') ∧ CodesAt w' g l k ∧ w.heap.size ≤ g ∧ w.grownBy w' none
end Go.Proofs.YtganfhmjklcchaaGreat

namespace Go.Proofs.YtganfhmjklcchaaGreat
open Go.RowKit
set_option linter.unusedVariables false
set_option linter.unusedSimpArgs false

set_option maxHeartbeats 400000 in
theorem samemarks_nil (w : World) : Calls Tryz.prog 62 #[.slice none 0 0, .slice none 0 0] w (Quiet (.bool true) w) := by
  go_enter Tryz.func62, Tryz.ntmps62
  go_wp2
  go_loopw [5] (fun i wr => i = .int .i64 0 ∧ ∃ q, wr = w.drewN q) (fun i _ => 0)
  case atStart => exact ⟨rfl, 0, rfl⟩
  case round =>
    obtain ⟨rfl, q, rfl⟩ := hrel
    go_wp2
    go_ret
    exact ⟨rfl, _, rfl⟩
set_option maxHeartbeats 400000 in
theorem sametals_nil (w : World) : Calls Tryz.prog 42 #[.slice none 0 0, .slice none 0 0] w (Quiet (.bool true) w) := by
  go_enter Tryz.func42, Tryz.ntmps42
  go_wp2
  go_loopw [5] (fun i wr => i = .int .i64 0 ∧ ∃ q, wr = w.drewN q) (fun i _ => 0)
  case atStart => exact ⟨rfl, 0, rfl⟩
  case round =>
    obtain ⟨rfl, q, rfl⟩ := hrel
    go_wp2
    go_ret
    exact ⟨rfl, _, rfl⟩
set_option maxHeartbeats 800000 in
theorem same28_nil (w : World) : Calls Tryz.prog 41 #[.agg #[.slice none 0 0, .slice none 0 0], .agg #[.slice none 0 0, .slice none 0 0]] w (BoolExtC true w) := by
  obtain ⟨W1, hW1⟩ : ∃ W, W = (w.alloc (.cells #[.slice none 0 0, .slice none 0 0] 29)).alloc (.cells #[.slice none 0 0, .slice none 0 0] 29) := ⟨_, rfl⟩
  obtain ⟨xb, hxb⟩ : ∃ b, b = w.heap.size := ⟨_, rfl⟩
  obtain ⟨yb, hyb⟩ : ∃ b, b = w.heap.size + 1 := ⟨_, rfl⟩
  have G1 : Hid (w.grownBy W1 none) := Lib.hid (by rw [hW1]; exact only_alloc (only_alloc (only_refl _ _) _) _)
  have X1 : Hid (Blk W1 xb 29 #[.slice none 0 0, .slice none 0 0]) := Lib.hid (by rw [hW1, hxb]; exact (Blk.new w _ _).alloc _)
  have Y1 : Hid (Blk W1 yb 29 #[.slice none 0 0, .slice none 0 0]) := Lib.hid (by rw [hW1, hyb]; have := Blk.new (w.alloc (.cells #[.slice none 0 0, .slice none 0 0] 29)) 29 #[.slice none 0 0, .slice none 0 0]; simpa using this)
  have HW := Lib.hid hW1.symm
  have HX := Lib.hid hxb
  have HY := Lib.hid hyb
  have x0 := X1.out.cell 0; have x1 := X1.out.cell 1; have y0 := Y1.out.cell 0; have y1 := Y1.out.cell 1
  simp at x0 x1 y0 y1
  clear hW1 hxb hyb
  go_enter Tryz.func41, Tryz.ntmps41
  go_upto_region 1 with fail
  rw [HW.out, ← HY.out, ← HX.out]
  clear HW
  go_wp2_with fail
  refine (samemarks_nil W1).mono ?_
  rintro e w2 ⟨rfl, q2, rfl⟩
  go_wp2_with fail
  refine (sametals_nil _).mono ?_
  rintro e w3 ⟨rfl, q3, rfl⟩
  go_wp2_with fail
  go_ret
  exact ⟨rfl, only_drewN G1.out _⟩
set_option maxHeartbeats 4000000 in
set_option maxRecDepth 100000 in
theorem rsame30_true {S S2 : Nat → Prop} (num nid jn : Int) (A B : Option Addr) (ss : List SegD) (c d : Nat) (w : World) (hr : Rd S w A (ss.flatMap SegD.cells)) (hr2 : Rd S2 w B (ss.flatMap SegD.cells)) (hl : ss.length ≤ 100000) :
    Calls Tryz.prog 20 #[.agg #[.int .i64 num, .int .i64 nid, .int .i64 jn, .slice A ss.length c, .slice none 0 0, .slice none 0 0, .slice none 0 0], .agg #[.int .i64 num, .int .i64 nid, .int .i64 jn, .slice B ss.length d, .slice none 0 0, .slice none 0 0, .slice none 0 0]] w (BoolExtC true w) := by
  obtain ⟨W1, hW1⟩ : ∃ W, W = (w.alloc (.cells #[.int .i64 num, .int .i64 nid, .int .i64 jn, .slice A ss.length c, .slice none 0 0, .slice none 0 0, .slice none 0 0] 31)).alloc (.cells #[.int .i64 num, .int .i64 nid, .int .i64 jn, .slice B ss.length d, .slice none 0 0, .slice none 0 0, .slice none 0 0] 31) := ⟨_, rfl⟩
  obtain ⟨xb, hxb⟩ : ∃ b, b = w.heap.size := ⟨_, rfl⟩
  obtain ⟨yb, hyb⟩ : ∃ b, b = w.heap.size + 1 := ⟨_, rfl⟩
  have G1 : Hid (w.grownBy W1 none) := Lib.hid (by rw [hW1]; exact only_alloc (only_alloc (only_refl _ _) _) _)
  have X1 : Hid (Blk W1 xb 31 #[.int .i64 num, .int .i64 nid, .int .i64 jn, .slice A ss.length c, .slice none 0 0, .slice none 0 0, .slice none 0 0]) := Lib.hid (by rw [hW1, hxb]; exact (Blk.new w _ _).alloc _)
  have Y1 : Hid (Blk W1 yb 31 #[.int .i64 num, .int .i64 nid, .int .i64 jn, .slice B ss.length d, .slice none 0 0, .slice none 0 0, .slice none 0 0]) := Lib.hid (by rw [hW1, hyb]; have := Blk.new (w.alloc (.cells #[.int .i64 num, .int .i64 nid, .int .i64 jn, .slice A ss.length c, .slice none 0 0, .slice none 0 0, .slice none 0 0] 31)) 31 #[.int .i64 num, .int .i64 nid, .int .i64 jn, .slice B ss.length d, .slice none 0 0, .slice none 0 0, .slice none 0 0]; simpa using this)
  have HA := Lib.hid (hr.grown G1.out (by simp))
  have HB := Lib.hid (hr2.grown G1.out (by simp))
  have HW := Lib.hid hW1.symm
  have HX := Lib.hid hxb
  have HY := Lib.hid hyb
  have x0 := X1.out.cell 0; have y0 := Y1.out.cell 0; have x1 := X1.out.cell 1; have y1 := Y1.out.cell 1; have x2 := X1.out.cell 2; have y2 := Y1.out.cell 2; have x3 := X1.out.cell 3; have y3 := Y1.out.cell 3; have x4 := X1.out.cell 4; have y4 := Y1.out.cell 4; have x5 := X1.out.cell 5; have y5 := Y1.out.cell 5; have x6 := X1.out.cell 6; have y6 := Y1.out.cell 6
  simp at x0 y0 x1 y1 x2 y2 x3 y3 x4 y4 x5 y5 x6 y6
  clear hW1 hxb hyb hr hr2
  go_enter Tryz.func20, Tryz.ntmps20
  go_upto_region 1 with fail
  rw [HW.out, ← HY.out, ← HX.out]
  clear HW
  go_wp2_with fail
  refine (same28_nil W1).mono ?_
  rintro e w2 ⟨rfl, hg2⟩
  have X2 := X1.out.grown hg2 (by simp)
  have Y2 := Y1.out.grown hg2 (by simp)
  have G2 := Lib.hid hg2
  clear hg2
  clear x0 y0; clear x1 y1; clear x2 y2; clear x3 y3; clear x4 y4; clear x5 y5; clear x6 y6
  have x0 := X2.cell 0; have y0 := Y2.cell 0; have x1 := X2.cell 1; have y1 := Y2.cell 1; have x2 := X2.cell 2; have y2 := Y2.cell 2; have x3 := X2.cell 3; have y3 := Y2.cell 3; have x4 := X2.cell 4; have y4 := Y2.cell 4; have x5 := X2.cell 5; have y5 := Y2.cell 5; have x6 := X2.cell 6; have y6 := Y2.cell 6
  simp at x0 y0 x1 y1 x2 y2 x3 y3 x4 y4 x5 y5 x6 y6
  clear X2 Y2
  go_wp2_with fail
  refine (sametals_nil w2).mono ?_
  rintro e w3 ⟨rfl, q3, rfl⟩
  clear x0 y0; clear x1 y1; clear x2 y2; clear x3 y3; clear x4 y4; clear x5 y5; clear x6 y6
  go_wp2_with fail
  go_loopw [5] (fun i wr => ∃ k : Nat, k ≤ ss.length ∧ i = .int .i64 k ∧ W1.grownBy wr none) (fun i _ => ss.length - (intOf i).toNat)
  case atStart => exact ⟨0, Nat.zero_le _, rfl, only_drewN G2.out _⟩
  case round =>
    obtain ⟨k, hk, rfl, hG⟩ := hrel
    have G := Lib.hid hG
    have x3 := (X1.out.grown hG (by simp)).cell 3
    have y3 := (Y1.out.grown hG (by simp)).cell 3
    simp at x3 y3
    by_cases hlt : k < ss.length
    · obtain ⟨s, hs⟩ : ∃ s, ss[k]? = some s := ⟨_, List.getElem?_eq_getElem hlt⟩
      obtain ⟨b1, o1, rfl, -, -, -⟩ := HA.out (by rw [flat_len _ 7 SegD.cells_len]; omega)
      obtain ⟨b2, o2, rfl, -, -, -⟩ := HB.out (by rw [flat_len _ 7 SegD.cells_len]; omega)
      have h1 := HA.out.grown hG (by simp)
      have h2 := HB.out.grown hG (by simp)
      have d0 := h1.flatAt SegD.cells_len hs 0 (by omega); have e0 := h2.flatAt SegD.cells_len hs 0 (by omega); have d1 := h1.flatAt SegD.cells_len hs 1 (by omega); have e1 := h2.flatAt SegD.cells_len hs 1 (by omega); have d2 := h1.flatAt SegD.cells_len hs 2 (by omega); have e2 := h2.flatAt SegD.cells_len hs 2 (by omega); have d3 := h1.flatAt SegD.cells_len hs 3 (by omega); have e3 := h2.flatAt SegD.cells_len hs 3 (by omega); have d4 := h1.flatAt SegD.cells_len hs 4 (by omega); have e4 := h2.flatAt SegD.cells_len hs 4 (by omega); have d5 := h1.flatAt SegD.cells_len hs 5 (by omega); have e5 := h2.flatAt SegD.cells_len hs 5 (by omega); have d6 := h1.flatAt SegD.cells_len hs 6 (by omega); have e6 := h2.flatAt SegD.cells_len hs 6 (by omega)
      simp [SegD.cells] at d0 e0 d1 e1 d2 e2 d3 e3 d4 e4 d5 e5 d6 e6
      have i1 : (k : Int) < (ss.length : Int) := by omega
      have i0 : (0 : Int) ≤ (k : Int) := by omega
      clear hs hG h1 h2
      go_wp2_with fail
      go_quiet (fail)
      have GN := Lib.hid (only_drewN G.out nq)
      clear d0 e0; clear d1 e1; clear d2 e2; clear d3 e3; clear d4 e4; clear d5 e5; clear d6 e6
      clear x3 y3
      go_wp2_with fail
      go_roundw
      case rel => exact ⟨k + 1, by omega, by go_num, GN.out⟩
      case measure => simp [intOf]; omega
    · have i1 : ¬ ((k : Int) < (ss.length : Int)) := by omega
      clear hG
      go_wp2_with fail
      go_ret
      exact ⟨rfl, only_trans G1.out G.out⟩
end Go.Proofs.YtganfhmjklcchaaGreat

namespace Go.Proofs.YtganfhmjklcchaaGreat
open Go.RowKit
set_option linter.unusedVariables false
set_option linter.unusedSimpArgs false

theorem less_time {a b : Ev} (h : a.less b = true) : a.time ≤ b.time := by
  unfold Ev.less at h
  split at h
  · simp at h; omega
  · omega
theorem srt_time {es : List Ev} (h : SrtE es) {m : Nat} {x y : Ev} (hx : es[0]? = some x) (hy : es[m]? = some y) : x.time ≤ y.time := by
  obtain ⟨x1, x2⟩ := List.getElem?_eq_some_iff.1 hx
  obtain ⟨y1, y2⟩ := List.getElem?_eq_some_iff.1 hy
  rcases Nat.eq_zero_or_pos m with rfl | hm
  · rw [hx] at hy; injection hy with hy; rw [hy]; exact Int.le_refl _
  · have := List.pairwise_iff_getElem.1 h 0 m x1 y1 hm
    rw [x2, y2] at this
    exact less_time this
/-- the codes stay where a block of other cells is written -/
theorem CodesAt.off {w w' : World} {g rb t : Nat} {cs : Array Value} {l : List Int} {k : Nat} (h : CodesAt w g l k) (hB : Blk w rb t cs) (hne : ∀ v, Value.int .u8 v ∉ cs.toList) (hg : w.grownBy w' (some rb)) (hrg : rb ≠ g) : CodesAt w' g l k := by
  obtain ⟨A, c, hb, hrd, h2⟩ := h
  refine ⟨A, c, hb.grown hg (fun e => hrg (by injection e with e; exact e.symm)), ?_, h2⟩
  intro hn
  obtain ⟨b, off, e, hb', hlt, hc⟩ := hrd hn
  have hbr : b ≠ rb := by
    rintro rfl
    have h0 := hc 0 (.int .u8 (l[0]'(by simpa using hn))) (by simp)
    rw [hB.cell] at h0
    have := Array.mem_of_getElem? h0
    exact hne _ (by simpa using this)
  exact ⟨b, off, e, hb', Nat.lt_of_lt_of_le hlt hg.size, fun j u hu => (World.cell?_of_block (w := w) (a := ⟨b, off + j, none⟩) (hg.block b hlt (by simpa using hbr))).trans (hc j u hu)⟩
theorem tmod_nat (m n : Nat) : ((m : Int)).tmod (n : Int) = ((m % n : Nat) : Int) := by rw [Int.tmod_eq_emod_of_nonneg (by omega)]; norm_cast
structure ScI (w : World) (odd : Bool) (n0 g ub : Nat) (l : List Int) (mb rb n : Nat) (A : Option Addr) (bs : List BlobD) (c : Nat) (num nid : Int) (A2 : Option Addr) (ss : List SegD) (c2 : Nat) (wr : World) : Prop where
  mB : Blk wr mb 31 #[.int .i64 num, .int .i64 nid, .int .i64 0, .slice A2 ss.length c2, .slice none 0 0, .slice none 0 0, .slice none 0 0]
  rB : Blk wr rb 31 #[.int .i64 0, .int .i64 0, .int .i64 0, .slice none 0 0, .slice none 0 0, .slice none 0 0, .slice none 0 0]
  cd : ∃ k, CodesAt wr g l k
  sh : Rd (fun b => n0 ≤ b ∧ b < ub) wr A (bs.flatMap BlobD.cells)
  sb : ∀ x ∈ bs, x.Sub (fun b => n0 ≤ b ∧ b < ub) wr
  lc : bs.length ≤ c
  mc : c ≤ maxLen
  zc : A = none → c = 0
  rd : Rd (n0 ≤ ·) wr A2 (ss.flatMap SegD.cells)
  l2 : ss.length ≤ c2
  m2 : c2 ≤ maxLen
  ok : MOk num nid 0 ss [] [] []
  b1 : num + n ≤ 3
  b2 : nid + n ≤ 3
  b3 : ss.length + n ≤ 3
  b4 : bs.length + 2 * n ≤ 6
  srt : BSrt bs
  inh : ∀ x ∈ bs, InH x.data
  gd : odd = false → GdB bs ∧ HasB ss bs
  sz : n0 ≤ wr.heap.size
  gr : w.grownBy wr none
structure ScM (w : World) (n0 g : Nat) (l : List Int) (mb rb xb gb : Nat) (A : Option Addr) (bs : List BlobD) (num nid : Int) (A2 : Option Addr) (m2 c2 : Nat) (ss : List SegD) (ds : List Int) (dB : Nat) (t : Int) (wr : World) : Prop where
  mB : Blk wr mb 31 #[.int .i64 (num + 1), .int .i64 (nid + 1), .int .i64 0, .slice A2 m2 c2, .slice none 0 0, .slice none 0 0, .slice none 0 0]
  rB : Blk wr rb 31 #[.int .i64 0, .int .i64 0, .int .i64 0, .slice none 0 0, .slice none 0 0, .slice none 0 0, .slice none 0 0]
  xB : Blk wr xb 59 #[.int .i64 nid, .int .i64 t, .slice (some ⟨gb, 0, none⟩) ds.length dB]
  cd : ∃ k, CodesAt wr g l k
  sh : Rd (fun b => n0 ≤ b ∧ b ≠ xb ∧ b ≠ gb) wr A (bs.flatMap BlobD.cells)
  sb : ∀ x ∈ bs, x.Sub (fun b => n0 ≤ b ∧ b ≠ xb ∧ b ≠ gb) wr
  rd : Rd (fun b => n0 ≤ b ∧ b ≠ xb ∧ b ≠ gb) wr A2 (ss.flatMap SegD.cells)
  own : wr.ownsRow n0 5 1 (.slice (some ⟨gb, 0, none⟩) ds.length dB) ds.length (ds.map (.int .u8))
  sz : n0 ≤ wr.heap.size
  gr : w.grownBy wr none
section
variable {w wr w' : World} {odd : Bool} {n0 g ub mb rb xb gb n : Nat} {l : List Int} {A A2 : Option Addr} {bs : List BlobD} {c c2 m2 dB : Nat} {num nid t : Int} {ss : List SegD} {ds : List Int}
theorem ScI.quiet (h : ScI w odd n0 g ub l mb rb n A bs c num nid A2 ss c2 wr) (hg : wr.grownBy w' none) : ScI w odd n0 g ub l mb rb n A bs c num nid A2 ss c2 w' :=
  { h with mB := h.mB.grown hg (by simp), rB := h.rB.grown hg (by simp), cd := by obtain ⟨k, hk⟩ := h.cd; exact ⟨k, hk.grown hg (by simp)⟩, sh := h.sh.grown hg (by simp), sb := fun x hx => (h.sb x hx).grown hg (by simp), rd := h.rd.grown hg (by simp), sz := Nat.le_trans h.sz hg.size, gr := only_trans h.gr hg }
theorem ScI.code (h : ScI w odd n0 g ub l mb rb n A bs c num nid A2 ss c2 wr) (hg : wr.grownBy w' (some g)) {k : Nat} (hc : CodesAt w' g l k) (h1 : mb ≠ g) (h2 : rb ≠ g) (h3 : g < n0) (h4 : w.heap.size ≤ g) : ScI w odd n0 g ub l mb rb n A bs c num nid A2 ss c2 w' :=
  have hn : ∀ b, n0 ≤ b → some b ≠ some g := fun b hb e => by injection e; omega
  { h with mB := h.mB.grown hg (fun e => h1 (by injection e)), rB := h.rB.grown hg (fun e => h2 (by injection e)), cd := ⟨k, hc⟩, sh := h.sh.grown hg (fun b hb => hn b hb.1), sb := fun x hx => (h.sb x hx).grown hg (fun b hb => hn b hb.1), rd := h.rd.grown hg hn, sz := Nat.le_trans h.sz hg.size, gr := only_fresh h.gr hg h4 }
theorem ScI.top (h : ScI w odd n0 g ub l mb rb n A bs c num nid A2 ss c2 wr) : ScI w odd n0 g wr.heap.size l mb rb n A bs c num nid A2 ss c2 wr :=
  { h with sh := h.sh.mono (fun b hb hlt => ⟨hb.1, hlt⟩), sb := fun x hx => (h.sb x hx).mono (fun b hb hlt => ⟨hb.1, hlt⟩) }
theorem ScM.quiet (h : ScM w n0 g l mb rb xb gb A bs num nid A2 m2 c2 ss ds dB t wr) (hg : wr.grownBy w' none) : ScM w n0 g l mb rb xb gb A bs num nid A2 m2 c2 ss ds dB t w' where
  mB := h.mB.grown hg (by simp)
  rB := h.rB.grown hg (by simp)
  xB := h.xB.grown hg (by simp)
  cd := by obtain ⟨k, hk⟩ := h.cd; exact ⟨k, hk.grown hg (by simp)⟩
  sh := h.sh.grown hg (by simp)
  sb := fun x hx => (h.sb x hx).grown hg (by simp)
  rd := h.rd.grown hg (by simp)
  own := own_ext h.own hg
  sz := Nat.le_trans h.sz hg.size
  gr := only_trans h.gr hg
theorem ScM.code (h : ScM w n0 g l mb rb xb gb A bs num nid A2 m2 c2 ss ds dB t wr) (hg : wr.grownBy w' (some g)) {k : Nat} (hc : CodesAt w' g l k) (h1 : mb ≠ g) (h2 : rb ≠ g) (h5 : xb ≠ g) (h3 : g < n0) (h4 : w.heap.size ≤ g) : ScM w n0 g l mb rb xb gb A bs num nid A2 m2 c2 ss ds dB t w' :=
  have hn : ∀ b, (n0 ≤ b ∧ b ≠ xb ∧ b ≠ gb) → some b ≠ some g := fun b hb e => by injection e; omega
  { mB := h.mB.grown hg (fun e => h1 (by injection e))
    rB := h.rB.grown hg (fun e => h2 (by injection e))
    xB := h.xB.grown hg (fun e => h5 (by injection e))
    cd := ⟨k, hc⟩
    sh := h.sh.grown hg hn
    sb := fun x hx => (h.sb x hx).grown hg hn
    rd := h.rd.grown hg hn
    own := own_only h.own hg h3
    sz := Nat.le_trans h.sz hg.size
    gr := only_fresh h.gr hg h4 }
/-- the tier of the blob is set -/
theorem ScM.tier (h : ScM w n0 g l mb rb xb gb A bs num nid A2 m2 c2 ss ds dB t wr) (t' : Int) (h1 : mb ≠ xb) (h2 : rb ≠ xb) (h3 : g < xb) (h5 : w.heap.size ≤ xb) : ScM w n0 g l mb rb xb gb A bs num nid A2 m2 c2 ss ds dB t' (wr.setCell ⟨xb, 1, none⟩ (.int .i64 t')) :=
  have hg : wr.grownBy (wr.setCell ⟨xb, 1, none⟩ (.int .i64 t')) (some xb) := only_setCell (only_refl _ _) (p := ⟨xb, 1, none⟩) (.inl rfl) _
  have hn : ∀ b, (n0 ≤ b ∧ b ≠ xb ∧ b ≠ gb) → some b ≠ some xb := fun b hb e => by injection e; omega
  { mB := h.mB.grown hg (fun e => h1 (by injection e))
    rB := h.rB.grown hg (fun e => h2 (by injection e))
    xB := by simpa using h.xB.set_ 1 (.int .i64 t')
    cd := by obtain ⟨k, hk⟩ := h.cd; exact ⟨k, hk.grown hg (fun b hb e => by injection e; omega)⟩
    sh := h.sh.grown hg hn
    sb := fun x hx => (h.sb x hx).grown hg hn
    rd := h.rd.grown hg hn
    own := h.own.kept hg (.inr (blk_norow h.xB h.own (by decide)))
    sz := Nat.le_trans h.sz hg.size
    gr := only_fresh h.gr hg h5 }
/-- one byte of the data is set -/
theorem ScM.byte (h : ScM w n0 g l mb rb xb gb A bs num nid A2 m2 c2 ss ds dB t wr) {j : Nat} (v : Int) (hj : j < ds.length) (h3 : g < n0) (hwn : w.heap.size ≤ n0) (hmt : mb ≠ gb) (hrt : rb ≠ gb) (hxt : xb ≠ gb) : ScM w n0 g l mb rb xb gb A bs num nid A2 m2 c2 ss (ds.set j v) dB t (wr.setCell ⟨gb, j, none⟩ (.int .u8 v)) :=
  have hg : wr.grownBy (wr.setCell ⟨gb, j, none⟩ (.int .u8 v)) (some gb) := only_setCell (only_refl _ _) (p := ⟨gb, j, none⟩) (.inl rfl) _
  have hn : ∀ b, (n0 ≤ b ∧ b ≠ xb ∧ b ≠ gb) → some b ≠ some gb := fun b hb e => by injection e; omega
  have hgb : n0 ≤ gb := (h.own.lt gb rfl).1
  have hls : (ds.set j v).length = ds.length := List.length_set
  { mB := h.mB.grown hg (fun e => hmt (by injection e))
    rB := h.rB.grown hg (fun e => hrt (by injection e))
    xB := by rw [hls]; exact h.xB.grown hg (fun e => hxt (by injection e))
    cd := by obtain ⟨k, hk⟩ := h.cd; exact ⟨k, hk.grown hg (fun b hb e => by injection e; omega)⟩
    sh := h.sh.grown hg hn
    sb := fun x hx => (h.sb x hx).grown hg hn
    rd := h.rd.grown hg hn
    own := by rw [hls, List.map_set]; exact own_setH h.own hj
    sz := Nat.le_trans h.sz hg.size
    gr := only_fresh h.gr hg (by omega) }
theorem ScM.cellB (h : ScM w n0 g l mb rb xb gb A bs num nid A2 m2 c2 ss ds dB t wr) {j : Nat} (hj : j < ds.length) : wr.cell? ⟨gb, j, none⟩ = some (.int .u8 (ds[j]'hj)) ∧ wr.frozen? ⟨gb, j, none⟩ = false := by
  obtain ⟨h1, h2⟩ := own_cellsH h.own hj
  refine ⟨?_, h2⟩
  rw [h1, List.getElem?_map, List.getElem?_eq_getElem hj]
  rfl
end
def ScPost (w : World) (odd : Bool) (e : Ending) (w' : World) : Prop :=
  ∃ (A : Option Addr) (bs : List BlobD) (c : Nat) (num nid : Int) (A2 : Option Addr) (ss : List SegD) (c2 g : Nat) (l : List Int) (k : Nat),
    e = .returned (.tuple #[.slice A bs.length c, .agg #[.int .i64 num, .int .i64 nid, .int .i64 0, .slice A2 ss.length c2, .slice none 0 0, .slice none 0 0, .slice none 0 0], .pointer (some ⟨g, 0, none⟩)]) ∧ CodesAt w' g l k ∧ Shf (g + 1) w' A bs c ∧ Rd (g + 1 ≤ ·) w' A2 (ss.flatMap SegD.cells) ∧ ss.length ≤ c2 ∧ c2 ≤ maxLen ∧ MOk num nid 0 ss [] [] [] ∧ num ≤ 3 ∧ ss.length ≤ 3 ∧ bs.length ≤ 6 ∧ BSrt bs ∧ (∀ x ∈ bs, InH x.data) ∧ (odd = false → GdB bs ∧ HasB ss bs) ∧ w.heap.size ≤ g ∧ w.grownBy w' none
set_option maxHeartbeats 8000000 in
set_option maxRecDepth 100000 in
theorem scene_any (odd : Bool) (A : Option Addr) (l0 : List Int) (d : Nat) (w : World) (h : Rd (fun _ => True) w A (l0.map (.int .u8))) (hc : l0.length ≤ d) (hcm : d ≤ maxLen) (hx : ∀ x ∈ l0, 0 ≤ x ∧ x ≤ 255) :
    Calls Tryz.prog 7 #[.slice A l0.length d, .bool odd] w (ScPost w odd) := by
  obtain ⟨rb, hrb⟩ : ∃ b, b = w.heap.size := ⟨_, rfl⟩
  obtain ⟨W1, hW1⟩ : ∃ W, W = w.alloc (.cells #[.int .i64 0, .int .i64 0, .int .i64 0, .slice none 0 0, .slice none 0 0, .slice none 0 0, .slice none 0 0] 31) := ⟨_, rfl⟩
  have G1 : Hid (w.grownBy W1 none) := Lib.hid (by rw [hW1]; exact only_alloc (only_refl _ _) _)
  have R1 : Hid (Blk W1 rb 31 #[.int .i64 0, .int .i64 0, .int .i64 0, .slice none 0 0, .slice none 0 0, .slice none 0 0, .slice none 0 0]) := Lib.hid (by rw [hW1, hrb]; exact Blk.new w _ _)
  obtain ⟨g, hg⟩ : ∃ g, g = W1.heap.size := ⟨_, rfl⟩
  have hrg : rb < g := by rw [hg]; exact R1.out.lt
  have KN := Lib.hid (new_any A l0 d 500 W1 (h.grown G1.out (by simp)) hc hcm (by omega) hx)
  have HW1 := Lib.hid hW1.symm
  have HRB := Lib.hid hrb
  have HG := Lib.hid hg.symm
  clear hW1 hrb h hx hg
  go_enter Tryz.func7, Tryz.ntmps7
  go_upto_region 1 with fail
  rw [HW1.out, ← HRB.out]
  clear HW1
  go_wp2_with fail
  refine KN.out.mono ?_
  rintro e w2 ⟨rfl, h2, hg2, hlt2⟩
  rw [HG.out] at h2 hlt2 ⊢
  obtain ⟨l, hl⟩ : ∃ l, l = l0.take 500 := ⟨_, rfl⟩
  rw [← hl] at h2
  obtain ⟨mb, hmb⟩ : ∃ b, b = w2.heap.size := ⟨_, rfl⟩
  obtain ⟨W3, hW3⟩ : ∃ W, W = w2.alloc (.cells #[.int .i64 0, .int .i64 0, .int .i64 0, .slice none 0 0, .slice none 0 0, .slice none 0 0, .slice none 0 0] 31) := ⟨_, rfl⟩
  have g3 : w2.grownBy W3 none := by rw [hW3]; exact only_alloc (only_refl _ _) _
  have R3 : Hid (Blk W3 rb 31 #[.int .i64 0, .int .i64 0, .int .i64 0, .slice none 0 0, .slice none 0 0, .slice none 0 0, .slice none 0 0]) := Lib.hid ((R1.out.grown hg2 (by simp)).grown g3 (by simp))
  have B3 : Hid (Blk W3 mb 31 #[.int .i64 0, .int .i64 0, .int .i64 0, .slice none 0 0, .slice none 0 0, .slice none 0 0, .slice none 0 0]) := Lib.hid (by rw [hW3, hmb]; exact Blk.new w2 _ _)
  have C3 := Lib.hid (h2.grown g3 (by simp))
  have G3 := Lib.hid (only_trans (only_trans G1.out hg2) g3)
  have hgm : g < mb := by omega
  have hwr : w.heap.size ≤ rb := by have := HRB.out; omega
  have HW3 := Lib.hid hW3.symm
  have HMB := Lib.hid hmb
  obtain ⟨n0, hn0⟩ : ∃ n, n = W3.heap.size := ⟨_, rfl⟩
  have hmn : mb < n0 := by rw [hn0]; exact B3.out.lt
  have HN0 := Lib.hid hn0
  clear hW3 hmb hl h2 hg2 hlt2 g3 hn0 R1 KN G1
  go_upto_region 4 with fail
  rw [HW3.out, ← HMB.out]
  clear HW3
  go_wp2_with fail
  refine (next_some g l 0 4 W3 C3.out (by omega) (by omega)).mono ?_
  rintro e w4 ⟨v4, k4, rfl, hv4, h4, hg4⟩
  obtain ⟨n4, rfl⟩ := Int.eq_ofNat_of_zero_le hv4.1
  have hn4 : n4 ≤ 3 := by omega
  have I4 : Hid (ScI w odd n0 g 0 l mb rb n4 none [] 0 0 0 none [] 0 w4) := Lib.hid {
    mB := B3.out.grown hg4 (fun e => by injection e; omega)
    rB := R3.out.grown hg4 (fun e => by injection e; omega)
    cd := ⟨k4, h4⟩
    sh := Rd.nil
    sb := by simp
    lc := Nat.zero_le _
    mc := Nat.zero_le _
    zc := fun _ => rfl
    rd := Rd.nil
    l2 := Nat.zero_le _
    m2 := Nat.zero_le _
    ok := ⟨by omega, by omega, by omega, by simp, List.Pairwise.nil, by simp, by simp, List.Pairwise.nil, by simp, List.Pairwise.nil, by simp, List.Pairwise.nil⟩
    b1 := by omega
    b2 := by omega
    b3 := by simp; omega
    b4 := by simp; omega
    srt := List.Pairwise.nil
    inh := by simp
    gd := fun _ => ⟨(fun x hx => by cases hx), (fun x hx => by cases hx)⟩
    sz := by have := hg4.size; have := HN0.out; omega
    gr := only_fresh G3.out hg4 (by omega) }
  clear hg4 h4 hv4 B3 R3 C3 G3
  go_wp2_with fail
  go_loopw [9, 10] (fun vs vn wr => ∃ (n ub : Nat) (A : Option Addr) (bs : List BlobD) (c : Nat) (num nid : Int) (A2 : Option Addr) (ss : List SegD) (c2 : Nat), vs = .slice A bs.length c ∧ vn = .int .i64 n ∧ n ≤ 3 ∧ ScI w odd n0 g ub l mb rb n A bs c num nid A2 ss c2 wr) (fun _ vn _ => (intOf vn).toNat)
  case atStart => exact ⟨n4, 0, none, [], 0, 0, 0, none, [], 0, rfl, rfl, hn4, I4.out⟩
  case round =>
    obtain ⟨n, ub, A, bs, c, num, nid, A2, ss, c2, rfl, rfl, hn3, hI⟩ := hrel
    have I := Lib.hid hI
    clear hI I4
    have h1 : mb ≠ g := by omega
    have h2 : rb ≠ g := by omega
    have h4 : w.heap.size ≤ g := by omega
    by_cases hn : 0 < n
    · have i1 : (0 : Int) < (n : Int) := by omega
      obtain ⟨k, hcd⟩ := I.out.cd
      have hgn : g < n0 := by omega
      have KV := Lib.hid (events_some g l k 2 wr hcd (by omega))
      have hzn := I.out.sz
      clear hcd
      go_wp2_with fail
      refine KV.out.mono ?_
      rintro e w5 ⟨A5, c5, es, k5, rfl, hc5, hm5, hl5, hev, hsr, hgood, h5, hg5⟩
      have I5 := Lib.hid (I.out.code hg5 h5 h1 h2 hgn h4).top
      have HEE : Hid (∀ e ∈ es, EvE e) := Lib.hid (fun e he => (hgood e he).e)
      have KE := Lib.hid (rencode27_any A5 es c5 w5 hev (by omega) HEE.out hsr)
      have HSR := Lib.hid hsr
      have HGD : Hid (errS (encX es) = 0 ∧ damL (encX es) = []) := Lib.hid ⟨errS_enc HEE.out (by omega), damL_enc HEE.out (by omega)⟩
      have HEL : Hid (124 ≤ (encX es).length ∧ (encX es).length ≤ 8900124) := Lib.hid ⟨encX_ge es, encX_le HEE.out (by omega)⟩
      have HEI := Lib.hid (encX_in es)
      have HEV := Lib.hid hev
      have HT0 : Hid (∀ e ∈ es, 0 ≤ e.time ∧ e.time ≤ 253402300799999) := Lib.hid (fun e he => ⟨(HEE.out e he).c.t0, (HEE.out e he).c.t1⟩)
      have hz5 : n0 ≤ w5.heap.size := I5.out.sz
      have HW5 : Hid (∀ b, b < wr.heap.size → b < w5.heap.size) := Lib.hid (fun b hb => Nat.lt_of_lt_of_le hb hg5.size)
      clear hg5 h5 hev hsr hgood KV I
      obtain ⟨ds0, hds⟩ : ∃ ds, ds = encX es := ⟨_, rfl⟩
      rw [← hds] at KE HGD HEL HEI
      clear hds
      go_wp2_with fail
      refine KE.out.mono ?_
      rintro e w6 ⟨v6, rfl, hB6, hG6⟩
      have I6 := Lib.hid (I5.out.quiet hG6)
      have EV6 := Lib.hid (HEV.out.grown hG6 (by simp))
      obtain ⟨B, dB, hv, hd1, hd2, -⟩ := Byts.rd hB6
      have OB := Lib.hid hB6
      rw [hv] at OB
      subst hv
      obtain ⟨gb, hgb⟩ : ∃ gb, B = some ⟨gb, 0, none⟩ := by
        rcases OB.out.2 with ⟨e, h0⟩ | ⟨g', cap, cur, e, _⟩
        · have := HEL.out.1; omega
        · injection e with e1; exact ⟨g', e1⟩
      subst hgb
      have hgb5 : w5.heap.size ≤ gb ∧ gb < w6.heap.size := OB.out.lt gb rfl
      have hG56 := hG6.size
      clear hB6 hG6 KE HEV
      go_upto_if 37 with fail
      go_cut [14, 15] (fun va vb wx => ∃ f q : Int, va = .int .i64 f ∧ vb = .int .i64 q ∧ f ≤ q ∧ ∃ m, wx = w6.drewN m)
      case first =>
        by_cases h0 : es.length = 0
        · have i1 : ¬ (0 : Int) < (es.length : Int) := by omega
          clear h0
          go_wp2_with fail
          go_meet
          exact ⟨0, 0, rfl, rfl, Int.le_refl _, 0, rfl⟩
        · obtain ⟨m, hm⟩ : ∃ m, es.length = m + 1 := ⟨es.length - 1, by omega⟩
          obtain ⟨x, hx⟩ : ∃ x, es[0]? = some x := ⟨_, List.getElem?_eq_getElem (by omega)⟩
          obtain ⟨y, hy⟩ : ∃ y, es[m]? = some y := ⟨_, List.getElem?_eq_getElem (by omega)⟩
          have HXY := Lib.hid (srt_time HSR.out hx hy)
          obtain ⟨kb, ko, eE, -, -, -, -, -, -, x5, -, -, -, -⟩ := ev_in EV6.out.1 hx
          subst eE
          obtain ⟨kb', ko', eE, -, -, -, -, -, -, y5, -, -, -, -⟩ := ev_in EV6.out.1 hy
          injection eE with eE
          injection eE with e1 e2
          subst e1 e2
          obtain ⟨tf, htf⟩ : ∃ t, t = x.time := ⟨_, rfl⟩
          obtain ⟨tl, htl⟩ : ∃ t, t = y.time := ⟨_, rfl⟩
          rw [← htf] at x5 HXY
          rw [← htl] at y5 HXY
          simp only [Nat.zero_mul, Nat.add_zero] at x5
          have i1 : (0 : Int) < (es.length : Int) := by omega
          have i2 : (es.length : Int) - 1 = (m : Int) := by omega
          have i3 : (m : Int) < (es.length : Int) := by omega
          have hwk : IntKind.i64.wrap (m : Int) = (m : Int) := IntWalk.i64_in _ (by omega)
          clear hx hy htf htl hm h0
          go_wp2_with fail
          go_quiet (fail)
          go_wp2_with fail
          go_meet
          exact ⟨tf, tl, rfl, rfl, HXY.out, nq, rfl⟩
      case rest =>
        obtain ⟨f, q, rfl, rfl, hfq, m7, hwc⟩ := hcut
        have G67 : Hid (w6.grownBy wc none) := Lib.hid (by rw [hwc]; exact only_drewN (only_refl _ _) m7)
        have I7 := Lib.hid (I6.out.quiet G67.out)
        have O7 := Lib.hid (own_ext OB.out G67.out)
        have h67 := G67.out.size
        obtain ⟨k7, hcd7⟩ := I7.out.cd
        clear hwc I6 I5 OB EV6 G67
        go_wp2_with fail
        refine (next_some g l k7 3 wc hcd7 (by omega) (by omega)).mono ?_
        rintro e w8 ⟨tr, k8, rfl, ⟨ht0, ht1⟩, h8, hg8⟩
        have I8 := Lib.hid (I7.out.code hg8 h8 h1 h2 hgn h4)
        have O8 := Lib.hid (own_only O7.out hg8 (by omega))
        have h78 := hg8.size
        clear hcd7 hg8 h8 I7 O7
        obtain ⟨s, hs⟩ : ∃ s : SegD, s = ⟨nid, 0, tr, es.length, f, q, ds0.length⟩ := ⟨_, rfl⟩
        have hok := I8.out.ok
        have hb1 := I8.out.b1; have hb2 := I8.out.b2; have hb3 := I8.out.b3; have hb4 := I8.out.b4
        have hSC : SegC (nid + 1) s := by
          have := hok.hnid
          rw [hs]
          exact ⟨by show 0 ≤ nid; omega, by show nid < nid + 1; omega, Int.le_refl 0, by show (0 : Int) ≤ 1000; omega, by show (0 : Int) ≤ (es.length : Int); omega, by show (0 : Int) ≤ (ds0.length : Int); omega, ht0, by show tr ≤ 2; omega, hfq⟩
        have KA := Lib.hid (radd_any (S' := fun _ => True) (S2 := fun _ => True) (S3 := fun _ => True) num nid 0 A2 ss c2 none [] 0 none [] 0 none [] 0 ⟨0, 0, tr, es.length, f, q, ds0.length⟩ s w8 I8.out.rd Rd.nil Rd.nil Rd.nil hok (by omega) (by omega) (by omega) hSC (by rw [hs]))
        have HOK9 := Lib.hid (hok.add (by omega) (by omega) (by omega) hSC (by rw [hs]))
        have HS := Lib.hid hs
        have hB8 := I8.out.mB
        have b0 := hB8.cell 0
        have b1 := hB8.cell 1
        have b2 := hB8.cell 2
        have b3 := hB8.cell 3
        have b4 := hB8.cell 4
        have b5 := hB8.cell 5
        have b6 := hB8.cell 6
        simp at b0 b1 b2 b3 b4 b5 b6
        clear hB8 hok hSC hs
        go_wp2_with fail
        refine KA.out.mono ?_
        rintro e w9 ⟨A9, c9, rfl, hl9, hm9, hr9, hg9⟩
        have I9 := Lib.hid (I8.out.quiet hg9)
        have O9 := Lib.hid (own_ext O8.out hg9)
        have R9 := Lib.hid hr9
        have h89 := hg9.size
        clear hg9 hr9 b0 b1 b2 b3 b4 b5 b6 I8 O8 KA
        obtain ⟨n9, hn9⟩ : ∃ n, n = (ss ++ [s]).length := ⟨_, rfl⟩
        rw [← hn9] at hl9 ⊢
        have HN9 := Lib.hid hn9
        clear hn9
        obtain ⟨W10, hW10⟩ : ∃ W, W = w9.alloc (.cells #[.int .i64 (num + 1), .int .i64 (nid + 1), .int .i64 0, .slice A9 n9 c9, .slice none 0 0, .slice none 0 0, .slice none 0 0] 31) := ⟨_, rfl⟩
        obtain ⟨nb, hnb⟩ : ∃ b, b = w9.heap.size := ⟨_, rfl⟩
        have g10 : w9.grownBy W10 none := by rw [hW10]; exact only_alloc (only_refl _ _) _
        have NB : Hid (Blk W10 nb 31 #[.int .i64 (num + 1), .int .i64 (nid + 1), .int .i64 0, .slice A9 n9 c9, .slice none 0 0, .slice none 0 0, .slice none 0 0]) := Lib.hid (by rw [hW10, hnb]; exact Blk.new w9 _ _)
        have I10 := Lib.hid (I9.out.quiet g10)
        have O10 := Lib.hid (own_ext O9.out g10)
        have R10 := Lib.hid (R9.out.grown g10 (by simp))
        have h910 := g10.size
        have HW10 := Lib.hid hW10.symm
        have HNB := Lib.hid hnb
        clear hW10 hnb g10 I9 O9 R9
        go_upto_region 15 with fail
        rw [HW10.out, ← HNB.out]
        clear HW10
        have b1 := I10.out.mB.cell 1
        simp at b1
        obtain ⟨W11, hW11⟩ : ∃ W, W = W10.alloc (.cells #[.int .i64 nid, .int .i64 tr, .slice (some ⟨gb, 0, none⟩) ds0.length dB] 59) := ⟨_, rfl⟩
        obtain ⟨xb, hxb⟩ : ∃ b, b = W10.heap.size := ⟨_, rfl⟩
        have g11 : W10.grownBy W11 none := by rw [hW11]; exact only_alloc (only_refl _ _) _
        have XB : Hid (Blk W11 xb 59 #[.int .i64 nid, .int .i64 tr, .slice (some ⟨gb, 0, none⟩) ds0.length dB]) := Lib.hid (by rw [hW11, hxb]; exact Blk.new W10 _ _)
        have NB11 := Lib.hid (NB.out.grown g11 (by simp))
        have I11 := Lib.hid (I10.out.quiet g11)
        have O11 := Lib.hid (own_ext O10.out g11)
        have R11 := Lib.hid (R10.out.grown g11 (by simp))
        have HX11 : Hid (∀ b, b < W10.heap.size → b ≠ xb) := Lib.hid (fun b hb => by omega)
        have hgx : gb < xb := by omega
        have hmx : mb < xb := by have := I10.out.mB.lt; omega
        have hnx : n0 ≤ xb := by have := I10.out.sz; omega
        have R11' : Hid (Rd (fun b => n0 ≤ b ∧ b ≠ xb ∧ b ≠ gb) W11 A9 ((ss ++ [s]).flatMap SegD.cells)) := Lib.hid ((R10.out.mono (S' := fun b => n0 ≤ b ∧ b ≠ xb ∧ b ≠ gb) (fun b hb hlt => by have hb2 : w8.heap.size ≤ b := hb; omega)).grown g11 (by simp))
        have h1011 := g11.size
        have HW11 := Lib.hid hW11.symm
        have HXB := Lib.hid hxb
        clear hW11 hxb g11 R10 NB O10 R11
        go_upto_region 16 with fail
        rw [HW11.out, ← HXB.out]
        clear HW11 b1
        have hN := NB11.out
        have hM := I11.out.mB
        have b0 := hN.cell 0
        have b1 := hN.cell 1
        have b2 := hN.cell 2
        have b3 := hN.cell 3
        have b4 := hN.cell 4
        have b5 := hN.cell 5
        have b6 := hN.cell 6
        simp at b0 b1 b2 b3 b4 b5 b6
        have q0 := hM.cell 0
        have q1 := hM.cell 1
        have q2 := hM.cell 2
        have q3 := hM.cell 3
        have q4 := hM.cell 4
        have q5 := hM.cell 5
        have q6 := hM.cell 6
        simp at q0 q1 q2 q3 q4 q5 q6
        have p0 := hM.frozen 0
        have p1 := hM.frozen 1
        have p2 := hM.frozen 2
        have p3 := hM.frozen 3
        have p4 := hM.frozen 4
        have p5 := hM.frozen 5
        have p6 := hM.frozen 6
        obtain ⟨W12, hW12⟩ : ∃ W, W = ((((((W11.setCell ⟨mb, 0, none⟩ (.int .i64 (num + 1))).setCell ⟨mb, 1, none⟩ (.int .i64 (nid + 1))).setCell ⟨mb, 2, none⟩ (.int .i64 0)).setCell ⟨mb, 3, none⟩ (.slice A9 n9 c9)).setCell ⟨mb, 4, none⟩ (.slice none 0 0)).setCell ⟨mb, 5, none⟩ (.slice none 0 0)).setCell ⟨mb, 6, none⟩ (.slice none 0 0) := ⟨_, rfl⟩
        have g12 : W11.grownBy W12 (some mb) := by rw [hW12]; exact only_set7 (only_refl W11 (some mb)) (b := mb) (.int .i64 (num + 1)) (.int .i64 (nid + 1)) (.int .i64 0) (.slice A9 n9 c9) (.slice none 0 0) (.slice none 0 0) (.slice none 0 0)
        have M12 : Blk W12 mb 31 #[.int .i64 (num + 1), .int .i64 (nid + 1), .int .i64 0, .slice A9 n9 c9, .slice none 0 0, .slice none 0 0, .slice none 0 0] := by rw [hW12]; exact blk_put7 hM (.int .i64 (num + 1)) (.int .i64 (nid + 1)) (.int .i64 0) (.slice A9 n9 c9) (.slice none 0 0) (.slice none 0 0) (.slice none 0 0)
        have hwm : w.heap.size ≤ mb := by omega
        have hnm : ∀ b, (n0 ≤ b ∧ b ≠ xb ∧ b ≠ gb) → some b ≠ some mb := fun b hb e => by injection e; omega
        have h7 : ∀ b, (n0 ≤ b ∧ b < w5.heap.size) → (n0 ≤ b ∧ b ≠ xb ∧ b ≠ gb) := fun b hb => by omega
        have MM : Hid (ScM w n0 g l mb rb xb gb A bs num nid A9 n9 c9 (ss ++ [s]) ds0 dB tr W12) := Lib.hid {
          mB := M12
          rB := I11.out.rB.grown g12 (fun e => by injection e; omega)
          xB := XB.out.grown g12 (fun e => by injection e; omega)
          cd := by obtain ⟨k, hk⟩ := I11.out.cd; exact ⟨k, hk.grown g12 (fun b hb e => by injection e; omega)⟩
          sh := (I11.out.sh.mono (fun b hb _ => h7 b hb)).grown g12 hnm
          sb := fun x hx => ((I11.out.sb x hx).mono (fun b hb _ => h7 b hb)).grown g12 hnm
          rd := R11'.out.grown g12 hnm
          own := (own_low O11.out hz5).kept g12 (.inr (blk_norow I11.out.mB O11.out (by decide)))
          sz := Nat.le_trans I11.out.sz g12.size
          gr := only_fresh I11.out.gr g12 hwm }
        have PU : Hid (bs.length ≤ c ∧ c ≤ maxLen ∧ (A = none → c = 0) ∧ bs.length + 2 * n ≤ 6 ∧ BSrt bs ∧ (∀ x ∈ bs, InH x.data) ∧ (odd = false → GdB bs ∧ HasB ss bs)) := Lib.hid ⟨I11.out.lc, I11.out.mc, I11.out.zc, hb4, I11.out.srt, I11.out.inh, I11.out.gd⟩
        have HW12 := Lib.hid hW12.symm
        have hmx2 : mb ≠ xb := by omega
        have hrx : rb ≠ xb := by omega
        have hgx2 : g < xb := by omega
        have hwx : w.heap.size ≤ xb := by omega
        have hxg : xb ≠ g := by omega
        have hwn : w.heap.size ≤ n0 := by omega
        have hmt : mb ≠ gb := by omega
        have hrt : rb ≠ gb := by omega
        have hxt : xb ≠ gb := by omega
        clear hN hM hW12 g12 M12 h7 hnm I11 O11 R11' XB NB11
        go_upto_region 17 with fail
        rw [HW12.out]
        clear HW12 b0 b1 b2 b3 b4 b5 b6 q0 q1 q2 q3 q4 q5 q6 p0 p1 p2 p3 p4 p5 p6
        go_cut [77] (fun vb wx => ∃ b : Bool, vb = .bool b ∧ (odd = false → b = false) ∧ ScM w n0 g l mb rb xb gb A bs num nid A9 n9 c9 (ss ++ [s]) ds0 dB tr wx)
        case first =>
          cases odd with
          | false =>
            go_wp2_with fail
            go_meet
            exact ⟨false, rfl, fun _ => rfl, MM.out⟩
          | true =>
            obtain ⟨k12, hk12⟩ := MM.out.cd
            go_wp2_with fail
            refine (next_some g l k12 4 W12 hk12 (by omega) (by omega)).mono ?_
            rintro e w13 ⟨v13, k13, rfl, hv13, h13, hg13⟩
            have M13 := Lib.hid (MM.out.code hg13 h13 h1 h2 hxg hgn h4)
            clear hg13 h13 hk12 hv13
            go_wp2_with fail
            go_meet
            exact ⟨_, rfl, (fun e => by cases e), M13.out⟩
        case rest =>
          obtain ⟨bb, rfl, hbo, hM⟩ := hcut
          have M13 := Lib.hid hM
          have HBO := Lib.hid hbo
          clear hM hbo MM
          go_upto_if 77 with fail
          go_cut [] (fun wx => ∃ (t : Int) (ds : List Int), ScM w n0 g l mb rb xb gb A bs num nid A9 n9 c9 (ss ++ [s]) ds dB t wx ∧ ds.length = ds0.length ∧ InH ds ∧ (odd = false → t = tr ∧ ds = ds0))
          case first =>
            cases bb with
            | false =>
              go_wp2_with fail
              go_meet
              exact ⟨tr, ds0, M13.out, rfl, HEI.out, fun _ => ⟨rfl, rfl⟩⟩
            | true =>
              have ho : odd = true := by cases odd with | true => rfl | false => cases HBO.out rfl
              have HO := Lib.hid ho
              clear ho
              obtain ⟨k13, hk13⟩ := M13.out.cd
              go_wp2_with fail
              refine (next_some g l k13 3 wc hk13 (by omega) (by omega)).mono ?_
              rintro e w14 ⟨v14, k14, rfl, ⟨hv0, hv1⟩, h14, hg14⟩
              have M14 := Lib.hid (M13.out.code hg14 h14 h1 h2 hxg hgn h4)
              clear hk13 h14 hg14 M13
              have hv : v14 = 0 ∨ v14 = 1 ∨ v14 = 2 := by omega
              rcases hv with rfl | rfl | rfl
              · obtain ⟨m, hm⟩ : ∃ m, n = m + 1 := ⟨n - 1, by omega⟩
                have hnm : IntKind.i64.wrap ((n : Int) - 1) = (m : Int) := by rw [show (n : Int) - 1 = (m : Int) by omega]; exact IntWalk.i64_in _ (by omega)
                have HM := Lib.hid hm
                have ZP : Hid (bs.length ≤ c ∧ c ≤ maxLen ∧ (A = none → c = 0) ∧ True) := Lib.hid ⟨PU.out.1, PU.out.2.1, PU.out.2.2.1, trivial⟩
                have P14 : Hid (BSrt bs ∧ (∀ x ∈ bs, InH x.data) ∧ (odd = false → GdB bs ∧ HasB (ss ++ [s]) bs)) := Lib.hid ⟨PU.out.2.2.2.2.1, PU.out.2.2.2.2.2.1, fun e => by rw [HO.out] at e; cases e⟩
                clear hm
                go_wp2_with fail
                go_roundw
                case rel => exact ⟨m, w14.heap.size, A, bs, c, num + 1, nid + 1, A9, ss ++ [s], c9, rfl, rfl, by have := HM.out; omega, { mB := (by have h0 := M14.out.mB; rw [HN9.out] at h0; exact h0), rB := M14.out.rB, cd := M14.out.cd, sh := (M14.out.sh.mono (S' := (n0 ≤ ·)) (fun b hb _ => hb.1)).mono (fun b hb hlt => ⟨hb, hlt⟩), sb := (fun x hx => ((fun x hx => (M14.out.sb x hx).mono (S' := (n0 ≤ ·)) (fun b hb _ => hb.1)) x hx).mono (fun b hb hlt => ⟨hb, hlt⟩)), lc := ZP.out.1, mc := ZP.out.2.1, zc := ZP.out.2.2.1, rd := M14.out.rd.mono (fun b hb _ => hb.1), l2 := (by have h0 := HN9.out; omega), m2 := hm9, ok := HOK9.out, b1 := (by have h0 := HM.out; omega), b2 := (by have h0 := HM.out; omega), b3 := (by have h0 := HM.out; simp; omega), b4 := (by have h0 := HM.out; omega), srt := P14.out.1, inh := P14.out.2.1, gd := P14.out.2.2, sz := M14.out.sz, gr := M14.out.gr }⟩
                case measure => have := HM.out; simp [intOf]; omega
              · obtain ⟨k15, hk15⟩ := M14.out.cd
                have HK15 := Lib.hid hk15
                have c2' := M14.out.xB.cell 2
                simp at c2'
                have hL := HEL.out.1
                have hL2 := HEL.out.2
                have e0 : ((ds0.length : Int) == 0) = false := by rw [beq_eq_false_iff_ne]; omega
                have e00 : ¬ ds0 = [] := fun e => by rw [e] at hL; simp at hL
                clear hk15
                go_upto_region 21 with fail
                go_region_law (first
                  | (go_simp; go_at_call 11; refine (next_some g l k15 256 _ (by exact HK15.out.drew) (by omega) (by omega)).mono ?_; rintro e w15 ⟨v15, k16, rfl, ⟨a0, a1⟩, h15, hg15⟩; have M15 := Lib.hid ((M14.out.quiet (only_drew (only_refl _ _))).code hg15 h15 h1 h2 hxg hgn h4); have c3' := M15.out.xB.cell 2; simp at c3'; obtain ⟨m15, rfl⟩ := Int.eq_ofNat_of_zero_le a0; obtain ⟨j, hj⟩ : ∃ j, j = m15 % ds0.length := ⟨_, rfl⟩; have hjl : j < ds0.length := (by rw [hj]; exact Nat.mod_lt _ (by omega)); obtain ⟨c4', f4'⟩ := M15.out.cellB hjl; have i5 : (0 : Int) ≤ (j : Int) := (by omega); have i6 : (j : Int) < (ds0.length : Int) := (by omega); have hrem := tmod_nat m15 ds0.length; rw [← hj] at hrem; clear h15 hg15 hj))
                all_goals
                  clear hrem c2' c3' c4' f4'
                  go_simp
                  go_wp2_with fail
                  go_meet
                  exact ⟨tr, _, M15.out.byte _ hjl hgn hwn hmt hrt hxt, List.length_set, HEI.out.set_ j (xor_in _ _), (fun e => by rw [HO.out] at e; cases e)⟩
              · obtain ⟨k15, hk15⟩ := M14.out.cd
                go_wp2_with fail
                refine (next_some g l k15 3 w14 hk15 (by omega) (by omega)).mono ?_
                rintro e w15 ⟨t15, k16, rfl, hv15, h15, hg15⟩
                have M15 := Lib.hid (M14.out.code hg15 h15 h1 h2 hxg hgn h4)
                have c1' := M15.out.xB.cell 1
                have f1' := M15.out.xB.frozen 1
                simp at c1'
                clear hk15 h15 hg15 M14
                go_wp2_with fail
                go_meet
                exact ⟨t15, ds0, M15.out.tier t15 hmx2 hrx hgx2 hwx, rfl, HEI.out, (fun e => by rw [HO.out] at e; cases e)⟩
          case rest =>
            obtain ⟨t, ds, hM, hdl, hdi, hdo⟩ := hcut
            have M16 := Lib.hid hM
            have HDI := Lib.hid hdi
            have HDO := Lib.hid hdo
            have HDL := Lib.hid hdl
            clear hM hdi hdo hdl M13
            obtain ⟨w16, rfl⟩ : ∃ w16 : World, w16 = wc := ⟨_, rfl⟩
            have hdl := HDL.out
            have hL2 := HEL.out.2
            have hdl2 : ds.length ≤ 10000000 := by omega
            clear hdl
            obtain ⟨p1, p2, p3, p4, p5, p6, p7⟩ := PU.out
            have XS : Hid (∀ W, w16.grownBy W none → Rd (n0 ≤ ·) W (some ⟨gb, 0, none⟩) (ds.map (.int .u8)) ∧ ds.length ≤ dB ∧ dB ≤ maxLen) := Lib.hid (fun W hW => by
              obtain ⟨A1, c1, e1, y1, y2, -, y3⟩ := Rd.of_own (own_ext M16.out.own hW) (by decide)
              injection e1 with e11 e12 e13
              subst e11 e13
              exact ⟨y3, y1, y2⟩)
            have KP := Lib.hid (rput_any (S := (n0 ≤ ·)) A bs c ⟨nid, t, ds, some ⟨gb, 0, none⟩, dB⟩ w16 (M16.out.sh.mono (fun b hb _ => hb.1)) (fun x hx => (M16.out.sb x hx).mono (fun b hb _ => hb.1)) ⟨(XS.out w16 (only_refl _ _)).1, (XS.out w16 (only_refl _ _)).2.1, (XS.out w16 (only_refl _ _)).2.2, hdl2⟩ (fun b hb => Nat.le_trans M16.out.sz hb) (by omega) p1 p2 p3)
            have x0 := M16.out.xB.cell 0
            have x1 := M16.out.xB.cell 1
            have x2 := M16.out.xB.cell 2
            simp at x0 x1 x2
            clear p1 p2 p3 p5 p6 p7
            go_wp2_with fail
            refine KP.out.mono ?_
            rintro e w17 ⟨A17, c17, bs17, rfl, ⟨x', hk', hb17⟩, z1, z2, z3, z4, z5, hg17⟩
            have M17 := Lib.hid (M16.out.quiet hg17)
            have XS17 := Lib.hid (fun W (hW : w17.grownBy W none) => XS.out W (only_trans hg17 hW))
            have Z := Lib.hid (And.intro z1 (And.intro z2 (And.intro z3 (And.intro z4 z5))))
            have hx1 : x'.id = nid := congrArg (·.1) hk'
            have hx2 : x'.tier = t := congrArg (·.2.1) hk'
            have hx3 : x'.data = ds := congrArg (·.2.2) hk'
            have hlen : bs17.length ≤ bs.length + 1 := by rw [hb17]; exact putB_len _ _ _ _
            have P17 : Hid (BSrt bs17 ∧ (∀ x ∈ bs17, InH x.data) ∧ (odd = false → GdB bs17 ∧ HasB (ss ++ [s]) bs17)) := Lib.hid (by
              obtain ⟨-, -, -, -, p5, p6, p7⟩ := PU.out
              rw [hb17]
              refine ⟨p5.putk hx1 hx2, InB.put p6 (by rw [hx3]; exact HDI.out), fun ho => ?_⟩
              obtain ⟨e1, e2⟩ := HDO.out ho
              obtain ⟨q1, q2⟩ := p7 ho
              refine ⟨q1.put (by rw [hx3, e2]; exact HGD.out), ?_⟩
              have hs1 : s.id = nid := by rw [HS.out]
              have hs2 : s.tier = t := by rw [HS.out, e1]
              have := q2.snoc (s := s) (x' := x') (by rw [hx1, hs1]) (by rw [hx2, hs2])
              rw [hs1, hs2] at this
              exact this)
            have HG17 := Lib.hid hg17
            obtain ⟨k17, hk17⟩ := M17.out.cd
            obtain ⟨m, hm⟩ : ∃ m, n = m + 1 := ⟨n - 1, by omega⟩
            have hnm : IntKind.i64.wrap ((n : Int) - 1) = (m : Int) := by rw [show (n : Int) - 1 = (m : Int) by omega]; exact IntWalk.i64_in _ (by omega)
            have HM := Lib.hid hm
            clear z1 z2 z3 z4 z5 hk' hb17 hg17 hx1 hx2 hx3 x0 x1 x2 KP M16 XS hm
            go_wp2_with fail
            refine (next_some g l k17 3 w17 hk17 (by omega) (by omega)).mono ?_
            rintro e w18 ⟨v18, k18, rfl, hv18, h18, hg18⟩
            have M18 := Lib.hid (M17.out.code hg18 h18 h1 h2 hxg hgn h4)
            have hn8 : ∀ b, n0 ≤ b → some b ≠ some g := fun b hb e => by injection e; omega
            have Z18 : Hid (Rd (n0 ≤ ·) w18 A17 (bs17.flatMap BlobD.cells) ∧ ∀ x ∈ bs17, x.Sub (n0 ≤ ·) w18) := Lib.hid ⟨Z.out.2.2.2.1.grown hg18 hn8, fun x hx => (Z.out.2.2.2.2 x hx).grown hg18 hn8⟩
            have X18 : Hid (w18.ownsRow n0 5 1 (.slice (some ⟨gb, 0, none⟩) ds.length dB) ds.length (ds.map (.int .u8))) := Lib.hid M18.out.own
            clear hk17 h18 hg18 hn8 M17 XS17
            by_cases hv : v18 = 2
            · subst hv
              obtain ⟨k19, hk19⟩ := M18.out.cd
              go_wp2_with fail
              refine (next_some g l k19 6 w18 hk19 (by omega) (by omega)).mono ?_
              rintro e w19 ⟨id2, k20, rfl, hv19, h19, hg19⟩
              have M19 := Lib.hid (M18.out.code hg19 h19 h1 h2 hxg hgn h4)
              go_wp2_with fail
              refine (next_some g l k20 3 w19 h19 (by omega) (by omega)).mono ?_
              rintro e w20 ⟨t2, k21, rfl, hv20, h20, hg20⟩
              have M20 := Lib.hid (M19.out.code hg20 h20 h1 h2 hxg hgn h4)
              have hg1820 := only_trans hg19 hg20
              have hn8 : ∀ b, n0 ≤ b → some b ≠ some g := fun b hb e => by injection e; omega
              have Z20 : Hid (Rd (n0 ≤ ·) w20 A17 (bs17.flatMap BlobD.cells) ∧ ∀ x ∈ bs17, x.Sub (n0 ≤ ·) w20) := Lib.hid ⟨Z18.out.1.grown hg1820 hn8, fun x hx => (Z18.out.2 x hx).grown hg1820 hn8⟩
              obtain ⟨A1, c1, e1, y1, y2, -, y3⟩ := Rd.of_own M20.out.own (by decide)
              injection e1 with e11 e12 e13
              subst e11 e13
              have KP : Hid (Calls Tryz.prog 26 #[.slice A17 bs17.length c17, .agg #[.int .i64 id2, .int .i64 t2, .slice (some ⟨gb, 0, none⟩) ds0.length dB]] w20 (ShPost (n0 ≤ ·) w20 (fun bs' => ∃ x' : BlobD, x'.key = (id2, t2, ds) ∧ bs' = putB bs17 id2 t2 x'))) := Lib.hid (by
                have h0 := rput_any (S := (n0 ≤ ·)) A17 bs17 c17 ⟨id2, t2, ds, some ⟨gb, 0, none⟩, dB⟩ w20 Z20.out.1 Z20.out.2 ⟨y3, y1, y2, hdl2⟩ (fun b hb => Nat.le_trans M20.out.sz hb) (by omega) Z.out.1 Z.out.2.1 Z.out.2.2.1
                rw [← HDL.out]
                exact h0)
              clear hk19 h19 hg19 h20 hg20 hg1820 hn8 y3 M18 M19 X18
              go_wp2_with fail
              refine KP.out.mono ?_
              rintro e w21 ⟨A21, c21, bs21, rfl, ⟨x2, hk2, hb21⟩, z1, z2, z3, z4, z5, hg21⟩
              have M21 := Lib.hid (M20.out.quiet hg21)
              have hx1 : x2.id = id2 := congrArg (·.1) hk2
              have hx2 : x2.tier = t2 := congrArg (·.2.1) hk2
              have hx3 : x2.data = ds := congrArg (·.2.2) hk2
              have hlen2 : bs21.length ≤ bs17.length + 1 := by rw [hb21]; exact putB_len _ _ _ _
              have Z21 := Lib.hid (And.intro z1 (And.intro z2 (And.intro z3 (And.intro z4 z5))))
              have P21 : Hid (BSrt bs21 ∧ (∀ x ∈ bs21, InH x.data) ∧ (odd = false → GdB bs21 ∧ HasB (ss ++ [s]) bs21)) := Lib.hid (by
                obtain ⟨p5, p6, p7⟩ := P17.out
                rw [hb21]
                refine ⟨p5.putk hx1 hx2, InB.put p6 (by rw [hx3]; exact HDI.out), fun ho => ?_⟩
                obtain ⟨e1, e2⟩ := HDO.out ho
                obtain ⟨q1, q2⟩ := p7 ho
                exact ⟨q1.put (by rw [hx3, e2]; exact HGD.out), q2.put hx1 hx2⟩)
              clear z1 z2 z3 z4 z5 hk2 hb21 hg21 hx1 hx2 hx3 KP M20
              go_wp2_with fail
              go_roundw
              case rel => exact ⟨m, w21.heap.size, A21, bs21, c21, num + 1, nid + 1, A9, ss ++ [s], c9, rfl, rfl, by have := HM.out; omega, { mB := (by have h0 := M21.out.mB; rw [HN9.out] at h0; exact h0), rB := M21.out.rB, cd := M21.out.cd, sh := Z21.out.2.2.2.1.mono (fun b hb hlt => ⟨hb, hlt⟩), sb := (fun x hx => (Z21.out.2.2.2.2 x hx).mono (fun b hb hlt => ⟨hb, hlt⟩)), lc := Z21.out.1, mc := Z21.out.2.1, zc := Z21.out.2.2.1, rd := M21.out.rd.mono (fun b hb _ => hb.1), l2 := (by have h0 := HN9.out; omega), m2 := hm9, ok := HOK9.out, b1 := (by have h0 := HM.out; omega), b2 := (by have h0 := HM.out; omega), b3 := (by have h0 := HM.out; simp; omega), b4 := (by have h0 := HM.out; omega), srt := P21.out.1, inh := P21.out.2.1, gd := P21.out.2.2, sz := M21.out.sz, gr := M21.out.gr }⟩
              case measure => have := HM.out; simp [intOf]; omega
            · have e2 : (v18 == 2) = false := by simp [hv]
              clear hv
              go_wp2_with fail
              go_roundw
              case rel => exact ⟨m, w18.heap.size, A17, bs17, c17, num + 1, nid + 1, A9, ss ++ [s], c9, rfl, rfl, by have := HM.out; omega, { mB := (by have h0 := M18.out.mB; rw [HN9.out] at h0; exact h0), rB := M18.out.rB, cd := M18.out.cd, sh := Z18.out.1.mono (fun b hb hlt => ⟨hb, hlt⟩), sb := (fun x hx => (Z18.out.2 x hx).mono (fun b hb hlt => ⟨hb, hlt⟩)), lc := Z.out.1, mc := Z.out.2.1, zc := Z.out.2.2.1, rd := M18.out.rd.mono (fun b hb _ => hb.1), l2 := (by have h0 := HN9.out; omega), m2 := hm9, ok := HOK9.out, b1 := (by have h0 := HM.out; omega), b2 := (by have h0 := HM.out; omega), b3 := (by have h0 := HM.out; simp; omega), b4 := (by have h0 := HM.out; omega), srt := P17.out.1, inh := P17.out.2.1, gd := P17.out.2.2, sz := M18.out.sz, gr := M18.out.gr }⟩
              case measure => have := HM.out; simp [intOf]; omega
    · have i1 : ¬ ((0 : Int) < (n : Int)) := by omega
      have hM := I.out.mB
      have hR := I.out.rB
      have b0 := hM.cell 0
      have b1 := hM.cell 1
      have b2 := hM.cell 2
      have b3 := hM.cell 3
      have b4 := hM.cell 4
      have b5 := hM.cell 5
      have b6 := hM.cell 6
      simp at b0 b1 b2 b3 b4 b5 b6
      have q0 := hR.cell 0
      have q1 := hR.cell 1
      have q2 := hR.cell 2
      have q3 := hR.cell 3
      have q4 := hR.cell 4
      have q5 := hR.cell 5
      have q6 := hR.cell 6
      simp at q0 q1 q2 q3 q4 q5 q6
      have p0 := hR.frozen 0
      have p1 := hR.frozen 1
      have p2 := hR.frozen 2
      have p3 := hR.frozen 3
      have p4 := hR.frozen 4
      have p5 := hR.frozen 5
      have p6 := hR.frozen 6
      have hgn : g < n0 := by omega
      have hrn : rb < n0 := by omega
      obtain ⟨W9, hW9⟩ : ∃ W, W = ((((((wr.setCell ⟨rb, 0, none⟩ (.int .i64 num)).setCell ⟨rb, 1, none⟩ (.int .i64 nid)).setCell ⟨rb, 2, none⟩ (.int .i64 0)).setCell ⟨rb, 3, none⟩ (.slice A2 ss.length c2)).setCell ⟨rb, 4, none⟩ (.slice none 0 0)).setCell ⟨rb, 5, none⟩ (.slice none 0 0)).setCell ⟨rb, 6, none⟩ (.slice none 0 0) := ⟨_, rfl⟩
      have P9 : Blk W9 rb 31 #[.int .i64 num, .int .i64 nid, .int .i64 0, .slice A2 ss.length c2, .slice none 0 0, .slice none 0 0, .slice none 0 0] := by rw [hW9]; exact blk_put7 hR (.int .i64 num) (.int .i64 nid) (.int .i64 0) (.slice A2 ss.length c2) (.slice none 0 0) (.slice none 0 0) (.slice none 0 0)
      have g9 : wr.grownBy W9 (some rb) := by rw [hW9]; exact only_set7 (only_refl wr (some rb)) (b := rb) (.int .i64 num) (.int .i64 nid) (.int .i64 0) (.slice A2 ss.length c2) (.slice none 0 0) (.slice none 0 0) (.slice none 0 0)
      have hnr : ∀ b, n0 ≤ b → some b ≠ some rb := fun b hb e => by injection e; omega
      have hng : ∀ b, n0 ≤ b → g + 1 ≤ b := fun b hb => by omega
      have hzm : ∀ v, Value.int .u8 v ∉ (#[.int .i64 0, .int .i64 0, .int .i64 0, .slice none 0 0, .slice none 0 0, .slice none 0 0, .slice none 0 0] : Array Value).toList := fun v => by simp
      have g9 := only_drew g9
      have HF : Hid (ScPost w odd (.returned (.tuple #[.slice A bs.length c, .agg #[.int .i64 num, .int .i64 nid, .int .i64 0, .slice A2 ss.length c2, .slice none 0 0, .slice none 0 0, .slice none 0 0], .pointer (some ⟨g, 0, none⟩)])) W9.drew) := Lib.hid (by
        obtain ⟨k, hcd⟩ := I.out.cd
        have k1 : CodesAt W9.drew g l k := hcd.off I.out.rB hzm g9 (by omega)
        have k2 : Shf (g + 1) W9.drew A bs c := ⟨(I.out.sh.mono (fun b hb _ => hng b hb.1)).grown g9 (fun b hb e => by injection e; omega), fun x hx => ((I.out.sb x hx).mono (fun b hb _ => hng b hb.1)).grown g9 (fun b hb e => by injection e; omega), I.out.lc, I.out.mc, I.out.zc⟩
        have k3 : Rd (g + 1 ≤ ·) W9.drew A2 (ss.flatMap SegD.cells) := (I.out.rd.mono (fun b hb _ => hng b hb)).grown g9 (fun b hb e => by injection e; omega)
        have k4 : num ≤ 3 := by have := I.out.b1; omega
        have k5 : ss.length ≤ 3 := by have := I.out.b3; omega
        have k6 : bs.length ≤ 6 := by have := I.out.b4; omega
        exact ⟨A, bs, c, num, nid, A2, ss, c2, g, l, k, rfl, k1, k2, k3, I.out.l2, I.out.m2, I.out.ok, k4, k5, k6, I.out.srt, I.out.inh, I.out.gd, h4, only_fresh I.out.gr g9 hwr⟩)
      have HP9 := Lib.hid P9
      have HW9 := Lib.hid hW9.symm
      clear hM hR P9 g9 hW9 hnr hng hzm
      go_upto_region 27 with fail
      go_region_law (fail)
      all_goals
        go_simp
        go_wp2_with fail
        rw [HW9.out]
        have P9 := HP9.out
        have d0 := P9.cell 0; have d1 := P9.cell 1; have d2 := P9.cell 2; have d3 := P9.cell 3; have d4 := P9.cell 4; have d5 := P9.cell 5; have d6 := P9.cell 6
        simp at d0 d1 d2 d3 d4 d5 d6
        refine bodyPost_ret (v := .tuple #[.slice A bs.length c, .agg #[.int .i64 num, .int .i64 nid, .int .i64 0, .slice A2 ss.length c2, .slice none 0 0, .slice none 0 0, .slice none 0 0], .pointer (some ⟨g, 0, none⟩)]) (by simp [results, Tryz.results7, go_sem, d0, d1, d2, d3, d4, d5, d6]) rfl HF.out
end Go.Proofs.YtganfhmjklcchaaGreat
