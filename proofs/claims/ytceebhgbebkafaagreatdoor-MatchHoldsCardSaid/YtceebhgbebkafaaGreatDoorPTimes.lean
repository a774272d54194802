/- match.times. No condition. -/
import Derived.Test.YtceebhgbebkafaaGreatDoorSpan
import Derived.Test.YtceebhgbebkafaaGreatDoorStr
import Derived.Deep.RegionLaw
import Derived.Deep.DeepMust
namespace Go.Proofs.YtceebhgbebkafaaGreatDoor
open Go.RowKit
set_option linter.unusedVariables false
set_option linter.unusedSimpArgs false

/-- the variable 'whole' holds all times -/
def Whole (w : World) : Prop := w.cell? ⟨0, 0, none⟩ = some (.int .i64 0) ∧ w.cell? ⟨0, 1, none⟩ = some (.int .i64 253402300799999) ∧ 0 < w.heap.size
theorem Whole.grown {w w' : World} {row : Option Nat} (h : Whole w) (hg : w.grownBy w' row) (hr : some 0 ≠ row) : Whole w' :=
  ⟨(hg.cell_far ⟨0, 0, none⟩ h.2.2 hr).trans h.1, (hg.cell_far ⟨0, 1, none⟩ h.2.2 hr).trans h.2.1, Nat.lt_of_lt_of_le h.2.2 hg.size⟩
/-- the memory while a range is reckoned -/
def TMem (w : World) (r : Nat) (box : Array Value) (s : Int × Int) (wx : World) : Prop := Blk wx r 26 box ∧ Blk wx (r + 1) 80 #[.int .i64 0, .int .i64 0] ∧ Blk wx (r + 1 + 1) 80 #[.int .i64 s.1, .int .i64 s.2] ∧ w.grownBy wx none
section
variable {w wx w' : World} {r : Nat} {box : Array Value} {s : Int × Int}
theorem TMem.lt (h : TMem w r box s wx) : r + 1 + 1 < wx.heap.size := h.2.2.1.lt
theorem TMem.drew (h : TMem w r box s wx) : TMem w r box s wx.drew := ⟨h.1, h.2.1, h.2.2.1, only_drew h.2.2.2⟩
theorem TMem.alloc (h : TMem w r box s wx) (o : Obj) : TMem w r box s (wx.alloc o) := ⟨h.1.alloc o, h.2.1.alloc o, h.2.2.1.alloc o, only_alloc h.2.2.2 o⟩
theorem TMem.grown (h : TMem w r box s wx) (hg : wx.grownBy w' none) : TMem w r box s w' := ⟨h.1.grown hg (by simp), h.2.1.grown hg (by simp), h.2.2.1.grown hg (by simp), only_trans h.2.2.2 hg⟩
theorem TMem.set2 (h : TMem w r box s wx) (hr : w.heap.size ≤ r) (p : Int × Int) : TMem w r box p ((wx.setCell ⟨r + 1 + 1, 0, none⟩ (.int .i64 p.1)).setCell ⟨r + 1 + 1, 1, none⟩ (.int .i64 p.2)) := by
  obtain ⟨h1, h2, h3, h4⟩ := h
  have g0 : wx.grownBy wx (some (r + 1 + 1)) := only_refl _ _
  have g1 := only_setCell (only_setCell g0 (p := ⟨r + 1 + 1, 0, none⟩) (.inl rfl) (.int .i64 p.1)) (p := ⟨r + 1 + 1, 1, none⟩) (.inl rfl) (.int .i64 p.2)
  refine ⟨h1.grown g1 (by simp; omega), h2.grown g1 (by simp), by simpa using (h3.set_ 0 (.int .i64 p.1)).set_ 1 (.int .i64 p.2), ?_⟩
  exact only_fresh h4 g1 (by omega)
theorem TMem.seta (h : TMem w r box s wx) (hr : w.heap.size ≤ r) (x : Int) : TMem w r box (x, s.2) (wx.setCell ⟨r + 1 + 1, 0, none⟩ (.int .i64 x)) := by
  obtain ⟨h1, h2, h3, h4⟩ := h
  have g0 : wx.grownBy wx (some (r + 1 + 1)) := only_refl _ _
  have g1 := only_setCell g0 (p := ⟨r + 1 + 1, 0, none⟩) (.inl rfl) (.int .i64 x)
  refine ⟨h1.grown g1 (by simp; omega), h2.grown g1 (by simp), by simpa using h3.set_ 0 (.int .i64 x), ?_⟩
  exact only_fresh h4 g1 (by omega)
theorem TMem.setb (h : TMem w r box s wx) (hr : w.heap.size ≤ r) (x : Int) : TMem w r box (s.1, x) (wx.setCell ⟨r + 1 + 1, 1, none⟩ (.int .i64 x)) := by
  obtain ⟨h1, h2, h3, h4⟩ := h
  have g0 : wx.grownBy wx (some (r + 1 + 1)) := only_refl _ _
  have g1 := only_setCell g0 (p := ⟨r + 1 + 1, 1, none⟩) (.inl rfl) (.int .i64 x)
  refine ⟨h1.grown g1 (by simp; omega), h2.grown g1 (by simp), by simpa using h3.set_ 1 (.int .i64 x), ?_⟩
  exact only_fresh h4 g1 (by omega)
end
theorem kid_in {S : Nat → Prop} {w : World} {ka : Option Addr} {xs : List TT} (h : Rd S w ka (xs.flatMap TT.cells)) {i : Nat} {y : TT} (hy : xs[i]? = some y) :
    ∃ b off, ka = some ⟨b, off, none⟩ ∧ b < w.heap.size ∧ w.cell? ⟨b, off + i * 5, none⟩ = some (.int .i64 y.op) ∧ w.cell? ⟨b, off + i * 5 + 1, none⟩ = some (.string y.nm) ∧ w.cell? ⟨b, off + i * 5 + 2, none⟩ = some (.string y.tx) ∧ w.cell? ⟨b, off + i * 5 + 3, none⟩ = some (.int .i64 y.num) ∧ w.cell? ⟨b, off + i * 5 + 4, none⟩ = some (.slice y.ka y.kids.length y.kc) := by
  obtain ⟨hi, hyi⟩ := List.getElem?_eq_some_iff.1 hy
  obtain ⟨b, off, rfl, _, hlt, _⟩ := h (by rw [flat_len _ 5 TT.cells_len]; omega)
  exact ⟨b, off, rfl, hlt, TT.kid_at h hy⟩
theorem three_new' {w w1 : World} {c0 c1 c2 : Array Value} {t0 t1 t2 : Nat} (hg : (((w.alloc (.cells c0 t0)).alloc (.cells c1 t1)).alloc (.cells c2 t2)).grownBy w1 none) : Blk w1 w.heap.size t0 c0 ∧ Blk w1 (w.heap.size + 1) t1 c1 ∧ Blk w1 (w.heap.size + 1 + 1) t2 c2 ∧ w.grownBy w1 none :=
  ⟨(((Blk.new w t0 c0).alloc _).alloc _).grown hg (by simp), (by simpa using ((Blk.new (w.alloc (.cells c0 t0)) t1 c1).alloc (.cells c2 t2)).grown hg (by simp)), (by simpa using (Blk.new ((w.alloc (.cells c0 t0)).alloc (.cells c1 t1)) t2 c2).grown hg (by simp)), only_trans (only_alloc (only_alloc (only_alloc (only_refl _ _) _) _) _) hg⟩
theorem timeList : timeName.toList = [64, 116, 105, 109, 101] := by kernel_rfl
set_option maxHeartbeats 4000000 in
set_option maxRecDepth 100000 in
theorem ptimes_any (n : Nat) : ∀ (t : TT) (S : Nat → Prop) (w : World), t.Ok n → t.Sub n S w → Whole w → Calls Tryz.prog 50 #[.agg t.cells.toArray] w (SpanP w (pTimes n t)) := by
  induction n with
  | zero => intro t S w hok; exact hok.elim
  | succ n IH' =>
  intro t S w hok hsub hw
  obtain ⟨op, nm, tx, num, ka, kc, kids⟩ := t
  have IH : Hid (∀ y ∈ kids, ∀ w', w.grownBy w' none → Calls Tryz.prog 50 #[.agg #[.int .i64 y.op, .string y.nm, .string y.tx, .int .i64 y.num, .slice y.ka y.kids.length y.kc]] w' (SpanP w' (pTimes n y))) := fun y hy w' hg => IH' y S w' (hok.2.2.2.2.2 y hy) ((hsub.2.2.2 y hy).grown hg (by simp)) (hw.grown hg (by simp))
  have HK : Hid (Rd S w ka (kids.flatMap TT.cells)) := hsub.1
  have hl3 : kids.length ≤ 3 := hok.len
  have hnum : -5 ≤ num ∧ num ≤ 999999999999999999 := hok.2.2.1
  have hop : 0 ≤ op ∧ op ≤ 11 := hok.1
  have HW := Lib.hid hw
  obtain ⟨hn1, hn2⟩ := hnum
  obtain ⟨ho1, ho2⟩ := hop
  clear IH' hok hsub
  obtain ⟨r, hr⟩ : ∃ r, r = w.heap.size := ⟨_, rfl⟩
  have HR := Lib.hid hr
  have hw2 := hw.2.2
  have hr0 : 0 < r := by omega
  clear hw
  show Calls _ _ #[.agg #[.int .i64 op, .string nm, .string tx, .int .i64 num, .slice ka kids.length kc]] w _
  go_enter Tryz.func50, Tryz.ntmps50
  go_upto_region 1 with fail
  have HA0 : Hid (w.grownBy ((w.alloc (.cells #[.int .i64 op, .string nm, .string tx, .int .i64 num, .slice ka kids.length kc] 26)).alloc (.cells #[.int .i64 0, .int .i64 0] 80)) none) := only_alloc (only_alloc (only_refl _ _) _) _
  have HW0 := Lib.hid (HW.out.grown HA0.out (by simp))
  have u0 := HW0.out.1
  have u1 := HW0.out.2.1
  go_upto_region 2 with fail
  obtain ⟨w1, hw1⟩ : ∃ w1, w1 = ((w.alloc (.cells #[.int .i64 op, .string nm, .string tx, .int .i64 num, .slice ka kids.length kc] 26)).alloc (.cells #[.int .i64 0, .int .i64 0] 80)).alloc (.cells #[.int .i64 0, .int .i64 253402300799999] 80) := ⟨_, rfl⟩
  have HM0 : Hid (TMem w r #[.int .i64 op, .string nm, .string tx, .int .i64 num, .slice ka kids.length kc] (0, 253402300799999) w1) := by
    obtain ⟨B0, B1, B2, G1⟩ := three_new' (w := w) (w1 := w1) (t0 := 26) (t1 := 80) (t2 := 80) (by rw [← hw1]; exact only_refl _ _)
    rw [hr]
    exact ⟨B0, B1, B2, G1⟩
  rw [← hw1, ← hr]
  clear hw1 HA0 HW0 u0 u1 hr hw2
  have b0 := HM0.out.1.cell 0; have b1 := HM0.out.1.cell 1; have b2 := HM0.out.1.cell 2; have b3 := HM0.out.1.cell 3; have b4 := HM0.out.1.cell 4
  have d0 := HM0.out.2.1.cell 0; have d1 := HM0.out.2.1.cell 1; have d2 := HM0.out.2.1.frozen 0; have d3 := HM0.out.2.1.frozen 1
  have s0 := HM0.out.2.2.1.cell 0; have s1 := HM0.out.2.2.1.cell 1; have s2 := HM0.out.2.2.1.frozen 0; have s3 := HM0.out.2.2.1.frozen 1
  simp at b0 b1 b2 b3 b4 d0 d1 s0 s1
  by_cases h6 : op = 6
  · have g6 : (op == 6) = true := by simp [h6]
    have H6 := Lib.hid h6
    clear h6
    go_wp2_with fail
    go_loopw [16] (fun i wr => ∃ k : Nat, i = .int .i64 k ∧ k ≤ kids.length ∧ ∃ s, s = (kids.take k).foldl (fun s x => pMeet s (pTimes n x)) (0, 253402300799999) ∧ TMem w r #[.int .i64 op, .string nm, .string tx, .int .i64 num, .slice ka kids.length kc] s wr) (fun i _ => kids.length - (intOf i).toNat)
    case atStart => exact ⟨0, rfl, Nat.zero_le _, (0, 253402300799999), rfl, HM0.out⟩
    case round =>
      obtain ⟨k, rfl, hk, s, hs, hM⟩ := hrel
      have HM := Lib.hid hM
      obtain ⟨v1, v2⟩ := s
      have HS := Lib.hid hs
      clear hM hs HM0
      have hltr := HM.out.lt
      by_cases hlt : k < kids.length
      · obtain ⟨y, hy⟩ : ∃ y, kids[k]? = some y := ⟨_, List.getElem?_eq_getElem hlt⟩
        obtain ⟨kb, ko, rfl, hkw, z0, z1, z2, z3, z4⟩ := kid_in (HK.out.grown HM.out.2.2.2 (by simp)) hy
        have HI := Lib.hid (IH.out y (List.mem_of_getElem? hy))
        have HT : Hid ((kids.take (k + 1)).foldl (fun s x => pMeet s (pTimes n x)) (0, 253402300799999) = pMeet (v1, v2) (pTimes n y)) := by
          rw [List.take_succ_eq_append_getElem hlt, List.foldl_append, ← HS.out]
          rw [List.getElem?_eq_getElem hlt] at hy
          injection hy with hy
          rw [hy]
          rfl
        clear hy HS
        have hne1 : kb ≠ wr.heap.size := by omega
        have b0 := HM.out.1.cell 0; have b1 := HM.out.1.cell 1; have b2 := HM.out.1.cell 2; have b3 := HM.out.1.cell 3; have b4 := HM.out.1.cell 4
        have d0 := HM.out.2.1.cell 0; have d1 := HM.out.2.1.cell 1; have d2 := HM.out.2.1.frozen 0; have d3 := HM.out.2.1.frozen 1
        have s0 := HM.out.2.2.1.cell 0; have s1 := HM.out.2.2.1.cell 1; have s2 := HM.out.2.2.1.frozen 0; have s3 := HM.out.2.2.1.frozen 1
        simp at b0 b1 b2 b3 b4 d0 d1 s0 s1
        go_wp2_with fail
        have HN := Lib.hid (HM.out.alloc (.cells #[.int .i64 y.op, .string y.nm, .string y.tx, .int .i64 y.num, .slice y.ka y.kids.length y.kc] 26))
        have HB := Lib.hid (Blk.new wr 26 #[.int .i64 y.op, .string y.nm, .string y.tx, .int .i64 y.num, .slice y.ka y.kids.length y.kc])
        go_region_law (first
          | (have htok := hgk; go_simp; go_at_call 81; refine (meet_any (v1, v2) (pTimes n y) _).mono ?_; rintro e w6 ⟨rfl, hg6⟩; simp only [spanV]; have HM6 := Lib.hid (HM5.out.grown hg6); have q2 := HM6.out.2.2.1.frozen 0; have q3 := HM6.out.2.2.1.frozen 1; have q0 := HM6.out.2.2.1.cell 0; have q1 := HM6.out.2.2.1.cell 1; simp at q0 q1)
          | (go_simp; go_at_call 50; refine (HI.out _ (only_trans (by exact HN.out.drew.2.2.2) (only_refl _ _))).mono ?_; rintro e w5 ⟨rfl, hg5⟩; simp only [spanV]; have hgk : True := trivial; have HM5 := Lib.hid (HN.out.drew.grown hg5); have p0 := HM5.out.2.2.1.cell 0; have p1 := HM5.out.2.2.1.cell 1; simp at p0 p1))
        all_goals
          have HM7 := Lib.hid (HM6.out.set2 (by have := HR.out; omega) (pMeet (v1, v2) (pTimes n y)))
          clear q0 q1 q2 q3 p0 p1 HM6 HM5 HN HB HI hg5 hg6 HM
          go_wp2_with fail
          go_roundw
          case rel => exact ⟨k + 1, by go_num, by omega, _, HT.out.symm, HM7.out⟩
          case measure => simp [intOf]; omega
      · have hv : pTimes (n + 1) (.mk op nm tx num ka kc kids) = (v1, v2) := by
          rw [HS.out, List.take_of_length_le (by omega)]
          simp [pTimes, TT.op, TT.kids, H6.out]
        clear HS
        have b0 := HM.out.1.cell 0; have b1 := HM.out.1.cell 1; have b2 := HM.out.1.cell 2; have b3 := HM.out.1.cell 3; have b4 := HM.out.1.cell 4
        have d0 := HM.out.2.1.cell 0; have d1 := HM.out.2.1.cell 1; have d2 := HM.out.2.1.frozen 0; have d3 := HM.out.2.1.frozen 1
        have s0 := HM.out.2.2.1.cell 0; have s1 := HM.out.2.2.1.cell 1; have s2 := HM.out.2.2.1.frozen 0; have s3 := HM.out.2.2.1.frozen 1
        simp at b0 b1 b2 b3 b4 d0 d1 s0 s1
        go_wp2_with fail
        rw [hv]
        obtain ⟨q0, q1, q2⟩ := set2_end HM.out.2.1 rfl HM.out.2.2.2 (by have := HR.out; omega) (.int .i64 (v1)) (.int .i64 (v2))
        exact bodyPost_ret (v := spanV (v1, v2)) (by simp [results, Tryz.results50, go_sem, spanV, q0, q1]) rfl ⟨rfl, q2⟩
  have g6 : (op == 6) = false := by simp [h6]
  by_cases h7 : op = 7
  · have g7 : (op == 7) = true := by simp [h7]
    have H7 := Lib.hid h7
    clear h7
    have HM1 := Lib.hid (HM0.out.set2 (by have := HR.out; omega) (1, 0))
    clear HM0
    go_wp2_with fail
    go_loopw [33] (fun i wr => ∃ k : Nat, i = .int .i64 k ∧ k ≤ kids.length ∧ ∃ s, s = (kids.take k).foldl (fun s x => pJoin s (pTimes n x)) (1, 0) ∧ TMem w r #[.int .i64 op, .string nm, .string tx, .int .i64 num, .slice ka kids.length kc] s wr) (fun i _ => kids.length - (intOf i).toNat)
    case atStart => exact ⟨0, rfl, Nat.zero_le _, (1, 0), rfl, HM1.out⟩
    case round =>
      obtain ⟨k, rfl, hk, s, hs, hM⟩ := hrel
      have HM := Lib.hid hM
      obtain ⟨v1, v2⟩ := s
      have HS := Lib.hid hs
      clear hM hs HM1
      have hltr := HM.out.lt
      by_cases hlt : k < kids.length
      · obtain ⟨y, hy⟩ : ∃ y, kids[k]? = some y := ⟨_, List.getElem?_eq_getElem hlt⟩
        obtain ⟨kb, ko, rfl, hkw, z0, z1, z2, z3, z4⟩ := kid_in (HK.out.grown HM.out.2.2.2 (by simp)) hy
        have HI := Lib.hid (IH.out y (List.mem_of_getElem? hy))
        have HT : Hid ((kids.take (k + 1)).foldl (fun s x => pJoin s (pTimes n x)) (1, 0) = pJoin (v1, v2) (pTimes n y)) := by
          rw [List.take_succ_eq_append_getElem hlt, List.foldl_append, ← HS.out]
          rw [List.getElem?_eq_getElem hlt] at hy
          injection hy with hy
          rw [hy]
          rfl
        clear hy HS
        have hne1 : kb ≠ wr.heap.size := by omega
        have b0 := HM.out.1.cell 0; have b1 := HM.out.1.cell 1; have b2 := HM.out.1.cell 2; have b3 := HM.out.1.cell 3; have b4 := HM.out.1.cell 4
        have d0 := HM.out.2.1.cell 0; have d1 := HM.out.2.1.cell 1; have d2 := HM.out.2.1.frozen 0; have d3 := HM.out.2.1.frozen 1
        have s0 := HM.out.2.2.1.cell 0; have s1 := HM.out.2.2.1.cell 1; have s2 := HM.out.2.2.1.frozen 0; have s3 := HM.out.2.2.1.frozen 1
        simp at b0 b1 b2 b3 b4 d0 d1 s0 s1
        go_wp2_with fail
        have HN := Lib.hid (HM.out.alloc (.cells #[.int .i64 y.op, .string y.nm, .string y.tx, .int .i64 y.num, .slice y.ka y.kids.length y.kc] 26))
        have HB := Lib.hid (Blk.new wr 26 #[.int .i64 y.op, .string y.nm, .string y.tx, .int .i64 y.num, .slice y.ka y.kids.length y.kc])
        go_region_law (first
          | (have htok := hgk; go_simp; go_at_call 82; refine (join_any (v1, v2) (pTimes n y) _).mono ?_; rintro e w6 ⟨rfl, hg6⟩; simp only [spanV]; have HM6 := Lib.hid (HM5.out.grown hg6); have q2 := HM6.out.2.2.1.frozen 0; have q3 := HM6.out.2.2.1.frozen 1; have q0 := HM6.out.2.2.1.cell 0; have q1 := HM6.out.2.2.1.cell 1; simp at q0 q1)
          | (go_simp; go_at_call 50; refine (HI.out _ (only_trans (by exact HN.out.drew.2.2.2) (only_refl _ _))).mono ?_; rintro e w5 ⟨rfl, hg5⟩; simp only [spanV]; have hgk : True := trivial; have HM5 := Lib.hid (HN.out.drew.grown hg5); have p0 := HM5.out.2.2.1.cell 0; have p1 := HM5.out.2.2.1.cell 1; simp at p0 p1))
        all_goals
          have HM7 := Lib.hid (HM6.out.set2 (by have := HR.out; omega) (pJoin (v1, v2) (pTimes n y)))
          clear q0 q1 q2 q3 p0 p1 HM6 HM5 HN HB HI hg5 hg6 HM
          go_wp2_with fail
          go_roundw
          case rel => exact ⟨k + 1, by go_num, by omega, _, HT.out.symm, HM7.out⟩
          case measure => simp [intOf]; omega
      · have hv : pTimes (n + 1) (.mk op nm tx num ka kc kids) = (v1, v2) := by
          rw [HS.out, List.take_of_length_le (by omega)]
          simp [pTimes, TT.op, TT.kids, H7.out]
        clear HS
        have b0 := HM.out.1.cell 0; have b1 := HM.out.1.cell 1; have b2 := HM.out.1.cell 2; have b3 := HM.out.1.cell 3; have b4 := HM.out.1.cell 4
        have d0 := HM.out.2.1.cell 0; have d1 := HM.out.2.1.cell 1; have d2 := HM.out.2.1.frozen 0; have d3 := HM.out.2.1.frozen 1
        have s0 := HM.out.2.2.1.cell 0; have s1 := HM.out.2.2.1.cell 1; have s2 := HM.out.2.2.1.frozen 0; have s3 := HM.out.2.2.1.frozen 1
        simp at b0 b1 b2 b3 b4 d0 d1 s0 s1
        go_wp2_with fail
        rw [hv]
        obtain ⟨q0, q1, q2⟩ := set2_end HM.out.2.1 rfl HM.out.2.2.2 (by have := HR.out; omega) (.int .i64 (v1)) (.int .i64 (v2))
        exact bodyPost_ret (v := spanV (v1, v2)) (by simp [results, Tryz.results50, go_sem, spanV, q0, q1]) rfl ⟨rfl, q2⟩
  have g7 : (op == 7) = false := by simp [h7]
  have H67 : Hid (op ≠ 6 ∧ op ≠ 7) := ⟨h6, h7⟩
  clear h6 h7
  by_cases hnm : nm = timeName
  · have gn : (nm.toList == [64, 116, 105, 109, 101]) = true := by rw [hnm, timeList]; simp
    have HN := Lib.hid hnm
    clear hnm
    by_cases h9 : op = 9 ∧ num ≤ 253402300799999
    · have g9 : (op == 9) = true := by simp [h9.1]
      have e1 := h9.2
      have hv : pTimes (n + 1) (.mk op nm tx num ka kc kids) = (0, max num 0 - 1) := by simp [pTimes, TT.op, TT.nm, TT.num, HN.out, h9.1, h9.2]
      clear h9
      go_wp2_with fail
      all_goals
        try rw [hv]
        first
        | (have hx : max num 0 - 1 = -1 := by omega
           rw [hx]
           have HX := Lib.hid (HM0.out.setb (by have := HR.out; omega) (-1))
           obtain ⟨q0, q1, q2⟩ := set2_end HX.out.2.1 rfl HX.out.2.2.2 (by have := HR.out; omega) (.int .i64 (0)) (.int .i64 (-1))
           exact bodyPost_ret (v := spanV (0, -1)) (by simp [results, Tryz.results50, go_sem, spanV, q0, q1]) rfl ⟨rfl, q2⟩)
        | (have hx : max num 0 - 1 = num - 1 := by omega
           rw [hx]
           have HX := Lib.hid (HM0.out.setb (by have := HR.out; omega) (num - 1))
           obtain ⟨q0, q1, q2⟩ := set2_end HX.out.2.1 rfl HX.out.2.2.2 (by have := HR.out; omega) (.int .i64 (0)) (.int .i64 (num - 1))
           exact bodyPost_ret (v := spanV (0, num - 1)) (by simp [results, Tryz.results50, go_sem, spanV, q0, q1]) rfl ⟨rfl, q2⟩)
    by_cases h10 : op = 10 ∧ 0 ≤ num
    · have g9 : (op == 9) = false := by simp [h10.1]
      have g10 : (op == 10) = true := by simp [h10.1]
      have e1 := h10.2
      have hv : pTimes (n + 1) (.mk op nm tx num ka kc kids) = (min num 253402300799999 + 1, 253402300799999) := by simp [pTimes, TT.op, TT.nm, TT.num, HN.out, h10.1, h10.2]
      clear h10 h9
      go_wp2_with fail
      all_goals
        try rw [hv]
        first
        | (have hx : min num 253402300799999 + 1 = num + 1 := by omega
           rw [hx]
           have HX := Lib.hid (HM0.out.seta (by have := HR.out; omega) (num + 1))
           obtain ⟨q0, q1, q2⟩ := set2_end HX.out.2.1 rfl HX.out.2.2.2 (by have := HR.out; omega) (.int .i64 (num + 1)) (.int .i64 (253402300799999))
           exact bodyPost_ret (v := spanV (num + 1, 253402300799999)) (by simp [results, Tryz.results50, go_sem, spanV, q0, q1]) rfl ⟨rfl, q2⟩)
        | (have hx : min num 253402300799999 + 1 = 253402300800000 := by omega
           rw [hx]
           have HX := Lib.hid (HM0.out.seta (by have := HR.out; omega) 253402300800000)
           obtain ⟨q0, q1, q2⟩ := set2_end HX.out.2.1 rfl HX.out.2.2.2 (by have := HR.out; omega) (.int .i64 (253402300800000)) (.int .i64 (253402300799999))
           exact bodyPost_ret (v := spanV (253402300800000, 253402300799999)) (by simp [results, Tryz.results50, go_sem, spanV, q0, q1]) rfl ⟨rfl, q2⟩)
    by_cases h11 : op = 11
    · have g9 : (op == 9) = false := by simp [h11]
      have g10 : (op == 10) = false := by simp [h11]
      have g11 : (op == 11) = true := by simp [h11]
      have hv : pTimes (n + 1) (.mk op nm tx num ka kc kids) = pMeet (0, 253402300799999) (num, num) := by simp [pTimes, TT.op, TT.nm, TT.num, HN.out, h11]
      clear h10 h9 h11
      go_wp2_with fail
      refine (meet_any (0, 253402300799999) (num, num) _).mono ?_
      rintro e w6 ⟨rfl, hg6⟩
      simp only [spanV]
      have HM6 := Lib.hid (HM0.out.grown hg6)
      have b0 := HM6.out.1.cell 0; have b1 := HM6.out.1.cell 1; have b2 := HM6.out.1.cell 2; have b3 := HM6.out.1.cell 3; have b4 := HM6.out.1.cell 4
      have d0 := HM6.out.2.1.cell 0; have d1 := HM6.out.2.1.cell 1; have d2 := HM6.out.2.1.frozen 0; have d3 := HM6.out.2.1.frozen 1
      have s0 := HM6.out.2.2.1.cell 0; have s1 := HM6.out.2.2.1.cell 1; have s2 := HM6.out.2.2.1.frozen 0; have s3 := HM6.out.2.2.1.frozen 1
      simp at b0 b1 b2 b3 b4 d0 d1 s0 s1
      have HM7 := Lib.hid (HM6.out.set2 (by have := HR.out; omega) (pMeet (0, 253402300799999) (num, num)))
      clear hg6 HM0
      go_wp2_with fail
      rw [hv]
      obtain ⟨q0, q1, q2⟩ := set2_end HM7.out.2.1 rfl HM7.out.2.2.2 (by have := HR.out; omega) (.int .i64 ((pMeet (0, 253402300799999) (num, num)).1)) (.int .i64 ((pMeet (0, 253402300799999) (num, num)).2))
      exact bodyPost_ret (v := spanV ((pMeet (0, 253402300799999) (num, num)).1, (pMeet (0, 253402300799999) (num, num)).2)) (by simp [results, Tryz.results50, go_sem, spanV, q0, q1]) rfl ⟨rfl, q2⟩
    · have g11 : (op == 11) = false := by simp [h11]
      have hv : pTimes (n + 1) (.mk op nm tx num ka kc kids) = (0, 253402300799999) := by simp [pTimes, TT.op, TT.nm, TT.num, HN.out, H67.out.1, H67.out.2, h9, h10, h11]
      by_cases k9 : op = 9
      · have g9 : (op == 9) = true := by simp [k9]
        have g10 : (op == 10) = false := by simp [k9]
        have e1 : 253402300799999 < num := by omega
        clear h9 h10 h11 k9
        go_wp2_with fail
        try rw [hv]
        obtain ⟨q0, q1, q2⟩ := set2_end HM0.out.2.1 rfl HM0.out.2.2.2 (by have := HR.out; omega) (.int .i64 (0)) (.int .i64 (253402300799999))
        exact bodyPost_ret (v := spanV (0, 253402300799999)) (by simp [results, Tryz.results50, go_sem, spanV, q0, q1]) rfl ⟨rfl, q2⟩
      have g9 : (op == 9) = false := by simp [k9]
      by_cases k10 : op = 10
      · have g10 : (op == 10) = true := by simp [k10]
        have e1 : num < 0 := by omega
        clear h9 h10 h11 k9 k10
        go_wp2_with fail
        try rw [hv]
        obtain ⟨q0, q1, q2⟩ := set2_end HM0.out.2.1 rfl HM0.out.2.2.2 (by have := HR.out; omega) (.int .i64 (0)) (.int .i64 (253402300799999))
        exact bodyPost_ret (v := spanV (0, 253402300799999)) (by simp [results, Tryz.results50, go_sem, spanV, q0, q1]) rfl ⟨rfl, q2⟩
      have g10 : (op == 10) = false := by simp [k10]
      clear h9 h10 h11 k9 k10
      go_wp2_with fail
      rw [hv]
      obtain ⟨q0, q1, q2⟩ := set2_end HM0.out.2.1 rfl HM0.out.2.2.2 (by have := HR.out; omega) (.int .i64 (0)) (.int .i64 (253402300799999))
      exact bodyPost_ret (v := spanV (0, 253402300799999)) (by simp [results, Tryz.results50, go_sem, spanV, q0, q1]) rfl ⟨rfl, q2⟩
  · have gn : (nm.toList == [64, 116, 105, 109, 101]) = false := by
      rw [beq_eq_false_iff_ne]; intro e; rw [← timeList] at e; exact hnm (toList_inj e)
    have hv : pTimes (n + 1) (.mk op nm tx num ka kc kids) = (0, 253402300799999) := by simp [pTimes, TT.op, TT.nm, H67.out.1, H67.out.2, hnm]
    clear hnm
    go_wp2_with fail
    rw [hv]
    obtain ⟨q0, q1, q2⟩ := set2_end HM0.out.2.1 rfl HM0.out.2.2.2 (by have := HR.out; omega) (.int .i64 (0)) (.int .i64 (253402300799999))
    exact bodyPost_ret (v := spanV (0, 253402300799999)) (by simp [results, Tryz.results50, go_sem, spanV, q0, q1]) rfl ⟨rfl, q2⟩
end Go.Proofs.YtceebhgbebkafaaGreatDoor
