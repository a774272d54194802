/- index and Find of the program's manifest. No condition. -/
import Derived.Test.YtphglalphejppaaMFind
namespace Go.Proofs.Ytphglalphejppaa
open Go.RowKit
set_option linter.unusedVariables false
set_option linter.unusedSimpArgs false

def BoolExtB (b : Bool) (w : World) (e : Ending) (w' : World) : Prop := e = .returned (.bool b) ∧ w.grownBy w' none
set_option maxHeartbeats 1000000 in
theorem idx1_any (s : SegD) (id : Int) (ib : Nat) (w : World) (hc : w.cell? ⟨ib, 0, none⟩ = some (.int .i64 id)) (hlt : ib < w.heap.size) :
    Calls Try.prog 71 #[.agg s.cells.toArray, .pointer (some ⟨ib, 0, none⟩)] w (BoolExtB (s.id == id) w) := by
  have hne : ib ≠ w.heap.size := by omega
  simp only [SegD.cells]
  go_enter Try.func71, Try.ntmps71
  go_wp2_with fail
  go_ret
  exact ⟨rfl, only_alloc (only_refl _ _) _⟩
def IdxPost (v : Int) (w : World) (e : Ending) (w' : World) : Prop := e = .returned (.int .i64 v) ∧ w.grownBy w' none
set_option maxHeartbeats 2000000 in
set_option maxRecDepth 100000 in
theorem indexfunc_any {S : Nat → Prop} (A : Option Addr) (ss : List SegD) (c : Nat) (id : Int) (ib : Nat) (w : World) (h : Rd S w A (ss.flatMap SegD.cells)) (hl : ss.length ≤ 100000) (hc : w.cell? ⟨ib, 0, none⟩ = some (.int .i64 id)) (hlt : ib < w.heap.size) :
    Calls Try.prog 70 #[.slice A ss.length c, .func (Fn.func 71) #[] #[.pointer (some ⟨ib, 0, none⟩)]] w (IdxPost (segI ss id) w) := by
  have H := Lib.hid h
  have HC := Lib.hid hc
  clear h hc
  go_enter Try.func70, Try.ntmps70
  go_wp2_with fail
  go_loopw [8] (fun vi wr => ∃ k : Nat, vi = .int .i64 k ∧ k ≤ ss.length ∧ (∀ j t, j < k → ss[j]? = some t → t.id ≠ id) ∧ w.grownBy wr none) (fun vi _ => ss.length - (intOf vi).toNat)
  case atStart => exact ⟨0, rfl, Nat.zero_le _, fun j t hj => by omega, only_refl _ _⟩
  case round =>
    obtain ⟨k, rfl, hk, hno, hG⟩ := hrel
    have NO := Lib.hid hno
    have G := Lib.hid hG
    have hszr := hG.size
    clear hno hG
    by_cases hkl : k < ss.length
    · obtain ⟨b, o, rfl, -, -, -⟩ := H.out (by rw [flat_len _ 7 SegD.cells_len]; omega)
      obtain ⟨s, hs⟩ : ∃ s, ss[k]? = some s := ⟨_, List.getElem?_eq_getElem hkl⟩
      have hr := H.out.grown G.out (by simp)
      have d0 : wr.cell? ⟨b, o + k * 7, none⟩ = some (.int .i64 s.id) := hr.flatAt SegD.cells_len hs 0 (by omega)
      have d1 : wr.cell? ⟨b, o + k * 7 + 1, none⟩ = some (.int .i64 s.level) := hr.flatAt SegD.cells_len hs 1 (by omega)
      have d2 : wr.cell? ⟨b, o + k * 7 + 2, none⟩ = some (.int .i64 s.tier) := hr.flatAt SegD.cells_len hs 2 (by omega)
      have d3 : wr.cell? ⟨b, o + k * 7 + 3, none⟩ = some (.int .i64 s.count) := hr.flatAt SegD.cells_len hs 3 (by omega)
      have d4 : wr.cell? ⟨b, o + k * 7 + 4, none⟩ = some (.int .i64 s.min) := hr.flatAt SegD.cells_len hs 4 (by omega)
      have d5 : wr.cell? ⟨b, o + k * 7 + 5, none⟩ = some (.int .i64 s.max) := hr.flatAt SegD.cells_len hs 5 (by omega)
      have d6 : wr.cell? ⟨b, o + k * 7 + 6, none⟩ = some (.int .i64 s.size) := hr.flatAt SegD.cells_len hs 6 (by omega)
      have KC : Hid (Calls Try.prog 71 #[.agg s.cells.toArray, .pointer (some ⟨ib, 0, none⟩)] wr (BoolExtB (s.id == id) wr)) := Lib.hid (idx1_any s id ib wr ((World.cell?_of_block (a := ⟨ib, 0, none⟩) (G.out.block ib hlt (by simp))).trans HC.out) (by omega))
      have HS := Lib.hid hs
      have i1 : (k : Int) < (ss.length : Int) := by omega
      have i2 : (0 : Int) ≤ (k : Int) := by omega
      obtain ⟨B, hB⟩ : ∃ B : Bool, B = (s.id == id) := ⟨_, rfl⟩
      rw [← hB] at KC
      have HB := Lib.hid hB
      clear hs hr hB
      cases B with
      | true =>
        go_wp2_with fail
        refine KC.out.mono ?_
        rintro e w2 ⟨rfl, hg2⟩
        clear d0 d1 d2 d3 d4 d5 d6
        go_wp2_with fail
        go_ret
        exact ⟨ret_int (segI_at HS.out (by simpa using HB.out.symm) NO.out).symm, only_trans G.out hg2⟩
      | false =>
        go_wp2_with fail
        refine KC.out.mono ?_
        rintro e w2 ⟨rfl, hg2⟩
        have G2 : Hid (w.grownBy w2 none) := Lib.hid (only_trans G.out hg2)
        clear d0 d1 d2 d3 d4 d5 d6 hg2
        go_wp2_with fail
        go_roundw
        case rel =>
          refine ⟨k + 1, by go_num, by omega, fun j t hj ht => ?_, G2.out⟩
          by_cases e : j = k
          · subst e
            rw [HS.out] at ht; injection ht with ht; rw [← ht]
            have := HB.out
            simpa using this.symm
          · exact NO.out j t (by omega) ht
        case measure => simp [intOf]; omega
    · have i1 : ¬ ((k : Int) < (ss.length : Int)) := by omega
      have HK : Hid (k = ss.length) := Lib.hid (by omega)
      clear hkl
      go_wp2_with fail
      go_ret
      exact ⟨ret_int (segI_no (fun j t hj => NO.out j t (by have := HK.out; omega))).symm, G.out⟩
def MIdxPost (ss : List SegD) (id : Int) (w : World) (e : Ending) (w' : World) : Prop := e = .returned (.tuple #[.int .i64 (segI ss id), .bool (decide (0 ≤ segI ss id))]) ∧ w.grownBy w' none
set_option maxHeartbeats 2000000 in
set_option maxRecDepth 100000 in
theorem mindex_any {S : Nat → Prop} (num nid jn : Int) (A : Option Addr) (ss : List SegD) (c : Nat) (B : Option Addr) (nb d : Nat) (C : Option Addr) (nc f : Nat) (E : Option Addr) (ne h : Nat) (id : Int) (w : World) (hr : Rd S w A (ss.flatMap SegD.cells)) (hl : ss.length ≤ 100000) :
    Calls Try.prog 59 #[.agg #[.int .i64 num, .int .i64 nid, .int .i64 jn, .slice A ss.length c, .slice B nb d, .slice C nc f, .slice E ne h], .int .i64 id] w (MIdxPost ss id w) := by
  obtain ⟨W1, hW1⟩ : ∃ W1, W1 = (w.alloc (.cells #[.int .i64 num, .int .i64 nid, .int .i64 jn, .slice A ss.length c, .slice B nb d, .slice C nc f, .slice E ne h] 52)).alloc (.cells #[.int .i64 id] 3) := ⟨_, rfl⟩
  have G1 : Hid (w.grownBy W1 none) := Lib.hid (by rw [hW1]; exact only_alloc (only_alloc (only_refl _ _) _) _)
  have B2 : Hid (Blk W1 (w.heap.size + 1) 3 #[.int .i64 id]) := Lib.hid (by rw [hW1]; have := Blk.new (w.alloc (.cells #[.int .i64 num, .int .i64 nid, .int .i64 jn, .slice A ss.length c, .slice B nb d, .slice C nc f, .slice E ne h] 52)) 3 #[.int .i64 id]; simpa using this)
  have KI : Hid (Calls Try.prog 70 #[.slice A ss.length c, .func (Fn.func 71) #[] #[.pointer (some ⟨w.heap.size + 1, 0, none⟩)]] W1 (IdxPost (segI ss id) W1)) := Lib.hid (indexfunc_any A ss c id (w.heap.size + 1) W1 (hr.grown G1.out (by simp)) hl (by have := B2.out.cell 0; simpa using this) B2.out.lt)
  have HW := Lib.hid hW1.symm
  clear hW1 hr
  have hv : -1 ≤ segI ss id := by unfold segI; split <;> omega
  obtain ⟨v, hI⟩ : ∃ v, segI ss id = v := ⟨_, rfl⟩
  rw [hI] at hv KI
  have HI := Lib.hid hI
  clear hI
  go_enter Try.func59, Try.ntmps59
  go_wp2_with fail
  rw [HW.out]
  refine KI.out.mono ?_
  rintro e w2 ⟨rfl, hg2⟩
  have G2 : Hid (w.grownBy w2 none) := Lib.hid (only_trans G1.out hg2)
  clear hg2 KI B2 HW
  go_wp2_with fail
  go_ret2
  exact ⟨by rw [HI.out]; rfl, G2.out⟩
set_option maxHeartbeats 2000000 in
set_option maxRecDepth 100000 in
theorem mfind_any {S : Nat → Prop} (num nid jn : Int) (A : Option Addr) (ss : List SegD) (c : Nat) (B : Option Addr) (nb d : Nat) (C : Option Addr) (nc f : Nat) (E : Option Addr) (ne h : Nat) (id : Int) (w : World) (hr : Rd S w A (ss.flatMap SegD.cells)) (hl : ss.length ≤ 100000) :
    Calls Try.prog 46 #[.agg #[.int .i64 num, .int .i64 nid, .int .i64 jn, .slice A ss.length c, .slice B nb d, .slice C nc f, .slice E ne h], .int .i64 id] w (FindPost w ss id) := by
  obtain ⟨W1, hW1⟩ : ∃ W1, W1 = (w.alloc (.cells #[.int .i64 num, .int .i64 nid, .int .i64 jn, .slice A ss.length c, .slice B nb d, .slice C nc f, .slice E ne h] 52)).alloc (.cells #[.int .i64 0, .int .i64 0, .int .i64 0, .int .i64 0, .int .i64 0, .int .i64 0, .int .i64 0] 29) := ⟨_, rfl⟩
  have G1 : Hid (w.grownBy W1 none) := Lib.hid (by rw [hW1]; exact only_alloc (only_alloc (only_refl _ _) _) _)
  have H1 := Lib.hid (hr.grown G1.out (by simp))
  have KI : Hid (Calls Try.prog 59 #[.agg #[.int .i64 num, .int .i64 nid, .int .i64 jn, .slice A ss.length c, .slice B nb d, .slice C nc f, .slice E ne h], .int .i64 id] W1 (MIdxPost ss id W1)) := Lib.hid (mindex_any num nid jn A ss c B nb d C nc f E ne h id W1 H1.out hl)
  obtain ⟨mb, hmb⟩ : ∃ b, b = w.heap.size := ⟨_, rfl⟩
  obtain ⟨rb, hrb⟩ : ∃ b, b = w.heap.size + 1 := ⟨_, rfl⟩
  have B1 : Hid (Blk W1 mb 52 #[.int .i64 num, .int .i64 nid, .int .i64 jn, .slice A ss.length c, .slice B nb d, .slice C nc f, .slice E ne h]) := Lib.hid (by rw [hW1, hmb]; exact (Blk.new w _ _).alloc _)
  have B2 : Hid (Blk W1 rb 29 #[.int .i64 0, .int .i64 0, .int .i64 0, .int .i64 0, .int .i64 0, .int .i64 0, .int .i64 0]) := Lib.hid (by rw [hW1, hrb]; have := Blk.new (w.alloc (.cells #[.int .i64 num, .int .i64 nid, .int .i64 jn, .slice A ss.length c, .slice B nb d, .slice C nc f, .slice E ne h] 52)) 29 #[.int .i64 0, .int .i64 0, .int .i64 0, .int .i64 0, .int .i64 0, .int .i64 0, .int .i64 0]; simpa using this)
  have HW := Lib.hid hW1.symm
  have HMB := Lib.hid hmb
  have HRB := Lib.hid hrb
  have hmr : mb ≠ rb := by omega
  clear hW1 hr hmb hrb
  have b0 := B1.out.cell 0
  have b1 := B1.out.cell 1
  have b2 := B1.out.cell 2
  have b3 := B1.out.cell 3
  have b4 := B1.out.cell 4
  have b5 := B1.out.cell 5
  have b6 := B1.out.cell 6
  simp at b0 b1 b2 b3 b4 b5 b6
  go_enter Try.func46, Try.ntmps46
  go_upto_region 1 with fail
  rw [HW.out, ← HRB.out, ← HMB.out]
  clear HW
  go_wp2_with fail
  refine KI.out.mono ?_
  clear b0 b1 b2 b3 b4 b5 b6
  rcases segI_find (ss := ss) (id := id) with ⟨hI, hF⟩ | ⟨k, s, hI, hk, hF⟩
  · rintro e w2 ⟨he, hg2⟩
    rw [hI] at he
    obtain rfl : e = .returned (.tuple #[.int .i64 (-1), .bool false]) := he
    have HF := Lib.hid hF
    clear hI hF
    have B1' := B1.out.grown hg2 (by simp)
    have B2' := B2.out.grown hg2 (by simp)
    have hgs : ∀ (W : World), w2.grownBy W (some rb) → w.grownBy W none := fun W hW => only_fresh (only_trans G1.out hg2) hW (by have := HRB.out; omega)
    have HGS := Lib.hid hgs
    have q0 := B2'.cell 0
    have p0 := B2'.frozen 0
    have q1 := B2'.cell 1
    have p1 := B2'.frozen 1
    have q2 := B2'.cell 2
    have p2 := B2'.frozen 2
    have q3 := B2'.cell 3
    have p3 := B2'.frozen 3
    have q4 := B2'.cell 4
    have p4 := B2'.frozen 4
    have q5 := B2'.cell 5
    have p5 := B2'.frozen 5
    have q6 := B2'.cell 6
    have p6 := B2'.frozen 6
    simp at q0 q1 q2 q3 q4 q5 q6
    have c3 := B1'.cell 3
    simp at c3
    clear hgs B1' B2' hg2
    go_wp2_with fail
    exact bodyPost_ret (v := .tuple #[.agg #[.int .i64 0, .int .i64 0, .int .i64 0, .int .i64 0, .int .i64 0, .int .i64 0, .int .i64 0], .bool false]) (by simp [results, Try.results46, go_sem, q0, q1, q2, q3, q4, q5, q6]) rfl ⟨HGS.out _ (only_setCell (only_setCell (only_setCell (only_setCell (only_setCell (only_setCell (only_setCell (only_refl w2 (some rb)) (p := ⟨rb, 0, none⟩) (.inl rfl) (.int .i64 0)) (p := ⟨rb, 1, none⟩) (.inl rfl) (.int .i64 0)) (p := ⟨rb, 2, none⟩) (.inl rfl) (.int .i64 0)) (p := ⟨rb, 3, none⟩) (.inl rfl) (.int .i64 0)) (p := ⟨rb, 4, none⟩) (.inl rfl) (.int .i64 0)) (p := ⟨rb, 5, none⟩) (.inl rfl) (.int .i64 0)) (p := ⟨rb, 6, none⟩) (.inl rfl) (.int .i64 0)), .inl ⟨HF.out, rfl⟩⟩
  · rintro e w2 ⟨he, hg2⟩
    rw [hI] at he
    obtain rfl : e = .returned (.tuple #[.int .i64 k, .bool true]) := by rw [he]; simp
    have HF := Lib.hid hF
    obtain ⟨hkl, -⟩ := List.getElem?_eq_some_iff.1 hk
    obtain ⟨b, o, rfl, -, -, -⟩ := H1.out (by rw [flat_len _ 7 SegD.cells_len]; omega)
    have hr := H1.out.grown hg2 (by simp)
    have d0 : w2.cell? ⟨b, o + k * 7, none⟩ = some (.int .i64 s.id) := hr.flatAt SegD.cells_len hk 0 (by omega)
    have d1 : w2.cell? ⟨b, o + k * 7 + 1, none⟩ = some (.int .i64 s.level) := hr.flatAt SegD.cells_len hk 1 (by omega)
    have d2 : w2.cell? ⟨b, o + k * 7 + 2, none⟩ = some (.int .i64 s.tier) := hr.flatAt SegD.cells_len hk 2 (by omega)
    have d3 : w2.cell? ⟨b, o + k * 7 + 3, none⟩ = some (.int .i64 s.count) := hr.flatAt SegD.cells_len hk 3 (by omega)
    have d4 : w2.cell? ⟨b, o + k * 7 + 4, none⟩ = some (.int .i64 s.min) := hr.flatAt SegD.cells_len hk 4 (by omega)
    have d5 : w2.cell? ⟨b, o + k * 7 + 5, none⟩ = some (.int .i64 s.max) := hr.flatAt SegD.cells_len hk 5 (by omega)
    have d6 : w2.cell? ⟨b, o + k * 7 + 6, none⟩ = some (.int .i64 s.size) := hr.flatAt SegD.cells_len hk 6 (by omega)
    have i1 : (k : Int) < (ss.length : Int) := by omega
    have i2 : (0 : Int) ≤ (k : Int) := by omega
    have B1' := B1.out.grown hg2 (by simp)
    have B2' := B2.out.grown hg2 (by simp)
    have hgs : ∀ (W : World), w2.grownBy W (some rb) → w.grownBy W none := fun W hW => only_fresh (only_trans G1.out hg2) hW (by have := HRB.out; omega)
    have HGS := Lib.hid hgs
    have q0 := B2'.cell 0
    have p0 := B2'.frozen 0
    have q1 := B2'.cell 1
    have p1 := B2'.frozen 1
    have q2 := B2'.cell 2
    have p2 := B2'.frozen 2
    have q3 := B2'.cell 3
    have p3 := B2'.frozen 3
    have q4 := B2'.cell 4
    have p4 := B2'.frozen 4
    have q5 := B2'.cell 5
    have p5 := B2'.frozen 5
    have q6 := B2'.cell 6
    have p6 := B2'.frozen 6
    simp at q0 q1 q2 q3 q4 q5 q6
    have c3 := B1'.cell 3
    simp at c3
    clear hI hF hk he hgs B1' B2' hg2 hr
    go_wp2_with fail
    exact bodyPost_ret (v := .tuple #[.agg #[.int .i64 s.id, .int .i64 s.level, .int .i64 s.tier, .int .i64 s.count, .int .i64 s.min, .int .i64 s.max, .int .i64 s.size], .bool true]) (by simp [results, Try.results46, go_sem, q0, q1, q2, q3, q4, q5, q6]) rfl ⟨HGS.out _ (only_setCell (only_setCell (only_setCell (only_setCell (only_setCell (only_setCell (only_setCell (only_refl w2 (some rb)) (p := ⟨rb, 0, none⟩) (.inl rfl) (.int .i64 s.id)) (p := ⟨rb, 1, none⟩) (.inl rfl) (.int .i64 s.level)) (p := ⟨rb, 2, none⟩) (.inl rfl) (.int .i64 s.tier)) (p := ⟨rb, 3, none⟩) (.inl rfl) (.int .i64 s.count)) (p := ⟨rb, 4, none⟩) (.inl rfl) (.int .i64 s.min)) (p := ⟨rb, 5, none⟩) (.inl rfl) (.int .i64 s.max)) (p := ⟨rb, 6, none⟩) (.inl rfl) (.int .i64 s.size)), .inr ⟨s, HF.out, rfl⟩⟩
end Go.Proofs.Ytphglalphejppaa
