/- account.Balanced. Condition: sizes. -/
import Derived.Test.YtiogpomgpknjlaaJRepA
import Derived.Deep.DeepCutAuto
import Derived.Test.YtiogpomgpknjlaaJRRep
namespace Go.Proofs.Ytiogpomgpknjlaa
open Go.RowKit
set_option linter.unusedVariables false
set_option linter.unusedSimpArgs false

/-- a balance in bounds of which the first equation holds -/
def BIn (b : BalD) : Prop := (0 ≤ b.stored ∧ b.stored ≤ 1000000000) ∧ (0 ≤ b.dropped ∧ b.dropped ≤ 1000000000) ∧ (0 ≤ b.live ∧ b.live ≤ 1000000000) ∧ (0 ≤ b.expired ∧ b.expired ≤ 1000000000) ∧ b.received = b.stored + b.dropped
def okB (b : BalD) : Bool := decide (b.stored = b.live + b.expired)
def okL (L : List BalD) : Bool := L.all okB
def BoolP (v : Bool) (w : World) (e : Ending) (w' : World) : Prop := e = .returned (.bool v) ∧ w.grownBy w' none
set_option maxHeartbeats 2000000 in
set_option maxRecDepth 100000 in
theorem bclo_any (b : BalD) (w : World) (hb : BIn b) : Calls Try.prog 50 #[.agg b.cells.toArray] w (BoolP (!okB b) w) := by
  obtain ⟨W1, hW1⟩ : ∃ W, W = w.alloc (.cells b.cells.toArray 85) := ⟨_, rfl⟩
  obtain ⟨g, hg⟩ : ∃ g, g = w.heap.size := ⟨_, rfl⟩
  have hB : Blk W1 g 85 b.cells.toArray := by rw [hW1, hg]; exact Blk.new w _ _
  have HG : Hid (w.grownBy W1 none) := Lib.hid (by rw [hW1]; exact only_alloc (only_refl _ _) _)
  have c1 := hB.cell 1
  have c2 := hB.cell 2
  have c3 := hB.cell 3
  have c5 := hB.cell 5
  have c6 := hB.cell 6
  simp [BalD.cells] at c1 c2 c3 c5 c6
  obtain ⟨h1, h2, h3, h4, h5⟩ := hb
  rw [h5] at c1
  obtain ⟨s, hs⟩ : ∃ s, s = b.stored + b.dropped := ⟨_, rfl⟩
  obtain ⟨u, hu⟩ : ∃ u, u = b.live + b.expired := ⟨_, rfl⟩
  have hw1 : IntKind.i64.wrap (b.stored + b.dropped) = s := by rw [hs]; exact IntWalk.i64_in _ (by omega)
  have hw2 : IntKind.i64.wrap (b.live + b.expired) = u := by rw [hu]; exact IntWalk.i64_in _ (by omega)
  rw [← hs] at c1
  have HV : Hid ((!okB b) = (b.stored != u)) := Lib.hid (by
    unfold okB; rw [← hu]
    by_cases e : b.stored = u
    · simp [e]
    · simp [e])
  have HW := Lib.hid hW1.symm
  have HGG := Lib.hid hg.symm
  clear hW1 hg hB hs hu h1 h2 h3 h4 h5
  go_enter Try.func50, Try.ntmps50
  go_upto_region 1 with fail
  rw [HW.out, HGG.out]
  clear HW HGG
  have d1 : (s != s) = false := by simp
  go_wp2_with fail
  go_ret
  exact ⟨by rw [HV.out]; rfl, HG.out⟩
def IdxP (L : List BalD) (w : World) (e : Ending) (w' : World) : Prop := ∃ i : Int, e = .returned (.int .i64 i) ∧ (0 ≤ i ↔ okL L = false) ∧ w.grownBy w' none
set_option maxHeartbeats 4000000 in
set_option maxRecDepth 100000 in
theorem bidx_any {S : Nat → Prop} (A : Option Addr) (L : List BalD) (c : Nat) (w : World) (hr : Rd S w A (L.flatMap BalD.cells)) (hl : L.length ≤ 100000) (hb : ∀ b ∈ L, BIn b) :
    Calls Try.prog 69 #[.slice A L.length c, .func (.func 50) #[] #[]] w (IdxP L w) := by
  have HR := Lib.hid hr
  have HB := Lib.hid hb
  clear hr hb
  go_enter Try.func69, Try.ntmps69
  go_wp2_with fail
  go_loopw [8] (fun i wr => ∃ k : Nat, k ≤ L.length ∧ i = .int .i64 k ∧ okL (L.take k) = true ∧ w.grownBy wr none) (fun i _ => L.length - (intOf i).toNat)
  case atStart => exact ⟨0, Nat.zero_le _, rfl, rfl, only_refl _ _⟩
  case round =>
    obtain ⟨k, hk, rfl, hok, hG⟩ := hrel
    have OK := Lib.hid hok
    have G := Lib.hid hG
    have hsz := hG.size
    clear hok hG
    by_cases hlt : k < L.length
    · obtain ⟨b, hbk⟩ : ∃ b, L[k]? = some b := ⟨_, List.getElem?_eq_getElem hlt⟩
      have hrr := HR.out.grown G.out (by simp)
      obtain ⟨bb, o, rfl, -, -, -⟩ := hrr (by rw [flat_len _ 7 BalD.cells_len]; omega)
      have d0 : wr.cell? ⟨bb, o + k * 7, none⟩ = some (.int .i64 b.host) := hrr.flatAt BalD.cells_len hbk 0 (by omega)
      have d1 : wr.cell? ⟨bb, o + k * 7 + 1, none⟩ = some (.int .i64 b.received) := hrr.flatAt BalD.cells_len hbk 1 (by omega)
      have d2 : wr.cell? ⟨bb, o + k * 7 + 2, none⟩ = some (.int .i64 b.stored) := hrr.flatAt BalD.cells_len hbk 2 (by omega)
      have d3 : wr.cell? ⟨bb, o + k * 7 + 3, none⟩ = some (.int .i64 b.dropped) := hrr.flatAt BalD.cells_len hbk 3 (by omega)
      have d4 : wr.cell? ⟨bb, o + k * 7 + 4, none⟩ = some (.int .i64 b.dups) := hrr.flatAt BalD.cells_len hbk 4 (by omega)
      have d5 : wr.cell? ⟨bb, o + k * 7 + 5, none⟩ = some (.int .i64 b.live) := hrr.flatAt BalD.cells_len hbk 5 (by omega)
      have d6 : wr.cell? ⟨bb, o + k * 7 + 6, none⟩ = some (.int .i64 b.expired) := hrr.flatAt BalD.cells_len hbk 6 (by omega)
      have KB := Lib.hid (bclo_any b wr (HB.out b (List.mem_of_getElem? hbk)))
      have HT : Hid (okL (L.take (k + 1)) = okB b) := Lib.hid (by
        rw [List.take_succ_eq_append_getElem hlt]
        rw [List.getElem?_eq_getElem hlt] at hbk
        injection hbk with hbk
        unfold okL at *
        rw [hbk, List.all_append, OK.out]; simp)
      have i1 : (k : Int) < (L.length : Int) := by omega
      have hmem := List.mem_of_getElem? hbk
      clear hbk hrr
      cases hv : okB b with
      | true =>
        rw [hv] at KB HT
        clear hv
        go_wp2_with (go_at_call 50; refine KB.out.mono ?_; rintro e w2 ⟨rfl, hg2⟩)
        have G2 := Lib.hid (only_trans G.out hg2)
        go_roundw
        case rel => exact ⟨k + 1, by omega, by go_num, HT.out, G2.out⟩
        case measure => simp [intOf]; omega
      | false =>
        have HF : Hid (okL L = false) := Lib.hid (by
          cases h : okL L with
          | false => rfl
          | true =>
            unfold okL at h
            rw [List.all_eq_true] at h
            have := h b hmem
            rw [hv] at this; cases this)
        rw [hv] at KB
        clear hv hmem
        go_wp2_with (go_at_call 50; refine KB.out.mono ?_; rintro e w2 ⟨rfl, hg2⟩)
        go_ret
        exact ⟨(k : Int), rfl, ⟨fun _ => HF.out, fun _ => by omega⟩, only_trans G.out hg2⟩
    · have HE : Hid (okL L = true) := Lib.hid (by have := OK.out; rwa [List.take_of_length_le (by omega)] at this)
      go_wp2_with fail
      go_ret
      exact ⟨-1, rfl, ⟨fun h => absurd h (by omega), fun h => by rw [HE.out] at h; cases h⟩, G.out⟩
set_option maxHeartbeats 4000000 in
set_option maxRecDepth 100000 in
theorem bcont_any {S : Nat → Prop} (A : Option Addr) (L : List BalD) (c : Nat) (w : World) (hr : Rd S w A (L.flatMap BalD.cells)) (hl : L.length ≤ 100000) (hb : ∀ b ∈ L, BIn b) :
    Calls Try.prog 49 #[.slice A L.length c, .func (.func 50) #[] #[]] w (BoolP (!okL L) w) := by
  have K := Lib.hid (bidx_any A L c w hr hl hb)
  clear hr hb
  go_enter Try.func49, Try.ntmps49
  go_wp2_with fail
  refine K.out.mono ?_
  rintro e w1 ⟨i, rfl, hi, hg⟩
  cases hv : okL L with
  | true =>
    have hi2 : ¬ (0 ≤ i) := fun h => by have := hi.1 h; rw [hv] at this; cases this
    have hd : decide (0 ≤ i) = false := by simpa using hi2
    have HV := Lib.hid hv
    clear hi hv
    go_wp2_with fail
    go_ret
    exact ⟨by rw [HV.out]; rfl, hg⟩
  | false =>
    have hi2 : 0 ≤ i := hi.2 hv
    have HV := Lib.hid hv
    clear hi hv
    go_wp2_with fail
    go_ret
    exact ⟨by rw [HV.out]; rfl, hg⟩
set_option maxHeartbeats 4000000 in
set_option maxRecDepth 100000 in
theorem balanced_any {S S2 S3 : Nat → Prop} (Am : Option Addr) (nm cm : Nat) (A1 : Option Addr) (ss : List Tal) (c1 : Nat) (A2 : Option Addr) (ts : List Tal) (c2 : Nat) (A3 : Option Addr) (es : List Ev) (c3 : Nat) (w : World)
    (h1 : Rd S w A1 (ss.flatMap Tal.cells)) (h2 : Rd S2 w A2 (ts.flatMap Tal.cells)) (h3 : Rd S3 w A3 (es.flatMap Ev.cells)) (l1 : ss.length ≤ 1000) (l2 : ts.length ≤ 1000) (l3 : es.length ≤ 900) (hi1 : TIn 1000000 ss) (hi2 : TIn 1000000 ts) (hg : ∀ e ∈ es, 1 ≤ e.lines.length ∧ e.lines.length ≤ 6) (hb : ∀ b ∈ balL ss ts es, BIn b) (hbl : (balL ss ts es).length ≤ 100000) :
    Calls Try.prog 22 #[.agg #[.slice Am nm cm, .slice A1 ss.length c1], .slice A2 ts.length c2, .slice A3 es.length c3] w (BoolP (okL (balL ss ts es)) w) := by
  obtain ⟨xb, hxb⟩ : ∃ b, b = w.heap.size := ⟨_, rfl⟩
  obtain ⟨W1, hW1⟩ : ∃ W, W = w.alloc (.cells #[.slice Am nm cm, .slice A1 ss.length c1] 39) := ⟨_, rfl⟩
  have hB1 : Blk W1 xb 39 #[.slice Am nm cm, .slice A1 ss.length c1] := by rw [hW1, hxb]; exact Blk.new w _ _
  have g1 : w.grownBy W1 none := by rw [hW1]; exact only_alloc (only_refl _ _) _
  have G1 := Lib.hid g1
  have K := Lib.hid (report_any Am nm cm A1 ss c1 A2 ts c2 A3 es c3 W1 (h1.grown g1 (by simp)) (h2.grown g1 (by simp)) (h3.grown g1 (by simp)) l1 l2 l3 hi1 hi2 hg)
  have HB := Lib.hid hb
  obtain ⟨L, hL⟩ : ∃ L, L = balL ss ts es := ⟨_, rfl⟩
  rw [← hL] at K HB hbl ⊢
  have b0 := hB1.cell 0
  have b1 := hB1.cell 1
  simp at b0 b1
  have HW1 := Lib.hid hW1.symm
  have HXE := Lib.hid hxb.symm
  clear h1 h2 h3 hi1 hi2 hg hb hW1 hxb g1 hB1 hL
  go_enter Try.func22, Try.ntmps22
  go_upto_region 1 with fail
  rw [HW1.out, HXE.out]
  clear HW1 HXE
  go_wp2_with fail
  refine K.out.mono ?_
  rintro e w2 ⟨A, c, rfl, hc, hm, hr, hg⟩
  have K2 := Lib.hid (bcont_any A L c w2 hr hbl HB.out)
  have G2 := Lib.hid (only_trans G1.out hg)
  clear K hr hg b0 b1
  go_wp2_with fail
  refine K2.out.mono ?_
  rintro e w3 ⟨rfl, hg3⟩
  have G3 := Lib.hid (only_trans G2.out hg3)
  clear K2 hg3
  go_wp2_with fail
  go_ret
  exact ⟨by simp, G3.out⟩
end Go.Proofs.Ytiogpomgpknjlaa
namespace Go.Proofs.Ytiogpomgpknjlaa
open Go.RowKit
set_option linter.unusedVariables false
set_option linter.unusedSimpArgs false

theorem load_balO (w : World) (b o : Nat) (x : BalD) (h : ∀ j, j < 7 → w.cell? ⟨b, o + j, none⟩ = x.cells[j]?) :
    (Instr.loadAt 85 (.pointer (some ⟨b, o, none⟩))).run Try.prog w = .ok (.agg x.cells.toArray) w := by
  have a0 := h 0 (by omega)
  have a1 := h 1 (by omega)
  have a2 := h 2 (by omega)
  have a3 := h 3 (by omega)
  have a4 := h 4 (by omega)
  have a5 := h 5 (by omega)
  have a6 := h 6 (by omega)
  simp [BalD.cells] at a0 a1 a2 a3 a4 a5 a6
  have hu := Try.underlying85
  simp [go_sem, BalD.cells, a0, a1, a2, a3, a4, a5, a6]
set_option maxHeartbeats 8000000 in
set_option maxRecDepth 100000 in
theorem rbalanced_any {S S2 S3 : Nat → Prop} (Am : Option Addr) (nm cm : Nat) (A1 : Option Addr) (ss : List Tal) (c1 : Nat) (A2 : Option Addr) (ts : List Tal) (c2 : Nat) (A3 : Option Addr) (es : List Ev) (c3 : Nat) (w : World)
    (h1 : Rd S w A1 (ss.flatMap Tal.cells)) (h2 : Rd S2 w A2 (ts.flatMap Tal.cells)) (h3 : Rd S3 w A3 (es.flatMap Ev.cells)) (l1 : ss.length ≤ 1000) (l2 : ts.length ≤ 1000) (l3 : es.length ≤ 900) (hi1 : TIn 1000000 ss) (hi2 : TIn 1000000 ts) (hs : TSrt ss) (hg : ∀ e ∈ es, 1 ≤ e.lines.length ∧ e.lines.length ≤ 6) (hb : ∀ b ∈ balL ss ts es, BIn b) (hbl : (balL ss ts es).length ≤ 100000) :
    Calls Try.prog 23 #[.agg #[.slice Am nm cm, .slice A1 ss.length c1], .slice A2 ts.length c2, .slice A3 es.length c3] w (BoolP (okL (balL ss ts es)) w) := by
  obtain ⟨xb, hxb⟩ : ∃ b, b = w.heap.size := ⟨_, rfl⟩
  obtain ⟨W1, hW1⟩ : ∃ W, W = w.alloc (.cells #[.slice Am nm cm, .slice A1 ss.length c1] 39) := ⟨_, rfl⟩
  have hB1 : Blk W1 xb 39 #[.slice Am nm cm, .slice A1 ss.length c1] := by rw [hW1, hxb]; exact Blk.new w _ _
  have g1 : w.grownBy W1 none := by rw [hW1]; exact only_alloc (only_refl _ _) _
  have G1 := Lib.hid g1
  have K := Lib.hid (rreport_any Am nm cm A1 ss c1 A2 ts c2 A3 es c3 W1 (h1.grown g1 (by simp)) (h2.grown g1 (by simp)) (h3.grown g1 (by simp)) l1 l2 l3 hi1 hi2 hs hg)
  have HB := Lib.hid hb
  obtain ⟨L, hL⟩ : ∃ L, L = balL ss ts es := ⟨_, rfl⟩
  rw [← hL] at K HB hbl ⊢
  have b0 := hB1.cell 0
  have b1 := hB1.cell 1
  simp at b0 b1
  have HW1 := Lib.hid hW1.symm
  have HXE := Lib.hid hxb.symm
  clear h1 h2 h3 hi1 hi2 hs hg hb hW1 hxb g1 hB1 hL
  go_enter Try.func23, Try.ntmps23
  go_upto_region 1 with fail
  rw [HW1.out, HXE.out]
  clear HW1 HXE
  go_wp2_with fail
  refine K.out.mono ?_
  rintro e w2 ⟨A, c, rfl, hc, hm, hr, hg⟩
  have HR := Lib.hid hr
  have G2 := Lib.hid (only_trans G1.out hg)
  clear K hr hg b0 b1
  go_wp2_with fail
  go_loopw [8] (fun i wr => ∃ k : Nat, k ≤ L.length ∧ i = .int .i64 k ∧ okL (L.take k) = true ∧ w2.grownBy wr none) (fun i _ => L.length - (intOf i).toNat)
  case atStart => exact ⟨0, Nat.zero_le _, rfl, rfl, only_refl _ _⟩
  case round =>
    obtain ⟨k, hk, rfl, hok, hG⟩ := hrel
    have OK := Lib.hid hok
    have G := Lib.hid hG
    clear hok hG
    by_cases hlt : k < L.length
    · obtain ⟨b, hbk⟩ : ∃ b, L[k]? = some b := ⟨_, List.getElem?_eq_getElem hlt⟩
      obtain ⟨W0, rfl⟩ : ∃ W0 : World, W0 = wr := ⟨_, rfl⟩
      obtain ⟨bb, o, rfl, -, -, -⟩ := HR.out (by rw [flat_len _ 7 BalD.cells_len]; omega)
      obtain ⟨h1, h2, h3, h4, h5⟩ := HB.out b (List.mem_of_getElem? hbk)
      obtain ⟨s, hs⟩ : ∃ s, s = b.stored + b.dropped := ⟨_, rfl⟩
      obtain ⟨q, hq⟩ : ∃ q, q = b.live + b.expired := ⟨_, rfl⟩
      have hw1 : IntKind.i64.wrap (b.stored + b.dropped) = s := by rw [hs]; exact IntWalk.i64_in _ (by omega)
      have hw2 : IntKind.i64.wrap (b.live + b.expired) = q := by rw [hq]; exact IntWalk.i64_in _ (by omega)
      have CF : Hid (∀ j, j < 7 → ∀ W, W0.grownBy W none → W.cell? ⟨bb, o + k * 7 + j, none⟩ = b.cells[j]?) := Lib.hid (fun j hj W hW => (HR.out.grown (only_trans G.out hW) (by simp)).flatAt BalD.cells_len hbk j hj)
      have CB1 : Hid (∀ W, W0.grownBy W none → W.cell? ⟨bb, o + k * 7 + 1, none⟩ = some (.int .i64 s)) := Lib.hid (fun W hW => by rw [CF.out 1 (by omega) W hW, hs, ← h5]; rfl)
      have CB2 : Hid (∀ W, W0.grownBy W none → W.cell? ⟨bb, o + k * 7 + 2, none⟩ = some (.int .i64 b.stored)) := Lib.hid (fun W hW => CF.out 2 (by omega) W hW)
      have CB3 : Hid (∀ W, W0.grownBy W none → W.cell? ⟨bb, o + k * 7 + 3, none⟩ = some (.int .i64 b.dropped)) := Lib.hid (fun W hW => CF.out 3 (by omega) W hW)
      have CB5 : Hid (∀ W, W0.grownBy W none → W.cell? ⟨bb, o + k * 7 + 5, none⟩ = some (.int .i64 b.live)) := Lib.hid (fun W hW => CF.out 5 (by omega) W hW)
      have CB6 : Hid (∀ W, W0.grownBy W none → W.cell? ⟨bb, o + k * 7 + 6, none⟩ = some (.int .i64 b.expired)) := Lib.hid (fun W hW => CF.out 6 (by omega) W hW)
      have HT : Hid (okL (L.take (k + 1)) = okB b) := Lib.hid (by
        rw [List.take_succ_eq_append_getElem hlt]
        rw [List.getElem?_eq_getElem hlt] at hbk
        injection hbk with hbk
        have := OK.out
        unfold okL at *
        rw [hbk, List.all_append, this]; simp)
      have hmem := List.mem_of_getElem? hbk
      have HOB : Hid (okB b = decide (b.stored = q)) := Lib.hid (by unfold okB; rw [hq])
      have i1 : (k : Int) < (L.length : Int) := by omega
      clear hbk hs hq h1 h2 h3 h4 h5 CF
      go_wp2_with fail
      by_cases hv : b.stored = q
      · have hne : (b.stored != q) = false := by simp [hv]
        have HV := Lib.hid hv
        clear hv
        refine wp_region_gen 36 (JC (some (.slice (some ⟨bb, o, none⟩) (L.length) (c)) :: some (.int .i64 ((k : Int))) :: some (.pointer (some ⟨bb, o + k * 7, none⟩)) :: some (.pointer (some ⟨bb, o + k * 7 + 1, none⟩)) :: some (.int .i64 (s)) :: some (.slice (some ⟨bb, o, none⟩) (L.length) (c)) :: some (.int .i64 ((k : Int))) :: some (.pointer (some ⟨bb, o + k * 7, none⟩)) :: some (.pointer (some ⟨bb, o + k * 7 + 2, none⟩)) :: some (.int .i64 (b.stored)) :: some (.slice (some ⟨bb, o, none⟩) (L.length) (c)) :: some (.int .i64 ((k : Int))) :: some (.pointer (some ⟨bb, o + k * 7, none⟩)) :: some (.pointer (some ⟨bb, o + k * 7 + 3, none⟩)) :: some (.int .i64 (b.dropped)) :: some (.int .i64 (s)) :: some (.bool false) :: some (.bool false) :: some (.slice (some ⟨bb, o, none⟩) (L.length) (c)) :: some (.int .i64 ((k : Int))) :: some (.pointer (some ⟨bb, o + k * 7, none⟩)) :: some (.pointer (some ⟨bb, o + k * 7 + 2, none⟩)) :: some (.int .i64 (b.stored)) :: some (.slice (some ⟨bb, o, none⟩) (L.length) (c)) :: some (.int .i64 ((k : Int))) :: some (.pointer (some ⟨bb, o + k * 7, none⟩)) :: some (.pointer (some ⟨bb, o + k * 7 + 5, none⟩)) :: some (.int .i64 (b.live)) :: some (.slice (some ⟨bb, o, none⟩) (L.length) (c)) :: some (.int .i64 ((k : Int))) :: some (.pointer (some ⟨bb, o + k * 7, none⟩)) :: some (.pointer (some ⟨bb, o + k * 7 + 6, none⟩)) :: some (.int .i64 (b.expired)) :: some (.int .i64 (q)) :: some (.bool false) :: some (.bool false) :: []) (fun D u wx => W0.grownBy wx none)) (by kernel_rfl) (by kernel_rfl) ?_ ?_ ?_
        · intro u
          exact ⟨(fun j c _ h => by cases h), only_drew (only_refl _ _)⟩
        · intro AA hA
          have hasz : AA.tmps.size = 55 := by rw [hA]; kernel_rfl
          have ea7 : AA.eval (.tmp 7) = .slice (some ⟨bb, o, none⟩) (L.length) (c) := by rw [hA]; kernel_rfl
          have ea8 : AA.eval (.tmp 8) = .int .i64 ((k : Int)) := by rw [hA]; kernel_rfl
          clear hA
          simp only [List.take_succ_cons, List.take_zero]
          refine .cons ?_ (.cons ?_ (.cons ?_ (.cons ?_ (.cons ?_ (.cons ?_ (.cons ?_ (.cons ?_ (.cons ?_ (.cons ?_ (.cons ?_ (.cons ?_ (.cons ?_ (.cons ?_ (.cons ?_ (.cons ?_ (.cons ?_ (.cons ?_ (.cons ?_ (.cons ?_ (.cons ?_ (.cons ?_ (.cons ?_ (.cons ?_ (.cons ?_ (.cons ?_ (.cons ?_ (.cons ?_ (.cons ?_ (.cons ?_ (.cons ?_ (.cons ?_ (.cons ?_ (.cons ?_ (.cons ?_ (.cons ?_ (.nil))))))))))))))))))))))))))))))))))))
          · exact gd_gen (by kernel_rfl) (Want.none_ rfl) rfl (fun D u w v h => by simpa [updB, upd] using h) (fun D u ρ w kn => by
              have e0 := kn.own 7 (c := .slice (some ⟨bb, o, none⟩) (L.length) (c)) (by kernel_rfl) ea7
              simp [execOp, kn.rho.con, e0, go_sem])
          · exact gd_gen (by kernel_rfl) (Want.none_ rfl) rfl (fun D u w v h => by simpa [updB, upd] using h) (fun D u ρ w kn => by
              have e0 := kn.own 8 (c := .int .i64 ((k : Int))) (by kernel_rfl) ea8
              simp [execOp, kn.rho.con, e0, go_sem])
          · exact gd_gen (by kernel_rfl) (Want.none_ rfl) rfl (fun D u w v h => by simpa [updB, upd] using h) (fun D u ρ w kn => by
              have e0 := kn.con 0 19 (c := .slice (some ⟨bb, o, none⟩) (L.length) (c)) (by kernel_rfl) (by omega) (by kernel_rfl) rfl
              have e1 := kn.con 1 20 (c := .int .i64 ((k : Int))) (by kernel_rfl) (by omega) (by kernel_rfl) rfl
              simp [execOp, kn.rho.con, e0, e1, go_sem, i1])
          · exact gd_gen (by kernel_rfl) (Want.none_ rfl) rfl (fun D u w v h => by simpa [updB, upd] using h) (fun D u ρ w kn => by
              have e0 := kn.con 2 21 (c := .pointer (some ⟨bb, o + k * 7, none⟩)) (by kernel_rfl) (by omega) (by kernel_rfl) rfl
              simp [execOp, kn.rho.con, e0, go_sem])
          · exact gd_gen (by kernel_rfl) (Want.none_ rfl) rfl (fun D u w v h => by simpa [updB, upd] using h) (fun D u ρ w kn => by
              have e0 := kn.con 3 22 (c := .pointer (some ⟨bb, o + k * 7 + 1, none⟩)) (by kernel_rfl) (by omega) (by kernel_rfl) rfl
              have f0 := (show w.cell? ⟨bb, o + k * 7 + 1, none⟩ = some (.int .i64 (s)) from CB1.out w kn.ext)
              simp [execOp, kn.rho.con, e0, f0, go_sem])
          · exact gd_gen (by kernel_rfl) (Want.none_ rfl) rfl (fun D u w v h => by simpa [updB, upd] using h) (fun D u ρ w kn => by
              have e0 := kn.own 7 (c := .slice (some ⟨bb, o, none⟩) (L.length) (c)) (by kernel_rfl) ea7
              simp [execOp, kn.rho.con, e0, go_sem])
          · exact gd_gen (by kernel_rfl) (Want.none_ rfl) rfl (fun D u w v h => by simpa [updB, upd] using h) (fun D u ρ w kn => by
              have e0 := kn.own 8 (c := .int .i64 ((k : Int))) (by kernel_rfl) ea8
              simp [execOp, kn.rho.con, e0, go_sem])
          · exact gd_gen (by kernel_rfl) (Want.none_ rfl) rfl (fun D u w v h => by simpa [updB, upd] using h) (fun D u ρ w kn => by
              have e0 := kn.con 5 24 (c := .slice (some ⟨bb, o, none⟩) (L.length) (c)) (by kernel_rfl) (by omega) (by kernel_rfl) rfl
              have e1 := kn.con 6 25 (c := .int .i64 ((k : Int))) (by kernel_rfl) (by omega) (by kernel_rfl) rfl
              simp [execOp, kn.rho.con, e0, e1, go_sem, i1])
          · exact gd_gen (by kernel_rfl) (Want.none_ rfl) rfl (fun D u w v h => by simpa [updB, upd] using h) (fun D u ρ w kn => by
              have e0 := kn.con 7 26 (c := .pointer (some ⟨bb, o + k * 7, none⟩)) (by kernel_rfl) (by omega) (by kernel_rfl) rfl
              simp [execOp, kn.rho.con, e0, go_sem])
          · exact gd_gen (by kernel_rfl) (Want.none_ rfl) rfl (fun D u w v h => by simpa [updB, upd] using h) (fun D u ρ w kn => by
              have e0 := kn.con 8 27 (c := .pointer (some ⟨bb, o + k * 7 + 2, none⟩)) (by kernel_rfl) (by omega) (by kernel_rfl) rfl
              have f0 := (show w.cell? ⟨bb, o + k * 7 + 2, none⟩ = some (.int .i64 (b.stored)) from CB2.out w kn.ext)
              simp [execOp, kn.rho.con, e0, f0, go_sem])
          · exact gd_gen (by kernel_rfl) (Want.none_ rfl) rfl (fun D u w v h => by simpa [updB, upd] using h) (fun D u ρ w kn => by
              have e0 := kn.own 7 (c := .slice (some ⟨bb, o, none⟩) (L.length) (c)) (by kernel_rfl) ea7
              simp [execOp, kn.rho.con, e0, go_sem])
          · exact gd_gen (by kernel_rfl) (Want.none_ rfl) rfl (fun D u w v h => by simpa [updB, upd] using h) (fun D u ρ w kn => by
              have e0 := kn.own 8 (c := .int .i64 ((k : Int))) (by kernel_rfl) ea8
              simp [execOp, kn.rho.con, e0, go_sem])
          · exact gd_gen (by kernel_rfl) (Want.none_ rfl) rfl (fun D u w v h => by simpa [updB, upd] using h) (fun D u ρ w kn => by
              have e0 := kn.con 10 29 (c := .slice (some ⟨bb, o, none⟩) (L.length) (c)) (by kernel_rfl) (by omega) (by kernel_rfl) rfl
              have e1 := kn.con 11 30 (c := .int .i64 ((k : Int))) (by kernel_rfl) (by omega) (by kernel_rfl) rfl
              simp [execOp, kn.rho.con, e0, e1, go_sem, i1])
          · exact gd_gen (by kernel_rfl) (Want.none_ rfl) rfl (fun D u w v h => by simpa [updB, upd] using h) (fun D u ρ w kn => by
              have e0 := kn.con 12 31 (c := .pointer (some ⟨bb, o + k * 7, none⟩)) (by kernel_rfl) (by omega) (by kernel_rfl) rfl
              simp [execOp, kn.rho.con, e0, go_sem])
          · exact gd_gen (by kernel_rfl) (Want.none_ rfl) rfl (fun D u w v h => by simpa [updB, upd] using h) (fun D u ρ w kn => by
              have e0 := kn.con 13 32 (c := .pointer (some ⟨bb, o + k * 7 + 3, none⟩)) (by kernel_rfl) (by omega) (by kernel_rfl) rfl
              have f0 := (show w.cell? ⟨bb, o + k * 7 + 3, none⟩ = some (.int .i64 (b.dropped)) from CB3.out w kn.ext)
              simp [execOp, kn.rho.con, e0, f0, go_sem])
          · exact gd_gen (by kernel_rfl) (Want.none_ rfl) rfl (fun D u w v h => by simpa [updB, upd] using h) (fun D u ρ w kn => by
              have e0 := kn.con 9 28 (c := .int .i64 (b.stored)) (by kernel_rfl) (by omega) (by kernel_rfl) rfl
              have e1 := kn.con 14 33 (c := .int .i64 (b.dropped)) (by kernel_rfl) (by omega) (by kernel_rfl) rfl
              simp [execOp, kn.rho.con, e0, e1, go_sem, hw1])
          · exact gd_gen (by kernel_rfl) (Want.none_ rfl) rfl (fun D u w v h => by simpa [updB, upd] using h) (fun D u ρ w kn => by
              have e0 := kn.con 4 23 (c := .int .i64 (s)) (by kernel_rfl) (by omega) (by kernel_rfl) rfl
              have e1 := kn.con 15 34 (c := .int .i64 (s)) (by kernel_rfl) (by omega) (by kernel_rfl) rfl
              simp [execOp, kn.rho.con, e0, e1, go_sem])
          · exact gd_gen (by kernel_rfl) (Want.none_ rfl) rfl (fun D u w v h => by simpa [updB, upd] using h) (fun D u ρ w kn => by
              have e0 := kn.con 16 35 (c := .bool false) (by kernel_rfl) (by omega) (by kernel_rfl) rfl
              simp [execOp, kn.rho.con, e0, go_sem])
          · exact gd_gen (by kernel_rfl) (Want.some_ (g := 17) (v := false) rfl rfl (by kernel_rfl) (by omega) rfl rfl (by kernel_rfl)) rfl (fun D u w v h => by simpa [updB, upd] using h) (fun D u ρ w kn => by
              have e0 := kn.own 7 (c := .slice (some ⟨bb, o, none⟩) (L.length) (c)) (by kernel_rfl) ea7
              simp [execOp, kn.rho.con, e0, go_sem])
          · exact gd_gen (by kernel_rfl) (Want.some_ (g := 17) (v := false) rfl rfl (by kernel_rfl) (by omega) rfl rfl (by kernel_rfl)) rfl (fun D u w v h => by simpa [updB, upd] using h) (fun D u ρ w kn => by
              have e0 := kn.own 8 (c := .int .i64 ((k : Int))) (by kernel_rfl) ea8
              simp [execOp, kn.rho.con, e0, go_sem])
          · exact gd_gen (by kernel_rfl) (Want.some_ (g := 17) (v := false) rfl rfl (by kernel_rfl) (by omega) rfl rfl (by kernel_rfl)) rfl (fun D u w v h => by simpa [updB, upd] using h) (fun D u ρ w kn => by
              have e0 := kn.con 18 37 (c := .slice (some ⟨bb, o, none⟩) (L.length) (c)) (by kernel_rfl) (by omega) (by kernel_rfl) rfl
              have e1 := kn.con 19 38 (c := .int .i64 ((k : Int))) (by kernel_rfl) (by omega) (by kernel_rfl) rfl
              simp [execOp, kn.rho.con, e0, e1, go_sem, i1])
          · exact gd_gen (by kernel_rfl) (Want.some_ (g := 17) (v := false) rfl rfl (by kernel_rfl) (by omega) rfl rfl (by kernel_rfl)) rfl (fun D u w v h => by simpa [updB, upd] using h) (fun D u ρ w kn => by
              have e0 := kn.con 20 39 (c := .pointer (some ⟨bb, o + k * 7, none⟩)) (by kernel_rfl) (by omega) (by kernel_rfl) rfl
              simp [execOp, kn.rho.con, e0, go_sem])
          · exact gd_gen (by kernel_rfl) (Want.some_ (g := 17) (v := false) rfl rfl (by kernel_rfl) (by omega) rfl rfl (by kernel_rfl)) rfl (fun D u w v h => by simpa [updB, upd] using h) (fun D u ρ w kn => by
              have e0 := kn.con 21 40 (c := .pointer (some ⟨bb, o + k * 7 + 2, none⟩)) (by kernel_rfl) (by omega) (by kernel_rfl) rfl
              have f0 := (show w.cell? ⟨bb, o + k * 7 + 2, none⟩ = some (.int .i64 (b.stored)) from CB2.out w kn.ext)
              simp [execOp, kn.rho.con, e0, f0, go_sem])
          · exact gd_gen (by kernel_rfl) (Want.some_ (g := 17) (v := false) rfl rfl (by kernel_rfl) (by omega) rfl rfl (by kernel_rfl)) rfl (fun D u w v h => by simpa [updB, upd] using h) (fun D u ρ w kn => by
              have e0 := kn.own 7 (c := .slice (some ⟨bb, o, none⟩) (L.length) (c)) (by kernel_rfl) ea7
              simp [execOp, kn.rho.con, e0, go_sem])
          · exact gd_gen (by kernel_rfl) (Want.some_ (g := 17) (v := false) rfl rfl (by kernel_rfl) (by omega) rfl rfl (by kernel_rfl)) rfl (fun D u w v h => by simpa [updB, upd] using h) (fun D u ρ w kn => by
              have e0 := kn.own 8 (c := .int .i64 ((k : Int))) (by kernel_rfl) ea8
              simp [execOp, kn.rho.con, e0, go_sem])
          · exact gd_gen (by kernel_rfl) (Want.some_ (g := 17) (v := false) rfl rfl (by kernel_rfl) (by omega) rfl rfl (by kernel_rfl)) rfl (fun D u w v h => by simpa [updB, upd] using h) (fun D u ρ w kn => by
              have e0 := kn.con 23 42 (c := .slice (some ⟨bb, o, none⟩) (L.length) (c)) (by kernel_rfl) (by omega) (by kernel_rfl) rfl
              have e1 := kn.con 24 43 (c := .int .i64 ((k : Int))) (by kernel_rfl) (by omega) (by kernel_rfl) rfl
              simp [execOp, kn.rho.con, e0, e1, go_sem, i1])
          · exact gd_gen (by kernel_rfl) (Want.some_ (g := 17) (v := false) rfl rfl (by kernel_rfl) (by omega) rfl rfl (by kernel_rfl)) rfl (fun D u w v h => by simpa [updB, upd] using h) (fun D u ρ w kn => by
              have e0 := kn.con 25 44 (c := .pointer (some ⟨bb, o + k * 7, none⟩)) (by kernel_rfl) (by omega) (by kernel_rfl) rfl
              simp [execOp, kn.rho.con, e0, go_sem])
          · exact gd_gen (by kernel_rfl) (Want.some_ (g := 17) (v := false) rfl rfl (by kernel_rfl) (by omega) rfl rfl (by kernel_rfl)) rfl (fun D u w v h => by simpa [updB, upd] using h) (fun D u ρ w kn => by
              have e0 := kn.con 26 45 (c := .pointer (some ⟨bb, o + k * 7 + 5, none⟩)) (by kernel_rfl) (by omega) (by kernel_rfl) rfl
              have f0 := (show w.cell? ⟨bb, o + k * 7 + 5, none⟩ = some (.int .i64 (b.live)) from CB5.out w kn.ext)
              simp [execOp, kn.rho.con, e0, f0, go_sem])
          · exact gd_gen (by kernel_rfl) (Want.some_ (g := 17) (v := false) rfl rfl (by kernel_rfl) (by omega) rfl rfl (by kernel_rfl)) rfl (fun D u w v h => by simpa [updB, upd] using h) (fun D u ρ w kn => by
              have e0 := kn.own 7 (c := .slice (some ⟨bb, o, none⟩) (L.length) (c)) (by kernel_rfl) ea7
              simp [execOp, kn.rho.con, e0, go_sem])
          · exact gd_gen (by kernel_rfl) (Want.some_ (g := 17) (v := false) rfl rfl (by kernel_rfl) (by omega) rfl rfl (by kernel_rfl)) rfl (fun D u w v h => by simpa [updB, upd] using h) (fun D u ρ w kn => by
              have e0 := kn.own 8 (c := .int .i64 ((k : Int))) (by kernel_rfl) ea8
              simp [execOp, kn.rho.con, e0, go_sem])
          · exact gd_gen (by kernel_rfl) (Want.some_ (g := 17) (v := false) rfl rfl (by kernel_rfl) (by omega) rfl rfl (by kernel_rfl)) rfl (fun D u w v h => by simpa [updB, upd] using h) (fun D u ρ w kn => by
              have e0 := kn.con 28 47 (c := .slice (some ⟨bb, o, none⟩) (L.length) (c)) (by kernel_rfl) (by omega) (by kernel_rfl) rfl
              have e1 := kn.con 29 48 (c := .int .i64 ((k : Int))) (by kernel_rfl) (by omega) (by kernel_rfl) rfl
              simp [execOp, kn.rho.con, e0, e1, go_sem, i1])
          · exact gd_gen (by kernel_rfl) (Want.some_ (g := 17) (v := false) rfl rfl (by kernel_rfl) (by omega) rfl rfl (by kernel_rfl)) rfl (fun D u w v h => by simpa [updB, upd] using h) (fun D u ρ w kn => by
              have e0 := kn.con 30 49 (c := .pointer (some ⟨bb, o + k * 7, none⟩)) (by kernel_rfl) (by omega) (by kernel_rfl) rfl
              simp [execOp, kn.rho.con, e0, go_sem])
          · exact gd_gen (by kernel_rfl) (Want.some_ (g := 17) (v := false) rfl rfl (by kernel_rfl) (by omega) rfl rfl (by kernel_rfl)) rfl (fun D u w v h => by simpa [updB, upd] using h) (fun D u ρ w kn => by
              have e0 := kn.con 31 50 (c := .pointer (some ⟨bb, o + k * 7 + 6, none⟩)) (by kernel_rfl) (by omega) (by kernel_rfl) rfl
              have f0 := (show w.cell? ⟨bb, o + k * 7 + 6, none⟩ = some (.int .i64 (b.expired)) from CB6.out w kn.ext)
              simp [execOp, kn.rho.con, e0, f0, go_sem])
          · exact gd_gen (by kernel_rfl) (Want.some_ (g := 17) (v := false) rfl rfl (by kernel_rfl) (by omega) rfl rfl (by kernel_rfl)) rfl (fun D u w v h => by simpa [updB, upd] using h) (fun D u ρ w kn => by
              have e0 := kn.con 27 46 (c := .int .i64 (b.live)) (by kernel_rfl) (by omega) (by kernel_rfl) rfl
              have e1 := kn.con 32 51 (c := .int .i64 (b.expired)) (by kernel_rfl) (by omega) (by kernel_rfl) rfl
              simp [execOp, kn.rho.con, e0, e1, go_sem, hw2])
          · exact gd_gen (by kernel_rfl) (Want.some_ (g := 17) (v := false) rfl rfl (by kernel_rfl) (by omega) rfl rfl (by kernel_rfl)) rfl (fun D u w v h => by simpa [updB, upd] using h) (fun D u ρ w kn => by
              have e0 := kn.con 22 41 (c := .int .i64 (b.stored)) (by kernel_rfl) (by omega) (by kernel_rfl) rfl
              have e1 := kn.con 33 52 (c := .int .i64 (q)) (by kernel_rfl) (by omega) (by kernel_rfl) rfl
              simp [execOp, kn.rho.con, e0, e1, go_sem, hne])
          · exact gd_gen (by kernel_rfl) (Want.none_ rfl) rfl (fun D u w v h => by simpa [updB, upd] using h) (fun D u ρ w kn => by
              have e0 := kn.con 17 36 (c := .bool false) (by kernel_rfl) (by omega) (by kernel_rfl) rfl
              have e1 := kn.con 34 53 (c := .bool false) (by kernel_rfl) (by omega) (by kernel_rfl) rfl
              simp [execOp, kn.rho.con, e0, e1, go_sem])
        · intro D u w9 hJ hD
          simp only [List.take_succ_cons, List.take_zero, List.drop_succ_cons, List.drop_zero, putAll]
          have hcn := hJ.1
          have x1 := hJ.2
          have e35 : u 35 = .bool false := hcn 35 _ rfl (hD 35 (by omega))
          rw [e35]
          have G9 := Lib.hid (only_trans G.out x1)
          clear hJ hcn x1 e35 hD CB1 CB2 CB3 CB5 CB6
          go_simp
          go_wp2_with fail
          go_roundw
          case rel => exact ⟨k + 1, by omega, by go_num, by rw [HT.out, HOB.out]; exact decide_eq_true HV.out, G9.out⟩
          case measure => simp [intOf]; omega
      · have hne : (b.stored != q) = true := by simp [hv]
        have HF : Hid (okL L = false) := Lib.hid (by
          cases h : okL L with
          | false => rfl
          | true =>
            unfold okL at h
            rw [List.all_eq_true] at h
            have := h b hmem
            rw [HOB.out] at this
            exact absurd (of_decide_eq_true this) hv)
        clear hv hmem
        refine wp_region_gen 36 (JC (some (.slice (some ⟨bb, o, none⟩) (L.length) (c)) :: some (.int .i64 ((k : Int))) :: some (.pointer (some ⟨bb, o + k * 7, none⟩)) :: some (.pointer (some ⟨bb, o + k * 7 + 1, none⟩)) :: some (.int .i64 (s)) :: some (.slice (some ⟨bb, o, none⟩) (L.length) (c)) :: some (.int .i64 ((k : Int))) :: some (.pointer (some ⟨bb, o + k * 7, none⟩)) :: some (.pointer (some ⟨bb, o + k * 7 + 2, none⟩)) :: some (.int .i64 (b.stored)) :: some (.slice (some ⟨bb, o, none⟩) (L.length) (c)) :: some (.int .i64 ((k : Int))) :: some (.pointer (some ⟨bb, o + k * 7, none⟩)) :: some (.pointer (some ⟨bb, o + k * 7 + 3, none⟩)) :: some (.int .i64 (b.dropped)) :: some (.int .i64 (s)) :: some (.bool false) :: some (.bool false) :: some (.slice (some ⟨bb, o, none⟩) (L.length) (c)) :: some (.int .i64 ((k : Int))) :: some (.pointer (some ⟨bb, o + k * 7, none⟩)) :: some (.pointer (some ⟨bb, o + k * 7 + 2, none⟩)) :: some (.int .i64 (b.stored)) :: some (.slice (some ⟨bb, o, none⟩) (L.length) (c)) :: some (.int .i64 ((k : Int))) :: some (.pointer (some ⟨bb, o + k * 7, none⟩)) :: some (.pointer (some ⟨bb, o + k * 7 + 5, none⟩)) :: some (.int .i64 (b.live)) :: some (.slice (some ⟨bb, o, none⟩) (L.length) (c)) :: some (.int .i64 ((k : Int))) :: some (.pointer (some ⟨bb, o + k * 7, none⟩)) :: some (.pointer (some ⟨bb, o + k * 7 + 6, none⟩)) :: some (.int .i64 (b.expired)) :: some (.int .i64 (q)) :: some (.bool true) :: some (.bool true) :: []) (fun D u wx => W0.grownBy wx none)) (by kernel_rfl) (by kernel_rfl) ?_ ?_ ?_
        · intro u
          exact ⟨(fun j c _ h => by cases h), only_drew (only_refl _ _)⟩
        · intro AA hA
          have hasz : AA.tmps.size = 55 := by rw [hA]; kernel_rfl
          have ea7 : AA.eval (.tmp 7) = .slice (some ⟨bb, o, none⟩) (L.length) (c) := by rw [hA]; kernel_rfl
          have ea8 : AA.eval (.tmp 8) = .int .i64 ((k : Int)) := by rw [hA]; kernel_rfl
          clear hA
          simp only [List.take_succ_cons, List.take_zero]
          refine .cons ?_ (.cons ?_ (.cons ?_ (.cons ?_ (.cons ?_ (.cons ?_ (.cons ?_ (.cons ?_ (.cons ?_ (.cons ?_ (.cons ?_ (.cons ?_ (.cons ?_ (.cons ?_ (.cons ?_ (.cons ?_ (.cons ?_ (.cons ?_ (.cons ?_ (.cons ?_ (.cons ?_ (.cons ?_ (.cons ?_ (.cons ?_ (.cons ?_ (.cons ?_ (.cons ?_ (.cons ?_ (.cons ?_ (.cons ?_ (.cons ?_ (.cons ?_ (.cons ?_ (.cons ?_ (.cons ?_ (.cons ?_ (.nil))))))))))))))))))))))))))))))))))))
          · exact gd_gen (by kernel_rfl) (Want.none_ rfl) rfl (fun D u w v h => by simpa [updB, upd] using h) (fun D u ρ w kn => by
              have e0 := kn.own 7 (c := .slice (some ⟨bb, o, none⟩) (L.length) (c)) (by kernel_rfl) ea7
              simp [execOp, kn.rho.con, e0, go_sem])
          · exact gd_gen (by kernel_rfl) (Want.none_ rfl) rfl (fun D u w v h => by simpa [updB, upd] using h) (fun D u ρ w kn => by
              have e0 := kn.own 8 (c := .int .i64 ((k : Int))) (by kernel_rfl) ea8
              simp [execOp, kn.rho.con, e0, go_sem])
          · exact gd_gen (by kernel_rfl) (Want.none_ rfl) rfl (fun D u w v h => by simpa [updB, upd] using h) (fun D u ρ w kn => by
              have e0 := kn.con 0 19 (c := .slice (some ⟨bb, o, none⟩) (L.length) (c)) (by kernel_rfl) (by omega) (by kernel_rfl) rfl
              have e1 := kn.con 1 20 (c := .int .i64 ((k : Int))) (by kernel_rfl) (by omega) (by kernel_rfl) rfl
              simp [execOp, kn.rho.con, e0, e1, go_sem, i1])
          · exact gd_gen (by kernel_rfl) (Want.none_ rfl) rfl (fun D u w v h => by simpa [updB, upd] using h) (fun D u ρ w kn => by
              have e0 := kn.con 2 21 (c := .pointer (some ⟨bb, o + k * 7, none⟩)) (by kernel_rfl) (by omega) (by kernel_rfl) rfl
              simp [execOp, kn.rho.con, e0, go_sem])
          · exact gd_gen (by kernel_rfl) (Want.none_ rfl) rfl (fun D u w v h => by simpa [updB, upd] using h) (fun D u ρ w kn => by
              have e0 := kn.con 3 22 (c := .pointer (some ⟨bb, o + k * 7 + 1, none⟩)) (by kernel_rfl) (by omega) (by kernel_rfl) rfl
              have f0 := (show w.cell? ⟨bb, o + k * 7 + 1, none⟩ = some (.int .i64 (s)) from CB1.out w kn.ext)
              simp [execOp, kn.rho.con, e0, f0, go_sem])
          · exact gd_gen (by kernel_rfl) (Want.none_ rfl) rfl (fun D u w v h => by simpa [updB, upd] using h) (fun D u ρ w kn => by
              have e0 := kn.own 7 (c := .slice (some ⟨bb, o, none⟩) (L.length) (c)) (by kernel_rfl) ea7
              simp [execOp, kn.rho.con, e0, go_sem])
          · exact gd_gen (by kernel_rfl) (Want.none_ rfl) rfl (fun D u w v h => by simpa [updB, upd] using h) (fun D u ρ w kn => by
              have e0 := kn.own 8 (c := .int .i64 ((k : Int))) (by kernel_rfl) ea8
              simp [execOp, kn.rho.con, e0, go_sem])
          · exact gd_gen (by kernel_rfl) (Want.none_ rfl) rfl (fun D u w v h => by simpa [updB, upd] using h) (fun D u ρ w kn => by
              have e0 := kn.con 5 24 (c := .slice (some ⟨bb, o, none⟩) (L.length) (c)) (by kernel_rfl) (by omega) (by kernel_rfl) rfl
              have e1 := kn.con 6 25 (c := .int .i64 ((k : Int))) (by kernel_rfl) (by omega) (by kernel_rfl) rfl
              simp [execOp, kn.rho.con, e0, e1, go_sem, i1])
          · exact gd_gen (by kernel_rfl) (Want.none_ rfl) rfl (fun D u w v h => by simpa [updB, upd] using h) (fun D u ρ w kn => by
              have e0 := kn.con 7 26 (c := .pointer (some ⟨bb, o + k * 7, none⟩)) (by kernel_rfl) (by omega) (by kernel_rfl) rfl
              simp [execOp, kn.rho.con, e0, go_sem])
          · exact gd_gen (by kernel_rfl) (Want.none_ rfl) rfl (fun D u w v h => by simpa [updB, upd] using h) (fun D u ρ w kn => by
              have e0 := kn.con 8 27 (c := .pointer (some ⟨bb, o + k * 7 + 2, none⟩)) (by kernel_rfl) (by omega) (by kernel_rfl) rfl
              have f0 := (show w.cell? ⟨bb, o + k * 7 + 2, none⟩ = some (.int .i64 (b.stored)) from CB2.out w kn.ext)
              simp [execOp, kn.rho.con, e0, f0, go_sem])
          · exact gd_gen (by kernel_rfl) (Want.none_ rfl) rfl (fun D u w v h => by simpa [updB, upd] using h) (fun D u ρ w kn => by
              have e0 := kn.own 7 (c := .slice (some ⟨bb, o, none⟩) (L.length) (c)) (by kernel_rfl) ea7
              simp [execOp, kn.rho.con, e0, go_sem])
          · exact gd_gen (by kernel_rfl) (Want.none_ rfl) rfl (fun D u w v h => by simpa [updB, upd] using h) (fun D u ρ w kn => by
              have e0 := kn.own 8 (c := .int .i64 ((k : Int))) (by kernel_rfl) ea8
              simp [execOp, kn.rho.con, e0, go_sem])
          · exact gd_gen (by kernel_rfl) (Want.none_ rfl) rfl (fun D u w v h => by simpa [updB, upd] using h) (fun D u ρ w kn => by
              have e0 := kn.con 10 29 (c := .slice (some ⟨bb, o, none⟩) (L.length) (c)) (by kernel_rfl) (by omega) (by kernel_rfl) rfl
              have e1 := kn.con 11 30 (c := .int .i64 ((k : Int))) (by kernel_rfl) (by omega) (by kernel_rfl) rfl
              simp [execOp, kn.rho.con, e0, e1, go_sem, i1])
          · exact gd_gen (by kernel_rfl) (Want.none_ rfl) rfl (fun D u w v h => by simpa [updB, upd] using h) (fun D u ρ w kn => by
              have e0 := kn.con 12 31 (c := .pointer (some ⟨bb, o + k * 7, none⟩)) (by kernel_rfl) (by omega) (by kernel_rfl) rfl
              simp [execOp, kn.rho.con, e0, go_sem])
          · exact gd_gen (by kernel_rfl) (Want.none_ rfl) rfl (fun D u w v h => by simpa [updB, upd] using h) (fun D u ρ w kn => by
              have e0 := kn.con 13 32 (c := .pointer (some ⟨bb, o + k * 7 + 3, none⟩)) (by kernel_rfl) (by omega) (by kernel_rfl) rfl
              have f0 := (show w.cell? ⟨bb, o + k * 7 + 3, none⟩ = some (.int .i64 (b.dropped)) from CB3.out w kn.ext)
              simp [execOp, kn.rho.con, e0, f0, go_sem])
          · exact gd_gen (by kernel_rfl) (Want.none_ rfl) rfl (fun D u w v h => by simpa [updB, upd] using h) (fun D u ρ w kn => by
              have e0 := kn.con 9 28 (c := .int .i64 (b.stored)) (by kernel_rfl) (by omega) (by kernel_rfl) rfl
              have e1 := kn.con 14 33 (c := .int .i64 (b.dropped)) (by kernel_rfl) (by omega) (by kernel_rfl) rfl
              simp [execOp, kn.rho.con, e0, e1, go_sem, hw1])
          · exact gd_gen (by kernel_rfl) (Want.none_ rfl) rfl (fun D u w v h => by simpa [updB, upd] using h) (fun D u ρ w kn => by
              have e0 := kn.con 4 23 (c := .int .i64 (s)) (by kernel_rfl) (by omega) (by kernel_rfl) rfl
              have e1 := kn.con 15 34 (c := .int .i64 (s)) (by kernel_rfl) (by omega) (by kernel_rfl) rfl
              simp [execOp, kn.rho.con, e0, e1, go_sem])
          · exact gd_gen (by kernel_rfl) (Want.none_ rfl) rfl (fun D u w v h => by simpa [updB, upd] using h) (fun D u ρ w kn => by
              have e0 := kn.con 16 35 (c := .bool false) (by kernel_rfl) (by omega) (by kernel_rfl) rfl
              simp [execOp, kn.rho.con, e0, go_sem])
          · exact gd_gen (by kernel_rfl) (Want.some_ (g := 17) (v := false) rfl rfl (by kernel_rfl) (by omega) rfl rfl (by kernel_rfl)) rfl (fun D u w v h => by simpa [updB, upd] using h) (fun D u ρ w kn => by
              have e0 := kn.own 7 (c := .slice (some ⟨bb, o, none⟩) (L.length) (c)) (by kernel_rfl) ea7
              simp [execOp, kn.rho.con, e0, go_sem])
          · exact gd_gen (by kernel_rfl) (Want.some_ (g := 17) (v := false) rfl rfl (by kernel_rfl) (by omega) rfl rfl (by kernel_rfl)) rfl (fun D u w v h => by simpa [updB, upd] using h) (fun D u ρ w kn => by
              have e0 := kn.own 8 (c := .int .i64 ((k : Int))) (by kernel_rfl) ea8
              simp [execOp, kn.rho.con, e0, go_sem])
          · exact gd_gen (by kernel_rfl) (Want.some_ (g := 17) (v := false) rfl rfl (by kernel_rfl) (by omega) rfl rfl (by kernel_rfl)) rfl (fun D u w v h => by simpa [updB, upd] using h) (fun D u ρ w kn => by
              have e0 := kn.con 18 37 (c := .slice (some ⟨bb, o, none⟩) (L.length) (c)) (by kernel_rfl) (by omega) (by kernel_rfl) rfl
              have e1 := kn.con 19 38 (c := .int .i64 ((k : Int))) (by kernel_rfl) (by omega) (by kernel_rfl) rfl
              simp [execOp, kn.rho.con, e0, e1, go_sem, i1])
          · exact gd_gen (by kernel_rfl) (Want.some_ (g := 17) (v := false) rfl rfl (by kernel_rfl) (by omega) rfl rfl (by kernel_rfl)) rfl (fun D u w v h => by simpa [updB, upd] using h) (fun D u ρ w kn => by
              have e0 := kn.con 20 39 (c := .pointer (some ⟨bb, o + k * 7, none⟩)) (by kernel_rfl) (by omega) (by kernel_rfl) rfl
              simp [execOp, kn.rho.con, e0, go_sem])
          · exact gd_gen (by kernel_rfl) (Want.some_ (g := 17) (v := false) rfl rfl (by kernel_rfl) (by omega) rfl rfl (by kernel_rfl)) rfl (fun D u w v h => by simpa [updB, upd] using h) (fun D u ρ w kn => by
              have e0 := kn.con 21 40 (c := .pointer (some ⟨bb, o + k * 7 + 2, none⟩)) (by kernel_rfl) (by omega) (by kernel_rfl) rfl
              have f0 := (show w.cell? ⟨bb, o + k * 7 + 2, none⟩ = some (.int .i64 (b.stored)) from CB2.out w kn.ext)
              simp [execOp, kn.rho.con, e0, f0, go_sem])
          · exact gd_gen (by kernel_rfl) (Want.some_ (g := 17) (v := false) rfl rfl (by kernel_rfl) (by omega) rfl rfl (by kernel_rfl)) rfl (fun D u w v h => by simpa [updB, upd] using h) (fun D u ρ w kn => by
              have e0 := kn.own 7 (c := .slice (some ⟨bb, o, none⟩) (L.length) (c)) (by kernel_rfl) ea7
              simp [execOp, kn.rho.con, e0, go_sem])
          · exact gd_gen (by kernel_rfl) (Want.some_ (g := 17) (v := false) rfl rfl (by kernel_rfl) (by omega) rfl rfl (by kernel_rfl)) rfl (fun D u w v h => by simpa [updB, upd] using h) (fun D u ρ w kn => by
              have e0 := kn.own 8 (c := .int .i64 ((k : Int))) (by kernel_rfl) ea8
              simp [execOp, kn.rho.con, e0, go_sem])
          · exact gd_gen (by kernel_rfl) (Want.some_ (g := 17) (v := false) rfl rfl (by kernel_rfl) (by omega) rfl rfl (by kernel_rfl)) rfl (fun D u w v h => by simpa [updB, upd] using h) (fun D u ρ w kn => by
              have e0 := kn.con 23 42 (c := .slice (some ⟨bb, o, none⟩) (L.length) (c)) (by kernel_rfl) (by omega) (by kernel_rfl) rfl
              have e1 := kn.con 24 43 (c := .int .i64 ((k : Int))) (by kernel_rfl) (by omega) (by kernel_rfl) rfl
              simp [execOp, kn.rho.con, e0, e1, go_sem, i1])
          · exact gd_gen (by kernel_rfl) (Want.some_ (g := 17) (v := false) rfl rfl (by kernel_rfl) (by omega) rfl rfl (by kernel_rfl)) rfl (fun D u w v h => by simpa [updB, upd] using h) (fun D u ρ w kn => by
              have e0 := kn.con 25 44 (c := .pointer (some ⟨bb, o + k * 7, none⟩)) (by kernel_rfl) (by omega) (by kernel_rfl) rfl
              simp [execOp, kn.rho.con, e0, go_sem])
          · exact gd_gen (by kernel_rfl) (Want.some_ (g := 17) (v := false) rfl rfl (by kernel_rfl) (by omega) rfl rfl (by kernel_rfl)) rfl (fun D u w v h => by simpa [updB, upd] using h) (fun D u ρ w kn => by
              have e0 := kn.con 26 45 (c := .pointer (some ⟨bb, o + k * 7 + 5, none⟩)) (by kernel_rfl) (by omega) (by kernel_rfl) rfl
              have f0 := (show w.cell? ⟨bb, o + k * 7 + 5, none⟩ = some (.int .i64 (b.live)) from CB5.out w kn.ext)
              simp [execOp, kn.rho.con, e0, f0, go_sem])
          · exact gd_gen (by kernel_rfl) (Want.some_ (g := 17) (v := false) rfl rfl (by kernel_rfl) (by omega) rfl rfl (by kernel_rfl)) rfl (fun D u w v h => by simpa [updB, upd] using h) (fun D u ρ w kn => by
              have e0 := kn.own 7 (c := .slice (some ⟨bb, o, none⟩) (L.length) (c)) (by kernel_rfl) ea7
              simp [execOp, kn.rho.con, e0, go_sem])
          · exact gd_gen (by kernel_rfl) (Want.some_ (g := 17) (v := false) rfl rfl (by kernel_rfl) (by omega) rfl rfl (by kernel_rfl)) rfl (fun D u w v h => by simpa [updB, upd] using h) (fun D u ρ w kn => by
              have e0 := kn.own 8 (c := .int .i64 ((k : Int))) (by kernel_rfl) ea8
              simp [execOp, kn.rho.con, e0, go_sem])
          · exact gd_gen (by kernel_rfl) (Want.some_ (g := 17) (v := false) rfl rfl (by kernel_rfl) (by omega) rfl rfl (by kernel_rfl)) rfl (fun D u w v h => by simpa [updB, upd] using h) (fun D u ρ w kn => by
              have e0 := kn.con 28 47 (c := .slice (some ⟨bb, o, none⟩) (L.length) (c)) (by kernel_rfl) (by omega) (by kernel_rfl) rfl
              have e1 := kn.con 29 48 (c := .int .i64 ((k : Int))) (by kernel_rfl) (by omega) (by kernel_rfl) rfl
              simp [execOp, kn.rho.con, e0, e1, go_sem, i1])
          · exact gd_gen (by kernel_rfl) (Want.some_ (g := 17) (v := false) rfl rfl (by kernel_rfl) (by omega) rfl rfl (by kernel_rfl)) rfl (fun D u w v h => by simpa [updB, upd] using h) (fun D u ρ w kn => by
              have e0 := kn.con 30 49 (c := .pointer (some ⟨bb, o + k * 7, none⟩)) (by kernel_rfl) (by omega) (by kernel_rfl) rfl
              simp [execOp, kn.rho.con, e0, go_sem])
          · exact gd_gen (by kernel_rfl) (Want.some_ (g := 17) (v := false) rfl rfl (by kernel_rfl) (by omega) rfl rfl (by kernel_rfl)) rfl (fun D u w v h => by simpa [updB, upd] using h) (fun D u ρ w kn => by
              have e0 := kn.con 31 50 (c := .pointer (some ⟨bb, o + k * 7 + 6, none⟩)) (by kernel_rfl) (by omega) (by kernel_rfl) rfl
              have f0 := (show w.cell? ⟨bb, o + k * 7 + 6, none⟩ = some (.int .i64 (b.expired)) from CB6.out w kn.ext)
              simp [execOp, kn.rho.con, e0, f0, go_sem])
          · exact gd_gen (by kernel_rfl) (Want.some_ (g := 17) (v := false) rfl rfl (by kernel_rfl) (by omega) rfl rfl (by kernel_rfl)) rfl (fun D u w v h => by simpa [updB, upd] using h) (fun D u ρ w kn => by
              have e0 := kn.con 27 46 (c := .int .i64 (b.live)) (by kernel_rfl) (by omega) (by kernel_rfl) rfl
              have e1 := kn.con 32 51 (c := .int .i64 (b.expired)) (by kernel_rfl) (by omega) (by kernel_rfl) rfl
              simp [execOp, kn.rho.con, e0, e1, go_sem, hw2])
          · exact gd_gen (by kernel_rfl) (Want.some_ (g := 17) (v := false) rfl rfl (by kernel_rfl) (by omega) rfl rfl (by kernel_rfl)) rfl (fun D u w v h => by simpa [updB, upd] using h) (fun D u ρ w kn => by
              have e0 := kn.con 22 41 (c := .int .i64 (b.stored)) (by kernel_rfl) (by omega) (by kernel_rfl) rfl
              have e1 := kn.con 33 52 (c := .int .i64 (q)) (by kernel_rfl) (by omega) (by kernel_rfl) rfl
              simp [execOp, kn.rho.con, e0, e1, go_sem, hne])
          · exact gd_gen (by kernel_rfl) (Want.none_ rfl) rfl (fun D u w v h => by simpa [updB, upd] using h) (fun D u ρ w kn => by
              have e0 := kn.con 17 36 (c := .bool false) (by kernel_rfl) (by omega) (by kernel_rfl) rfl
              have e1 := kn.con 34 53 (c := .bool true) (by kernel_rfl) (by omega) (by kernel_rfl) rfl
              simp [execOp, kn.rho.con, e0, e1, go_sem])
        · intro D u w9 hJ hD
          simp only [List.take_succ_cons, List.take_zero, List.drop_succ_cons, List.drop_zero, putAll]
          have hcn := hJ.1
          have x1 := hJ.2
          have e35 : u 35 = .bool true := hcn 35 _ rfl (hD 35 (by omega))
          rw [e35]
          have G9 := Lib.hid (only_trans G.out x1)
          clear hJ hcn x1 e35 hD CB1 CB2 CB3 CB5 CB6
          go_simp
          go_wp2_with fail
          go_ret
          exact ⟨by rw [HF.out]; rfl, only_trans G2.out G9.out⟩
    · have HE : Hid (okL L = true) := Lib.hid (by have := OK.out; rwa [List.take_of_length_le (by omega)] at this)
      go_wp2_with fail
      go_ret
      exact ⟨by rw [HE.out]; rfl, only_trans G2.out G.out⟩
set_option maxHeartbeats 8000000 in
set_option maxRecDepth 100000 in
theorem rsame42_true {S S2 : Nat → Prop} (A B : Option Addr) (L : List BalD) (c d : Nat) (w : World) (ha : Rd S w A (L.flatMap BalD.cells)) (hb : Rd S2 w B (L.flatMap BalD.cells)) (hl : L.length ≤ 100000) :
    Calls Try.prog 19 #[.slice A L.length c, .slice B L.length d] w (BoolP true w) := by
  have HA := Lib.hid ha
  have HB := Lib.hid hb
  clear ha hb
  go_enter Try.func19, Try.ntmps19
  go_wp2_with fail
  go_loopw [5] (fun i wr => ∃ k : Nat, k ≤ L.length ∧ i = .int .i64 k ∧ w.grownBy wr none) (fun i _ => L.length - (intOf i).toNat)
  case atStart => exact ⟨0, Nat.zero_le _, rfl, only_refl _ _⟩
  case round =>
    obtain ⟨k, hk, rfl, hG⟩ := hrel
    have G := Lib.hid hG
    clear hG
    by_cases hlt : k < L.length
    · obtain ⟨b, hbk⟩ : ∃ b, L[k]? = some b := ⟨_, List.getElem?_eq_getElem hlt⟩
      obtain ⟨W0, rfl⟩ : ∃ W0 : World, W0 = wr := ⟨_, rfl⟩
      obtain ⟨b1, o1, rfl, -, -, -⟩ := HA.out (by rw [flat_len _ 7 BalD.cells_len]; omega)
      obtain ⟨b2, o2, rfl, -, -, -⟩ := HB.out (by rw [flat_len _ 7 BalD.cells_len]; omega)
      have CA : Hid (∀ W, W0.grownBy W none → ∀ j, j < 7 → W.cell? ⟨b1, o1 + k * 7 + j, none⟩ = b.cells[j]?) := Lib.hid (fun W hW j hj => (HA.out.grown (only_trans G.out hW) (by simp)).flatAt BalD.cells_len hbk j hj)
      have CC : Hid (∀ W, W0.grownBy W none → ∀ j, j < 7 → W.cell? ⟨b2, o2 + k * 7 + j, none⟩ = b.cells[j]?) := Lib.hid (fun W hW j hj => (HB.out.grown (only_trans G.out hW) (by simp)).flatAt BalD.cells_len hbk j hj)
      have i1 : (k : Int) < (L.length : Int) := by omega
      have hune := Try.underlying85
      clear hbk
      go_wp2_with fail
      refine wp_region_gen 9 (JC [some (.slice (some ⟨b1, o1, none⟩) (L.length) (c)), some (.int .i64 ((k : Int))), some (.pointer (some ⟨b1, o1 + k * 7, none⟩)), some (.agg b.cells.toArray), some (.slice (some ⟨b2, o2, none⟩) (L.length) (d)), some (.int .i64 ((k : Int))), some (.pointer (some ⟨b2, o2 + k * 7, none⟩)), some (.agg b.cells.toArray), some (.bool false)] (fun D u wx => W0.grownBy wx none)) (by kernel_rfl) (by kernel_rfl) ?_ ?_ ?_
      · intro u
        exact ⟨(fun j c _ h => by cases h), only_drew (only_refl _ _)⟩
      · intro AA hA
        have hasz : AA.tmps.size = 26 := by rw [hA]; kernel_rfl
        have ea0 : AA.eval (.tmp 0) = .slice (some ⟨b1, o1, none⟩) (L.length) (c) := by rw [hA]; kernel_rfl
        have ea1 : AA.eval (.tmp 1) = .slice (some ⟨b2, o2, none⟩) (L.length) (d) := by rw [hA]; kernel_rfl
        have ea5 : AA.eval (.tmp 5) = .int .i64 ((k : Int)) := by rw [hA]; kernel_rfl
        clear hA
        simp only [List.take_succ_cons, List.take_zero]
        refine .cons ?_ (.cons ?_ (.cons ?_ (.cons ?_ (.cons ?_ (.cons ?_ (.cons ?_ (.cons ?_ (.cons ?_ (.nil)))))))))
        · exact gd_gen (by kernel_rfl) (Want.none_ rfl) rfl (fun D u w v h => by simpa [updB, upd] using h) (fun D u ρ w kn => by
            have e0 := kn.own 0 (c := .slice (some ⟨b1, o1, none⟩) (L.length) (c)) (by kernel_rfl) ea0
            simp [execOp, kn.rho.con, e0, go_sem])
        · exact gd_gen (by kernel_rfl) (Want.none_ rfl) rfl (fun D u w v h => by simpa [updB, upd] using h) (fun D u ρ w kn => by
            have e0 := kn.own 5 (c := .int .i64 ((k : Int))) (by kernel_rfl) ea5
            simp [execOp, kn.rho.con, e0, go_sem])
        · exact gd_gen (by kernel_rfl) (Want.none_ rfl) rfl (fun D u w v h => by simpa [updB, upd] using h) (fun D u ρ w kn => by
            have e0 := kn.con 0 17 (c := .slice (some ⟨b1, o1, none⟩) (L.length) (c)) (by kernel_rfl) (by omega) (by kernel_rfl) rfl
            have e1 := kn.con 1 18 (c := .int .i64 ((k : Int))) (by kernel_rfl) (by omega) (by kernel_rfl) rfl
            simp [execOp, kn.rho.con, e0, e1, go_sem, i1])
        · exact gd_gen (by kernel_rfl) (Want.none_ rfl) rfl (fun D u w v h => by simpa [updB, upd] using h) (fun D u ρ w kn => by
            have e0 := kn.con 2 19 (c := .pointer (some ⟨b1, o1 + k * 7, none⟩)) (by kernel_rfl) (by omega) (by kernel_rfl) rfl
            exact run_load ρ w rfl e0 (load_balO w b1 (o1 + k * 7) b (CA.out w kn.ext)))
        · exact gd_gen (by kernel_rfl) (Want.none_ rfl) rfl (fun D u w v h => by simpa [updB, upd] using h) (fun D u ρ w kn => by
            have e0 := kn.own 1 (c := .slice (some ⟨b2, o2, none⟩) (L.length) (d)) (by kernel_rfl) ea1
            simp [execOp, kn.rho.con, e0, go_sem])
        · exact gd_gen (by kernel_rfl) (Want.none_ rfl) rfl (fun D u w v h => by simpa [updB, upd] using h) (fun D u ρ w kn => by
            have e0 := kn.own 5 (c := .int .i64 ((k : Int))) (by kernel_rfl) ea5
            simp [execOp, kn.rho.con, e0, go_sem])
        · exact gd_gen (by kernel_rfl) (Want.none_ rfl) rfl (fun D u w v h => by simpa [updB, upd] using h) (fun D u ρ w kn => by
            have e0 := kn.con 4 21 (c := .slice (some ⟨b2, o2, none⟩) (L.length) (d)) (by kernel_rfl) (by omega) (by kernel_rfl) rfl
            have e1 := kn.con 5 22 (c := .int .i64 ((k : Int))) (by kernel_rfl) (by omega) (by kernel_rfl) rfl
            simp [execOp, kn.rho.con, e0, e1, go_sem, i1])
        · exact gd_gen (by kernel_rfl) (Want.none_ rfl) rfl (fun D u w v h => by simpa [updB, upd] using h) (fun D u ρ w kn => by
            have e0 := kn.con 6 23 (c := .pointer (some ⟨b2, o2 + k * 7, none⟩)) (by kernel_rfl) (by omega) (by kernel_rfl) rfl
            exact run_load ρ w rfl e0 (load_balO w b2 (o2 + k * 7) b (CC.out w kn.ext)))
        · exact gd_gen (by kernel_rfl) (Want.none_ rfl) rfl (fun D u w v h => by simpa [updB, upd] using h) (fun D u ρ w kn => by
            have e0 := kn.con 3 20 (c := .agg b.cells.toArray) (by kernel_rfl) (by omega) (by kernel_rfl) rfl
            have e1 := kn.con 7 24 (c := .agg b.cells.toArray) (by kernel_rfl) (by omega) (by kernel_rfl) rfl
            simp [execOp, kn.rho.con, e0, e1, go_sem, BalD.cells, hune])
      · intro D u w9 hJ hD
        have hcn := hJ.1
        have x1 := hJ.2
        have e8 : u 8 = .bool false := hcn 8 _ rfl (hD 8 (by omega))
        have G9 := Lib.hid (only_trans G.out x1)
        simp only [List.take_succ_cons, List.take_zero, List.drop_succ_cons, List.drop_zero, putAll]
        rw [e8]
        clear hJ hcn x1 e8 hD CA CC
        go_simp
        go_wp2_with fail
        go_roundw
        case rel => exact ⟨k + 1, by omega, by go_num, G9.out⟩
        case measure => simp [intOf]; omega
    · go_wp2_with fail
      go_ret
      exact ⟨rfl, G.out⟩
end Go.Proofs.Ytiogpomgpknjlaa
