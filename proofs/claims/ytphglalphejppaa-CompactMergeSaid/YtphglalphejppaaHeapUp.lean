/- container/heap.up on the queue. No condition. -/
import Derived.Test.YtphglalphejppaaQMeth
namespace Go.Proofs.Ytphglalphejppaa
open Go.RowKit
set_option linter.unusedVariables false
set_option linter.unusedSimpArgs false

def qlt (s t : Src) : Bool := match s.rest, t.rest with
  | a :: _, b :: _ => a.less b || (!b.less a && decide (s.idx < t.idx))
  | _, _ => false
def lessAt (ss : List Src) (i j : Nat) : Bool := match ss[i]?, ss[j]? with
  | some s, some t => qlt s t
  | _, _ => false
def swapAt (ss : List Src) (i j : Nat) : List Src := match ss[i]?, ss[j]? with
  | some a, some b => swp ss i j a b
  | _, _ => ss
def upM (ss : List Src) (j : Nat) : List Src := if j = 0 then ss else if lessAt ss j ((j - 1) / 2) = true then upM (swapAt ss ((j - 1) / 2) j) ((j - 1) / 2) else ss
  termination_by j
  decreasing_by omega
/-- a source that has events, which lie in old memory -/
def SOk (w0 : World) (s : Src) : Prop := s.rest ≠ [] ∧ Rd (· < w0.heap.size) w0 s.A (s.rest.flatMap Ev.cells)
theorem SOk.evs {w0 w : World} {s : Src} (h : SOk w0 s) (hg : w0.grownBy w none) : ∃ a l b o, s.rest = a :: l ∧ s.A = some ⟨b, o, none⟩ ∧ b < w.heap.size ∧ ∀ m, m < 10 → w.cell? ⟨b, o + m, none⟩ = a.cells[m]? := by
  obtain ⟨h1, h2⟩ := h
  cases hr : s.rest with
  | nil => exact absurd hr h1
  | cons a l =>
    rw [hr] at h2
    obtain ⟨b, o, e, hb, hlt, hc⟩ := (h2.grown hg (by simp)) (by simp [Ev.cells])
    refine ⟨a, l, b, o, rfl, e, hlt, fun m hm => ?_⟩
    have h3 : a.cells[m]? = some (a.cells[m]'(by rw [Ev.cells_len]; exact hm)) := List.getElem?_eq_getElem _
    rw [h3]
    refine hc m _ ?_
    rw [List.flatMap_cons, List.getElem?_append_left (by rw [Ev.cells_len]; exact hm)]
    exact h3
theorem mem_swapAt {ss : List Src} {i j : Nat} {s : Src} (h : s ∈ swapAt ss i j) : s ∈ ss := by
  unfold swapAt at h
  split at h
  · rename_i a b ha hb
    unfold swp at h
    rcases List.mem_or_eq_of_mem_set h with h | h
    · rcases List.mem_or_eq_of_mem_set h with h | h
      · exact h
      · rw [h]; exact List.mem_of_getElem? hb
    · rw [h]; exact List.mem_of_getElem? ha
  · exact h
theorem swapAt_len (ss : List Src) (i j : Nat) : (swapAt ss i j).length = ss.length := by
  unfold swapAt swp; split <;> simp
theorem Fr2.grown {w0 w w' : World} {gq : Nat} {r : Option Nat} (hg : w0.grownBy w none) (h : Fr2 w w' gq r) (h1 : w0.heap.size ≤ gq) (h2 : ∀ b, r = some b → w0.heap.size ≤ b) : w0.grownBy w' none :=
  ⟨h.1.trans hg.os, h.2.1.trans hg.tape, h.2.2.1.trans hg.output, Nat.le_trans hg.size h.2.2.2.1, fun b hb _ => (h.2.2.2.2 b (Nat.lt_of_lt_of_le hb hg.size) (by omega) (fun e => by have := h2 b e.symm; omega)).trans (hg.block b hb (by simp))⟩
theorem lessS_any (base gq gr cq i j : Nat) (ss : List Src) (w0 w : World) (h : QSt base w gq (.slice (some ⟨gr, 0, none⟩) ss.length cq) ss) (hg : w0.grownBy w none) (hs : ∀ s, ss[i]? = some s ∨ ss[j]? = some s → SOk w0 s) (hi : i < ss.length) (hj : j < ss.length) :
    Calls Try.prog 108 #[.slice (some ⟨gr, 0, none⟩) ss.length cq, .int .i64 i, .int .i64 j] w (BoolExt (lessAt ss i j) w) := by
  have hS : SRow base w gr ss.length cq ss := ⟨rfl, h.2⟩
  obtain ⟨s, hsi⟩ : ∃ s, ss[i]? = some s := ⟨_, List.getElem?_eq_getElem hi⟩
  obtain ⟨t, htj⟩ : ∃ t, ss[j]? = some t := ⟨_, List.getElem?_eq_getElem hj⟩
  obtain ⟨a0, a1, -, -⟩ := hS.cells hsi
  obtain ⟨b0, b1, -, -⟩ := hS.cells htj
  obtain ⟨a, la, bA, oA, ea, eA, hbA, hcA⟩ := (hs s (.inl hsi)).evs hg
  obtain ⟨b, lb, bB, oB, eb, eB, hbB, hcB⟩ := (hs t (.inr htj)).evs hg
  have hgr : gr < w.heap.size := by
    obtain ⟨-, h2⟩ := h.2
    rcases h2 with ⟨h3, _⟩ | ⟨g', cap, cur, h3, h4, h5, _⟩
    · cases h3
    · injection h3 with e1 _ _; injection e1 with e1; injection e1 with e1; subst e1; exact (Array.getElem?_eq_some_iff.1 h5).1
  have hl : lessAt ss i j = (a.less b || (!b.less a && decide (s.idx < t.idx))) := by unfold lessAt qlt; rw [hsi, htj]; simp only [ea, eb]
  rw [hl]
  rw [ea, eA, List.length_cons] at a0
  rw [eb, eB, List.length_cons] at b0
  exact qless_any gr 0 ss.length cq i j bA oA la.length s.c bB oB lb.length t.c a b s.idx t.idx w hi hj (by rw [Nat.zero_add]; exact a0) (by rw [Nat.zero_add]; exact a1) (by rw [Nat.zero_add]; exact b0) (by rw [Nat.zero_add]; exact b1) hcA hcB hgr hbA hbB
def HPost (base : Nat) (w : World) (gq : Nat) (v : Value) (ss : List Src) (e : Ending) (w' : World) : Prop := (∃ x, e = .returned x) ∧ QSt base w' gq v ss ∧ Fr2 w w' gq v.ownBlock
set_option maxHeartbeats 2000000 in
set_option maxRecDepth 100000 in
theorem up_any (base gq gr cq j : Nat) (ss : List Src) (w0 w : World) (h : QSt base w gq (.slice (some ⟨gr, 0, none⟩) ss.length cq) ss) (hg : w0.grownBy w none) (hs : ∀ s ∈ ss, SOk w0 s) (hj : j < ss.length) (hl : ss.length ≤ 100000) (hgb : w0.heap.size ≤ base) (hw0 : w0.heap.size ≤ gq) (hgr : base ≤ gr) :
    Calls Try.prog 52 #[.iface 71 (.pointer (some ⟨gq, 0, none⟩)), .int .i64 j] w (HPost base w gq (.slice (some ⟨gr, 0, none⟩) ss.length cq) (upM ss j)) := by
  have hqr : gq ≠ gr := fun e => blk_not_row h.1 h.2 (by decide) (by rw [e]; rfl)
  have H := Lib.hid h
  have HS := Lib.hid hs
  have HG := Lib.hid hg
  clear h hs hg
  go_enter Try.func52, Try.ntmps52
  go_wp2_with fail
  go_loopw [1] (fun vj wr => ∃ (k : Nat) (ts : List Src), vj = .int .i64 k ∧ k ≤ j ∧ ts.length = ss.length ∧ upM ts k = upM ss j ∧ QSt base wr gq (.slice (some ⟨gr, 0, none⟩) ss.length cq) ts ∧ (∀ s ∈ ts, SOk w0 s) ∧ Fr2 w wr gq (some gr)) (fun vj _ => (intOf vj).toNat)
  case atStart => exact ⟨j, ss, rfl, Nat.le_refl _, rfl, rfl, H.out, HS.out, Fr2.refl _ _ _⟩
  case round =>
    obtain ⟨k, ts, rfl, hkj, htl, hup, hq, hso, hfr⟩ := hrel
    have TL := Lib.hid htl
    have UP := Lib.hid hup
    have QS := Lib.hid hq
    have SO := Lib.hid hso
    have FR := Lib.hid hfr
    have q0 := hq.1.cell 0
    simp at q0
    have hGr : Hid (w0.grownBy wr none) := Lib.hid (hfr.grown HG.out hw0 (fun b e => by injection e; omega))
    clear htl hup hq hso hfr
    by_cases hk : k = 0
    · subst hk
      go_wp2_with fail
      go_end0
      have e : upM ss j = ts := by rw [← UP.out, upM, if_pos rfl]
      exact ⟨⟨_, rfl⟩, by rw [e]; exact QS.out, FR.out⟩
    · obtain ⟨i, hi⟩ : ∃ i, i = (k - 1) / 2 := ⟨_, rfl⟩
      have hiI : ((k : Int) - 1) / 2 = (i : Int) := by omega
      have h1 : ((i : Int) == (k : Int)) = false := by rw [beq_eq_false_iff_ne]; omega
      have hk1 : (1 : Int) ≤ (k : Int) := by omega
      have hik : i < k := by omega
      have HI := Lib.hid hi
      have hM := meth_val q_less gq 262 _ ⟨_, _, _, rfl⟩ wr q0
      have hN := meth_val q_swap gq 262 _ ⟨_, _, _, rfl⟩ wr q0
      have KL : Hid (Calls Try.prog 108 #[.slice (some ⟨gr, 0, none⟩) ss.length cq, .int .i64 k, .int .i64 i] wr (BoolExt (lessAt ts k i) wr)) := Lib.hid (by
        have := lessS_any base gq gr cq k i ts w0 wr (by rw [TL.out]; exact QS.out) hGr.out (fun s h => SO.out s (h.elim List.mem_of_getElem? List.mem_of_getElem?)) (by rw [TL.out]; omega) (by rw [TL.out]; omega)
        rw [TL.out] at this; exact this)
      have hkt : k < ts.length := by rw [TL.out]; omega
      have hit : i < ts.length := by omega
      obtain ⟨si, hsi⟩ : ∃ s, ts[i]? = some s := ⟨_, List.getElem?_eq_getElem hit⟩
      obtain ⟨sk, hsk⟩ : ∃ s, ts[k]? = some s := ⟨_, List.getElem?_eq_getElem hkt⟩
      have SW : Hid (∀ w2, QSt base w2 gq (.slice (some ⟨gr, 0, none⟩) ss.length cq) ts → Calls Try.prog 111 #[.slice (some ⟨gr, 0, none⟩) ss.length cq, .int .i64 i, .int .i64 k] w2 (SwpPost base w2 gr ss.length cq (swapAt ts i k))) := Lib.hid (fun w2 hq => by
        have e : swapAt ts i k = swp ts i k si sk := by unfold swapAt; rw [hsi, hsk]
        rw [e]
        exact swap_any base gr ss.length cq i k ts si sk w2 ⟨TL.out, by have := hq.2; rw [TL.out] at this; exact this⟩ hsi hsk)
      clear hi hN hsi hsk
      cases hL : lessAt ts k i with
      | true =>
        rw [hL] at KL
        have HLT := Lib.hid hL
        clear hL
        go_wp2_with (go_at_call 108; refine KL.out.mono ?_; rintro e w2 ⟨rfl, hg2⟩; have hq2 := QS.out.1.grown hg2 (by simp); have hq2b := own_ext QS.out.2 hg2; have q2 := hq2.cell 0; simp at q2; have hM2 := meth_val q_swap gq 262 _ ⟨_, _, _, rfl⟩ w2 q2)
        refine (SW.out w2 ⟨hq2, hq2b⟩).mono ?_
        rintro e w3 ⟨⟨x3, rfl⟩, hS3, hg3⟩
        have hq3 := hq2.grown hg3 (by intro e; injection e; omega)
        have Q3 := Lib.hid hq3
        have S3 := Lib.hid hS3
        have F3 : Hid (Fr2 w w3 gq (some gr)) := Lib.hid ((FR.out.trans (Fr2.of hg2) (.inr (.inl rfl))).trans (Fr2.of hg3) (.inl rfl))
        clear hq2 hq2b q2 hM2 hM q0 hg2 hg3 hS3 hq3
        go_wp2_with fail
        go_roundw
        case rel => exact ⟨i, swapAt ts i k, rfl, by omega, by rw [swapAt_len]; exact TL.out, by rw [← UP.out]; conv => rhs; rw [upM, if_neg hk, ← HI.out, if_pos HLT.out], ⟨Q3.out, by rw [show (swapAt ts i k).length = ss.length by rw [swapAt_len]; exact TL.out]; exact S3.out.2⟩, fun s hs => SO.out s (mem_swapAt hs), F3.out⟩
        case measure => simp [intOf]; omega
      | false =>
        rw [hL] at KL
        have HLT := Lib.hid hL
        clear hL
        go_wp2_with (go_at_call 108; refine KL.out.mono ?_; rintro e w2 ⟨rfl, hg2⟩)
        go_end0
        have e : upM ss j = ts := by rw [← UP.out, upM, if_neg hk, ← HI.out, if_neg (by rw [HLT.out]; simp)]
        exact ⟨⟨_, rfl⟩, by rw [e]; exact ⟨QS.out.1.grown hg2 (by simp), own_ext QS.out.2 hg2⟩, FR.out.trans (Fr2.of hg2) (.inr (.inl rfl))⟩
end Go.Proofs.Ytphglalphejppaa
