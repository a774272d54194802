/- Lines of package account and of the reference. Condition: sizes. -/
import Derived.Test.YtiogpomgpknjlaaAddP
import Derived.Test.YtiogpomgpknjlaaTalC
import Derived.Test.YtiogpomgpknjlaaEvents
import Derived.StillTailTactics
import Derived.Deep.DeepCutAuto
namespace Go.Proofs.Ytiogpomgpknjlaa
open Go.RowKit
set_option linter.unusedVariables false
set_option linter.unusedSimpArgs false

def evT (e : Ev) : Tal := ⟨e.host, ⟨#[]⟩, e.lines.length⟩
/-- the tallies of events -/
def linT (es : List Ev) : List Tal := es.foldl (fun l e => mrg l [evT e]) []
theorem linT_snoc (es : List Ev) (e : Ev) : linT (es ++ [e]) = mrg (linT es) [evT e] := by unfold linT; rw [List.foldl_append]; rfl
theorem linT_ok : ∀ (es : List Ev), (∀ e ∈ es, 1 ≤ e.lines.length ∧ e.lines.length ≤ 3) → ∀ k, k ≤ es.length → TSrt (linT (es.take k)) ∧ TIn (3 * (k : Int)) (linT (es.take k)) ∧ (linT (es.take k)).length ≤ k := by
  intro es h k
  induction k with
  | zero => intro _; exact ⟨List.Pairwise.nil, (fun t ht => by simp [linT] at ht), by simp [linT]⟩
  | succ k ih =>
    intro hk
    obtain ⟨h1, h2, h3⟩ := ih (by omega)
    obtain ⟨e, he⟩ : ∃ e, es[k]? = some e := ⟨_, List.getElem?_eq_getElem (by omega)⟩
    obtain ⟨q1, q2⟩ := List.getElem?_eq_some_iff.1 he
    have hb := h e (List.mem_of_getElem? he)
    rw [List.take_succ_eq_append_getElem q1, q2, linT_snoc]
    refine ⟨mrg_srt h1 (List.pairwise_singleton _ _), ?_, ?_⟩
    · have := mrg_in (n := 3 * (k : Int)) (m := 3) h2 (vs := [evT e]) (fun t ht => by rw [List.mem_singleton.1 ht]; show 0 ≤ (e.lines.length : Int) ∧ (e.lines.length : Int) ≤ 3; omega) (by omega) (by omega)
      rw [show (3 * ((k + 1 : Nat) : Int)) = 3 * (k : Int) + 3 by push_cast; omega]
      exact this
    · have := mrg_len (linT (es.take k)) [evT e]
      simp at this
      omega
theorem rd_none {S : Nat → Prop} {w : World} {A : Option Addr} {l : List Tal} (h : Rd S w A (l.flatMap Tal.cells)) (hA : A = none) : l.length = 0 := by
  rcases Nat.eq_zero_or_pos l.length with h0 | h0
  · exact h0
  · obtain ⟨b, o, e, -⟩ := h (by rw [tflat_len]; omega)
    rw [hA] at e; cases e
set_option maxHeartbeats 4000000 in
set_option maxRecDepth 100000 in
theorem linp_any {S : Nat → Prop} (A : Option Addr) (es : List Ev) (c : Nat) (w : World) (h : Rd S w A (es.flatMap Ev.cells)) (hl : es.length ≤ 900) (hg : ∀ e ∈ es, 1 ≤ e.lines.length ∧ e.lines.length ≤ 3) :
    Calls Try.prog 15 #[.slice A es.length c] w (TalsPost w (linT es)) := by
  have H := Lib.hid h
  have OKS := Lib.hid (linT_ok es hg)
  have HG := Lib.hid hg
  clear h hg
  go_enter Try.func15, Try.ntmps15
  go_wp2_with fail
  go_loopw [3, 8] (fun vo vi wr => ∃ (k : Nat) (A' : Option Addr) (c' : Nat), vi = .int .i64 k ∧ k ≤ es.length ∧ vo = .slice A' (linT (es.take k)).length c' ∧ (linT (es.take k)).length ≤ c' ∧ c' ≤ maxLen ∧ Rd (w.heap.size ≤ ·) wr A' ((linT (es.take k)).flatMap Tal.cells) ∧ w.grownBy wr none) (fun _ vi _ => es.length - (intOf vi).toNat)
  case atStart => exact ⟨0, none, 0, rfl, Nat.zero_le _, rfl, Nat.le_refl _, by unfold maxLen; omega, Rd.nil, only_refl _ _⟩
  case round =>
    obtain ⟨k, A', c', rfl, hk, rfl, hc1, hc2, hR, hG⟩ := hrel
    have R := Lib.hid hR
    have G := Lib.hid hG
    have hsz := hG.size
    clear hR hG
    by_cases hlt : k < es.length
    · obtain ⟨b, o, rfl, -, -, -⟩ := H.out (by rw [flat_len _ 10 Ev.cells_len]; omega)
      obtain ⟨e, he⟩ : ∃ e, es[k] = e := ⟨_, rfl⟩
      obtain ⟨d0, d1, d2, d3, d4, d5, d6, d7, d8, d9⟩ := Evs.load10 (H.out.grown G.out (by simp)) hlt he
      have hek : es[k]? = some e := by rw [List.getElem?_eq_getElem hlt, he]
      have hb := HG.out e (List.mem_of_getElem? hek)
      obtain ⟨s1, s2, s3⟩ := OKS.out k hk
      have HT : Hid (linT (es.take (k + 1)) = mrg (linT (es.take k)) [evT e]) := Lib.hid (by rw [List.take_succ_eq_append_getElem hlt, he, linT_snoc])
      obtain ⟨l, hll⟩ : ∃ l, l = linT (es.take k) := ⟨_, rfl⟩
      rw [← hll] at s1 s2 s3 R hc1 HT ⊢
      obtain ⟨W1, hW1⟩ : ∃ W1, W1 = wr.alloc (.cells e.cells.toArray 75) := ⟨_, rfl⟩
      have ga : wr.grownBy W1 none := by rw [hW1]; exact only_alloc (only_refl _ _) _
      have KA := Lib.hid (addp_any A' l c' (evT e) W1 (R.out.grown ga (by simp)) (by omega) (rd_none R.out) s1 (by show 1 ≤ (e.lines.length : Int) ∧ (e.lines.length : Int) ≤ 1000000; omega) (fun t ht => by have := s2 t ht; omega))
      have G1 := Lib.hid (only_trans G.out ga)
      have HW1 := Lib.hid hW1.symm
      have i1 : (k : Int) < (es.length : Int) := by omega
      have i2 : (0 : Int) ≤ (k : Int) := by omega
      clear he hek hll hW1 ga s1 s2 s3 hb
      simp only [Ev.cells] at HW1
      go_upto_region 5 with fail
      clear d0 d1 d2 d3 d4 d5 d6 d7 d8 d9
      go_wp2_with fail
      rw [HW1.out]
      refine KA.out.mono ?_
      rintro e' w5 ⟨A5, c5, rfl, h5, h6, h7, h8⟩
      have hsz1 := G1.out.size
      have R5 := Lib.hid (h7.mono (S' := (w.heap.size ≤ ·)) (fun b hb _ => Nat.le_trans hsz1 hb))
      have G5 := Lib.hid (only_trans G1.out h8)
      rw [← HT.out] at h5 R5 ⊢
      clear h7 h8
      go_wp2_with fail
      go_roundw
      case rel => exact ⟨k + 1, A5, c5, by go_num, by omega, rfl, h5, h6, R5.out, G5.out⟩
      case measure => simp [intOf]; omega
    · have i1 : ¬ ((k : Int) < (es.length : Int)) := by omega
      rw [List.take_of_length_le (show es.length ≤ k by omega)] at R hc1 ⊢
      go_wp2_with fail
      go_ret
      exact ⟨A', c', rfl, hc1, hc2, R.out, G.out⟩
set_option maxHeartbeats 4000000 in
set_option maxRecDepth 100000 in
theorem linr_any {S : Nat → Prop} (A : Option Addr) (es : List Ev) (c : Nat) (w : World) (h : Rd S w A (es.flatMap Ev.cells)) (hl : es.length ≤ 900) (hg : ∀ e ∈ es, 1 ≤ e.lines.length ∧ e.lines.length ≤ 3) :
    Calls Try.prog 16 #[.slice A es.length c] w (TalsPost w (linT es)) := by
  have H := Lib.hid h
  have OKS := Lib.hid (linT_ok es hg)
  have HG := Lib.hid hg
  clear h hg
  go_enter Try.func16, Try.ntmps16
  go_wp2_with fail
  go_loopw [3, 4] (fun vo vi wr => ∃ (k : Nat) (A' : Option Addr) (c' : Nat), vi = .int .i64 k ∧ k ≤ es.length ∧ vo = .slice A' (linT (es.take k)).length c' ∧ (linT (es.take k)).length ≤ c' ∧ c' ≤ maxLen ∧ (k = 0 → A' = none ∧ c' = 0) ∧ (0 < k → 0 < (linT (es.take k)).length) ∧ Rd (w.heap.size ≤ ·) wr A' ((linT (es.take k)).flatMap Tal.cells) ∧ w.grownBy wr none) (fun _ vi _ => es.length - (intOf vi).toNat)
  case atStart => exact ⟨0, none, 0, rfl, Nat.zero_le _, rfl, Nat.le_refl _, by unfold maxLen; omega, (fun _ => ⟨rfl, rfl⟩), (fun h => by omega), Rd.nil, only_refl _ _⟩
  case round =>
    obtain ⟨k, A', c', rfl, hk, rfl, hc1, hc2, hz0, hz1, hR, hG⟩ := hrel
    have R := Lib.hid hR
    have G := Lib.hid hG
    have hsz := hG.size
    clear hR hG
    by_cases hlt : k < es.length
    · obtain ⟨b, o, rfl, -, -, -⟩ := H.out (by rw [flat_len _ 10 Ev.cells_len]; omega)
      obtain ⟨e, he⟩ : ∃ e, es[k] = e := ⟨_, rfl⟩
      obtain ⟨d0, -, -, -, d4, -, -, -, -, -⟩ := Evs.load10 (H.out.grown G.out (by simp)) hlt he
      have hek : es[k]? = some e := by rw [List.getElem?_eq_getElem hlt, he]
      have hb := HG.out e (List.mem_of_getElem? hek)
      obtain ⟨s1, s2, s3⟩ := OKS.out k hk
      have HT : Hid (linT (es.take (k + 1)) = mrg (linT (es.take k)) [evT e]) := Lib.hid (by rw [List.take_succ_eq_append_getElem hlt, he, linT_snoc])
      have hx : 1 ≤ (evT e).lines ∧ (evT e).lines ≤ 1000000 := by show 1 ≤ (e.lines.length : Int) ∧ (e.lines.length : Int) ≤ 1000000; omega
      have hl0 : k = 0 → linT (es.take k) = [] := fun h => by rw [h]; rfl
      obtain ⟨l, hll⟩ : ∃ l, l = linT (es.take k) := ⟨_, rfl⟩
      rw [← hll] at s1 s2 s3 R hc1 HT hz1 hl0 ⊢
      have KA : Hid (Calls Try.prog 31 #[.slice A' l.length c', .int .i64 (evT e).host, .string (evT e).rule, .int .i64 (evT e).lines] wr.drew (TalsPost wr.drew (mrg l [evT e]))) := Lib.hid (by
        rcases Nat.eq_zero_or_pos k with h0 | h0
        · obtain ⟨rfl, rfl⟩ := hz0 h0
          rw [hl0 h0]
          have := add_nil (evT e) wr.drew hx
          simpa [mrg] using this
        · exact add_any A' l c' (evT e) wr.drew (R.out.drewN 1) (by omega) (hz1 h0) hc1 hc2 hx (fun t ht => by have := s2 t ht; omega))
      have i1 : (k : Int) < (es.length : Int) := by omega
      have i2 : (0 : Int) ≤ (k : Int) := by omega
      clear he hek hll s1 s2 s3 hb hx hl0 hz0 hz1
      go_upto_region 5 with fail
      go_still_tail 12, (by kernel_rfl)
      change wpList _ _ _ _ _ wr.drew
      go_wp2_with fail
      refine KA.out.mono ?_
      rintro e' w5 ⟨A5, c5, rfl, h5, h6, h7, h8⟩
      have R5 := Lib.hid (h7.mono (S' := (w.heap.size ≤ ·)) (fun b hb _ => Nat.le_trans hsz hb))
      have G5 := Lib.hid (only_trans (only_drew G.out) h8)
      have hps := mrg_pos l (evT e)
      rw [← HT.out] at h5 R5 hps ⊢
      clear h7 h8 d0 d4
      go_wp2_with fail
      go_roundw
      case rel => exact ⟨k + 1, A5, c5, by go_num, by omega, rfl, h5, h6, (fun h => by omega), (fun _ => hps), R5.out, G5.out⟩
      case measure => simp [intOf]; omega
    · have i1 : ¬ ((k : Int) < (es.length : Int)) := by omega
      rw [List.take_of_length_le (show es.length ≤ k by omega)] at R hc1 ⊢
      go_wp2_with fail
      go_ret
      exact ⟨A', c', rfl, hc1, hc2, R.out, G.out⟩
end Go.Proofs.Ytiogpomgpknjlaa
