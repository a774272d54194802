/- heap.Push, heap.Fix at 0, heap.Pop on the queue. No condition. -/
import Derived.Test.YtphglalphejppaaHeapDown
namespace Go.Proofs.Ytphglalphejppaa
open Go.RowKit
set_option linter.unusedVariables false
set_option linter.unusedSimpArgs false

theorem own_shape {w : World} {base e z n : Nat} {v : Value} {xs : List Value} (h : w.ownsRow base e z v (n + 1) xs) : ∃ g c, v = .slice (some ⟨g, 0, none⟩) (n + 1) c ∧ base ≤ g ∧ c ≤ maxLen ∧ n + 1 ≤ c := by
  obtain ⟨-, h2⟩ := h
  rcases h2 with ⟨_, h3⟩ | ⟨g, cap, cur, rfl, hg, hh, hc, hm, hcs, ht⟩
  · omega
  · exact ⟨g, cap, rfl, hg, hm, hc⟩
def HeapPost (base : Nat) (w : World) (gq : Nat) (v : Value) (ss : List Src) (e : Ending) (w' : World) : Prop :=
  (∃ x, e = .returned x) ∧ ∃ v', QSt base w' gq v' ss ∧ Fr2 w w' gq v.ownBlock ∧ (v'.ownBlock = v.ownBlock ∨ ∃ b, v'.ownBlock = some b ∧ w.heap.size ≤ b)
theorem own_le {w : World} {base e z n : Nat} {v : Value} {xs : List Value} (h : w.ownsRow base e z v n xs) {k : Nat} (hk : k ≤ base) : ∀ b, v.ownBlock = some b → k ≤ b := fun b hb => Nat.le_trans hk (h.lt b hb).1
set_option maxHeartbeats 2000000 in
set_option maxRecDepth 100000 in
theorem hpush_any (base gq : Nat) (v : Value) (ss : List Src) (s : Src) (w0 w : World) (h : QSt base w gq v ss) (hg : w0.grownBy w none) (hs : ∀ t ∈ ss ++ [s], SOk w0 t) (hgb : w0.heap.size ≤ base) (hl : ss.length < 100000) (hbase : base ≤ w.heap.size) (hw0 : w0.heap.size ≤ gq) :
    Calls Try.prog 33 #[.iface 71 (.pointer (some ⟨gq, 0, none⟩)), .iface 76 (.agg #[.slice s.A s.rest.length s.c, .int .i64 s.idx])] w (HeapPost base w gq v (upM (ss ++ [s]) ss.length)) := by
  have KP : Hid (Calls Try.prog 110 #[.pointer (some ⟨gq, 0, none⟩), .iface 76 (.agg #[.slice s.A s.rest.length s.c, .int .i64 s.idx])] w (PushPost base w gq v (ss ++ [s]))) := Lib.hid (qpush_any base gq v ss s w h (by omega) hbase)
  have HL := Lib.hid (own_le h.2 hgb)
  have HG := Lib.hid hg
  have HS := Lib.hid hs
  have hM := meth_ptr q_push gq 262 w
  clear h hg hs
  go_enter Try.func33, Try.ntmps33
  go_wp2_with fail
  refine KP.out.mono ?_
  rintro e w1 ⟨⟨x1, rfl⟩, v1, hq1, hf1, hv1⟩
  have hq1' : w1.ownsRow base 76 2 v1 (ss.length + 1) ((ss ++ [s]).flatMap Src.cells) := by have := hq1.2; simpa using this
  obtain ⟨gr, cq, rfl, hgr, hcm, hlc⟩ := own_shape hq1'
  have hq1s : QSt base w1 gq (.slice (some ⟨gr, 0, none⟩) (ss ++ [s]).length cq) (ss ++ [s]) := by simpa using hq1
  have KU : Hid (Calls Try.prog 52 #[.iface 71 (.pointer (some ⟨gq, 0, none⟩)), .int .i64 ss.length] w1 (HPost base w1 gq (.slice (some ⟨gr, 0, none⟩) (ss ++ [s]).length cq) (upM (ss ++ [s]) ss.length))) :=
    Lib.hid (up_any base gq gr cq ss.length (ss ++ [s]) w0 w1 hq1s (hf1.grown HG.out hw0 HL.out) HS.out (by simp) (by simp; omega) hgb hw0 hgr)
  have q1 := hq1.1.cell 0
  simp at q1
  have hM1 := meth_val q_len gq 262 _ ⟨_, _, _, rfl⟩ w1 q1
  have F1 := Lib.hid hf1
  have V1 := Lib.hid hv1
  clear hM hq1 hq1' hq1s hf1 hv1 KP
  go_wp2_with (go_at_call 34; refine (len_any _ _ _ _ _ rfl).mono ?_; rintro e w' ⟨rfl, rfl⟩)
  refine KU.out.mono ?_
  rintro e w2 ⟨⟨x2, rfl⟩, hq2, hf2⟩
  have Q2 := Lib.hid hq2
  have F2 := Lib.hid hf2
  clear hq2 hf2 hM1 q1 KU
  go_wp2_with fail
  go_end0
  refine ⟨⟨_, rfl⟩, _, Q2.out, F1.out.trans F2.out ?_, V1.out⟩
  rcases V1.out with e | ⟨b, e, hb⟩
  · exact .inl e
  · exact .inr (.inr ⟨b, e, hb⟩)
set_option maxHeartbeats 2000000 in
set_option maxRecDepth 100000 in
theorem hfix_any (base gq : Nat) (v : Value) (ss : List Src) (w0 w : World) (h : QSt base w gq v ss) (hn : 0 < ss.length) (hg : w0.grownBy w none) (hs : ∀ t ∈ ss, SOk w0 t) (hgb : w0.heap.size ≤ base) (hl : ss.length ≤ 100000) (hw0 : w0.heap.size ≤ gq) :
    Calls Try.prog 35 #[.iface 71 (.pointer (some ⟨gq, 0, none⟩)), .int .i64 0] w (HeapPost base w gq v (downM ss 0 ss.length).1) := by
  obtain ⟨n, hn⟩ : ∃ n, ss.length = n + 1 := ⟨ss.length - 1, by omega⟩
  have h2 := h.2
  rw [hn] at h2
  obtain ⟨gr, cq, rfl, hgr, hcm, hlc⟩ := own_shape h2
  have HL := Lib.hid (own_le h.2 hgb)
  have KD : Hid (Calls Try.prog 53 #[.iface 71 (.pointer (some ⟨gq, 0, none⟩)), .int .i64 ((0 : Nat) : Int), .int .i64 ((n + 1 : Nat) : Int)] w (DPost base w gq (.slice (some ⟨gr, 0, none⟩) (n + 1) cq) (downM ss 0 (n + 1)).1 (decide (0 < (downM ss 0 (n + 1)).2)))) :=
    Lib.hid (down_any base gq gr cq 0 (n + 1) (n + 1) ss w0 w hn h hg (fun k s _ hk => hs s (List.mem_of_getElem? hk)) (by omega) (by omega) (by omega) hgb hw0 hgr)
  have q0 := h.1.cell 0
  simp at q0
  have hM := meth_val q_len gq 262 _ ⟨_, _, _, rfl⟩ w q0
  have HG := Lib.hid hg
  have HS := Lib.hid hs
  have HN := Lib.hid hn
  clear h h2 hg hs hn
  obtain ⟨B, hB⟩ : ∃ B : Bool, B = decide (0 < (downM ss 0 (n + 1)).2) := ⟨_, rfl⟩
  rw [← hB] at KD
  clear hB
  obtain ⟨ts, hts⟩ : ∃ ts, ts = (downM ss 0 (n + 1)).1 := ⟨_, rfl⟩
  rw [← hts] at KD
  have hpm : ts.Perm ss := by rw [hts]; exact down_perm _ _ _ _ (Nat.le_refl _)
  have HTS := Lib.hid hts
  have HTL : Hid (ts.length = n + 1) := Lib.hid (by rw [hpm.length_eq]; exact HN.out)
  have HTS2 : Hid (∀ t ∈ ts, SOk w0 t) := Lib.hid (fun t ht => HS.out t (hpm.mem_iff.1 ht))
  clear hts hpm
  go_enter Try.func35, Try.ntmps35
  go_wp2_with (go_at_call 34; refine (len_any _ _ _ _ _ rfl).mono ?_; rintro e w' ⟨rfl, rfl⟩)
  refine KD.out.mono ?_
  rintro e w1 ⟨rfl, hq1, hf1⟩
  have Q1 := Lib.hid hq1
  have F1 := Lib.hid hf1
  clear hM q0 hq1 hf1 KD
  cases B with
  | true =>
    go_wp2_with fail
    go_end0
    exact ⟨⟨_, rfl⟩, _, by rw [HN.out, ← HTS.out]; exact Q1.out, F1.out, .inl rfl⟩
  | false =>
    have KU : Hid (Calls Try.prog 52 #[.iface 71 (.pointer (some ⟨gq, 0, none⟩)), .int .i64 ((0 : Nat) : Int)] w1 (HPost base w1 gq (.slice (some ⟨gr, 0, none⟩) ts.length cq) (upM ts 0))) :=
      Lib.hid (up_any base gq gr cq 0 ts w0 w1 (by rw [HTL.out]; exact Q1.out) (F1.out.grown HG.out hw0 HL.out) HTS2.out (by rw [HTL.out]; omega) (by rw [HTL.out]; have := HN.out; omega) hgb hw0 hgr)
    go_wp2_with fail
    refine KU.out.mono ?_
    rintro e w2 ⟨⟨x2, rfl⟩, hq2, hf2⟩
    have Q2 := Lib.hid hq2
    have F2 := Lib.hid hf2
    clear hq2 hf2 KU
    go_wp2_with fail
    go_end0
    have e : upM ts 0 = ts := by rw [upM, if_pos rfl]
    exact ⟨⟨_, rfl⟩, _, by have h3 := Q2.out; rw [HTL.out, e] at h3; rw [HN.out, ← HTS.out]; exact h3, F1.out.trans F2.out (.inl rfl), .inl rfl⟩
theorem own_cut {w : World} {base e z n g c m : Nat} {xs : List Value} (h : w.ownsRow base e z (.slice (some ⟨g, 0, none⟩) n c) n xs) (hm : m ≤ n) : w.ownsRow base e z (.slice (some ⟨g, 0, none⟩) m c) m (xs.take (m * z)) := by
  obtain ⟨d, rfl⟩ : ∃ d, n = m + d := ⟨n - m, by omega⟩
  clear hm
  induction d generalizing xs with
  | zero =>
    rw [List.take_of_length_le (by have := h.1; simp at this; omega)]; exact h
  | succ d ih =>
    have := ih (own_pop h)
    rw [List.take_take, Nat.min_eq_left (Nat.mul_le_mul_right _ (by omega))] at this
    exact this
def HPopPost (base : Nat) (w : World) (gq : Nat) (v : Value) (ss : List Src) (e : Ending) (w' : World) : Prop :=
  (∃ x, e = .returned x) ∧ ∃ v', QSt base w' gq v' ss ∧ Fr2 w w' gq v.ownBlock ∧ v'.ownBlock = v.ownBlock
set_option maxHeartbeats 2000000 in
set_option maxRecDepth 100000 in
theorem hpop_any (base gq n : Nat) (v : Value) (ss : List Src) (w0 w : World) (h : QSt base w gq v ss) (hn : ss.length = n + 1) (hg : w0.grownBy w none) (hs : ∀ k s, 0 < k → ss[k]? = some s → SOk w0 s) (hgb : w0.heap.size ≤ base) (hl : ss.length ≤ 100000) (hw0 : w0.heap.size ≤ gq) :
    Calls Try.prog 36 #[.iface 71 (.pointer (some ⟨gq, 0, none⟩))] w (HPopPost base w gq v (((downM (swapAt ss 0 n) 0 n).1).take n)) := by
  have h2 := h.2
  rw [hn] at h2
  obtain ⟨gr, cq, rfl, hgr, hcm, hlc⟩ := own_shape h2
  have HL := Lib.hid (own_le h.2 hgb)
  have KS : Hid (Calls Try.prog 111 #[.slice (some ⟨gr, 0, none⟩) (n + 1) cq, .int .i64 ((0 : Nat) : Int), .int .i64 n] w (SwpPost base w gr (n + 1) cq (swapAt ss 0 n))) := Lib.hid (swapM_any base gq gr cq 0 n (n + 1) ss w hn h (by omega) (by omega))
  have q0 := h.1.cell 0
  simp at q0
  have hM := meth_val q_len gq 262 _ ⟨_, _, _, rfl⟩ w q0
  have hM2 := meth_val q_swap gq 262 _ ⟨_, _, _, rfl⟩ w q0
  have hqr : gq ≠ gr := fun e => blk_not_row h.1 h.2 (by decide) (by rw [e]; rfl)
  have HB := Lib.hid h.1
  have HG := Lib.hid hg
  have HS := Lib.hid hs
  have HN := Lib.hid hn
  have hnb : n ≤ 100000 := by omega
  clear h h2 hg hs hn
  go_enter Try.func36, Try.ntmps36
  go_wp2_with (go_at_call 34; refine (len_any _ _ _ _ _ rfl).mono ?_; rintro e w' ⟨rfl, rfl⟩)
  refine KS.out.mono ?_
  rintro e w1 ⟨⟨x1, rfl⟩, hS1, hg1⟩
  have hb1 := HB.out.grown hg1 (by intro e; injection e; omega)
  have hq1 : QSt base w1 gq (.slice (some ⟨gr, 0, none⟩) (n + 1) cq) (swapAt ss 0 n) := ⟨hb1, by rw [swapAt_len, HN.out]; exact hS1.2⟩
  have F1 : Hid (Fr2 w w1 gq (some gr)) := Lib.hid (Fr2.of hg1)
  obtain ⟨ts, hts⟩ : ∃ ts, ts = (downM (swapAt ss 0 n) 0 n).1 := ⟨_, rfl⟩
  have hpm : ts.Perm ss := by rw [hts]; exact (down_perm _ _ _ _ (Nat.le_refl _)).trans (swapAt_perm _ _ _)
  have HTS := Lib.hid hts
  have HTL : Hid (ts.length = n + 1) := Lib.hid (by rw [hpm.length_eq]; exact HN.out)
  have hkd := down_any base gq gr cq 0 n (n + 1) (swapAt ss 0 n) w0 w1 (by rw [swapAt_len]; exact HN.out) hq1 (F1.out.grown HG.out hw0 HL.out) (fun k t hk ht => by
    have hn1 := HN.out
    rw [swapAt_at (by omega) (by omega), if_neg (by omega)] at ht
    split at ht
    · exact HS.out n t (by omega) ht
    · exact HS.out k t (by omega) ht) (by omega) (by omega) (by have := HN.out; omega) hgb hw0 hgr
  rw [← hts] at hkd
  have KD := Lib.hid hkd
  clear hkd hts hpm hq1 hb1 hS1 hg1 hM hM2 q0 KS
  go_wp2_with fail
  refine KD.out.mono ?_
  rintro e w2 ⟨rfl, hq2, hf2⟩
  have q2 := hq2.1.cell 0
  simp at q2
  obtain ⟨tl, t, hdl⟩ : ∃ tl t, ts = tl ++ [t] := ⟨ts.dropLast, ts.getLast (by intro e; have := HTL.out; rw [e] at this; simp at this), (List.dropLast_concat_getLast _).symm⟩
  have htl : tl.length = n := by have := HTL.out; rw [hdl] at this; simpa using this
  have hkp := qpop_any base gq gr cq tl t w2 (by rw [← hdl, htl]; exact hq2) (by rw [htl]; have := HN.out; omega) hcm (by rw [htl]; exact hlc)
  have KP := Lib.hid hkp
  have HD2 : Hid (ts.take n = tl) := Lib.hid (by rw [hdl, List.take_left' htl])
  have F2 := Lib.hid hf2
  have hM := meth_ptr q_pop gq 262 w2
  clear hkp hq2 hf2 q2 KD hdl htl
  go_wp2_with fail
  refine KP.out.mono ?_
  rintro e w3 ⟨rfl, hq3, hg3⟩
  have Q3 := Lib.hid hq3
  have F3 : Hid (Fr2 w w3 gq (some gr)) := Lib.hid ((F1.out.trans F2.out (.inl rfl)).trans (Fr2.of_q (r := some gr) hg3) (.inl rfl))
  clear hq3 hg3 hM KP
  go_wp2_with fail
  go_ret
  exact ⟨⟨_, rfl⟩, .slice (some ⟨gr, 0, none⟩) tl.length cq, by rw [← HTS.out, HD2.out]; exact Q3.out, F3.out, rfl⟩
end Go.Proofs.Ytphglalphejppaa
