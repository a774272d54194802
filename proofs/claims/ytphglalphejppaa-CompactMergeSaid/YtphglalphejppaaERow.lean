/- A row of events of the call's own, in which an event is stored. No condition. -/
import Derived.Test.YtphglalphejppaaLaw31K
namespace Go.Proofs.Ytphglalphejppaa
open Go.RowKit
set_option linter.unusedVariables false
set_option linter.unusedSimpArgs false

def ER (base : Nat) (w : World) (gr n cap : Nat) (es : List Ev) : Prop := es.length = n ∧ w.ownsRow base 34 10 (.slice (some ⟨gr, 0, none⟩) n cap) n (es.flatMap Ev.cells)
/-- an event stored at an offset -/
def setEvAt (w : World) (g o : Nat) (x : Ev) : World := ((((((((((w.setCell ⟨g, o, none⟩ (.int .i64 x.host)).setCell ⟨g, o + 1, none⟩ (.int .i64 x.file)).setCell ⟨g, o + 2, none⟩ (.int .i64 x.beg)).setCell ⟨g, o + 3, none⟩ (.int .i64 x.fin)).setCell ⟨g, o + 4, none⟩ (.slice x.la x.lines.length x.lc)).setCell ⟨g, o + 5, none⟩ (.int .i64 x.time)).setCell ⟨g, o + 6, none⟩ (.int .i64 x.weight)).setCell ⟨g, o + 7, none⟩ (.string x.trace)).setCell ⟨g, o + 8, none⟩ (.string x.stream)).setCell ⟨g, o + 9, none⟩ (.slice x.fa x.fields.length x.fc))
theorem grown_setEvAt (w : World) (g o : Nat) (x : Ev) : w.grownBy (setEvAt w g o x) (some g) := by
  have g0 : w.grownBy _ (some g) := only_setCell (only_refl w (some g)) (p := ⟨g, o, none⟩) (.inl rfl) (.int .i64 x.host)
  have g1 : w.grownBy _ (some g) := only_setCell g0 (p := ⟨g, o + 1, none⟩) (.inl rfl) (.int .i64 x.file)
  have g2 : w.grownBy _ (some g) := only_setCell g1 (p := ⟨g, o + 2, none⟩) (.inl rfl) (.int .i64 x.beg)
  have g3 : w.grownBy _ (some g) := only_setCell g2 (p := ⟨g, o + 3, none⟩) (.inl rfl) (.int .i64 x.fin)
  have g4 : w.grownBy _ (some g) := only_setCell g3 (p := ⟨g, o + 4, none⟩) (.inl rfl) (.slice x.la x.lines.length x.lc)
  have g5 : w.grownBy _ (some g) := only_setCell g4 (p := ⟨g, o + 5, none⟩) (.inl rfl) (.int .i64 x.time)
  have g6 : w.grownBy _ (some g) := only_setCell g5 (p := ⟨g, o + 6, none⟩) (.inl rfl) (.int .i64 x.weight)
  have g7 : w.grownBy _ (some g) := only_setCell g6 (p := ⟨g, o + 7, none⟩) (.inl rfl) (.string x.trace)
  have g8 : w.grownBy _ (some g) := only_setCell g7 (p := ⟨g, o + 8, none⟩) (.inl rfl) (.string x.stream)
  exact only_setCell g8 (p := ⟨g, o + 9, none⟩) (.inl rfl) (.slice x.fa x.fields.length x.fc)
theorem ER.cell {base : Nat} {w : World} {gr n cap i : Nat} {es : List Ev} (h : ER base w gr n cap es) {e : Ev} (he : es[i]? = some e) (m : Nat) (hm : m < 10) : w.cell? ⟨gr, i * 10 + m, none⟩ = e.cells[m]? ∧ w.frozen? ⟨gr, i * 10 + m, none⟩ = false := by
  obtain ⟨hi, ei⟩ := List.getElem?_eq_some_iff.1 he
  obtain ⟨h1, h2⟩ := own_cellk h.2 (k := i * 10 + m) (by have := h.1; omega)
  have h3 := flat_at Ev.cells 10 Ev.cells_len es i m hi hm
  rw [ei] at h3
  exact ⟨h1.trans h3, h2⟩
theorem store_evAt (w : World) (g o : Nat) (e x : Ev) (h : ∀ m, m < 10 → w.cell? ⟨g, o + m, none⟩ = e.cells[m]? ∧ w.frozen? ⟨g, o + m, none⟩ = false) :
    (Instr.storeAt 34 (.pointer (some ⟨g, o, none⟩)) (.agg x.cells.toArray)).run Try.prog w = .ok () (setEvAt w g o x) := by
  obtain ⟨c0, f0⟩ := h 0 (by omega)
  obtain ⟨c1, f1⟩ := h 1 (by omega)
  obtain ⟨c2, f2⟩ := h 2 (by omega)
  obtain ⟨c3, f3⟩ := h 3 (by omega)
  obtain ⟨c4, f4⟩ := h 4 (by omega)
  obtain ⟨c5, f5⟩ := h 5 (by omega)
  obtain ⟨c6, f6⟩ := h 6 (by omega)
  obtain ⟨c7, f7⟩ := h 7 (by omega)
  obtain ⟨c8, f8⟩ := h 8 (by omega)
  obtain ⟨c9, f9⟩ := h 9 (by omega)
  simp [Ev.cells] at c0 c1 c2 c3 c4 c5 c6 c7 c8 c9
  rw [Nat.add_zero] at f0
  have hu := Try.underlying34
  unfold setEvAt
  simp [go_sem, Ev.cells, c0, c1, c2, c3, c4, c5, c6, c7, c8, c9, f0, f1, f2, f3, f4, f5, f6, f7, f8, f9]
theorem ER.step {base : Nat} {w : World} {gr n cap i j : Nat} {es : List Ev} (h : ER base w gr n cap es) {e y : Ev} {u : Value} (he : es[i]? = some e) (hj : j < 10) (hu : e.cells.set j u = y.cells) : ER base (w.setCell ⟨gr, i * 10 + j, none⟩ u) gr n cap (es.set i y) ∧ (es.set i y)[i]? = some y := by
  obtain ⟨hi, ei⟩ := List.getElem?_eq_some_iff.1 he
  have a := own_setk h.2 (k := i * 10 + j) (u := u) (by have := h.1; omega)
  have f := flat_set Ev.cells_len es i j hi y u hj (by rw [ei]; exact hu)
  rw [f] at a
  exact ⟨⟨by simpa using h.1, a⟩, by simp [hi]⟩
theorem ER.set {base : Nat} {w : World} {gr n cap i : Nat} {es : List Ev} (h : ER base w gr n cap es) {e : Ev} (he : es[i]? = some e) (x : Ev) : ER base (setEvAt w gr (i * 10) x) gr n cap (es.set i x) := by
  obtain ⟨h0, e0⟩ := h.step (j := 0) (y := { e with host := x.host }) (u := .int .i64 x.host) he (by omega) rfl
  obtain ⟨h1, e1⟩ := h0.step (j := 1) (y := { e with host := x.host, file := x.file }) (u := .int .i64 x.file) e0 (by omega) rfl
  obtain ⟨h2, e2⟩ := h1.step (j := 2) (y := { e with host := x.host, file := x.file, beg := x.beg }) (u := .int .i64 x.beg) e1 (by omega) rfl
  obtain ⟨h3, e3⟩ := h2.step (j := 3) (y := { e with host := x.host, file := x.file, beg := x.beg, fin := x.fin }) (u := .int .i64 x.fin) e2 (by omega) rfl
  obtain ⟨h4, e4⟩ := h3.step (j := 4) (y := { e with host := x.host, file := x.file, beg := x.beg, fin := x.fin, la := x.la, lines := x.lines, lc := x.lc }) (u := .slice x.la x.lines.length x.lc) e3 (by omega) rfl
  obtain ⟨h5, e5⟩ := h4.step (j := 5) (y := { x with weight := e.weight, trace := e.trace, stream := e.stream, fields := e.fields, fa := e.fa, fc := e.fc }) (u := .int .i64 x.time) e4 (by omega) rfl
  obtain ⟨h6, e6⟩ := h5.step (j := 6) (y := { x with trace := e.trace, stream := e.stream, fields := e.fields, fa := e.fa, fc := e.fc }) (u := .int .i64 x.weight) e5 (by omega) rfl
  obtain ⟨h7, e7⟩ := h6.step (j := 7) (y := { x with stream := e.stream, fields := e.fields, fa := e.fa, fc := e.fc }) (u := .string x.trace) e6 (by omega) rfl
  obtain ⟨h8, e8⟩ := h7.step (j := 8) (y := { x with fields := e.fields, fa := e.fa, fc := e.fc }) (u := .string x.stream) e7 (by omega) rfl
  obtain ⟨h9, e9⟩ := h8.step (j := 9) (y := x) (u := .slice x.fa x.fields.length x.fc) e8 (by omega) rfl
  have : ((((((((((es.set i { e with host := x.host }).set i { e with host := x.host, file := x.file }).set i { e with host := x.host, file := x.file, beg := x.beg }).set i { e with host := x.host, file := x.file, beg := x.beg, fin := x.fin }).set i { e with host := x.host, file := x.file, beg := x.beg, fin := x.fin, la := x.la, lines := x.lines, lc := x.lc }).set i { x with weight := e.weight, trace := e.trace, stream := e.stream, fields := e.fields, fa := e.fa, fc := e.fc }).set i { x with trace := e.trace, stream := e.stream, fields := e.fields, fa := e.fa, fc := e.fc }).set i { x with stream := e.stream, fields := e.fields, fa := e.fa, fc := e.fc }).set i { x with fields := e.fields, fa := e.fa, fc := e.fc }).set i x) = es.set i x := by simp [List.set_set]
  rw [this] at h9
  unfold setEvAt
  exact h9
/-- two events change places -/
def swE (es : List Ev) (i j : Nat) (a b : Ev) : List Ev := (es.set i b).set j a
/-- rows whose events are readable, no more than 72 in all -/
def TR (base g go m : Nat) (l : List Int) (w0 wr : World) (ps : List Pl) : Prop :=
  ps.length = m ∧ PR base wr (.slice (some ⟨go, 0, none⟩) m m) ps ∧ (∀ p ∈ ps, ∀ e ∈ p.evs, e.Sub (fun b => g < b ∧ b < base) wr ∧ e.lines.length ≤ 100000 ∧ e.fields.length ≤ 100000) ∧ (ps.map (·.evs)).flatten.length ≤ 72 ∧ (∃ k, CodesAt wr g l k) ∧ w0.grownBy wr none
theorem TR.next {base g go m : Nat} {l : List Int} {w0 wr w2 : World} {ps : List Pl} {k : Nat} (h : TR base g go m l w0 wr ps) (hc : CodesAt w2 g l k) (hg : wr.grownBy w2 (some g)) (hlt : g < base) (hw : w0.heap.size ≤ g) : TR base g go m l w0 w2 ps :=
  ⟨h.1, h.2.1.grown hg hlt, fun p hp e he => ⟨(h.2.2.1 p hp e he).1.grown hg (fun b hb e1 => by injection e1; omega), (h.2.2.1 p hp e he).2⟩, h.2.2.2.1, ⟨k, hc⟩, only_fresh h.2.2.2.2.2 hg hw⟩
theorem TR.ext {base g go m : Nat} {l : List Int} {w0 wr w2 : World} {ps : List Pl} (h : TR base g go m l w0 wr ps) (hg : wr.grownBy w2 none) : TR base g go m l w0 w2 ps :=
  ⟨h.1, h.2.1.ext hg, fun p hp e he => ⟨(h.2.2.1 p hp e he).1.grown hg (by simp), (h.2.2.1 p hp e he).2⟩, h.2.2.2.1, by obtain ⟨k, hk⟩ := h.2.2.2.2.1; exact ⟨k, hk.grown hg (by simp)⟩, only_trans h.2.2.2.2.2 hg⟩
theorem TR.len {base g go m : Nat} {l : List Int} {w0 wr : World} {ps : List Pl} (h : TR base g go m l w0 wr ps) {p : Pl} (hp : p ∈ ps) : p.evs.length ≤ 72 := by
  have h1 := h.2.2.2.1
  obtain ⟨i, hi⟩ := List.getElem?_of_mem hp
  have h2 := flat_mono (ps := ps) (i := i + 1)
  rw [take_succ_map hi, List.flatten_append, List.length_append] at h2
  simp only [List.flatten_cons, List.flatten_nil, List.append_nil] at h2
  omega
/-- the events of one row in another order -/
theorem TR.turn {base g go m k : Nat} {l : List Int} {w0 wr w2 : World} {ps : List Pl} {p : Pl} {gr : Nat} {es' : List Ev} (h : TR base g go m l w0 wr ps) (hk : ps[k]? = some p) (ha : p.a = some ⟨gr, 0, none⟩) (hlen : es'.length = p.evs.length) (hsub : ∀ e ∈ es', e ∈ p.evs)
    (hr : w2.ownsRow base 34 10 p.cell p.evs.length (es'.flatMap Ev.cells)) (hg : wr.grownBy w2 (some gr)) (hgb : g < base) (hw : w0.heap.size ≤ base) : TR base g go m l w0 w2 (ps.set k ⟨es', p.a, p.c⟩) := by
  obtain ⟨h1, ⟨p1, p2, p3⟩, h3, h4, ⟨k5, h5⟩, h6⟩ := h
  have hkl : k < ps.length := (List.getElem?_eq_some_iff.1 hk).1
  have hpm := List.mem_of_getElem? hk
  have hob : p.cell.ownBlock = some gr := by unfold Pl.cell; rw [ha]; rfl
  have hgr : base ≤ gr := ((p2 p hpm).lt gr hob).1
  have hcell : (Pl.mk es' p.a p.c).cell = p.cell := by unfold Pl.cell; rw [hlen]
  have hat : ∀ (j : Nat) (q : Pl), (ps.set k ⟨es', p.a, p.c⟩)[j]? = some q → (j = k ∧ q = ⟨es', p.a, p.c⟩) ∨ (j ≠ k ∧ ps[j]? = some q) := by
    intro j q hq
    rw [List.getElem?_set] at hq
    split at hq
    · rename_i e1; subst e1
      left; simp [hkl] at hq; exact ⟨rfl, hq.symm⟩
    · rename_i e1; exact .inr ⟨fun e2 => e1 e2.symm, hq⟩
  have hmap : (ps.set k ⟨es', p.a, p.c⟩).map Pl.cell = ps.map Pl.cell := by
    rw [List.map_set, hcell]
    apply List.ext_getElem?
    intro j
    rw [List.getElem?_set]
    split
    · rename_i e1; subst e1; simp [hkl, (List.getElem?_eq_some_iff.1 hk).2]
    · rfl
  refine ⟨by simpa using h1, ⟨?_, fun q hq => ?_, fun i j q r b hij hq hr' hqg => ?_⟩, fun q hq e he => ?_, ?_, ⟨k5, ?_⟩, only_fresh h6 hg (by omega)⟩
  · rw [List.length_set, hmap]
    exact own_block_eq p1 fun b hb => hg.block b (p1.lt b hb).2 (fun e => own_types p1 (p2 p hpm) (by decide) hb (by rw [hob, ← e]))
  · obtain ⟨j, hj⟩ := List.getElem?_of_mem hq
    rcases hat j q hj with ⟨_, rfl⟩ | ⟨hjk, hj'⟩
    · rw [hcell]; simpa [hlen] using hr
    · exact own_block_eq (p2 q (List.mem_of_getElem? hj')) fun b hb => hg.block b ((p2 q (List.mem_of_getElem? hj')).lt b hb).2 (fun e => p3 j k q p b hjk hj' hk hb (by rw [hob, ← e]))
  · rcases hat i q hq with ⟨rfl, rfl⟩ | ⟨hik, hq'⟩
    · rcases hat j r hr' with ⟨rfl, _⟩ | ⟨hjk, hr''⟩
      · exact absurd rfl hij
      · rw [hcell] at hqg; exact p3 i j p r b hij hk hr'' hqg
    · rcases hat j r hr' with ⟨rfl, rfl⟩ | ⟨hjk, hr''⟩
      · rw [hcell]; exact p3 i j q p b hij hq' hk hqg
      · exact p3 i j q r b hij hq' hr'' hqg
  · have hold : ∃ q' ∈ ps, e ∈ q'.evs := by
      obtain ⟨j, hj⟩ := List.getElem?_of_mem hq
      rcases hat j q hj with ⟨_, rfl⟩ | ⟨hjk, hj'⟩
      · exact ⟨p, hpm, hsub e he⟩
      · exact ⟨q, List.mem_of_getElem? hj', he⟩
    obtain ⟨q', hq', he'⟩ := hold
    exact ⟨(h3 q' hq' e he').1.grown hg (fun b hb e1 => by injection e1; omega), (h3 q' hq' e he').2⟩
  · have hlm : (ps.set k ⟨es', p.a, p.c⟩).map (·.evs.length) = ps.map (·.evs.length) := by
      rw [List.map_set]
      apply List.ext_getElem?
      intro j
      rw [List.getElem?_set]
      split
      · rename_i e1; subst e1; simp [hkl, (List.getElem?_eq_some_iff.1 hk).2, hlen]
      · rfl
    have e1 : ∀ qs : List Pl, (qs.map (·.evs)).flatten.length = (qs.map (·.evs.length)).sum := fun qs => by
      rw [List.length_flatten, List.map_map]; rfl
    rw [e1, hlm, ← e1]; exact h4
  · exact h5.grown hg (fun b hb e => by injection e; omega)
end Go.Proofs.Ytphglalphejppaa
