/- A row of rows of events, each row of the call's own. No condition. -/
import Derived.Test.YtphglalphejppaaRMerge
import Derived.Laws.MakeOwn
namespace Go.Proofs.Ytphglalphejppaa
open Go.RowKit
set_option linter.unusedVariables false
set_option linter.unusedSimpArgs false

def PR (base : Nat) (w : World) (v : Value) (ps : List Pl) : Prop :=
  w.ownsRow base 26 1 v ps.length (ps.map Pl.cell) ∧ (∀ p ∈ ps, w.ownsRow base 34 10 p.cell p.evs.length (p.evs.flatMap Ev.cells)) ∧
  ∀ (i j : Nat) (p q : Pl) (g : Nat), i ≠ j → ps[i]? = some p → ps[j]? = some q → p.cell.ownBlock = some g → q.cell.ownBlock ≠ some g
theorem PR.grown {base g : Nat} {w w' : World} {v : Value} {ps : List Pl} (h : PR base w v ps) (hg : w.grownBy w' (some g)) (hlt : g < base) : PR base w' v ps :=
  ⟨own_only h.1 hg hlt, fun p hp => own_only (h.2.1 p hp) hg hlt, h.2.2⟩
theorem PR.ext {base : Nat} {w w' : World} {v : Value} {ps : List Pl} (h : PR base w v ps) (hg : w.grownBy w' none) : PR base w' v ps :=
  ⟨own_ext h.1 hg, fun p hp => own_ext (h.2.1 p hp) hg, h.2.2⟩
theorem PR.put {base go m co k : Nat} {w w3 : World} {ps : List Pl} {p : Pl} {e : Ev} {A' : Option Addr} {c' : Nat} (h : PR base w (.slice (some ⟨go, 0, none⟩) m co) ps) (hm : ps.length = m) (hk : ps[k]? = some p)
    (ho : w3.ownsRow base 34 10 (.slice A' (p.evs.length + 1) c') (p.evs.length + 1) (p.evs.flatMap Ev.cells ++ e.cells)) (hg : w.grownBy w3 p.cell.ownBlock) (hb : (Value.slice A' (p.evs.length + 1) c').ownBlock = p.cell.ownBlock ∨ ∃ b, (Value.slice A' (p.evs.length + 1) c').ownBlock = some b ∧ w.heap.size ≤ b) :
    PR base (w3.setCell ⟨go, k, none⟩ (.slice A' (p.evs.length + 1) c')) (.slice (some ⟨go, 0, none⟩) m co) (ps.set k ⟨p.evs ++ [e], A', c'⟩) := by
  subst hm
  obtain ⟨h1, h2, h3⟩ := h
  have hkl : k < ps.length := (List.getElem?_eq_some_iff.1 hk).1
  have hpm := List.mem_of_getElem? hk
  have hset : w3.grownBy (w3.setCell ⟨go, k, none⟩ (.slice A' (p.evs.length + 1) c')) (some go) := only_setCell (only_refl _ _) (p := ⟨go, k, none⟩) (.inl rfl) _
  have hrow : w3.ownsRow base 26 1 (.slice (some ⟨go, 0, none⟩) ps.length co) ps.length (ps.map Pl.cell) := own_block_eq h1 fun g hg' => hg.block g (h1.lt g hg').2 (fun e => own_types h1 (h2 p hpm) (by decide) hg' e.symm)
  have hcell : (Pl.mk (p.evs ++ [e]) A' c').cell = .slice A' (p.evs.length + 1) c' := by simp [Pl.cell]
  have hpo : w3.ownsRow base 34 10 (Pl.mk (p.evs ++ [e]) A' c').cell (p.evs ++ [e]).length ((p.evs ++ [e]).flatMap Ev.cells) := by rw [hcell]; simpa using ho
  have hat : ∀ (j : Nat) (q : Pl), (ps.set k ⟨p.evs ++ [e], A', c'⟩)[j]? = some q → (j = k ∧ q = ⟨p.evs ++ [e], A', c'⟩) ∨ (j ≠ k ∧ ps[j]? = some q) := by
    intro j q hq
    rw [List.getElem?_set] at hq
    split at hq
    · rename_i e1; subst e1
      left; simp [hkl] at hq; exact ⟨rfl, hq.symm⟩
    · rename_i e1; exact .inr ⟨fun e2 => e1 e2.symm, hq⟩
  have hold : ∀ (j : Nat) (q : Pl), j ≠ k → ps[j]? = some q → w3.ownsRow base 34 10 q.cell q.evs.length (q.evs.flatMap Ev.cells) := fun j q hj hq => own_block_eq (h2 q (List.mem_of_getElem? hq)) fun g hg' => hg.block g ((h2 q (List.mem_of_getElem? hq)).lt g hg').2 (fun e1 => h3 j k q p g hj hq hk hg' e1.symm)
  refine ⟨?_, fun q hq => ?_, fun i j q r g hij hq hr hqg => ?_⟩
  · have h4 := own_setk hrow (k := k) (u := .slice A' (p.evs.length + 1) c') (by omega)
    rw [List.length_set, List.map_set, hcell]
    exact h4
  · obtain ⟨j, hj⟩ := List.getElem?_of_mem hq
    rcases hat j q hj with ⟨_, rfl⟩ | ⟨hjk, hj'⟩
    · exact own_apart hpo hset (own_types hrow hpo (by decide) rfl)
    · exact own_apart (hold j q hjk hj') hset (own_types hrow (hold j q hjk hj') (by decide) rfl)
  · rcases hat i q hq with ⟨rfl, rfl⟩ | ⟨hik, hq'⟩
    · rcases hat j r hr with ⟨rfl, _⟩ | ⟨hjk, hr'⟩
      · exact absurd rfl hij
      · rw [hcell] at hqg
        rcases hb with hb | ⟨b, hb, hbs⟩
        · exact h3 i j p r g hij hk hr' (hb ▸ hqg)
        · intro e1
          have h5 := ((h2 r (List.mem_of_getElem? hr')).lt g e1).2
          rw [hb] at hqg; injection hqg with hqg; omega
    · rcases hat j r hr with ⟨rfl, rfl⟩ | ⟨hjk, hr'⟩
      · rw [hcell]
        rcases hb with hb | ⟨b, hb, hbs⟩
        · rw [hb]; exact h3 i j q p g hij hq' hk hqg
        · rw [hb]
          have h5 := ((h2 q (List.mem_of_getElem? hq')).lt g hqg).2
          intro e1; injection e1 with e1; omega
      · exact h3 i j q r g hij hq' hr' hqg
/-- what the rows read as -/
theorem PR.rd {base : Nat} {w : World} {v : Value} {ps : List Pl} (h : PR base w v ps) : ∃ A c, v = .slice A ps.length c ∧ ps.length ≤ c ∧ c ≤ maxLen ∧ Rd (base ≤ ·) w A (ps.map Pl.cell) ∧ ∀ p ∈ ps, p.Ok (base ≤ ·) w := by
  obtain ⟨A, c, e, h1, h2, -, h3⟩ := Rd.of_own h.1 (by decide)
  refine ⟨A, c, e, h1, h2, h3, fun p hp => ?_⟩
  obtain ⟨A2, c2, e2, k1, k2, -, k3⟩ := Rd.of_own (h.2.1 p hp) (by decide)
  unfold Pl.cell at e2
  injection e2 with a1 a2 a3
  subst a1 a3
  exact ⟨k3, k1, k2⟩

/-- what lies in the rows: events of a list, in order, as far as i -/
def PP (es : List Ev) (a b : Nat) (ps : List Pl) (N : Nat) : Prop :=
  (∀ p ∈ ps, Asc p.evs ∧ ∀ e ∈ p.evs, e ∈ es.take a) ∧ (∀ e ∈ es.take b, ∃ p ∈ ps, e ∈ p.evs) ∧ (ps.map (·.evs)).flatten.length ≤ N
theorem flat_set_len : ∀ {ps : List Pl} {k : Nat} {p p' : Pl}, ps[k]? = some p → p'.evs.length = p.evs.length + 1 → ((ps.set k p').map (·.evs)).flatten.length = (ps.map (·.evs)).flatten.length + 1
  | [], k, p, p', h, _ => by simp at h
  | q :: ps, 0, p, p', h, hl => by
    simp at h; subst h
    simp only [List.set_cons_zero, List.map_cons, List.flatten_cons, List.length_append, hl]; omega
  | q :: ps, k + 1, p, p', h, hl => by
    have := flat_set_len (ps := ps) (k := k) (p := p) (p' := p') (by simpa using h) hl
    simp only [List.set_cons_succ, List.map_cons, List.flatten_cons, List.length_append, this]; omega
theorem PP.put {es : List Ev} {a b i k N : Nat} {ps : List Pl} {p : Pl} {e : Ev} {A' : Option Addr} {c' : Nat} (h : PP es a b ps N) (hs : Srt es) (ha : a ≤ i + 1) (hb : i ≤ b) (he : es[i]? = some e) (hk : ps[k]? = some p) : PP es (i + 1) (i + 1) (ps.set k ⟨p.evs ++ [e], A', c'⟩) (N + 1) := by
  obtain ⟨h1, h2, h3⟩ := h
  obtain ⟨hil, hei⟩ := List.getElem?_eq_some_iff.1 he
  have hkl := (List.getElem?_eq_some_iff.1 hk).1
  have hpm := List.mem_of_getElem? hk
  have htk : es.take (i + 1) = es.take i ++ [e] := by rw [List.take_succ_eq_append_getElem hil, hei]
  have hin : ∀ x, x ∈ es.take a → x ∈ es.take (i + 1) := fun x hx => by
    have : es.take a = (es.take (i + 1)).take a := by rw [List.take_take, Nat.min_eq_left ha]
    rw [this] at hx
    exact List.mem_of_mem_take hx
  have hmem : ∀ q ∈ ps.set k ⟨p.evs ++ [e], A', c'⟩, q = ⟨p.evs ++ [e], A', c'⟩ ∨ q ∈ ps := fun q hq => (List.mem_or_eq_of_mem_set hq).symm
  have hnew : (⟨p.evs ++ [e], A', c'⟩ : Pl) ∈ ps.set k ⟨p.evs ++ [e], A', c'⟩ := List.mem_set hkl _
  refine ⟨fun q hq => ?_, fun x hx => ?_, ?_⟩
  · rcases hmem q hq with rfl | hq
    · refine ⟨List.pairwise_append.2 ⟨(h1 p hpm).1, List.pairwise_singleton _ _, fun x hx y hy => ?_⟩, fun x hx => ?_⟩
      · rw [List.mem_singleton.1 hy]
        have hx' := hin x ((h1 p hpm).2 x hx)
        rw [htk] at hx'
        have hsp : Srt (es.take (i + 1)) := List.Pairwise.sublist (List.take_sublist _ _) hs
        rw [htk] at hsp
        rcases List.mem_append.1 hx' with hx' | hx'
        · exact less_asymm ((List.pairwise_append.1 hsp).2.2 x hx' e (by simp))
        · rw [List.mem_singleton.1 hx']; exact (Keq.refl e).1
      · rcases List.mem_append.1 hx with hx | hx
        · exact hin x ((h1 p hpm).2 x hx)
        · rw [htk]; rw [List.mem_singleton.1 hx]; simp
    · exact ⟨(h1 q hq).1, fun x hx => hin x ((h1 q hq).2 x hx)⟩
  · rw [htk] at hx
    rcases List.mem_append.1 hx with hx | hx
    · have hxb : x ∈ es.take b := by
        have : es.take i = (es.take b).take i := by rw [List.take_take, Nat.min_eq_left hb]
        rw [this] at hx
        exact List.mem_of_mem_take hx
      obtain ⟨q, hq, hxq⟩ := h2 x hxb
      by_cases e1 : q = p
      · exact ⟨_, hnew, by rw [e1] at hxq; simp [hxq]⟩
      · obtain ⟨j, hj⟩ := List.getElem?_of_mem hq
        have hjk : j ≠ k := fun e2 => e1 (by rw [e2, hk] at hj; injection hj with hj; exact hj.symm)
        exact ⟨q, List.mem_of_getElem? (by rw [List.getElem?_set_ne (fun e2 => hjk e2.symm)]; exact hj), hxq⟩
    · rw [List.mem_singleton.1 hx]; exact ⟨_, hnew, by simp⟩
  · rw [flat_set_len hk (by simp)]; omega
theorem made_oneR (z : Value) (hz : z.cells = #[z]) (n : Nat) : madeCells z.cells (n * 1) = Array.replicate n z := by
  rw [hz, Nat.mul_one]
  apply Array.ext
  · simp [madeCells]
  · intro i h1 h2
    simp [madeCells, Nat.mod_one]
theorem make_row {P : Program} {t e : TypeId} {z : Value} {bytes : Nat} (ht : P.underlying t = some (.slice e)) (hi : (P.info? e).map (fun i => (i.zero, i.size, i.bytes)) = some (some z, 1, bytes)) (hz : z.cells = #[z]) (hb : bytes ≤ 100) (n : Nat) (hn : n ≤ 10000000) (w : World) :
    Sem.run P (Instr.makeSlice t (.int .i64 (n : Int)) (.int .i64 (n : Int))) w = .ok (.slice (some ⟨w.heap.size, 0, none⟩) n n) (w.alloc (.cells (Array.replicate n z) e)) := by
  obtain ⟨i0, hi0, hz0, hz1, hz2⟩ := info_parts hi
  have hbi : (i0.bytes : Int) * (n : Int) ≤ 281474976710656 := by
    have h1 : i0.bytes * n ≤ 100 * 10000000 := Nat.mul_le_mul (by omega) hn
    have h2 : ((i0.bytes * n : Nat) : Int) ≤ 1000000000 := by omega
    rw [Int.natCast_mul] at h2; omega
  have h := run_makeSlice (P := P) w t e i0 z ht hi0 hz0 .i64 .i64 n n (by omega) (Int.le_refl _) (by rw [hz1, Int.toNat_natCast]; omega) hbi (by omega)
  rw [Int.toNat_natCast, hz1, made_oneR z hz] at h
  exact h
end Go.Proofs.Ytphglalphejppaa
