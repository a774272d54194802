/- Laws at the operations for a map of rows keyed by pairs: entry, store, look-up, range, next. No condition. -/
import Derived.Test.YtphglalphejppaaBest
namespace Go.Proofs.Ytphglalphejppaa
open Go.RowKit
open Go.ChangeMaps (setBlock heap_setBlock_same heap_setBlock_other)
set_option linter.unusedVariables false
set_option linter.unusedSimpArgs false

section
variable {ops : Array Oper} {rest : List Oper} {o : Oper} {a : Act} {Q : Exit → Act → World → Prop} {w : World} {b base n : Nat} {f : Kp → List Int}
theorem wpList_entry (hgd : o.guard = none) (m x : Operand) (hop : o.op = Op.mapEntry 84 m x) (hm : a.eval m = .map (some b)) (c : Kp) (hx : a.eval x = kv c) (hG : GM w b base n f) (hc : KOk c) (hbs : base ≤ w.heap.size)
    (h : ∀ (A : Option Addr) (cp : Nat) (st : Nat) (w2 : World), w2.ownsRow base 3 1 (.slice A (f c).length cp) (f c).length ((f c).map (.int .i64)) → w.grownBy w2 (some b) → GBack w2 b base n f c (.slice A (f c).length cp) (.int .i64 st) → wpList Try.prog ops Q rest (a.put o.dst (.tuple #[.slice A (f c).length cp, .int .i64 st])) w2) :
    wpList Try.prog ops Q (o :: rest) a w := by
  refine wpList_plain hgd fun K' hK' => ?_
  obtain ⟨v, st, w2, hrun, ho, hg, hb⟩ := hG.entry hc hbs
  obtain ⟨A, cp, rfl, -, -, -, -⟩ := Rd.of_own ho (by decide)
  unfold Oper.wp
  simp [execOp, hop, hm, hx, hrun, Result.andThen]
  exact hK' _ _ (h A cp st w2 ho hg hb)
theorem wpList_estore (hgd : o.guard = none) (m s x : Operand) (hop : o.op = Op.entryStore 84 m s x) (hm : a.eval m = .map (some b)) {w2 : World} {c : Kp} {v st v' : Value} (hs : a.eval s = st) (hx : a.eval x = v') (hB : GBack w2 b base n f c v st) (z : Int)
    (hg : w2.grownBy w v.ownBlock) (ho : w.ownsRow base 3 1 v' ((f c).length + 1) ((f c).map (.int .i64) ++ [.int .i64 z])) (hl : v'.ownBlock = v.ownBlock ∨ ∃ g, v'.ownBlock = some g ∧ w2.heap.size ≤ g)
    (h : ∀ w4, GM w4 b base (n + 1) (more f c z) → w.grownBy w4 (some b) → wpList Try.prog ops Q rest (a.put o.dst undef) w4) :
    wpList Try.prog ops Q (o :: rest) a w := by
  refine wpList_plain hgd fun K' hK' => ?_
  obtain ⟨w4, hrun, hG, hg4⟩ := hB w v' z hg ho hl
  unfold Oper.wp
  simp [execOp, hop, hm, hx, hs, hrun, Result.andThen]
  exact hK' _ _ (h w4 hG hg4)
theorem wpList_look (hgd : o.guard = none) (m x : Operand) (hop : o.op = Op.lookup 84 m x false) (hm : a.eval m = .map (some b)) (c : Kp) (hx : a.eval x = kv c) (hG : GM w b base n f) (hc : KOk c)
    (h : ∀ (A : Option Addr) (cp : Nat), w.ownsRow base 3 1 (.slice A (f c).length cp) (f c).length ((f c).map (.int .i64)) → wpList Try.prog ops Q rest (a.put o.dst (.slice A (f c).length cp)) w) :
    wpList Try.prog ops Q (o :: rest) a w := by
  refine wpList_plain hgd fun K' hK' => ?_
  obtain ⟨v, hrun, ho⟩ := hG.look hc
  obtain ⟨A, cp, rfl, -, -, -, -⟩ := Rd.of_own ho (by decide)
  unfold Oper.wp
  simp [execOp, hop, hm, hx, hrun, Result.andThen]
  exact hK' _ _ (h A cp ho)
end

/-- a walk over the map under way: block r is an iterator, the entries whose stamps are in 'seen' have come -/
def GW (w : World) (b r base n : Nat) (f : Kp → List Int) (D : Kp → Prop) : Prop :=
  ∃ es clock seen c0, w.heap[b]? = some (.map es clock) ∧ MSt es clock ∧ w.heap[r]? = some (.mapIter (some b) clock seen c0) ∧ clock ≤ c0 ∧ r ≠ b ∧
    (∀ x ∈ es.toList, ∃ k A c, KOk k ∧ x.key = kv k ∧ x.val = .slice A (f k).length c) ∧ (∀ k, f k ≠ [] → ∃ x ∈ es.toList, x.key = kv k) ∧ (∀ k, D k ↔ ∃ x ∈ es.toList, x.key = kv k ∧ seen.contains x.born = true)
theorem GW.kept {w w' : World} {b r base n g : Nat} {f : Kp → List Int} {D : Kp → Prop} (h : GW w b r base n f D) (hg : w.grownBy w' (some g)) (h1 : g ≠ b) (h2 : g ≠ r) : GW w' b r base n f D := by
  obtain ⟨es, clock, seen, c0, hb, hS, hr, rest⟩ := h
  exact ⟨es, clock, seen, c0, (hg.block b (Array.getElem?_eq_some_iff.1 hb).1 (by intro e; injection e with e; exact h1 e.symm)).trans hb, hS, (hg.block r (Array.getElem?_eq_some_iff.1 hr).1 (by intro e; injection e with e; exact h2 e.symm)).trans hr, rest⟩
theorem GW.quiet {w w' : World} {b r base n : Nat} {f : Kp → List Int} {D : Kp → Prop} (h : GW w b r base n f D) (hg : w.grownBy w' none) : GW w' b r base n f D := by
  obtain ⟨es, clock, seen, c0, hb, hS, hr, rest⟩ := h
  exact ⟨es, clock, seen, c0, (hg.block b (Array.getElem?_eq_some_iff.1 hb).1 (by simp)).trans hb, hS, (hg.block r (Array.getElem?_eq_some_iff.1 hr).1 (by simp)).trans hr, rest⟩
/-- how many are still to come -/
def gleft (b r : Nat) (w : World) : Nat := w.rangeLeft b r
theorem gleft_eq {w w' : World} {b r : Nat} (hb : w'.heap[b]? = w.heap[b]?) (hr : w'.heap[r]? = w.heap[r]?) : gleft b r w' = gleft b r w := by unfold gleft World.rangeLeft; rw [hb, hr]
theorem gleft_kept {w w' : World} {b r base n g : Nat} {f : Kp → List Int} {D : Kp → Prop} (h : GW w b r base n f D) (hg : w.grownBy w' (some g)) (h1 : g ≠ b) (h2 : g ≠ r) : gleft b r w' = gleft b r w := by
  obtain ⟨es, clock, seen, c0, hb, hS, hr, rest⟩ := h
  exact gleft_eq (hg.block b (Array.getElem?_eq_some_iff.1 hb).1 (by intro e; injection e with e; exact h1 e.symm)) (hg.block r (Array.getElem?_eq_some_iff.1 hr).1 (by intro e; injection e with e; exact h2 e.symm))
section
variable {ops : Array Oper} {rest : List Oper} {o : Oper} {a : Act} {Q : Exit → Act → World → Prop} {w : World} {b base n : Nat} {f : Kp → List Int}
theorem wpList_range_GM (hgd : o.guard = none) (m : Operand) (hop : o.op = Op.range 84 m) (hm : a.eval m = .map (some b)) (hG : GM w b base n f)
    (h : ∀ w', GW w' b w.heap.size base n f (fun _ => False) → w.grownBy w' none → w'.heap.size = w.heap.size + 1 → wpList Try.prog ops Q rest (a.put o.dst (.pointer (some ⟨w.heap.size, 0, none⟩))) w') :
    wpList Try.prog ops Q (o :: rest) a w := by
  refine wpList_plain hgd fun K' hK' => ?_
  have hlt := hG.lt
  obtain ⟨es, clock, hb, hS, hs, hbb, hv, hcm, ha⟩ := hG
  have hrun := run_range_map w 84 85 45 b es clock Try.underlying84 hb
  unfold Oper.wp
  simp [execOp, hop, hm, hrun, Result.andThen]
  refine hK' _ _ (h _ ⟨es, clock, #[], clock, ((MapKept.heap_alloc w _).2 b hlt).trans hb, hS, (MapKept.heap_alloc w _).1, Nat.le_refl _, by omega, fun x hx => ?_, hcm, fun k => by simp⟩ (World.grownBy_alloc w _ none) (by simp))
  obtain ⟨k, hk, e, ho⟩ := hv x hx
  obtain ⟨A, cp, e2, -, -, -, -⟩ := Rd.of_own ho (by decide)
  exact ⟨k, A, cp, hk, e, e2⟩
theorem wpList_next_GW {r : Nat} {D : Kp → Prop} (hgd : o.guard = none) (it : Operand) (hop : o.op = Op.next it false) (hit : a.eval it = .pointer (some ⟨r, 0, none⟩)) (hG : GW w b r base n f D)
    (hDone : (∀ k, f k ≠ [] → D k) → wpList Try.prog ops Q rest (a.put o.dst (.tuple #[.bool false])) w)
    (hMore : ∀ (k : Kp) (A : Option Addr) (c : Nat) (w' : World), KOk k → GW w' b r base n f (fun x => D x ∨ x = k) → w.grownBy w' (some r) → w'.heap.size = w.heap.size → gleft b r w' < gleft b r w →
      (Instr.entry (.pointer (some ⟨r, 0, none⟩))).run Try.prog w' = .ok (.tuple #[.agg #[.int .i64 k.1, .int .i64 k.2], .slice A (f k).length c]) w' → wpList Try.prog ops Q rest (a.put o.dst (.tuple #[.bool true, .agg #[.int .i64 k.1, .int .i64 k.2], .slice A (f k).length c])) w') :
    wpList Try.prog ops Q (o :: rest) a w := by
  refine wpList_plain hgd fun K' hK' => ?_
  obtain ⟨es, clock, seen, c0, hb, hS, hr, hc0, hrb, hv, hcm, hD⟩ := hG
  unfold Oper.wp
  rcases run_next_at (P := Try.prog) w o.type r b clock c0 seen es clock hr hb hS.1 hc0 with ⟨h0, hrun⟩ | ⟨e, he, w1, hal, hrun⟩
  · simp [execOp, hop, hit, hrun, Result.andThen]
    refine hK' _ _ (hDone fun k hk => ?_)
    obtain ⟨x, hx, e⟩ := hcm k hk
    exact (hD k).2 ⟨x, hx, e, all_seen es seen h0 x hx⟩
  · obtain ⟨hem, hes⟩ := mem_left he
    obtain ⟨k, A, c, hk, ek, ev⟩ := hv e hem
    have hr1 : w1.heap[r]? = some (.mapIter (some b) clock seen c0) := by rcases hal with rfl | rfl <;> exact hr
    have hb1 : w1.heap[b]? = some (.map es clock) := by rcases hal with rfl | rfl <;> exact hb
    have hr2 := setBlock_at (o' := .mapIter (some b) clock (seen.push e.born) clock) hr1
    have hg2 := setBlock_grown (o' := .mapIter (some b) clock (seen.push e.born) clock) hr1
    have hb2 := (hg2.block b (Array.getElem?_eq_some_iff.1 hb1).1 (by intro e; injection e with e; exact hrb e.symm)).trans hb1
    have hen := run_entry_at (P := Try.prog) _ r b clock seen es clock e hr2 hb2 hem hS.2.1
    simp [execOp, hop, hit, hrun, Result.andThen]
    have hg : w.grownBy (setBlock w1 r (.mapIter (some b) clock (seen.push e.born) clock)) (some r) := by
      rcases hal with rfl | rfl
      · exact hg2
      · exact ⟨hg2.os, hg2.tape, hg2.output, hg2.size, hg2.block⟩
    have hlt := left_shrinks es seen e he
    have hfin := hMore k A c _ hk ⟨es, clock, seen.push e.born, clock, hb2, hS, hr2, Nat.le_refl _, hrb, hv, hcm, fun x => ?_⟩ hg (by rcases hal with rfl | rfl <;> simp [setBlock]) (by
      unfold gleft World.rangeLeft
      simp only [hb2, hr2, hb, hr]
      exact hlt) (by rw [ek, ev] at hen; exact hen)
    · rw [ek, ev]
      exact hK' _ _ hfin
    · show (D x ∨ x = k) ↔ _
      rw [hD x]
      constructor
      · rintro (⟨y, hy, e1, e2⟩ | rfl)
        · exact ⟨y, hy, e1, by rw [contains_push, e2]; rfl⟩
        · exact ⟨e, hem, ek, by rw [contains_push]; simp⟩
      · rintro ⟨y, hy, e1, e2⟩
        rw [contains_push] at e2
        cases hsc : seen.contains y.born with
        | true => exact .inl ⟨y, hy, e1, hsc⟩
        | false =>
          rw [hsc] at e2
          have hyb : y.born = e.born := by simpa using e2
          have : y = e := born_inj hS.2.1 hy hem hyb
          subst this
          exact .inr (kv_inj (by rw [← e1, ek]))
end
/-- one step of the walk: key k came -/
def GStep (w : World) (b r base n : Nat) (f : Kp → List Int) (D : Kp → Prop) (k : Kp) (w' : World) : Prop :=
  KOk k ∧ GW w' b r base n f (fun x => D x ∨ x = k) ∧ w.grownBy w' (some r) ∧ w'.heap.size = w.heap.size ∧ gleft b r w' < gleft b r w
def GEnt (r : Nat) (f : Kp → List Int) (k : Kp) (A : Option Addr) (c : Nat) (w' : World) : Prop :=
  (Instr.entry (.pointer (some ⟨r, 0, none⟩))).run Try.prog w' = .ok (.tuple #[.agg #[.int .i64 k.1, .int .i64 k.2], .slice A (f k).length c]) w'
section
variable {ops : Array Oper} {rest : List Oper} {o : Oper} {a : Act} {Q : Exit → Act → World → Prop} {w : World} {b base n : Nat} {f : Kp → List Int}
theorem wpList_next_none {r : Nat} {D : Kp → Prop} (hgd : o.guard = none) (it : Operand) (hop : o.op = Op.next it false) (hit : a.eval it = .pointer (some ⟨r, 0, none⟩)) (hG : GW w b r base n f D)
    (hDone : Hid (∀ k, f k ≠ [] → D k) → wpList Try.prog ops Q rest (a.put o.dst (.tuple #[.bool false])) w)
    (hFew : ∀ (k : Kp) (A : Option Addr) (c : Nat) (w' : World), Hid (GStep w b r base n f D k w') → ¬ ((4 : Int) ≤ ((f k).length : Int)) → (Instr.entry (.pointer (some ⟨r, 0, none⟩))).run Try.prog w' = .ok (.tuple #[.agg #[.int .i64 k.1, .int .i64 k.2], .slice A (f k).length c]) w' → wpList Try.prog ops Q rest (a.put o.dst (.tuple #[.bool true, .agg #[.int .i64 k.1, .int .i64 k.2], .slice A (f k).length c])) w')
    (hMany : ∀ (k : Kp) (A : Option Addr) (c : Nat) (w' : World), Hid (GStep w b r base n f D k w') → ((4 : Int) ≤ ((f k).length : Int)) → (Instr.entry (.pointer (some ⟨r, 0, none⟩))).run Try.prog w' = .ok (.tuple #[.agg #[.int .i64 k.1, .int .i64 k.2], .slice A (f k).length c]) w' → wpList Try.prog ops Q rest (a.put o.dst (.tuple #[.bool true, .agg #[.int .i64 k.1, .int .i64 k.2], .slice A (f k).length c])) w') :
    wpList Try.prog ops Q (o :: rest) a w := by
  refine wpList_next_GW hgd it hop hit hG (fun h => hDone (Lib.hid h)) (fun k A c w' h1 h2 h3 h4 h5 h6 => ?_)
  by_cases h : (4 : Int) ≤ ((f k).length : Int)
  · exact hMany k A c w' (Lib.hid ⟨h1, h2, h3, h4, h5⟩) h h6
  · exact hFew k A c w' (Lib.hid ⟨h1, h2, h3, h4, h5⟩) h h6
theorem wpList_next_some {r : Nat} {D : Kp → Prop} (y z : Int) (hgd : o.guard = none) (it : Operand) (hop : o.op = Op.next it false) (hit : a.eval it = .pointer (some ⟨r, 0, none⟩)) (hG : GW w b r base n f D)
    (hDone : Hid (∀ k, f k ≠ [] → D k) → wpList Try.prog ops Q rest (a.put o.dst (.tuple #[.bool false])) w)
    (hFew : ∀ (k : Kp) (A : Option Addr) (c : Nat) (w' : World), Hid (GStep w b r base n f D k w') → ¬ ((4 : Int) ≤ ((f k).length : Int)) → (Instr.entry (.pointer (some ⟨r, 0, none⟩))).run Try.prog w' = .ok (.tuple #[.agg #[.int .i64 k.1, .int .i64 k.2], .slice A (f k).length c]) w' → wpList Try.prog ops Q rest (a.put o.dst (.tuple #[.bool true, .agg #[.int .i64 k.1, .int .i64 k.2], .slice A (f k).length c])) w')
    (hM1 : ∀ (k : Kp) (A : Option Addr) (c : Nat) (w' : World), Hid (GStep w b r base n f D k w') → ((4 : Int) ≤ ((f k).length : Int)) → k.1 < y → (Instr.entry (.pointer (some ⟨r, 0, none⟩))).run Try.prog w' = .ok (.tuple #[.agg #[.int .i64 k.1, .int .i64 k.2], .slice A (f k).length c]) w' → wpList Try.prog ops Q rest (a.put o.dst (.tuple #[.bool true, .agg #[.int .i64 k.1, .int .i64 k.2], .slice A (f k).length c])) w')
    (hM2 : ∀ (k : Kp) (A : Option Addr) (c : Nat) (w' : World), Hid (GStep w b r base n f D k w') → ((4 : Int) ≤ ((f k).length : Int)) → ¬ k.1 < y → (k.1 == y) = false → (Instr.entry (.pointer (some ⟨r, 0, none⟩))).run Try.prog w' = .ok (.tuple #[.agg #[.int .i64 k.1, .int .i64 k.2], .slice A (f k).length c]) w' → wpList Try.prog ops Q rest (a.put o.dst (.tuple #[.bool true, .agg #[.int .i64 k.1, .int .i64 k.2], .slice A (f k).length c])) w')
    (hM3 : ∀ (k : Kp) (A : Option Addr) (c : Nat) (w' : World), Hid (GStep w b r base n f D k w') → ((4 : Int) ≤ ((f k).length : Int)) → ¬ k.1 < y → (k.1 == y) = true → k.2 < z → (Instr.entry (.pointer (some ⟨r, 0, none⟩))).run Try.prog w' = .ok (.tuple #[.agg #[.int .i64 k.1, .int .i64 k.2], .slice A (f k).length c]) w' → wpList Try.prog ops Q rest (a.put o.dst (.tuple #[.bool true, .agg #[.int .i64 k.1, .int .i64 k.2], .slice A (f k).length c])) w')
    (hM4 : ∀ (k : Kp) (A : Option Addr) (c : Nat) (w' : World), Hid (GStep w b r base n f D k w') → ((4 : Int) ≤ ((f k).length : Int)) → ¬ k.1 < y → (k.1 == y) = true → ¬ k.2 < z → (Instr.entry (.pointer (some ⟨r, 0, none⟩))).run Try.prog w' = .ok (.tuple #[.agg #[.int .i64 k.1, .int .i64 k.2], .slice A (f k).length c]) w' → wpList Try.prog ops Q rest (a.put o.dst (.tuple #[.bool true, .agg #[.int .i64 k.1, .int .i64 k.2], .slice A (f k).length c])) w') :
    wpList Try.prog ops Q (o :: rest) a w := by
  refine wpList_next_none hgd it hop hit hG hDone hFew (fun k A c w' h1 h2 h3 => ?_)
  by_cases q1 : k.1 < y
  · exact hM1 k A c w' h1 h2 q1 h3
  · by_cases q2 : k.1 = y
    · by_cases q3 : k.2 < z
      · exact hM3 k A c w' h1 h2 q1 (by simp [q2]) q3 h3
      · exact hM4 k A c w' h1 h2 q1 (by simp [q2]) q3 h3
    · exact hM2 k A c w' h1 h2 q1 (by simp [q2]) h3
end
/-- an iterator's block is no row -/
theorem GM.iter {w w' : World} {b base n r : Nat} {f : Kp → List Int} (h : GM w b base n f) {m : Option Nat} {s c0 : Nat} {seen : Array Nat} (hr : w.heap[r]? = some (.mapIter m s seen c0)) (hg : w.grownBy w' (some r)) : GM w' b base n f := by
  have hlt := h.lt
  obtain ⟨es, clock, hb, hS, hs, hbb, hv, hc, ha⟩ := h
  have hne : r ≠ b := by rintro rfl; rw [hb] at hr; cases hr
  refine ⟨es, clock, (hg.block b hlt (by intro e; injection e with e; exact hne e.symm)).trans hb, hS, hs, hbb, fun x hx => ?_, hc, ha⟩
  obtain ⟨k, hk, e, ho⟩ := hv x hx
  refine ⟨k, hk, e, ho.kept hg ?_⟩
  rcases ho.2 with ⟨h1, _⟩ | ⟨g, cap, cur, h1, _, h2, _⟩
  · rw [h1]; exact .inl rfl
  · refine .inr ?_
    rw [h1]
    intro e
    have : g = r := by simpa [Value.ownBlock] using e
    rw [this, hr] at h2
    cases h2
theorem GW.at {w : World} {b r base n : Nat} {f : Kp → List Int} {D : Kp → Prop} (h : GW w b r base n f D) : ∃ m s seen c0, w.heap[r]? = some (.mapIter m s seen c0) := by
  obtain ⟨es, clock, seen, c0, _, _, hr, _⟩ := h
  exact ⟨_, _, _, _, hr⟩
theorem ofK_asc {ss : List SegD} {nid : Int} (h : SegsOk ss nid) (k : Kp) : (ofK ss k).Pairwise (· ≤ ·) := by
  unfold ofK ofL
  rw [List.pairwise_map]
  exact (h.1.filter _).imp (fun h => Int.le_of_lt h)
end Go.Proofs.Ytphglalphejppaa
