/- A range over an iterator that writes one block between the rounds and is never told to stop. No condition. -/
import Derived.Test.YtphglalphejppaaBase
import Derived.RangeFuncNested
import Derived.RangeFuncBound
import Derived.RangeFuncCalls
import Derived.RangeFuncLeaves
namespace Go.Proofs.Ytphglalphejppaa
open Go.RowKit
set_option linter.unusedVariables false
set_option linter.unusedSimpArgs false

/-- the loop's record, in a state -/
def recOf (fn : FuncId) (tmps : Array Value) (ps : Array Tmp) (assign body : Code) (D : Nat) (st : LoopState) (pe : Option Code) : Loop := { state := st, pending := pe, fn := fn, tmps := tmps, params := ps, assign := assign, body := body, defers := D }
/-- what the iterator is handed at a world: an invariant that bears changes of block g, and a yield that carries it on -/
def IterSays (P : Program) (m g l : Nat) {α : Type} (encs : α → Array Value) (Ok : α → Prop) (Kp : World → World → Prop) (J : List α → World → Prop) : Prop :=
  (∀ s A B, J s A → A.grownBy B (some g) → J s B) ∧ ∀ pre x W1, J pre W1 → Ok x → pre.length ≤ 1000000 → YieldAt .wide m P l (encs x) W1 fun e W' => e = .returned (.bool true) ∧ J (pre ++ [x]) W' ∧ Kp W1 W'
theorem own_putObj {a w : World} {row : Option Nat} (h : a.grownBy w row) {l : Nat} (hl : a.heap.size ≤ l) (o : Obj) : a.grownBy (w.putObj l o) row :=
  only_fresh h (grownBy_putObj' w l o) hl

/-- how a round's body is left -/
def RoundOk (D : Nat) (Kp : World → World → Prop) (I : World → Prop) (W : World) (e : Exit) (W' : World) : Prop :=
  e = .normal ∧ (∀ b, b = D ∨ b = D + 1 → W'.heap[b]? = W.heap[b]?) ∧ W.heap.size ≤ W'.heap.size ∧ Kp W W' ∧ I W'
/-- **the law**: the body is shown once, from an invariant I of its own that bears changes of block g and of the loop's own two blocks -/
theorem wp_range_mine {P : Program} {α : Type} {gx : Operand} {ps : Array Tmp} {assign body : Code} {Q : Exit → Act → World → Prop} {a : Act} {w : World} (m g : Nat) {gf : Nat} {lb : Array Value} (hgx : a.eval gx = .func (.func gf) #[] lb) (eg : ∀ args w, (callFunc gf args).run P w = .ok (.enter gf args) w)
    (hg : g < w.heap.size) {encs : α → Array Value} (hps : ∀ x, (encs x).size = ps.size) (Ok : α → Prop) (Kp : World → World → Prop) (hKt : ∀ {A B C : World}, Kp A B → Kp B C → Kp A C) (hKb : ∀ (W : World) (l : Nat) (o : Obj), w.heap.size ≤ l → l < W.heap.size → Kp W (W.putObj l o))
    (xs : List α) (Z : World → Prop) (hZ : ∀ A B : World, Z A → A.grownBy B (some (w.heap.size + 1)) → Z B)
    (hseq : ∀ (J : List α → World → Prop) (W : World), IterSays P m g (w.heap.size + 1) encs Ok Kp J → J [] W → w.grownBy W none → w.heap.size + 2 ≤ W.heap.size → Calls P gf (#[.func (.yield (w.heap.size + 1)) #[] #[]] ++ lb) W fun e W' => (∃ v, e = .returned v) ∧ J xs W' ∧ Z W')
    (I : List α → World → Prop) (hI : ∀ s A B r, I s A → A.grownBy B (some r) → (r = g ∨ r = w.heap.size ∨ r = w.heap.size + 1) → I s B) (h0 : ∀ W, w.grownBy W none → W.heap.size = w.heap.size + 2 → I [] W)
    (a₁ : α → Act)
    (hassign : ∀ (x : α) (W : World) (K : Act → World → Prop), K (a₁ x) W → assign.wpIn (Fence.wide.inRound (w.heap.size + 1)) m P (Exit.then K (fun _ _ _ => False)) { tmps := (ps.zip (encs x)).foldl (fun t (p, v) => t.setIfInBounds p v) a.tmps, defers := [] } W)
    (hbody : ∀ (pre : List α) (x : α) (W : World), I pre W → Ok x → pre.length ≤ 1000000 → w.heap.size + 2 ≤ W.heap.size →
      body.wpIn (Fence.wide.inRound (w.heap.size + 1)) m P (fun e _ W' => RoundOk w.heap.size Kp (I (pre ++ [x])) W e W') (a₁ x) W)
    (hdone : ∀ (W : World), I xs W → Z W → W.heap[w.heap.size]? = some (.deferred (some [])) → Q .normal { a with defers := { target := .collected w.heap.size, args := #[] } :: a.defers } W) :
    (Code.rangeFunc gx ps assign body).wp P Q a w := by
  refine (wpIn_wide (n := m + 1)).1 ?_
  refine wpIn_rangeFunc ?_
  intro fn hfn
  obtain ⟨R, hR⟩ : ∃ R, R = recOf fn a.tmps ps assign body w.heap.size := ⟨_, rfl⟩
  obtain ⟨W1, hW1⟩ : ∃ W1, W1 = (w.alloc (.deferred (some []))).alloc (.loop (R .ready none)) := ⟨_, rfl⟩
  have hL : W1.heap[w.heap.size + 1]? = some (.loop (R .ready none)) := by
    rw [hW1]; have := World.alloc_heap_new (w.alloc (.deferred (some []))) (.loop (R .ready none)); rwa [World.size_alloc] at this
  have hD : W1.heap[w.heap.size]? = some (.deferred (some [])) := by
    rw [hW1]; exact (Below.heap_alloc _ _ _ (by simp)).trans (World.alloc_heap_new w _)
  have hs : W1.heap.size = w.heap.size + 2 := by rw [hW1]; simp
  have hG : w.grownBy W1 none := by rw [hW1]; exact only_alloc (only_alloc (only_refl _ _) _) _
  refine ⟨w.heap.size + 1, [{ target := .collected w.heap.size, args := #[] }], W1, { target := .fn (.func gf) lb, args := #[.func (.yield (w.heap.size + 1)) #[] #[]] }, W1, gf, #[.func (.yield (w.heap.size + 1)) #[] #[]] ++ lb, W1, ?_, ?_, fun _ _ => trivial, ?_, (fun h => by cases h), ?_⟩
  · rw [hW1, hR]; exact run_enterLoop_outer _ _ _ _ _
  · simp only [resolve, hgx]; simp [go_sem]
  · simp [invoke, go_sem, eg]
  · refine callsIn_wide.2 ?_
    refine (hseq (fun s W => I s W ∧ W.heap[w.heap.size + 1]? = some (.loop (R .ready none)) ∧ W.heap[w.heap.size]? = some (.deferred (some []))) W1 ⟨?_, ?_⟩ ⟨h0 W1 hG hs, hL, hD⟩ hG (by omega)).mono ?_
    · rintro s A B ⟨h1, h2, h3⟩ hab
      have lt1 := (Array.getElem?_eq_some_iff.1 h2).1
      have lt2 := (Array.getElem?_eq_some_iff.1 h3).1
      exact ⟨hI s A B g h1 hab (.inl rfl), (hab.block _ lt1 (by simp; omega)).trans h2, (hab.block _ lt2 (by simp; omega)).trans h3⟩
    · rintro pre x W ⟨hi, hl, hd⟩ hok hlen
      have hlt := (Array.getElem?_eq_some_iff.1 hl).1
      have hy := run_yield (P := P) (args := encs x) hl (by rw [hR]; exact hps x)
      rw [hR] at hy
      refine ⟨fn, _, assign, body, hy, roundIn_of_wpIn hfn (hassign x W _ ⟨_, run_beginRound hl (by rw [hR]; rfl), ?_⟩)⟩
      obtain ⟨V, hV⟩ : ∃ V, V = W.putObj (w.heap.size + 1) (.loop { R .ready none with state := .busy }) := ⟨_, rfl⟩
      rw [← hV]
      have gV : W.grownBy V (some (w.heap.size + 1)) := by rw [hV]; exact grownBy_putObj' W _ _
      have hl2 : V.heap[w.heap.size + 1]? = some (.loop { R .ready none with state := .busy }) := by rw [hV]; exact World.putObj_heap_same hlt
      have hd2 : V.heap[w.heap.size]? = some (.deferred (some [])) := by rw [hV]; exact (World.putObj_heap_other (by omega)).trans hd
      have hsV := gV.size
      refine wpIn_mono (hbody pre x V (hI _ _ _ _ hi gV (.inr (.inr rfl))) hok hlen (by omega)) ?_
      rintro e a3 W3 ⟨rfl, hkeep, hsz, hkp, hi3⟩
      have hl3 := (hkeep _ (.inr rfl)).trans hl2
      have hd3 := (hkeep _ (.inl rfl)).trans hd2
      have he := run_endRound (P := P) none hl3
      obtain ⟨U, hU⟩ : ∃ U, U = W3.putObj (w.heap.size + 1) (.loop { ({ R .ready none with state := .busy } : Loop) with state := .ready, pending := none }) := ⟨_, rfl⟩
      have gU : W3.grownBy U (some (w.heap.size + 1)) := by rw [hU]; exact grownBy_putObj' W3 _ _
      refine ⟨_, U, by rw [hU]; exact he, rfl, ⟨hI _ _ _ _ hi3 gU (.inr (.inr rfl)), ?_, ?_⟩, ?_⟩
      · rw [hU, World.putObj_heap_same (Array.getElem?_eq_some_iff.1 hl3).1, hR]; rfl
      · rw [hU]; exact (World.putObj_heap_other (by omega)).trans hd3
      · refine hKt (hKt ?_ hkp) ?_
        · rw [hV]; exact hKb _ _ _ (by omega) hlt
        · rw [hU]; exact hKb _ _ _ (by omega) (Array.getElem?_eq_some_iff.1 hl3).1
    · rintro e W2 ⟨⟨v, rfl⟩, ⟨hi, hl, hd⟩, hz⟩
      have he := run_endLoop (P := P) hl (by rw [hR]; simp [recOf])
      obtain ⟨U, hU⟩ : ∃ U, U = W2.putObj (w.heap.size + 1) (.loop { R .ready none with state := .exhausted }) := ⟨_, rfl⟩
      have gU : W2.grownBy U (some (w.heap.size + 1)) := by rw [hU]; exact grownBy_putObj' W2 _ _
      refine ⟨none, U, ?_, hdone U (hI _ _ _ _ hi gU (.inr (.inr rfl))) (hZ _ _ hz gU) ?_⟩
      · rw [hU, he, hR]; rfl
      · rw [hU]; exact (World.putObj_heap_other (by omega)).trans hd
end Go.Proofs.Ytphglalphejppaa
