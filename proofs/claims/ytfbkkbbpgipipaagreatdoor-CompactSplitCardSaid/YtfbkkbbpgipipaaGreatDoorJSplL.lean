/- The list of CompactSplit: drawn events, then short ones; what both Checks ask of its pieces. No condition. -/
import Derived.Test.YtfbkkbbpgipipaaGreatDoorJGoodO
import Derived.Test.YtfbkkbbpgipipaaGreatDoorJELess
import Derived.Test.YtfbkkbbpgipipaaGreatDoorJCloneFd
import Derived.Test.YtfbkkbbpgipipaaGreatDoorJFiles
import Derived.RegionTactic
import Derived.StillTailTactics
namespace Go.Proofs.YtfbkkbbpgipipaaGreatDoor
open Go.RowKit
set_option linter.unusedVariables false
set_option linter.unusedSimpArgs false

theorem nodup_le : ∀ (l m : List ByteArray), l.Nodup → (∀ x ∈ l, x ∈ m) → l.length ≤ m.length
  | [], _, _, _ => Nat.zero_le _
  | x :: l, m, hn, hs => by
    obtain ⟨s, t, rfl⟩ := List.append_of_mem (hs x (List.mem_cons_self ..))
    have hn := List.nodup_cons.1 hn
    have := nodup_le l (s ++ t) hn.2 (fun y hy => by
      have h1 := hs y (List.mem_cons_of_mem _ hy)
      rcases List.mem_append.1 h1 with h1 | h1
      · exact List.mem_append_left _ h1
      · rcases List.mem_cons.1 h1 with h1 | h1
        · subst h1; exact absurd hy hn.1
        · exact List.mem_append_right _ h1)
    simp at this ⊢
    omega
def ShortB (B : Int) (e : Ev) : Prop := ∃ (a : Int) (la : Option Addr) (lc : Nat), e = shortE a la lc ∧ 0 ≤ a ∧ a ≤ 50000 ∧ a < B
/-- drawn events, then short ones in order, below B -/
def Mix (B : Int) (es : List Ev) : Prop :=
  ∃ ds ss, es = ds ++ ss ∧ ds.length ≤ 36 ∧ SrtE ds ∧ (∀ e ∈ ds, EvGood e) ∧ (∀ e ∈ ss, ShortB B e) ∧ ss.Pairwise fun a b => a.beg < b.beg
theorem Mix.good {B : Int} {es : List Ev} (h : SrtE es) (hl : es.length ≤ 36) (hg : ∀ e ∈ es, EvGood e) : Mix B es := ⟨es, [], by simp, hl, h, hg, by simp, List.Pairwise.nil⟩
theorem Mix.up {B B' : Int} {es : List Ev} (h : Mix B es) (hB : B ≤ B') : Mix B' es := by
  obtain ⟨ds, ss, h1, h2, h3, h4, h5, h6⟩ := h
  exact ⟨ds, ss, h1, h2, h3, h4, fun e he => by obtain ⟨a, la, lc, h1, h2, h3, h4⟩ := h5 e he; exact ⟨a, la, lc, h1, h2, h3, by omega⟩, h6⟩
theorem Mix.snoc {B a : Int} {es : List Ev} (h : Mix B es) (hB : B ≤ a) (h0 : 0 ≤ a) (h1 : a ≤ 50000) (la : Option Addr) (lc : Nat) : Mix (a + 1) (es ++ [shortE a la lc]) := by
  obtain ⟨ds, ss, rfl, h2, h3, h4, h5, h6⟩ := h
  refine ⟨ds, ss ++ [shortE a la lc], by simp, h2, h3, h4, fun e he => ?_, ?_⟩
  · rcases List.mem_append.1 he with he | he
    · obtain ⟨a', la, lc, h1, h2, h3, h4⟩ := h5 e he; exact ⟨a', la, lc, h1, h2, h3, by omega⟩
    · rw [List.mem_singleton] at he; exact ⟨a, la, lc, he, h0, h1, by omega⟩
  · rw [List.pairwise_append]
    refine ⟨h6, List.pairwise_singleton _ _, fun x hx y hy => ?_⟩
    rw [List.mem_singleton] at hy; subst hy
    obtain ⟨a', la', lc', rfl, _, _, h9⟩ := h5 x hx
    show a' < a
    omega
theorem Mix.srt {B : Int} {es : List Ev} (h : Mix B es) : SrtE es := by
  obtain ⟨ds, ss, rfl, h2, h3, h4, h5, h6⟩ := h
  unfold SrtE
  rw [List.pairwise_append]
  refine ⟨h3, ?_, fun x hx y hy => ?_⟩
  · refine List.Pairwise.imp_of_mem (fun {x y} hx hy hxy => ?_) h6
    obtain ⟨a, la, lc, rfl, -⟩ := h5 x hx
    obtain ⟨b, lb, ld, rfl, -⟩ := h5 y hy
    exact short_less_short hxy _ _ _ _
  · obtain ⟨b, lb, ld, rfl, -⟩ := h5 y hy
    exact good_less_short (h4 x hx) _ _ _
theorem Mix.sc {B : Int} {es : List Ev} (h : Mix B es) : ∀ e ∈ es, EvS e ∧ EvC e := by
  obtain ⟨ds, ss, rfl, h2, h3, h4, h5, h6⟩ := h
  intro e he
  rcases List.mem_append.1 he with he | he
  · exact (h4 e he).sc
  · obtain ⟨a, la, lc, rfl, h0, h1, -⟩ := h5 e he
    exact shortE_sc h0 h1 _ _
theorem short_words (a : Int) (la : Option Addr) (lc : Nat) : wordsE (shortE a la lc) = wordsE (shortE 0 none 0) := rfl
theorem Mix.words {B : Int} {es p : List Ev} (h : Mix B es) (hp : p.Sublist es) : (wordsX p).length ≤ 32768 := by
  have hsc := h.sc
  obtain ⟨ds, ss, rfl, h2, h3, h4, h5, h6⟩ := h
  have h7 := nodup_le (wordsX p) (ds.flatMap wordsE ++ wordsE (shortE 0 none 0)) (srt_nodup (dist_srt _)) (fun x hx => by
    have hx := (dist_mem _ _).1 hx
    obtain ⟨e, he, hx⟩ := List.mem_flatMap.1 hx
    rcases List.mem_append.1 (hp.subset he) with he | he
    · exact List.mem_append_left _ (List.mem_flatMap.2 ⟨e, he, hx⟩)
    · obtain ⟨a, la, lc, rfl, -⟩ := h5 e he
      rw [short_words] at hx
      exact List.mem_append_right _ hx)
  have h8 := flat_le wordsE 181 ds (fun e he => wordsE_len (hsc e (List.mem_append_left _ he)).1)
  have h9 := wordsE_len (shortE_sc (Int.le_refl 0) (by omega) none 0).1
  rw [List.length_append] at h7
  have : ds.length * 181 ≤ 36 * 181 := Nat.mul_le_mul h2 (Nat.le_refl _)
  omega
theorem Mix.names {B : Int} {es p : List Ev} (h : Mix B es) (hp : p.Sublist es) : (namesX p).length ≤ 32768 := by
  have hsc := h.sc
  obtain ⟨ds, ss, rfl, h2, h3, h4, h5, h6⟩ := h
  have h7 := nodup_le (namesX p) (ds.flatMap namesE) (srt_nodup (dist_srt _)) (fun x hx => by
    have hx := (dist_mem _ _).1 hx
    obtain ⟨e, he, hx⟩ := List.mem_flatMap.1 hx
    rcases List.mem_append.1 (hp.subset he) with he | he
    · exact List.mem_flatMap.2 ⟨e, he, hx⟩
    · obtain ⟨a, la, lc, rfl, -⟩ := h5 e he
      simp [namesE, shortE] at hx)
  have h8 := flat_le namesE 4 ds (fun e he => by
    have := (hsc e (List.mem_append_left _ he)).1.2.2.2.1
    unfold namesE
    rw [List.length_map]; exact this)
  have : ds.length * 4 ≤ 36 * 4 := Nat.mul_le_mul h2 (Nat.le_refl _)
  omega
/-- the list in memory: its row is the call's own, its parts lie apart from it -/
def LOk (N0 : Nat) (B : Int) (w : World) (A : Option Addr) (c : Nat) (es : List Ev) : Prop :=
  w.ownsRow N0 35 10 (.slice A es.length c) es.length (es.flatMap Ev.cells) ∧ (∀ e ∈ es, e.Sub (fun b => N0 ≤ b ∧ (Value.slice A es.length c).ownBlock ≠ some b) w) ∧ Mix B es
theorem LOk.grown {N0 : Nat} {B : Int} {w w' : World} {A : Option Addr} {c : Nat} {es : List Ev} {g : Nat} (h : LOk N0 B w A c es) (hg : w.grownBy w' (some g)) (hl : g < N0) : LOk N0 B w' A c es := by
  obtain ⟨h1, h2, h3⟩ := h
  refine ⟨h1.kept hg ?_, fun e he => (h2 e he).grown hg (fun b hb e => by injection e with e; omega), h3⟩
  cases hv : (Value.slice A es.length c).ownBlock with
  | none => exact .inl rfl
  | some b => exact .inr (by have := h1.lt b hv; intro e; injection e with e; omega)
theorem LOk.app {N0 : Nat} {B a : Int} {w w' : World} {A : Option Addr} {c : Nat} {es : List Ev} {v' : Value} (h : LOk N0 B w A c es) (hN : N0 ≤ w.heap.size) (hB : B ≤ a) (h0 : 0 ≤ a) (h1 : a ≤ 50000)
    (ho : w'.ownsRow N0 35 10 v' (es.length + 1) (es.flatMap Ev.cells ++ (shortE a (some ⟨w.heap.size, 0, none⟩) 1).cells))
    (hg : (w.alloc (.cells #[.int .i64 a, .int .i64 2, .string ⟨#[120]⟩] 31)).grownBy w' (Value.slice A es.length c).ownBlock) (hob : v'.ownBlock = (Value.slice A es.length c).ownBlock ∨ v'.ownBlock = some (w.heap.size + 2)) :
    ∃ A' c', v' = .slice A' (es.length + 1) c' ∧ es.length + 1 ≤ c' ∧ c' ≤ maxLen ∧ LOk N0 (a + 1) w' A' c' (es ++ [shortE a (some ⟨w.heap.size, 0, none⟩) 1]) := by
  obtain ⟨A', c', rfl, hc, hm, -, -⟩ := Rd.of_own ho (by decide)
  have hlen : (es ++ [shortE a (some ⟨w.heap.size, 0, none⟩) 1]).length = es.length + 1 := by simp
  have hv : ∀ b, (Value.slice A es.length c).ownBlock = some b → b < w.heap.size := fun b e => (h.1.lt b e).2
  refine ⟨A', c', rfl, hc, hm, by rw [hlen]; simpa using ho, fun e he => ?_, h.2.2.snoc hB h0 h1 _ _⟩
  rw [hlen]
  have key : ∀ (S : Nat → Prop) (x : Ev), x.Sub (fun b => N0 ≤ b ∧ (Value.slice A es.length c).ownBlock ≠ some b ∧ b ≤ w.heap.size) (w.alloc (.cells #[.int .i64 a, .int .i64 2, .string ⟨#[120]⟩] 31)) → x.Sub (fun b => N0 ≤ b ∧ (Value.slice A' (es.length + 1) c').ownBlock ≠ some b) w' := fun S x hx =>
    (hx.grown hg (fun b hb e => hb.2.1 e.symm)).mono (fun b hb _ => ⟨hb.1, fun e => by
      rcases hob with h2 | h2
      · exact hb.2.1 (by rw [← h2]; exact e)
      · rw [h2] at e; injection e with e; omega⟩)
  rcases List.mem_append.1 he with he | he
  · exact key (fun _ => True) e (((h.2.1 e he).mono (S' := fun b => N0 ≤ b ∧ (Value.slice A es.length c).ownBlock ≠ some b ∧ b ≤ w.heap.size) (fun b hb hl => ⟨hb.1, hb.2, by omega⟩)).grown (World.grownBy_alloc w _ none) (by simp))
  · rw [List.mem_singleton] at he
    subst he
    refine key (fun _ => True) _ ⟨fun _ => ⟨w.heap.size, 0, rfl, ⟨hN, fun e => by have := hv _ e; omega, Nat.le_refl _⟩, by simp, fun j u hu => ?_⟩, Rd.nil, by simp [shortE], by simp [shortE, maxLen], by simp [shortE], by simp [shortE, maxLen]⟩
    rw [(Blk.new w _ _).cell]
    simpa [shortE, LineD.cells] using hu
theorem LOk.evs {N0 : Nat} {B : Int} {w : World} {A : Option Addr} {c : Nat} {es : List Ev} (h : LOk N0 B w A c es) : Evs (N0 ≤ ·) w A es ∧ es.length ≤ c ∧ c ≤ maxLen := by
  obtain ⟨A', c', e, hc, hm, -, hr⟩ := Rd.of_own h.1 (by decide)
  injection e with e1 e2 e3
  subst e1 e3
  exact ⟨⟨hr, fun x hx => (h.2.1 x hx).mono (fun b hb _ => hb.1)⟩, hc, hm⟩
/-- the state of the law's first loops -/
def LI (w : World) (g : Nat) (l : List Int) (N0 : Nat) (B : Int) (wr : World) (A : Option Addr) (c : Nat) (es : List Ev) : Prop :=
  LOk N0 B wr A c es ∧ (∃ k, CodesAt wr g l k) ∧ w.grownBy wr none ∧ N0 ≤ wr.heap.size
theorem LI.up {w wr : World} {g N0 : Nat} {l : List Int} {B B' : Int} {A : Option Addr} {c : Nat} {es : List Ev} (h : LI w g l N0 B wr A c es) (hB : B ≤ B') : LI w g l N0 B' wr A c es := ⟨⟨h.1.1, h.1.2.1, h.1.2.2.up hB⟩, h.2⟩
theorem LI.next {w wr w2 : World} {g N0 k : Nat} {l : List Int} {B : Int} {A : Option Addr} {c : Nat} {es : List Ev} (h : LI w g l N0 B wr A c es) (hg : wr.grownBy w2 (some g)) (hc : CodesAt w2 g l k) (h1 : g < N0) (h2 : w.heap.size ≤ g) : LI w g l N0 B w2 A c es :=
  ⟨h.1.grown hg h1, ⟨k, hc⟩, only_fresh h.2.2.1 hg h2, Nat.le_trans h.2.2.2 hg.size⟩
theorem LI.app {w wr w' : World} {g N0 : Nat} {l : List Int} {B a : Int} {A : Option Addr} {c : Nat} {es : List Ev} {v' : Value} (h : LI w g l N0 B wr A c es) (h1 : g < N0) (h2 : w.heap.size ≤ g) (hB : B ≤ a) (h0 : 0 ≤ a) (h3 : a ≤ 50000)
    (ho : w'.ownsRow N0 35 10 v' (es.length + 1) (es.flatMap Ev.cells ++ (shortE a (some ⟨wr.heap.size, 0, none⟩) 1).cells))
    (hg : (wr.alloc (.cells #[.int .i64 a, .int .i64 2, .string ⟨#[120]⟩] 31)).grownBy w' (Value.slice A es.length c).ownBlock) (hob : v'.ownBlock = (Value.slice A es.length c).ownBlock ∨ v'.ownBlock = some (wr.heap.size + 2)) :
    ∃ A' c', v' = .slice A' (es.length + 1) c' ∧ LI w g l N0 (a + 1) w' A' c' (es ++ [shortE a (some ⟨wr.heap.size, 0, none⟩) 1]) := by
  obtain ⟨q1, ⟨k, q2⟩, q3, q4⟩ := h
  obtain ⟨A', c', e, -, -, h5⟩ := q1.app q4 hB h0 h3 ho hg hob
  refine ⟨A', c', e, h5, ⟨k, (q2.alloc _).grown hg (fun b hb e => by have := (q1.1.lt b e.symm).1; omega)⟩, only_own (only_alloc q3 _) hg (q1.1.alloc _) (by omega), ?_⟩
  have h6 := hg.size
  have h7 := (World.grownBy_alloc wr (.cells #[.int .i64 a, .int .i64 2, .string ⟨#[120]⟩] 31) none).size
  omega
/-- both Checks at the pieces -/
theorem mix_scheck {S : Nat → Prop} {B : Int} {es : List Ev} {w : World} (h : Mix B es) (hs : ∀ e ∈ es, e.Sub S w) (hK : Kinds w) (p : List Ev) (A' : Option Addr) (c' : Nat) (W : World) (hp : p.Sublist es) (h1 : 1 ≤ p.length) (h2 : p.length ≤ 256) (hg : w.grownBy W none) (hr : Rd (fun _ => True) W A' (p.flatMap Ev.cells)) :
    Calls Tryz.prog 16 #[.slice A' p.length c'] W (OkE W) := by
  have hsW : ∀ e ∈ p, e.Sub S W := fun e he => (hs e (hp.subset he)).grown hg (by simp)
  have hsc := fun e (he : e ∈ p) => h.sc e (hp.subset he)
  refine scheck_any (S := fun _ => True) A' p c' W ⟨hr, fun e he => (hsW e he).mono (fun _ _ _ => trivial)⟩ h2 (fun e he => (hsc e he).2.o (hsW e he) (by have := (hsc e he).1.2.2.2.1; omega)) (fun e he => ?_) (h.srt.sublist hp) (h.words hp) (h.names hp) (hK.grown hg (by simp))
  obtain ⟨s1, s2, s3, s4, s5, -⟩ := (hsc e he).1
  exact ⟨fun l hl => by have := s2 l hl; omega, by omega, fun f hf => by have := (s5 f hf).1; omega⟩
theorem mix_rcheck {S : Nat → Prop} {B : Int} {es : List Ev} {w : World} (h : Mix B es) (hs : ∀ e ∈ es, e.Sub S w) (p : List Ev) (A' : Option Addr) (c' : Nat) (W : World) (hp : p.Sublist es) (h1 : 1 ≤ p.length) (h2 : p.length ≤ 256) (hg : w.grownBy W none) (hr : Rd (fun _ => True) W A' (p.flatMap Ev.cells)) :
    Calls Tryz.prog 11 #[.slice A' p.length c'] W (OkE W) :=
  check27_wide (S := fun _ => True) A' p c' W ⟨hr, fun e he => ((hs e (hp.subset he)).grown hg (by simp)).mono (fun _ _ _ => trivial)⟩ h2 (h.words hp) (h.names hp) (fun e he => (h.sc e (hp.subset he)).1) (fun e he => (h.sc e (hp.subset he)).2) (h.srt.sublist hp)
end Go.Proofs.YtfbkkbbpgipipaaGreatDoor

namespace Go.Proofs.YtfbkkbbpgipipaaGreatDoor
open Go.RowKit
set_option linter.unusedVariables false
set_option linter.unusedSimpArgs false

def minT : List Ev → Int
  | [] => 0
  | e :: es => es.foldl (fun m x => min m x.time) e.time
def maxT : List Ev → Int
  | [] => 0
  | e :: es => es.foldl (fun m x => max m x.time) e.time
theorem minT_snoc {l : List Ev} (x : Ev) (h : 0 < l.length) : minT (l ++ [x]) = min (minT l) x.time := by
  cases l with
  | nil => simp at h
  | cons y ys => simp [minT]
theorem maxT_snoc {l : List Ev} (x : Ev) (h : 0 < l.length) : maxT (l ++ [x]) = max (maxT l) x.time := by
  cases l with
  | nil => simp at h
  | cons y ys => simp [maxT]
theorem minT_one (x : Ev) : minT [x] = x.time := rfl
theorem maxT_one (x : Ev) : maxT [x] = x.time := rfl
def siRow (a0 a1 a2 a3 a4 a5 a6 : Int) : Array Value := #[.int .i64 a0, .int .i64 a1, .int .i64 a2, .int .i64 a3, .int .i64 a4, .int .i64 a5, .int .i64 a6]
def InfoPost (w : World) (es : List Ev) (level tier size : Int) (e : Ending) (w' : World) : Prop :=
  e = .returned (.agg (siRow 0 level tier es.length (minT es) (maxT es) size)) ∧ w.grownBy w' none

section
variable {P : Program} {Q : Exit → Act → World → Prop} {ops : Array Oper} {hd : List Oper} {a : Act} {R : World → World → Prop} {G : World → Prop} {φs : List (Value → World → Prop)} {i : Nat} {o : Oper}
theorem StepOk.still (hg : o.guard = none) (hap : dstApart hd = true) (hR : ∀ w, R w w) (h : ∀ u ρ w, Known ops hd a G φs i u ρ w → ∃ v, (execOp ρ o).run P w = .ok (.value v) w ∧ phi φs i v w) : StepOk P Q ops hd a R G φs i o :=
  .run hg hap fun u ρ w k => by
    obtain ⟨v, h1, h2⟩ := h u ρ w k
    exact ⟨v, w, h1, k.good, hR w, h2⟩
end
theorem fa_si4 (w : World) (g : Nat) : (Instr.fieldAt 43 (.pointer (some ⟨g, 0, none⟩)) 4).run Tryz.prog w = .ok (.pointer (some ⟨g, 4, none⟩)) w := by simp [go_sem]
theorem fa_si5 (w : World) (g : Nat) : (Instr.fieldAt 43 (.pointer (some ⟨g, 0, none⟩)) 5).run Tryz.prog w = .ok (.pointer (some ⟨g, 5, none⟩)) w := by simp [go_sem]
theorem fa_ev5 (w : World) (g : Nat) : (Instr.fieldAt 35 (.pointer (some ⟨g, 0, none⟩)) 5).run Tryz.prog w = .ok (.pointer (some ⟨g, 5, none⟩)) w := by simp [go_sem]
theorem load_int (w : World) (p : Addr) (n : Int) (h : w.cell? p = some (.int .i64 n)) : (Instr.loadAt 3 (.pointer (some p))).run Tryz.prog w = .ok (.int .i64 n) w := by
  have := Tryz.underlying3
  simp [go_sem, h]
theorem store_int (w : World) (g i : Nat) (n : Int) {t : TypeId} {cs : Array Value} (h : Blk w g t cs) (hi : i < cs.size) : (Instr.storeAt 3 (.pointer (some ⟨g, i, none⟩)) (.int .i64 n)).run Tryz.prog w = .ok () (w.setCell ⟨g, i, none⟩ (.int .i64 n)) := by
  have c0 := h.cell i
  have f0 := h.frozen i
  rw [Array.getElem?_eq_getElem hi] at c0
  have hu := Tryz.underlying3
  simp [go_sem, c0, f0]
theorem run_min (ρ : Operand → Value) (w : World) (x y : Nat) (a b : Int) (hx : ρ (.tmp x) = .int .i64 a) (hy : ρ (.tmp y) = .int .i64 b) {o : Oper} (ho : o.op = .call { callee := .builtin .min, args := #[.tmp x, .tmp y], argTypes := #[3, 3] }) : (execOp ρ o).run Tryz.prog w = .ok (.value (.int .i64 (min a b))) w := by
  simp [execOp, ho, resolve, invoke, builtin, hx, hy, go_sem] <;> omega
theorem run_max (ρ : Operand → Value) (w : World) (x y : Nat) (a b : Int) (hx : ρ (.tmp x) = .int .i64 a) (hy : ρ (.tmp y) = .int .i64 b) {o : Oper} (ho : o.op = .call { callee := .builtin .max, args := #[.tmp x, .tmp y], argTypes := #[3, 3] }) : (execOp ρ o).run Tryz.prog w = .ok (.value (.int .i64 (max a b))) w := by
  simp [execOp, ho, resolve, invoke, builtin, hx, hy, go_sem] <;> omega
theorem only_setNew {a w : World} {row : Option Nat} (h : a.grownBy w row) {p : Addr} (hp : a.heap.size ≤ p.block) (u : Value) : a.grownBy (w.setCell p u) row :=
  only_fresh h (grown_setCell w p u) hp
/-- the memory of Info while an event is looked at -/
def IM (w0 : World) (r eB : Nat) (level tier n size : Int) (y : Ev) (m4 m5 : Int) (w : World) : Prop :=
  Blk w r 43 (siRow 0 0 0 0 0 0 0) ∧ Blk w (r + 1) 43 (siRow 0 level tier n m4 m5 size) ∧ Blk w eB 35 y.cells.toArray ∧ w0.grownBy w none ∧ r + 1 < eB ∧ w0.heap.size ≤ r
theorem IM.set4 {w0 : World} {r eB : Nat} {level tier n size : Int} {y : Ev} {m4 m5 : Int} {w : World} (h : IM w0 r eB level tier n size y m4 m5 w) (x : Int) : IM w0 r eB level tier n size y x m5 (w.setCell ⟨r + 1, 4, none⟩ (.int .i64 x)) := by
  obtain ⟨h1, h2, h3, h4, h5, h6⟩ := h
  exact ⟨h1.grown (grown_setCell w ⟨r + 1, 4, none⟩ _) (by simp), by simpa [siRow] using h2.set_ 4 (.int .i64 x), h3.grown (grown_setCell w ⟨r + 1, 4, none⟩ _) (by simp; omega), only_setNew h4 (by simp; omega) _, h5, h6⟩
theorem IM.set5 {w0 : World} {r eB : Nat} {level tier n size : Int} {y : Ev} {m4 m5 : Int} {w : World} (h : IM w0 r eB level tier n size y m4 m5 w) (x : Int) : IM w0 r eB level tier n size y m4 x (w.setCell ⟨r + 1, 5, none⟩ (.int .i64 x)) := by
  obtain ⟨h1, h2, h3, h4, h5, h6⟩ := h
  exact ⟨h1.grown (grown_setCell w ⟨r + 1, 5, none⟩ _) (by simp), by simpa [siRow] using h2.set_ 5 (.int .i64 x), h3.grown (grown_setCell w ⟨r + 1, 5, none⟩ _) (by simp; omega), only_setNew h4 (by simp; omega) _, h5, h6⟩
theorem IM.drew {w0 : World} {r eB : Nat} {level tier n size : Int} {y : Ev} {m4 m5 : Int} {w : World} (h : IM w0 r eB level tier n size y m4 m5 w) : IM w0 r eB level tier n size y m4 m5 w.drew := ⟨h.1, h.2.1, h.2.2.1, only_drew h.2.2.2.1, h.2.2.2.2⟩
theorem IM.c4 {w0 : World} {r eB : Nat} {level tier n size : Int} {y : Ev} {m4 m5 : Int} {w : World} (h : IM w0 r eB level tier n size y m4 m5 w) : w.cell? ⟨r + 1, 4, none⟩ = some (.int .i64 m4) := (h.2.1.cell 4).trans rfl
theorem IM.c5 {w0 : World} {r eB : Nat} {level tier n size : Int} {y : Ev} {m4 m5 : Int} {w : World} (h : IM w0 r eB level tier n size y m4 m5 w) : w.cell? ⟨r + 1, 5, none⟩ = some (.int .i64 m5) := (h.2.1.cell 5).trans rfl
theorem IM.ct {w0 : World} {r eB : Nat} {level tier n size : Int} {y : Ev} {m4 m5 : Int} {w : World} (h : IM w0 r eB level tier n size y m4 m5 w) : w.cell? ⟨eB, 5, none⟩ = some (.int .i64 y.time) := (h.2.2.1.cell 5).trans rfl
section
variable {Q : Exit → Act → World → Prop} {ops : Array Oper} {hd : List Oper} {a : Act} {R : World → World → Prop} {G : World → Prop} {φs : List (Value → World → Prop)} {i : Nat} {o : Oper}
theorem si_fa (hg : o.guard = none) (hap : dstApart hd = true) (hR : ∀ w, R w w) {x f : Nat} {t : TypeId} {p q : Addr} (ho : o.op = .fieldAddr t (.tmp x) f) (hx : hd.all (fun o => o.dst != some x) = true) (hc : a.eval (.tmp x) = .pointer (some p)) (hr : ∀ w : World, (Instr.fieldAt t (.pointer (some p)) f).run Tryz.prog w = .ok (.pointer (some q)) w) (hp : phi φs i = fun v _ => v = .pointer (some q)) : StepOk Tryz.prog Q ops hd a R G φs i o :=
  .still hg hap hR fun u ρ w k => ⟨.pointer (some q), by simp only [execOp, ho, (k.rho.other x hx).trans hc, Sem.run_bind, hr, Result.andThen_ok, Sem.run_pure], by rw [hp]⟩
theorem si_ld (hg : o.guard = none) (hap : dstApart hd = true) (hR : ∀ w, R w w) {x : Nat} {q : Addr} {p : Int → Prop} (ho : o.op = .load 3 (.tmp x)) (jx : Nat) (hx : isDst hd jx x = true) (hxs : x < a.tmps.size) (wx : Region.waitsFor .any ops i jx = true) (px : phi φs jx = fun v _ => v = .pointer (some q))
    (hG : ∀ w, G w → ∃ n, w.cell? q = some (.int .i64 n) ∧ p n) (hp : phi φs i = fun v _ => ∃ n, v = .int .i64 n ∧ p n) : StepOk Tryz.prog Q ops hd a R G φs i o :=
  .still hg hap hR fun u ρ w k => by
    have e1 := k.dep jx wx
    rw [px] at e1
    obtain ⟨n, hn, hpn⟩ := hG w k.good
    exact ⟨.int .i64 n, by simp only [execOp, ho, (k.rho.at_ jx x hx hxs).trans e1, Sem.run_bind, load_int w q n hn, Result.andThen_ok, Sem.run_pure], by rw [hp]; exact ⟨n, rfl, hpn⟩⟩
theorem si_min (hg : o.guard = none) (hap : dstApart hd = true) (hR : ∀ w, R w w) {x y : Nat} {p q s : Int → Prop} (ho : o.op = .call { callee := .builtin .min, args := #[.tmp x, .tmp y], argTypes := #[3, 3] }) (jx jy : Nat) (hx : isDst hd jx x = true) (hy : isDst hd jy y = true) (hxs : x < a.tmps.size) (hys : y < a.tmps.size) (wx : Region.waitsFor .any ops i jx = true) (wy : Region.waitsFor .any ops i jy = true)
    (px : phi φs jx = fun v _ => ∃ n, v = .int .i64 n ∧ p n) (py : phi φs jy = fun v _ => ∃ n, v = .int .i64 n ∧ q n) (hs : ∀ n m, p n → q m → s (min n m)) (hp : phi φs i = fun v _ => ∃ n, v = .int .i64 n ∧ s n) : StepOk Tryz.prog Q ops hd a R G φs i o :=
  .still hg hap hR fun u ρ w k => by
    have e1 := k.dep jx wx
    have e2 := k.dep jy wy
    rw [px] at e1
    rw [py] at e2
    obtain ⟨n, e1, h1⟩ := e1
    obtain ⟨m, e2, h2⟩ := e2
    exact ⟨.int .i64 (min n m), run_min ρ w x y n m ((k.rho.at_ jx x hx hxs).trans e1) ((k.rho.at_ jy y hy hys).trans e2) ho, by rw [hp]; exact ⟨_, rfl, hs n m h1 h2⟩⟩
theorem si_max (hg : o.guard = none) (hap : dstApart hd = true) (hR : ∀ w, R w w) {x y : Nat} {p q s : Int → Prop} (ho : o.op = .call { callee := .builtin .max, args := #[.tmp x, .tmp y], argTypes := #[3, 3] }) (jx jy : Nat) (hx : isDst hd jx x = true) (hy : isDst hd jy y = true) (hxs : x < a.tmps.size) (hys : y < a.tmps.size) (wx : Region.waitsFor .any ops i jx = true) (wy : Region.waitsFor .any ops i jy = true)
    (px : phi φs jx = fun v _ => ∃ n, v = .int .i64 n ∧ p n) (py : phi φs jy = fun v _ => ∃ n, v = .int .i64 n ∧ q n) (hs : ∀ n m, p n → q m → s (max n m)) (hp : phi φs i = fun v _ => ∃ n, v = .int .i64 n ∧ s n) : StepOk Tryz.prog Q ops hd a R G φs i o :=
  .still hg hap hR fun u ρ w k => by
    have e1 := k.dep jx wx
    have e2 := k.dep jy wy
    rw [px] at e1
    rw [py] at e2
    obtain ⟨n, e1, h1⟩ := e1
    obtain ⟨m, e2, h2⟩ := e2
    exact ⟨.int .i64 (max n m), run_max ρ w x y n m ((k.rho.at_ jx x hx hxs).trans e1) ((k.rho.at_ jy y hy hys).trans e2) ho, by rw [hp]; exact ⟨_, rfl, hs n m h1 h2⟩⟩
theorem si_st (hg : o.guard = none) (hap : dstApart hd = true) {x y : Nat} {q : Addr} {c : Int} (ho : o.op = .store 3 (.tmp x) (.tmp y)) (jx jy : Nat) (hx : isDst hd jx x = true) (hy : isDst hd jy y = true) (hxs : x < a.tmps.size) (hys : y < a.tmps.size) (wx : Region.waitsFor .any ops i jx = true) (wy : Region.waitsFor .any ops i jy = true)
    (px : phi φs jx = fun v _ => v = .pointer (some q)) (py : phi φs jy = fun v _ => ∃ n, v = .int .i64 n ∧ n = c) (hr : ∀ w, G w → (Instr.storeAt 3 (.pointer (some q)) (.int .i64 c)).run Tryz.prog w = .ok () (w.setCell q (.int .i64 c)) ∧ G (w.setCell q (.int .i64 c)) ∧ R w (w.setCell q (.int .i64 c)) ∧ phi φs i undef (w.setCell q (.int .i64 c))) : StepOk Tryz.prog Q ops hd a R G φs i o :=
  .skip hg hap fun u ρ w k => by
    have e1 := k.dep jx wx
    have e2 := k.dep jy wy
    rw [px] at e1
    rw [py] at e2
    obtain ⟨m, e2, rfl⟩ := e2
    obtain ⟨h1, h2⟩ := hr w k.good
    exact ⟨w.setCell q (.int .i64 m), by simp only [execOp, ho, (k.rho.at_ jx x hx hxs).trans e1, (k.rho.at_ jy y hy hys).trans e2, Sem.run_bind, h1, Result.andThen_ok, Sem.run_pure], h2⟩
end
set_option maxHeartbeats 4000000 in
set_option maxRecDepth 100000 in
theorem info_any {S : Nat → Prop} (A : Option Addr) (es : List Ev) (c : Nat) (level tier size : Int) (w : World) (h : Rd S w A (es.flatMap Ev.cells)) (hl : es.length ≤ 100000) (hc : es.length ≤ c) (hcm : c ≤ maxLen) :
    Calls Tryz.prog 12 #[.slice A es.length c, .int .i64 level, .int .i64 tier, .int .i64 size] w (InfoPost w es level tier size) := by
  unfold maxLen at hcm
  have H := Lib.hid h
  clear h
  have HB0 : Hid (Blk ((w.alloc (.cells (siRow 0 0 0 0 0 0 0) 43)).alloc (.cells (siRow 0 level tier es.length 0 0 size) 43)) w.heap.size 43 (siRow 0 0 0 0 0 0 0)) := (Blk.new w _ _).alloc _
  have HB1 : Hid (Blk ((w.alloc (.cells (siRow 0 0 0 0 0 0 0) 43)).alloc (.cells (siRow 0 level tier es.length 0 0 size) 43)) (w.heap.size + 1) 43 (siRow 0 level tier es.length 0 0 size)) := by
    have := Blk.new (w.alloc (.cells (siRow 0 0 0 0 0 0 0) 43)) 43 (siRow 0 level tier es.length 0 0 size)
    rw [World.size_alloc] at this
    exact this
  obtain ⟨W, hW⟩ : ∃ W, W = (w.alloc (.cells (siRow 0 0 0 0 0 0 0) 43)).alloc (.cells (siRow 0 level tier es.length 0 0 size) 43) := ⟨_, rfl⟩
  have HG : Hid (w.grownBy W none) := hW ▸ only_alloc (only_alloc (only_refl _ _) _) _
  rw [← hW] at HB0 HB1
  have HW : Hid (W = (w.alloc (.cells #[.int .i64 0, .int .i64 0, .int .i64 0, .int .i64 0, .int .i64 0, .int .i64 0, .int .i64 0] 43)).alloc (.cells #[.int .i64 0, .int .i64 level, .int .i64 tier, .int .i64 es.length, .int .i64 0, .int .i64 0, .int .i64 size] 43)) := hW
  clear hW
  obtain ⟨r, hr⟩ : ∃ r, r = w.heap.size := ⟨_, rfl⟩
  go_enter Tryz.func12, Tryz.ntmps12
  go_wp2_with fail
  rw [← HW.out]
  rw [← hr] at HB0 HB1 ⊢
  have HR := Lib.hid hr
  clear hr HW
  go_loopw [20] (fun i wr => ∃ k : Nat, k ≤ es.length ∧ i = .int .i64 k ∧ Blk wr r 43 (siRow 0 0 0 0 0 0 0) ∧ Blk wr (r + 1) 43 (siRow 0 level tier es.length (minT (es.take k)) (maxT (es.take k)) size) ∧ w.grownBy wr none) (fun i _ => es.length - (intOf i).toNat)
  case atStart => exact ⟨0, Nat.zero_le _, rfl, HB0.out, HB1.out, HG.out⟩
  case round =>
    obtain ⟨k, hk, rfl, hB0, hB1, hG⟩ := hrel
    have G := Lib.hid hG
    have B0 := Lib.hid hB0
    have B1 := Lib.hid hB1
    have hlt := hB1.lt
    have c0 := hB1.cell 0
    have c1 := hB1.cell 1
    have c2 := hB1.cell 2
    have c3 := hB1.cell 3
    have c4 := hB1.cell 4
    have c5 := hB1.cell 5
    have c6 := hB1.cell 6
    have f4 := hB1.frozen 4
    have f5 := hB1.frozen 5
    simp [siRow] at c0 c1 c2 c3 c4 c5 c6
    clear hG hB0 hB1 HB0 HB1 HG
    by_cases hkl : k < es.length
    · obtain ⟨b, off, rfl, -, -, -⟩ := H.out (by rw [flat_len _ 10 Ev.cells_len]; omega)
      obtain ⟨y, hy⟩ : ∃ y, es[k] = y := ⟨_, rfl⟩
      obtain ⟨e0, e1, e2, e3, e4, e5, e6, e7, e8, e9⟩ := Evs.load10 (H.out.grown G.out (by simp)) hkl hy
      have hts : es.take (k + 1) = es.take k ++ [y] := by rw [← hy]; exact List.take_succ_eq_append_getElem hkl
      have HTS := Lib.hid hts
      have hkI : (k : Int) < (es.length : Int) := by omega
      clear hts hy
      have HWE : Hid (IM w r wr.heap.size level tier es.length size y (minT (es.take k)) (maxT (es.take k)) (wr.alloc (.cells y.cells.toArray 35))) := ⟨B0.out.alloc _, B1.out.alloc _, Blk.new _ _ _, only_alloc G.out _, hlt, by have := HR.out; omega⟩
      have HWX : Hid (wr.alloc (.cells y.cells.toArray 35) = wr.alloc (.cells #[.int .i64 y.host, .int .i64 y.file, .int .i64 y.beg, .int .i64 y.fin, .slice y.la y.lines.length y.lc, .int .i64 y.time, .int .i64 y.weight, .string y.trace, .string y.stream, .slice y.fa y.fields.length y.fc] 35)) := rfl
      obtain ⟨WE, hWE⟩ : ∃ WE, WE = wr.alloc (.cells y.cells.toArray 35) := ⟨_, rfl⟩
      rw [← hWE] at HWE HWX
      clear hWE
      by_cases hk0 : k = 0
      · subst hk0
        have HMN : Hid (minT (es.take (0 + 1)) = min y.time y.time) := by show _ = _; rw [HTS.out]; simp [minT]
        have HMX : Hid (maxT (es.take (0 + 1)) = y.time) := by show _ = _; rw [HTS.out]; simp [maxT]
        simp only [Nat.zero_mul, Nat.add_zero] at e0 e1 e2 e3 e4 e5 e6 e7 e8 e9
        go_wp2_with fail
        rw [← HWX.out]
        have HI : Hid (IM w r wr.heap.size level tier es.length size y 0 0 WE) := HWE.out
        generalize wr.heap.size = eB at *
        clear c0 c1 c2 c3 c4 c5 c6 f4 f5 e0 e1 e2 e3 e4 e5 e6 e7 e8 e9 B0 B1 G HWE HWX
        refine wp_region_inv 6 (fun w1 w2 => w2 = w1 ∨ IM w r eB level tier es.length size y y.time 0 w2) (fun w1 => IM w r eB level tier es.length size y 0 0 w1 ∨ IM w r eB level tier es.length size y y.time 0 w1) [(fun v _ => v = Value.pointer (some ⟨eB, 5, none⟩)), (fun v _ => ∃ n, v = Value.int .i64 n ∧ n = y.time), (fun v _ => v = Value.pointer (some ⟨eB, 5, none⟩)), (fun v _ => ∃ n, v = Value.int .i64 n ∧ n = y.time), (fun v _ => v = Value.pointer (some ⟨r + 1, 4, none⟩)), (fun _ w1 => IM w r eB level tier es.length size y y.time 0 w1)] (by kernel_rfl) (by kernel_rfl) ?_ ?_ ?_ ?_
        · intro p hp
          simp only [List.mem_cons, List.not_mem_nil, or_false] at hp
          rcases hp with rfl | rfl | rfl | rfl | rfl | rfl
          all_goals first
            | exact fun v w1 w2 _ h => h
            | exact fun v w1 w2 hr h => by rcases hr with rfl | hr; exact h; exact hr
        · exact .inl HI.out.drew
        · generalize hA : Act.mk _ _ = A
          have hsz : A.tmps.size = 47 := by rw [← hA]; kernel_rfl
          have ea9 : A.eval (.tmp 9) = .pointer (some ⟨r + 1, 0, none⟩) := by rw [← hA]; kernel_rfl
          have ea11 : A.eval (.tmp 11) = .pointer (some ⟨eB, 0, none⟩) := by rw [← hA]; kernel_rfl
          clear hA
          simp only [List.take_succ_cons, List.take_zero]
          refine .cons ?_ (.cons ?_ (.cons ?_ (.cons ?_ (.cons ?_ (.cons ?_ .nil)))))
          · exact si_fa rfl (by kernel_rfl) (fun _ => .inl rfl) rfl (by kernel_rfl) ea11 (fun w => fa_ev5 w _) rfl
          · exact si_ld rfl (by kernel_rfl) (fun _ => .inl rfl) rfl 0 (by kernel_rfl) (by omega) (by kernel_rfl) rfl (fun w1 h => by rcases h with h | h <;> exact ⟨_, h.ct, rfl⟩) rfl
          · exact si_fa rfl (by kernel_rfl) (fun _ => .inl rfl) rfl (by kernel_rfl) ea11 (fun w => fa_ev5 w _) rfl
          · exact si_ld rfl (by kernel_rfl) (fun _ => .inl rfl) rfl 2 (by kernel_rfl) (by omega) (by kernel_rfl) rfl (fun w1 h => by rcases h with h | h <;> exact ⟨_, h.ct, rfl⟩) rfl
          · exact si_fa rfl (by kernel_rfl) (fun _ => .inl rfl) rfl (by kernel_rfl) ea9 (fun w => fa_si4 w _) rfl
          · exact si_st rfl (by kernel_rfl) rfl 4 1 (by kernel_rfl) (by kernel_rfl) (by omega) (by omega) (by kernel_rfl) (by kernel_rfl) rfl rfl (fun w1 h => by
              rcases h with h | h
              · exact ⟨store_int _ _ _ _ h.2.1 (by simp [siRow]), .inr (h.set4 _), .inr (h.set4 _), h.set4 _⟩
              · exact ⟨store_int _ _ _ _ h.2.1 (by simp [siRow]), .inr (h.set4 _), .inr (h.set4 _), h.set4 _⟩)
        · intro u w8 _ hu
          have hM : IM w r eB level tier es.length size y y.time 0 w8 := hu 5 (by omega)
          obtain ⟨mz, e3, rfl⟩ := hu 3 (by omega)
          simp only [List.take_succ_cons, List.take_zero, List.drop_succ_cons, List.drop_zero, putAll]
          rw [e3]
          have HM := Lib.hid hM
          have c5x := hM.c5
          have f5x := hM.2.1.frozen 5
          clear hu e3 hM HI
          go_wp2_with fail
          have HI2 := Lib.hid (HM.out.set5 y.time)
          generalize w8.setCell ⟨r + 1, 5, none⟩ (.int .i64 y.time) = w8b at *
          clear HM c5x f5x
          refine wp_region_inv 12 (fun w1 w2 => w2 = w1 ∨ IM w r eB level tier es.length size y (min y.time y.time) y.time w2) (fun w1 => IM w r eB level tier es.length size y y.time y.time w1 ∨ IM w r eB level tier es.length size y (min y.time y.time) y.time w1) [(fun v _ => v = Value.pointer (some ⟨r + 1, 4, none⟩)), (fun v _ => ∃ n, v = Value.int .i64 n ∧ (n = y.time ∨ n = min y.time y.time)), (fun v _ => v = Value.pointer (some ⟨eB, 5, none⟩)), (fun v _ => ∃ n, v = Value.int .i64 n ∧ n = y.time), (fun v _ => ∃ n, v = Value.int .i64 n ∧ n = min y.time y.time), (fun v _ => v = Value.pointer (some ⟨r + 1, 5, none⟩)), (fun v _ => ∃ n, v = Value.int .i64 n ∧ n = y.time), (fun v _ => v = Value.pointer (some ⟨eB, 5, none⟩)), (fun v _ => ∃ n, v = Value.int .i64 n ∧ n = y.time), (fun v _ => ∃ n, v = Value.int .i64 n ∧ n = max y.time y.time), (fun v _ => v = Value.pointer (some ⟨r + 1, 4, none⟩)), (fun _ w1 => IM w r eB level tier es.length size y (min y.time y.time) y.time w1)] (by kernel_rfl) (by kernel_rfl) ?_ ?_ ?_ ?_
          · intro p hp
            simp only [List.mem_cons, List.not_mem_nil, or_false] at hp
            rcases hp with rfl | rfl | rfl | rfl | rfl | rfl | rfl | rfl | rfl | rfl | rfl | rfl
            all_goals first
              | exact fun v w1 w2 _ h => h
              | exact fun v w1 w2 hr h => by rcases hr with rfl | hr; exact h; exact hr
          · exact .inl HI2.out.drew
          · generalize hA : Act.mk _ _ = A
            have hsz : A.tmps.size = 47 := by rw [← hA]; kernel_rfl
            have ea9 : A.eval (.tmp 9) = .pointer (some ⟨r + 1, 0, none⟩) := by rw [← hA]; kernel_rfl
            have ea11 : A.eval (.tmp 11) = .pointer (some ⟨eB, 0, none⟩) := by rw [← hA]; kernel_rfl
            clear hA
            simp only [List.take_succ_cons, List.take_zero]
            refine .cons ?_ (.cons ?_ (.cons ?_ (.cons ?_ (.cons ?_ (.cons ?_ (.cons ?_ (.cons ?_ (.cons ?_ (.cons ?_ (.cons ?_ (.cons ?_ .nil)))))))))))
            · exact si_fa rfl (by kernel_rfl) (fun _ => .inl rfl) rfl (by kernel_rfl) ea9 (fun w => fa_si4 w _) rfl
            · exact si_ld rfl (by kernel_rfl) (fun _ => .inl rfl) rfl 0 (by kernel_rfl) (by omega) (by kernel_rfl) rfl (fun w1 h => by rcases h with h | h; exact ⟨_, h.c4, .inl rfl⟩; exact ⟨_, h.c4, .inr rfl⟩) rfl
            · exact si_fa rfl (by kernel_rfl) (fun _ => .inl rfl) rfl (by kernel_rfl) ea11 (fun w => fa_ev5 w _) rfl
            · exact si_ld rfl (by kernel_rfl) (fun _ => .inl rfl) rfl 2 (by kernel_rfl) (by omega) (by kernel_rfl) rfl (fun w1 h => by rcases h with h | h <;> exact ⟨_, h.ct, rfl⟩) rfl
            · exact si_min rfl (by kernel_rfl) (fun _ => .inl rfl) rfl 1 3 (by kernel_rfl) (by kernel_rfl) (by omega) (by omega) (by kernel_rfl) (by kernel_rfl) rfl rfl (fun n m h1 h2 => by subst h2; rcases h1 with rfl | rfl <;> omega) rfl
            · exact si_fa rfl (by kernel_rfl) (fun _ => .inl rfl) rfl (by kernel_rfl) ea9 (fun w => fa_si5 w _) rfl
            · exact si_ld rfl (by kernel_rfl) (fun _ => .inl rfl) rfl 5 (by kernel_rfl) (by omega) (by kernel_rfl) rfl (fun w1 h => by rcases h with h | h <;> exact ⟨_, h.c5, rfl⟩) rfl
            · exact si_fa rfl (by kernel_rfl) (fun _ => .inl rfl) rfl (by kernel_rfl) ea11 (fun w => fa_ev5 w _) rfl
            · exact si_ld rfl (by kernel_rfl) (fun _ => .inl rfl) rfl 7 (by kernel_rfl) (by omega) (by kernel_rfl) rfl (fun w1 h => by rcases h with h | h <;> exact ⟨_, h.ct, rfl⟩) rfl
            · exact si_max rfl (by kernel_rfl) (fun _ => .inl rfl) rfl 6 8 (by kernel_rfl) (by kernel_rfl) (by omega) (by omega) (by kernel_rfl) (by kernel_rfl) rfl rfl (fun n m h1 h2 => by subst h1 h2; rfl) rfl
            · exact si_fa rfl (by kernel_rfl) (fun _ => .inl rfl) rfl (by kernel_rfl) ea9 (fun w => fa_si4 w _) rfl
            · exact si_st rfl (by kernel_rfl) rfl 10 4 (by kernel_rfl) (by kernel_rfl) (by omega) (by omega) (by kernel_rfl) (by kernel_rfl) rfl rfl (fun w1 h => by
                rcases h with h | h
                · exact ⟨store_int _ _ _ _ h.2.1 (by simp [siRow]), .inr (h.set4 _), .inr (h.set4 _), h.set4 _⟩
                · exact ⟨store_int _ _ _ _ h.2.1 (by simp [siRow]), .inr (h.set4 _), .inr (h.set4 _), h.set4 _⟩)
          · intro u w9 _ hu
            have hM : IM w r eB level tier es.length size y (min y.time y.time) y.time w9 := hu 11 (by omega)
            obtain ⟨mz, e9, rfl⟩ := hu 9 (by omega)
            simp only [List.take_succ_cons, List.take_zero, List.drop_succ_cons, List.drop_zero, putAll]
            rw [e9]
            have HM := Lib.hid hM
            have c5x := hM.c5
            have f5x := hM.2.1.frozen 5
            clear hu e9 hM HI2
            go_wp2_with fail
            have HF := HM.out.set5 y.time
            go_roundw
            case rel => exact ⟨0 + 1, by omega, by go_num, HF.1, by rw [HMN.out, HMX.out]; exact HF.2.1, HF.2.2.2.1⟩
            case measure => simp [intOf]; omega
      · have hb0 : ((k : Int) == 0) = false := by simp; omega
        have hkp : 0 < (es.take k).length := by simp; omega
        have HMN : Hid (minT (es.take (k + 1)) = min (minT (es.take k)) y.time) := by show _ = _; rw [HTS.out]; exact minT_snoc y hkp
        have HMX : Hid (maxT (es.take (k + 1)) = max (maxT (es.take k)) y.time) := by show _ = _; rw [HTS.out]; exact maxT_snoc y hkp
        clear hkp
        generalize minT (es.take k) = mn at *
        generalize maxT (es.take k) = mx at *
        go_wp2_with fail
        rw [← HWX.out]
        have HI : Hid (IM w r wr.heap.size level tier es.length size y mn mx WE) := HWE.out
        generalize wr.heap.size = eB at *
        clear c0 c1 c2 c3 c4 c5 c6 f4 f5 e0 e1 e2 e3 e4 e5 e6 e7 e8 e9 B0 B1 G HWE HWX
        refine wp_region_inv 12 (fun w1 w2 => w2 = w1 ∨ IM w r eB level tier es.length size y (min mn y.time) mx w2) (fun w1 => IM w r eB level tier es.length size y mn mx w1 ∨ IM w r eB level tier es.length size y (min mn y.time) mx w1) [(fun v _ => v = Value.pointer (some ⟨r + 1, 4, none⟩)), (fun v _ => ∃ n, v = Value.int .i64 n ∧ (n = mn ∨ n = min mn y.time)), (fun v _ => v = Value.pointer (some ⟨eB, 5, none⟩)), (fun v _ => ∃ n, v = Value.int .i64 n ∧ n = y.time), (fun v _ => ∃ n, v = Value.int .i64 n ∧ n = min mn y.time), (fun v _ => v = Value.pointer (some ⟨r + 1, 5, none⟩)), (fun v _ => ∃ n, v = Value.int .i64 n ∧ n = mx), (fun v _ => v = Value.pointer (some ⟨eB, 5, none⟩)), (fun v _ => ∃ n, v = Value.int .i64 n ∧ n = y.time), (fun v _ => ∃ n, v = Value.int .i64 n ∧ n = max mx y.time), (fun v _ => v = Value.pointer (some ⟨r + 1, 4, none⟩)), (fun _ w1 => IM w r eB level tier es.length size y (min mn y.time) mx w1)] (by kernel_rfl) (by kernel_rfl) ?_ ?_ ?_ ?_
        · intro p hp
          simp only [List.mem_cons, List.not_mem_nil, or_false] at hp
          rcases hp with rfl | rfl | rfl | rfl | rfl | rfl | rfl | rfl | rfl | rfl | rfl | rfl
          all_goals first
            | exact fun v w1 w2 _ h => h
            | exact fun v w1 w2 hr h => by rcases hr with rfl | hr; exact h; exact hr
        · exact .inl HI.out.drew
        · generalize hA : Act.mk _ _ = A
          have hsz : A.tmps.size = 47 := by rw [← hA]; kernel_rfl
          have ea9 : A.eval (.tmp 9) = .pointer (some ⟨r + 1, 0, none⟩) := by rw [← hA]; kernel_rfl
          have ea11 : A.eval (.tmp 11) = .pointer (some ⟨eB, 0, none⟩) := by rw [← hA]; kernel_rfl
          clear hA
          simp only [List.take_succ_cons, List.take_zero]
          refine .cons ?_ (.cons ?_ (.cons ?_ (.cons ?_ (.cons ?_ (.cons ?_ (.cons ?_ (.cons ?_ (.cons ?_ (.cons ?_ (.cons ?_ (.cons ?_ .nil)))))))))))
          · exact si_fa rfl (by kernel_rfl) (fun _ => .inl rfl) rfl (by kernel_rfl) ea9 (fun w => fa_si4 w _) rfl
          · exact si_ld rfl (by kernel_rfl) (fun _ => .inl rfl) rfl 0 (by kernel_rfl) (by omega) (by kernel_rfl) rfl (fun w1 h => by rcases h with h | h; exact ⟨_, h.c4, .inl rfl⟩; exact ⟨_, h.c4, .inr rfl⟩) rfl
          · exact si_fa rfl (by kernel_rfl) (fun _ => .inl rfl) rfl (by kernel_rfl) ea11 (fun w => fa_ev5 w _) rfl
          · exact si_ld rfl (by kernel_rfl) (fun _ => .inl rfl) rfl 2 (by kernel_rfl) (by omega) (by kernel_rfl) rfl (fun w1 h => by rcases h with h | h <;> exact ⟨_, h.ct, rfl⟩) rfl
          · exact si_min rfl (by kernel_rfl) (fun _ => .inl rfl) rfl 1 3 (by kernel_rfl) (by kernel_rfl) (by omega) (by omega) (by kernel_rfl) (by kernel_rfl) rfl rfl (fun n m h1 h2 => by subst h2; rcases h1 with rfl | rfl <;> omega) rfl
          · exact si_fa rfl (by kernel_rfl) (fun _ => .inl rfl) rfl (by kernel_rfl) ea9 (fun w => fa_si5 w _) rfl
          · exact si_ld rfl (by kernel_rfl) (fun _ => .inl rfl) rfl 5 (by kernel_rfl) (by omega) (by kernel_rfl) rfl (fun w1 h => by rcases h with h | h <;> exact ⟨_, h.c5, rfl⟩) rfl
          · exact si_fa rfl (by kernel_rfl) (fun _ => .inl rfl) rfl (by kernel_rfl) ea11 (fun w => fa_ev5 w _) rfl
          · exact si_ld rfl (by kernel_rfl) (fun _ => .inl rfl) rfl 7 (by kernel_rfl) (by omega) (by kernel_rfl) rfl (fun w1 h => by rcases h with h | h <;> exact ⟨_, h.ct, rfl⟩) rfl
          · exact si_max rfl (by kernel_rfl) (fun _ => .inl rfl) rfl 6 8 (by kernel_rfl) (by kernel_rfl) (by omega) (by omega) (by kernel_rfl) (by kernel_rfl) rfl rfl (fun n m h1 h2 => by subst h1 h2; rfl) rfl
          · exact si_fa rfl (by kernel_rfl) (fun _ => .inl rfl) rfl (by kernel_rfl) ea9 (fun w => fa_si4 w _) rfl
          · exact si_st rfl (by kernel_rfl) rfl 10 4 (by kernel_rfl) (by kernel_rfl) (by omega) (by omega) (by kernel_rfl) (by kernel_rfl) rfl rfl (fun w1 h => by
              rcases h with h | h
              · exact ⟨store_int _ _ _ _ h.2.1 (by simp [siRow]), .inr (h.set4 _), .inr (h.set4 _), h.set4 _⟩
              · exact ⟨store_int _ _ _ _ h.2.1 (by simp [siRow]), .inr (h.set4 _), .inr (h.set4 _), h.set4 _⟩)
        · intro u w9 _ hu
          have hM : IM w r eB level tier es.length size y (min mn y.time) mx w9 := hu 11 (by omega)
          obtain ⟨mz, e9, rfl⟩ := hu 9 (by omega)
          simp only [List.take_succ_cons, List.take_zero, List.drop_succ_cons, List.drop_zero, putAll]
          rw [e9]
          have HM := Lib.hid hM
          have c5x := hM.c5
          have f5x := hM.2.1.frozen 5
          clear hu e9 hM HI
          go_wp2_with fail
          have HF := HM.out.set5 (max mx y.time)
          go_roundw
          case rel => exact ⟨k + 1, by omega, by go_num, HF.1, by rw [HMN.out, HMX.out]; exact HF.2.1, HF.2.2.2.1⟩
          case measure => simp [intOf]; omega
    · obtain rfl : k = es.length := by omega
      have d0 := B0.out.cell 0
      have d1 := B0.out.cell 1
      have d2 := B0.out.cell 2
      have d3 := B0.out.cell 3
      have d4 := B0.out.cell 4
      have d5 := B0.out.cell 5
      have d6 := B0.out.cell 6
      have h0 := B0.out.frozen 0
      have h1 := B0.out.frozen 1
      have h2 := B0.out.frozen 2
      have h3 := B0.out.frozen 3
      have h4 := B0.out.frozen 4
      have h5 := B0.out.frozen 5
      have h6 := B0.out.frozen 6
      simp [siRow] at d0 d1 d2 d3 d4 d5 d6
      have hG2 := G.out
      rw [List.take_length] at c4 c5
      go_wp2_with fail
      have hb := ((((((B0.out.set_ 0 (.int .i64 0)).set_ 1 (.int .i64 level)).set_ 2 (.int .i64 tier)).set_ 3 (.int .i64 es.length)).set_ 4 (.int .i64 (minT es))).set_ 5 (.int .i64 (maxT es))).set_ 6 (.int .i64 size)
      have q0 := hb.cell 0; have q1 := hb.cell 1; have q2 := hb.cell 2; have q3 := hb.cell 3; have q4 := hb.cell 4; have q5 := hb.cell 5; have q6 := hb.cell 6
      simp [siRow] at q0 q1 q2 q3 q4 q5 q6
      exact bodyPost_ret (v := .agg (siRow 0 level tier es.length (minT es) (maxT es) size)) (by simp [results, Tryz.results12, go_sem, siRow, q0, q1, q2, q3, q4, q5, q6]) rfl ⟨rfl, only_setNew (only_setNew (only_setNew (only_setNew (only_setNew (only_setNew (only_setNew hG2 (by have := HR.out; simp; omega) _) (by have := HR.out; simp; omega) _) (by have := HR.out; simp; omega) _) (by have := HR.out; simp; omega) _) (by have := HR.out; simp; omega) _) (by have := HR.out; simp; omega) _) (by have := HR.out; simp; omega) _⟩
end Go.Proofs.YtfbkkbbpgipipaaGreatDoor
