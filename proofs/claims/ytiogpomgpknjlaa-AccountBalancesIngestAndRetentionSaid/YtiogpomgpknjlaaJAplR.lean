/- What Apply of the reference of chapter 28 keeps from round to round. Conditions: sizes. -/
import Derived.Test.YtiogpomgpknjlaaJSet28
namespace Go.Proofs.Ytiogpomgpknjlaa
open Go.RowKit
set_option linter.unusedVariables false
set_option linter.unusedSimpArgs false

/-- blocks that the rounds leave alone -/
def Qs (S : Nat → Prop) (tb : Nat) (v : Value) (b : Nat) : Prop := S b ∧ b ≠ tb ∧ v.ownBlock ≠ some b
/-- the state between the rounds -/
structure ApR (S : Nat → Prop) (W1 : World) (tb : Nat) (host : Int) (n m T K : Nat) (v : Value) (w : World) (A : Option Addr) (ms : List MarkD) (c : Nat) (B : Option Addr) (us : List Tal) (d : Nat) (out : List Ev) : Prop where
  fr : W1.grownBy w (some tb)
  tl : tb < W1.heap.size
  hS : ∀ b, W1.heap.size ≤ b → S b
  tk : Blk w tb 39 #[.slice A ms.length c, .slice B us.length d]
  ink : Ink (Qs S tb v) w n m T A ms c B us d
  own : w.ownsRow W1.heap.size 75 10 v out.length (out.flatMap Ev.cells)
  ol : out.length ≤ K
  oe : ∀ e ∈ out, e.host = host ∧ EvC e ∧ e.lines.length ≤ 6 ∧ e.Sub (Qs S tb v) w
section
variable {S : Nat → Prop} {W1 : World} {tb : Nat} {host : Int} {n m T K : Nat} {v : Value} {w w' : World} {A : Option Addr} {ms : List MarkD} {c : Nat} {B : Option Addr} {us : List Tal} {d : Nat} {out : List Ev}
theorem ApR.tw (h : ApR S W1 tb host n m T K v w A ms c B us d out) : tb < w.heap.size := Nat.lt_of_lt_of_le h.tl h.fr.size
theorem ApR.new (h : ApR S W1 tb host n m T K v w A ms c B us d out) {b : Nat} (hb : w.heap.size ≤ b) : Qs S tb v b :=
  ⟨h.hS b (Nat.le_trans h.fr.size hb), fun e => by have := h.tw; omega, fun e => by have := (h.own.lt b e).2; omega⟩
theorem ApR.grown (h : ApR S W1 tb host n m T K v w A ms c B us d out) (hg : w.grownBy w' none) : ApR S W1 tb host n m T K v w' A ms c B us d out :=
  { h with fr := only_trans h.fr (only_of_none hg _), tk := h.tk.grown hg (by simp), ink := h.ink.grown hg (by simp)
           own := h.own.kept hg (by cases v.ownBlock with
             | none => exact .inl rfl
             | some _ => exact .inr (by simp))
           oe := fun e he => ⟨(h.oe e he).1, (h.oe e he).2.1, (h.oe e he).2.2.1, (h.oe e he).2.2.2.grown hg (by simp)⟩ }
theorem ApR.wide (h : ApR S W1 tb host n m T K v w A ms c B us d out) {n' m' T' K' : Nat} (h1 : n ≤ n') (h2 : m ≤ m') (h3 : T ≤ T') (h4 : K ≤ K') : ApR S W1 tb host n' m' T' K' v w A ms c B us d out :=
  { h with ink := h.ink.wide h1 h2 h3, ol := Nat.le_trans h.ol h4 }
theorem qs_tb {b : Nat} (h : Qs S tb v b) : some b ≠ some tb := fun e => h.2.1 (by injection e)
theorem ApR.nown (h : ApR S W1 tb host n m T K v w A ms c B us d out) : v.ownBlock ≠ some tb := blk_norow h.tk h.own (by decide)
/-- new tallies -/
theorem ApR.tal (h : ApR S W1 tb host n m T K v w A ms c B us d out) (x : Tal) (hx : 1 ≤ x.lines ∧ x.lines ≤ 6) (hg : w.grownBy w' none) {B' : Option Addr} {d' : Nat} (hd : (mrg us [x]).length ≤ d') (hdm : d' ≤ maxLen) (hr : Rd (w.heap.size ≤ ·) w' B' ((mrg us [x]).flatMap Tal.cells)) :
    ApR S W1 tb host n (m + 1) (T + 6) K v (w'.setCell ⟨tb, 1, none⟩ (.slice B' (mrg us [x]).length d')) A ms c B' (mrg us [x]) d' out := by
  have k := h.grown hg
  have hs : w'.grownBy (w'.setCell ⟨tb, 1, none⟩ (.slice B' (mrg us [x]).length d')) (some tb) := only_setCell (only_refl _ _) (p := ⟨tb, 1, none⟩) (.inl rfl) _
  have hi := (k.ink.tal x hx hd hdm (hr.mono (fun b hb _ => h.new hb))).grown hs (fun b hb => qs_tb hb)
  exact { k with fr := only_trans k.fr hs, tk := by simpa using k.tk.set_ 1 (.slice B' (mrg us [x]).length d'), ink := hi
                 own := k.own.kept hs (.inr h.nown)
                 oe := fun e he => ⟨(k.oe e he).1, (k.oe e he).2.1, (k.oe e he).2.2.1, (k.oe e he).2.2.2.grown hs (fun b hb => qs_tb hb)⟩ }
/-- new marks -/
theorem ApR.mark (h : ApR S W1 tb host n m T K v w A ms c B us d out) (hg : w.grownBy w' none) {A' : Option Addr} {ms' : List MarkD} {c' : Nat} (h1 : ms'.length ≤ ms.length + 1) (hd : ms'.length ≤ c') (hdm : c' ≤ maxLen) (hz : A' = none → c' = 0) (hr : Rd (w.heap.size ≤ ·) w' A' (ms'.flatMap MarkD.cells)) :
    ApR S W1 tb host (n + 1) m T K v (w'.setCell ⟨tb, 0, none⟩ (.slice A' ms'.length c')) A' ms' c' B us d out := by
  have k := h.grown hg
  have hs : w'.grownBy (w'.setCell ⟨tb, 0, none⟩ (.slice A' ms'.length c')) (some tb) := only_setCell (only_refl _ _) (p := ⟨tb, 0, none⟩) (.inl rfl) _
  have hi := (k.ink.mark h1 hd hdm hz (hr.mono (fun b hb _ => h.new hb))).grown hs (fun b hb => qs_tb hb)
  exact { k with fr := only_trans k.fr hs, tk := by simpa using k.tk.set_ 0 (.slice A' ms'.length c'), ink := hi
                 own := k.own.kept hs (.inr h.nown)
                 oe := fun e he => ⟨(k.oe e he).1, (k.oe e he).2.1, (k.oe e he).2.2.1, (k.oe e he).2.2.2.grown hs (fun b hb => qs_tb hb)⟩ }
theorem qs_next {v' : Value} {N : Nat} (hob : v'.ownBlock = v.ownBlock ∨ v'.ownBlock = some N) {b : Nat} (hb : Qs S tb v b) (hl : b < N) : Qs S tb v' b :=
  ⟨hb.1, hb.2.1, fun e => by
    rcases hob with h | h
    · exact hb.2.2 (by rw [← h]; exact e)
    · rw [h] at e; injection e with e; omega⟩
/-- one more event -/
theorem ApR.app (h : ApR S W1 tb host n m T K v w A ms c B us d out) {x : Ev} (hx : x.host = host ∧ EvC x ∧ x.lines.length ≤ 6 ∧ x.Sub (Qs S tb v) w) {v' : Value}
    (ho : w'.ownsRow W1.heap.size 75 10 v' (out.length + 1) (out.flatMap Ev.cells ++ x.cells.toArray.toList)) (hg : w.grownBy w' v.ownBlock) (hob : v'.ownBlock = v.ownBlock ∨ v'.ownBlock = some (w.heap.size + 1)) :
    ApR S W1 tb host n m T (K + 1) v' w' A ms c B us d (out ++ [x]) := by
  have hq : ∀ b, Qs S tb v b → some b ≠ v.ownBlock := fun b hb e => hb.2.2 e.symm
  have nx : ∀ b, Qs S tb v b → b < w.heap.size → Qs S tb v' b := fun b hb hl => qs_next hob hb (by omega)
  have hi := (h.ink.mono (S' := fun b => Qs S tb v b ∧ Qs S tb v' b) (fun b hb hl => ⟨hb, nx b hb hl⟩)).grown hg (fun b hb => hq b hb.1)
  have he : ∀ e : Ev, e.Sub (Qs S tb v) w → e.Sub (Qs S tb v') w' := fun e hs =>
    ((hs.mono (S' := fun b => Qs S tb v b ∧ Qs S tb v' b) (fun b hb hl => ⟨hb, nx b hb hl⟩)).grown hg (fun b hb => hq b hb.1)).mono (fun b hb _ => hb.2)
  have hfr : W1.grownBy w' (some tb) := only_own h.fr hg h.own (Nat.le_refl _)
  refine ⟨hfr, h.tl, h.hS, h.tk.grown hg (fun e => h.nown e.symm), hi.mono (fun b hb _ => hb.2), by simpa using ho, by have := h.ol; simp; omega, ?_⟩
  refine mem_snoc (fun e hm => ?_) ⟨hx.1, hx.2.1, hx.2.2.1, he x hx.2.2.2⟩
  exact ⟨(h.oe e hm).1, (h.oe e hm).2.1, (h.oe e hm).2.2.1, he e (h.oe e hm).2.2.2⟩
end
/-- what Apply gives -/
def AplP (S : Nat → Prop) (host : Int) (n m T k : Nat) (us : List Tal) (w : World) (e : Ending) (w' : World) : Prop :=
  ∃ (A' : Option Addr) (ms' : List MarkD) (c' : Nat) (B' : Option Addr) (us' : List Tal) (d' : Nat) (O : Option Addr) (out : List Ev) (oc : Nat) (r : Int),
    e = .returned (.tuple #[.agg #[.slice A' ms'.length c', .slice B' us'.length d'], .slice O out.length oc, .int .i64 r]) ∧ Ink S w' (n + k) (m + 2 * k) (T + 12 * k) A' ms' c' B' us' d' ∧
    Rd S w' O (out.flatMap Ev.cells) ∧ out.length ≤ k ∧ out.length ≤ oc ∧ oc ≤ maxLen ∧ (∀ e ∈ out, e.host = host ∧ EvC e ∧ e.lines.length ≤ 6 ∧ e.Sub S w') ∧
    (∀ h, sumP p2 h us' = sumP p2 h us + cntE h out) ∧ w.grownBy w' none
end Go.Proofs.Ytiogpomgpknjlaa
