/- Events, lines, fields and items as plain data, and how they lie in memory. No condition. -/
import Derived.Test.YtphglalphejppaaDraw
namespace Go.Proofs.Ytphglalphejppaa
open Go.RowKit
set_option linter.unusedVariables false
set_option linter.unusedSimpArgs false

structure LineD where
  off : Int
  len : Int
  text : ByteArray
structure FieldD where
  name : ByteArray
  value : ByteArray
def LineD.cells (x : LineD) : List Value := [.int .i64 x.off, .int .i64 x.len, .string x.text]
def FieldD.cells (x : FieldD) : List Value := [.string x.name, .string x.value]
/-- an event, with the places of its lines and fields -/
structure Ev where
  host : Int
  file : Int
  beg : Int
  fin : Int
  lines : List LineD
  time : Int
  weight : Int
  trace : ByteArray
  stream : ByteArray
  fields : List FieldD
  la : Option Addr
  lc : Nat
  fa : Option Addr
  fc : Nat
def Ev.cells (e : Ev) : List Value :=
  [.int .i64 e.host, .int .i64 e.file, .int .i64 e.beg, .int .i64 e.fin, .slice e.la e.lines.length e.lc, .int .i64 e.time, .int .i64 e.weight, .string e.trace, .string e.stream, .slice e.fa e.fields.length e.fc]
structure It where
  rule : ByteArray
  ev : Ev
def It.cells (x : It) : List Value := .string x.rule :: x.ev.cells

def Ev.Sub (S : Nat → Prop) (w : World) (e : Ev) : Prop :=
  Rd S w e.la (e.lines.flatMap LineD.cells) ∧ Rd S w e.fa (e.fields.flatMap FieldD.cells) ∧ e.lines.length ≤ e.lc ∧ e.lc ≤ maxLen ∧ e.fields.length ≤ e.fc ∧ e.fc ≤ maxLen
theorem Ev.Sub.grown {S : Nat → Prop} {w w' : World} {e : Ev} {row : Option Nat} (h : e.Sub S w) (hg : w.grownBy w' row) (hr : ∀ b, S b → some b ≠ row) : e.Sub S w' :=
  ⟨h.1.grown hg hr, h.2.1.grown hg hr, h.2.2⟩
theorem Ev.Sub.mono {S S' : Nat → Prop} {w : World} {e : Ev} (h : e.Sub S w) (hS : ∀ b, S b → b < w.heap.size → S' b) : e.Sub S' w := ⟨h.1.mono hS, h.2.1.mono hS, h.2.2⟩
theorem Ev.Sub.drewN {S : Nat → Prop} {w : World} {e : Ev} (h : e.Sub S w) (n : Nat) : e.Sub S (w.drewN n) := h

/-- a slice of events -/
def Evs (S : Nat → Prop) (w : World) (A : Option Addr) (es : List Ev) : Prop := Rd S w A (es.flatMap Ev.cells) ∧ ∀ e ∈ es, e.Sub S w
theorem Evs.grown {S : Nat → Prop} {w w' : World} {A : Option Addr} {es : List Ev} {row : Option Nat} (h : Evs S w A es) (hg : w.grownBy w' row) (hr : ∀ b, S b → some b ≠ row) : Evs S w' A es :=
  ⟨h.1.grown hg hr, fun e he => (h.2 e he).grown hg hr⟩
theorem Evs.mono {S S' : Nat → Prop} {w : World} {A : Option Addr} {es : List Ev} (h : Evs S w A es) (hS : ∀ b, S b → b < w.heap.size → S' b) : Evs S' w A es :=
  ⟨h.1.mono hS, fun e he => (h.2 e he).mono hS⟩
theorem Evs.drewN {S : Nat → Prop} {w : World} {A : Option Addr} {es : List Ev} (h : Evs S w A es) (n : Nat) : Evs S (w.drewN n) A es := h

theorem flat_at {α : Type} (f : α → List Value) (z : Nat) (hf : ∀ x, (f x).length = z) (l : List α) : ∀ (i j : Nat) (hi : i < l.length), j < z → (l.flatMap f)[i * z + j]? = (f l[i])[j]? := by
  induction l with
  | nil => intro i j hi; simp at hi
  | cons x l ih =>
    intro i j hi hj
    rw [List.flatMap_cons]
    cases i with
    | zero => rw [List.getElem?_append_left (by rw [hf]; omega)]; simp
    | succ i =>
      rw [List.getElem?_append_right (by rw [hf, Nat.add_mul]; omega), hf]
      have : (i + 1) * z + j - z = i * z + j := by rw [Nat.add_mul]; omega
      rw [this]
      exact ih i j (by simpa using hi) hj
theorem flat_len {α : Type} (f : α → List Value) (z : Nat) (hf : ∀ x, (f x).length = z) (l : List α) : (l.flatMap f).length = l.length * z := by
  induction l with
  | nil => simp
  | cons x l ih => rw [List.flatMap_cons, List.length_append, hf, ih, List.length_cons, Nat.add_mul]; omega
theorem flat_take {α : Type} {f : α → List Value} {z : Nat} (hf : ∀ x, (f x).length = z) (l : List α) (n : Nat) : (l.take n).flatMap f = (l.flatMap f).take (n * z) := by
  induction l generalizing n with
  | nil => simp
  | cons x l ih =>
    cases n with
    | zero => simp
    | succ n =>
      have h1 : (f x).take ((n + 1) * z) = f x := List.take_of_length_le (by rw [hf, Nat.add_mul]; omega)
      have h2 : (n + 1) * z - (f x).length = n * z := by rw [hf, Nat.add_mul]; omega
      rw [List.take_succ_cons, List.flatMap_cons, List.flatMap_cons, ih, List.take_append, h1, h2]
theorem flat_drop {α : Type} {f : α → List Value} {z : Nat} (hf : ∀ x, (f x).length = z) (l : List α) (n : Nat) : (l.drop n).flatMap f = (l.flatMap f).drop (n * z) := by
  induction l generalizing n with
  | nil => simp
  | cons x l ih =>
    cases n with
    | zero => simp
    | succ n =>
      have h1 : (f x).drop ((n + 1) * z) = [] := List.drop_of_length_le (by rw [hf, Nat.add_mul]; omega)
      have h2 : (n + 1) * z - (f x).length = n * z := by rw [hf, Nat.add_mul]; omega
      rw [List.drop_succ_cons, List.flatMap_cons, ih, List.drop_append, h1, h2, List.nil_append]
theorem flat_set {α : Type} {f : α → List Value} {z : Nat} (hf : ∀ x, (f x).length = z) (l : List α) : ∀ (i j : Nat) (hi : i < l.length) (y : α) (u : Value), j < z → (f l[i]).set j u = f y → (l.flatMap f).set (i * z + j) u = (l.set i y).flatMap f := by
  induction l with
  | nil => intro i j hi; simp at hi
  | cons x l ih =>
    intro i j hi y u hj h
    cases i with
    | zero =>
      simp only [List.getElem_cons_zero] at h
      rw [List.flatMap_cons, List.set_cons_zero, List.flatMap_cons, List.set_append, if_pos (by rw [hf]; omega)]
      rw [Nat.zero_mul, Nat.zero_add, h]
    | succ i =>
      rw [List.flatMap_cons, List.set_cons_succ, List.flatMap_cons, List.set_append, if_neg (by rw [hf, Nat.add_mul]; omega)]
      have e : (i + 1) * z + j - (f x).length = i * z + j := by rw [hf, Nat.add_mul]; omega
      rw [e, ih i j (by simpa using hi) y u hj (by simpa using h)]
theorem Ev.cells_len (e : Ev) : e.cells.length = 10 := rfl
theorem It.cells_len (e : It) : e.cells.length = 11 := rfl
theorem LineD.cells_len (e : LineD) : e.cells.length = 3 := rfl
theorem FieldD.cells_len (e : FieldD) : e.cells.length = 2 := rfl

/-- lines that follow each other from one place of a file to another -/
def Chain : Int → List LineD → Int → Prop
  | a, [], b => a = b
  | a, x :: xs, b => x.off = a ∧ x.text.size + 1 ≤ x.len ∧ x.len ≤ 60 ∧ Chain (a + x.len) xs b
theorem Chain.snoc {a b : Int} {xs : List LineD} (h : Chain a xs b) (x : LineD) (h1 : x.off = b) (h2 : x.text.size + 1 ≤ x.len) (h3 : x.len ≤ 60) : Chain a (xs ++ [x]) (b + x.len) := by
  induction xs generalizing a with
  | nil => simp only [Chain] at h; subst h; exact ⟨h1, h2, h3, rfl⟩
  | cons y ys ih => exact ⟨h.1, h.2.1, h.2.2.1, ih h.2.2.2⟩
theorem Chain.le {a b : Int} {xs : List LineD} (h : Chain a xs b) : a + xs.length ≤ b ∧ b ≤ a + 60 * xs.length := by
  induction xs generalizing a with
  | nil => simp only [Chain] at h; simp; omega
  | cons y ys ih => have := ih h.2.2.2; have := h.2.1; have := h.2.2.1; simp; omega
end Go.Proofs.Ytphglalphejppaa
