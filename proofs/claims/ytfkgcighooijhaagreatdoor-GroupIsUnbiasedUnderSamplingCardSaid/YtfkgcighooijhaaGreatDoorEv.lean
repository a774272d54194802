/- Events, lines, fields and items as plain data, and how they lie in memory. No condition. -/
import Derived.Test.YtfkgcighooijhaaGreatDoorFlat
namespace Go.Proofs.YtfkgcighooijhaaGreatDoor
open Go.RowKit
set_option linter.unusedVariables false
set_option linter.unusedSimpArgs false

structure LineD where
  off : Int
  len : Int
  text : ByteArray
structure FieldD where
  name : ByteArray
  value : ByteArray
def LineD.cells (x : LineD) : List Value := [.int .i64 x.off, .int .i64 x.len, .string x.text]
def FieldD.cells (x : FieldD) : List Value := [.string x.name, .string x.value]
/-- an event, with the places of its lines and fields -/
structure Ev where
  host : Int
  file : Int
  beg : Int
  fin : Int
  lines : List LineD
  time : Int
  weight : Int
  trace : ByteArray
  stream : ByteArray
  fields : List FieldD
  la : Option Addr
  lc : Nat
  fa : Option Addr
  fc : Nat
def Ev.cells (e : Ev) : List Value :=
  [.int .i64 e.host, .int .i64 e.file, .int .i64 e.beg, .int .i64 e.fin, .slice e.la e.lines.length e.lc, .int .i64 e.time, .int .i64 e.weight, .string e.trace, .string e.stream, .slice e.fa e.fields.length e.fc]
structure It where
  rule : ByteArray
  ev : Ev
def It.cells (x : It) : List Value := .string x.rule :: x.ev.cells

def Ev.Sub (S : Nat → Prop) (w : World) (e : Ev) : Prop :=
  Rd S w e.la (e.lines.flatMap LineD.cells) ∧ Rd S w e.fa (e.fields.flatMap FieldD.cells) ∧ e.lines.length ≤ e.lc ∧ e.lc ≤ maxLen ∧ e.fields.length ≤ e.fc ∧ e.fc ≤ maxLen
theorem Ev.Sub.grown {S : Nat → Prop} {w w' : World} {e : Ev} {row : Option Nat} (h : e.Sub S w) (hg : w.grownBy w' row) (hr : ∀ b, S b → some b ≠ row) : e.Sub S w' :=
  ⟨h.1.grown hg hr, h.2.1.grown hg hr, h.2.2⟩
theorem Ev.Sub.mono {S S' : Nat → Prop} {w : World} {e : Ev} (h : e.Sub S w) (hS : ∀ b, S b → b < w.heap.size → S' b) : e.Sub S' w := ⟨h.1.mono hS, h.2.1.mono hS, h.2.2⟩
theorem Ev.Sub.drewN {S : Nat → Prop} {w : World} {e : Ev} (h : e.Sub S w) (n : Nat) : e.Sub S (w.drewN n) := h

/-- a slice of events -/
def Evs (S : Nat → Prop) (w : World) (A : Option Addr) (es : List Ev) : Prop := Rd S w A (es.flatMap Ev.cells) ∧ ∀ e ∈ es, e.Sub S w
theorem Evs.grown {S : Nat → Prop} {w w' : World} {A : Option Addr} {es : List Ev} {row : Option Nat} (h : Evs S w A es) (hg : w.grownBy w' row) (hr : ∀ b, S b → some b ≠ row) : Evs S w' A es :=
  ⟨h.1.grown hg hr, fun e he => (h.2 e he).grown hg hr⟩
theorem Evs.mono {S S' : Nat → Prop} {w : World} {A : Option Addr} {es : List Ev} (h : Evs S w A es) (hS : ∀ b, S b → b < w.heap.size → S' b) : Evs S' w A es :=
  ⟨h.1.mono hS, fun e he => (h.2 e he).mono hS⟩
theorem Evs.drewN {S : Nat → Prop} {w : World} {A : Option Addr} {es : List Ev} (h : Evs S w A es) (n : Nat) : Evs S (w.drewN n) A es := h

theorem Ev.cells_len (e : Ev) : e.cells.length = 10 := rfl
theorem It.cells_len (e : It) : e.cells.length = 11 := rfl
theorem LineD.cells_len (e : LineD) : e.cells.length = 3 := rfl
theorem FieldD.cells_len (e : FieldD) : e.cells.length = 2 := rfl

/-- lines that follow each other from one place of a file to another -/
def Chain : Int → List LineD → Int → Prop
  | a, [], b => a = b
  | a, x :: xs, b => x.off = a ∧ x.text.size + 1 ≤ x.len ∧ x.len ≤ 60 ∧ Chain (a + x.len) xs b
theorem Chain.snoc {a b : Int} {xs : List LineD} (h : Chain a xs b) (x : LineD) (h1 : x.off = b) (h2 : x.text.size + 1 ≤ x.len) (h3 : x.len ≤ 60) : Chain a (xs ++ [x]) (b + x.len) := by
  induction xs generalizing a with
  | nil => simp only [Chain] at h; subst h; exact ⟨h1, h2, h3, rfl⟩
  | cons y ys ih => exact ⟨h.1, h.2.1, h.2.2.1, ih h.2.2.2⟩
theorem Chain.le {a b : Int} {xs : List LineD} (h : Chain a xs b) : a + xs.length ≤ b ∧ b ≤ a + 60 * xs.length := by
  induction xs generalizing a with
  | nil => simp only [Chain] at h; simp; omega
  | cons y ys ih => have := ih h.2.2.2; have := h.2.1; have := h.2.2.1; simp; omega
end Go.Proofs.YtfkgcighooijhaaGreatDoor
