/- Marks, entries of segments, manifests as plain data. No condition. -/
import Derived.Test.YtganfhmjklcchaaTalC
import Derived.Test.YtganfhmjklcchaaDrawTime
import Derived.Test.YtganfhmjklcchaaApart
namespace Go.Proofs.Ytganfhmjklcchaa
open Go.RowKit
set_option linter.unusedVariables false
set_option linter.unusedSimpArgs false

structure MarkD where
  host : Int
  file : Int
  off : Int
def MarkD.cells (x : MarkD) : List Value := [.int .i64 x.host, .int .i64 x.file, .int .i64 x.off]
theorem MarkD.cells_len (x : MarkD) : x.cells.length = 3 := rfl
theorem MarkD.one (x : MarkD) : ∀ u ∈ x.cells, u.oneCell' = true := by simp [MarkD.cells, Value.oneCell']
structure SegD where
  id : Int
  level : Int
  tier : Int
  count : Int
  min : Int
  max : Int
  size : Int
def SegD.cells (x : SegD) : List Value := [.int .i64 x.id, .int .i64 x.level, .int .i64 x.tier, .int .i64 x.count, .int .i64 x.min, .int .i64 x.max, .int .i64 x.size]
theorem SegD.cells_len (x : SegD) : x.cells.length = 7 := rfl
theorem SegD.one (x : SegD) : ∀ u ∈ x.cells, u.oneCell' = true := by simp [SegD.cells, Value.oneCell']
theorem markInfo : (Try.prog.info? 70).map (fun i => (i.zero, i.size, i.bytes)) = some (some (.agg #[.int .i64 0, .int .i64 0, .int .i64 0]), 3, 24) := by kernel_rfl
theorem segInfo : (Try.prog.info? 38).map (fun i => (i.zero, i.size, i.bytes)) = some (some (.agg #[.int .i64 0, .int .i64 0, .int .i64 0, .int .i64 0, .int .i64 0, .int .i64 0, .int .i64 0]), 7, 56) := by kernel_rfl
def Mlt (a b : MarkD) : Prop := a.host < b.host ∨ (a.host = b.host ∧ a.file < b.file)
/-- marks drawn so far: all ahead of (host, file) -/
def MarksOk (ms : List MarkD) (host file : Int) : Prop := ms.Pairwise Mlt ∧ ∀ x ∈ ms, (x.host < host ∨ (x.host = host ∧ x.file < file)) ∧ 1 ≤ x.host ∧ 0 ≤ x.file ∧ 0 ≤ x.off
theorem MarksOk.turn {ms : List MarkD} {h f h' f' : Int} (k : MarksOk ms h f) (hl : h < h' ∨ (h = h' ∧ f ≤ f')) : MarksOk ms h' f' := ⟨k.1, fun x hx => by
  obtain ⟨a, b⟩ := k.2 x hx
  exact ⟨by omega, b⟩⟩
theorem MarksOk.snoc {ms : List MarkD} {h f : Int} (k : MarksOk ms h f) {v : Int} (h1 : 1 ≤ h) (h2 : 0 ≤ f) (h3 : 0 ≤ v) : MarksOk (ms ++ [⟨h, f, v⟩]) h (f + 1) := by
  refine ⟨List.pairwise_append.2 ⟨k.1, List.pairwise_singleton _ _, fun a ha b hb => ?_⟩, fun x hx => ?_⟩
  · rw [List.mem_singleton.1 hb]; exact (k.2 a ha).1
  · rcases List.mem_append.1 hx with hx | hx
    · obtain ⟨a, b⟩ := k.2 x hx; exact ⟨by omega, b⟩
    · rw [List.mem_singleton.1 hx]; exact ⟨.inr ⟨rfl, by show f < f + 1; omega⟩, h1, h2, h3⟩
def IntakePost (w : World) (g : Nat) (l : List Int) (e : Ending) (w' : World) : Prop :=
  ∃ (A B : Option Addr) (c d : Nat) (ms : List MarkD) (ts : List Tal) (k : Nat), e = .returned (.agg #[.slice A ms.length c, .slice B ts.length d]) ∧ ms.length ≤ 100 ∧ ms.length ≤ c ∧ c ≤ maxLen ∧ MarksOk ms 3 0 ∧ Rd (w.heap.size ≤ ·) w' A (ms.flatMap MarkD.cells) ∧
    ts.length ≤ d ∧ d ≤ maxLen ∧ ts.length ≤ 4 ∧ TSrt ts ∧ Rd (w.heap.size ≤ ·) w' B (ts.flatMap Tal.cells) ∧ CodesAt w' g l k ∧ w.grownBy w' (some g)
end Go.Proofs.Ytganfhmjklcchaa
