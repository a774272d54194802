/- Sorting and compacting a row of strings of the call's own (seat of part 36). Condition: sizes. -/
import Derived.Test.YtfkgcighooijhaaGreatDoorShelf36
import Derived.Test.YtfkgcighooijhaaGreatDoorSorted
import Derived.Test.YtfkgcighooijhaaGreatDoorJGrpP
import Derived.Sort.OwnSorted
import Derived.Lib.RowBridge
namespace Go.Proofs.YtfkgcighooijhaaGreatDoor
open Go.RowKit
set_option linter.unusedVariables false
set_option linter.unusedSimpArgs false

theorem strEnc (ws : List ByteArray) : (ws.map ofB).map encStr = ws.map .string := by
  rw [List.map_map]
  apply List.map_congr_left
  intro s _
  show Value.string ⟨(ofB s).toArray⟩ = Value.string s
  exact congrArg Value.string (toB_ofB s)
theorem encStrB (ls : List (List UInt8)) : ls.map encStr = (ls.map toB).map .string := by
  rw [List.map_map]; rfl
def SSPost (w : World) (base : Nat) (v : Value) (ls : List (List UInt8)) (e : Ending) (w' : World) : Prop :=
  e = .returned (.tuple #[]) ∧ w'.ownsRow base 9 1 v ls.length (ls.map encStr) ∧ w.grownBy w' v.ownBlock
theorem sort_ownS (base : Nat) (v : Value) (ws : List ByteArray) (w : World) (h : w.ownsRow base 9 1 v ws.length (ws.map .string)) (hl : ws.length ≤ 1000000) :
    Calls Tryz.prog 92 #[v] w (SSPost w base v (sorted (ws.map ofB))) := by
  have hsl : (sorted (ws.map ofB)).length = ws.length := by rw [sorted_len, List.length_map]
  rcases h.2 with ⟨rfl, hz⟩ | ⟨g, cap, cur, rfl, hge, hb, h1, h2, h3, h4⟩
  · have h0 : ws = [] := List.eq_nil_of_length_eq_zero hz
    subst h0
    refine (Tryz.slices_Sort_string_none none 0 w).mono ?_
    rintro e w2 ⟨rfl, rfl⟩
    have e : sorted (([] : List ByteArray).map ofB) = [] := List.eq_nil_of_length_eq_zero hsl
    rw [e]
    exact ⟨rfl, h, only_refl _ _⟩
  · have h4' : cur.toList.take (ws.map ofB).length = (ws.map ofB).map encStr := by rw [List.length_map, strEnc]; simpa using h4
    have hH := holds_of_block hb h4'
    have hgl : g < w.heap.size := (Array.getElem?_eq_some_iff.1 hb).1
    have c1 := Tryz.slices_Sort_string g 0 cap (ws.map ofB) w hH hgl (by rw [List.length_map]; omega)
    rw [List.length_map] at c1
    refine c1.mono ?_
    rintro e w2 ⟨rfl, n, os, rfl⟩
    have HO2 := ownsRow_sorted (os := os) (n := n) (ts := sorted (ws.map ofB)) (ss := ws.map ofB) (by rw [hsl, List.length_map]) hge hb (by rw [List.length_map]; exact h1) h2 h3
    have HG2 := grownBy_sorted (w := w) (g := g) (n := n) (os := os) (sorted (ws.map ofB)).toArray
    rw [List.length_map] at HO2
    refine ⟨rfl, ?_, HG2⟩
    rw [hsl]
    exact HO2
def CSPost (w : World) (base : Nat) (row : Option Nat) (ls : List (List UInt8)) (e : Ending) (w' : World) : Prop :=
  ∃ A c, e = .returned (.slice A ls.length c) ∧ ls.length ≤ c ∧ c ≤ maxLen ∧ Rd (base ≤ ·) w' A (ls.map encStr) ∧ w.grownBy w' row
theorem comp_ownS (base : Nat) (v : Value) (ls : List (List UInt8)) (w : World) (h : w.ownsRow base 9 1 v ls.length (ls.map encStr)) (hl : ls.length ≤ 1000000) :
    Calls Tryz.prog 93 #[v] w (CSPost w base v.ownBlock (Lib.compact ls)) := by
  have hcl := Lib.compact_length_le ls
  rcases h.2 with ⟨rfl, hz⟩ | ⟨g, cap, cur, rfl, hge, hb, h1, h2, h3, h4⟩
  · have h0 : ls = [] := List.eq_nil_of_length_eq_zero hz
    subst h0
    refine (Tryz.slices_Compact_string_empty none 0 w).mono ?_
    rintro e w2 ⟨rfl, rfl⟩
    exact ⟨none, 0, rfl, Nat.le_refl _, by unfold maxLen; omega, Rd.nil, only_refl _ _⟩
  · have h4' : cur.toList.take ls.length = ls.map encStr := by simpa using h4
    have hH := holds_of_block hb h4'
    refine (Tryz.slices_Compact_string g 0 cap ls w hH (by omega) (by omega)).mono ?_
    rintro e w2 ⟨rfl, n, hw2⟩
    obtain ⟨ts, hts⟩ : ∃ ts, ts = Lib.compact ls ++ List.replicate (ls.length - (Lib.compact ls).length) ([] : List UInt8) := ⟨_, rfl⟩
    have hsl : ts.length = ls.length := by rw [hts]; simp; omega
    rw [← hts] at hw2
    have hw2 : w2 = Go.Sort.grow (Go.Sort.putRow encStr (Go.Sort.ahead w n) g 0 ts.toArray) #[] := by rw [Go.Sort.grow_empty]; exact hw2
    have HO2 := ownsRow_sorted (os := #[]) (n := n) (ts := ts) (ss := ls) hsl hge hb h1 h2 h3
    have HG2 := grownBy_sorted (w := w) (g := g) (n := n) (os := #[]) ts.toArray
    rw [← hw2] at HO2 HG2
    obtain ⟨A9, c9, e9, hc9, hm9, -, hr9⟩ := Rd.of_own HO2 (by decide)
    injection e9 with e91 e92 e93
    subst e91 e93
    refine ⟨_, _, rfl, by omega, hm9, ?_, HG2⟩
    have := hr9.take (Lib.compact ls).length
    rw [← List.map_take, hts, List.take_left' rfl] at this
    exact this
end Go.Proofs.YtfkgcighooijhaaGreatDoor
