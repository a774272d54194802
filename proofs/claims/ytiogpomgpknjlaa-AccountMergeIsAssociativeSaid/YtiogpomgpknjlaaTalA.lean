/- Add and SameTallies of the reference of chapter 28. No condition. -/
import Derived.Test.YtiogpomgpknjlaaTal
import Derived.Test.YtiogpomgpknjlaaDraw
import Derived.Test.YtiogpomgpknjlaaInsert
import Derived.Test.YtiogpomgpknjlaaSame0
import Derived.ArgAppend
import Derived.Deep.DeepMust
namespace Go.Proofs.Ytiogpomgpknjlaa
open Go.RowKit
set_option linter.unusedVariables false
set_option linter.unusedSimpArgs false

theorem talInfo : (Try.prog.info? 62).map (fun i => (i.zero, i.size, i.bytes)) = some (some (.agg #[.int .i64 0, .string ⟨#[]⟩, .int .i64 0]), 3, 32) := by kernel_rfl
theorem tflat_at {l : List Tal} {i : Nat} {t : Tal} (h : l[i]? = some t) (j : Nat) (hj : j < 3) : (l.flatMap Tal.cells)[i * 3 + j]? = t.cells[j]? := by
  have hi : i < l.length := by
    rcases Nat.lt_or_ge i l.length with h' | h'
    · exact h'
    · rw [List.getElem?_eq_none h'] at h; cases h
  rw [flat_at Tal.cells 3 Tal.cells_len l i j hi hj]
  rw [List.getElem?_eq_getElem hi] at h
  injection h with h
  rw [h]
theorem tflat_len (l : List Tal) : (l.flatMap Tal.cells).length = l.length * 3 := flat_len _ 3 Tal.cells_len l
theorem tflat_take (l : List Tal) (n : Nat) : (l.take n).flatMap Tal.cells = (l.flatMap Tal.cells).take (n * 3) := flat_take Tal.cells_len l n
theorem tflat_drop (l : List Tal) (n : Nat) : (l.drop n).flatMap Tal.cells = (l.flatMap Tal.cells).drop (n * 3) := flat_drop Tal.cells_len l n
theorem tflat_one (l : List Tal) : ∀ u ∈ l.flatMap Tal.cells, u.oneCell' = true := flat_one Tal.one l
theorem Rd.tal {S : Nat → Prop} {w : World} {A : Option Addr} {l : List Tal} (h : Rd S w A (l.flatMap Tal.cells)) {i : Nat} {t : Tal} (ht : l[i]? = some t) :
    ∃ b off, A = some ⟨b, off, none⟩ ∧ w.cell? ⟨b, off + i * 3, none⟩ = some (.int .i64 t.host) ∧ w.cell? ⟨b, off + i * 3 + 1, none⟩ = some (.string t.rule) ∧ w.cell? ⟨b, off + i * 3 + 2, none⟩ = some (.int .i64 t.lines) := by
  have hi : i < l.length := by
    rcases Nat.lt_or_ge i l.length with h | h
    · exact h
    · rw [List.getElem?_eq_none h] at ht; cases ht
  obtain ⟨b, off, e, _, _, hc⟩ := h (by rw [tflat_len]; omega)
  refine ⟨b, off, e, hc _ _ (tflat_at ht 0 (by omega)), ?_, ?_⟩
  · rw [Nat.add_assoc]; exact hc _ _ (tflat_at ht 1 (by omega))
  · rw [Nat.add_assoc]; exact hc _ _ (tflat_at ht 2 (by omega))
def TalsPost (w : World) (l : List Tal) (e : Ending) (w' : World) : Prop :=
  ∃ (A : Option Addr) (c : Nat), e = .returned (.slice A l.length c) ∧ l.length ≤ c ∧ c ≤ maxLen ∧ Rd (w.heap.size ≤ ·) w' A (l.flatMap Tal.cells) ∧ w.grownBy w' none

set_option maxHeartbeats 2000000 in
theorem sametal_any {S S' : Nat → Prop} (A B : Option Addr) (a b : List Tal) (c d : Nat) (w : World) (ha : Rd S w A (a.flatMap Tal.cells)) (hb : Rd S' w B (b.flatMap Tal.cells)) (hl : a.length ≤ 1000000) (hab : a = b) :
    Calls Try.prog 10 #[.slice A a.length c, .slice B b.length d] w (Quiet (.bool true) w) := by
  subst hab
  have HA := Lib.hid ha
  have HB := Lib.hid hb
  clear ha hb
  go_enter Try.func10, Try.ntmps10
  go_wp2
  go_loopw [5] (fun i wr => ∃ k : Nat, k ≤ a.length ∧ i = .int .i64 k ∧ ∃ q, wr = w.drewN q) (fun i _ => a.length - (intOf i).toNat)
  case atStart => exact ⟨0, Nat.zero_le _, rfl, 0, rfl⟩
  case round =>
    obtain ⟨k, hk, rfl, q, rfl⟩ := hrel
    by_cases hlt : k < a.length
    · obtain ⟨t, ht⟩ : ∃ t, a[k]? = some t := ⟨_, List.getElem?_eq_getElem hlt⟩
      obtain ⟨b1, o1, rfl, x0, x1, x2⟩ := HA.out.tal ht
      obtain ⟨b2, o2, rfl, y0, y1, y2⟩ := HB.out.tal ht
      have i1 : (k : Int) < (a.length : Int) := by omega
      have i0 : (0 : Int) ≤ (k : Int) := by omega
      clear ht
      go_wp2
      go_quiet (fail)
      go_wp2
      go_roundw
      case rel => exact ⟨k + 1, by omega, by go_num, _, rfl⟩
      case measure => simp [intOf]; omega
    · go_wp2
      go_ret
      exact ⟨rfl, _, rfl⟩
end Go.Proofs.Ytiogpomgpknjlaa
