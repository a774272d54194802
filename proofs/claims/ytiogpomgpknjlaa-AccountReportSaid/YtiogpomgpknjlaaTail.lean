/- The rest of a slice behind its first element. No condition. -/
import Derived.Test.YtiogpomgpknjlaaTalB
import Derived.Test.YtiogpomgpknjlaaItemR
namespace Go.Proofs.Ytiogpomgpknjlaa
open Go.RowKit
set_option linter.unusedVariables false
set_option linter.unusedSimpArgs false
def tailO (off z c : Nat) : Nat := if c = 1 then off else off + z
theorem run_tail (ρ : Operand → Value) (w : World) {o : Oper} {t e : TypeId} {z x b off n c : Nat} (ho : o.op = .slice t (.tmp x) (some (.const (.int .i64 1))) none none) (ht : Try.prog.underlying t = some (.slice e)) (hz : (Try.prog.info? e).map (·.size) = some z)
    (hc : ∀ v, ρ (.const v) = v) (hx : ρ (.tmp x) = .slice (some ⟨b, off, none⟩) (n + 1) c) (h1 : n + 1 ≤ c) : (execOp ρ o).run Try.prog w = .ok (.value (.slice (some ⟨b, tailO off z c, none⟩) n (c - 1))) w := by
  obtain ⟨i, hi, hiz⟩ : ∃ i, Try.prog.info? e = some i ∧ i.size = z := by
    cases h : Try.prog.info? e with
    | none => rw [h] at hz; cases hz
    | some i => rw [h] at hz; exact ⟨i, rfl, by simpa using hz⟩
  have hs : (sizeOf e).run Try.prog w = .ok z w := by simp [sizeOf, typeInfo, hi, hiz, Sem.run_bind, go_sem]
  have e3 : (1 : Int) ≤ (n : Int) + 1 := by omega
  by_cases h : c = 1
  · subst h
    obtain rfl : n = 0 := by omega
    simp [execOp, ho, hc, hx, go_sem, tailO, ht, hs]
  · have e0 : (0 : Int) ≤ (c : Int) - 1 := by omega
    have e1 : (1 : Int) ≤ (c : Int) := by omega
    have e2 : (n : Int) + 1 ≤ (c : Int) := by omega
    simp [execOp, ho, hc, hx, go_sem, tailO, ht, hs, h, e0, e1, e2, e3]
theorem wpList_tail {ops : Array Oper} {rest : List Oper} {o : Oper} {a : Act} {w : World} {Q : Exit → Act → World → Prop} (hgd : o.guard = none) {t e : TypeId} {z x b off n c : Nat} (ho : o.op = .slice t (.tmp x) (some (.const (.int .i64 1))) none none) (ht : Try.prog.underlying t = some (.slice e)) (hz : (Try.prog.info? e).map (·.size) = some z)
    (hx : a.eval (.tmp x) = .slice (some ⟨b, off, none⟩) (n + 1) c) (h1 : n + 1 ≤ c) (h : wpList Try.prog ops Q rest (a.put o.dst (.slice (some ⟨b, tailO off z c, none⟩) n (c - 1))) w) : wpList Try.prog ops Q (o :: rest) a w :=
  wpList_plain hgd fun K hK => by
    unfold Oper.wp
    rw [run_tail a.eval w ho ht hz (fun v => rfl) hx h1]
    exact hK _ _ h
theorem Rd.tailS {S : Nat → Prop} {w : World} {b off z n c : Nat} {x xs : List Value} (h : Rd S w (some ⟨b, off, none⟩) (x ++ xs)) (hx : x.length = z) (hl : xs.length = n * z) (h1 : n + 1 ≤ c) : Rd S w (some ⟨b, tailO off z c, none⟩) xs := by
  unfold tailO
  split
  · obtain rfl : n = 0 := by omega
    intro h0; rw [hl] at h0; omega
  · have := h.dropS z
    rw [List.drop_left' hx] at this
    exact this
end Go.Proofs.Ytiogpomgpknjlaa
