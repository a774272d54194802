/- The rest of a slice from an element on. No condition. -/
import Derived.Test.YtiogpomgpknjlaaTailG
namespace Go.Proofs.Ytiogpomgpknjlaa
open Go.RowKit
set_option linter.unusedVariables false
set_option linter.unusedSimpArgs false

def cutG (off z c k : Nat) : Nat := if c = k then off else off + k * z
theorem run_cutG (ρ : Operand → Value) (w : World) {o : Oper} {t e : TypeId} {z x y b off n c k : Nat} (ho : o.op = .slice t (.tmp x) (some (.tmp y)) none none) (ht : Try.prog.underlying t = some (.slice e)) (hz : (Try.prog.info? e).map (·.size) = some z)
    (hx : ρ (.tmp x) = .slice (some ⟨b, off, none⟩) n c) (hy : ρ (.tmp y) = .int .i64 k) (h1 : n ≤ c) (hk : k ≤ n) : (execOp ρ o).run Try.prog w = .ok (.value (.slice (some ⟨b, cutG off z c k, none⟩) (n - k) (c - k))) w := by
  obtain ⟨i, hi, hiz⟩ : ∃ i, Try.prog.info? e = some i ∧ i.size = z := by
    cases h : Try.prog.info? e with
    | none => rw [h] at hz; cases hz
    | some i => rw [h] at hz; exact ⟨i, rfl, by simpa using hz⟩
  have hs : (sizeOf e).run Try.prog w = .ok z w := by simp [sizeOf, typeInfo, hi, hiz, Sem.run_bind, go_sem]
  have e3 : (k : Int) ≤ (n : Int) := by omega
  have e2 : (n : Int) ≤ (c : Int) := by omega
  have e4 : (k : Int) ≤ (c : Int) := by omega
  have e5 : (0 : Int) ≤ (k : Int) := by omega
  have e6 : ((n : Int) - (k : Int)).toNat = n - k := by omega
  have e7 : ((c : Int) - (k : Int)).toNat = c - k := by omega
  by_cases h : c = k
  · subst h
    obtain rfl : n = c := by omega
    simp [execOp, ho, hx, hy, go_sem, cutG, ht, hs]
  · have e0 : ¬ ((c : Int) - (k : Int) = 0) := by omega
    have e8 : ¬ (c - k = 0) := by omega
    have e9 : ¬ ((c : Int) = (k : Int)) := by omega
    simp [execOp, ho, hx, hy, go_sem, cutG, ht, hs, h, e0, e2, e3, e4, e5, e6, e7, e8, e9]
theorem wpList_cutG {ops : Array Oper} {rest : List Oper} {o : Oper} {a : Act} {w : World} {Q : Exit → Act → World → Prop} (hgd : o.guard = none) {t e : TypeId} {z x y b off n c k : Nat} (ho : o.op = .slice t (.tmp x) (some (.tmp y)) none none) (ht : Try.prog.underlying t = some (.slice e)) (hz : (Try.prog.info? e).map (·.size) = some z)
    (hx : a.eval (.tmp x) = .slice (some ⟨b, off, none⟩) n c) (hy : a.eval (.tmp y) = .int .i64 k) (h1 : n ≤ c) (hk : k ≤ n) (h : wpList Try.prog ops Q rest (a.put o.dst (.slice (some ⟨b, cutG off z c k, none⟩) (n - k) (c - k))) w) : wpList Try.prog ops Q (o :: rest) a w :=
  wpList_plain hgd fun K hK => by
    unfold Oper.wp
    rw [run_cutG a.eval w ho ht hz hx hy h1 hk]
    exact hK _ _ h
theorem wpStill_cutG {ops : Array Oper} {rest : List Oper} {o : Oper} {a : Act} {w : World} {Q : Act → Prop} (hgd : o.guard = none) {t e : TypeId} {z x y b off n c k : Nat} (ho : o.op = .slice t (.tmp x) (some (.tmp y)) none none) (ht : Try.prog.underlying t = some (.slice e)) (hz : (Try.prog.info? e).map (·.size) = some z)
    (hx : a.eval (.tmp x) = .slice (some ⟨b, off, none⟩) n c) (hy : a.eval (.tmp y) = .int .i64 k) (h1 : n ≤ c) (hk : k ≤ n) (h : wpStill Try.prog ops w Q rest (a.put o.dst (.slice (some ⟨b, cutG off z c k, none⟩) (n - k) (c - k)))) : wpStill Try.prog ops w Q (o :: rest) a :=
  wpStill_step fun K hK => by
    rw [if_pos (by simp [Region.wanted, hgd])]
    unfold Oper.still
    rw [run_cutG a.eval w ho ht hz hx hy h1 hk, Oper.stillUpon_value]
    exact hK _ h
theorem Rd.cutG_ {S : Nat → Prop} {w : World} {b off z n c k : Nat} {xs : List Value} (h : Rd S w (some ⟨b, off, none⟩) xs) (hl : xs.length = n * z) (h1 : n ≤ c) (hk : k ≤ n) : Rd S w (some ⟨b, cutG off z c k, none⟩) (xs.drop (k * z)) := by
  unfold cutG
  split
  · obtain rfl : n = k := by omega
    intro h0; rw [List.length_drop, hl] at h0; omega
  · exact h.dropG (k * z)
end Go.Proofs.Ytiogpomgpknjlaa
