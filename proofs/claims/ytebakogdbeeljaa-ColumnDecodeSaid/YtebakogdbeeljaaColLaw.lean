/- What the reader takes out of the bytes of plain and delta columns. Plain. -/
import Derived.Test.YtebakogdbeeljaaVarLaw
import Derived.Test.YtebakogdbeeljaaRdD
namespace Go.Proofs.Ytebakogdbeeljaa
open Go.RowKit
set_option linter.unusedVariables false
set_option linter.unusedSimpArgs false

def ptB : List Int → List Int
  | [] => []
  | x :: l => vint (zz x) ++ ptB l
theorem ptB_app : ∀ a b, ptB (a ++ b) = ptB a ++ ptB b
  | [], b => rfl
  | x :: a, b => by simp [ptB, ptB_app a b]
theorem genTo_pl (vs : List Int) : ∀ k, k ≤ vs.length → genTo (plF vs) k = ptB (vs.take k)
  | 0, _ => by simp [genTo, ptB]
  | k + 1, h => by
    rw [genTo, genTo_pl vs k (by omega), take_snoc vs 0 (show k < vs.length by omega), ptB_app]
    simp [plF, ptB]
theorem rPl_back : ∀ (vs rest : List Int), (∀ x ∈ vs, I64 x) → rPl vs.length (ptB vs ++ rest) false = (vs, rest, false)
  | [], rest, _ => by simp [rPl, ptB]
  | x :: l, rest, h => by
    have hz := zz_lt (h x (List.mem_cons_self ..))
    have hr : rNum 10 0 (ptB (x :: l) ++ rest) false = (zz x, ptB l ++ rest, false) := by
      rw [ptB, List.append_assoc]; exact num_back _ hz _ _
    rw [List.length_cons, rPl_step _ _ hr]
    simp only
    rw [rPl_back l rest (fun y hy => h y (List.mem_cons_of_mem _ hy)), uz_zz]
theorem plain_back (vs rest : List Int) (h : ∀ x ∈ vs, I64 x) : rPl vs.length (genTo (plF vs) vs.length ++ rest) false = (vs, rest, false) := by
  rw [genTo_pl vs _ (Nat.le_refl _), List.take_length]; exact rPl_back vs rest h
end Go.Proofs.Ytebakogdbeeljaa
