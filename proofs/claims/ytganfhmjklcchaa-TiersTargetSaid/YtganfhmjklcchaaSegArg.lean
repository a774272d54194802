/- A struct of 7 one-cell fields as an argument. No condition. -/
import Derived.Test.YtganfhmjklcchaaProg
import Derived.Deep.Fields
import Derived.ProofKit
namespace Go.Proofs.Ytganfhmjklcchaa
open Go.RowKit Go.ChangeShapes Go.WideShapes Go.Deep
set_option linter.unusedVariables false
set_option linter.unusedSimpArgs false

section
variable {H : Type} {enc : TypeId × Value → H} {P : Program} {w : World} {base : Nat} {spare : Nat → Bool} {held : Bool}
theorem array7 {α : Type} {cs : Array α} (h : cs.size = 7) : ∃ c0 c1 c2 c3 c4 c5 c6, cs = #[c0, c1, c2, c3, c4, c5, c6] := by
  obtain ⟨l⟩ := cs
  match l, h with
  | [c0, c1, c2, c3, c4, c5, c6], _ => exact ⟨c0, c1, c2, c3, c4, c5, c6, rfl⟩
theorem open_agg7 {r : Reach} {b0 : Nat} {t : TypeId} {f0 f1 f2 f3 f4 f5 f6 : Field} {v : Value} {d : DataW H} {p : List MemPlace} (hs : P.underlying t = some (.struct #[f0, f1, f2, f3, f4, f5, f6])) (hone : oneCellFields P #[f0, f1, f2, f3, f4, f5, f6] = true) (hC : P.cellsOf t = 7)
    (hv : Value.okWide P w r b0 t v) (h : DataW.Trod enc P w base spare held t v d p) :
    ∃ (v0 v1 v2 v3 v4 v5 v6 : Value) (y0 y1 y2 y3 y4 y5 y6 : DataW H × List MemPlace) (m : Nat), v = .agg #[v0, v1, v2, v3, v4, v5, v6] ∧ d = .agg [y0.1, y1.1, y2.1, y3.1, y4.1, y5.1, y6.1] ∧ p = y0.2 ++ (y1.2 ++ (y2.2 ++ (y3.2 ++ (y4.2 ++ (y5.2 ++ y6.2))))) ∧
      DataW.trod enc P w base spare held m f0.type [v0] = some y0 ∧ DataW.trod enc P w base spare held m f1.type [v1] = some y1 ∧ DataW.trod enc P w base spare held m f2.type [v2] = some y2 ∧ DataW.trod enc P w base spare held m f3.type [v3] = some y3 ∧ DataW.trod enc P w base spare held m f4.type [v4] = some y4 ∧ DataW.trod enc P w base spare held m f5.type [v5] = some y5 ∧ DataW.trod enc P w base spare held m f6.type [v6] = some y6 := by
  obtain ⟨cs, rfl, hsz⟩ := okWide_struct hs hv
  obtain ⟨c0, c1, c2, c3, c4, c5, c6, rfl⟩ := array7 (hsz.trans hC)
  obtain ⟨fuel, hf⟩ := h
  obtain ⟨xs, m, _, hx, hl, hlen, hg⟩ := DataW.trod_struct hs hf
  match xs, hlen with
  | [y0, y1, y2, y3, y4, y5, y6], _ =>
    obtain ⟨o0, k0⟩ := hone_of hone 0 f0 rfl
    have h0 := hg 0 f0 rfl
    obtain ⟨o1, k1⟩ := hone_of hone 1 f1 rfl
    have h1 := hg 1 f1 rfl
    obtain ⟨o2, k2⟩ := hone_of hone 2 f2 rfl
    have h2 := hg 2 f2 rfl
    obtain ⟨o3, k3⟩ := hone_of hone 3 f3 rfl
    have h3 := hg 3 f3 rfl
    obtain ⟨o4, k4⟩ := hone_of hone 4 f4 rfl
    have h4 := hg 4 f4 rfl
    obtain ⟨o5, k5⟩ := hone_of hone 5 f5 rfl
    have h5 := hg 5 f5 rfl
    obtain ⟨o6, k6⟩ := hone_of hone 6 f6 rfl
    have h6 := hg 6 f6 rfl
    simp only [Prod.mk.injEq] at hx
    exact ⟨c0, c1, c2, c3, c4, c5, c6, y0, y1, y2, y3, y4, y5, y6, m, rfl, by simpa using hx.1, by simpa using hx.2, by simpa [Value.cells, o0, k0] using h0, by simpa [Value.cells, o1, k1] using h1, by simpa [Value.cells, o2, k2] using h2, by simpa [Value.cells, o3, k3] using h3, by simpa [Value.cells, o4, k4] using h4, by simpa [Value.cells, o5, k5] using h5, by simpa [Value.cells, o6, k6] using h6⟩
theorem shut_agg7 {t : TypeId} {f0 f1 f2 f3 f4 f5 f6 : Field} {v0 v1 v2 v3 v4 v5 v6 : Value} {y0 y1 y2 y3 y4 y5 y6 : DataW H × List MemPlace} (hs : P.underlying t = some (.struct #[f0, f1, f2, f3, f4, f5, f6])) (hone : oneCellFields P #[f0, f1, f2, f3, f4, f5, f6] = true) (hC : P.cellsOf t = 7)
    (t0 : DataW.trod enc P w base spare held 1 f0.type [v0] = some y0) (t1 : DataW.trod enc P w base spare held 1 f1.type [v1] = some y1) (t2 : DataW.trod enc P w base spare held 1 f2.type [v2] = some y2) (t3 : DataW.trod enc P w base spare held 1 f3.type [v3] = some y3) (t4 : DataW.trod enc P w base spare held 1 f4.type [v4] = some y4) (t5 : DataW.trod enc P w base spare held 1 f5.type [v5] = some y5) (t6 : DataW.trod enc P w base spare held 1 f6.type [v6] = some y6) :
    DataW.Trod enc P w base spare held t (.agg #[v0, v1, v2, v3, v4, v5, v6]) (.agg [y0.1, y1.1, y2.1, y3.1, y4.1, y5.1, y6.1]) (y0.2 ++ (y1.2 ++ (y2.2 ++ (y3.2 ++ (y4.2 ++ (y5.2 ++ y6.2)))))) := by
  obtain ⟨o0, k0⟩ := hone_of hone 0 f0 rfl
  obtain ⟨o1, k1⟩ := hone_of hone 1 f1 rfl
  obtain ⟨o2, k2⟩ := hone_of hone 2 f2 rfl
  obtain ⟨o3, k3⟩ := hone_of hone 3 f3 rfl
  obtain ⟨o4, k4⟩ := hone_of hone 4 f4 rfl
  obtain ⟨o5, k5⟩ := hone_of hone 5 f5 rfl
  obtain ⟨o6, k6⟩ := hone_of hone 6 f6 rfl
  have := trod_struct_mk (enc := enc) (w := w) (base := base) (spare := spare) (held := held) (n := 1) (cs := [v0, v1, v2, v3, v4, v5, v6]) (xs := [y0, y1, y2, y3, y4, y5, y6]) hs (by simp [hC]) (by simp [o0, k0, t0, o1, k1, t1, o2, k2, t2, o3, k3, t3, o4, k4, t4, o5, k5, t5, o6, k6, t6])
  exact ⟨_, by simpa [Value.cells] using this⟩
end
end Go.Proofs.Ytganfhmjklcchaa
