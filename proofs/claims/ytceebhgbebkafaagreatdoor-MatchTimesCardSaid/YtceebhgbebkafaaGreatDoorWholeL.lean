/- What the row of MatchTimes says of the variable whole. No condition. -/
import Derived.Test.YtceebhgbebkafaaGreatDoorRows
import Derived.Test.YtceebhgbebkafaaGreatDoorMTimes
import Derived.ProofKit
import Derived.LaidMore
import Derived.LaidLaws
import Derived.Handed
import Derived.Stop.Joined
namespace Go.Proofs.YtceebhgbebkafaaGreatDoor
open Go Go.ChangeShapes Go.WideShapes Go.ChangeAt Go.RowKit
theorem two_of {α : Type} {l : List α} (h : l.length = 2) : ∃ a b, l = [a, b] := by
  match l, h with
  | [a, b], _ => exact ⟨a, b, rfl⟩
theorem whole_of_laid {W : World} (h : laidMet Tryz.prog Rows.matchTimesRow.laid W) : Whole W := by
  obtain ⟨ps, ⟨g0, t0, cs0, f0, p0, q0, hg0, ht0, hv0, hd0, ⟨g1, t1, cs1, f1, p1, q1, hg1, ht1, hv1, hd1, ⟨g2, t2, cs2, f2, p2, q2, hg2, ht2, hv2, hd2, ⟨g3, t3, cs3, f3, p3, q3, hg3, ht3, hv3, hd3, _⟩, _⟩, _⟩, _⟩, _⟩ := h
  obtain rfl := Option.some.inj ((show Tryz.prog.globalNamed "logtide/match.whole" = some 0 by kernel_rfl).symm.trans hg3)
  obtain rfl := Option.some.inj ((show (Tryz.prog.globals[0]?).map (·.type) = some 80 by kernel_rfl).symm.trans ht3)
  obtain ⟨xs, m, rfl, hx, hcl, hxl, hel⟩ := DataW.trod_struct Tryz.underlying80 hd3
  have h2 : Tryz.prog.cellsOf 80 = 2 := by kernel_rfl
  have h1 : Tryz.prog.cellsOf 3 = 1 := by kernel_rfl
  rw [h2] at hcl
  have hxl : xs.length = 2 := hxl
  have e0 : DataW.trod _ Tryz.prog W 0 _ false m 3 ((cs3.toList.drop 0).take (Tryz.prog.cellsOf 3)) = xs[0]? := hel 0 _ rfl
  have e1 : DataW.trod _ Tryz.prog W 0 _ false m 3 ((cs3.toList.drop 1).take (Tryz.prog.cellsOf 3)) = xs[1]? := hel 1 _ rfl
  rw [h1] at e0 e1
  obtain ⟨l⟩ := cs3
  have hcl : l.length = 2 := hcl
  obtain ⟨c0, c1, rfl⟩ := two_of hcl
  obtain ⟨x0, x1, rfl⟩ := two_of hxl
  clear hel hcl hxl
  obtain ⟨k0, a0, b0, _⟩ := DataW.trod_int Tryz.underlying3 e0
  obtain ⟨k1, a1, b1, _⟩ := DataW.trod_int Tryz.underlying3 e1
  simp only [Rows.laid_logtide_match_whole, List.map_cons, List.map_nil, Prod.mk.injEq, DataW.agg.injEq, List.cons.injEq, b0, b1] at hx
  obtain ⟨⟨hk0, hk1, _⟩, _⟩ := hx
  obtain rfl : k0 = 0 := by simpa using hk0.symm
  obtain rfl : k1 = 253402300799999 := by simpa using hk1.symm
  obtain rfl : c0 = .int .i64 0 := by simpa using a0
  obtain rfl : c1 = .int .i64 253402300799999 := by simpa using a1
  have c0 := World.var?_cell hg3 hv3 0
  have c1 := World.var?_cell hg3 hv3 1
  simp at c0 c1
  refine ⟨c0, c1, ?_⟩
  rcases Nat.lt_or_ge 0 W.heap.size with hlt | hge
  · exact hlt
  · exfalso
    unfold World.cell? at c0
    rw [Array.getElem?_eq_none (by simpa using hge)] at c0
    simp at c0
end Go.Proofs.YtceebhgbebkafaaGreatDoor
