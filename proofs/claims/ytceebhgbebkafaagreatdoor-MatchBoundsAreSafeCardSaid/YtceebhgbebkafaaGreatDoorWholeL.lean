/- What the row of MatchTimes says of the variable whole. No condition. -/
import Derived.Test.YtceebhgbebkafaaGreatDoorRows
import Derived.Test.YtceebhgbebkafaaGreatDoorMTimes
import Derived.ProofKit
import Derived.LaidMore
import Derived.LaidLaws
import Derived.Handed
import Derived.Stop.Joined
import Derived.Test.YtceebhgbebkafaaGreatDoorHoldA
import Derived.HandedShaped
import Derived.Shelf.Vars
import Derived.Lib.LaidTab
namespace Go.Proofs.YtceebhgbebkafaaGreatDoor
open Go Go.ChangeShapes Go.WideShapes Go.ChangeAt Go.RowKit
theorem two_of {α : Type} {l : List α} (h : l.length = 2) : ∃ a b, l = [a, b] := by
  match l, h with
  | [a, b], _ => exact ⟨a, b, rfl⟩
theorem whole_of_laid {W : World} (h : laidMet Tryz.prog Rows.matchTimesRow.laid W) : Whole W := by
  obtain ⟨ps, ⟨g0, t0, cs0, f0, p0, q0, hg0, ht0, hv0, hd0, ⟨g1, t1, cs1, f1, p1, q1, hg1, ht1, hv1, hd1, ⟨g2, t2, cs2, f2, p2, q2, hg2, ht2, hv2, hd2, ⟨g3, t3, cs3, f3, p3, q3, hg3, ht3, hv3, hd3, _⟩, _⟩, _⟩, _⟩, _⟩ := h
  obtain rfl := Option.some.inj ((show Tryz.prog.globalNamed "logtide/match.whole" = some 0 by kernel_rfl).symm.trans hg3)
  obtain rfl := Option.some.inj ((show (Tryz.prog.globals[0]?).map (·.type) = some 80 by kernel_rfl).symm.trans ht3)
  obtain ⟨xs, m, rfl, hx, hcl, hxl, hel⟩ := DataW.trod_struct Tryz.underlying80 hd3
  have h2 : Tryz.prog.cellsOf 80 = 2 := by kernel_rfl
  have h1 : Tryz.prog.cellsOf 3 = 1 := by kernel_rfl
  rw [h2] at hcl
  have hxl : xs.length = 2 := hxl
  have e0 : DataW.trod _ Tryz.prog W 0 _ false m 3 ((cs3.toList.drop 0).take (Tryz.prog.cellsOf 3)) = xs[0]? := hel 0 _ rfl
  have e1 : DataW.trod _ Tryz.prog W 0 _ false m 3 ((cs3.toList.drop 1).take (Tryz.prog.cellsOf 3)) = xs[1]? := hel 1 _ rfl
  rw [h1] at e0 e1
  obtain ⟨l⟩ := cs3
  have hcl : l.length = 2 := hcl
  obtain ⟨c0, c1, rfl⟩ := two_of hcl
  obtain ⟨x0, x1, rfl⟩ := two_of hxl
  clear hel hcl hxl
  obtain ⟨k0, a0, b0, _⟩ := DataW.trod_int Tryz.underlying3 e0
  obtain ⟨k1, a1, b1, _⟩ := DataW.trod_int Tryz.underlying3 e1
  simp only [Rows.laid_logtide_match_whole, List.map_cons, List.map_nil, Prod.mk.injEq, DataW.agg.injEq, List.cons.injEq, b0, b1] at hx
  obtain ⟨⟨hk0, hk1, _⟩, _⟩ := hx
  obtain rfl : k0 = 0 := by simpa using hk0.symm
  obtain rfl : k1 = 253402300799999 := by simpa using hk1.symm
  obtain rfl : c0 = .int .i64 0 := by simpa using a0
  obtain rfl : c1 = .int .i64 253402300799999 := by simpa using a1
  have c0 := World.var?_cell hg3 hv3 0
  have c1 := World.var?_cell hg3 hv3 1
  simp at c0 c1
  refine ⟨c0, c1, ?_⟩
  rcases Nat.lt_or_ge 0 W.heap.size with hlt | hge
  · exact hlt
  · exfalso
    unfold World.cell? at c0
    rw [Array.getElem?_eq_none (by simpa using hge)] at c0
    simp at c0
end Go.Proofs.YtceebhgbebkafaaGreatDoor
namespace Go.Proofs.YtceebhgbebkafaaGreatDoor
open Go Go.ChangeShapes Go.WideShapes Go.ChangeAt Go.RowKit

theorem tabP : (Rows.laid_internal_strconv_uint64pow10 : DataW Unit) = Lib.tabData .u64 Lib.pow10Tab := rfl
theorem pow10_of {W : World} {n1 n2 : String} {d1 d2 : DataW Unit} {rest : List (String × DataW Unit)} (h : laidMet Tryz.prog ((n1, d1) :: (n2, d2) :: ("internal/strconv.uint64pow10", Rows.laid_internal_strconv_uint64pow10) :: rest) W) : Pow10 W := by
  obtain ⟨ps, ⟨g0, t0, cs0, f0, p0, q0, hg0, ht0, hv0, hd0, ⟨g1, t1, cs1, f1, p1, q1, hg1, ht1, hv1, hd1, ⟨g2, t2, cs2, f2, p2, q2, hg2, ht2, hv2, hd2, _⟩, _⟩, _⟩, _⟩ := h
  obtain rfl := Option.some.inj ((show Tryz.prog.globalNamed "internal/strconv.uint64pow10" = some 2 by kernel_rfl).symm.trans hg2)
  obtain rfl := Option.some.inj ((show (Tryz.prog.globals[2]?).map (·.type) = some 163 by kernel_rfl).symm.trans ht2)
  rw [tabP] at hd2
  have hc := Lib.cells_of_tab Tryz.underlying163 Tryz.underlying125 (by kernel_rfl) (by kernel_rfl) hd2
  unfold Pow10 Lib.TabIs
  rw [hv2, ← hc]
theorem maxl_of {W : World} (h : W.ShapedOpen Tryz.prog) : MaxL W := by
  obtain ⟨m, hm⟩ := cell_of_shapedOpen_int (g := 1) (t := 3) (k := .i64) (zero := #[.int .i64 0]) h (of_decide_eq_true (by kernel_rfl)) (by kernel_rfl) rfl (by kernel_rfl) (by kernel_rfl) Tryz.underlying3
  exact ⟨World.block_lt_of_cell? W _ hm, m, hm⟩
theorem handed_and_shaped {H : Type} {enc : TypeId × Value → H} {a : Assume} {C : Checked} {os : Os} {f : FuncId} {fn : Func} {s : ChangeSpec} {conds : List PathCond} {apart fresh handsOn again : Bool} {X : World → Array Value → Prop}
    (hX : ∀ (w w' : World) (args : Array Value), w.heap = w'.heap → X w args → X w' args)
    (own : ownKnob C.prog.godebug = none) (started : os.Started) (noInit : C.prog.inits.idxOf? f = none) (hfn : C.prog.funcs[f]? = some fn)
    (witness : ∃ (w : World) (tape : Tape) (i : Input), w.os = os ∧ (w.forCall tape i).Shaped C.prog ∧ i.vars = [] ∧ Input.okWide C.prog (w.forCall tape i) .any w.heap.size f i ∧
      ((s.pre enc C.prog fn conds apart (w.forCall tape i).memory i.args ∧ X (w.forCall tape i).memory i.args) ∧ sizedMet enc C.prog fn (OpenSpec.ofChange s) apart (w.forCall tape i).memory i.args) ∧ a.holds C.prog (lone (Frame.enter C.prog f i.args .normal) [] (w.forCall tape i)))
    (contract : ∀ (W : World) (base : Nat) (args : Array Value) (ds gs : List (DataW H)) (before : List MemPlace),
      (∀ (j : Nat) t v, fn.params[j]? = some t → args[j]? = some v → Value.okWide C.prog W .any base t v) →
      DataW.Whole enc C.prog fn.params.toList s.vars apart W args.toList ds gs before →
      conds.all (PathCond.test C.prog ⟨fn.params.toList, ds, s.plain.varTypes C.prog, gs⟩) = true →
      (DataW.weightsEach C.prog (fn.params.toList ++ s.plain.varTypes C.prog) (ds ++ gs)).all (· ≤ reachBytes) = true → X W args → W.ShapedOpen C.prog →
      a.holds C.prog (lone (Frame.enter C.prog f args .normal) [] W) →
      Calls C.prog f args W fun e W' => ∃ v, e = .returned v ∧ s.post enc C.prog fn apart fresh handsOn again W args v W') :
    ReturnsInHanded a C os f .any (fun w args => (s.pre enc C.prog fn conds apart w args ∧ X w args) ∧ sizedMet enc C.prog fn (OpenSpec.ofChange s) apart w args) (s.post enc C.prog fn apart fresh handsOn again) := by
  refine returnsInHanded_of_calls own started noInit witness ?_
  intro w tape i _ hsh _ hok hpre hholds
  obtain ⟨_, _, _, fn', hfn', _, _, _, _, hval⟩ := hok
  have e : fn' = fn := Option.some.inj (hfn'.symm.trans hfn)
  subst e
  obtain ⟨⟨⟨ds, gs, before, hw, hc⟩, hx⟩, hz⟩ := hpre
  have hw' := DataW.Whole.of_heap (w' := w.forCall tape i) (by rfl) hw
  refine (contract (w.forCall tape i) w.heap.size i.args ds gs before hval hw' hc (hz.weights hw) (hX _ _ _ (by rfl) hx) hsh hholds).mono fun e W' ⟨v, he, hp⟩ => ?_
  subst he
  exact ChangeSpec.post_blind hp
end Go.Proofs.YtceebhgbebkafaaGreatDoor
