/- The reader of columns: runs. Condition: sizes. -/
import Derived.Test.YtebakogdbeeljaaRep
namespace Go.Proofs.Ytebakogdbeeljaa
open Go.RowKit
set_option linter.unusedVariables false
set_option linter.unusedSimpArgs false

def rRn : Nat → Nat → List Int → Bool → List Int × List Int × Bool
  | 0, _, bs, bad => ([], bs, bad)
  | f + 1, m, bs, bad => if m = 0 ∨ bad = true then ([], bs, bad) else
    (List.replicate (rSize m (rNum 10 0 bs bad).2.1 (rNum 10 0 bs bad).2.2).1 (uz (rNum 10 0 bs bad).1) ++ (rRn f (m - (rSize m (rNum 10 0 bs bad).2.1 (rNum 10 0 bs bad).2.2).1) (rSize m (rNum 10 0 bs bad).2.1 (rNum 10 0 bs bad).2.2).2.1 ((rSize m (rNum 10 0 bs bad).2.1 (rNum 10 0 bs bad).2.2).2.2 || (rSize m (rNum 10 0 bs bad).2.1 (rNum 10 0 bs bad).2.2).1 == 0)).1,
     (rRn f (m - (rSize m (rNum 10 0 bs bad).2.1 (rNum 10 0 bs bad).2.2).1) (rSize m (rNum 10 0 bs bad).2.1 (rNum 10 0 bs bad).2.2).2.1 ((rSize m (rNum 10 0 bs bad).2.1 (rNum 10 0 bs bad).2.2).2.2 || (rSize m (rNum 10 0 bs bad).2.1 (rNum 10 0 bs bad).2.2).1 == 0)).2)
theorem rRn_end (f m : Nat) (bs : List Int) (bad : Bool) (h : m = 0 ∨ bad = true) : rRn f m bs bad = ([], bs, bad) := by
  cases f with
  | zero => rfl
  | succ f => rw [rRn, if_pos h]
theorem rRn_step (f m : Nat) (bs : List Int) {r z : Nat × List Int × Bool} (hm : m ≠ 0) (hr : rNum 10 0 bs false = r) (hz : rSize m r.2.1 r.2.2 = z) :
    rRn (f + 1) m bs false = (List.replicate z.1 (uz r.1) ++ (rRn f (m - z.1) z.2.1 (z.2.2 || z.1 == 0)).1, (rRn f (m - z.1) z.2.1 (z.2.2 || z.1 == 0)).2) := by
  rw [rRn, if_neg (by simp [hm]), hr, hz]
theorem rSize_le (m : Nat) (bs : List Int) (bad : Bool) : (rSize m bs bad).1 ≤ m := by
  unfold rSize; split
  · simp
  · omega
def badOf (w : World) (g : Nat) : Nat := match w.cell? ⟨g, 1, none⟩ with | some (.bool true) => 0 | _ => 1
theorem RdrAt.badIs {w : World} {g : Nat} {bs : List Int} {bad : Bool} (h : RdrAt w g bs bad) : badOf w g = if bad = true then 0 else 1 := by
  obtain ⟨A, c, hb, _⟩ := h
  have c1 := hb.cell 1
  simp at c1
  unfold badOf
  rw [c1]
  cases bad <;> simp

theorem size_set (w : World) (p : Addr) (u : Value) : (w.setCell p u).heap.size = w.heap.size := by simp [World.setCell]
set_option maxHeartbeats 2000000 in
set_option maxRecDepth 100000 in
theorem rruns_rd_any (g : Nat) (n : Nat) (bs : List Int) (bad : Bool) (w : World) (h : RdrAt w g bs bad) (hn : n ≤ 16384) :
    Calls Try.prog 51 #[.pointer (some ⟨g, 0, none⟩), .int .i64 n] w (DPost w g (rRn (n + 1) n bs bad)) := by
  have H := Lib.hid h
  have hgl := h.lt
  clear h
  go_enter Try.func51, Try.ntmps51
  go_wp2_with fail
  go_loopw [5] (fun v wr => ∃ (vs cs : List Int) (bd : Bool) (f : Nat), vs.length ≤ n ∧ (n - vs.length < f ∨ bd = true) ∧ wr.ownsRow w.heap.size 3 1 v vs.length (vs.map (.int .i64)) ∧ rRn (n + 1) n bs bad = (vs ++ (rRn f (n - vs.length) cs bd).1, (rRn f (n - vs.length) cs bd).2) ∧ RdrAt wr g cs bd ∧ w.grownBy wr (some g)) (fun v wr => 2 * (n - lenOf v) + badOf wr g)
  case atStart => exact ⟨[], bs, bad, n + 1, by simp, .inl (by simp), World.ownsRow_nil _ _ _ _, by simp, H.out, only_refl _ _⟩
  case round =>
    obtain ⟨vs, cs, bd, f, hl, hf, hown, hE, hR, hG⟩ := hrel
    obtain ⟨AV, cv, rfl, hcv, hcm, -, -⟩ := Rd.of_own hown (by decide)
    have HO := Lib.hid hown
    have HE := Lib.hid hE
    have HR := Lib.hid hR
    have HG := Lib.hid hG
    have HFF := Lib.hid hf
    have hz := hG.size
    have HBO := Lib.hid hR.badIs
    obtain ⟨A, c, hb, -⟩ := hR
    have c1 := hb.cell 1
    simp at c1
    clear hown hE hG hb hf
    by_cases hlt : vs.length < n
    · have d1 : decide ((vs.length : Int) < (n : Int)) = true := decide_eq_true (by omega)
      cases bd with
      | true =>
        have HF : Hid (rRn (n + 1) n bs bad = (vs, cs, true)) := by show rRn (n + 1) n bs bad = _; rw [HE.out, rRn_end _ _ _ _ (.inr rfl)]; simp
        go_wp2_with fail
        go_ret
        exact ⟨_, rfl, by rw [HF.out]; exact HO.out, by rw [HF.out]; exact HR.out, HG.out⟩
      | false =>
        have hff : n - vs.length < f := by
          rcases HFF.out with h | h
          · exact h
          · cases h
        obtain ⟨f', rfl⟩ : ∃ f', f = f' + 1 := ⟨f - 1, by omega⟩
        obtain ⟨m, hm⟩ : ∃ m, m = n - vs.length := ⟨_, rfl⟩
        rw [← hm] at HE
        have hm0 : 0 < m := by omega
        have hmi : (n : Int) - (vs.length : Int) = (m : Int) := by omega
        have hst := rRn_step f' m cs (by omega) rfl rfl
        have hlt2 := rNum_lt 10 0 cs false (by omega)
        have HM := Lib.hid hm
        have hmb : m ≤ 16384 := by omega
        have hmf : m ≤ f' := by omega
        clear hm hff
        go_wp2_with fail
        refine (num_any g cs false _ HR.out).mono ?_
        rintro e w1 ⟨rfl, hR1, hg1⟩
        generalize rNum 10 0 cs false = r at *
        obtain ⟨u, cs1, bd1⟩ := r
        have HU := Lib.hid hlt2
        have R1 := Lib.hid hR1
        have G1 : Hid (w.grownBy w1 (some g)) := only_trans HG.out hg1
        have O1 := Lib.hid (own_only HO.out hg1 hgl)
        have HST := Lib.hid hst
        clear hR1 hg1 hlt2 c1 hst
        go_wp2_with fail
        refine (unzig_any u _ HU.out).mono ?_
        rintro e w2 ⟨rfl, n2, rfl⟩
        go_wp2_with fail
        refine (size_any g m cs1 bd1 _ (R1.out.drewN n2) (by omega)).mono ?_
        rintro e w3 ⟨rfl, hR3, hg3⟩
        have hzl := rSize_le m cs1 bd1
        have hst := HST.out
        generalize rSize m cs1 bd1 = z at *
        obtain ⟨k, cs3, bd3⟩ := z
        have HST2 := Lib.hid hst
        have R3 := Lib.hid hR3
        have G3 : Hid (w.grownBy w3 (some g)) := only_trans (only_drewN G1.out n2) hg3
        have O3 := Lib.hid (own_only (own_drewN O1.out n2) hg3 hgl)
        simp only at hzl
        obtain ⟨A3, c3, hb3, -⟩ := hR3
        have c31 := hb3.cell 1
        have f31 := hb3.frozen 1
        simp at c31
        clear hst HST hg3 hb3
        have hkk : k ≤ 16384 := by omega
        by_cases hb3t : bd3 = true
        · subst hb3t
          go_wp2_with fail
          have hs4 := size_set w3 ⟨g, 1, none⟩ (.bool true)
          have R4 := Lib.hid (R3.out.setBad true)
          have G4 : Hid (w.grownBy (w3.setCell ⟨g, 1, none⟩ (.bool true)) (some g)) := only_setCell G3.out (.inl rfl) _
          have O4 : Hid ((w3.setCell ⟨g, 1, none⟩ (.bool true)).ownsRow w.heap.size 3 1 (.slice AV vs.length cv) vs.length (vs.map (.int .i64))) := own_only O3.out (only_cell _) hgl
          have hc4 : ((w3.setCell ⟨g, 1, none⟩ (.bool true)).alloc (Obj.cells #[Value.int .i64 (uz u)] 3)).cell? ⟨w3.heap.size, 0, none⟩ = some (.int .i64 (uz u)) := by
            rw [← hs4]; exact (Blk.new _ _ _).cell 0
          have HS4 := Lib.hid hs4
          clear hs4
          refine (repeat_any w3.heap.size 0 1 (uz u) k _ hc4 (by simp [HS4.out]) (by omega)).mono ?_
          rintro e w5 ⟨gr, rfl, hgr, hBr, hg5⟩
          have O5 := Lib.hid (own_ext (O4.out.alloc _) hg5)
          have R5 : Hid (RdrAt w5 g cs3 true) := (R4.out.grown (World.grownBy_alloc _ _ none) (by simp)).grown hg5 (by simp)
          have G5 : Hid (w.grownBy w5 (some g)) := only_trans G4.out (only_of_none (only_trans (World.grownBy_alloc _ _ none) hg5) _)
          have hz5 := G5.out.size
          have hRr := hBr.rd
          have RR := Lib.hid hRr
          clear hc4 hgr hBr hg5 hRr
          go_wp2_with (at_builtin; refine wpList_appendN rfl _ _ 22 rfl w.heap.size Try.underlying22 intInfo' rfl (by decide) (by rfl) O5.out (some ⟨gr, 0, none⟩) k k (by rfl) RR.out (by simp) (by simp [Value.oneCell']) (by decide) (by omega) hz5 ?_; intro v7 w7 hv7 hg7 hob7)
          have O7 : Hid (w7.ownsRow w.heap.size 3 1 v7 (vs ++ List.replicate k (uz u)).length ((vs ++ List.replicate k (uz u)).map (.int .i64))) := by
            show w7.ownsRow _ _ _ _ _ _
            rw [List.length_append, List.length_replicate, List.map_append]; exact hv7
          have R7 : Hid (RdrAt w7 g cs3 true) := R5.out.grown hg7 (fun b hb e => by have := (World.ownsRow.lt O5.out b e.symm).1; omega)
          have G7 : Hid (w.grownBy w7 (some g)) := only_own G5.out hg7 O5.out (Nat.le_refl _)
          have E7 : Hid (rRn (n + 1) n bs bad = ((vs ++ List.replicate k (uz u)) ++ (rRn f' (n - (vs ++ List.replicate k (uz u)).length) cs3 true).1, (rRn f' (n - (vs ++ List.replicate k (uz u)).length) cs3 true).2)) := by
            show rRn (n + 1) n bs bad = _
            have e1 : n - (vs ++ List.replicate k (uz u)).length = m - k := by have := HM.out; simp; omega
            have e2 := HST2.out
            rw [HE.out, e1, e2]
            simp
          have HL7 := Lib.hid (lenOf_own O7.out)
          have HB7 := Lib.hid R7.out.badIs
          clear hv7 hg7 hob7
          go_wp2_with fail
          go_roundw
          case rel => exact ⟨vs ++ List.replicate k (uz u), cs3, true, f', by have := HM.out; simp; omega, .inr rfl, O7.out, E7.out, R7.out, G7.out⟩
          case measure =>
            have hm' := HM.out
            rw [HL7.out, HB7.out, HBO.out]
            simp [lenOf]
            try omega
        · have hb3f : bd3 = false := by simpa using hb3t
          subst hb3f
          clear hb3t
          by_cases hk0 : k = 0
          · subst hk0
            go_wp2_with fail
            have hs4 := size_set w3 ⟨g, 1, none⟩ (.bool true)
            have R4 := Lib.hid (R3.out.setBad true)
            have G4 : Hid (w.grownBy (w3.setCell ⟨g, 1, none⟩ (.bool true)) (some g)) := only_setCell G3.out (.inl rfl) _
            have O4 : Hid ((w3.setCell ⟨g, 1, none⟩ (.bool true)).ownsRow w.heap.size 3 1 (.slice AV vs.length cv) vs.length (vs.map (.int .i64))) := own_only O3.out (only_cell _) hgl
            have hc4 : ((w3.setCell ⟨g, 1, none⟩ (.bool true)).alloc (Obj.cells #[Value.int .i64 (uz u)] 3)).cell? ⟨w3.heap.size, 0, none⟩ = some (.int .i64 (uz u)) := by
              rw [← hs4]; exact (Blk.new _ _ _).cell 0
            have HS4 := Lib.hid hs4
            clear hs4
            refine (repeat_any w3.heap.size 0 1 (uz u) 0 _ hc4 (by simp [HS4.out]) (by omega)).mono ?_
            rintro e w5 ⟨gr, rfl, hgr, hBr, hg5⟩
            have O5 := Lib.hid (own_ext (O4.out.alloc _) hg5)
            have R5 : Hid (RdrAt w5 g cs3 true) := (R4.out.grown (World.grownBy_alloc _ _ none) (by simp)).grown hg5 (by simp)
            have G5 : Hid (w.grownBy w5 (some g)) := only_trans G4.out (only_of_none (only_trans (World.grownBy_alloc _ _ none) hg5) _)
            have hz5 := G5.out.size
            have hRr := hBr.rd
            have RR := Lib.hid hRr
            clear hc4 hgr hBr hg5 hRr
            go_wp2_with (at_builtin; refine wpList_appendN rfl _ _ 22 rfl w.heap.size Try.underlying22 intInfo' rfl (by decide) (by rfl) O5.out (some ⟨gr, 0, none⟩) 0 0 (by rfl) RR.out (by simp) (by simp [Value.oneCell']) (by decide) (by omega) hz5 ?_; intro v7 w7 hv7 hg7 hob7)
            have O7 : Hid (w7.ownsRow w.heap.size 3 1 v7 (vs ++ List.replicate 0 (uz u)).length ((vs ++ List.replicate 0 (uz u)).map (.int .i64))) := by
              show w7.ownsRow _ _ _ _ _ _
              rw [List.length_append, List.length_replicate, List.map_append]; exact hv7
            have R7 : Hid (RdrAt w7 g cs3 true) := R5.out.grown hg7 (fun b hb e => by have := (World.ownsRow.lt O5.out b e.symm).1; omega)
            have G7 : Hid (w.grownBy w7 (some g)) := only_own G5.out hg7 O5.out (Nat.le_refl _)
            have E7 : Hid (rRn (n + 1) n bs bad = ((vs ++ List.replicate 0 (uz u)) ++ (rRn f' (n - (vs ++ List.replicate 0 (uz u)).length) cs3 true).1, (rRn f' (n - (vs ++ List.replicate 0 (uz u)).length) cs3 true).2)) := by
              show rRn (n + 1) n bs bad = _
              have e1 : n - (vs ++ List.replicate 0 (uz u)).length = m - 0 := by have := HM.out; simp; omega
              have e2 := HST2.out
              rw [HE.out, e1, e2]
              simp
            have HL7 := Lib.hid (lenOf_own O7.out)
            have HB7 := Lib.hid R7.out.badIs
            clear hv7 hg7 hob7
            go_wp2_with fail
            go_roundw
            case rel => exact ⟨vs ++ List.replicate 0 (uz u), cs3, true, f', by have := HM.out; simp; omega, .inr rfl, O7.out, E7.out, R7.out, G7.out⟩
            case measure =>
              have hm' := HM.out
              rw [HL7.out, HB7.out, HBO.out]
              simp [lenOf]
              try omega
          · have t0 : ((k : Int) == 0) = false := by rw [beq_eq_false_iff_ne]; omega
            go_wp2_with fail
            have hs4 := size_set w3 ⟨g, 1, none⟩ (.bool false)
            have R4 := Lib.hid (R3.out.setBad false)
            have G4 : Hid (w.grownBy (w3.setCell ⟨g, 1, none⟩ (.bool false)) (some g)) := only_setCell G3.out (.inl rfl) _
            have O4 : Hid ((w3.setCell ⟨g, 1, none⟩ (.bool false)).ownsRow w.heap.size 3 1 (.slice AV vs.length cv) vs.length (vs.map (.int .i64))) := own_only O3.out (only_cell _) hgl
            have hc4 : ((w3.setCell ⟨g, 1, none⟩ (.bool false)).alloc (Obj.cells #[Value.int .i64 (uz u)] 3)).cell? ⟨w3.heap.size, 0, none⟩ = some (.int .i64 (uz u)) := by
              rw [← hs4]; exact (Blk.new _ _ _).cell 0
            have HS4 := Lib.hid hs4
            clear hs4
            refine (repeat_any w3.heap.size 0 1 (uz u) k _ hc4 (by simp [HS4.out]) (by omega)).mono ?_
            rintro e w5 ⟨gr, rfl, hgr, hBr, hg5⟩
            have O5 := Lib.hid (own_ext (O4.out.alloc _) hg5)
            have R5 : Hid (RdrAt w5 g cs3 false) := (R4.out.grown (World.grownBy_alloc _ _ none) (by simp)).grown hg5 (by simp)
            have G5 : Hid (w.grownBy w5 (some g)) := only_trans G4.out (only_of_none (only_trans (World.grownBy_alloc _ _ none) hg5) _)
            have hz5 := G5.out.size
            have hRr := hBr.rd
            have RR := Lib.hid hRr
            clear hc4 hgr hBr hg5 hRr
            go_wp2_with (at_builtin; refine wpList_appendN rfl _ _ 22 rfl w.heap.size Try.underlying22 intInfo' rfl (by decide) (by rfl) O5.out (some ⟨gr, 0, none⟩) k k (by rfl) RR.out (by simp) (by simp [Value.oneCell']) (by decide) (by omega) hz5 ?_; intro v7 w7 hv7 hg7 hob7)
            have O7 : Hid (w7.ownsRow w.heap.size 3 1 v7 (vs ++ List.replicate k (uz u)).length ((vs ++ List.replicate k (uz u)).map (.int .i64))) := by
              show w7.ownsRow _ _ _ _ _ _
              rw [List.length_append, List.length_replicate, List.map_append]; exact hv7
            have R7 : Hid (RdrAt w7 g cs3 false) := R5.out.grown hg7 (fun b hb e => by have := (World.ownsRow.lt O5.out b e.symm).1; omega)
            have G7 : Hid (w.grownBy w7 (some g)) := only_own G5.out hg7 O5.out (Nat.le_refl _)
            have E7 : Hid (rRn (n + 1) n bs bad = ((vs ++ List.replicate k (uz u)) ++ (rRn f' (n - (vs ++ List.replicate k (uz u)).length) cs3 false).1, (rRn f' (n - (vs ++ List.replicate k (uz u)).length) cs3 false).2)) := by
              show rRn (n + 1) n bs bad = _
              have e1 : n - (vs ++ List.replicate k (uz u)).length = m - k := by have := HM.out; simp; omega
              have e2 := HST2.out
              rw [HE.out, e1, e2]
              rw [show (k == 0) = false from by simp [hk0]]
              simp
            have HL7 := Lib.hid (lenOf_own O7.out)
            have HB7 := Lib.hid R7.out.badIs
            clear hv7 hg7 hob7
            go_wp2_with fail
            go_roundw
            case rel => exact ⟨vs ++ List.replicate k (uz u), cs3, false, f', by have := HM.out; simp; omega, .inl (by have := HM.out; simp; omega), O7.out, E7.out, R7.out, G7.out⟩
            case measure =>
              have hm' := HM.out
              rw [HL7.out, HB7.out, HBO.out]
              simp [lenOf]
              try omega
    · have d1 : decide ((vs.length : Int) < (n : Int)) = false := decide_eq_false (by omega)
      have HF : Hid (rRn (n + 1) n bs bad = (vs, cs, bd)) := by show rRn (n + 1) n bs bad = _; rw [HE.out, rRn_end _ _ _ _ (.inl (by omega))]; simp
      go_wp2_with fail
      go_ret
      exact ⟨_, rfl, by rw [HF.out]; exact HO.out, by rw [HF.out]; exact HR.out, HG.out⟩
end Go.Proofs.Ytebakogdbeeljaa
