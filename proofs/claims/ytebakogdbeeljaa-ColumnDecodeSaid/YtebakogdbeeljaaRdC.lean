/- The reader of columns: unzigzag, size, plain. Condition: sizes. -/
import Derived.Test.YtebakogdbeeljaaRdB
namespace Go.Proofs.Ytebakogdbeeljaa
open Go.RowKit
set_option linter.unusedVariables false
set_option linter.unusedSimpArgs false

def uz (n : Nat) : Int := if n % 2 = 0 then ((n / 2 : Nat) : Int) else -((n / 2 : Nat) : Int) - 1
theorem uz_zz {x : Int} : uz (zz x) = x := by
  unfold uz zz
  by_cases h : 0 ≤ x
  · rw [if_pos h, if_pos (by omega)]; omega
  · rw [if_neg h, if_neg (by omega)]; omega
theorem uz_I64 {n : Nat} (h : n < 18446744073709551616) : I64 (uz n) := by unfold uz I64; split <;> omega
theorem uz_bits {n : Nat} (h : n < 18446744073709551616) : bits BinOp.xor IntKind.i64 (wrap64 ((n : Int) / 2)) (wrap64 (-wrap64 (bits BinOp.and IntKind.u64 (n : Int) 1))) = uz n := by
  have e1 : bits .and .u64 (n : Int) 1 = ((n % 2 : Nat) : Int) := by
    have h1 := bits_and_u64_nat n 1 h (by decide)
    rw [Nat.and_one_is_mod] at h1; exact h1
  have e2 : wrap64 ((n : Int) / 2) = ((n / 2 : Nat) : Int) := by rw [IntWalk.wrap64_in _ (by omega)]; omega
  have e3 : wrap64 (-wrap64 ((n % 2 : Nat) : Int)) = -((n % 2 : Nat) : Int) := by
    rw [IntWalk.wrap64_in ((n % 2 : Nat) : Int) (by omega), IntWalk.wrap64_in _ (by omega)]
  rw [e1, e2, e3]
  have hx : (BitVec.ofInt 64 ((n / 2 : Nat) : Int)).toNat = n / 2 := ofInt_nat 64 _ (by omega)
  show IntKind.i64.wrap ((BitVec.ofInt 64 ((n / 2 : Nat) : Int) ^^^ BitVec.ofInt 64 (-((n % 2 : Nat) : Int))).toNat : Int) = uz n
  rw [BitVec.toNat_xor, hx]
  unfold uz
  by_cases h2 : n % 2 = 0
  · rw [if_pos h2, h2, show (BitVec.ofInt 64 (-((0 : Nat) : Int))).toNat = 0 from by decide, Nat.xor_zero, IntKind.wrap_i64]; omega
  · rw [if_neg h2, show n % 2 = 1 from by omega, show (BitVec.ofInt 64 (-((1 : Nat) : Int))).toNat = 18446744073709551615 from by decide, xor_max _ (by omega), IntKind.wrap_i64]; omega
set_option maxHeartbeats 1000000 in
set_option maxRecDepth 100000 in
theorem unzig_any (n : Nat) (w : World) (h : n < 18446744073709551616) : Calls Try.prog 56 #[.int .u64 n] w (Quiet (.int .i64 (uz n)) w) := by
  have HX := Lib.hid h
  clear h
  go_enter Try.func56, Try.ntmps56
  go_wp2_with fail
  go_ret
  exact ⟨ret_int (uz_bits HX.out), 0, rfl⟩
def rSize (most : Nat) (bs : List Int) (bad : Bool) : Nat × List Int × Bool :=
  if most < (rNum 10 0 bs bad).1 then (0, (rNum 10 0 bs bad).2.1, true) else rNum 10 0 bs bad
theorem rNum_lt : ∀ s acc bs bad, acc < 18446744073709551616 → (rNum s acc bs bad).1 < 18446744073709551616
  | 0, _, _, _, _ => by simp [rNum]
  | s + 1, acc, bs, bad, h => by
    rw [rNum]
    split
    · exact acc_lt h
    · exact rNum_lt s _ _ _ (acc_lt h)
def SzPost (w : World) (g : Nat) (r : Nat × List Int × Bool) (e : Ending) (w' : World) : Prop :=
  e = .returned (.int .i64 (r.1 : Nat)) ∧ RdrAt w' g r.2.1 r.2.2 ∧ w.grownBy w' (some g)
set_option maxHeartbeats 1000000 in
set_option maxRecDepth 100000 in
theorem size_any (g : Nat) (most : Nat) (bs : List Int) (bad : Bool) (w : World) (h : RdrAt w g bs bad) (hm : most ≤ 1000000) :
    Calls Try.prog 38 #[.pointer (some ⟨g, 0, none⟩), .int .i64 most] w (SzPost w g (rSize most bs bad)) := by
  have H := Lib.hid h
  clear h
  have hlt := rNum_lt 10 0 bs bad (by omega)
  go_enter Try.func38, Try.ntmps38
  go_wp2_with fail
  refine (num_any g bs bad _ H.out).mono ?_
  rintro e w1 ⟨rfl, hR1, hg1⟩
  have R1 := Lib.hid hR1
  have G1 := Lib.hid hg1
  have hS : rSize most bs bad = if most < (rNum 10 0 bs bad).1 then (0, (rNum 10 0 bs bad).2.1, true) else rNum 10 0 bs bad := rfl
  clear hR1 hg1
  generalize rNum 10 0 bs bad = r at *
  obtain ⟨n, cs, bd⟩ := r
  have HS := Lib.hid hS
  have HLT := Lib.hid hlt
  clear hS hlt
  obtain ⟨A, c, hb, -⟩ := R1.out
  have c1 := hb.cell 1
  have f1 := hb.frozen 1
  simp at c1
  clear hb
  by_cases hn : most < n
  · have d1 : decide ((most : Int) < (n : Int)) = true := decide_eq_true (by omega)
    have d2 : decide (most < n) = true := decide_eq_true hn
    have HF : Hid (rSize most bs bad = (0, cs, true)) := by show rSize most bs bad = _; rw [HS.out, if_pos hn]
    go_wp2_with fail
    go_ret
    exact ⟨by rw [HF.out]; rfl, by rw [HF.out]; exact R1.out.setBad true, only_trans G1.out (only_cell _)⟩
  · have d1 : decide ((most : Int) < (n : Int)) = false := decide_eq_false (by omega)
    have d2 : decide (most < n) = false := decide_eq_false hn
    have HF : Hid (rSize most bs bad = (n, cs, bd)) := by show rSize most bs bad = _; rw [HS.out, if_neg hn]
    have hn2 : n ≤ 1000000 := by omega
    go_wp2_with fail
    go_ret
    exact ⟨by rw [HF.out]; rfl, by rw [HF.out]; exact R1.out, G1.out⟩
/-- n values -/
def rPl : Nat → List Int → Bool → List Int × List Int × Bool
  | 0, bs, bad => ([], bs, bad)
  | s + 1, bs, bad => if bad then ([], bs, bad) else
    (uz (rNum 10 0 bs bad).1 :: (rPl s (rNum 10 0 bs bad).2.1 (rNum 10 0 bs bad).2.2).1, (rPl s (rNum 10 0 bs bad).2.1 (rNum 10 0 bs bad).2.2).2)
theorem rPl_bad (s : Nat) (bs : List Int) : rPl s bs true = ([], bs, true) := by cases s <;> simp [rPl]
theorem rPl_step (s : Nat) (bs : List Int) {r : Nat × List Int × Bool} (hr : rNum 10 0 bs false = r) : rPl (s + 1) bs false = (uz r.1 :: (rPl s r.2.1 r.2.2).1, (rPl s r.2.1 r.2.2).2) := by simp [rPl, hr]
theorem intInfo' : (Try.prog.info? 3).map (fun i => (i.zero, i.size, i.bytes)) = some (some (.int .i64 0), 1, 8) := by kernel_rfl
def DPost (w : World) (g : Nat) (r : List Int × List Int × Bool) (e : Ending) (w' : World) : Prop :=
  ∃ v, e = .returned v ∧ w'.ownsRow w.heap.size 3 1 v r.1.length (r.1.map (.int .i64)) ∧ RdrAt w' g r.2.1 r.2.2 ∧ w.grownBy w' (some g)
set_option maxHeartbeats 1000000 in
set_option maxRecDepth 100000 in
theorem rplain_any (g : Nat) (n : Nat) (bs : List Int) (bad : Bool) (w : World) (h : RdrAt w g bs bad) (hn : n ≤ 16384) :
    Calls Try.prog 49 #[.pointer (some ⟨g, 0, none⟩), .int .i64 n] w (DPost w g (rPl n bs bad)) := by
  have H := Lib.hid h
  have hgl := h.lt
  clear h
  go_enter Try.func49, Try.ntmps49
  go_wp2_with fail
  go_loopw [5] (fun v wr => ∃ (vs cs : List Int) (bd : Bool), vs.length ≤ n ∧ wr.ownsRow w.heap.size 3 1 v vs.length (vs.map (.int .i64)) ∧ rPl n bs bad = (vs ++ (rPl (n - vs.length) cs bd).1, (rPl (n - vs.length) cs bd).2) ∧ RdrAt wr g cs bd ∧ w.grownBy wr (some g)) (fun v _ => n - lenOf v)
  case atStart => exact ⟨[], bs, bad, by simp, World.ownsRow_nil _ _ _ _, by simp, H.out, only_refl _ _⟩
  case round =>
    obtain ⟨vs, cs, bd, hl, hown, hE, hR, hG⟩ := hrel
    obtain ⟨AV, cv, rfl, hcv, hcm, -, -⟩ := Rd.of_own hown (by decide)
    have HO := Lib.hid hown
    have HE := Lib.hid hE
    have HR := Lib.hid hR
    have HG := Lib.hid hG
    have hz := hG.size
    obtain ⟨A, c, hb, -⟩ := hR
    have c1 := hb.cell 1
    simp at c1
    clear hown hE hG hb
    by_cases hlt : vs.length < n
    · have d1 : decide ((vs.length : Int) < (n : Int)) = true := decide_eq_true (by omega)
      cases bd with
      | true =>
        have HF : Hid (rPl n bs bad = (vs, cs, true)) := by show rPl n bs bad = _; rw [HE.out, rPl_bad]; simp
        go_wp2_with fail
        go_ret
        exact ⟨_, rfl, by rw [HF.out]; exact HO.out, by rw [HF.out]; exact HR.out, HG.out⟩
      | false =>
        go_wp2_with fail
        refine (num_any g cs false _ HR.out).mono ?_
        rintro e w1 ⟨rfl, hR1, hg1⟩
        have hr := rPl_step (n - (vs.length + 1)) cs (r := rNum 10 0 cs false) rfl
        have hlt2 := rNum_lt 10 0 cs false (by omega)
        generalize rNum 10 0 cs false = r at *
        obtain ⟨m, cs1, bd1⟩ := r
        have HST := Lib.hid hr
        have HM := Lib.hid hlt2
        have R1 := Lib.hid hR1
        have G1 : Hid (w.grownBy w1 (some g)) := only_trans HG.out hg1
        have O1 := Lib.hid (own_only HO.out hg1 hgl)
        have hz1 := G1.out.size
        clear hR1 hg1 hr hlt2 c1
        go_wp2_with fail
        refine (unzig_any m _ HM.out).mono ?_
        rintro e w2 ⟨rfl, n2, rfl⟩
        go_wp2_with (at_builtin; refine wpList_append1 rfl _ _ 22 rfl w.heap.size Try.underlying22 intInfo' rfl (by decide) (v := _) (by rfl) (w0 := _) (cs := #[.int .i64 (uz m)]) (own_drewN O1.out n2) (by rfl) rfl (by simp [Value.oneCell']) (by decide) (by omega) (by exact hz1) ?_; intro v5 w5 hown5 hg5 hob5)
        have O5 := Lib.hid (own_snoc_int hown5)
        have R5 : Hid (RdrAt w5 g cs1 bd1) := (R1.out.drewN n2).grown hg5 (fun b hb e => by have := (World.ownsRow.lt (own_drewN O1.out n2) b e.symm).1; omega)
        have G5 : Hid (w.grownBy w5 (some g)) := only_own (only_drewN G1.out n2) hg5 (own_drewN O1.out n2) (Nat.le_refl _)
        have hl5 := lenOf_own O5.out
        have HL5 := Lib.hid hl5
        have E5 : Hid (rPl n bs bad = ((vs ++ [uz m]) ++ (rPl (n - (vs ++ [uz m]).length) cs1 bd1).1, (rPl (n - (vs ++ [uz m]).length) cs1 bd1).2)) := by
          show rPl n bs bad = _
          rw [HE.out, show n - vs.length = n - (vs.length + 1) + 1 from by omega, HST.out]
          simp
        clear hown5 hg5 hob5 hl5
        go_wp2_with fail
        go_roundw
        case rel => exact ⟨vs ++ [uz m], cs1, bd1, by simp; omega, O5.out, E5.out, R5.out, G5.out⟩
        case measure => rw [HL5.out]; simp [lenOf]; omega
    · have d1 : decide ((vs.length : Int) < (n : Int)) = false := decide_eq_false (by omega)
      have HF : Hid (rPl n bs bad = (vs, cs, bd)) := by show rPl n bs bad = _; rw [HE.out, show n - vs.length = 0 from by omega]; simp [rPl]
      go_wp2_with fail
      go_ret
      exact ⟨_, rfl, by rw [HF.out]; exact HO.out, by rw [HF.out]; exact HR.out, HG.out⟩
end Go.Proofs.Ytebakogdbeeljaa
