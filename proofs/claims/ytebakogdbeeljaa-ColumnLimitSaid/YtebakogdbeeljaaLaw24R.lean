/- law24: ColumnRunsLength: the walk of the law itself. For every input. -/
import Derived.Test.YtebakogdbeeljaaColG
import Derived.Test.YtebakogdbeeljaaLaw24A
namespace Go.Proofs.Ytebakogdbeeljaa
open Go.RowKit
set_option linter.unusedVariables false
set_option linter.unusedSimpArgs false

theorem runLen_rep (x : Int) : ∀ n, runLen x (List.replicate n x) = n
  | 0 => rfl
  | n + 1 => by simp [List.replicate_succ, runLen, runLen_rep x n]
theorem runsB_rep (x : Int) (n : Nat) : runsB (List.replicate (n + 1) x) = vint (zz x) ++ vint (n + 1) := by
  rw [List.replicate_succ, runsB_cons, runLen_rep, List.drop_of_length_le (by simp), runsB_nil, List.append_nil]
theorem getD_rep {x : Int} {n i : Nat} (h : i < n) : (List.replicate n x).getD i 0 = x := by
  rw [getD_lt _ _ (by simpa using h)]; simp
theorem loTo_rep (x : Int) (n : Nat) (hn : 0 < n) : ∀ k, k ≤ n → loTo (List.replicate n x) k = x
  | 0, _ => getD_rep hn
  | k + 1, h => by rw [loTo, loTo_rep x n hn k (by omega), getD_rep (by omega)]; omega
theorem hiTo_rep (x : Int) (n : Nat) (hn : 0 < n) : ∀ k, k ≤ n → hiTo (List.replicate n x) k = x
  | 0, _ => getD_rep hn
  | k + 1, h => by rw [hiTo, hiTo_rep x n hn k (by omega), getD_rep (by omega)]; omega
theorem pw_rep (x : Int) (n : Nat) (hn : 0 < n) : pw (List.replicate n x) = 0 := by
  rw [← pw_is, List.length_replicate, loTo_rep x n hn n (Nat.le_refl _), hiTo_rep x n hn n (Nat.le_refl _)]
  simp [Lib.bitLen, Lib.bitLenAux]
theorem lo_rep (x : Int) (n : Nat) (hn : 0 < n) : lo (List.replicate n x) = x := by
  rw [← lo_is, List.length_replicate, loTo_rep x n hn n (Nat.le_refl _)]
theorem packB_rep (x : Int) (n : Nat) (hn : 0 < n) : (packB (List.replicate n x)).length = (vint (zz x)).length + 1 := by
  have hz : nb (List.replicate n x) = 0 := by rw [nb_eq, pw_rep x n hn]; simp
  unfold packB
  rw [if_neg (by simp; omega), lo_rep x n hn]
  simp [allBits_len, hz]
theorem vint_len2 {n : Nat} (h : n ≤ 256) : (vint n).length ≤ 2 := vint_len_pow 1 n (Nat.lt_of_le_of_lt h (by decide))
theorem vint_pos (n : Nat) : 1 ≤ (vint n).length := by
  by_cases h : n < 128
  · rw [vint_lt h]; simp
  · rw [vint_ge h]; simp
theorem runsTo_rep (x : Int) (n : Nat) : ∀ k, k ≤ n → runsTo (List.replicate n x) k = if k = 0 then 0 else 1
  | 0, _ => rfl
  | k + 1, h => by
    rw [runsTo, runsTo_rep x n k (by omega)]
    by_cases h0 : k = 0
    · subst h0; simp
    · have e1 := getD_rep (x := x) (show k < n by omega)
      have e2 := getD_rep (x := x) (show k - 1 < n by omega)
      rw [if_neg h0, e1, e2]
      simp [h0]
theorem col2_len (x : Int) (n : Nat) (h : n + 1 ≤ 256) : colErr 2 (List.replicate (n + 1) x) = 0 ∧ (colB 2 (List.replicate (n + 1) x)).length = 1 + ((vint (n + 1)).length + ((vint (zz x)).length + (vint (n + 1)).length)) := by
  have he : colErr 2 (List.replicate (n + 1) x) = 0 := by unfold colErr; rw [if_neg (by decide), if_neg (by simp; omega)]
  refine ⟨he, ?_⟩
  rw [colB_ok he]
  simp only [bodyB, List.length_append, List.length_replicate, List.length_cons, List.length_nil]
  rw [if_neg (by decide), if_neg (by decide), if_pos trivial, runsB_rep, List.length_append]
theorem col3_len (x : Int) (n : Nat) (h : n + 1 ≤ 256) : colErr 3 (List.replicate (n + 1) x) = 0 ∧ (colB 3 (List.replicate (n + 1) x)).length = 1 + ((vint (n + 1)).length + ((vint (zz x)).length + 1)) := by
  have he : colErr 3 (List.replicate (n + 1) x) = 0 := by unfold colErr; rw [if_neg (by decide), if_neg (by simp; omega)]
  refine ⟨he, ?_⟩
  rw [colB_ok he]
  simp only [bodyB, List.length_append, List.length_replicate, List.length_cons, List.length_nil]
  rw [if_neg (by decide), if_neg (by decide), if_neg (by decide), packB_rep _ _ (by omega)]

def fil (x : Int) (n k : Nat) : Array Value := ((List.replicate k x ++ List.replicate (n + 1 - k) 0).map (Value.int .i64)).toArray
theorem fil_size {x : Int} {n k : Nat} (h : k ≤ n + 1) : (fil x n k).size = n + 1 := by simp [fil]; omega
theorem fil_set {x : Int} {n k : Nat} (h : k < n + 1) : (fil x n k).setIfInBounds k (.int .i64 x) = fil x n (k + 1) := by
  unfold fil
  rw [List.setIfInBounds_toArray, ← List.map_set]
  congr 2
  obtain ⟨m, hm⟩ : ∃ m, n + 1 - k = m + 1 := ⟨n - k, by omega⟩
  rw [hm, show n + 1 - (k + 1) = m from by omega, List.set_append_right _ _ (by simp)]
  simp only [List.length_replicate, Nat.sub_self, List.replicate_succ, List.set_cons_zero]
  rw [← List.replicate_succ, List.replicate_succ', List.append_assoc]; rfl
set_option maxHeartbeats 2000000 in
set_option maxRecDepth 100000 in
theorem law_runslength (x : Int) (n : Nat) (w : World) (hx : I64 x) (hn : n ≤ 255) :
    Calls Try.prog 4 #[.int .i64 x, .int .u8 n] w (RetExt (.bool true) w) := by
  have HX := Lib.hid hx
  have hmk : ∀ w, Sem.run Try.prog (Instr.makeSlice 22 (.int .i64 (1 + (n : Int))) (.int .i64 (1 + (n : Int)))) w = .ok (.slice (some ⟨w.heap.size, 0, none⟩) (n + 1) (n + 1)) (w.alloc (.cells (Array.replicate (n + 1) (.int .i64 0)) 3)) := fun w => by
    rw [show (1 + (n : Int)) = ((n + 1 : Nat) : Int) from by omega]
    exact make_any (P := Try.prog) Try.underlying22 intInfo rfl (by decide) (n + 1) (by omega) w
  clear hx
  go_enter Try.func4, Try.ntmps4
  go_wp2_with (go_at_call 9; refine (awake_any _).mono ?_; rintro e w1 ⟨rfl, hg1⟩)
  clear hmk
  obtain ⟨g, hg⟩ : ∃ g, g = w1.heap.size := ⟨_, rfl⟩
  have BL : Hid (Blk (w1.alloc (.cells (Array.replicate (n + 1) (Value.int .i64 0)) 3)) g 3 (fil x n 0)) := by
    show Blk _ _ _ _
    rw [hg, show fil x n 0 = Array.replicate (n + 1) (Value.int .i64 0) from by simp [fil]]
    exact Blk.new _ _ _
  rw [← hg]
  have hgl : w1.heap.size ≤ g := by omega
  clear hg
  go_loopw [6] (fun i wr => ∃ k : Nat, k ≤ n + 1 ∧ i = .int .i64 k ∧ Blk wr g 3 (fil x n k) ∧ w1.grownBy wr none) (fun i _ => n + 1 - (intOf i).toNat)
  case atStart => exact ⟨0, by omega, rfl, BL.out, only_alloc (only_refl _ _) _⟩
  case round =>
    obtain ⟨k, hk, rfl, hB, hG⟩ := hrel
    have HB := Lib.hid hB
    have HG := Lib.hid hG
    clear hB hG BL
    by_cases hlt : k < n + 1
    · obtain ⟨old, hold⟩ : ∃ u, (fil x n k)[k]? = some u := ⟨_, Array.getElem?_eq_getElem (by rw [fil_size hk]; exact hlt)⟩
      have hcell := (HB.out.cell k).trans hold
      have hfr := HB.out.frozen k
      have hB2 := HB.out.set_ k (.int .i64 x)
      rw [fil_set hlt] at hB2
      have B2 := Lib.hid hB2
      clear hold hB2
      go_wp2_with fail
      go_roundw
      case rel => exact ⟨k + 1, by omega, by go_num, B2.out, only_setNew HG.out hgl _⟩
      case measure => simp [intOf]; omega
    · obtain rfl : k = n + 1 := by omega
      have hR := HB.out.rd
      rw [show (fil x n (n + 1)).toList = (List.replicate (n + 1) x).map (.int .i64) from by simp [fil]] at hR
      have R := Lib.hid (hR.mono (S' := fun _ => True) (fun _ _ _ => trivial))
      have HI : Hid (∀ y ∈ List.replicate (n + 1) x, I64 y) := fun y hy => by rw [List.eq_of_mem_replicate hy]; exact HX.out
      have GW : Hid (w.grownBy wr none) := only_trans hg1 HG.out
      clear hR HB HG
      have R1 : Hid (Rd (fun _ => True) wr (some ⟨g, 0, none⟩) ((List.replicate (0 + 1) x).map (.int .i64))) := by
        have h := R.out.take 1
        rw [← List.map_take] at h
        show Rd _ _ _ _
        simpa [List.take_replicate] using h
      have HI1 : Hid (∀ y ∈ List.replicate (0 + 1) x, I64 y) := fun y hy => by rw [List.eq_of_mem_replicate hy]; exact HX.out
      obtain ⟨e1, l1⟩ := col2_len x 0 (by omega)
      obtain ⟨e2, l2⟩ := col2_len x n (by omega)
      obtain ⟨e3, l3⟩ := col3_len x n (by omega)
      have p1 := vint_pos (0 + 1)
      have p2 := vint_len2 (n := n + 1) (by omega)
      have p3 := vint_pos (n + 1)
      have LE := Lib.hid (And.intro e1 (And.intro e2 e3))
      have LL : Hid ((colB 2 (List.replicate (n + 1) x)).length ≤ (colB 2 (List.replicate (0 + 1) x)).length + 2 ∧ (colB 3 (List.replicate (n + 1) x)).length ≤ (colB 2 (List.replicate (n + 1) x)).length + 1 ∧ (colB 2 (List.replicate (n + 1) x)).length ≤ 1000 ∧ (colB 2 (List.replicate (0 + 1) x)).length ≤ 1000) := by
        have hz := vint_len10 (zz_lt HX.out)
        have p4 := vint_len2 (n := 0 + 1) (by omega)
        exact ⟨by omega, by omega, by omega, by omega⟩
      clear e1 e2 e3 l1 l2 l3 p1 p2 p3
      go_wp2_with fail
      have c1 := encas_2 (some ⟨g, 0, none⟩) (List.replicate (0 + 1) x) (n + 1) wr R1.out (by simp) HI1.out
      rw [List.length_replicate] at c1
      refine c1.mono ?_
      clear c1
      rintro e w2 ⟨v2, rfl, hB2, hg2⟩
      rw [LE.out.1]
      obtain ⟨A2, c2, rfl, -, -, -⟩ := hB2.rd
      have R2 := Lib.hid (R.out.grown hg2 (by simp))
      have G2 : Hid (w.grownBy w2 none) := only_trans GW.out hg2
      clear hB2 hg2
      generalize (colB 2 (List.replicate (0 + 1) x)).length = l2 at *
      go_wp2_with fail
      have c1 := encas_2 (some ⟨g, 0, none⟩) (List.replicate (n + 1) x) (n + 1) w2 R2.out (by simp; omega) HI.out
      rw [List.length_replicate] at c1
      refine c1.mono ?_
      clear c1
      rintro e w3 ⟨v3, rfl, hB3, hg3⟩
      rw [LE.out.2.1]
      obtain ⟨A3, c3, rfl, -, -, -⟩ := hB3.rd
      have R3 := Lib.hid (R2.out.grown hg3 (by simp))
      have G3 : Hid (w.grownBy w3 none) := only_trans G2.out hg3
      clear hB3 hg3
      generalize (colB 2 (List.replicate (n + 1) x)).length = l1 at *
      go_wp2_with fail
      have c1 := encas_3 (some ⟨g, 0, none⟩) (List.replicate (n + 1) x) (n + 1) w3 R3.out (by simp; omega) HI.out
      rw [List.length_replicate] at c1
      refine c1.mono ?_
      clear c1
      rintro e w4 ⟨v4, rfl, hB4, hg4⟩
      rw [LE.out.2.2]
      obtain ⟨A4, c4, rfl, -, -, -⟩ := hB4.rd
      have R4 := Lib.hid (R3.out.grown hg4 (by simp))
      have G4 : Hid (w.grownBy w4 none) := only_trans G3.out hg4
      clear hB4 hg4
      generalize (colB 3 (List.replicate (n + 1) x)).length = l3 at *
      go_wp2_with fail
      have c1 := runs_any (some ⟨g, 0, none⟩) (List.replicate (n + 1) x) (n + 1) w4 R4.out (by simp; omega)
      rw [List.length_replicate, runsTo_rep x (n + 1) (n + 1) (Nat.le_refl _), if_neg (by omega)] at c1
      refine c1.mono ?_
      clear c1
      rintro e w5 ⟨rfl, n5, rfl⟩
      obtain ⟨q1, q2, q3, q4⟩ := LL.out
      have d1 : decide ((l1 : Int) ≤ (l2 : Int) + 2) = true := by simp; omega
      have d2 : decide ((l3 : Int) ≤ (l1 : Int) + 1) = true := by simp; omega
      go_wp2_with fail
      go_ret
      exact ⟨rfl, only_drewN G4.out _⟩
end Go.Proofs.Ytebakogdbeeljaa
