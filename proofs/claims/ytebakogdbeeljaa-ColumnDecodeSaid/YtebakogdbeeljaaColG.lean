/- EncodeAs of chapter 24: the program. Conditions: sizes. -/
import Derived.Test.YtebakogdbeeljaaColP
import Derived.Test.YtebakogdbeeljaaColR
import Derived.Deep.RegionWith
import Derived.Deep.DeepMust
import Derived.Laws.EntriesVeiled
namespace Go.Proofs.Ytebakogdbeeljaa
open Go.RowKit
set_option linter.unusedVariables false
set_option linter.unusedSimpArgs false

def RetExt (v : Value) (w : World) (e : Ending) (w' : World) : Prop := e = .returned v ∧ w.grownBy w' none
def encTab : Value := .agg #[.func (.func 43) #[] #[], .func (.func 44) #[] #[], .func (.func 45) #[] #[], .func (.func 46) #[] #[]]
theorem encoders_any (w : World) : Calls Try.prog 32 #[] w (RetExt encTab w) := by
  go_enter Try.func32, Try.ntmps32
  go_wp2
  refine bodyPost_ret (v := encTab) ?_ rfl ?_
  · simp [results, Try.results32, go_sem, encTab]
  · exact ⟨rfl, only_alloc (only_refl _ _) _⟩
def bodyB (kind : Int) (vs : List Int) : List Int :=
  if kind = 0 then genTo (plF vs) vs.length else if kind = 1 then genTo (dlF vs) vs.length else if kind = 2 then runsB vs else packB vs
def colErr (kind : Int) (vs : List Int) : Int := if kind < 0 ∨ 4 ≤ kind then 2 else if 16384 < vs.length then 4 else 0
def colB (kind : Int) (vs : List Int) : List Int := if colErr kind vs = 0 then [kind] ++ (vint vs.length ++ bodyB kind vs) else []
theorem colB_ok {kind : Int} {vs : List Int} (h : colErr kind vs = 0) : colB kind vs = [kind] ++ (vint vs.length ++ bodyB kind vs) := by unfold colB; rw [if_pos h]
theorem colB_no {kind : Int} {vs : List Int} (h : ¬ colErr kind vs = 0) : colB kind vs = [] := by unfold colB; rw [if_neg h]
def CEPost (w : World) (kind : Int) (vs : List Int) (e : Ending) (w' : World) : Prop :=
  ∃ v, e = .returned (.tuple #[v, .int .i64 (colErr kind vs)]) ∧ Byts w.heap.size w' v (colB kind vs) ∧ w.grownBy w' none
theorem Rd.gr {w w' : World} {B : Nat} {A : Option Addr} {xs : List Value} (h : Rd (· < B) w A xs) (hg : w.grownBy w' none) : Rd (· < B) w' A xs := h.grown hg (by simp)
theorem byts_one (w : World) (x : Int) (base : Nat) (hb : base ≤ w.heap.size) : Byts base (w.alloc (.cells #[.int .u8 x] 5)) (.slice (some ⟨w.heap.size, 0, none⟩) 1 1) [x] :=
  ⟨by simp, .inr ⟨w.heap.size, 1, #[.int .u8 x], rfl, hb, heap_alloc_new w _, Nat.le_refl _, by unfold maxLen; decide, by simp, by simp⟩⟩

set_option maxHeartbeats 2000000 in
set_option maxRecDepth 100000 in
theorem encas_0 (A : Option Addr) (vs : List Int) (c : Nat) (w : World) (hr : Rd (fun _ => True) w A (vs.map (.int .i64))) (hl : vs.length ≤ 16384) (hi : ∀ x ∈ vs, I64 x) :
    Calls Try.prog 15 #[.int .i64 0, .slice A vs.length c] w (CEPost w 0 vs) := by
  have HR := Lib.hid (hr.mono (S' := (· < w.heap.size)) (fun _ _ h => h))
  have HI := Lib.hid hi
  have HE : Hid (colErr 0 vs = 0) := by show colErr 0 vs = 0; unfold colErr; rw [if_neg (by decide), if_neg (by omega)]
  have HB : Hid (colB 0 vs = [0] ++ vint vs.length ++ bodyB 0 vs) := by show colB 0 vs = _; rw [colB_ok HE.out, List.append_assoc]
  have hlv := vint_len10 (n := vs.length) (by omega)
  have dl : decide ((16384 : Int) < (vs.length : Int)) = false := by simp; omega
  have i0 : ∀ w, (Instr.index 53 encTab (.int .i64 0)).run Try.prog w = .ok (.func (.func 43) #[] #[]) w := fun _ => by kernel_rfl
  have hu8 : IntKind.u8.wrap 0 = 0 := by decide
  have hu64 : IntKind.u64.wrap (vs.length : Int) = (vs.length : Int) := by rw [IntKind.wrap_u64]; omega
  clear hr hi
  go_enter Try.func15, Try.ntmps15
  go_wp2_with fail
  go_region_with (first
    | (have tk := G2; go_at_call 43; go_must (refine (plain_any w.heap.size _ ([0] ++ vint vs.length) A vs c _ (by first | exact B2.out | exact own_ext B2.out hg1) (by first | exact R2.out | exact R2.out.gr hg1) (by simp; omega) (by omega) HI.out (by first | exact G2.out.size | exact Nat.le_trans G2.out.size hg1.size)).mono ?_); rintro e w3 ⟨v3, rfl, hB3, hO3⟩; go_must (have G3 : Hid (w.grownBy w3 none) := by first | exact Byts.only B2.out hO3 G2.out (Nat.le_refl _) | exact Byts.only (own_ext B2.out hg1) hO3 (only_trans G2.out hg1) (Nat.le_refl _)); have B3 := Lib.hid hB3; clear hB3 hO3 tk)
    | (go_at_call 33; go_must (refine (cvarint_any w.heap.size _ [0] vs.length _ (by first | exact byts_one _ _ _ (by exact Nat.le_refl _) | exact byts_one _ _ _ (by exact hg1.size) | exact own_ext (own_drew (byts_one _ _ _ (by exact Nat.le_refl _))) hg1 | exact own_drew (byts_one _ _ _ (by exact Nat.le_refl _))) (by simp) (by omega) (by first | exact Nat.le_trans (by exact hg1.size) (by simp) | (simp; done) | exact Nat.le_trans (by simp) hg1.size)).mono ?_); rintro e w2 ⟨v2, rfl, hB2, hO2⟩; have B2 := Lib.hid hB2; go_must (have G2 : Hid (w.grownBy w2 none) := by first | exact Byts.only (own_drew (byts_one _ _ _ (by exact Nat.le_refl _))) hO2 (only_drew (only_alloc (only_refl _ _) _)) (Nat.le_refl _) | exact Byts.only (byts_one _ _ _ (by exact hg1.size)) hO2 (only_alloc (only_trans (only_drew (only_refl _ _)) hg1) _) (Nat.le_refl _) | exact Byts.only (own_ext (own_drew (byts_one _ _ _ (by exact Nat.le_refl _))) hg1) hO2 (only_trans (only_drew (only_alloc (only_refl _ _) _)) hg1) (Nat.le_refl _)); have R2 : Hid (Rd (· < w.heap.size) w2 A (vs.map (.int .i64))) := HR.out.gr G2.out; clear hB2 hO2)
    | (go_at_call 32; refine (encoders_any _).mono ?_; rintro e w1 ⟨rfl, hg1⟩))
  all_goals
    go_wp2_with fail
    go_ret2
    exact ⟨v3, by rw [HE.out]; rfl, by rw [HB.out]; exact B3.out, G3.out⟩

set_option maxHeartbeats 2000000 in
set_option maxRecDepth 100000 in
theorem encas_1 (A : Option Addr) (vs : List Int) (c : Nat) (w : World) (hr : Rd (fun _ => True) w A (vs.map (.int .i64))) (hl : vs.length ≤ 16384) (hi : ∀ x ∈ vs, I64 x) :
    Calls Try.prog 15 #[.int .i64 1, .slice A vs.length c] w (CEPost w 1 vs) := by
  have HR := Lib.hid (hr.mono (S' := (· < w.heap.size)) (fun _ _ h => h))
  have HI := Lib.hid hi
  have HE : Hid (colErr 1 vs = 0) := by show colErr 1 vs = 0; unfold colErr; rw [if_neg (by decide), if_neg (by omega)]
  have HB : Hid (colB 1 vs = [1] ++ vint vs.length ++ bodyB 1 vs) := by show colB 1 vs = _; rw [colB_ok HE.out, List.append_assoc]
  have hlv := vint_len10 (n := vs.length) (by omega)
  have dl : decide ((16384 : Int) < (vs.length : Int)) = false := by simp; omega
  have i0 : ∀ w, (Instr.index 53 encTab (.int .i64 1)).run Try.prog w = .ok (.func (.func 44) #[] #[]) w := fun _ => by kernel_rfl
  have hu8 : IntKind.u8.wrap 1 = 1 := by decide
  have hu64 : IntKind.u64.wrap (vs.length : Int) = (vs.length : Int) := by rw [IntKind.wrap_u64]; omega
  clear hr hi
  go_enter Try.func15, Try.ntmps15
  go_wp2_with fail
  go_region_with (first
    | (have tk := G2; go_at_call 44; go_must (refine (delta_any w.heap.size _ ([1] ++ vint vs.length) A vs c _ (by first | exact B2.out | exact own_ext B2.out hg1) (by first | exact R2.out | exact R2.out.gr hg1) (by simp; omega) (by omega) HI.out (by first | exact G2.out.size | exact Nat.le_trans G2.out.size hg1.size)).mono ?_); rintro e w3 ⟨v3, rfl, hB3, hO3⟩; go_must (have G3 : Hid (w.grownBy w3 none) := by first | exact Byts.only B2.out hO3 G2.out (Nat.le_refl _) | exact Byts.only (own_ext B2.out hg1) hO3 (only_trans G2.out hg1) (Nat.le_refl _)); have B3 := Lib.hid hB3; clear hB3 hO3 tk)
    | (go_at_call 33; go_must (refine (cvarint_any w.heap.size _ [1] vs.length _ (by first | exact byts_one _ _ _ (by exact Nat.le_refl _) | exact byts_one _ _ _ (by exact hg1.size) | exact own_ext (own_drew (byts_one _ _ _ (by exact Nat.le_refl _))) hg1 | exact own_drew (byts_one _ _ _ (by exact Nat.le_refl _))) (by simp) (by omega) (by first | exact Nat.le_trans (by exact hg1.size) (by simp) | (simp; done) | exact Nat.le_trans (by simp) hg1.size)).mono ?_); rintro e w2 ⟨v2, rfl, hB2, hO2⟩; have B2 := Lib.hid hB2; go_must (have G2 : Hid (w.grownBy w2 none) := by first | exact Byts.only (own_drew (byts_one _ _ _ (by exact Nat.le_refl _))) hO2 (only_drew (only_alloc (only_refl _ _) _)) (Nat.le_refl _) | exact Byts.only (byts_one _ _ _ (by exact hg1.size)) hO2 (only_alloc (only_trans (only_drew (only_refl _ _)) hg1) _) (Nat.le_refl _) | exact Byts.only (own_ext (own_drew (byts_one _ _ _ (by exact Nat.le_refl _))) hg1) hO2 (only_trans (only_drew (only_alloc (only_refl _ _) _)) hg1) (Nat.le_refl _)); have R2 : Hid (Rd (· < w.heap.size) w2 A (vs.map (.int .i64))) := HR.out.gr G2.out; clear hB2 hO2)
    | (go_at_call 32; refine (encoders_any _).mono ?_; rintro e w1 ⟨rfl, hg1⟩))
  all_goals
    go_wp2_with fail
    go_ret2
    exact ⟨v3, by rw [HE.out]; rfl, by rw [HB.out]; exact B3.out, G3.out⟩

set_option maxHeartbeats 2000000 in
set_option maxRecDepth 100000 in
theorem encas_2 (A : Option Addr) (vs : List Int) (c : Nat) (w : World) (hr : Rd (fun _ => True) w A (vs.map (.int .i64))) (hl : vs.length ≤ 16384) (hi : ∀ x ∈ vs, I64 x) :
    Calls Try.prog 15 #[.int .i64 2, .slice A vs.length c] w (CEPost w 2 vs) := by
  have HR := Lib.hid (hr.mono (S' := (· < w.heap.size)) (fun _ _ h => h))
  have HI := Lib.hid hi
  have HE : Hid (colErr 2 vs = 0) := by show colErr 2 vs = 0; unfold colErr; rw [if_neg (by decide), if_neg (by omega)]
  have HB : Hid (colB 2 vs = [2] ++ vint vs.length ++ bodyB 2 vs) := by show colB 2 vs = _; rw [colB_ok HE.out, List.append_assoc]
  have hlv := vint_len10 (n := vs.length) (by omega)
  have dl : decide ((16384 : Int) < (vs.length : Int)) = false := by simp; omega
  have i0 : ∀ w, (Instr.index 53 encTab (.int .i64 2)).run Try.prog w = .ok (.func (.func 45) #[] #[]) w := fun _ => by kernel_rfl
  have hu8 : IntKind.u8.wrap 2 = 2 := by decide
  have hu64 : IntKind.u64.wrap (vs.length : Int) = (vs.length : Int) := by rw [IntKind.wrap_u64]; omega
  clear hr hi
  go_enter Try.func15, Try.ntmps15
  go_wp2_with fail
  go_region_with (first
    | (have tk := G2; go_at_call 45; go_must (refine (cruns_any w.heap.size _ ([2] ++ vint vs.length) A vs c _ (by first | exact B2.out | exact own_ext B2.out hg1) (by first | exact R2.out | exact R2.out.gr hg1) (by simp; omega) (by omega) HI.out (by first | exact G2.out.size | exact Nat.le_trans G2.out.size hg1.size)).mono ?_); rintro e w3 ⟨v3, rfl, hB3, hO3⟩; go_must (have G3 : Hid (w.grownBy w3 none) := by first | exact Byts.only B2.out hO3 G2.out (Nat.le_refl _) | exact Byts.only (own_ext B2.out hg1) hO3 (only_trans G2.out hg1) (Nat.le_refl _)); have B3 := Lib.hid hB3; clear hB3 hO3 tk)
    | (go_at_call 33; go_must (refine (cvarint_any w.heap.size _ [2] vs.length _ (by first | exact byts_one _ _ _ (by exact Nat.le_refl _) | exact byts_one _ _ _ (by exact hg1.size) | exact own_ext (own_drew (byts_one _ _ _ (by exact Nat.le_refl _))) hg1 | exact own_drew (byts_one _ _ _ (by exact Nat.le_refl _))) (by simp) (by omega) (by first | exact Nat.le_trans (by exact hg1.size) (by simp) | (simp; done) | exact Nat.le_trans (by simp) hg1.size)).mono ?_); rintro e w2 ⟨v2, rfl, hB2, hO2⟩; have B2 := Lib.hid hB2; go_must (have G2 : Hid (w.grownBy w2 none) := by first | exact Byts.only (own_drew (byts_one _ _ _ (by exact Nat.le_refl _))) hO2 (only_drew (only_alloc (only_refl _ _) _)) (Nat.le_refl _) | exact Byts.only (byts_one _ _ _ (by exact hg1.size)) hO2 (only_alloc (only_trans (only_drew (only_refl _ _)) hg1) _) (Nat.le_refl _) | exact Byts.only (own_ext (own_drew (byts_one _ _ _ (by exact Nat.le_refl _))) hg1) hO2 (only_trans (only_drew (only_alloc (only_refl _ _) _)) hg1) (Nat.le_refl _)); have R2 : Hid (Rd (· < w.heap.size) w2 A (vs.map (.int .i64))) := HR.out.gr G2.out; clear hB2 hO2)
    | (go_at_call 32; refine (encoders_any _).mono ?_; rintro e w1 ⟨rfl, hg1⟩))
  all_goals
    go_wp2_with fail
    go_ret2
    exact ⟨v3, by rw [HE.out]; rfl, by rw [HB.out]; exact B3.out, G3.out⟩

set_option maxHeartbeats 2000000 in
set_option maxRecDepth 100000 in
theorem encas_3 (A : Option Addr) (vs : List Int) (c : Nat) (w : World) (hr : Rd (fun _ => True) w A (vs.map (.int .i64))) (hl : vs.length ≤ 16384) (hi : ∀ x ∈ vs, I64 x) :
    Calls Try.prog 15 #[.int .i64 3, .slice A vs.length c] w (CEPost w 3 vs) := by
  have HR := Lib.hid (hr.mono (S' := (· < w.heap.size)) (fun _ _ h => h))
  have HI := Lib.hid hi
  have HE : Hid (colErr 3 vs = 0) := by show colErr 3 vs = 0; unfold colErr; rw [if_neg (by decide), if_neg (by omega)]
  have HB : Hid (colB 3 vs = [3] ++ vint vs.length ++ bodyB 3 vs) := by show colB 3 vs = _; rw [colB_ok HE.out, List.append_assoc]
  have hlv := vint_len10 (n := vs.length) (by omega)
  have dl : decide ((16384 : Int) < (vs.length : Int)) = false := by simp; omega
  have i0 : ∀ w, (Instr.index 53 encTab (.int .i64 3)).run Try.prog w = .ok (.func (.func 46) #[] #[]) w := fun _ => by kernel_rfl
  have hu8 : IntKind.u8.wrap 3 = 3 := by decide
  have hu64 : IntKind.u64.wrap (vs.length : Int) = (vs.length : Int) := by rw [IntKind.wrap_u64]; omega
  clear hr hi
  go_enter Try.func15, Try.ntmps15
  go_wp2_with fail
  go_region_with (first
    | (have tk := G2; go_at_call 46; go_must (refine (packed_any w.heap.size _ ([3] ++ vint vs.length) A vs c _ (by first | exact B2.out | exact own_ext B2.out hg1) (by first | exact R2.out | exact R2.out.gr hg1) (by simp; omega) (by omega) HI.out (by first | exact G2.out.size | exact Nat.le_trans G2.out.size hg1.size)).mono ?_); rintro e w3 ⟨v3, rfl, hB3, hO3⟩; go_must (have G3 : Hid (w.grownBy w3 none) := by first | exact Byts.only B2.out hO3 G2.out (Nat.le_refl _) | exact Byts.only (own_ext B2.out hg1) hO3 (only_trans G2.out hg1) (Nat.le_refl _)); have B3 := Lib.hid hB3; clear hB3 hO3 tk)
    | (go_at_call 33; go_must (refine (cvarint_any w.heap.size _ [3] vs.length _ (by first | exact byts_one _ _ _ (by exact Nat.le_refl _) | exact byts_one _ _ _ (by exact hg1.size) | exact own_ext (own_drew (byts_one _ _ _ (by exact Nat.le_refl _))) hg1 | exact own_drew (byts_one _ _ _ (by exact Nat.le_refl _))) (by simp) (by omega) (by first | exact Nat.le_trans (by exact hg1.size) (by simp) | (simp; done) | exact Nat.le_trans (by simp) hg1.size)).mono ?_); rintro e w2 ⟨v2, rfl, hB2, hO2⟩; have B2 := Lib.hid hB2; go_must (have G2 : Hid (w.grownBy w2 none) := by first | exact Byts.only (own_drew (byts_one _ _ _ (by exact Nat.le_refl _))) hO2 (only_drew (only_alloc (only_refl _ _) _)) (Nat.le_refl _) | exact Byts.only (byts_one _ _ _ (by exact hg1.size)) hO2 (only_alloc (only_trans (only_drew (only_refl _ _)) hg1) _) (Nat.le_refl _) | exact Byts.only (own_ext (own_drew (byts_one _ _ _ (by exact Nat.le_refl _))) hg1) hO2 (only_trans (only_drew (only_alloc (only_refl _ _) _)) hg1) (Nat.le_refl _)); have R2 : Hid (Rd (· < w.heap.size) w2 A (vs.map (.int .i64))) := HR.out.gr G2.out; clear hB2 hO2)
    | (go_at_call 32; refine (encoders_any _).mono ?_; rintro e w1 ⟨rfl, hg1⟩))
  all_goals
    go_wp2_with fail
    go_ret2
    exact ⟨v3, by rw [HE.out]; rfl, by rw [HB.out]; exact B3.out, G3.out⟩
end Go.Proofs.Ytebakogdbeeljaa
