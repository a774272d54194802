/- event.Less. No condition. -/
import Derived.Test.YtphglalphejppaaLess
import Derived.StillTailTactics
namespace Go.Proofs.Ytphglalphejppaa
open Go.RowKit
set_option linter.unusedVariables false
set_option linter.unusedSimpArgs false

def cmpI (a b : Int) : Int := if a < b then -1 else if b < a then 1 else 0
set_option maxHeartbeats 1000000 in
theorem cmpI_any (a b : Int) (w : World) : Calls Try.prog 51 #[.int .i64 a, .int .i64 b] w (fun e w' => e = .returned (.int .i64 (cmpI a b)) ∧ w' = w) := by
  by_cases h1 : a < b
  · have hv : cmpI a b = -1 := by simp [cmpI, h1]
    rw [hv]
    have d1 : decide (a < b) = true := by simp; omega
    clear hv h1
    go_enter Try.func51, Try.ntmps51
    go_wp2
    go_ret
    exact ⟨rfl, rfl⟩
  · have d1 : decide (a < b) = false := by simp; omega
    by_cases h2 : b < a
    · have hv : cmpI a b = 1 := by simp [cmpI, h1, h2]
      rw [hv]
      have d2 : decide (b < a) = true := by simp; omega
      clear hv h1 h2
      go_enter Try.func51, Try.ntmps51
      go_wp2
      go_ret
      exact ⟨rfl, rfl⟩
    · have hv : cmpI a b = 0 := by simp [cmpI, h1, h2]
      rw [hv]
      have d2 : decide (b < a) = false := by simp; omega
      clear hv h1 h2
      go_enter Try.func51, Try.ntmps51
      go_wp2
      go_ret
      exact ⟨rfl, rfl⟩
/-- the first number that is not 0 -/
def fnz : List Int → Int
  | [] => 0
  | a :: l => if a = 0 then fnz l else a
theorem fnz_drop {vs : List Int} {k : Nat} (h : k < vs.length) : fnz (vs.drop k) = if vs[k] = 0 then fnz (vs.drop (k + 1)) else vs[k] := by
  rw [List.drop_eq_getElem_cons h, fnz]
set_option maxHeartbeats 1000000 in
theorem orN_any (g c : Nat) (vs : List Int) (w : World) (hB : Blk w g 3 (vs.map (.int .i64)).toArray) (hl : vs.length ≤ 100000) :
    Calls Try.prog 50 #[.slice (some ⟨g, 0, none⟩) vs.length c] w (fun e w' => e = .returned (.int .i64 (fnz vs)) ∧ w' = w) := by
  have HB := Lib.hid hB
  clear hB
  go_enter Try.func50, Try.ntmps50
  go_wp2
  go_loop [8] (fun i => ∃ k : Nat, k ≤ vs.length ∧ i = .int .i64 k ∧ fnz (vs.drop k) = fnz vs) (fun i => vs.length - (intOf i).toNat)
  case atStart => exact ⟨0, by omega, rfl, rfl⟩
  case round =>
    obtain ⟨k, hk, rfl, h1⟩ := hrel
    have H1 := Lib.hid h1
    clear h1
    by_cases hlt : k < vs.length
    · have kI : (k : Int) < (vs.length : Int) := by omega
      obtain ⟨x, hx⟩ : ∃ x, vs[k] = x := ⟨_, rfl⟩
      have hcell : w.cell? ⟨g, k, none⟩ = some (.int .i64 x) := by rw [HB.out.cell k]; simp [hlt, hx]
      have HF := Lib.hid (fnz_drop hlt)
      rw [hx] at HF
      clear hx
      by_cases hz : x = 0
      · have d1 : (x != 0) = false := by simp [hz]
        have HZ := Lib.hid hz
        clear hz
        go_wp2
        go_round
        case rel => exact ⟨k + 1, by omega, by go_num, by rw [← H1.out, HF.out, if_pos HZ.out]⟩
        case measure => simp [intOf]; omega
      · have d1 : (x != 0) = true := by simp [hz]
        have HZ := Lib.hid hz
        clear hz
        go_wp2
        go_ret
        exact ⟨ret_int (by rw [← H1.out, HF.out, if_neg HZ.out]), rfl⟩
    · go_wp2
      go_ret
      exact ⟨ret_int (by rw [← H1.out, List.drop_eq_nil_of_le (by omega)]; rfl), rfl⟩
theorem less_fnz (a b : Ev) : decide (fnz [cmpI a.time b.time, cmpI a.host b.host, cmpI a.file b.file, cmpI a.beg b.beg] < 0) = a.less b := by
  have h0 : ∀ {x y : Int}, cmpI x y = 0 ↔ x = y := by intro x y; unfold cmpI; split; omega; split; omega; omega
  have h1 : ∀ {x y : Int}, x ≠ y → decide (cmpI x y < 0) = decide (x < y) := by intro x y h; unfold cmpI; split; simp [*]; split; simp; omega; omega
  by_cases e1 : a.time = b.time
  · have z1 := h0.2 e1
    by_cases e2 : a.host = b.host
    · have z2 := h0.2 e2
      by_cases e3 : a.file = b.file
      · have z3 := h0.2 e3
        rw [show a.less b = decide (a.beg < b.beg) by simp [Ev.less, e1, e2, e3]]
        by_cases e4 : a.beg = b.beg
        · have z4 := h0.2 e4
          rw [show fnz [cmpI a.time b.time, cmpI a.host b.host, cmpI a.file b.file, cmpI a.beg b.beg] = 0 by simp only [fnz, z1, z2, z3, z4, if_true]]
          simp; omega
        · have z4 := mt h0.1 e4
          rw [show fnz [cmpI a.time b.time, cmpI a.host b.host, cmpI a.file b.file, cmpI a.beg b.beg] = cmpI a.beg b.beg by simp only [fnz, z1, z2, z3, z4, if_true, if_false]]
          exact h1 e4
      · have z3 := mt h0.1 e3
        rw [show a.less b = decide (a.file < b.file) by simp [Ev.less, e1, e2, e3], show fnz [cmpI a.time b.time, cmpI a.host b.host, cmpI a.file b.file, cmpI a.beg b.beg] = cmpI a.file b.file by simp only [fnz, z1, z2, z3, if_true, if_false]]
        exact h1 e3
    · have z2 := mt h0.1 e2
      rw [show a.less b = decide (a.host < b.host) by simp [Ev.less, e1, e2], show fnz [cmpI a.time b.time, cmpI a.host b.host, cmpI a.file b.file, cmpI a.beg b.beg] = cmpI a.host b.host by simp only [fnz, z1, z2, if_true, if_false]]
      exact h1 e2
  · have z1 := mt h0.1 e1
    rw [show a.less b = decide (a.time < b.time) by simp [Ev.less, e1], show fnz [cmpI a.time b.time, cmpI a.host b.host, cmpI a.file b.file, cmpI a.beg b.beg] = cmpI a.time b.time by simp only [fnz, z1, if_false]]
    exact h1 e1
theorem blk_new3 (w : World) (o1 o2 : Obj) (t : TypeId) (cs : Array Value) : Blk (((w.alloc o1).alloc o2).alloc (.cells cs t)).drew (w.heap.size + 1 + 1) t cs := by
  have h := Blk.new ((w.alloc o1).alloc o2) t cs
  rw [World.size_alloc, World.size_alloc] at h
  exact h
set_option maxHeartbeats 2000000 in
set_option maxRecDepth 100000 in
theorem eless_any (a b : Ev) (w : World) : Calls Try.prog 32 #[.agg a.cells.toArray, .agg b.cells.toArray] w (BoolExt (a.less b) w) := by
  have HL := Lib.hid (less_fnz a b)
  obtain ⟨c1, hc1⟩ : ∃ c, c = cmpI a.time b.time := ⟨_, rfl⟩
  obtain ⟨c2, hc2⟩ : ∃ c, c = cmpI a.host b.host := ⟨_, rfl⟩
  obtain ⟨c3, hc3⟩ : ∃ c, c = cmpI a.file b.file := ⟨_, rfl⟩
  obtain ⟨c4, hc4⟩ : ∃ c, c = cmpI a.beg b.beg := ⟨_, rfl⟩
  have K1 : Hid (∀ w1, Calls Try.prog 51 #[.int .i64 a.time, .int .i64 b.time] w1 (fun e w' => e = .returned (.int .i64 c1) ∧ w' = w1)) := Lib.hid (fun w1 => by rw [hc1]; exact cmpI_any _ _ _)
  have K2 : Hid (∀ w1, Calls Try.prog 51 #[.int .i64 a.host, .int .i64 b.host] w1 (fun e w' => e = .returned (.int .i64 c2) ∧ w' = w1)) := Lib.hid (fun w1 => by rw [hc2]; exact cmpI_any _ _ _)
  have K3 : Hid (∀ w1, Calls Try.prog 51 #[.int .i64 a.file, .int .i64 b.file] w1 (fun e w' => e = .returned (.int .i64 c3) ∧ w' = w1)) := Lib.hid (fun w1 => by rw [hc3]; exact cmpI_any _ _ _)
  have K4 : Hid (∀ w1, Calls Try.prog 51 #[.int .i64 a.beg, .int .i64 b.beg] w1 (fun e w' => e = .returned (.int .i64 c4) ∧ w' = w1)) := Lib.hid (fun w1 => by rw [hc4]; exact cmpI_any _ _ _)
  rw [← hc1, ← hc2, ← hc3, ← hc4] at HL
  obtain ⟨f, hf⟩ : ∃ f, f = fnz [c1, c2, c3, c4] := ⟨_, rfl⟩
  have HF := Lib.hid hf
  rw [← hf] at HL
  rw [← HL.out]
  have hE : w.grownBy ((w.alloc (.cells a.cells.toArray 34)).alloc (.cells b.cells.toArray 34)) none := only_alloc (only_alloc (only_refl _ _) _) _
  have HE := Lib.hid hE
  obtain ⟨W0, hW0⟩ : ∃ W0, W0 = (w.alloc (.cells a.cells.toArray 34)).alloc (.cells b.cells.toArray 34) := ⟨_, rfl⟩
  clear hE hc1 hc2 hc3 hc4 hf HL
  simp only [Ev.cells] at HE ⊢ hW0
  have HW0 := Lib.hid hW0
  have hs0 : W0.heap.size = w.heap.size + 2 := by rw [hW0]; simp
  have HS0 := Lib.hid hs0
  clear hW0 hs0
  go_enter Try.func32, Try.ntmps32
  go_wp2_with fail
  refine wp_region_still_tail 20 (by kernel_rfl) (by kernel_rfl) ?_
  change wpStill _ _ (World.drew _) (fun a' => wpList _ _ _ _ a' (World.drew _)) _ _
  simp only [List.take_succ_cons, List.take_zero, List.drop_succ_cons, List.drop_zero]
  repeat still_step
  still_call (K1.out _)
  repeat still_step
  still_call (K2.out _)
  repeat still_step
  still_call (K3.out _)
  repeat still_step
  still_call (K4.out _)
  refine wpStill_nil ?_
  go_wp2_with fail
  refine (orN_any (w.heap.size + 1 + 1) 4 [c1, c2, c3, c4] _ (blk_new3 _ _ _ _ _) (by simp)).mono ?_
  rintro e w' ⟨rfl, rfl⟩
  rw [← HF.out]
  go_wp2_with fail
  go_ret
  exact ⟨rfl, only_drew (only_alloc HE.out _)⟩
end Go.Proofs.Ytphglalphejppaa
