/- The reader of dictionaries: number, text. Condition: sizes. -/
import Derived.Test.YtgaomilmljepoaaEnc
import Derived.Deep.DeepMust
namespace Go.Proofs.Ytgaomilmljepoaa
open Go.RowKit
set_option linter.unusedVariables false
set_option linter.unusedSimpArgs false

/-- the reader in block g has the bytes bs before it -/
def RdrAt (w : World) (g : Nat) (bs : List Int) (bad : Bool) : Prop :=
  ∃ A c, Blk w g 74 #[.slice A bs.length c, .bool bad] ∧ Rd (· < g) w A (bs.map (.int .u8)) ∧ bs.length ≤ c ∧ c ≤ maxLen ∧ bs.length ≤ 1000000 ∧ ∀ x ∈ bs, 0 ≤ x ∧ x ≤ 255
theorem RdrAt.drewN {w : World} {g : Nat} {bs : List Int} {bad : Bool} (h : RdrAt w g bs bad) (n : Nat) : RdrAt (w.drewN n) g bs bad := h
theorem RdrAt.drew {w : World} {g : Nat} {bs : List Int} {bad : Bool} (h : RdrAt w g bs bad) : RdrAt w.drew g bs bad := h
theorem RdrAt.lt {w : World} {g : Nat} {bs : List Int} {bad : Bool} (h : RdrAt w g bs bad) : g < w.heap.size := by
  obtain ⟨A, c, hb, _⟩ := h; exact hb.lt
theorem RdrAt.setBad {w : World} {g : Nat} {bs : List Int} {bad : Bool} (h : RdrAt w g bs bad) (b : Bool) : RdrAt (w.setCell ⟨g, 1, none⟩ (.bool b)) g bs b := by
  obtain ⟨A, c, hb, hr, h1, h2, h3, h4⟩ := h
  exact ⟨A, c, by simpa using hb.set_ 1 (.bool b), hr.keep (fun k hk _ => Below.heap_setCell _ _ _ _ (by simp; omega)) (by simp [World.setCell]), h1, h2, h3, h4⟩
theorem RdrAt.setB {w : World} {g : Nat} {u : Value} {bad : Bool} {A : Option Addr} {c : Nat} {bs : List Int} (hb : Blk w g 74 #[u, .bool bad]) (hr : Rd (· < g) w A (bs.map (.int .u8))) (h1 : bs.length ≤ c) (h2 : c ≤ maxLen) (h3 : bs.length ≤ 1000000) (h4 : ∀ x ∈ bs, 0 ≤ x ∧ x ≤ 255) : RdrAt (w.setCell ⟨g, 0, none⟩ (.slice A bs.length c)) g bs bad :=
  ⟨A, c, by simpa using hb.set_ 0 (.slice A bs.length c), hr.keep (fun k hk _ => Below.heap_setCell _ _ _ _ (by simp; omega)) (by simp [World.setCell]), h1, h2, h3, h4⟩
theorem RdrAt.grown {w w' : World} {g : Nat} {bs : List Int} {bad : Bool} {row : Option Nat} (h : RdrAt w g bs bad) (hg : w.grownBy w' row) (hr : ∀ b, b ≤ g → some b ≠ row) : RdrAt w' g bs bad := by
  obtain ⟨A, c, hb, hrd, h1, h2, h3, h4⟩ := h
  exact ⟨A, c, hb.grown hg (hr g (Nat.le_refl _)), hrd.grown hg (fun b hb => hr b (by omega)), h1, h2, h3, h4⟩
theorem only_cell {w : World} {g o : Nat} (u : Value) : w.grownBy (w.setCell ⟨g, o, none⟩ u) (some g) := only_setCell (only_refl _ _) (.inl rfl) u

/-- a number of at most most, as the reader takes it: the number and how many bytes -/
def rdN (most : Nat) : List Int → Nat → Nat → Option (Nat × Nat)
  | [], _, _ => none
  | c :: l, i, acc =>
    if most < acc + c.toNat % 128 * 128 ^ i ∨ 3 < i then none
    else if c < 128 then some (acc + c.toNat % 128 * 128 ^ i, i + 1)
    else rdN most l (i + 1) (acc + c.toNat % 128 * 128 ^ i)
theorem rdN_le {most : Nat} : ∀ (l : List Int) (i acc n k : Nat), rdN most l i acc = some (n, k) → n ≤ most ∧ i < k ∧ k ≤ i + l.length := by
  intro l
  induction l with
  | nil => intro i acc n k h; simp [rdN] at h
  | cons c l ih =>
    intro i acc n k h
    rw [rdN] at h
    split at h
    · cases h
    · split at h
      · injection h with h; injection h with h1 h2; simp; omega
      · have := ih _ _ _ _ h; simp; omega
/-- what is left of the reader -/
def rdO (most : Nat) (bs : List Int) (bad : Bool) : Nat × List Int × Bool := match rdN most bs 0 0 with
  | some (n, k) => (n, bs.drop k, bad)
  | none => (0, bs, true)
theorem rdO_le (most : Nat) (bs : List Int) (bad : Bool) : (rdO most bs bad).1 ≤ most ∧ (rdO most bs bad).2.1.length ≤ bs.length := by
  unfold rdO
  cases h : rdN most bs 0 0 with
  | none => simp
  | some p => obtain ⟨n, k⟩ := p; have := rdN_le _ _ _ _ _ h; simp; omega
def NmPost (w : World) (g : Nat) (r : Nat × List Int × Bool) (e : Ending) (w' : World) : Prop :=
  e = .returned (.int .i64 (r.1 : Nat)) ∧ RdrAt w' g r.2.1 r.2.2 ∧ w.grownBy w' (some g)
theorem pow128_le {k : Nat} (h : k ≤ 4) : 128 ^ k ≤ 268435456 := Nat.le_trans (Nat.pow_le_pow_right (by omega) h) (by decide)
theorem pow_128 (k : Nat) : (2 : Int) ^ (7 * k) = ((128 ^ k : Nat) : Int) := by
  rw [show (128 : Nat) = 2 ^ 7 from rfl, ← Nat.pow_mul, Int.natCast_pow]; rfl
theorem or_add {a P m : Nat} {i : Nat} (hP : P = 2 ^ i) (h : a < P) : a ||| m * P = a + P * m := by
  subst hP
  rw [Nat.or_comm, Nat.mul_comm, ← Nat.two_pow_add_eq_or_of_lt h, Nat.add_comm]

set_option maxHeartbeats 1000000 in
set_option maxRecDepth 100000 in
theorem number_any (g : Nat) (most : Nat) (bs : List Int) (bad : Bool) (w : World) (h : RdrAt w g bs bad) (hm : most ≤ 1000000) :
    Calls Try.prog 47 #[.pointer (some ⟨g, 0, none⟩), .int .i64 most] w (NmPost w g (rdO most bs bad)) := by
  have H := Lib.hid h
  obtain ⟨A, c, hb, hr, hc, hcm, hl, hx⟩ := h
  have c0 := hb.cell 0
  have c1 := hb.cell 1
  have f0 := hb.frozen 0
  have f1 := hb.frozen 1
  simp at c0 c1
  have HR := Lib.hid hr
  have HB := Lib.hid hb
  have HX := Lib.hid hx
  clear hb hr hx
  unfold maxLen at hcm
  go_enter Try.func47, Try.ntmps47
  go_wp2_with fail
  go_loop [5, 13] (fun n i => ∃ k acc : Nat, k ≤ bs.length ∧ i = .int .i64 k ∧ n = .int .i64 acc ∧ acc < 128 ^ k ∧ k ≤ 4 ∧ rdN most (bs.drop k) k acc = rdN most bs 0 0) (fun _ i => bs.length - (intOf i).toNat)
  case atStart => exact ⟨0, 0, Nat.zero_le _, rfl, rfl, by simp, by omega, rfl⟩
  case round =>
    obtain ⟨k, acc, hk, rfl, rfl, hacc, hk4, hrd⟩ := hrel
    have HRD := Lib.hid hrd
    have HAC := Lib.hid hacc
    have hp := pow128_le hk4
    have ha2 : acc < 268435456 := by omega
    clear hrd hacc
    by_cases hlt : k < bs.length
    · obtain ⟨b, off, x, rfl, hcx, hxx⟩ := HR.out.int_at hlt
      have hx1 := HX.out x (by rw [← hxx]; exact getD_mem bs 0 hlt)
      obtain ⟨hx0, hx1⟩ := hx1
      have hx128 : x.toNat % 128 < 128 := Nat.mod_lt _ (by decide)
      have hVb : x.toNat % 128 * 128 ^ k ≤ 34359738368 := by
        have := Nat.mul_le_mul (show x.toNat % 128 ≤ 127 by omega) hp
        omega
      have hVe : bits BinOp.or IntKind.i64 (acc : Int) (wrap64 (wrap64 (bits BinOp.and IntKind.u8 x 127) * 2 ^ (7 * k))) = ((acc + x.toNat % 128 * 128 ^ k : Nat) : Int) := by
        obtain ⟨n, rfl⟩ := Int.eq_ofNat_of_zero_le hx0
        have e1 : bits BinOp.and IntKind.u8 (n : Int) 127 = ((n % 128 : Nat) : Int) := by
          have h := and_u8 n 127 (by omega) (by decide)
          rw [show n &&& 127 = n % 128 from Nat.and_two_pow_sub_one_eq_mod n 7] at h
          exact h
        rw [Int.toNat_natCast] at hVb ⊢
        rw [e1, show wrap64 ((n % 128 : Nat) : Int) = ((n % 128 : Nat) : Int) from IntWalk.wrap64_in _ (by omega), pow_128, ← Int.natCast_mul, show wrap64 ((n % 128 * 128 ^ k : Nat) : Int) = ((n % 128 * 128 ^ k : Nat) : Int) from IntWalk.wrap64_in _ (by omega), or_i64 _ _ (by omega) (by omega),
          or_add (i := 7 * k) (by rw [show (128 : Nat) = 2 ^ 7 from rfl, ← Nat.pow_mul]) HAC.out, Nat.mul_comm (n % 128)]
      have HDR : Hid (bs.drop k = x :: bs.drop (k + 1)) := Lib.hid (by rw [List.drop_eq_getElem_cons hlt, ← hxx, getD_lt bs 0 hlt])
      have HRD2 : Hid (rdN most bs 0 0 = if most < acc + x.toNat % 128 * 128 ^ k ∨ 3 < k then none else if x < 128 then some (acc + x.toNat % 128 * 128 ^ k, k + 1) else rdN most (bs.drop (k + 1)) (k + 1) (acc + x.toNat % 128 * 128 ^ k)) := Lib.hid (by rw [← HRD.out, HDR.out, rdN])
      have HPW : Hid (acc + x.toNat % 128 * 128 ^ k < 128 ^ (k + 1)) := Lib.hid (by
        have h1 := HAC.out
        have h2 : x.toNat % 128 * 128 ^ k ≤ 127 * 128 ^ k := Nat.mul_le_mul_right _ (by omega)
        rw [Nat.pow_succ]; omega)
      obtain ⟨V, hV⟩ : ∃ V, V = acc + x.toNat % 128 * 128 ^ k := ⟨_, rfl⟩
      rw [← hV] at hVe HRD2 HPW
      clear hV hVb hx128 HRD
      have kc : (k : Int) < (bs.length : Int) := by omega
      by_cases q1 : most < V ∨ 3 < k
      · have HF : Hid (rdO most bs bad = (0, bs, true)) := Lib.hid (by unfold rdO; rw [HRD2.out, if_pos q1])
        by_cases q2 : most < V
        · have q3 : (most : Int) < (V : Int) := by omega
          clear q1 q2
          go_wp2_with fail
          go_ret
          rw [HF.out]
          exact ⟨rfl, H.out.setBad true, only_cell _⟩
        · have q3 : ¬ ((most : Int) < (V : Int)) := by omega
          have q4 : (3 : Int) < (k : Int) := by omega
          clear q1 q2
          go_wp2_with fail
          go_ret
          rw [HF.out]
          exact ⟨rfl, H.out.setBad true, only_cell _⟩
      · have q3 : ¬ ((most : Int) < (V : Int)) := by omega
        have q4 : ¬ ((3 : Int) < (k : Int)) := by omega
        by_cases q5 : x < 128
        · have HF : Hid (rdO most bs bad = (V, bs.drop (k + 1), bad)) := Lib.hid (by unfold rdO; rw [HRD2.out, if_neg q1, if_pos q5])
          have hln : bs.length - (k + 1) = (bs.drop (k + 1)).length := by simp
          have HLN := Lib.hid hln
          have HXD : Hid (∀ y ∈ bs.drop (k + 1), 0 ≤ y ∧ y ≤ 255) := Lib.hid (fun y hy => HX.out y (List.mem_of_mem_drop hy))
          clear q1 hln
          by_cases hcap : c = k + 1
          · have h0 : bs.drop (k + 1) = [] := List.drop_eq_nil_of_le (by omega)
            have H0 := Lib.hid h0
            clear h0
            go_wp2_with fail
            go_ret
            rw [HF.out]
            refine ⟨rfl, ?_, only_cell _⟩
            have hS := RdrAt.setB (A := some ⟨b, off, none⟩) (c := 0) (bs := bs.drop (k + 1)) HB.out (by rw [H0.out]; exact Rd.nil) (by rw [H0.out]; simp) (by unfold maxLen; omega) (by rw [H0.out]; simp) HXD.out
            rw [← HLN.out] at hS
            have e1 : bs.length - (k + 1) = 0 := by omega
            simpa [e1] using hS
          · have hkI : (k : Int) + 1 ≤ (c : Int) := by omega
            go_wp2_with fail
            go_ret
            rw [HF.out]
            refine ⟨rfl, ?_, only_cell _⟩
            have hd := HR.out.drop (k + 1)
            have hS := RdrAt.setB (A := some ⟨b, off + (k + 1), none⟩) (c := c - (k + 1)) (bs := bs.drop (k + 1)) HB.out (by rw [List.map_drop]; simpa [Addr.add] using hd) (by simp; omega) (by unfold maxLen; omega) (by simp; omega) HXD.out
            rw [← HLN.out] at hS
            exact hS
        · have HS : Hid (rdN most (bs.drop (k + 1)) (k + 1) V = rdN most bs 0 0) := Lib.hid (by rw [HRD2.out, if_neg q1, if_neg q5])
          have q6 : ¬ ((x : Int) < 128) := q5
          clear q1
          go_wp2_with fail
          go_round
          case rel => exact ⟨k + 1, V, by omega, by go_num, rfl, HPW.out, by omega, HS.out⟩
          case measure => simp [intOf]; omega
    · have HF : Hid (rdO most bs bad = (0, bs, true)) := Lib.hid (by
        unfold rdO
        rw [← HRD.out, List.drop_eq_nil_of_le (by omega)]; rfl)
      have kc : ¬ ((k : Int) < (bs.length : Int)) := by omega
      go_wp2_with fail
      go_ret
      rw [HF.out]
      exact ⟨rfl, H.out.setBad true, only_cell _⟩
end Go.Proofs.Ytgaomilmljepoaa
