/- The words of a text: plain. No condition. -/
import Derived.Test.YtceebhgbebkafaaGreatDoorOnto
import Derived.Deep.DeepCutAuto
namespace Go.Proofs.YtceebhgbebkafaaGreatDoor
open Go.RowKit
set_option linter.unusedVariables false
set_option linter.unusedSimpArgs false

/-- a letter in lower case -/
def lowI (c : Int) : Option Int := if 65 ≤ c ∧ c ≤ 90 then some (c + 32) else if (97 ≤ c ∧ c ≤ 122) ∨ (48 ≤ c ∧ c ≤ 57) ∨ c = 95 then some c else none
def flushW (cur : List Int) (out : List ByteArray) : List ByteArray := if 0 < cur.length ∧ cur.length ≤ 40 then out ++ [strOfNums cur] else out
def stepW (st : List Int × List ByteArray) (c : Int) : List Int × List ByteArray := match lowI c with
  | some d => (st.1 ++ [d], st.2)
  | none => ([], flushW st.1 st.2)
def wst (cs : List Int) : List Int × List ByteArray := cs.foldl stepW ([], [])
/-- all words, one after the other -/
def rawW (cs : List Int) : List ByteArray := flushW (wst cs).1 (wst cs).2
theorem wst_snoc (cs : List Int) (c : Int) : wst (cs ++ [c]) = stepW (wst cs) c := by unfold wst; rw [List.foldl_append]; rfl
theorem wst_len : ∀ (n : Nat) (cs : List Int), cs.length ≤ n → (wst cs).1.length ≤ cs.length ∧ (wst cs).2.length ≤ cs.length := by
  intro n
  induction n with
  | zero => intro cs h; have : cs = [] := List.eq_nil_of_length_eq_zero (by omega); subst this; simp [wst]
  | succ n ih =>
    intro cs h
    rcases List.eq_nil_or_concat cs with rfl | ⟨l, c, rfl⟩
    · simp [wst]
    · have e : l.concat c = l ++ [c] := List.concat_eq_append
      rw [e] at h ⊢
      rw [wst_snoc]
      have hl : l.length ≤ n := by simp at h; omega
      obtain ⟨h1, h2⟩ := ih l hl
      unfold stepW
      cases lowI c with
      | some d =>
        show ((wst l).1 ++ [d]).length ≤ _ ∧ (wst l).2.length ≤ _
        simp only [List.length_append, List.length_singleton]
        omega
      | none =>
        show ([] : List Int).length ≤ _ ∧ (flushW (wst l).1 (wst l).2).length ≤ _
        unfold flushW
        simp only [List.length_append, List.length_singleton, List.length_nil]
        split
        · rw [List.length_append, List.length_singleton]; omega
        · omega
theorem rawW_len (cs : List Int) : (rawW cs).length ≤ cs.length + 1 := by
  have h := wst_len cs.length cs (Nat.le_refl _)
  unfold rawW flushW
  split
  · rw [List.length_append, List.length_singleton]; omega
  · omega
theorem lowI_in {c d : Int} (h : lowI c = some d) : 0 ≤ d ∧ d ≤ 255 ∧ d ≠ 0 := by
  unfold lowI at h
  split at h
  · injection h; omega
  · split at h
    · injection h; omega
    · cases h
theorem wst_bytes : ∀ (cs : List Int), ∀ x ∈ (wst cs).1, 0 ≤ x ∧ x ≤ 255 := by
  intro cs
  have key : ∀ (n : Nat) (cs : List Int), cs.length ≤ n → ∀ x ∈ (wst cs).1, 0 ≤ x ∧ x ≤ 255 := by
    intro n
    induction n with
    | zero => intro cs h; have : cs = [] := List.eq_nil_of_length_eq_zero (by omega); subst this; simp [wst]
    | succ n ih =>
      intro cs h
      rcases List.eq_nil_or_concat cs with rfl | ⟨l, c, rfl⟩
      · simp [wst]
      · rw [show l.concat c = l ++ [c] from List.concat_eq_append, wst_snoc]
        have hl : l.length ≤ n := by simp at h; omega
        unfold stepW
        cases hc : lowI c with
        | some d =>
          intro x hx
          rcases List.mem_append.1 hx with hx | hx
          · exact ih l hl x hx
          · rw [List.mem_singleton.1 hx]; have := lowI_in hc; omega
        | none => intro x hx; cases hx
  exact key cs.length cs (Nat.le_refl _)
end Go.Proofs.YtceebhgbebkafaaGreatDoor
namespace Go.Proofs.YtceebhgbebkafaaGreatDoor
open Go.RowKit
set_option linter.unusedVariables false
set_option linter.unusedSimpArgs false

def LowP (c : Int) (w : World) (e : Ending) (w' : World) : Prop := e = .returned (.tuple #[.int .u8 ((lowI c).getD 0), .bool (lowI c).isSome]) ∧ w' = w
def LetP (c : Int) (w : World) (e : Ending) (w' : World) : Prop := e = .returned (.int .u8 ((lowI c).getD 0)) ∧ w' = w
theorem lowI_up {c : Int} (h1 : 65 ≤ c) (h2 : c ≤ 90) : lowI c = some (c + 32) := by unfold lowI; rw [if_pos ⟨h1, h2⟩]
theorem lowI_lo {c : Int} (h : (97 ≤ c ∧ c ≤ 122) ∨ (48 ≤ c ∧ c ≤ 57) ∨ c = 95) : lowI c = some c := by unfold lowI; rw [if_neg (by omega), if_pos h]
theorem lowI_no {c : Int} (h1 : ¬ (65 ≤ c ∧ c ≤ 90)) (h : ¬ ((97 ≤ c ∧ c ≤ 122) ∨ (48 ≤ c ∧ c ≤ 57) ∨ c = 95)) : lowI c = none := by unfold lowI; rw [if_neg h1, if_neg h]
theorem nine (c : Int) : c ≤ 47 ∨ (48 ≤ c ∧ c ≤ 57) ∨ (58 ≤ c ∧ c ≤ 64) ∨ (65 ≤ c ∧ c ≤ 90) ∨ (91 ≤ c ∧ c ≤ 94) ∨ c = 95 ∨ c = 96 ∨ (97 ≤ c ∧ c ≤ 122) ∨ 123 ≤ c := by omega
set_option maxHeartbeats 2000000 in
set_option maxRecDepth 100000 in
theorem lower_any (c : Int) (w : World) (h0 : 0 ≤ c) (h255 : c ≤ 255) : Calls Tryz.prog 62 #[.int .u8 c] w (LowP c w) := by
  rcases nine c with h | ⟨h, h'⟩ | ⟨h, h'⟩ | ⟨h, h'⟩ | ⟨h, h'⟩ | h | h | ⟨h, h'⟩ | h
  · have HV := Lib.hid (lowI_no (c := c) (by omega) (by omega))
    have a1 : ¬ (65 ≤ c) := by omega
    have a2 : ¬ (97 ≤ c) := by omega
    have a3 : ¬ (48 ≤ c) := by omega
    have a4 : (c == 95) = false := by simp; omega
    go_enter Tryz.func62, Tryz.ntmps62
    go_wp2
    go_ret2
    exact ⟨by rw [HV.out]; rfl, rfl⟩
  · have HV := Lib.hid (lowI_lo (c := c) (by omega))
    have a1 : ¬ (65 ≤ c) := by omega
    have a2 : ¬ (97 ≤ c) := by omega
    go_enter Tryz.func62, Tryz.ntmps62
    go_wp2
    go_ret2
    exact ⟨by rw [HV.out]; rfl, rfl⟩
  · have HV := Lib.hid (lowI_no (c := c) (by omega) (by omega))
    have a1 : ¬ (65 ≤ c) := by omega
    have a2 : ¬ (97 ≤ c) := by omega
    have a3 : (48 ≤ c) := by omega
    have a5 : ¬ (c ≤ 57) := by omega
    have a4 : (c == 95) = false := by simp; omega
    go_enter Tryz.func62, Tryz.ntmps62
    go_wp2
    go_ret2
    exact ⟨by rw [HV.out]; rfl, rfl⟩
  · have HV := Lib.hid (lowI_up (c := c) h h')
    have hw1 : IntKind.u8.wrap (c + 97) = c + 97 := IntWalk.u8_in _ (by omega)
    have hw2 : IntKind.u8.wrap (c + 97 - 65) = c + 32 := by rw [show c + 97 - 65 = c + 32 by omega]; exact IntWalk.u8_in _ (by omega)
    go_enter Tryz.func62, Tryz.ntmps62
    go_wp2
    go_ret2
    exact ⟨by rw [HV.out]; rfl, rfl⟩
  · have HV := Lib.hid (lowI_no (c := c) (by omega) (by omega))
    have a1 : (65 ≤ c) := by omega
    have a6 : ¬ (c ≤ 90) := by omega
    have a2 : ¬ (97 ≤ c) := by omega
    have a3 : (48 ≤ c) := by omega
    have a5 : ¬ (c ≤ 57) := by omega
    have a4 : (c == 95) = false := by simp; omega
    go_enter Tryz.func62, Tryz.ntmps62
    go_wp2
    go_ret2
    exact ⟨by rw [HV.out]; rfl, rfl⟩
  · subst h
    go_enter Tryz.func62, Tryz.ntmps62
    go_wp2
    go_ret2
    exact ⟨rfl, rfl⟩
  · subst h
    go_enter Tryz.func62, Tryz.ntmps62
    go_wp2
    go_ret2
    exact ⟨rfl, rfl⟩
  · have HV := Lib.hid (lowI_lo (c := c) (by omega))
    have a1 : (65 ≤ c) := by omega
    have a6 : ¬ (c ≤ 90) := by omega
    go_enter Tryz.func62, Tryz.ntmps62
    go_wp2
    go_ret2
    exact ⟨by rw [HV.out]; rfl, rfl⟩
  · have HV := Lib.hid (lowI_no (c := c) (by omega) (by omega))
    have a1 : (65 ≤ c) := by omega
    have a6 : ¬ (c ≤ 90) := by omega
    have a2 : (97 ≤ c) := by omega
    have a7 : ¬ (c ≤ 122) := by omega
    have a3 : (48 ≤ c) := by omega
    have a5 : ¬ (c ≤ 57) := by omega
    have a4 : (c == 95) = false := by simp; omega
    go_enter Tryz.func62, Tryz.ntmps62
    go_wp2
    go_ret2
    exact ⟨by rw [HV.out]; rfl, rfl⟩
set_option maxHeartbeats 2000000 in
set_option maxRecDepth 100000 in
theorem letter_any (c : Int) (w : World) (h0 : 0 ≤ c) (h255 : c ≤ 255) : Calls Tryz.prog 73 #[.int .u8 c] w (LetP c w) := by
  rcases nine c with h | ⟨h, h'⟩ | ⟨h, h'⟩ | ⟨h, h'⟩ | ⟨h, h'⟩ | h | h | ⟨h, h'⟩ | h
  · have HV := Lib.hid (lowI_no (c := c) (by omega) (by omega))
    have a1 : ¬ (65 ≤ c) := by omega
    have a2 : ¬ (97 ≤ c) := by omega
    have a3 : ¬ (48 ≤ c) := by omega
    have a4 : (c == 95) = false := by simp; omega
    go_enter Tryz.func73, Tryz.ntmps73
    go_wp2
    go_ret
    exact ⟨by rw [HV.out]; rfl, rfl⟩
  · have HV := Lib.hid (lowI_lo (c := c) (by omega))
    have a2 : ¬ (97 ≤ c) := by omega
    go_enter Tryz.func73, Tryz.ntmps73
    go_wp2
    go_ret
    exact ⟨by rw [HV.out]; rfl, rfl⟩
  · have HV := Lib.hid (lowI_no (c := c) (by omega) (by omega))
    have a1 : ¬ (65 ≤ c) := by omega
    have a2 : ¬ (97 ≤ c) := by omega
    have a3 : (48 ≤ c) := by omega
    have a5 : ¬ (c ≤ 57) := by omega
    have a4 : (c == 95) = false := by simp; omega
    go_enter Tryz.func73, Tryz.ntmps73
    go_wp2
    go_ret
    exact ⟨by rw [HV.out]; rfl, rfl⟩
  · have HV := Lib.hid (lowI_up (c := c) h h')
    have hw2 : IntKind.u8.wrap (c + 32) = c + 32 := IntWalk.u8_in _ (by omega)
    have a2 : ¬ (97 ≤ c) := by omega
    have a3 : (48 ≤ c) := by omega
    have a5 : ¬ (c ≤ 57) := by omega
    have a4 : (c == 95) = false := by simp; omega
    go_enter Tryz.func73, Tryz.ntmps73
    go_wp2
    go_ret
    exact ⟨by rw [HV.out]; rfl, rfl⟩
  · have HV := Lib.hid (lowI_no (c := c) (by omega) (by omega))
    have a1 : (65 ≤ c) := by omega
    have a6 : ¬ (c ≤ 90) := by omega
    have a2 : ¬ (97 ≤ c) := by omega
    have a3 : (48 ≤ c) := by omega
    have a5 : ¬ (c ≤ 57) := by omega
    have a4 : (c == 95) = false := by simp; omega
    go_enter Tryz.func73, Tryz.ntmps73
    go_wp2
    go_ret
    exact ⟨by rw [HV.out]; rfl, rfl⟩
  · subst h
    go_enter Tryz.func73, Tryz.ntmps73
    go_wp2
    go_ret
    exact ⟨rfl, rfl⟩
  · subst h
    go_enter Tryz.func73, Tryz.ntmps73
    go_wp2
    go_ret
    exact ⟨rfl, rfl⟩
  · have HV := Lib.hid (lowI_lo (c := c) (by omega))
    go_enter Tryz.func73, Tryz.ntmps73
    go_wp2
    go_ret
    exact ⟨by rw [HV.out]; rfl, rfl⟩
  · have HV := Lib.hid (lowI_no (c := c) (by omega) (by omega))
    have a1 : (65 ≤ c) := by omega
    have a6 : ¬ (c ≤ 90) := by omega
    have a2 : (97 ≤ c) := by omega
    have a7 : ¬ (c ≤ 122) := by omega
    have a3 : (48 ≤ c) := by omega
    have a5 : ¬ (c ≤ 57) := by omega
    have a4 : (c == 95) = false := by simp; omega
    go_enter Tryz.func73, Tryz.ntmps73
    go_wp2
    go_ret
    exact ⟨by rw [HV.out]; rfl, rfl⟩
end Go.Proofs.YtceebhgbebkafaaGreatDoor
