/- account.Sum. No condition. -/
import Derived.Test.YtiogpomgpknjlaaTalA
namespace Go.Proofs.Ytiogpomgpknjlaa
open Go.RowKit
set_option linter.unusedVariables false
set_option linter.unusedSimpArgs false

/-- the lines of a host -/
def sumT (h : Int) : List Tal → Int
  | [] => 0
  | t :: l => (if t.host = h then t.lines else 0) + sumT h l
theorem sumT_snoc (h : Int) (l : List Tal) (t : Tal) : sumT h (l ++ [t]) = sumT h l + if t.host = h then t.lines else 0 := by
  induction l with
  | nil => simp [sumT]
  | cons a l ih => rw [List.cons_append, sumT, ih, sumT]; omega
theorem sumT_le {n : Int} {l : List Tal} (h : Int) (hi : TIn n l) (hn : 0 ≤ n) : 0 ≤ sumT h l ∧ sumT h l ≤ n * l.length := by
  induction l with
  | nil => simp [sumT]
  | cons a l ih =>
    have h1 := ih (fun t ht => hi t (by simp [ht]))
    have h2 := hi a (by simp)
    have e : n * ((a :: l).length : Int) = n * (l.length : Int) + n := by rw [List.length_cons]; simp [Int.mul_add]
    rw [e, sumT]
    split <;> omega
theorem sumT_mrg (h : Int) (us vs : List Tal) : sumT h (mrg us vs) = sumT h us + sumT h vs := by
  fun_induction mrg us vs with
  | case1 vs => simp [sumT]
  | case2 a us => simp [sumT]
  | case3 a us b vs h1 ih =>
    have e : sumT h (a :: us) = (if a.host = h then a.lines else 0) + sumT h us := rfl
    rw [sumT, ih, e]; omega
  | case4 a us b vs h1 h2 ih =>
    have e : sumT h (b :: vs) = (if b.host = h then b.lines else 0) + sumT h vs := rfl
    rw [sumT, ih, e]; omega
  | case5 a us b vs h1 h2 ih =>
    have e := kl_tri h1 h2
    rw [sumT, ih]
    simp only [sumT, e.1]
    split <;> omega
/-- the walk's own fact about a sum that stays small -/
theorem tin_take {n : Int} {l : List Tal} (h : TIn n l) (k : Nat) : TIn n (l.take k) := fun t ht => h t (List.mem_of_mem_take ht)
def SumPost (w : World) (n : Int) (e : Ending) (w' : World) : Prop := e = .returned (.int .i64 n) ∧ w.grownBy w' none
theorem anyF (s : ByteArray) (w : World) : Calls Try.prog 38 #[.string s] w (fun e w' => e = .returned (.bool true) ∧ w = w') := by
  go_enter Try.func38, Try.ntmps38
  go_wp2
  go_ret
  exact ⟨rfl, rfl⟩
set_option maxHeartbeats 2000000 in
theorem lines_any {S : Nat → Prop} (A : Option Addr) (ts : List Tal) (c : Nat) (h : Int) (w : World) (hr : Rd S w A (ts.flatMap Tal.cells)) (hl : ts.length ≤ 100000) (hi : TIn 1000000 ts) :
    Calls Try.prog 37 #[.slice A ts.length c, .int .i64 h, .func (.func 38) #[] #[]] w (SumPost w (sumT h ts)) := by
  have HR := Lib.hid (hr.mono (S' := (· < w.heap.size)) (fun b _ hb => hb))
  have HI := Lib.hid hi
  clear hr hi
  go_enter Try.func37, Try.ntmps37
  go_wp2
  go_loopw [7, 12] (fun n i wr => ∃ k : Nat, k ≤ ts.length ∧ i = .int .i64 k ∧ n = .int .i64 (sumT h (ts.take k)) ∧ w.grownBy wr none) (fun _ i _ => ts.length - (intOf i).toNat)
  case atStart => exact ⟨0, Nat.zero_le _, rfl, rfl, only_refl _ _⟩
  case round =>
    obtain ⟨k, hk, rfl, rfl, hG⟩ := hrel
    have G := Lib.hid hG
    have hsz := hG.size
    clear hG
    have hb := sumT_le h (tin_take HI.out k) (by omega)
    have hlk : (ts.take k).length ≤ 100000 := by rw [List.length_take]; omega
    have hb2 : sumT h (ts.take k) ≤ 100000000000 := by omega
    have hb1 := hb.1
    clear hb
    by_cases hlt : k < ts.length
    · obtain ⟨t, ht⟩ : ∃ t, ts[k]? = some t := ⟨_, List.getElem?_eq_getElem hlt⟩
      obtain ⟨b1, o1, rfl, x0, x1, x2⟩ := (HR.out.grown G.out (by simp)).tal ht
      have hbw : b1 < wr.heap.size := by obtain ⟨b', o', e', hb', -, -⟩ := HR.out (by rw [tflat_len]; omega); injection e' with e'; injection e' with e1 e2; omega
      have hbn : b1 ≠ wr.heap.size := by omega
      have ht2 := HI.out t (List.mem_of_getElem? ht)
      have HS : Hid (sumT h (ts.take (k + 1)) = sumT h (ts.take k) + if t.host = h then t.lines else 0) := by
        rw [List.take_succ_eq_append_getElem hlt, sumT_snoc]
        rw [List.getElem?_eq_getElem hlt] at ht
        injection ht with ht
        rw [ht]
        exact rfl
      clear ht
      have i1 : (k : Int) < (ts.length : Int) := by omega
      by_cases hh : t.host = h
      · have d1 : (t.host == h) = true := by simp [hh]
        have HH := Lib.hid hh
        clear hh
        go_wp2_with (go_at_call 38; refine (anyF _ _).mono ?_; rintro e w' ⟨rfl, rfl⟩)
        go_roundw
        case rel => exact ⟨k + 1, by omega, by go_num, by rw [HS.out, if_pos HH.out], only_alloc G.out _⟩
        case measure => simp [intOf]; omega
      · have d1 : (t.host == h) = false := by simp [hh]
        have HH := Lib.hid hh
        clear hh
        go_wp2
        go_roundw
        case rel => exact ⟨k + 1, by omega, by go_num, by rw [HS.out, if_neg HH.out, Int.add_zero], only_alloc G.out _⟩
        case measure => simp [intOf]; omega
    · go_wp2
      go_ret
      exact ⟨ret_int (by rw [List.take_of_length_le (by omega)]), G.out⟩
theorem sum_any {S : Nat → Prop} (A : Option Addr) (ts : List Tal) (c : Nat) (h : Int) (w : World) (hr : Rd S w A (ts.flatMap Tal.cells)) (hl : ts.length ≤ 100000) (hi : TIn 1000000 ts) :
    Calls Try.prog 13 #[.slice A ts.length c, .int .i64 h] w (SumPost w (sumT h ts)) := by
  have KL := Lib.hid (lines_any A ts c h w hr hl hi)
  clear hr hi
  go_enter Try.func13, Try.ntmps13
  go_wp2_with (go_at_call 37; refine KL.out.mono ?_; rintro e w' ⟨rfl, hg⟩)
  go_ret
  exact ⟨rfl, hg⟩
end Go.Proofs.Ytiogpomgpknjlaa
