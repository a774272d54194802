/- column: Runs and Bounds, both texts. No condition. -/
import Derived.Test.YtebakogdbeeljaaBase
namespace Go.Proofs.Ytebakogdbeeljaa
open Go.RowKit
set_option linter.unusedVariables false
set_option linter.unusedSimpArgs false

def runsTo (vs : List Int) : Nat → Nat
  | 0 => 0
  | k + 1 => runsTo vs k + (if k = 0 ∨ vs.getD k 0 ≠ vs.getD (k - 1) 0 then 1 else 0)
theorem runsTo_le (vs : List Int) (k : Nat) : runsTo vs k ≤ k := by
  induction k with
  | zero => simp [runsTo]
  | succ k ih => simp only [runsTo]; split <;> omega

def Same (v : Value) (w : World) (e : Ending) (w' : World) : Prop := e = .returned v ∧ ∃ n, w' = w.drewN n

set_option maxHeartbeats 400000 in
theorem runs_any {S : Nat → Prop} (A : Option Addr) (vs : List Int) (c : Nat) (w : World) (h : Rd S w A (vs.map (.int .i64))) (hl : vs.length ≤ 1000000) :
    Calls Try.prog 13 #[.slice A vs.length c] w (Same (.int .i64 (runsTo vs vs.length)) w) := by
  have H := Lib.hid h
  clear h
  go_enter Try.func13, Try.ntmps13
  go_wp2
  go_loop [3, 8] (fun n i => ∃ k : Nat, k ≤ vs.length ∧ i = .int .i64 k ∧ n = .int .i64 (runsTo vs k)) (fun _ i => vs.length - (intOf i).toNat)
  case atStart => exact ⟨0, Nat.zero_le _, rfl, rfl⟩
  case round =>
    obtain ⟨k, hk, rfl, rfl⟩ := hrel
    have hle := runsTo_le vs k
    by_cases hlt : k < vs.length
    · obtain ⟨b, off, x, rfl, hc, hx⟩ := H.out.int_at hlt
      by_cases h0 : k = 0
      · subst h0
        rw [Nat.add_zero] at hc
        have hs : runsTo vs (0 + 1) = runsTo vs 0 + 1 := by simp [runsTo]
        have HS := Lib.hid hs
        clear hs
        go_wp2
        go_round
        case rel => exact ⟨0 + 1, by omega, by go_num, by rw [HS.out]; go_num⟩
        case measure => simp [intOf]; omega
      · obtain ⟨y, hcy, hy⟩ := H.out.int_at' (k := k - 1) (by omega)
        have hb0 : ((k : Int) == 0) = false := by simp; omega
        by_cases hxy : x = y
        · have HS : Hid (runsTo vs (k + 1) = runsTo vs k) := by
            have := hx.out; have := hy.out; show runsTo vs (k + 1) = _; simp only [runsTo]; rw [if_neg (by omega)]; omega
          have hbx : (x != y) = false := by simp [hxy]
          have HXY := Lib.hid hxy
          clear hxy
          go_wp2
          go_round
          case rel => exact ⟨k + 1, by omega, by go_num, by rw [HS.out]⟩
          case measure => simp [intOf]; omega
        · have HS : Hid (runsTo vs (k + 1) = runsTo vs k + 1) := by
            have := hx.out; have := hy.out; show runsTo vs (k + 1) = _; simp only [runsTo]; rw [if_pos (by omega)]
          have hbx : (x != y) = true := by simp [hxy]
          clear hxy
          go_wp2
          go_round
          case rel => exact ⟨k + 1, by omega, by go_num, by rw [HS.out]; go_num⟩
          case measure => simp [intOf]; omega
    · obtain rfl : k = vs.length := by omega
      go_wp2
      go_ret
      exact ⟨rfl, 0, rfl⟩

/-- the least and the greatest of the first k values -/
def loTo (vs : List Int) : Nat → Int
  | 0 => vs.getD 0 0
  | k + 1 => min (loTo vs k) (vs.getD k 0)
def hiTo (vs : List Int) : Nat → Int
  | 0 => vs.getD 0 0
  | k + 1 => max (hiTo vs k) (vs.getD k 0)

set_option maxHeartbeats 400000 in
theorem slmin_any {S : Nat → Prop} (A : Option Addr) (vs : List Int) (c : Nat) (w : World) (h : Rd S w A (vs.map (.int .i64))) (hl : vs.length ≤ 1000000) (h0 : 0 < vs.length) :
    Calls Try.prog 30 #[.slice A vs.length c] w (Same (.int .i64 (loTo vs vs.length)) w) := by
  have H := Lib.hid h
  obtain ⟨b, off, x, rfl, hc, hx⟩ := h.int_at h0
  clear h
  rw [Nat.add_zero] at hc
  have hd : decide ((vs.length : Int) < 1) = false := by simp; omega
  go_enter Try.func30, Try.ntmps30
  go_wp2
  clear hc
  go_loop [3, 4] (fun n i => ∃ (k : Nat) (m : Int), k ≤ vs.length ∧ i = .int .i64 k ∧ n = .int .i64 m ∧ Hid (m = loTo vs k)) (fun _ i => vs.length - (intOf i).toNat)
  case atStart => exact ⟨1, x, h0, rfl, rfl, by show x = _; have := hx.out; simp only [loTo]; omega⟩
  case round =>
    obtain ⟨k, m, hk, rfl, rfl, hm⟩ := hrel
    by_cases hlt : k < vs.length
    · obtain ⟨y, hcy, hy⟩ := H.out.int_at' hlt
      go_wp2
      go_round
      case rel => exact ⟨k + 1, _, by omega, by go_num, rfl, by have := hm.out; have := hy.out; show _ = _; simp only [loTo]; split <;> omega⟩
      case measure => simp [intOf]; omega
    · obtain rfl : k = vs.length := by omega
      go_wp2
      go_ret
      exact ⟨ret_int hm.out, 0, rfl⟩
set_option maxHeartbeats 400000 in
theorem slmax_any {S : Nat → Prop} (A : Option Addr) (vs : List Int) (c : Nat) (w : World) (h : Rd S w A (vs.map (.int .i64))) (hl : vs.length ≤ 1000000) (h0 : 0 < vs.length) :
    Calls Try.prog 31 #[.slice A vs.length c] w (Same (.int .i64 (hiTo vs vs.length)) w) := by
  have H := Lib.hid h
  obtain ⟨b, off, x, rfl, hc, hx⟩ := h.int_at h0
  clear h
  rw [Nat.add_zero] at hc
  have hd : decide ((vs.length : Int) < 1) = false := by simp; omega
  go_enter Try.func31, Try.ntmps31
  go_wp2
  clear hc
  go_loop [3, 4] (fun n i => ∃ (k : Nat) (m : Int), k ≤ vs.length ∧ i = .int .i64 k ∧ n = .int .i64 m ∧ Hid (m = hiTo vs k)) (fun _ i => vs.length - (intOf i).toNat)
  case atStart => exact ⟨1, x, h0, rfl, rfl, by show x = _; have := hx.out; simp only [hiTo]; omega⟩
  case round =>
    obtain ⟨k, m, hk, rfl, rfl, hm⟩ := hrel
    by_cases hlt : k < vs.length
    · obtain ⟨y, hcy, hy⟩ := H.out.int_at' hlt
      go_wp2
      go_round
      case rel => exact ⟨k + 1, _, by omega, by go_num, rfl, by have := hm.out; have := hy.out; show _ = _; simp only [hiTo]; split <;> omega⟩
      case measure => simp [intOf]; omega
    · obtain rfl : k = vs.length := by omega
      go_wp2
      go_ret
      exact ⟨ret_int hm.out, 0, rfl⟩
set_option maxHeartbeats 400000 in
theorem rruns_any {S : Nat → Prop} (A : Option Addr) (vs : List Int) (c : Nat) (w : World) (h : Rd S w A (vs.map (.int .i64))) (hl : vs.length ≤ 1000000) :
    Calls Try.prog 14 #[.slice A vs.length c] w (Same (.int .i64 (runsTo vs vs.length)) w) := by
  have H := Lib.hid h
  clear h
  go_enter Try.func14, Try.ntmps14
  go_wp2
  go_loopw [3, 4] (fun n i wr => ∃ k : Nat, k ≤ vs.length ∧ i = .int .i64 k ∧ n = .int .i64 (runsTo vs k) ∧ ∃ q, wr = w.drewN q) (fun _ i _ => vs.length - (intOf i).toNat)
  case atStart => exact ⟨0, Nat.zero_le _, rfl, rfl, 0, rfl⟩
  case round =>
    obtain ⟨k, hk, rfl, rfl, q, rfl⟩ := hrel
    have hle := runsTo_le vs k
    by_cases hlt : k < vs.length
    · obtain ⟨b, off, x, rfl, hc, hx⟩ := H.out.int_at hlt
      by_cases h0 : k = 0
      · subst h0
        rw [Nat.add_zero] at hc
        have hs : runsTo vs (0 + 1) = runsTo vs 0 + 1 := by simp [runsTo]
        have HS := Lib.hid hs
        clear hs
        go_wp2
        go_quiet (fail)
        go_wp2
        go_roundw
        case rel => exact ⟨0 + 1, by omega, by go_num, by rw [HS.out]; go_num, _, rfl⟩
        case measure => simp [intOf]; omega
      · obtain ⟨y, hcy, hy⟩ := H.out.int_at' (k := k - 1) (by omega)
        have hb0 : ((k : Int) == 0) = false := by simp; omega
        by_cases hxy : x = y
        · have HS : Hid (runsTo vs (k + 1) = runsTo vs k) := by
            have := hx.out; have := hy.out; show runsTo vs (k + 1) = _; simp only [runsTo]; rw [if_neg (by omega)]; omega
          have hbx : (x != y) = false := by simp [hxy]
          have HXY := Lib.hid hxy
          clear hxy
          go_wp2
          go_quiet (fail)
          go_wp2
          go_roundw
          case rel => exact ⟨k + 1, by omega, by go_num, by rw [HS.out], _, rfl⟩
          case measure => simp [intOf]; omega
        · have HS : Hid (runsTo vs (k + 1) = runsTo vs k + 1) := by
            have := hx.out; have := hy.out; show runsTo vs (k + 1) = _; simp only [runsTo]; rw [if_pos (by omega)]
          have hbx : (x != y) = true := by simp [hxy]
          clear hxy
          go_wp2
          go_quiet (fail)
          go_wp2
          go_roundw
          case rel => exact ⟨k + 1, by omega, by go_num, by rw [HS.out]; go_num, _, rfl⟩
          case measure => simp [intOf]; omega
    · obtain rfl : k = vs.length := by omega
      go_wp2
      go_ret
      exact ⟨rfl, _, rfl⟩


set_option maxHeartbeats 400000 in
theorem bounds_any {S : Nat → Prop} (A : Option Addr) (vs : List Int) (c : Nat) (w : World) (h : Rd S w A (vs.map (.int .i64))) (hl : vs.length ≤ 1000000) :
    Calls Try.prog 11 #[.slice A vs.length c] w (Same (if vs.length = 0 then .tuple #[.int .i64 0, .int .i64 0, .bool false] else .tuple #[.int .i64 (loTo vs vs.length), .int .i64 (hiTo vs vs.length), .bool true]) w) := by
  have H := Lib.hid h
  clear h
  by_cases h0 : vs.length = 0
  · rw [if_pos h0]
    have h1 : ((vs.length : Int) == 0) = true := by simp [h0]
    have H0 := Lib.hid h0
    clear h0
    go_enter Try.func11, Try.ntmps11
    go_wp2
    go_ret3
    exact ⟨rfl, 0, rfl⟩
  · rw [if_neg h0]
    have h1 : ((vs.length : Int) == 0) = false := by rw [beq_eq_false_iff_ne]; omega
    have h2 : 0 < vs.length := by omega
    clear h0
    go_enter Try.func11, Try.ntmps11
    go_wp2_with (first | (go_at_call 30; refine (slmin_any A vs c _ H.out hl h2).mono ?_; rintro e w' ⟨rfl, nq, rfl⟩) | (go_at_call 31; refine (slmax_any A vs c _ (by exact H.out.drewN _) hl h2).mono ?_; rintro e w' ⟨rfl, nq, rfl⟩))
    go_ret3
    exact ⟨rfl, _, rfl⟩

set_option maxHeartbeats 800000 in
theorem rbounds_any {S : Nat → Prop} (A : Option Addr) (vs : List Int) (c : Nat) (w : World) (h : Rd S w A (vs.map (.int .i64))) (hl : vs.length ≤ 1000000) :
    Calls Try.prog 12 #[.slice A vs.length c] w (Same (if vs.length = 0 then .tuple #[.int .i64 0, .int .i64 0, .bool false] else .tuple #[.int .i64 (loTo vs vs.length), .int .i64 (hiTo vs vs.length), .bool true]) w) := by
  have H := Lib.hid h
  by_cases h0 : vs.length = 0
  · rw [if_pos h0]
    have h1 : ((vs.length : Int) == 0) = true := by simp [h0]
    have H0 := Lib.hid h0
    clear h0 h
    go_enter Try.func12, Try.ntmps12
    go_wp2
    go_ret3
    exact ⟨rfl, 0, rfl⟩
  · rw [if_neg h0]
    have h1 : ((vs.length : Int) == 0) = false := by rw [beq_eq_false_iff_ne]; omega
    have h2 : 0 < vs.length := by omega
    obtain ⟨b, off, x, rfl, hc, hx⟩ := h.int_at h2
    rw [Nat.add_zero] at hc
    clear h0 h
    go_enter Try.func12, Try.ntmps12
    go_wp2
    go_quiet (fail)
    go_wp2
    clear hc
    go_loopw [5, 6, 7] (fun n x i wr => ∃ (k : Nat) (m m2 : Int), k ≤ vs.length ∧ i = .int .i64 k ∧ n = .int .i64 m ∧ x = .int .i64 m2 ∧ Hid (m = loTo vs k) ∧ Hid (m2 = hiTo vs k) ∧ ∃ q, wr = w.drewN q) (fun _ _ i _ => vs.length - (intOf i).toNat)
    case atStart => exact ⟨0, x, x, Nat.zero_le _, rfl, rfl, rfl, hx.out.symm, hx.out.symm, _, rfl⟩
    case round =>
      obtain ⟨k, m, m2, hk, rfl, rfl, rfl, hm, hm2, q, rfl⟩ := hrel
      by_cases hlt : k < vs.length
      · obtain ⟨y, hcy, hy⟩ := H.out.int_at' hlt
        go_wp2
        go_quiet (fail)
        go_wp2
        go_roundw
        case rel => exact ⟨k + 1, _, _, by omega, by go_num, rfl, rfl, by have := hm.out; have := hy.out; show _ = _; simp only [loTo]; split <;> omega, by have := hm2.out; have := hy.out; show _ = _; simp only [hiTo]; split <;> omega, _, rfl⟩
        case measure => simp [intOf]; omega
      · obtain rfl : k = vs.length := by omega
        go_wp2
        go_ret3
        exact ⟨by rw [← hm.out, ← hm2.out]; rfl, _, rfl⟩
end Go.Proofs.Ytebakogdbeeljaa
