/- The draws of codes: New, Left, Next. No condition. -/
import Derived.Test.YtpaiideboodaeaaGreatDoorJBase
namespace Go.Proofs.YtpaiideboodaeaaGreatDoor
open Go.RowKit
set_option linter.unusedVariables false
set_option linter.unusedSimpArgs false

/-- the codes l lie before the block g, which holds the struct; k of them have been taken -/
def CodesAt (w : World) (g : Nat) (l : List Int) (k : Nat) : Prop :=
  ∃ A c, Blk w g 96 #[.slice A l.length c, .int .i64 (k : Int)] ∧ Rd (· < g) w A (l.map (.int .u8)) ∧ k ≤ l.length ∧ l.length ≤ 100000 ∧ ∀ x ∈ l, 0 ≤ x ∧ x ≤ 255

set_option maxHeartbeats 400000 in
theorem left_any (g : Nat) (l : List Int) (k : Nat) (w : World) (h : CodesAt w g l k) :
    Calls Tryz.prog 78 #[.pointer (some ⟨g, 0, none⟩)] w fun e w' => e = .returned (.bool (decide (k < l.length))) ∧ ∃ n, w' = w.drewN n := by
  obtain ⟨A, c, hb, -, hk, hl, -⟩ := h
  have c0 := hb.cell 0
  have c1 := hb.cell 1
  simp at c0 c1
  go_enter Tryz.func78, Tryz.ntmps78
  go_wp2
  go_quiet (fail)
  go_wp2
  go_ret
  exact ⟨by simp, _, rfl⟩

theorem CodesAt.drewN {w : World} {g : Nat} {l : List Int} {k : Nat} (h : CodesAt w g l k) (n : Nat) : CodesAt (w.drewN n) g l k := h
theorem CodesAt.drew {w : World} {g : Nat} {l : List Int} {k : Nat} (h : CodesAt w g l k) : CodesAt w.drew g l k := h
theorem CodesAt.set_ {w : World} {g : Nat} {l : List Int} {k : Nat} (h : CodesAt w g l k) (hk : k < l.length) : CodesAt (w.setCell ⟨g, 1, none⟩ (.int .i64 ((k : Int) + 1))) g l (k + 1) := by
  obtain ⟨A, c, hb, hr, _, hl, hx⟩ := h
  refine ⟨A, c, by simpa using hb.set_ 1 (.int .i64 ((k : Int) + 1)), hr.keep (fun b hb _ => Below.heap_setCell _ _ _ _ (by simp; omega)) (by simp [World.setCell]), hk, hl, hx⟩

def nextV (l : List Int) (k : Nat) (n : Int) : Int := if k < l.length ∧ 1 ≤ n then l.getD k 0 * n / 256 else 0
def nextK (l : List Int) (k : Nat) (n : Int) : Nat := if k < l.length ∧ 1 ≤ n then k + 1 else k
def NextPost (w : World) (g : Nat) (l : List Int) (k : Nat) (n : Int) (e : Ending) (w' : World) : Prop :=
  e = .returned (.int .i64 (nextV l k n)) ∧ CodesAt w' g l (nextK l k n) ∧ w.grownBy w' (some g)

set_option maxHeartbeats 400000 in
theorem next_any (g : Nat) (l : List Int) (k : Nat) (n : Int) (w : World) (h : CodesAt w g l k) (hn : n ≤ 1000000) :
    Calls Tryz.prog 45 #[.pointer (some ⟨g, 0, none⟩), .int .i64 n] w (NextPost w g l k n) := by
  have H := Lib.hid h
  obtain ⟨A, c, hb, hr, hk, hl, hx⟩ := h
  have c0 := hb.cell 0
  have c1 := hb.cell 1
  have f1 := hb.frozen 1
  simp at c0 c1
  by_cases h1 : k < l.length
  · by_cases h2 : 1 ≤ n
    · have hv : nextV l k n = l[k] * n / 256 := by simp [nextV, h1, h2]
      have hv2 : nextK l k n = k + 1 := by simp [nextK, h1, h2]
      have hb' := hx (l[k]) (List.getElem_mem h1)
      obtain ⟨b, off, rfl, hc⟩ := hr.at_ (k := k) (by simpa using h1)
      simp at hc
      have HV := Lib.hid hv
      have HV2 := Lib.hid hv2
      have hm1 : 0 ≤ l[k] * n := Int.mul_nonneg hb'.1 (by omega)
      have hm2 : l[k] * n ≤ 255 * 1000000 := Int.mul_le_mul hb'.2 hn (by omega) (by omega)
      clear hv hv2 hr hx hb
      have hd : decide (n < 1) = false := by simp; omega
      go_enter Tryz.func45, Tryz.ntmps45
      go_wp2_with (go_at_call 78; refine (left_any g l k _ H.out).mono ?_; rintro e w' ⟨rfl, nq, rfl⟩)
      go_quiet (fail)
      go_wp2
      go_ret
      refine ⟨ret_int HV.out.symm, ?_, ?_⟩
      · rw [HV2.out]; exact CodesAt.drewN (H.out.set_ h1) _
      · exact only_drewN (only_setCell (only_refl _ _) (.inl rfl) _) _
    · have hv : nextV l k n = 0 := by simp [nextV, h2]
      have hv2 : nextK l k n = k := by simp [nextK, h2]
      have HV := Lib.hid hv
      have HV2 := Lib.hid hv2
      clear hv hv2 hr hx hb
      have hd : decide (n < 1) = true := by simp; omega
      go_enter Tryz.func45, Tryz.ntmps45
      go_wp2_with (go_at_call 78; refine (left_any g l k _ H.out).mono ?_; rintro e w' ⟨rfl, nq, rfl⟩)
      go_ret
      exact ⟨ret_int HV.out.symm, by rw [HV2.out]; exact CodesAt.drewN H.out _, only_drewN (only_refl _ _) _⟩
  · have hv : nextV l k n = 0 := by simp [nextV, h1]
    have hv2 : nextK l k n = k := by simp [nextK, h1]
    have HV := Lib.hid hv
    have HV2 := Lib.hid hv2
    clear hv hv2 hr hx hb
    go_enter Tryz.func45, Tryz.ntmps45
    go_wp2_with (go_at_call 78; refine (left_any g l k _ H.out).mono ?_; rintro e w' ⟨rfl, nq, rfl⟩)
    go_ret
    exact ⟨ret_int HV.out.symm, by rw [HV2.out]; exact CodesAt.drewN H.out _, only_drewN (only_refl _ _) _⟩

def NewPost (w : World) (l : List Int) (e : Ending) (w' : World) : Prop :=
  e = .returned (.pointer (some ⟨w.heap.size, 0, none⟩)) ∧ CodesAt w' w.heap.size l 0 ∧ w.grownBy w' none ∧ w.heap.size < w'.heap.size

set_option maxHeartbeats 400000 in
theorem new_any (A : Option Addr) (l : List Int) (c : Nat) (m : Nat) (w : World) (h : Rd (fun _ => True) w A (l.map (.int .u8))) (hc : l.length ≤ c) (hcm : c ≤ maxLen) (hm : m ≤ 100000) (hx : ∀ x ∈ l, 0 ≤ x ∧ x ≤ 255) :
    Calls Tryz.prog 18 #[.slice A l.length c, .int .i64 (m : Int)] w (NewPost w (l.take m)) := by
  unfold maxLen at hcm
  have H := Lib.hid h
  have HX := Lib.hid hx
  clear h hx
  go_enter Tryz.func18, Tryz.ntmps18
  rcases Nat.le_total m l.length with hle | hle
  · have i1 : min (l.length : Int) (m : Int) = (m : Int) := by omega
    have i2 : (m : Int) ≤ (l.length : Int) := by omega
    go_wp2
    all_goals go_ret
    all_goals refine ⟨rfl, ⟨A, c, ?_, ?_, Nat.zero_le _, by simp; omega, fun x hx => HX.out x (List.mem_of_mem_take hx)⟩, only_alloc (only_refl _ _) _, by simp⟩
    all_goals first | exact (Rd.mono (H.out.take m) (fun _ _ h => h)).alloc_map _ | skip
    all_goals first | (rw [List.length_take, Nat.min_eq_left (by omega)]; exact Blk.new _ _ _) | (rw [List.length_take, Nat.min_eq_right (by omega)]; exact Blk.new _ _ _)
  · have i1 : min (l.length : Int) (m : Int) = (l.length : Int) := by omega
    have i2 : (l.length : Int) ≤ (m : Int) := by omega
    go_wp2
    all_goals go_ret
    all_goals refine ⟨rfl, ⟨A, c, ?_, ?_, Nat.zero_le _, by simp; omega, fun x hx => HX.out x (List.mem_of_mem_take hx)⟩, only_alloc (only_refl _ _) _, by simp⟩
    all_goals first | exact (Rd.mono (H.out.take m) (fun _ _ h => h)).alloc_map _ | skip
    all_goals first | (rw [List.length_take, Nat.min_eq_left (by omega)]; exact Blk.new _ _ _) | (rw [List.length_take, Nat.min_eq_right (by omega)]; exact Blk.new _ _ _)

theorem CodesAt.grown {w w' : World} {g : Nat} {l : List Int} {k : Nat} {row : Option Nat} (h : CodesAt w g l k) (hg : w.grownBy w' row) (hr : ∀ b, b ≤ g → some b ≠ row) : CodesAt w' g l k := by
  obtain ⟨A, c, hb, hrd, h2⟩ := h
  exact ⟨A, c, hb.grown hg (hr g (Nat.le_refl _)), hrd.grown hg (fun b hb => hr b (Nat.le_of_lt hb)), h2⟩
theorem CodesAt.alloc {w : World} {g : Nat} {l : List Int} {k : Nat} (h : CodesAt w g l k) (o : Obj) : CodesAt (w.alloc o) g l k := h.grown (World.grownBy_alloc w o none) (by simp)
theorem CodesAt.lt {w : World} {g : Nat} {l : List Int} {k : Nat} (h : CodesAt w g l k) : g < w.heap.size := by
  obtain ⟨A, c, hb, _⟩ := h
  exact hb.lt
theorem nextV_nonneg {l : List Int} (hx : ∀ x ∈ l, 0 ≤ x ∧ x ≤ 255) (k : Nat) (n : Int) : 0 ≤ nextV l k n := by
  unfold nextV
  split
  · rename_i h
    have := hx (l.getD k 0) (getD_mem l 0 h.1)
    have : 0 ≤ l.getD k 0 * n := Int.mul_nonneg this.1 (by omega)
    omega
  · omega
theorem nextV_lt {l : List Int} (hx : ∀ x ∈ l, 0 ≤ x ∧ x ≤ 255) (k : Nat) (n : Int) (hn : 1 ≤ n) : nextV l k n < n := by
  unfold nextV
  split
  · rename_i h
    have := hx (l.getD k 0) (getD_mem l 0 h.1)
    have : l.getD k 0 * n ≤ 255 * n := Int.mul_le_mul_of_nonneg_right this.2 (by omega)
    omega
  · omega
/-- a choice, of which only its range is told -/
def DrawnPost (w : World) (g : Nat) (l : List Int) (P : Int → Prop) (e : Ending) (w' : World) : Prop :=
  ∃ (v : Int) (k : Nat), e = .returned (.int .i64 v) ∧ P v ∧ CodesAt w' g l k ∧ w.grownBy w' (some g)
theorem next_some (g : Nat) (l : List Int) (k : Nat) (n : Int) (w : World) (h : CodesAt w g l k) (h1 : 1 ≤ n) (hn : n ≤ 1000000) :
    Calls Tryz.prog 45 #[.pointer (some ⟨g, 0, none⟩), .int .i64 n] w (DrawnPost w g l (fun v => 0 ≤ v ∧ v < n)) :=
  (next_any g l k n w h hn).mono fun e w' ⟨he, hc, hg⟩ => ⟨_, _, he, by
    obtain ⟨A, c, _, _, _, _, hx⟩ := h
    exact ⟨nextV_nonneg hx k n, nextV_lt hx k n h1⟩, hc, hg⟩

/-- tables of constants -/
def isStr (m : Nat) : Value → Bool | .string s => decide (s.size ≤ m) | _ => false
def isInt (p : Int → Bool) : Value → Bool | .int .i64 n => p n | _ => false
theorem tab_str {cs : Array Value} {m : Nat} (h : cs.toList.all (isStr m) = true) {j : Nat} (hj : j < cs.size) : ∃ s, cs[j]? = some (.string s) ∧ s.size ≤ m := by
  have h1 := List.all_eq_true.1 h cs[j] (by rw [Array.mem_toList_iff]; exact Array.getElem_mem hj)
  rw [Array.getElem?_eq_getElem hj]
  revert h1
  cases hv : cs[j] with
  | string s => intro h1; exact ⟨_, rfl, by simpa [isStr] using h1⟩
  | _ => intro h1; simp [isStr] at h1
theorem tab_int {cs : Array Value} {p : Int → Bool} (h : cs.toList.all (isInt p) = true) {j : Nat} (hj : j < cs.size) : ∃ n, cs[j]? = some (.int .i64 n) ∧ p n = true := by
  have h1 := List.all_eq_true.1 h cs[j] (by rw [Array.mem_toList_iff]; exact Array.getElem_mem hj)
  rw [Array.getElem?_eq_getElem hj]
  revert h1
  cases hv : cs[j] with
  | int k n =>
    cases k with
    | i64 => intro h1; exact ⟨_, rfl, by simpa [isInt] using h1⟩
    | _ => intro h1; simp [isInt] at h1
  | _ => intro h1; simp [isInt] at h1

theorem Blk.str_at {w : World} {g t m : Nat} {cs : Array Value} (hB : Blk w g t cs) (h : cs.toList.all (isStr m) = true) {j : Nat} (hj : j < cs.size) : ∃ s, w.cell? ⟨g, j, none⟩ = some (.string s) ∧ Hid (s.size ≤ m) := by
  obtain ⟨s, hs, hm⟩ := tab_str h hj
  exact ⟨s, (hB.cell j).trans hs, hm⟩
theorem Blk.int_at {w : World} {g t : Nat} {p : Int → Bool} {cs : Array Value} (hB : Blk w g t cs) (h : cs.toList.all (isInt p) = true) {j : Nat} (hj : j < cs.size) : ∃ n, w.cell? ⟨g, j, none⟩ = some (.int .i64 n) ∧ Hid (p n = true) := by
  obtain ⟨s, hs, hm⟩ := tab_int h hj
  exact ⟨s, (hB.cell j).trans hs, hm⟩

def StrPost (w : World) (g : Nat) (l : List Int) (n : Nat) (e : Ending) (w' : World) : Prop :=
  ∃ (s : ByteArray) (k : Nat), e = .returned (.string s) ∧ s.size ≤ n ∧ CodesAt w' g l k ∧ w.grownBy w' (some g)
end Go.Proofs.YtpaiideboodaeaaGreatDoor
