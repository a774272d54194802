/- law24: ColumnBounds: the walk of the law itself. For every input. -/
import Derived.Test.YtebakogdbeeljaaLaw24A
namespace Go.Proofs.Ytebakogdbeeljaa
open Go.RowKit
set_option linter.unusedVariables false
set_option linter.unusedSimpArgs false

def bLo (vs : List Int) : Int := if vs.length = 0 then 0 else loTo vs vs.length
def bHi (vs : List Int) : Int := if vs.length = 0 then 0 else hiTo vs vs.length
def bOk (vs : List Int) : Bool := if vs.length = 0 then false else true
theorem bounds_tup {S : Nat → Prop} (A : Option Addr) (vs : List Int) (c : Nat) (w : World) (h : Rd S w A (vs.map (.int .i64))) (hl : vs.length ≤ 1000000) :
    Calls Try.prog 11 #[.slice A vs.length c] w (Same (.tuple #[.int .i64 (bLo vs), .int .i64 (bHi vs), .bool (bOk vs)]) w) :=
  (bounds_any A vs c w h hl).mono fun e w' ⟨he, hn⟩ => ⟨by rw [he]; unfold bLo bHi bOk; split <;> rfl, hn⟩
theorem rbounds_tup {S : Nat → Prop} (A : Option Addr) (vs : List Int) (c : Nat) (w : World) (h : Rd S w A (vs.map (.int .i64))) (hl : vs.length ≤ 1000000) :
    Calls Try.prog 12 #[.slice A vs.length c] w (Same (.tuple #[.int .i64 (bLo vs), .int .i64 (bHi vs), .bool (bOk vs)]) w) :=
  (rbounds_any A vs c w h hl).mono fun e w' ⟨he, hn⟩ => ⟨by rw [he]; unfold bLo bHi bOk; split <;> rfl, hn⟩

theorem quiet_add_of {P : Program} {f : FuncId} {args : Array Value} {w : World} {a n : Nat} {v : Value}
    (h : Calls P f args (w.drewN (a + n)) (Same v (w.drewN (a + n)))) :
    Calls P f args (w.drewN (a + n)) fun e w'' => e = .returned v ∧ ∃ m, w'' = w.drewN (a + m) :=
  h.mono fun _ _ ⟨he, m, hm⟩ => ⟨he, n + m, by rw [hm, World.drewN_drewN, Nat.add_assoc]⟩

set_option maxHeartbeats 1000000 in
set_option maxRecDepth 100000 in
theorem law_bounds (A B : Option Addr) (vs l : List Int) (c d : Nat) (w : World) (hv : Rd (fun _ => True) w A (vs.map (.int .i64))) (hcv : c ≤ maxLen) (hvc : vs.length ≤ c)
    (h : Rd (fun _ => True) w B (l.map (.int .u8))) (hc : l.length ≤ d) (hcm : d ≤ maxLen) (hx : ∀ x ∈ l, 0 ≤ x ∧ x ≤ 255) :
    Calls Try.prog 3 #[.slice A vs.length c, .slice B l.length d] w (TrueExt w) := by
  have HX := Lib.hid hx
  have HV := Lib.hid hv
  have HL := Lib.hid h
  clear hx hv h
  unfold maxLen at hcv
  by_cases hbig : 400 < vs.length
  · go_enter Try.func3, Try.ntmps3
    go_wp2_with (go_at_call 9; refine (awake_any _).mono ?_; rintro e w1 ⟨rfl, hg1⟩)
    go_ret
    exact ⟨by simp, hg1⟩
  · have hdb : decide ((400 : Int) < (vs.length : Int)) = false := by simp; omega
    go_enter Try.func3, Try.ntmps3
    go_wp2_with (go_at_call 9; refine (awake_any _).mono ?_; rintro e w1 ⟨rfl, hg1⟩)
    refine (draw_any B l d _ (HL.out.grown hg1 (by simp)) hc hcm HX.out).mono ?_
    rintro e w2 ⟨A2, c2, us, rfl, hl2, hc2, hcm2, -, hr2, hg2⟩
    have HV2 := Lib.hid ((HV.out.grown hg1 (by simp)).grown hg2 (by simp))
    have HR2 := Lib.hid hr2
    have G2 : Hid (w.grownBy w2 none) := only_trans hg1 hg2
    clear HV HL HX hr2 hg1 hg2
    go_wp2_with fail
    obtain ⟨W, hW⟩ : ∃ W, W = w2.alloc (Obj.cells #[Value.slice A vs.length c, Value.slice A2 us.length c2] 22) := ⟨_, rfl⟩
    rw [← hW]
    have hB : Blk W w2.heap.size _ _ := hW ▸ Blk.new w2 _ _
    have hc0 := hB.cell 0
    have hc1 := hB.cell 1
    simp at hc0 hc1
    have HV3 := Lib.hid (hW ▸ HV2.out.alloc _ : Rd _ W _ _)
    have HR3 := Lib.hid (hW ▸ HR2.out.alloc _ : Rd _ W _ _)
    have G3 : Hid (w.grownBy W none) := hW ▸ only_alloc G2.out _
    clear HV2 HR2 G2 hB hW
    generalize w2.heap.size = gb at *
    go_loopw [6] (fun i wr => ∃ k : Nat, k ≤ 2 ∧ i = .int .i64 k ∧ ∃ q, wr = W.drewN q) (fun i _ => 2 - (intOf i).toNat)
    case atStart => exact ⟨0, by omega, rfl, 0, rfl⟩
    case round =>
      obtain ⟨k, hk, rfl, q, rfl⟩ := hrel
      rcases k with _ | _ | k
      · -- the argument itself
        go_wp2_with (first | (go_at_call 11; refine (bounds_tup _ vs _ _ (by exact (HV3.out).drewN _) (by omega)).mono ?_; rintro e w' ⟨rfl, nq, rfl⟩) | (go_at_call 12; refine (rbounds_tup _ vs _ _ (by exact (HV3.out).drewN _) (by omega)).mono ?_; rintro e w' ⟨rfl, nq, rfl⟩))
        go_quiet ((first | (go_at_call 13; exact quiet_add_of (runs_any _ vs _ _ (by exact (HV3.out).drewN _) (by omega))) | (go_at_call 14; exact quiet_add_of (rruns_any _ vs _ _ (by exact (HV3.out).drewN _) (by omega)))))
        go_wp2
        go_roundw
        case rel => exact ⟨1, by omega, rfl, _, rfl⟩
        case measure => simp [intOf]
      · -- the drawn column
        go_wp2_with (first | (go_at_call 11; refine (bounds_tup _ us _ _ (by exact (HR3.out).drewN _) (by omega)).mono ?_; rintro e w' ⟨rfl, nq, rfl⟩) | (go_at_call 12; refine (rbounds_tup _ us _ _ (by exact (HR3.out).drewN _) (by omega)).mono ?_; rintro e w' ⟨rfl, nq, rfl⟩))
        go_quiet ((first | (go_at_call 13; exact quiet_add_of (runs_any _ us _ _ (by exact (HR3.out).drewN _) (by omega))) | (go_at_call 14; exact quiet_add_of (rruns_any _ us _ _ (by exact (HR3.out).drewN _) (by omega)))))
        go_wp2
        go_roundw
        case rel => exact ⟨2, by omega, rfl, _, rfl⟩
        case measure => simp [intOf]
      · obtain rfl : k = 0 := by omega
        go_wp2
        go_ret
        exact ⟨rfl, only_drewN G3.out _⟩
end Go.Proofs.Ytebakogdbeeljaa
