/- slices.IndexFunc, slices.ContainsFunc over the kids of a test; match.term, term of the reference. Condition: sizes. -/
import Derived.Test.YtceebhgbebkafaaGreatDoorPossP
import Derived.Test.YtceebhgbebkafaaGreatDoorAwake
import Derived.Test.YtceebhgbebkafaaGreatDoorPTimes
import Derived.Deep.RegionLaw
namespace Go.Proofs.YtceebhgbebkafaaGreatDoor
open Go.RowKit
set_option linter.unusedVariables false
set_option linter.unusedSimpArgs false

def IdxP (w : World) (b : Bool) (e : Ending) (w' : World) : Prop := ∃ i : Int, e = .returned (.int .i64 i) ∧ (-1 ≤ i ∧ i ≤ 1000000) ∧ decide (0 ≤ i) = b ∧ w.grownBy w' none
theorem idxP_mk {w w' : World} {b : Bool} {i : Int} (h1 : -1 ≤ i) (h2 : i ≤ 1000000) (h3 : decide (0 ≤ i) = b) (h4 : w.grownBy w' none) : IdxP w b (.returned (.int .i64 i)) w' := ⟨i, rfl, ⟨h1, h2⟩, h3, h4⟩
theorem any_hit {α : Type} {p : α → Bool} {l : List α} {k : Nat} {y : α} (hy : l[k]? = some y) (h : p y = true) : l.any p = true := List.any_eq_true.2 ⟨y, List.mem_of_getElem? hy, h⟩
theorem any_step {α : Type} {p : α → Bool} {l : List α} {k : Nat} {y : α} (hy : l[k]? = some y) (h0 : (l.take k).any p = false) (h : p y = false) : (l.take (k + 1)).any p = false := by
  obtain ⟨hk, e⟩ := List.getElem?_eq_some_iff.1 hy
  rw [List.take_succ_eq_append_getElem hk, e, List.any_append, h0]
  simp [h]
theorem all_miss {α : Type} {p : α → Bool} {l : List α} {k : Nat} {y : α} (hy : l[k]? = some y) (h : p y = false) : l.all p = false := by
  rw [List.all_eq_false]
  exact ⟨y, List.mem_of_getElem? hy, by simp [h]⟩
theorem all_step {α : Type} {p : α → Bool} {l : List α} {k : Nat} {y : α} (hy : l[k]? = some y) (h0 : (l.take k).all p = true) (h : p y = true) : (l.take (k + 1)).all p = true := by
  obtain ⟨hk, e⟩ := List.getElem?_eq_some_iff.1 hy
  rw [List.take_succ_eq_append_getElem hk, e, List.all_append, h0]
  simp [h]
set_option maxHeartbeats 2000000 in
theorem idxF_any {S : Nat → Prop} (g : FuncId) (eg : ∀ (args : Array Value) (w : World), (callFunc g args).run Tryz.prog w = .ok (.enter g args) w) (lb : Array Value) (p : TT → Bool) (ka : Option Addr) (kids : List TT) (kc : Nat) (w : World) (hr : Rd S w ka (kids.flatMap TT.cells)) (hl : kids.length ≤ 1000000)
    (hp : ∀ k ∈ kids, ∀ w', w.grownBy w' none → Calls Tryz.prog g (#[.agg #[.int .i64 k.op, .string k.nm, .string k.tx, .int .i64 k.num, .slice k.ka k.kids.length k.kc]] ++ lb) w' (BoolP w' (p k))) :
    Calls Tryz.prog 79 #[.slice ka kids.length kc, .func (.func g) #[] lb] w (IdxP w (kids.any p)) := by
  have HK := Lib.hid hr
  have HP := Lib.hid hp
  clear hr hp
  go_enter Tryz.func79, Tryz.ntmps79
  go_wp2_with fail
  go_loopw [5, 8] (fun _ i wr => ∃ k : Nat, i = .int .i64 k ∧ k ≤ kids.length ∧ Hid ((kids.take k).any p = false) ∧ w.grownBy wr none) (fun _ i _ => kids.length - (intOf i).toNat)
  case atStart => exact ⟨0, rfl, Nat.zero_le _, rfl, only_refl _ _⟩
  case round =>
    obtain ⟨k, rfl, hk, HN, hG⟩ := hrel
    have GR := Lib.hid hG
    clear hG
    by_cases hlt : k < kids.length
    · obtain ⟨y, hy⟩ : ∃ y, kids[k]? = some y := ⟨_, List.getElem?_eq_getElem hlt⟩
      obtain ⟨kb, ko, rfl, hkw, z0, z1, z2, z3, z4⟩ := kid_in (HK.out.grown GR.out (by simp)) hy
      have HI := Lib.hid (HP.out y (List.mem_of_getElem? hy) _ GR.out)
      have HY := Lib.hid hy
      have hltz : (k : Int) < (kids.length : Int) := by omega
      clear hy
      cases hq : p y with
      | true =>
        rw [hq] at HI
        have HQ := Lib.hid (any_hit HY.out hq)
        clear hq
        go_wp2_with (go_at_fn g; refine HI.out.mono ?_; rintro e w6 ⟨rfl, hg6⟩)
        go_ret
        exact idxP_mk (by omega) (by omega) (by rw [HQ.out]; simp) (only_trans GR.out hg6)
      | false =>
        rw [hq] at HI
        have HQ := Lib.hid (any_step HY.out HN.out hq)
        clear hq
        go_wp2_with (go_at_fn g; refine HI.out.mono ?_; rintro e w6 ⟨rfl, hg6⟩)
        go_roundw
        case rel => exact ⟨k + 1, by go_num, by omega, HQ, only_trans GR.out hg6⟩
        case measure => simp [intOf]; omega
    · have hltz : ¬ (k : Int) < (kids.length : Int) := by omega
      have HQ : Hid (kids.any p = false) := by have := HN.out; rw [List.take_of_length_le (by omega)] at this; exact this
      go_wp2_with fail
      go_ret
      exact idxP_mk (by omega) (by omega) (by rw [HQ.out]; decide) GR.out
set_option maxHeartbeats 2000000 in
theorem contF_any {S : Nat → Prop} (g : FuncId) (eg : ∀ (args : Array Value) (w : World), (callFunc g args).run Tryz.prog w = .ok (.enter g args) w) (lb : Array Value) (p : TT → Bool) (ka : Option Addr) (kids : List TT) (kc : Nat) (w : World) (hr : Rd S w ka (kids.flatMap TT.cells)) (hl : kids.length ≤ 1000000)
    (hp : ∀ k ∈ kids, ∀ w', w.grownBy w' none → Calls Tryz.prog g (#[.agg #[.int .i64 k.op, .string k.nm, .string k.tx, .int .i64 k.num, .slice k.ka k.kids.length k.kc]] ++ lb) w' (BoolP w' (p k))) :
    Calls Tryz.prog 46 #[.slice ka kids.length kc, .func (.func g) #[] lb] w (BoolP w (kids.any p)) := by
  have HI := Lib.hid (idxF_any g eg lb p ka kids kc w hr hl hp)
  clear hr hl hp
  go_enter Tryz.func46, Tryz.ntmps46
  go_wp2_with fail
  refine HI.out.mono ?_
  rintro e w1 ⟨i, rfl, ⟨hi1, hi2⟩, hi3, hg⟩
  go_wp2_with fail
  go_ret
  exact ⟨by rw [← hi3]; rfl, hg⟩
end Go.Proofs.YtceebhgbebkafaaGreatDoor
