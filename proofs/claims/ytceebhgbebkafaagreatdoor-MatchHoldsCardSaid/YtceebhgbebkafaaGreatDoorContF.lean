/- slices.IndexFunc, slices.ContainsFunc over the kids of a test; match.term, term of the reference. Condition: sizes. -/
import Derived.Test.YtceebhgbebkafaaGreatDoorPossP
import Derived.Test.YtceebhgbebkafaaGreatDoorAwake
import Derived.Test.YtceebhgbebkafaaGreatDoorPTimes
import Derived.Deep.RegionLaw
namespace Go.Proofs.YtceebhgbebkafaaGreatDoor
open Go.RowKit
set_option linter.unusedVariables false
set_option linter.unusedSimpArgs false

def IdxP (w : World) (b : Bool) (e : Ending) (w' : World) : Prop := ∃ i : Int, e = .returned (.int .i64 i) ∧ (-1 ≤ i ∧ i ≤ 1000000) ∧ decide (0 ≤ i) = b ∧ w.grownBy w' none
theorem idxP_mk {w w' : World} {b : Bool} {i : Int} (h1 : -1 ≤ i) (h2 : i ≤ 1000000) (h3 : decide (0 ≤ i) = b) (h4 : w.grownBy w' none) : IdxP w b (.returned (.int .i64 i)) w' := ⟨i, rfl, ⟨h1, h2⟩, h3, h4⟩
theorem any_hit {α : Type} {p : α → Bool} {l : List α} {k : Nat} {y : α} (hy : l[k]? = some y) (h : p y = true) : l.any p = true := List.any_eq_true.2 ⟨y, List.mem_of_getElem? hy, h⟩
theorem any_step {α : Type} {p : α → Bool} {l : List α} {k : Nat} {y : α} (hy : l[k]? = some y) (h0 : (l.take k).any p = false) (h : p y = false) : (l.take (k + 1)).any p = false := by
  obtain ⟨hk, e⟩ := List.getElem?_eq_some_iff.1 hy
  rw [List.take_succ_eq_append_getElem hk, e, List.any_append, h0]
  simp [h]
theorem all_miss {α : Type} {p : α → Bool} {l : List α} {k : Nat} {y : α} (hy : l[k]? = some y) (h : p y = false) : l.all p = false := by
  rw [List.all_eq_false]
  exact ⟨y, List.mem_of_getElem? hy, by simp [h]⟩
theorem all_step {α : Type} {p : α → Bool} {l : List α} {k : Nat} {y : α} (hy : l[k]? = some y) (h0 : (l.take k).all p = true) (h : p y = true) : (l.take (k + 1)).all p = true := by
  obtain ⟨hk, e⟩ := List.getElem?_eq_some_iff.1 hy
  rw [List.take_succ_eq_append_getElem hk, e, List.all_append, h0]
  simp [h]
set_option maxHeartbeats 2000000 in
theorem idxF_any {S : Nat → Prop} (g : FuncId) (eg : ∀ (args : Array Value) (w : World), (callFunc g args).run Tryz.prog w = .ok (.enter g args) w) (lb : Array Value) (p : TT → Bool) (ka : Option Addr) (kids : List TT) (kc : Nat) (w : World) (hr : Rd S w ka (kids.flatMap TT.cells)) (hl : kids.length ≤ 1000000)
    (hp : ∀ k ∈ kids, ∀ w', w.grownBy w' none → Calls Tryz.prog g (#[.agg #[.int .i64 k.op, .string k.nm, .string k.tx, .int .i64 k.num, .slice k.ka k.kids.length k.kc]] ++ lb) w' (BoolP w' (p k))) :
    Calls Tryz.prog 79 #[.slice ka kids.length kc, .func (.func g) #[] lb] w (IdxP w (kids.any p)) := by
  have HK := Lib.hid hr
  have HP := Lib.hid hp
  clear hr hp
  go_enter Tryz.func79, Tryz.ntmps79
  go_wp2_with fail
  go_loopw [5, 8] (fun _ i wr => ∃ k : Nat, i = .int .i64 k ∧ k ≤ kids.length ∧ Hid ((kids.take k).any p = false) ∧ w.grownBy wr none) (fun _ i _ => kids.length - (intOf i).toNat)
  case atStart => exact ⟨0, rfl, Nat.zero_le _, rfl, only_refl _ _⟩
  case round =>
    obtain ⟨k, rfl, hk, HN, hG⟩ := hrel
    have GR := Lib.hid hG
    clear hG
    by_cases hlt : k < kids.length
    · obtain ⟨y, hy⟩ : ∃ y, kids[k]? = some y := ⟨_, List.getElem?_eq_getElem hlt⟩
      obtain ⟨kb, ko, rfl, hkw, z0, z1, z2, z3, z4⟩ := kid_in (HK.out.grown GR.out (by simp)) hy
      have HI := Lib.hid (HP.out y (List.mem_of_getElem? hy) _ GR.out)
      have HY := Lib.hid hy
      have hltz : (k : Int) < (kids.length : Int) := by omega
      clear hy
      cases hq : p y with
      | true =>
        rw [hq] at HI
        have HQ := Lib.hid (any_hit HY.out hq)
        clear hq
        go_wp2_with (go_at_fn g; refine HI.out.mono ?_; rintro e w6 ⟨rfl, hg6⟩)
        go_ret
        exact idxP_mk (by omega) (by omega) (by rw [HQ.out]; simp) (only_trans GR.out hg6)
      | false =>
        rw [hq] at HI
        have HQ := Lib.hid (any_step HY.out HN.out hq)
        clear hq
        go_wp2_with (go_at_fn g; refine HI.out.mono ?_; rintro e w6 ⟨rfl, hg6⟩)
        go_roundw
        case rel => exact ⟨k + 1, by go_num, by omega, HQ, only_trans GR.out hg6⟩
        case measure => simp [intOf]; omega
    · have hltz : ¬ (k : Int) < (kids.length : Int) := by omega
      have HQ : Hid (kids.any p = false) := by have := HN.out; rw [List.take_of_length_le (by omega)] at this; exact this
      go_wp2_with fail
      go_ret
      exact idxP_mk (by omega) (by omega) (by rw [HQ.out]; decide) GR.out
set_option maxHeartbeats 2000000 in
theorem contF_any {S : Nat → Prop} (g : FuncId) (eg : ∀ (args : Array Value) (w : World), (callFunc g args).run Tryz.prog w = .ok (.enter g args) w) (lb : Array Value) (p : TT → Bool) (ka : Option Addr) (kids : List TT) (kc : Nat) (w : World) (hr : Rd S w ka (kids.flatMap TT.cells)) (hl : kids.length ≤ 1000000)
    (hp : ∀ k ∈ kids, ∀ w', w.grownBy w' none → Calls Tryz.prog g (#[.agg #[.int .i64 k.op, .string k.nm, .string k.tx, .int .i64 k.num, .slice k.ka k.kids.length k.kc]] ++ lb) w' (BoolP w' (p k))) :
    Calls Tryz.prog 46 #[.slice ka kids.length kc, .func (.func g) #[] lb] w (BoolP w (kids.any p)) := by
  have HI := Lib.hid (idxF_any g eg lb p ka kids kc w hr hl hp)
  clear hr hl hp
  go_enter Tryz.func46, Tryz.ntmps46
  go_wp2_with fail
  refine HI.out.mono ?_
  rintro e w1 ⟨i, rfl, ⟨hi1, hi2⟩, hi3, hg⟩
  go_wp2_with fail
  go_ret
  exact ⟨by rw [← hi3]; rfl, hg⟩
end Go.Proofs.YtceebhgbebkafaaGreatDoor
namespace Go.Proofs.YtceebhgbebkafaaGreatDoor
open Go.RowKit
set_option linter.unusedVariables false
set_option linter.unusedSimpArgs false

def termV : Option ByteArray → Value
  | some s => .tuple #[.string s, .bool true]
  | none => .tuple #[.string ⟨#[]⟩, .bool false]
def TermP (w : World) (o : Option ByteArray) (e : Ending) (w' : World) : Prop := e = .returned (termV o) ∧ w.grownBy w' none
def nmeq (nm tx : ByteArray) : ByteArray := nm ++ eqSign ++ tx
theorem nmeq_size (nm tx : ByteArray) : (nmeq nm tx).size = nm.size + 1 + tx.size := by unfold nmeq; rw [ByteArray.size_append, ByteArray.size_append]; rfl
def atB (nm : ByteArray) : Bool := Lib.hasPrefix nm.data.toList [64]
theorem term_of1 {nm tx : ByteArray} {num : Int} {ka : Option Addr} {kc : Nat} {kids : List TT} : (TT.mk 1 nm tx num ka kc kids).term = some tx := by simp [TT.term, TT.op, TT.tx]
theorem term_of4 {nm tx : ByteArray} {num : Int} {ka : Option Addr} {kc : Nat} {kids : List TT} (h : atB nm = false) : (TT.mk 4 nm tx num ka kc kids).term = some (nmeq nm tx) := by unfold atB at h; simp [TT.term, TT.op, TT.tx, TT.nm, h, nmeq]
theorem term_at4 {nm tx : ByteArray} {num : Int} {ka : Option Addr} {kc : Nat} {kids : List TT} (h : atB nm = true) : (TT.mk 4 nm tx num ka kc kids).term = none := by unfold atB at h; simp [TT.term, TT.op, TT.tx, TT.nm, h]
theorem term_else {op : Int} {nm tx : ByteArray} {num : Int} {ka : Option Addr} {kc : Nat} {kids : List TT} (h1 : op ≠ 1) (h4 : op ≠ 4) : (TT.mk op nm tx num ka kc kids).term = none := by simp [TT.term, TT.op, h1, h4]
set_option maxHeartbeats 2000000 in
theorem term_any (op : Int) (nm tx : ByteArray) (num : Int) (ka : Option Addr) (kc : Nat) (kids : List TT) (w : World) (hz1 : nm.size ≤ 20) (hz2 : tx.size ≤ 20) :
    Calls Tryz.prog 48 #[.agg #[.int .i64 op, .string nm, .string tx, .int .i64 num, .slice ka kids.length kc]] w (TermP w (TT.mk op nm tx num ka kc kids).term) := by
  have HS : Hid ((nmeq nm tx).size ≤ 2048) := Lib.hid (by rw [nmeq_size]; omega)
  have HPX : ∀ w', Calls Tryz.prog 65 #[.string nm, .string ⟨#[64]⟩] w' fun e w'' => e = .returned (.bool (atB nm)) ∧ w'' = w' := fun w' => Tryz.strings_HasPrefix nm ⟨#[64]⟩ w'
  have HP := Lib.hid HPX
  clear HPX
  by_cases h1 : op = 1
  · subst h1
    rw [term_of1]
    go_enter Tryz.func48, Tryz.ntmps48
    go_wp2_with fail
    exact bodyPost_ret (v := termV (some tx)) (by simp [results, Tryz.results48, go_sem, termV]) rfl ⟨rfl, only_alloc (only_refl _ _) _⟩
  have g1 : (op == 1) = false := by simp [h1]
  by_cases h4 : op = 4
  · subst h4
    cases hb : atB nm with
    | true =>
      rw [term_at4 hb]
      rw [hb] at HP
      clear hb h1
      go_enter Tryz.func48, Tryz.ntmps48
      go_wp2_with fail
      refine (HP.out _).mono ?_
      rintro e w2 ⟨rfl, rfl⟩
      all_goals
        go_wp2_with fail
        exact bodyPost_ret (v := termV none) (by simp [results, Tryz.results48, go_sem, termV]) rfl ⟨rfl, only_alloc (only_refl _ _) _⟩
    | false =>
      rw [term_of4 hb]
      rw [hb] at HP
      clear hb h1
      have HS1 := HS.out
      go_enter Tryz.func48, Tryz.ntmps48
      go_wp2_with fail
      refine (HP.out _).mono ?_
      rintro e w2 ⟨rfl, rfl⟩
      all_goals
        go_wp2_with fail
        exact bodyPost_ret (v := termV (some (nmeq nm tx))) (by simp [results, Tryz.results48, go_sem, termV]; exact ⟨rfl, by omega⟩) rfl ⟨rfl, only_alloc (only_refl _ _) _⟩
  have g4 : (op == 4) = false := by simp [h4]
  rw [term_else h1 h4]
  clear h1 h4
  go_enter Tryz.func48, Tryz.ntmps48
  go_wp2_with fail
  exact bodyPost_ret (v := termV none) (by simp [results, Tryz.results48, go_sem, termV]) rfl ⟨rfl, only_alloc (only_refl _ _) _⟩
theorem bts_size (nm : ByteArray) : nm.toList.length = nm.size := by rw [ByteArray.toList_eq]; rfl
theorem atB_nil (nm : ByteArray) (h : nm.toList = []) : atB nm = false := by
  unfold atB; rw [← ByteArray.toList_eq, h]; rfl
theorem atB_at (nm : ByteArray) (h : 0 < nm.size) : atB nm = decide (((nm[0]'h).toNat : Int) = 64) := by
  unfold atB
  obtain ⟨⟨l⟩⟩ := nm
  cases l with
  | nil => simp [ByteArray.size] at h
  | cons x xs =>
    show Lib.hasPrefix (x :: xs) [64] = decide ((x.toNat : Int) = 64)
    rw [Bool.eq_iff_iff]
    simp [Lib.hasPrefix]
    constructor
    · rintro rfl; rfl
    · intro e; exact (UInt8.toNat_inj.1 (by simp; omega))
set_option maxHeartbeats 2000000 in
/-- at an Is test -/
theorem rterm_any (nm tx : ByteArray) (num : Int) (ka : Option Addr) (kc : Nat) (kids : List TT) (w : World) (hz1 : nm.size ≤ 20) (hz2 : tx.size ≤ 20) :
    Calls Tryz.prog 53 #[.agg #[.int .i64 4, .string nm, .string tx, .int .i64 num, .slice ka kids.length kc]] w (fun e w' => e = .returned (.tuple #[.string (nmeq nm tx), .bool (!atB nm)]) ∧ w.grownBy w' none) := by
  by_cases h0 : nm.toList = []
  · have hs0 : nm.size = 0 := by rw [← bts_size, h0]; rfl
    rw [atB_nil nm h0]
    go_enter Tryz.func53, Tryz.ntmps53
    go_wp2_with fail
    exact bodyPost_ret (v := .tuple #[.string (nmeq nm tx), .bool (!false)]) (by simp [results, Tryz.results53, go_sem]; exact ⟨rfl, by omega⟩) rfl ⟨rfl, only_alloc (only_refl _ _) _⟩
  · have hs0 : 0 < nm.size := by
      rw [← bts_size]
      exact List.length_pos_iff.2 h0
    have hn : ¬ nm.size = 0 := by omega
    have hn2 : nm.toList.isEmpty = false := by simpa using h0
    by_cases h64 : ((nm[0]'hs0).toNat : Int) = 64
    · have g1 : (((nm[0]'hs0).toNat : Int) == 64) = true := by simp [h64]
      have g2 : (((nm[0]'hs0).toNat : Int) != 64) = false := by simp [h64]
      have hv : atB nm = true := by rw [atB_at nm hs0, h64]; rfl
      rw [hv]
      clear h0 h64 hv
      go_enter Tryz.func53, Tryz.ntmps53
      go_wp2_with fail
      exact bodyPost_ret (v := .tuple #[.string (nmeq nm tx), .bool (!true)]) (by simp [results, Tryz.results53, go_sem, nmeq, eqSign]) rfl ⟨rfl, only_alloc (only_refl _ _) _⟩
    · have g1 : (((nm[0]'hs0).toNat : Int) == 64) = false := by simp [h64]
      have g2 : (((nm[0]'hs0).toNat : Int) != 64) = true := by simp [h64]
      have hv : atB nm = false := by rw [atB_at nm hs0]; simp [h64]
      rw [hv]
      clear h0 h64 hv
      go_enter Tryz.func53, Tryz.ntmps53
      go_wp2_with fail
      exact bodyPost_ret (v := .tuple #[.string (nmeq nm tx), .bool (!false)]) (by simp [results, Tryz.results53, go_sem, nmeq, eqSign]; try omega) rfl ⟨rfl, only_alloc (only_refl _ _) _⟩
end Go.Proofs.YtceebhgbebkafaaGreatDoor
