/- match.term, term of the reference. No condition beyond sizes. -/
import Derived.Test.YtceebhgbebkafaaGreatDoorContF
import Derived.Deep.RegionLaw
namespace Go.Proofs.YtceebhgbebkafaaGreatDoor
open Go.RowKit
set_option linter.unusedVariables false
set_option linter.unusedSimpArgs false

def termV : Option ByteArray → Value
  | some s => .tuple #[.string s, .bool true]
  | none => .tuple #[.string ⟨#[]⟩, .bool false]
def TermP (w : World) (o : Option ByteArray) (e : Ending) (w' : World) : Prop := e = .returned (termV o) ∧ w.grownBy w' none
def nmeq (nm tx : ByteArray) : ByteArray := nm ++ eqSign ++ tx
theorem nmeq_size (nm tx : ByteArray) : (nmeq nm tx).size = nm.size + 1 + tx.size := by unfold nmeq; rw [ByteArray.size_append, ByteArray.size_append]; rfl
def atB (nm : ByteArray) : Bool := Lib.hasPrefix nm.data.toList [64]
theorem term_of1 {nm tx : ByteArray} {num : Int} {ka : Option Addr} {kc : Nat} {kids : List TT} : (TT.mk 1 nm tx num ka kc kids).term = some tx := by simp [TT.term, TT.op, TT.tx]
theorem term_of4 {nm tx : ByteArray} {num : Int} {ka : Option Addr} {kc : Nat} {kids : List TT} (h : atB nm = false) : (TT.mk 4 nm tx num ka kc kids).term = some (nmeq nm tx) := by unfold atB at h; simp [TT.term, TT.op, TT.tx, TT.nm, h, nmeq]
theorem term_at4 {nm tx : ByteArray} {num : Int} {ka : Option Addr} {kc : Nat} {kids : List TT} (h : atB nm = true) : (TT.mk 4 nm tx num ka kc kids).term = none := by unfold atB at h; simp [TT.term, TT.op, TT.tx, TT.nm, h]
theorem term_else {op : Int} {nm tx : ByteArray} {num : Int} {ka : Option Addr} {kc : Nat} {kids : List TT} (h1 : op ≠ 1) (h4 : op ≠ 4) : (TT.mk op nm tx num ka kc kids).term = none := by simp [TT.term, TT.op, h1, h4]
set_option maxHeartbeats 2000000 in
theorem term_any (op : Int) (nm tx : ByteArray) (num : Int) (ka : Option Addr) (kc : Nat) (kids : List TT) (w : World) (hz1 : nm.size ≤ 20) (hz2 : tx.size ≤ 20) :
    Calls Tryz.prog 48 #[.agg #[.int .i64 op, .string nm, .string tx, .int .i64 num, .slice ka kids.length kc]] w (TermP w (TT.mk op nm tx num ka kc kids).term) := by
  have HS : Hid ((nmeq nm tx).size ≤ 2048) := Lib.hid (by rw [nmeq_size]; omega)
  have HPX : ∀ w', Calls Tryz.prog 65 #[.string nm, .string ⟨#[64]⟩] w' fun e w'' => e = .returned (.bool (atB nm)) ∧ w'' = w' := fun w' => Tryz.strings_HasPrefix nm ⟨#[64]⟩ w'
  have HP := Lib.hid HPX
  clear HPX
  by_cases h1 : op = 1
  · subst h1
    rw [term_of1]
    go_enter Tryz.func48, Tryz.ntmps48
    go_wp2_with fail
    exact bodyPost_ret (v := termV (some tx)) (by simp [results, Tryz.results48, go_sem, termV]) rfl ⟨rfl, only_alloc (only_refl _ _) _⟩
  have g1 : (op == 1) = false := by simp [h1]
  by_cases h4 : op = 4
  · subst h4
    cases hb : atB nm with
    | true =>
      rw [term_at4 hb]
      rw [hb] at HP
      clear hb h1
      go_enter Tryz.func48, Tryz.ntmps48
      go_wp2_with fail
      refine (HP.out _).mono ?_
      rintro e w2 ⟨rfl, rfl⟩
      all_goals
        go_wp2_with fail
        exact bodyPost_ret (v := termV none) (by simp [results, Tryz.results48, go_sem, termV]) rfl ⟨rfl, only_alloc (only_refl _ _) _⟩
    | false =>
      rw [term_of4 hb]
      rw [hb] at HP
      clear hb h1
      have HS1 := HS.out
      go_enter Tryz.func48, Tryz.ntmps48
      go_wp2_with fail
      refine (HP.out _).mono ?_
      rintro e w2 ⟨rfl, rfl⟩
      all_goals
        go_wp2_with fail
        exact bodyPost_ret (v := termV (some (nmeq nm tx))) (by simp [results, Tryz.results48, go_sem, termV]; exact ⟨rfl, by omega⟩) rfl ⟨rfl, only_alloc (only_refl _ _) _⟩
  have g4 : (op == 4) = false := by simp [h4]
  rw [term_else h1 h4]
  clear h1 h4
  go_enter Tryz.func48, Tryz.ntmps48
  go_wp2_with fail
  exact bodyPost_ret (v := termV none) (by simp [results, Tryz.results48, go_sem, termV]) rfl ⟨rfl, only_alloc (only_refl _ _) _⟩
theorem bts_size (nm : ByteArray) : nm.toList.length = nm.size := by rw [ByteArray.toList_eq]; rfl
theorem atB_nil (nm : ByteArray) (h : nm.toList = []) : atB nm = false := by
  unfold atB; rw [← ByteArray.toList_eq, h]; rfl
theorem atB_at (nm : ByteArray) (h : 0 < nm.size) : atB nm = decide (((nm[0]'h).toNat : Int) = 64) := by
  unfold atB
  obtain ⟨⟨l⟩⟩ := nm
  cases l with
  | nil => simp [ByteArray.size] at h
  | cons x xs =>
    show Lib.hasPrefix (x :: xs) [64] = decide ((x.toNat : Int) = 64)
    rw [Bool.eq_iff_iff]
    simp [Lib.hasPrefix]
    constructor
    · rintro rfl; rfl
    · intro e; exact (UInt8.toNat_inj.1 (by simp; omega))
set_option maxHeartbeats 2000000 in
/-- at an Is test -/
theorem rterm_any (nm tx : ByteArray) (num : Int) (ka : Option Addr) (kc : Nat) (kids : List TT) (w : World) (hz1 : nm.size ≤ 20) (hz2 : tx.size ≤ 20) :
    Calls Tryz.prog 53 #[.agg #[.int .i64 4, .string nm, .string tx, .int .i64 num, .slice ka kids.length kc]] w (fun e w' => e = .returned (.tuple #[.string (nmeq nm tx), .bool (!atB nm)]) ∧ w.grownBy w' none) := by
  by_cases h0 : nm.toList = []
  · have hs0 : nm.size = 0 := by rw [← bts_size, h0]; rfl
    rw [atB_nil nm h0]
    go_enter Tryz.func53, Tryz.ntmps53
    go_wp2_with fail
    exact bodyPost_ret (v := .tuple #[.string (nmeq nm tx), .bool (!false)]) (by simp [results, Tryz.results53, go_sem]; exact ⟨rfl, by omega⟩) rfl ⟨rfl, only_alloc (only_refl _ _) _⟩
  · have hs0 : 0 < nm.size := by
      rw [← bts_size]
      exact List.length_pos_iff.2 h0
    have hn : ¬ nm.size = 0 := by omega
    have hn2 : nm.toList.isEmpty = false := by simpa using h0
    by_cases h64 : ((nm[0]'hs0).toNat : Int) = 64
    · have g1 : (((nm[0]'hs0).toNat : Int) == 64) = true := by simp [h64]
      have g2 : (((nm[0]'hs0).toNat : Int) != 64) = false := by simp [h64]
      have hv : atB nm = true := by rw [atB_at nm hs0, h64]; rfl
      rw [hv]
      clear h0 h64 hv
      go_enter Tryz.func53, Tryz.ntmps53
      go_wp2_with fail
      exact bodyPost_ret (v := .tuple #[.string (nmeq nm tx), .bool (!true)]) (by simp [results, Tryz.results53, go_sem, nmeq, eqSign]) rfl ⟨rfl, only_alloc (only_refl _ _) _⟩
    · have g1 : (((nm[0]'hs0).toNat : Int) == 64) = false := by simp [h64]
      have g2 : (((nm[0]'hs0).toNat : Int) != 64) = true := by simp [h64]
      have hv : atB nm = false := by rw [atB_at nm hs0]; simp [h64]
      rw [hv]
      clear h0 h64 hv
      go_enter Tryz.func53, Tryz.ntmps53
      go_wp2_with fail
      exact bodyPost_ret (v := .tuple #[.string (nmeq nm tx), .bool (!false)]) (by simp [results, Tryz.results53, go_sem, nmeq, eqSign]; try omega) rfl ⟨rfl, only_alloc (only_refl _ _) _⟩
end Go.Proofs.YtceebhgbebkafaaGreatDoor
