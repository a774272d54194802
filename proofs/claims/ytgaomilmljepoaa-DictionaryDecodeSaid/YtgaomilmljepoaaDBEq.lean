/- bytes.Equal for two rows of bytes. Condition: they are bytes. -/
import Derived.Test.YtgaomilmljepoaaDRdB
namespace Go.Proofs.Ytgaomilmljepoaa
open Go.RowKit
set_option linter.unusedVariables false
set_option linter.unusedSimpArgs false

theorem strOf_inj : ∀ {a b : List Int}, (∀ x ∈ a, 0 ≤ x ∧ x ≤ 255) → (∀ x ∈ b, 0 ≤ x ∧ x ≤ 255) → (strOfNums a).toList = (strOfNums b).toList → a = b := by
  intro a b ha hb h
  have e : a.map (fun n => UInt8.ofNat n.toNat) = b.map (fun n => UInt8.ofNat n.toNat) := by
    rw [Lib.strOfNums_toList, Lib.strOfNums_toList] at h
    exact h
  have hl : a.length = b.length := by simpa using congrArg List.length e
  apply List.ext_getElem hl
  intro i h1 h2
  have e2 := congrArg (fun l => l[i]?) e
  simp only [List.getElem?_map, List.getElem?_eq_getElem h1, List.getElem?_eq_getElem h2, Option.map_some, Option.some.injEq] at e2
  have e3 := congrArg UInt8.toNat e2
  have r1 := ha _ (List.getElem_mem h1)
  have r2 := hb _ (List.getElem_mem h2)
  simp only [UInt8.toNat_ofNat'] at e3
  omega
set_option maxHeartbeats 1000000 in
theorem bequal_any {S S' : Nat → Prop} (A B : Option Addr) (a b : List Int) (c d : Nat) (w : World) (ha : Rd S w A (a.map (.int .u8))) (hb : Rd S' w B (b.map (.int .u8))) (h1 : ∀ x ∈ a, 0 ≤ x ∧ x ≤ 255) (h2 : ∀ x ∈ b, 0 ≤ x ∧ x ≤ 255) (v : Bool) (hv : v = true ↔ a = b) :
    Calls Try.prog 48 #[.slice A a.length c, .slice B b.length d] w (Quiet (.bool v) w) := by
  have c1 := Lib.BytesIn.convert (P := Try.prog) ha.bytesIn rfl c 22 5 9 Try.underlying22 Try.underlying5 Try.underlying9
  have c2 := Lib.BytesIn.convert (P := Try.prog) hb.bytesIn rfl d 22 5 9 Try.underlying22 Try.underlying5 Try.underlying9
  have HV : Hid (((strOfNums a).toList == (strOfNums b).toList) = v) := by
    show ((strOfNums a).toList == (strOfNums b).toList) = v
    cases v with
    | true => rw [hv.1 rfl]; simp
    | false =>
      rw [beq_eq_false_iff_ne]
      intro e
      have := hv.2 (strOf_inj h1 h2 e)
      cases this
  clear ha hb h1 h2 hv
  go_enter Try.func48, Try.ntmps48
  go_wp2_with fail
  go_ret
  exact ⟨by rw [HV.out]; rfl, 0, rfl⟩
end Go.Proofs.Ytgaomilmljepoaa
