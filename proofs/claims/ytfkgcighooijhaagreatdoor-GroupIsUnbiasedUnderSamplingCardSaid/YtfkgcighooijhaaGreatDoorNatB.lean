/- Digits, and bytes in a row. No condition. -/
import Derived.Test.YtfkgcighooijhaaGreatDoorBase
import Derived.Lib.ConvBytes
import Derived.Shelf.Bytes.SlEqualAll
import Derived.Lib.ItoaLen
namespace Go.Proofs.YtfkgcighooijhaaGreatDoor
open Go.RowKit
set_option linter.unusedVariables false
set_option linter.unusedSimpArgs false

theorem u8Info27 : (Tryz.prog.info? 5).map (fun i => (i.zero, i.size, i.bytes)) = some (some (.int .u8 0), 1, 1) := by kernel_rfl
theorem bytesin_rd {S : Nat → Prop} {w : World} {A : Option Addr} {bs : List Int} (h : Rd S w A (bs.map (.int .u8))) : Lib.BytesIn w A bs.length bs := by
  intro h0
  obtain ⟨b, o, rfl, -, -, hc⟩ := h (by simpa using h0)
  refine ⟨b, o, rfl, fun j hj => ?_⟩
  exact hc j _ (by rw [List.getElem?_map, List.getElem?_eq_getElem hj, List.getD_eq_getElem?_getD, List.getElem?_eq_getElem hj]; rfl)
def natB (l : List UInt8) : List Int := l.map (fun b => (b.toNat : Int))
theorem dig_toNat {d : Nat} (h : d < 10) : ((UInt8.ofNat (48 + d)).toNat : Int) = 48 + d := by
  have : (UInt8.ofNat (48 + d)).toNat = 48 + d := by simp [UInt8.toNat_ofNat]; omega
  rw [this]; omega
theorem nDigits_le : ∀ (k u : Nat), 1 ≤ k → u < 10 ^ k → Lib.nDigits u ≤ k
  | 0, _, h, _ => by omega
  | k + 1, u, _, h => by
    by_cases h10 : u < 10
    · rw [Lib.nDigits_small h10]; omega
    · rw [Lib.nDigits_big h10]
      by_cases hk : k = 0
      · subst hk; simp at h; omega
      · have := nDigits_le k (u / 10) (by omega) (by rw [Nat.pow_succ] at h; omega)
        omega
end Go.Proofs.YtfkgcighooijhaaGreatDoor
