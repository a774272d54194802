/- The draw of an int: any int. No condition. -/
import Derived.Test.YtebakogdbeeljaaDraw
namespace Go.Proofs.Ytebakogdbeeljaa
open Go.RowKit
set_option linter.unusedVariables false
set_option linter.unusedSimpArgs false

def InI64 (v : Int) : Prop := -9223372036854775808 ≤ v ∧ v ≤ 9223372036854775807
def intTab : Array Value := #[.int .i64 9223372036854775807, .int .i64 (-9223372036854775808), .int .i64 4294967296, .int .i64 (-2147483648), .int .i64 253402300799999, .int .i64 253402300800000]
theorem intTab_at (j : Nat) (h : j < 6) : ∃ x, intTab[j]? = some (.int .i64 x) ∧ Hid (InI64 x) := by
  rcases j with _ | _ | _ | _ | _ | _ | j
  · exact ⟨_, rfl, by show InI64 _; unfold InI64; omega⟩
  · exact ⟨_, rfl, by show InI64 _; unfold InI64; omega⟩
  · exact ⟨_, rfl, by show InI64 _; unfold InI64; omega⟩
  · exact ⟨_, rfl, by show InI64 _; unfold InI64; omega⟩
  · exact ⟨_, rfl, by show InI64 _; unfold InI64; omega⟩
  · exact ⟨_, rfl, by show InI64 _; unfold InI64; omega⟩
  · omega
theorem inI64_wrap (x : Int) : InI64 (wrap64 x) := by unfold InI64 wrap64; omega

set_option maxHeartbeats 800000 in
theorem int_some (g : Nat) (l : List Int) (k : Nat) (w : World) (h : CodesAt w g l k) :
    Calls Try.prog 27 #[.pointer (some ⟨g, 0, none⟩)] w (DrawnPost w g l InI64) := by
  go_enter Try.func27, Try.ntmps27
  go_wp2_with fail
  refine (next_some g l k 16 _ h (by omega) (by omega)).mono ?_
  rintro e w1 ⟨v, k1, rfl, hv, h1, hg1⟩
  by_cases h15 : v = 15
  · have hb : (v == 15) = true := by simp [h15]
    clear h15
    go_wp2_with fail
    refine (next_some g l k1 6 _ (h1.grown (World.grownBy_alloc _ _ none) (by simp)) (by omega) (by omega)).mono ?_
    rintro e w2 ⟨v2, k2, rfl, hv2, h2, hg2⟩
    obtain ⟨j, rfl⟩ := Int.eq_ofNat_of_zero_le hv2.1
    have hj : j < 6 := by omega
    have hlt := h1.lt
    obtain ⟨x, hx, hX⟩ := intTab_at j hj
    have hc : w2.cell? ⟨w1.heap.size, j, none⟩ = some (.int .i64 x) := by
      rw [((Blk.new w1 3 intTab).grown hg2 (by simp; omega)).cell j]; exact hx
    clear hx
    have G2 := Lib.hid hg2
    have C2 := Lib.hid h2
    clear hg2 h2
    go_wp2
    go_ret
    exact ⟨x, k2, rfl, hX.out, C2.out, only_trans (only_alloc hg1 _) G2.out⟩
  · have hb : (v == 15) = false := by simp [h15]
    go_wp2_with fail
    refine (next_some g l k1 256 _ h1 (by omega) (by omega)).mono ?_
    rintro e w2 ⟨v2, k2, rfl, hv2, h2, hg2⟩
    go_wp2_with fail
    refine (next_some g l k2 6 _ h2 (by omega) (by omega)).mono ?_
    rintro e w3 ⟨v3, k3, rfl, hv3, h3, hg3⟩
    obtain ⟨j, rfl⟩ := Int.eq_ofNat_of_zero_le hv3.1
    go_wp2
    go_ret
    exact ⟨_, k3, rfl, inI64_wrap _, h3, only_trans (only_trans hg1 hg2) hg3⟩
end Go.Proofs.Ytebakogdbeeljaa
