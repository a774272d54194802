/- The draw of a text. No condition. -/
import Derived.Test.YtfkgcighooijhaaGreatDoorDrawWord
import Derived.Deep.RegionWith
namespace Go.Proofs.YtfkgcighooijhaaGreatDoor
open Go.RowKit
set_option linter.unusedVariables false
set_option linter.unusedSimpArgs false

def sepTab : Array Value := #[.string ⟨#[32]⟩, .string ⟨#[32]⟩, .string ⟨#[44, 32]⟩, .string ⟨#[61]⟩, .string ⟨#[]⟩]
set_option maxHeartbeats 1600000 in
theorem text_some (g : Nat) (l : List Int) (k : Nat) (w : World) (h : CodesAt w g l k) :
    Calls Tryz.prog 39 #[.pointer (some ⟨g, 0, none⟩)] w (StrPost w g l 40) := by
  go_enter Tryz.func39, Tryz.ntmps39
  go_wp2_with fail
  refine (word_some g l k _ h).mono ?_
  rintro e w1 ⟨s1, k1, rfl, hs1, h1, hg1⟩
  go_wp2_with fail
  refine (next_some g l k1 4 _ h1 (by omega) (by omega)).mono ?_
  rintro e w2 ⟨v2, k2, rfl, hv2, h2, hg2⟩
  have G2 : Hid (w.grownBy w2 (some g)) := only_trans hg1 hg2
  clear hg1 hg2 h1 h
  go_wp2_with fail
  go_loopw [3, 4] (fun s i wr => ∃ (m : Int) (s' : ByteArray) (k : Nat), i = .int .i64 m ∧ 0 ≤ m ∧ s = .string s' ∧ (s'.size : Int) + 10 * m ≤ 37 ∧ CodesAt wr g l k ∧ w.grownBy wr (some g)) (fun _ i _ => (intOf i).toNat)
  case atStart => exact ⟨v2, s1, k2, rfl, hv2.1, rfl, by omega, h2, G2.out⟩
  case round =>
    obtain ⟨m, s', k, rfl, hm, rfl, hsz, hC, hG⟩ := hrel
    have G := Lib.hid hG
    have hlt := hC.lt
    clear hG h2 G2
    by_cases hm0 : 0 < m
    · go_wp2_with fail
      go_region_with (first
        | (go_at_call 9; refine (next_some g l k 5 _ (by first | exact hC.drew | exact (hC.alloc _).drew) (by omega) (by omega)).mono ?_; rintro e w5 ⟨v5, k5, rfl, hv5, hC5, hg5⟩; obtain ⟨j, rfl⟩ := Int.eq_ofNat_of_zero_le hv5.1; obtain ⟨x, hx, hX⟩ := tab_str (cs := sepTab) (m := 2) (by rfl) (j := j) (show j < 5 by omega); simp only [sepTab] at hx; (try (have hcb := ((Blk.new _ _ _).drew.grown hg5 (by simp; omega)).cell j; rw [hx] at hcb)))
        | (go_at_call 59; refine (word_some g l k5 _ (by first | exact hC5 | exact hC5.alloc _)).mono ?_; rintro e w6 ⟨s6, k6, rfl, hs6, hC6, hg6⟩; (try (have hcb2 := ((Blk.new _ _ _).grown hg6 (by have := hC5.lt; simp; omega)).cell j; rw [hx] at hcb2)); (try (have hcb3 := hg6.cell hcb (by simp; omega)))))
      all_goals go_wp2
      all_goals go_roundw
      all_goals first
        | (refine ⟨m - 1, _, k6, rfl, by omega, rfl, ?_, by first | exact hC6 | exact hC6.alloc _, ?_⟩
           · simp only [ByteArray.size_append]; omega
           · first
             | exact only_trans (only_trans (only_drew (only_alloc G.out _)) hg5) hg6
             | exact only_trans (only_alloc (only_trans (only_drew G.out) hg5) _) hg6
             | exact only_alloc (only_trans (only_trans (only_drew G.out) hg5) hg6) _)
        | (simp [intOf]; omega)
    · go_wp2_with fail
      go_ret
      exact ⟨s', k, rfl, by omega, hC, G.out⟩
end Go.Proofs.YtfkgcighooijhaaGreatDoor
