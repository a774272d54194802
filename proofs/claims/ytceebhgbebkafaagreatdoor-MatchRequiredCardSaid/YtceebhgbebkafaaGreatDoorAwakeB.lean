/- The sanity check of part 36. No condition. -/
import Derived.Test.YtceebhgbebkafaaGreatDoorAwake
namespace Go.Proofs.YtceebhgbebkafaaGreatDoor
open Go.RowKit
set_option linter.unusedVariables false
set_option linter.unusedSimpArgs false

def evA (b : Nat) : Ev := ⟨0, 0, 0, 0, [⟨0, 0, ⟨#[97, 32, 98]⟩⟩], 0, 0, ⟨#[]⟩, ⟨#[]⟩, [], some ⟨b, 0, none⟩, 1, none, 0⟩
theorem textA : textOf [⟨0, 0, ⟨#[97, 32, 98]⟩⟩] = ⟨#[97, 32, 98]⟩ := by kernel_rfl
theorem wordsA : rawW (bts ⟨#[97, 32, 98]⟩) = [⟨#[97]⟩, ⟨#[98]⟩] := by kernel_rfl
theorem evA_sub {w : World} {b : Nat} (h : Blk w b 55 #[.int .i64 0, .int .i64 0, .string ⟨#[97, 32, 98]⟩]) : (evA b).Sub (fun _ => True) w := by
  refine ⟨fun _ => ⟨b, 0, rfl, trivial, h.lt, fun j u hu => ?_⟩, fun hn => absurd hn (by simp [evA]), by simp [evA], by show 1 ≤ maxLen; unfold maxLen; omega, by simp [evA], by simp [evA]⟩
  rw [Nat.zero_add, h.cell j]
  simpa [evA, LineD.cells] using hu
theorem holdsA (b : Nat) (x : ByteArray) (v : Bool) (hx : v = true ↔ x ∈ [(⟨#[97]⟩ : ByteArray), ⟨#[98]⟩]) (w : World) (h : Blk w b 55 #[.int .i64 0, .int .i64 0, .string ⟨#[97, 32, 98]⟩]) :
    Calls Tryz.prog 11 #[.agg #[.int .i64 1, .string ⟨#[]⟩, .string x, .int .i64 0, .slice none 0 0], .agg #[.int .i64 0, .int .i64 0, .int .i64 0, .int .i64 0, .slice (some ⟨b, 0, none⟩) 1 1, .int .i64 0, .int .i64 0, .string ⟨#[]⟩, .string ⟨#[]⟩, .slice none 0 0]] w (BoolP w v) := by
  refine (holdsWord (evA b) ⟨#[]⟩ x 0 none 0 0 w (evA_sub h) (by simp [evA]) (fun l hl => by obtain rfl : l = ⟨0, 0, ⟨#[97, 32, 98]⟩⟩ := (by simpa [evA] using hl); exact (by decide : 3 ≤ 100000)) (by show (textOf [⟨0, 0, ⟨#[97, 32, 98]⟩⟩]).size ≤ 100000; rw [textA]; show 3 ≤ 100000; omega)).mono ?_
  rintro e w' ⟨c, hc, hm⟩
  have hm : c = true ↔ x ∈ rawW (bts (textOf [⟨0, 0, ⟨#[97, 32, 98]⟩⟩])) := hm
  rw [textA, wordsA] at hm
  have hcv : c = true ↔ v = true := hm.trans hx.symm
  have : c = v := by cases c <;> cases v <;> simp_all
  rw [← this]
  exact hc
set_option maxHeartbeats 2000000 in
theorem awake_any (w : World) : Calls Tryz.prog 9 #[] w (BoolP w true) := by
  go_enter Tryz.func9, Tryz.ntmps9
  go_wp2_with fail
  have hB := (Blk.new w 55 #[.int .i64 0, .int .i64 0, .string ⟨#[97, 32, 98]⟩]).alloc (.cells #[.int .i64 0, .int .i64 0, .int .i64 0, .int .i64 0, .slice (some ⟨w.heap.size, 0, none⟩) 1 1, .int .i64 0, .int .i64 0, .string ⟨#[]⟩, .string ⟨#[]⟩, .slice none 0 0] 35)
  refine (holdsA w.heap.size ⟨#[98]⟩ true (by simp) _ hB).mono ?_
  rintro e w1 ⟨rfl, hg1⟩
  have hE : Blk w1 (w.heap.size + 1) 35 #[.int .i64 0, .int .i64 0, .int .i64 0, .int .i64 0, .slice (some ⟨w.heap.size, 0, none⟩) 1 1, .int .i64 0, .int .i64 0, .string ⟨#[]⟩, .string ⟨#[]⟩, .slice none 0 0] := by simpa using (Blk.new (w.alloc (.cells #[.int .i64 0, .int .i64 0, .string ⟨#[97, 32, 98]⟩] 55)) 35 _).grown hg1 (by simp)
  have HB := Lib.hid (hB.grown hg1 (by simp))
  have G1 : Hid (w.grownBy w1 none) := only_trans (only_alloc (only_alloc (only_refl _ _) _) _) hg1
  have b0 := hE.cell 0; have b1 := hE.cell 1; have b2 := hE.cell 2; have b3 := hE.cell 3; have b4 := hE.cell 4; have b5 := hE.cell 5; have b6 := hE.cell 6; have b7 := hE.cell 7; have b8 := hE.cell 8; have b9 := hE.cell 9
  simp at b0 b1 b2 b3 b4 b5 b6 b7 b8 b9
  clear hg1 hB hE
  go_wp2_with fail
  refine (holdsA w.heap.size ⟨#[99]⟩ false (by simp) _ HB.out).mono ?_
  rintro e w2 ⟨rfl, hg2⟩
  have G2 := Lib.hid (only_trans G1.out hg2)
  clear hg2
  go_wp2_with fail
  go_ret
  exact ⟨rfl, G2.out⟩
end Go.Proofs.YtceebhgbebkafaaGreatDoor
