/- The type byte. No condition. -/
import Derived.Test.YtodaabofpkafjaaGreatJDraw
import Derived.Lib.SliceRun
import Derived.Test.YtodaabofpkafjaaGreatJHdrW
namespace Go.Proofs.YtodaabofpkafjaaGreat
open Go.RowKit
theorem byteInfo8 : (Tryz.prog.info? 5).map (fun i => (i.zero, i.size, i.bytes)) = some (some (.int .u8 0), 1, 1) := by kernel_rfl
end Go.Proofs.YtodaabofpkafjaaGreat

namespace Go.Proofs.YtodaabofpkafjaaGreat
open Go.RowKit
set_option linter.unusedVariables false
set_option linter.unusedSimpArgs false

def CloneByPost (w : World) (n : Nat) (xs : List Value) (e : Ending) (w' : World) : Prop := ∃ A' c', e = .returned (.slice A' n c') ∧ w'.ownsRow w.heap.size 5 1 (.slice A' n c') n xs ∧ w.grownBy w' none
set_option maxHeartbeats 1000000 in
set_option maxRecDepth 100000 in
theorem cloneBy_any {S : Nat → Prop} (A : Option Addr) (n c : Nat) (xs : List Value) (w : World) (hr : Rd S w A xs) (hn : xs.length = n * 1) (hl : n ≤ 10000000) (h1 : ∀ u ∈ xs, u.oneCell' = true) (hA : A = none → n = 0) :
    Calls Tryz.prog 39 #[.slice A n c] w (CloneByPost w n xs) := by
  have q22 : ∀ (w : World) (a : Option Addr) (n c n' c' : Nat), (binOp .eql 22 (.slice a n c) (.slice none n' c')).run Tryz.prog w = .ok (.bool a.isNone) w := fun w a n c n' c' => Lib.run_eql_slice_nil w _ _ a n c n' c' Tryz.underlying22
  have H1 := Lib.hid h1
  have HR := Lib.hid hr
  clear h1 hr
  cases A with
  | none =>
    obtain rfl := hA rfl
    obtain rfl : xs = [] := List.eq_nil_of_length_eq_zero (by omega)
    clear hA
    go_enter Tryz.func39, Tryz.ntmps39
    go_wp2_with fail
    go_ret
    exact ⟨none, 0, rfl, World.ownsRow_nil _ _ _ _, only_refl _ _⟩
  | some a =>
    clear hA
    go_enter Tryz.func39, Tryz.ntmps39
    go_wp2_with (at_builtin; refine wpList_appendN rfl _ _ 22 rfl w.heap.size Tryz.underlying22 byteInfo8 rfl (by decide) (v := .slice (some ⟨w.heap.size, 0, none⟩) 0 0) (by rfl) (World.ownsRow_made w #[] 0 (Nat.le_refl _) (Nat.zero_le _) (by simp)) (some a) n c (news := xs) (by rfl) (HR.out.alloc _) hn H1.out (by decide) (by omega) (by simp) ?_; intro v3 w3 hown3 hg3 hob3)
    have O3 : Hid (w3.ownsRow w.heap.size 5 1 v3 n xs) := Lib.hid (by simpa using hown3)
    have G3 : Hid (w.grownBy w3 none) := Lib.hid (only_fresh (only_alloc (only_refl _ _) _) (by simpa [Value.ownBlock] using hg3) (Nat.le_refl _))
    clear hown3 hg3 hob3
    obtain ⟨A3, c3, rfl, -, -, -, -⟩ := Rd.of_own O3.out (by decide)
    go_wp2_with fail
    go_ret
    exact ⟨A3, c3, rfl, O3.out, G3.out⟩
end Go.Proofs.YtodaabofpkafjaaGreat

namespace Go.Proofs.YtodaabofpkafjaaGreat
open Go.RowKit
set_option linter.unusedVariables false
set_option linter.unusedSimpArgs false

theorem fin16 {w W : World} {rb : Nat} {tm : Array Value} {x0 x1 x2 V0 V1 V2 : Value} {E : Nat} {bs : List Int} (hrb : rb = w.heap.size) (hB : Blk W rb 43 #[x0, x1, x2]) (hG : w.grownBy W none) (hV : sumV bs = #[V0, V1, V2]) (hE : errS bs = E) (h2 : tm[2]?.getD undef = .pointer (some ⟨rb, 0, none⟩)) (h3 : tm[3]?.getD undef = .int .i64 E) :
    bodyPost Tryz.prog Tryz.f16 (SumP w bs) .ret ⟨tm, []⟩ (((W.setCell ⟨rb, 0, none⟩ V0).setCell ⟨rb, 1, none⟩ V1).setCell ⟨rb, 2, none⟩ V2) := by
  have hB2 := ((hB.set_ 0 V0).set_ 1 V1).set_ 2 V2
  have q0 := hB2.cell 0; have q1 := hB2.cell 1; have q2 := hB2.cell 2
  simp at q0 q1 q2
  refine bodyPost_ret (v := .tuple #[.agg #[V0, V1, V2], .int .i64 (E : Nat)]) ?_ rfl ⟨by rw [hV, hE], only_setN (only_setN (only_setN hG (by simp [hrb]) _) (by simp [hrb]) _) (by simp [hrb]) _⟩
  simp [results, Tryz.results16, go_sem, h2, h3, q0, q1, q2]
theorem sumV_three (bs : List Int) : ∃ x y z : Int, sumV bs = #[.int .i64 x, .int .i64 y, .int .i64 z] := by
  unfold sumV
  split
  · exact ⟨_, _, _, rfl⟩
  · exact ⟨_, _, _, rfl⟩
set_option maxHeartbeats 4000000 in
set_option maxRecDepth 100000 in
theorem ssummary_any {S : Nat → Prop} (A : Option Addr) (bs : List Int) (c : Nat) (w : World) (hr : Rd S w A (bs.map (.int .u8))) (hi : InH bs) (hl : bs.length ≤ 10000000) (hc : bs.length ≤ c) (hm : c ≤ 9223372036854775807) :
    Calls Tryz.prog 16 #[.slice A bs.length c] w (SumP w bs) := by
  have HR := Lib.hid hr
  have HI := Lib.hid hi
  clear hr hi
  obtain ⟨x, y, z, hV⟩ := sumV_three bs
  have HV := Lib.hid hV
  clear hV
  go_enter Tryz.func16, Tryz.ntmps16
  go_upto_region 1 with fail
  obtain ⟨rb, hrb⟩ : ∃ b, b = w.heap.size := ⟨_, rfl⟩
  obtain ⟨W, hW⟩ : ∃ W, W = w.alloc (.cells #[.int .i64 0, .int .i64 0, .int .i64 0] 43) := ⟨_, rfl⟩
  have BR : Hid (Blk W rb 43 #[.int .i64 0, .int .i64 0, .int .i64 0]) := Lib.hid (by rw [hW, hrb]; exact Blk.new _ _ _)
  have G0 : Hid (w.grownBy W none) := Lib.hid (by rw [hW]; exact only_alloc (only_refl _ _) _)
  have HRB := Lib.hid hrb
  have hrW := BR.out.lt
  rw [← hW, ← hrb]
  clear hW hrb
  have KP := Lib.hid (parse_any A bs c W (HR.out.grown G0.out (by simp)) HI.out hl hc hm)
  obtain ⟨E, hE⟩ : ∃ E, errS bs = E := ⟨_, rfl⟩
  have HE := Lib.hid hE
  clear hE
  go_upto_region 2 with (go_at_call 35; refine KP.out.mono ?_; rintro e w2 ⟨A2, n2, c2, rfl, -, hg2⟩; rw [HV.out, HE.out]; have G2 := Lib.hid hg2; clear hg2)
  have B2 := Lib.hid ((BR.out.grown G2.out (by simp)).alloc (.cells #[.int .i64 x, .int .i64 y, .int .i64 z] 43))
  have S2 : Hid (Blk (w2.alloc (.cells #[.int .i64 x, .int .i64 y, .int .i64 z] 43)) w2.heap.size 43 #[.int .i64 x, .int .i64 y, .int .i64 z]) := Lib.hid (Blk.new _ _ _)
  have G3 := Lib.hid (only_alloc (only_trans G0.out G2.out) (.cells #[.int .i64 x, .int .i64 y, .int .i64 z] 43))
  obtain ⟨W3, hW3⟩ : ∃ W, W = w2.alloc (.cells #[.int .i64 x, .int .i64 y, .int .i64 z] 43) := ⟨_, rfl⟩
  obtain ⟨sb, hsb⟩ : ∃ b, b = w2.heap.size := ⟨_, rfl⟩
  rw [← hW3] at B2 S2 G3
  rw [← hsb] at S2
  rw [← hW3, ← hsb]
  clear hW3 hsb
  have hrW3 := B2.out.lt
  have q0 := B2.out.cell 0; have q1 := B2.out.cell 1; have q2 := B2.out.cell 2
  have z0 := B2.out.frozen 0; have z1 := B2.out.frozen 1; have z2 := B2.out.frozen 2
  have s0 := S2.out.cell 0; have s1 := S2.out.cell 1; have s2 := S2.out.cell 2
  simp at q0 q1 q2 s0 s1 s2
  go_wp2_with fail
  refine fin16 (E := E) HRB.out B2.out G3.out HV.out HE.out ?_ ?_
  all_goals rfl
end Go.Proofs.YtodaabofpkafjaaGreat
