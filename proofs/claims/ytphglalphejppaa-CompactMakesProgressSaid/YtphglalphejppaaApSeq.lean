/- slices.AppendSeq, Collect, Sorted over slices.Values at integers. Condition: sizes. -/
import Derived.Test.YtphglalphejppaaVals
import Derived.Shelf.Abstract
namespace Go.Proofs.Ytphglalphejppaa
open Go.RowKit Go.Shelf
set_option linter.unusedVariables false
set_option linter.unusedSimpArgs false
attribute [local go_sem] Oper.semAt_some

theorem grown_put0 (w : World) (g : Nat) (u : Value) : w.grownBy (w.setCell ⟨g, 0, none⟩ u) (some g) := only_setCell (only_refl _ _) (p := ⟨g, 0, none⟩) (.inl rfl) u
theorem only_putNew {a w : World} {row : Option Nat} (h : a.grownBy w row) {p : Addr} (hp : a.heap.size ≤ p.block) (u : Value) : a.grownBy (w.setCell p u) row :=
  only_fresh h (only_setCell (g := p.block) (only_refl _ _) (.inl rfl) u) hp
theorem own_down {w : World} {base base' e z n : Nat} {v : Value} {xs : List Value} (h : w.ownsRow base e z v n xs) (hb : base' ≤ base) : w.ownsRow base' e z v n xs := by
  obtain ⟨h1, h2⟩ := h
  refine ⟨h1, ?_⟩
  rcases h2 with h2 | ⟨g, cap, cur, e1, e2, rest⟩
  · exact .inl h2
  · exact .inr ⟨g, cap, cur, e1, Nat.le_trans hb e2, rest⟩
theorem own_low {w w' : World} {base e z n g : Nat} {v : Value} {xs : List Value} (b : w.ownsRow base e z v n xs) (hg : w.grownBy w' (some g)) (h2 : g < base) : w'.ownsRow base e z v n xs := b.kept hg (by
    cases hu : v.ownBlock with
    | none => exact .inl rfl
    | some j => have := (b.lt j hu).1; exact .inr (by intro e; injection e with e; omega))
set_option maxHeartbeats 4000000 in
set_option maxRecDepth 100000 in
theorem appendseq_any {S : Nat → Prop} (A : Option Addr) (zs : List Int) (c Bs : Nat) (w : World) (hr : Rd S w A (zs.map (.int .i64))) (hB : Blk w Bs 45 #[.slice A zs.length c]) (hn : zs.length ≤ 100000) :
    Calls Try.prog 67 #[.slice none 0 0, .func (.func 58) #[] #[.pointer (some ⟨Bs, 0, none⟩)]] w (IRowPost w Bs zs) := by
  have hBl := hB.lt
  obtain ⟨w3, hw3⟩ : ∃ w3, w3 = w.alloc (.cells #[.slice none 0 0] 45) := ⟨_, rfl⟩
  have hG := only_alloc (only_refl w none) (.cells #[.slice none 0 0] 45)
  have G3 : Hid (w.grownBy w3 none) := Lib.hid (by rw [hw3]; exact hG)
  have hs3 : w3.heap.size = w.heap.size + 1 := by rw [hw3]; simp
  have HS3 := Lib.hid hs3
  have H3 : Hid (Rd (fun b => b < w3.heap.size ∧ b ≠ w.heap.size) w3 A (zs.map (.int .i64))) := Lib.hid ((hr.mono (S' := (· < w.heap.size)) (fun b _ hb => hb)).grown G3.out (by simp) |>.mono (fun b hb _ => ⟨by omega, by omega⟩))
  have B3 := Lib.hid (hB.grown G3.out (by simp))
  have BV : Hid (Blk w3 w.heap.size 45 #[.slice none 0 0]) := Lib.hid (by rw [hw3]; exact Blk.new w _ _)
  have HW3 := Lib.hid hw3.symm
  clear hr hB hG hs3 hw3
  refine (callsIn_wide (n := 9)).1 ?_
  refine callsIn_of_wp_marks Try.func67 rfl trivial ?_
  refine wpIn_wide.2 ?_
  simp only [Try.ntmps67, List.size_toArray, List.length_cons, List.length_nil, Nat.reduceAdd, Nat.reduceSub, Array.replicate_succ, Array.replicate_zero, List.push_toArray, List.append_toArray, List.nil_append, List.cons_append]
  go_wp2_with fail
  rw [HW3.out]
  refine wp_range_mine 8 Bs (gf := 58) (lb := #[.pointer (some ⟨Bs, 0, none⟩)]) rfl (enters_of Try.func58 (by kernel_rfl) rfl) (by have := HS3.out; omega) (encs := fun x : Int => #[.int .i64 x]) (fun _ => rfl) (fun _ => True) (KpS w3.heap.size w.heap.size) KpS.trans_ (fun W l o h1 _ => KpS.putObj W l o h1)
    zs (fun _ => True) ?hZ ?hseq (IRow w Bs w.heap.size (w3.heap.size + 2)) ?hI ?h0
    (fun x => { tmps := #[.slice none 0 0, .func (.func 58) #[] #[.pointer (some ⟨Bs, 0, none⟩)], .pointer (some ⟨w.heap.size, 0, none⟩), undef, .slice none 0 0, .int .i64 x, .func (.func 58) #[] #[.pointer (some ⟨Bs, 0, none⟩)], .int .i64 x, undef, undef, undef, undef, undef], defers := [] }) ?hassign ?hbody ?hdone
  case hZ => exact fun _ _ _ _ => trivial
  case hseq =>
    rintro J W ⟨hJ, hY⟩ hJ0 hgW hsW
    refine (values_iter 8 (w3.heap.size + 1) Bs w3.heap.size w.heap.size A zs c J W (fun pre x W1 h1 h2 => hY pre x W1 h1 trivial h2) hJ0 (B3.out.grown hgW (by simp)) (H3.out.grown hgW (by simp)) hn).mono ?_
    rintro e W2 ⟨h1, h2⟩
    exact ⟨h1, h2, trivial⟩
  case hI =>
    intro s X Y r h hg hr
    have := HS3.out
    rcases hr with rfl | hr
    · obtain ⟨v, a, b, c⟩ := h
      exact ⟨v, a.grown hg (by simp; omega), own_low b hg (by omega), only_trans c hg⟩
    · exact h.still hg (by omega) (by omega) (by omega)
  case h0 =>
    intro W hg hs
    exact ⟨.slice none 0 0, BV.out.grown hg (by simp), World.ownsRow_nil _ _ _ _, only_of_none (only_trans G3.out hg) _⟩
  case hassign =>
    intro x W K hK
    gi_wp2
    exact hK
  case hbody =>
    rintro pre x W ⟨v, hb, ho, hgw⟩ hx hlen hsz
    obtain ⟨i0, hi0, hz0, hz1, hz2⟩ := info_parts intInfoS
    obtain ⟨A0, q0, rfl, -, -, -, -⟩ := Rd.of_own ho (by decide)
    have hs := HS3.out
    have c0 := hb.cell 0
    have f0 := hb.frozen 0
    simp at c0
    have hbl0 := hb.lt
    have HBd := Lib.hid hb
    have HO := Lib.hid ho
    have HGW := Lib.hid hgw
    have hnr : ∀ b, b < w3.heap.size + 2 → some b ≠ (Value.slice A0 pre.length q0).ownBlock := fun b hb' e => by have := (ho.lt b e.symm).1; omega
    have HNR := Lib.hid hnr
    have HI0 := Lib.hid hi0
    have HZ0 := Lib.hid hz0
    have HZ1 := Lib.hid hz1
    have HZ2 := Lib.hid hz2
    have hszW := hgw.size
    clear hb ho hgw hnr hi0 hz0 hz1 hz2
    clear hs
    gi_wp2_with (gi_at_builtin; refine wpListIn_append_own _ rfl _ _ 45 rfl (w3.heap.size + 2) 3 i0 (.int .i64 0) 1 8 Try.underlying45 HI0.out HZ0.out HZ1.out HZ2.out rfl (by decide) (.slice A0 pre.length q0) _ _ (by rfl) (HO.out.alloc _) ⟨W.heap.size, 0, none⟩ 1 1 [.int .i64 x] (by rfl) rfl (one_newI W x) (by simp [Value.oneCell']) (by unfold maxLen; omega) (by omega) (by simp; omega) ?_; intro v7 w7 hown7 hg7 _; obtain ⟨A7, c7, rfl, hc7, hm7, -, -⟩ := Rd.of_own hown7 (by decide); have hb7 := (HBd.out.alloc (.cells #[.int .i64 x] 3)).grown hg7 (HNR.out _ (by have := HS3.out; omega)); have d0 := hb7.cell 0; have e0 := hb7.frozen 0; simp at d0)
    have hs := HS3.out
    have hgA : W.grownBy w7 (Value.slice A0 pre.length q0).ownBlock := only_trans (only_alloc (only_refl _ _) _) hg7
    have hsA := hgA.size
    refine ⟨rfl, ?_, by simpa [World.setCell] using hsA, ⟨by simpa [World.setCell] using hsA, ?_⟩, ⟨_, by simpa using hb7.set_ 0 _, ?_, ?_⟩⟩
    · intro b hb'
      have hlt : b < W.heap.size := by omega
      exact (Below.heap_setCell _ _ _ _ (by simp; omega)).trans (hgA.block b hlt (HNR.out b (by omega)))
    · intro b hb1 hb2
      exact (Below.heap_setCell _ _ _ _ (by simp; omega)).trans (hgA.block b (by omega) (HNR.out b (by omega)))
    · have h7 : w7.ownsRow (w3.heap.size + 2) 3 1 (.slice A7 (pre.length + 1) c7) (pre ++ [x]).length ((pre ++ [x]).map (.int .i64)) := by simpa using hown7
      simpa using own_low h7 (grown_put0 w7 w.heap.size _) (by omega)
    · exact only_putNew (only_own (only_alloc HGW.out _) hg7 (HO.out.alloc _) (by omega)) (by simp) _
  case hdone =>
    rintro W ⟨v, hb, ho, hgw⟩ hz hD
    have c0 := hb.cell 0
    simp at c0
    have HO := Lib.hid ho
    have HGW := Lib.hid hgw
    have HD := Lib.hid hD
    obtain ⟨A0, q0, rfl, -, -, -, -⟩ := Rd.of_own ho (by decide)
    clear hb ho hgw hD
    go_wp2_with fail
    have hs := HS3.out
    exact ⟨by simp, .inl ⟨_, _, rfl, run_takeDeferred HD.out, _, results_tmp rfl _ _ _, _, rfl, own_down (own_low HO.out (grownBy_putObj' _ _ _) (by omega)) (by omega), own_putObj HGW.out (by omega) _⟩⟩
set_option maxHeartbeats 1000000 in
theorem collect_any {S : Nat → Prop} (A : Option Addr) (zs : List Int) (c Bs : Nat) (w : World) (hr : Rd S w A (zs.map (.int .i64))) (hB : Blk w Bs 45 #[.slice A zs.length c]) (hn : zs.length ≤ 100000) :
    Calls Try.prog 56 #[.func (.func 58) #[] #[.pointer (some ⟨Bs, 0, none⟩)]] w (IRowPost w Bs zs) := by
  have KC := Lib.hid (appendseq_any A zs c Bs w hr hB hn)
  clear hr hB
  go_enter Try.func56, Try.ntmps56
  go_wp2_with fail
  refine KC.out.mono ?_
  rintro e w1 ⟨v, rfl, ho, hg⟩
  obtain ⟨A0, q0, rfl, -, -, -, -⟩ := Rd.of_own ho (by decide)
  have HO := Lib.hid ho
  have HG := Lib.hid hg
  clear ho hg
  go_wp2_with fail
  go_ret
  exact ⟨_, rfl, HO.out, HG.out⟩
end Go.Proofs.Ytphglalphejppaa
