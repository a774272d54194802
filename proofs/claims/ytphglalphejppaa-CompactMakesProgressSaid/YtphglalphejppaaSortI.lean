/- slices.Sorted over slices.Values at integers that ascend. Condition: sizes. -/
import Derived.Test.YtphglalphejppaaApSeq
import Derived.Test.YtphglalphejppaaShelfI
import Derived.Sort.OwnSortedInts
namespace Go.Proofs.Ytphglalphejppaa
open Go.RowKit
set_option linter.unusedVariables false
set_option linter.unusedSimpArgs false

theorem sort_asc {zs : List Int} (h : zs.Pairwise (· ≤ ·)) : (zs.mergeSort fun x y => decide (x ≤ y)) = zs := List.mergeSort_of_pairwise (by simpa using h)
set_option maxHeartbeats 1000000 in
theorem sorted_any {S : Nat → Prop} (A : Option Addr) (zs : List Int) (c Bs : Nat) (w : World) (hr : Rd S w A (zs.map (.int .i64))) (hB : Blk w Bs 45 #[.slice A zs.length c]) (hn : zs.length ≤ 100000) (hs : zs.Pairwise (· ≤ ·)) :
    Calls Try.prog 43 #[.func (.func 58) #[] #[.pointer (some ⟨Bs, 0, none⟩)]] w (IRowPost w Bs zs) := by
  have KC := Lib.hid (collect_any A zs c Bs w hr hB hn)
  have HS := Lib.hid (sort_asc hs)
  have hBl := hB.lt
  clear hr hB hs
  go_enter Try.func43, Try.ntmps43
  go_wp2_with fail
  refine KC.out.mono ?_
  rintro e w1 ⟨v, rfl, ho, hg⟩
  have HO := Lib.hid ho
  have HG := Lib.hid hg
  obtain ⟨ho1, ho2⟩ := ho
  rcases ho2 with ⟨rfl, hz⟩ | ⟨g, cap, cur, rfl, hge, hb, h1, h2, h3, h4⟩
  · obtain rfl : zs = [] := List.eq_nil_of_length_eq_zero hz
    clear ho1 hg hz
    go_wp2_with fail
    refine (Try.slices_Sort_int_none none 0 _).mono ?_
    rintro e w2 ⟨rfl, rfl⟩
    go_wp2_with fail
    go_ret
    exact ⟨_, rfl, HO.out, HG.out⟩
  · have h4' : cur.toList.take zs.length = zs.map (.int .i64) := by simpa using h4
    have hH := holds_of_blockI hb h4'
    have hgl : g < w1.heap.size := (Array.getElem?_eq_some_iff.1 hb).1
    have KS := Lib.hid (Try.slices_Sort_int g 0 cap zs w1 hH hgl (by omega))
    have HB := Lib.hid hb
    have H3 := Lib.hid h3
    clear hH hb h3 h4 h4' ho1 hg
    go_wp2_with fail
    refine KS.out.mono ?_
    rintro e w2 ⟨rfl, n, os, rfl⟩
    have HO2 := Lib.hid (ownsRow_sortedI (os := os) (n := n) (ts := zs) (ss := zs) rfl hge HB.out h1 h2 H3.out)
    have HG2 := Lib.hid (grownBy_sortedI (w := w1) (g := g) (n := n) (os := os) zs.toArray)
    rw [HS.out]
    obtain ⟨w2, hw2⟩ : ∃ w2, w2 = Go.Sort.grow (Go.Sort.putRow (Value.int .i64) (Go.Sort.ahead w1 n) g 0 zs.toArray) os := ⟨_, rfl⟩
    rw [← hw2] at HO2 HG2 ⊢
    clear hw2 KS
    go_wp2_with fail
    go_ret
    exact ⟨_, rfl, HO2.out, only_fresh HG.out HG2.out hge⟩
end Go.Proofs.Ytphglalphejppaa
