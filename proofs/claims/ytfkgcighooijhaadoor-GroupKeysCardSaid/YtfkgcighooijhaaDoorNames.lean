/- The draw of names of a table. No condition. -/
import Derived.Test.YtfkgcighooijhaaDoorDrawTime
import Derived.Test.YtfkgcighooijhaaDoorStr
import Derived.Deep.RegionLaw
import Derived.Deep.DeepCutAuto
namespace Go.Proofs.YtfkgcighooijhaaDoor
open Go.RowKit
set_option linter.unusedVariables false
set_option linter.unusedSimpArgs false

set_option maxHeartbeats 800000 in
theorem name1_some (g : Nat) (l : List Int) (k : Nat) (w : World) (h : CodesAt w g l k) :
    Calls Tryd.prog 18 #[.pointer (some ⟨g, 0, none⟩)] w (StrPost w g l 20) := by
  go_enter Tryd.func18, Tryd.ntmps18
  go_wp2_with fail
  refine (next_some g l k 4 _ (h.grown (World.grownBy_alloc _ _ none) (by simp)) (by omega) (by omega)).mono ?_
  rintro e w2 ⟨v2, k2, rfl, hv2, h2, hg2⟩
  obtain ⟨j, rfl⟩ := Int.eq_ofNat_of_zero_le hv2.1
  have hj : j < 4 := by omega
  have hlt := h.lt
  have hB := (Blk.new w _ _).grown hg2 (by simp; omega)
  obtain ⟨x, hc, HX⟩ := hB.str_at (m := 20) (by rfl) (j := j) hj
  have G2 := Lib.hid hg2
  have C2 := Lib.hid h2
  clear hg2 h2 hB
  go_wp2
  go_ret
  exact ⟨x, k2, rfl, by have := HX.out; simpa using this, C2.out, only_trans (only_alloc (only_refl _ _) _) G2.out⟩
def NamesPost (w : World) (g : Nat) (l : List Int) (e : Ending) (w' : World) : Prop :=
  ∃ (A : Option Addr) (c : Nat) (ns : List ByteArray) (k : Nat), e = .returned (.slice A ns.length c) ∧ ns.length ≤ c ∧ c ≤ maxLen ∧ 1 ≤ ns.length ∧ ns.length ≤ 2 ∧ (∀ n ∈ ns, n.size ≤ 20) ∧
    Rd (w.heap.size ≤ ·) w' A (ns.map .string) ∧ CodesAt w' g l k ∧ w.grownBy w' (some g)
set_option maxHeartbeats 4000000 in
set_option maxRecDepth 100000 in
theorem names_some (g : Nat) (l : List Int) (k : Nat) (w : World) (h : CodesAt w g l k) :
    Calls Tryd.prog 12 #[.pointer (some ⟨g, 0, none⟩)] w (NamesPost w g l) := by
  go_enter Tryd.func12, Tryd.ntmps12
  go_wp2_with fail
  refine (next_some g l k 5 _ (h.grown (World.grownBy_alloc _ _ none) (by simp)) (by omega) (by omega)).mono ?_
  rintro e w2 ⟨v2, k2, rfl, hv2, h2, hg2⟩
  obtain ⟨j, rfl⟩ := Int.eq_ofNat_of_zero_le hv2.1
  have hj : j < 5 := by omega
  have hlt := h.lt
  have hB := (Blk.new w _ _).grown hg2 (by simp; omega)
  obtain ⟨x, hc, HX⟩ := hB.str_at (m := 20) (by rfl) (j := j) hj
  have hx : Hid (x.size ≤ 20) := by have := HX.out; exact Lib.hid (by simpa using this)
  have G2 : Hid (w.grownBy w2 (some g)) := Lib.hid (only_trans (only_alloc (only_refl _ _) _) hg2)
  have C2 := Lib.hid h2
  have hz2 : w.heap.size < w2.heap.size := by have := hg2.size; simp at this; omega
  have hg0 := h2.lt
  clear hg2 h2 hB h HX
  go_upto_region 2 with fail
  obtain ⟨b, hb⟩ : ∃ b, b = w2.heap.size := ⟨_, rfl⟩
  have HBB := Lib.hid hb
  obtain ⟨W, hW⟩ : ∃ W, W = w2.alloc (.cells #[.string x] 9) := ⟨_, rfl⟩
  have hOL : W.ownsRow b 9 1 (.slice (some ⟨b, 0, none⟩) 1 1) 1 #[Value.string x].toList := by rw [hW, hb]; exact World.ownsRow_lit w2 #[.string x] 1 (Nat.le_refl _) (by unfold maxLen; omega) rfl
  have CW : Hid (CodesAt W g l k2) := Lib.hid (by rw [hW]; exact C2.out.alloc _)
  have GW : Hid (w.grownBy W (some g)) := Lib.hid (by rw [hW]; exact only_alloc G2.out _)
  have hbl := hOL.lt b rfl
  have hgb : g < b := by rw [hb]; exact hg0
  have hwb : w.heap.size < b := by rw [hb]; exact hz2
  rw [← hb, ← hW]
  have OL := Lib.hid hOL
  clear hb hW hOL G2 C2 hz2 hc hg0
  go_wp2_with fail
  refine (next_some g l k2 2 _ CW.out (by omega) (by omega)).mono ?_
  rintro e w3 ⟨v3, k3, rfl, hv3, h3, hg3⟩
  have O3 : Hid (w3.ownsRow b 9 1 (.slice (some ⟨b, 0, none⟩) 1 1) 1 #[Value.string x].toList) := Lib.hid (own_only OL.out hg3 hgb)
  have G3 : Hid (w.grownBy w3 (some g)) := Lib.hid (only_trans GW.out hg3)
  have hz3 := hg3.size
  have C3 := Lib.hid h3
  clear hg3 h3 OL GW CW
  by_cases h1 : v3 = 1
  · have t1 : (v3 == 1) = true := by simp [h1]
    clear h1
    go_wp2_with fail
    refine (name1_some g l k3 _ C3.out).mono ?_
    rintro e w4 ⟨y, k4, rfl, hy, h4, hg4⟩
    have O4 : Hid (w4.ownsRow b 9 1 (.slice (some ⟨b, 0, none⟩) 1 1) 1 #[Value.string x].toList) := Lib.hid (own_only O3.out hg4 hgb)
    have G4 : Hid (w.grownBy w4 (some g)) := Lib.hid (only_trans G3.out hg4)
    have hz4 := hg4.size
    have C4 := Lib.hid h4
    have hg0 := h4.lt
    clear hg4 h4 O3 G3 C3
    go_wp2_with (at_builtin; refine wpList_append1 rfl _ _ 23 rfl b Tryd.underlying23 strInfo rfl (by decide) (v := .slice (some ⟨b, 0, none⟩) 1 1) (by rfl) (w0 := w4) (cs := #[.string y]) O4.out (by rfl) rfl (by simp [Value.oneCell']) (by decide) (by omega) (by omega) ?_; intro v7 w7 hown7 hg7 hob7)
    have O7 : Hid (w7.ownsRow b 9 1 v7 [x, y].length ([x, y].map .string)) := Lib.hid hown7
    have G7 : Hid (w.grownBy w7 (some g)) := Lib.hid (only_own G4.out hg7 O4.out (by omega))
    have C7 : Hid (CodesAt w7 g l k4) := Lib.hid (C4.out.grown hg7 (by intro b' hb' e; simp [Value.ownBlock] at e; omega))
    obtain ⟨A7, c7, rfl, hc7, hm7, -, hr7⟩ := Rd.of_own O7.out (by decide)
    have R7 := Lib.hid hr7
    clear hown7 hg7 hob7 hr7
    go_wp2_with fail
    go_ret
    exact ⟨A7, c7, [x, y], k4, rfl, hc7, hm7, by simp, by simp, by intro n hn; simp at hn; rcases hn with rfl | rfl; exact hx.out; omega, R7.out.mono (fun b' hb' _ => by have hq : b ≤ b' := hb'; show w.heap.size ≤ b'; omega), C7.out, G7.out⟩
  · have t1 : (v3 == 1) = false := by simp [h1]
    clear h1
    obtain ⟨A7, c7, hv7, hc7, hm7, -, hr7⟩ := Rd.of_own (xs := [x].map .string) (n := [x].length) O3.out (by decide)
    injection hv7 with e1 e2 e3
    subst e1 e3
    have R7 := Lib.hid hr7
    have HC7 := Lib.hid hc7
    have HM7 := Lib.hid hm7
    clear hr7 hc7 hm7 e2
    go_wp2_with fail
    go_ret
    exact ⟨_, _, [x], k3, rfl, HC7.out, HM7.out, by simp, by simp, by intro n hn; simp at hn; rcases hn with rfl; exact hx.out, R7.out.mono (fun b' hb' _ => by have hq : b ≤ b' := hb'; show w.heap.size ≤ b'; omega), C3.out, G3.out⟩
end Go.Proofs.YtfkgcighooijhaaDoor
