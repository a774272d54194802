/- law23: the draw of a dictionary. No condition. -/
import Derived.Test.YtgaomilmljepoaaDrawWord
import Derived.Test.YtgaomilmljepoaaDistinct
namespace Go.Proofs.Ytgaomilmljepoaa
open Go.RowKit
set_option linter.unusedVariables false
set_option linter.unusedSimpArgs false

def DictPost (w : World) (g : Nat) (l : List Int) (e : Ending) (w' : World) : Prop :=
  ∃ (A : Option Addr) (c : Nat) (ds : List ByteArray) (k : Nat), e = .returned (.slice A ds.length c) ∧ ds.length ≤ c ∧ c ≤ maxLen ∧ Srt ds ∧ ds.length ≤ 40 ∧ (∀ s ∈ ds, s.size ≤ 14) ∧ Rd (w.heap.size ≤ ·) w' A (ds.map .string) ∧ CodesAt w' g l k ∧ w.grownBy w' (some g)

set_option maxHeartbeats 1000000 in
theorem draw_any (g : Nat) (l : List Int) (k : Nat) (w : World) (h : CodesAt w g l k) :
    Calls Try.prog 12 #[.pointer (some ⟨g, 0, none⟩)] w (DictPost w g l) := by
  have hlt := h.lt
  go_enter Try.func12, Try.ntmps12
  go_wp2_with fail
  refine (next_some g l k 40 _ h (by omega) (by omega)).mono ?_
  rintro e w1 ⟨v1, k1, rfl, hv1, h1, hg1⟩
  have hz1 := hg1.size
  clear h
  go_wp2_with fail
  go_loopw [3, 4] (fun v n wr => ∃ (m : Int) (ds : List ByteArray) (k : Nat), n = .int .i64 m ∧ 0 ≤ m ∧ (ds.length : Int) + m ≤ 40 ∧ wr.ownsRow w.heap.size 9 1 v ds.length (ds.map .string) ∧ (∀ s ∈ ds, s.size ≤ 14) ∧ CodesAt wr g l k ∧ w.grownBy wr (some g)) (fun _ n _ => (intOf n).toNat)
  case atStart => exact ⟨v1, [], k1, rfl, hv1.1, by simp; omega, World.ownsRow_nil _ _ _ _, by simp, h1, hg1⟩
  case round =>
    obtain ⟨m, ds, k, rfl, hm, hlen, hown, hsz, hC, hG⟩ := hrel
    have G := Lib.hid hG
    have HS := Lib.hid hsz
    have hz := hG.size
    clear hG hsz h1 hg1
    by_cases hm0 : 0 < m
    · go_wp2_with fail
      refine (word_some g l k _ hC).mono ?_
      rintro e w2 ⟨s2, k2, rfl, hs2, h2, hg2⟩
      have hown2 := own_only hown hg2 hlt
      have G2 : Hid (w.grownBy w2 (some g)) := only_trans G.out hg2
      clear hown hg2 G hC
      go_wp2_with fail
      refine (next_some g l k2 2 _ h2 (by omega) (by omega)).mono ?_
      rintro e w3 ⟨v3, k3, rfl, hv3, h3, hg3⟩
      have hown3 := own_only hown2 hg3 hlt
      have G3 : Hid (w.grownBy w3 (some g)) := only_trans G2.out hg3
      have hz3 := G3.out.size
      clear hown2 hg3 G2 h2
      by_cases hb : v3 = 1
      · have hb1 : (v3 == 1) = true := by simp [hb]
        clear hb
        go_wp2_with fail
        refine (word_some g l k3 _ h3).mono ?_
        rintro e w4 ⟨s4, k4, rfl, hs4, h4, hg4⟩
        have hown4 := own_only hown3 hg4 hlt
        have G4 : Hid (w.grownBy w4 (some g)) := only_trans G3.out hg4
        have hz4 := G4.out.size
        clear hown3 hg4 G3 h3
        go_wp2_with (at_builtin; refine wpList_append1 rfl _ _ 26 rfl w.heap.size Try.underlying26 strInfo rfl (by decide) (v := _) (by rfl) (w0 := _) (cs := #[.string (s2 ++ s4)]) hown4 (by rfl) rfl (by simp [Value.oneCell']) (by decide) (by omega) (by omega) ?_; intro v5 w5 hown5 hg5 hob5)
        have hC5 := h4.grown hg5 (fun b hb e => by have := (hown4.lt b e.symm).1; omega)
        have G5 : Hid (w.grownBy w5 (some g)) := only_own G4.out hg5 hown4 (Nat.le_refl _)
        have HO := Lib.hid (own_snoc_str hown5)
        clear hown5 hg5 hob5 hown4 h4 G4
        go_wp2_with fail
        go_roundw
        case rel => exact ⟨m - 1, ds ++ [s2 ++ s4], k4, rfl, by omega, by simp; omega, HO.out, mem_snoc HS.out (by rw [ByteArray.size_append]; omega), hC5, G5.out⟩
        case measure => simp [intOf]; omega
      · have hb1 : (v3 == 1) = false := by simp [hb]
        clear hb
        go_wp2_with (at_builtin; refine wpList_append1 rfl _ _ 26 rfl w.heap.size Try.underlying26 strInfo rfl (by decide) (v := _) (by rfl) (w0 := _) (cs := #[.string s2]) hown3 (by rfl) rfl (by simp [Value.oneCell']) (by decide) (by omega) (by omega) ?_; intro v5 w5 hown5 hg5 hob5)
        have hC5 := h3.grown hg5 (fun b hb e => by have := (hown3.lt b e.symm).1; omega)
        have G5 : Hid (w.grownBy w5 (some g)) := only_own G3.out hg5 hown3 (Nat.le_refl _)
        have HO := Lib.hid (own_snoc_str hown5)
        clear hown5 hg5 hob5 hown3 h3 G3
        go_wp2_with fail
        go_roundw
        case rel => exact ⟨m - 1, ds ++ [s2], k3, rfl, by omega, by simp; omega, HO.out, mem_snoc HS.out (by omega), hC5, G5.out⟩
        case measure => simp [intOf]; omega
    · obtain ⟨A, c, rfl, hc, hcm, -, hrd⟩ := Rd.of_own hown (by decide)
      have HR := Lib.hid hrd
      clear hown hrd
      go_wp2_with fail
      refine (distinct_post A ds c _ HR.out (by omega) hc hcm).mono ?_
      rintro e w6 ⟨A6, c6, d6, rfl, hc6, hm6, hs6, he6, hl6, hr6, hg6⟩
      have HR6 := Lib.hid hr6
      have HE6 := Lib.hid he6
      have hC6 := hC.grown hg6 (by simp)
      clear hr6 he6
      go_wp2_with fail
      go_ret
      exact ⟨A6, c6, d6, k, rfl, hc6, hm6, hs6, by omega, fun s hs => HS.out s ((HE6.out s).1 hs), HR6.out.mono (fun b hb _ => by omega), hC6, only_trans G.out (only_of_none hg6 _)⟩
end Go.Proofs.Ytgaomilmljepoaa
