/- law24: awake and draw. No condition. -/
import Derived.Test.YtebakogdbeeljaaDrawInt
import Derived.Test.YtebakogdbeeljaaColA
namespace Go.Proofs.Ytebakogdbeeljaa
open Go.RowKit
set_option linter.unusedVariables false
set_option linter.unusedSimpArgs false

theorem intInfo : (Try.prog.info? 3).map (fun i => (i.zero, i.size, i.bytes)) = some (some (.int .i64 0), 1, 8) := by kernel_rfl

def TrueExt (w : World) (e : Ending) (w' : World) : Prop := e = .returned (.bool true) ∧ w.grownBy w' none
set_option maxHeartbeats 400000 in
theorem awake_any (w : World) : Calls Try.prog 9 #[] w (TrueExt w) := by
  have hR : Rd (fun _ => True) (w.alloc (.cells #[.int .i64 4, .int .i64 4, .int .i64 5] 3)) (some ⟨w.heap.size, 0, none⟩) ([4, 4, 5].map (.int .i64)) := fun _ =>
    ⟨w.heap.size, 0, rfl, trivial, by simp, fun j u hu => by rw [Nat.zero_add, (Blk.new w _ _).cell j, ← hu]; simp⟩
  have H := Lib.hid hR
  clear hR
  go_enter Try.func9, Try.ntmps9
  go_wp2_with fail
  refine (runs_any _ [4, 4, 5] 3 _ H.out (by decide)).mono ?_
  rintro e w' ⟨rfl, n, rfl⟩
  have hr : runsTo [4, 4, 5] (List.length ([4, 4, 5] : List Int)) = 2 := by decide
  rw [hr]
  clear hr
  go_wp2
  go_ret
  exact ⟨rfl, only_drewN (only_alloc (only_refl _ _) _) _⟩

def IntsPost (w : World) (n : Nat) (e : Ending) (w' : World) : Prop :=
  ∃ (A : Option Addr) (c : Nat) (vs : List Int), e = .returned (.slice A vs.length c) ∧ vs.length ≤ n ∧ vs.length ≤ c ∧ c ≤ maxLen ∧ (∀ x ∈ vs, InI64 x) ∧ Rd (w.heap.size ≤ ·) w' A (vs.map (.int .i64)) ∧ w.grownBy w' none
/-- what holds at the head of each round -/
def DrawRel (w : World) (g : Nat) (l : List Int) (v x : Value) (wr : World) (vs : List Int) : Prop :=
  ∃ (n : Int) (k : Nat), x = .int .i64 n ∧ InI64 n ∧ CodesAt wr g l k ∧ w.grownBy wr none ∧ (∀ x ∈ vs, InI64 x) ∧ wr.ownsRow (g + 1) 3 1 v vs.length (vs.map (.int .i64))

set_option maxHeartbeats 1000000 in
set_option maxRecDepth 100000 in
theorem draw_any (A : Option Addr) (l : List Int) (c : Nat) (w : World) (h : Rd (fun _ => True) w A (l.map (.int .u8))) (hc : l.length ≤ c) (hcm : c ≤ maxLen) (hx : ∀ x ∈ l, 0 ≤ x ∧ x ≤ 255) :
    Calls Try.prog 10 #[.slice A l.length c] w (IntsPost w 700) := by
  have HX := Lib.hid hx
  clear hx
  go_enter Try.func10, Try.ntmps10
  go_wp2_with fail
  refine (new_any A l c 200 _ h hc hcm (by omega) HX.out).mono ?_
  rintro e w1 ⟨rfl, hC, hg1, hz1⟩
  go_wp2_with fail
  refine (int_some _ _ _ _ hC).mono ?_
  rintro e w2 ⟨x, k2, rfl, hX2, hC2, hg2⟩
  clear hC
  have G2 : Hid (w.grownBy w2 none) := only_fresh hg1 hg2 (Nat.le_refl _)
  have hz2 : w.heap.size < w2.heap.size := Nat.lt_of_lt_of_le hz1 hg2.size
  obtain ⟨g, hgd⟩ : ∃ g, g = w.heap.size := ⟨_, rfl⟩
  rw [← hgd] at hC2 hz2 ⊢
  obtain ⟨l', hl'⟩ : ∃ l', l' = l.take 200 := ⟨_, rfl⟩
  rw [← hl'] at hC2
  have HG := Lib.hid hgd
  clear hg1 hg2 hz1 hgd hl' h HX
  go_wp2_with fail
  go_loopw [4, 5] (fun v x wr => ∃ vs : List Int, vs.length ≤ 500 ∧ DrawRel w g l' v x wr vs) (fun v _ _ => 700 - lenOf v)
  case atStart => exact ⟨[], by simp, x, k2, rfl, hX2, hC2, G2.out, by simp, by simpa using World.ownsRow_nil w2 (g + 1) _ 1⟩
  case round =>
    obtain ⟨vs, hlen, x, k, rfl, hx, hC, hG, hvs, hown⟩ := hrel
    have G := Lib.hid hG
    have HV := Lib.hid hvs
    clear hG hvs hC2 G2
    obtain ⟨A, cc, rfl, hnc, hcm, -, hrd⟩ := Rd.of_own hown (by decide)
    have HR := Lib.hid hrd
    clear hrd
    unfold maxLen at hcm
    by_cases hL : k < l'.length
    · by_cases h3 : vs.length < 300
      · go_wp2_with (go_at_call 28; refine (left_any g l' k _ hC).mono ?_; rintro e w' ⟨rfl, nq, rfl⟩)
        refine (next_some g l' k 5 _ (hC.drewN nq) (by omega) (by omega)).mono ?_
        rintro e w3 ⟨v3, k3, rfl, hv3, hC3, hg3⟩
        have hown3 : w3.ownsRow (g + 1) 3 1 (.slice A vs.length cc) vs.length (vs.map (.int .i64)) := own_only (own_drewN hown nq) hg3 (by omega)
        have G3 : Hid (w.grownBy w3 none) := only_fresh (only_drewN G.out nq) hg3 (by have := HG.out; omega)
        clear hC hown hg3 G HR
        by_cases h0 : v3 = 0
        · have hb0 : (v3 == 0) = true := by simp [h0]
          clear h0
          go_wp2_with fail
          refine (next_some g l' k3 200 _ hC3 (by omega) (by omega)).mono ?_
          rintro e w4 ⟨v4, k4, rfl, hv4, hC4, hg4⟩
          have hown4 := own_only hown3 hg4 (by omega)
          have G4 : Hid (w.grownBy w4 none) := only_fresh G3.out hg4 (by have := HG.out; omega)
          clear hC3 hown3 hg4 G3
          go_wp2_with fail
          obtain ⟨wo, hwo⟩ : ∃ wo, wo = w4 := ⟨_, rfl⟩
          go_loopw [4, 6] (fun v n wr => ∃ (us : List Int) (m : Int), n = .int .i64 m ∧ 0 ≤ m ∧ (us.length : Int) + m ≤ 499 ∧ vs.length ≤ us.length ∧ DrawRel w g l' v (.int .i64 x) wr us) (fun _ n _ => (intOf n).toNat)
          case atStart => exact ⟨vs, v4, rfl, hv4.1, by omega, Nat.le_refl _, x, k4, rfl, hx, hC4, G4.out, HV.out, hown4⟩
          case round =>
            obtain ⟨us, m, rfl, hm, hlen2, hle2, x', k5, hxx, -, hC5, hG5, hus, hown5⟩ := hrel
            have G5 := Lib.hid hG5
            have HU := Lib.hid hus
            clear hC4 hown4 G4 hG5 hus hxx HV hwo
            obtain ⟨A5, cc5, rfl, hnc5, hcm5, -, -⟩ := Rd.of_own hown5 (by decide)
            by_cases hm0 : 0 < m
            · go_wp2_with (at_builtin; refine wpList_append1 rfl _ _ 22 rfl (g + 1) Try.underlying22 intInfo rfl (by decide) (v := _) (by rfl) (w0 := _) (cs := #[.int .i64 x]) hown5 (by rfl) rfl (by simp [Value.oneCell']) (by decide) (by omega) (by have := hC5.lt; omega) ?_; intro v9 w9 hown9 hg9 hob9)
              have hC9 : CodesAt w9 g l' k5 := hC5.grown hg9 (fun b hb e => by have := (hown5.lt b e.symm).1; omega)
              have G9 : Hid (w.grownBy w9 none) := only_own G5.out hg9 hown5 (by have := HG.out; omega)
              have HO9 := Lib.hid (own_snoc_int hown9)
              clear hown9 hg9 hob9
              go_wp2_with fail
              go_roundw
              case rel => exact ⟨us ++ [x], m - 1, rfl, by omega, by simp; omega, by simp; omega, x, k5, rfl, hx, hC9, G9.out, mem_snoc HU.out hx, HO9.out⟩
              case measure => simp [intOf]; omega
            · go_wp2_with (at_builtin; refine wpList_append1 rfl _ _ 22 rfl (g + 1) Try.underlying22 intInfo rfl (by decide) (v := _) (by rfl) (w0 := _) (cs := #[.int .i64 x]) hown5 (by rfl) rfl (by simp [Value.oneCell']) (by decide) (by omega) (by have := hC5.lt; omega) ?_; intro v9 w9 hown9 hg9 hob9)
              have hC9 : CodesAt w9 g l' k5 := hC5.grown hg9 (fun b hb e => by have := (hown5.lt b e.symm).1; omega)
              have G9 : Hid (w.grownBy w9 none) := only_own G5.out hg9 hown5 (by have := HG.out; omega)
              have HO9 := Lib.hid (own_snoc_int hown9)
              clear hown9 hg9 hob9
              go_wp2_with fail
              go_roundw
              case rel => exact ⟨us ++ [x], by simp; omega, _, k5, rfl, hx, hC9, G9.out, mem_snoc HU.out hx, HO9.out⟩
              case measure => rw [lenOf_own HO9.out]; simp [lenOf]; omega
        · have hb0 : (v3 == 0) = false := by simp [h0]
          by_cases h1 : v3 = 1
          · have hb1 : (v3 == 1) = true := by simp [h1]
            clear h0 h1
            go_wp2_with fail
            refine (int_some g l' k3 _ hC3).mono ?_
            rintro e w4 ⟨x4, k4, rfl, hx4, hC4, hg4⟩
            have hown4 := own_only hown3 hg4 (by omega)
            have G4 : Hid (w.grownBy w4 none) := only_fresh G3.out hg4 (by have := HG.out; omega)
            clear hC3 hown3 hg4 G3
            go_wp2_with (at_builtin; refine wpList_append1 rfl _ _ 22 rfl (g + 1) Try.underlying22 intInfo rfl (by decide) (v := _) (by rfl) (w0 := _) (cs := #[.int .i64 x4]) hown4 (by rfl) rfl (by simp [Value.oneCell']) (by decide) (by omega) (by have := hC4.lt; omega) ?_; intro v9 w9 hown9 hg9 hob9)
            have hC9 : CodesAt w9 g l' k4 := hC4.grown hg9 (fun b hb e => by have := (hown4.lt b e.symm).1; omega)
            have G9 : Hid (w.grownBy w9 none) := only_own G4.out hg9 hown4 (by have := HG.out; omega)
            have HO9 := Lib.hid (own_snoc_int hown9)
            clear hown9 hg9 hob9
            go_wp2_with fail
            go_roundw
            case rel => exact ⟨vs ++ [x4], by simp; omega, _, k4, rfl, hx4, hC9, G9.out, mem_snoc HV.out hx4, HO9.out⟩
            case measure => rw [lenOf_own HO9.out]; simp [lenOf]; omega
          · have hb1 : (v3 == 1) = false := by simp [h1]
            clear h0 h1
            go_wp2_with fail
            refine (next_some g l' k3 5 _ hC3 (by omega) (by omega)).mono ?_
            rintro e w4 ⟨v4, k4, rfl, hv4, hC4, hg4⟩
            have hown4 := own_only hown3 hg4 (by omega)
            have G4 : Hid (w.grownBy w4 none) := only_fresh G3.out hg4 (by have := HG.out; omega)
            clear hC3 hown3 hg4 G3
            go_wp2_with (at_builtin; refine wpList_append1 rfl _ _ 22 rfl (g + 1) Try.underlying22 intInfo rfl (by decide) (v := _) (by rfl) (w0 := _) (cs := #[.int .i64 _]) hown4 (by rfl) rfl (by simp [Value.oneCell']) (by decide) (by omega) (by have := hC4.lt; omega) ?_; intro v9 w9 hown9 hg9 hob9)
            have hC9 : CodesAt w9 g l' k4 := hC4.grown hg9 (fun b hb e => by have := (hown4.lt b e.symm).1; omega)
            have G9 : Hid (w.grownBy w9 none) := only_own G4.out hg9 hown4 (by have := HG.out; omega)
            have HO9 := Lib.hid (own_snoc_int hown9)
            clear hown9 hg9 hob9
            go_wp2_with fail
            go_roundw
            case rel => exact ⟨vs ++ [wrap64 (x + (v4 - 2))], by simp; omega, _, k4, rfl, (inI64_wrap _), hC9, G9.out, mem_snoc HV.out (inI64_wrap _), HO9.out⟩
            case measure => rw [lenOf_own HO9.out]; simp [lenOf]; omega
      · go_wp2_with (go_at_call 28; refine (left_any g l' k _ hC).mono ?_; rintro e w' ⟨rfl, nq, rfl⟩)
        go_ret
        exact ⟨A, cc, vs, rfl, by omega, hnc, by unfold maxLen; omega, HV.out, (HR.out.drewN _).mono (fun b hb _ => by have := HG.out; omega), only_drewN G.out _⟩
    · go_wp2_with (go_at_call 28; refine (left_any g l' k _ hC).mono ?_; rintro e w' ⟨rfl, nq, rfl⟩)
      go_ret
      exact ⟨A, cc, vs, rfl, by omega, hnc, by unfold maxLen; omega, HV.out, (HR.out.drewN _).mono (fun b hb _ => by have := HG.out; omega), only_drewN G.out _⟩
end Go.Proofs.Ytebakogdbeeljaa
