/- law27: SegmentHeader: the walk of the law itself (printed by mklaw27h.py). For every input. -/
import Derived.Test.YtodaabofpkafjaaGreatJCrcW
import Derived.Test.YtodaabofpkafjaaGreatJPutF
import Derived.Test.YtodaabofpkafjaaGreatJHdrL
import Derived.Test.YtodaabofpkafjaaGreatJGen
import Derived.Deep.DeepCutAuto
namespace Go.Proofs.YtodaabofpkafjaaGreat
open Go.RowKit
set_option linter.unusedVariables false
set_option linter.unusedSimpArgs false

/-- a row of bytes as the law's list holds it -/
def BRG (g : Nat) (W : World) (v : Value) : Prop := ∃ A bs c, v = .slice A (List.length bs) c ∧ Rd (· ≠ g) W A (bs.map (.int .u8)) ∧ bs.length ≤ c ∧ c ≤ 9223372036854775807 ∧ bs.length ≤ 9000000 ∧ InH bs
theorem BRG.gr {g : Nat} {W W' : World} {v : Value} (h : BRG g W v) (hg : W.grownBy W' none) : BRG g W' v := by
  obtain ⟨A, bs, c, h1, h2, h3⟩ := h
  exact ⟨A, bs, c, h1, h2.grown hg (by simp), h3⟩
theorem Blk.rd1 {w : World} {a t : Nat} {v : Value} (h : Blk w a t #[v]) : Rd (· = a) w (some ⟨a, 0, none⟩) [v] := fun _ =>
  ⟨a, 0, rfl, rfl, h.lt, fun j u hu => by rw [Nat.zero_add, h.cell j]; simpa using hu⟩
theorem snocBRG {g base : Nat} {W : World} {v : Value} {ws : List Int} (h : W.ownsRow base 5 1 v (ws.length + 1) (ws.map (.int .u8) ++ [.int .u8 0])) (hi : InH ws) (h1 : 124 ≤ ws.length) (h2 : ws.length + 1 ≤ 9000000) (hg : g < base) : BRG g W v := by
  obtain ⟨A, c, e, h3, h4, -, h5⟩ := Rd.of_own h (by decide)
  exact ⟨A, ws ++ [0], c, by rw [e]; simp, by rw [List.map_append]; exact h5.mono (fun b hb _ => by omega), by simpa using h3, by unfold maxLen at h4; omega, by simpa using h2, hi.snoc h1 0⟩
theorem secY_len (bs : List Int) (kind : Int) : (secY bs kind).length ≤ bs.length := by
  unfold secY
  split
  · unfold secH cutB
    rw [List.length_take, List.length_drop]
    omega
  · exact Nat.zero_le _
theorem ne_some {g : Nat} : ∀ b, b ≠ g → some b ≠ some g := fun b hb e => hb (by injection e)
set_option maxHeartbeats 16000000 in
set_option maxRecDepth 100000 in
theorem law_header (A0 B0 : Option Addr) (bs l0 : List Int) (c0 d0 : Nat) (kind at_ by_ : Int) (w : World) (hb : Rd (fun _ => True) w A0 (bs.map (.int .u8))) (hbx : ∀ x ∈ bs, 0 ≤ x ∧ x ≤ 255) (hcv : c0 ≤ maxLen) (hvc : bs.length ≤ c0)
    (h : Rd (fun _ => True) w B0 (l0.map (.int .u8))) (hc : l0.length ≤ d0) (hcm : d0 ≤ maxLen) (hx : ∀ x ∈ l0, 0 ≤ x ∧ x ≤ 255) (hy : 0 ≤ by_ ∧ by_ ≤ 255) :
    Calls Tryz.prog 4 #[.slice A0 bs.length c0, .slice B0 l0.length d0, .int .i64 kind, .int .i64 at_, .int .u8 by_] w (BoolExt true w) := by
  have HV := Lib.hid hb
  have HBX := Lib.hid hbx
  have KD := Lib.hid (fun (w' : World) (hg : w.grownBy w' none) => draw27_any B0 l0 d0 w' (h.grown hg (by simp)) hc hcm hx)
  have hcv' : c0 ≤ 9223372036854775807 := by unfold maxLen at hcv; omega
  clear h hc hcm hx hb hbx hcv
  go_enter Tryz.func4, Tryz.ntmps4
  by_cases hbig : 500 < bs.length
  · have i1 : decide ((500 : Int) < (bs.length : Int)) = true := by simp; omega
    go_wp2_with (go_at_call 5; refine (awake27_any _).mono ?_; rintro e w1 ⟨rfl, hg1⟩)
    go_ret
    exact ⟨by simp, hg1⟩
  · have i1 : decide ((500 : Int) < (bs.length : Int)) = false := by simp; omega
    go_wp2_with (go_at_call 5; refine (awake27_any _).mono ?_; rintro e w1 ⟨rfl, hg1⟩)
    refine (KD.out w1 hg1).mono ?_
    rintro e w2 ⟨A3, c3, es, B, dB, g, l, k0, rfl, hel, hec, hcm3, hev, -, hgood, hwd, hdm, hown, hob, hcd, hgw, hg2⟩
    have hge := encX_ge es
    have hle := encX_le hgood (by omega)
    have HIN := Lib.hid (encX_in es)
    obtain ⟨ws, hws⟩ : ∃ x, x = encX es := ⟨_, rfl⟩
    rw [← hws] at hge hle HIN hwd hown
    have hdm' : dB ≤ 9223372036854775807 := by unfold maxLen at hdm; omega
    obtain ⟨A9, c9, e9, -, -, -, hr9⟩ := Rd.of_own hown (by decide)
    injection e9 with e91 e92 e93
    rw [← e91] at hr9
    obtain ⟨b6, o6, rfl, hb6, hb6l, -⟩ := hr9 (by rw [List.length_map]; omega)
    have R2 : Hid (Rd (· ≠ g) w2 (some ⟨b6, o6, none⟩) (ws.map (.int .u8))) := Lib.hid (hr9.mono (fun b hb _ => by omega))
    have G2 := Lib.hid (only_trans hg1 hg2)
    have hwg2 : w.heap.size ≤ g := Nat.le_trans hg1.size hgw
    have HV2 : Hid (Rd (· ≠ g) w2 A0 (bs.map (.int .u8))) := Lib.hid ((HV.out.mono (S' := (· ≠ g)) (fun b _ hlt => by omega)).grown G2.out (by simp))
    have CC := Lib.hid hcd
    have hgw2 : g < w2.heap.size := hcd.lt
    have hwp : 0 < ws.length := by omega
    clear hev hgood hdm hob hown e91 e92 e93 hr9 hcd hg1 hg2 HV KD
    go_upto_region 4 with fail
    rw [← hws]
    clear hws
    go_wp2_with (at_builtin; go_must (refine wpList_appendN rfl _ _ 22 rfl w2.heap.size Tryz.underlying22 byteInfo rfl (by decide) (v := .slice none 0 0) (by rfl) (World.ownsRow_nil _ _ _ _) (some ⟨b6, o6, none⟩) ws.length dB (by rfl) R2.out (by simp) (byte_ones _) (by decide) (by omega) (Nat.le_refl _) ?_); intro v5 w5 hv5 hg5 hob5; obtain ⟨go, co, rfl, hgo, -⟩ := hv5.form (by omega); simp only [Nat.zero_add] at *)
    have hg5' : w2.grownBy w5 none := hg5
    have hown5 : w5.ownsRow w2.heap.size 5 1 (.slice (some ⟨go, 0, none⟩) ws.length co) ws.length (ws.map (.int .u8)) := by simpa using hv5
    clear hv5 hg5 hob5
    obtain ⟨A5, c5, e5, hnc, hcm5, -, -⟩ := Rd.of_own hown5 (by decide)
    injection e5 with e51 e52 e53
    rw [← e53] at hnc hcm5
    clear e51 e52 e53
    have O5 := Lib.hid hown5
    have G5 := Lib.hid hg5'
    have hgo5 := (hown5.lt go rfl).2
    clear hown5 hg5'
    refine (mod_is at_ ws.length _ hwp (by omega)).mono ?_
    rintro e w5b ⟨rfl, hw5⟩
    obtain rfl := hw5.symm
    have hm := modV_lt at_ hwp
    obtain ⟨m, hmE⟩ : ∃ m, modV at_ ws.length = m := ⟨_, rfl⟩
    rw [hmE] at hm ⊢
    have hcj : w5.cell? ⟨go, m, none⟩ = some (.int .u8 (ws.getD m 0)) := by
      have := (own_cellsH O5.out hm).1
      rw [this]; simp [hm]
    have hfj := (own_cellsH O5.out hm).2
    obtain ⟨xj, hxj⟩ : ∃ xj, ws.getD m 0 = xj := ⟨_, rfl⟩
    rw [hxj] at hcj
    have hji : (m : Int) < (ws.length : Int) := by omega
    have HME := Lib.hid hmE
    clear hxj hmE
    obtain ⟨W6, hW6⟩ : ∃ W6, W6 = w5.setCell ⟨go, m, none⟩ (.int .u8 (bits .xor .u8 xj by_)) := ⟨_, rfl⟩
    have O6 : Hid (W6.ownsRow w2.heap.size 5 1 (.slice (some ⟨go, 0, none⟩) ws.length co) (ws.set m (bits .xor .u8 xj by_)).length ((ws.set m (bits .xor .u8 xj by_)).map (.int .u8))) := Lib.hid (by
      rw [hW6, List.length_set, List.map_set]
      exact own_setH O5.out hm)
    have G6 : Hid (w2.grownBy W6 none) := Lib.hid (hW6 ▸ only_setN G5.out hgo _)
    have HU6 : Hid (InH (ws.set m (bits .xor .u8 xj by_))) := Lib.hid (HIN.out.set_ m (xor_in _ _))
    have BR1 : Hid (BRG g W6 (.slice (some ⟨go, 0, none⟩) ws.length co)) := Lib.hid (by
      obtain ⟨A, c, e, h1, h2, -, h4⟩ := Rd.of_own O6.out (by decide)
      injection e with e1 e2 e3
      refine ⟨A, _, c, by rw [e1, e3, List.length_set], h4.mono (fun b hb _ => by omega), h1, by unfold maxLen at h2; omega, by rw [List.length_set]; omega, HU6.out⟩)
    have HW6 := Lib.hid hW6
    clear O6 HU6 hW6
    go_upto_region 6 with fail
    rw [← HW6.out]
    have R6 := Lib.hid (R2.out.grown G6.out (by simp))
    have C6 := Lib.hid (CC.out.grown G6.out (by simp))
    have hg6 : g < W6.heap.size := C6.out.lt
    have hb66 : b6 < W6.heap.size := Nat.lt_of_lt_of_le hb6l G6.out.size
    clear HW6 O5 G5 hcj hfj CC R2
    go_wp2_with (at_builtin; go_must (refine wpList_appendN rfl _ _ 22 rfl W6.heap.size Tryz.underlying22 byteInfo rfl (by decide) (v := .slice none 0 0) (by rfl) (World.ownsRow_nil _ _ _ _) (some ⟨b6, o6, none⟩) ws.length dB (by rfl) R6.out (by simp) (byte_ones _) (by decide) (by omega) (Nat.le_refl _) ?_); intro v7 w7 hv7 hg7 hob7; obtain ⟨gh, ch, rfl, hgh, -⟩ := hv7.form (by omega); simp only [Nat.zero_add] at *)
    have hg7' : W6.grownBy w7 none := hg7
    have hown7 : w7.ownsRow W6.heap.size 5 1 (.slice (some ⟨gh, 0, none⟩) ws.length ch) ws.length (ws.map (.int .u8)) := by simpa using hv7
    have O7 := Lib.hid hown7
    have G7 := Lib.hid hg7'
    clear hv7 hg7 hob7 hown7 hg7'
    refine (next_some g l k0 124 w7 (C6.out.grown G7.out (by simp)) (by decide) (by decide)).mono ?_
    rintro e w8 ⟨v8, k8, rfl, ⟨hv80, hv81⟩, hc8, hg8⟩
    obtain ⟨n8, rfl⟩ : ∃ n : Nat, v8 = n := ⟨v8.toNat, by omega⟩
    have hn8 : n8 < ws.length := by omega
    have O8 := Lib.hid (own_only O7.out hg8 hg6)
    have hgh8 := (O8.out.lt gh rfl).2
    have C8 := Lib.hid hc8
    have G8 := Lib.hid hg8
    have hcj : w8.cell? ⟨gh, n8, none⟩ = some (.int .u8 (ws.getD n8 0)) := by
      have := (own_cellsH O8.out hn8).1
      rw [this]; simp [hn8]
    have hfj := (own_cellsH O8.out hn8).2
    obtain ⟨xh, hxh⟩ : ∃ xh, ws.getD n8 0 = xh := ⟨_, rfl⟩
    rw [hxh] at hcj
    have hjh : (n8 : Int) < (ws.length : Int) := by omega
    clear hxh hc8 hg8 O7
    obtain ⟨W9, hW9⟩ : ∃ W9, W9 = w8.setCell ⟨gh, n8, none⟩ (.int .u8 (bits .xor .u8 xh by_)) := ⟨_, rfl⟩
    have O9 : Hid (W9.ownsRow W6.heap.size 5 1 (.slice (some ⟨gh, 0, none⟩) ws.length ch) (ws.set n8 (bits .xor .u8 xh by_)).length ((ws.set n8 (bits .xor .u8 xh by_)).map (.int .u8))) := Lib.hid (by
      rw [hW9, List.length_set, List.map_set]
      exact own_setH O8.out hn8)
    have G9 : Hid (W6.grownBy W9 (some g)) := Lib.hid (hW9 ▸ only_setN (only_trans (only_of_none G7.out (some g)) G8.out) hgh _)
    have HU9 : Hid (InH (ws.set n8 (bits .xor .u8 xh by_))) := Lib.hid (HIN.out.set_ n8 (xor_in _ _))
    have BR2 : Hid (BRG g W9 (.slice (some ⟨gh, 0, none⟩) ws.length ch)) := Lib.hid (by
      obtain ⟨A, c, e, h1, h2, -, h4⟩ := Rd.of_own O9.out (by decide)
      injection e with e1 e2 e3
      refine ⟨A, _, c, by rw [e1, e3, List.length_set], h4.mono (fun b hb _ => by omega), h1, by unfold maxLen at h2; omega, by rw [List.length_set]; omega, HU9.out⟩)
    have C9 : Hid (CodesAt W9 g l k8) := Lib.hid (hW9 ▸ C8.out.grown (only_setB w8 _) (fun b hb e => by (have e' : b = gh := (by injection e)); omega))
    have BR19 : Hid (BRG g W9 (.slice (some ⟨go, 0, none⟩) ws.length co)) := Lib.hid (by
      obtain ⟨A, bs', c, h1, h2, h3⟩ := BR1.out
      exact ⟨A, bs', c, h1, h2.grown G9.out ne_some, h3⟩)
    have R9 := Lib.hid (R6.out.grown G9.out ne_some)
    have HV9 := Lib.hid ((HV2.out.grown G6.out (by simp)).grown G9.out ne_some)
    have G9w : Hid (w.grownBy W9 none) := Lib.hid (only_fresh (only_trans G2.out G6.out) G9.out hwg2)
    have hg9 : g < W9.heap.size := C9.out.lt
    have hmi : (m : Int) ≤ (dB : Int) := by omega
    have HW9 := Lib.hid hW9
    clear O9 HU9 hW9
    go_upto_region 8 with fail
    rw [← HW9.out]
    clear HW9 O8 G8 G7 G9 G6 BR1 R6 C6 C8 HV2 hcj hfj
    have HWD : Hid ((ws.length : Int) ≤ (dB : Int)) := Lib.hid (by omega)
    have C9b : Hid (∀ W', W9.grownBy W' none → ∀ j u, (ws.map (Value.int .u8))[j]? = some u → W'.cell? ((⟨b6, o6, none⟩ : Addr).add j) = some u) := Lib.hid (fun W' hg => rd_cells (R9.out.grown hg (by simp)))
    go_cut [16] (fun v wx => ∃ lb vA, v = .slice (some ⟨lb, 0, none⟩) 6 6 ∧ g < lb ∧ Blk wx lb 22 #[.slice A0 bs.length c0, .slice (some ⟨b6, o6, none⟩) ws.length dB, .slice (some ⟨go, 0, none⟩) ws.length co, .slice (some ⟨gh, 0, none⟩) ws.length ch, .slice (some ⟨b6, o6, none⟩) m dB, vA] ∧ BRG g wx vA ∧ W9.grownBy wx none)
    case first =>
      refine wp_region_gen 18 (JC [some (.slice A0 bs.length c0), some (.slice (some ⟨b6, o6, none⟩) ws.length dB), some (.slice (some ⟨go, 0, none⟩) ws.length co), some (.slice (some ⟨gh, 0, none⟩) ws.length ch), some (.slice (some ⟨b6, o6, none⟩) ws.length dB), some (.int .i64 (at_)), some (.slice (some ⟨b6, o6, none⟩) ws.length dB), some (.int .i64 ((ws.length : Int))), some (.int .i64 ((m : Int))), some (.slice (some ⟨b6, o6, none⟩) m dB), some (.slice (some ⟨b6, o6, none⟩) ws.length dB), some (.slice (some ⟨b6, o6, none⟩) ws.length dB), some (.int .i64 ((ws.length : Int))), some (.slice (some ⟨b6, o6, none⟩) ws.length dB), some (.int .i64 ((ws.length : Int))), some (.slice (some ⟨b6, o6, none⟩) ws.length ws.length), none, none] (fun D u w => W9.grownBy w none ∧ (D 16 = true → ∃ a, u 16 = .slice (some ⟨a, 0, none⟩) 1 1 ∧ Blk w a 5 #[.int .u8 0]) ∧ (D 17 = true → BRG g w (u 17)))) (by kernel_rfl) (by kernel_rfl) ?_ ?_ ?_
      · intro u
        exact ⟨(fun j c _ h => by cases h), only_drew (only_refl _ _), (fun h => by cases h), (fun h => by cases h)⟩
      · intro AA hA
        have hasz : AA.tmps.size = 184 := by rw [hA]; kernel_rfl
        have ea0 : AA.eval (.tmp 0) = .slice A0 bs.length c0 := by rw [hA]; kernel_rfl
        have ea12 : AA.eval (.tmp 12) = .slice (some ⟨b6, o6, none⟩) ws.length dB := by rw [hA]; kernel_rfl
        have ea14 : AA.eval (.tmp 14) = .slice (some ⟨go, 0, none⟩) ws.length co := by rw [hA]; kernel_rfl
        have ea15 : AA.eval (.tmp 15) = .slice (some ⟨gh, 0, none⟩) ws.length ch := by rw [hA]; kernel_rfl
        have ea3 : AA.eval (.tmp 3) = .int .i64 (at_) := by rw [hA]; kernel_rfl
        clear hA
        simp only [List.take_succ_cons, List.take_zero]
        refine .cons ?_ (.cons ?_ (.cons ?_ (.cons ?_ (.cons ?_ (.cons ?_ (.cons ?_ (.cons ?_ (.cons ?_ (.cons ?_ (.cons ?_ (.cons ?_ (.cons ?_ (.cons ?_ (.cons ?_ (.cons ?_ (.cons ?_ (.cons ?_ (.nil))))))))))))))))))
        · exact gd_gen (by kernel_rfl) (Want.none_ rfl) rfl (fun D u w v h => by simpa [updB, upd] using h) (fun D u ρ w kn => by
            have e0 := kn.own 0 (c := .slice A0 bs.length c0) (by kernel_rfl) ea0
            simp [execOp, kn.rho.con, e0, go_sem])
        · exact gd_gen (by kernel_rfl) (Want.none_ rfl) rfl (fun D u w v h => by simpa [updB, upd] using h) (fun D u ρ w kn => by
            have e0 := kn.own 12 (c := .slice (some ⟨b6, o6, none⟩) ws.length dB) (by kernel_rfl) ea12
            simp [execOp, kn.rho.con, e0, go_sem])
        · exact gd_gen (by kernel_rfl) (Want.none_ rfl) rfl (fun D u w v h => by simpa [updB, upd] using h) (fun D u ρ w kn => by
            have e0 := kn.own 14 (c := .slice (some ⟨go, 0, none⟩) ws.length co) (by kernel_rfl) ea14
            simp [execOp, kn.rho.con, e0, go_sem])
        · exact gd_gen (by kernel_rfl) (Want.none_ rfl) rfl (fun D u w v h => by simpa [updB, upd] using h) (fun D u ρ w kn => by
            have e0 := kn.own 15 (c := .slice (some ⟨gh, 0, none⟩) ws.length ch) (by kernel_rfl) ea15
            simp [execOp, kn.rho.con, e0, go_sem])
        · exact gd_gen (by kernel_rfl) (Want.none_ rfl) rfl (fun D u w v h => by simpa [updB, upd] using h) (fun D u ρ w kn => by
            have e0 := kn.own 12 (c := .slice (some ⟨b6, o6, none⟩) ws.length dB) (by kernel_rfl) ea12
            simp [execOp, kn.rho.con, e0, go_sem])
        · exact gd_gen (by kernel_rfl) (Want.none_ rfl) rfl (fun D u w v h => by simpa [updB, upd] using h) (fun D u ρ w kn => by
            have e0 := kn.own 3 (c := .int .i64 (at_)) (by kernel_rfl) ea3
            simp [execOp, kn.rho.con, e0, go_sem])
        · exact gd_gen (by kernel_rfl) (Want.none_ rfl) rfl (fun D u w v h => by simpa [updB, upd] using h) (fun D u ρ w kn => by
            have e0 := kn.own 12 (c := .slice (some ⟨b6, o6, none⟩) ws.length dB) (by kernel_rfl) ea12
            simp [execOp, kn.rho.con, e0, go_sem])
        · exact gd_gen (by kernel_rfl) (Want.none_ rfl) rfl (fun D u w v h => by simpa [updB, upd] using h) (fun D u ρ w kn => by
            have e0 := kn.con 6 76 (c := .slice (some ⟨b6, o6, none⟩) ws.length dB) (by kernel_rfl) (by omega) (by kernel_rfl) rfl
            simp [execOp, kn.rho.con, e0, go_sem])
        · refine gd_call (by kernel_rfl) (Want.none_ rfl) 14 (fun D u ρ wx kn hD => ?_)
          have e0 := kn.con 5 75 (c := .int .i64 (at_)) (by kernel_rfl) (by omega) (by kernel_rfl) rfl
          have e1 := kn.con 7 77 (c := .int .i64 ((ws.length : Int))) (by kernel_rfl) (by omega) (by kernel_rfl) rfl
          refine ⟨#[.int .i64 at_, .int .i64 (ws.length : Int)], ?_, (mod_is at_ ws.length wx hwp (by omega)).mono ?_⟩
          · simp only [execOp, resolve, Deferred.ofValue, List.map_toArray, List.map_cons, List.map_nil, e0, e1, kn.rho.con, kn.rho.fn]
            simp [go_sem]
          · rintro e w' ⟨rfl, rfl⟩
            exact ⟨_, rfl, (fun c h => by injection h with h; injection h with h; rw [← h, HME.out]), by simpa [updB, upd] using kn.ext⟩
        · exact gd_gen (by kernel_rfl) (Want.none_ rfl) rfl (fun D u w v h => by simpa [updB, upd] using h) (fun D u ρ w kn => by
            have e0 := kn.con 4 74 (c := .slice (some ⟨b6, o6, none⟩) ws.length dB) (by kernel_rfl) (by omega) (by kernel_rfl) rfl
            have e1 := kn.con 8 78 (c := .int .i64 ((m : Int))) (by kernel_rfl) (by omega) (by kernel_rfl) rfl
            simp [execOp, kn.rho.con, e0, e1, go_sem, hmi])
        · exact gd_gen (by kernel_rfl) (Want.none_ rfl) rfl (fun D u w v h => by simpa [updB, upd] using h) (fun D u ρ w kn => by
            have e0 := kn.own 12 (c := .slice (some ⟨b6, o6, none⟩) ws.length dB) (by kernel_rfl) ea12
            simp [execOp, kn.rho.con, e0, go_sem])
        · exact gd_gen (by kernel_rfl) (Want.none_ rfl) rfl (fun D u w v h => by simpa [updB, upd] using h) (fun D u ρ w kn => by
            have e0 := kn.own 12 (c := .slice (some ⟨b6, o6, none⟩) ws.length dB) (by kernel_rfl) ea12
            simp [execOp, kn.rho.con, e0, go_sem])
        · exact gd_gen (by kernel_rfl) (Want.none_ rfl) rfl (fun D u w v h => by simpa [updB, upd] using h) (fun D u ρ w kn => by
            have e0 := kn.con 11 81 (c := .slice (some ⟨b6, o6, none⟩) ws.length dB) (by kernel_rfl) (by omega) (by kernel_rfl) rfl
            simp [execOp, kn.rho.con, e0, go_sem])
        · exact gd_gen (by kernel_rfl) (Want.none_ rfl) rfl (fun D u w v h => by simpa [updB, upd] using h) (fun D u ρ w kn => by
            have e0 := kn.own 12 (c := .slice (some ⟨b6, o6, none⟩) ws.length dB) (by kernel_rfl) ea12
            simp [execOp, kn.rho.con, e0, go_sem])
        · exact gd_gen (by kernel_rfl) (Want.none_ rfl) rfl (fun D u w v h => by simpa [updB, upd] using h) (fun D u ρ w kn => by
            have e0 := kn.con 13 83 (c := .slice (some ⟨b6, o6, none⟩) ws.length dB) (by kernel_rfl) (by omega) (by kernel_rfl) rfl
            simp [execOp, kn.rho.con, e0, go_sem])
        · exact gd_gen (by kernel_rfl) (Want.none_ rfl) rfl (fun D u w v h => by simpa [updB, upd] using h) (fun D u ρ w kn => by
            have e0 := kn.con 10 80 (c := .slice (some ⟨b6, o6, none⟩) ws.length dB) (by kernel_rfl) (by omega) (by kernel_rfl) rfl
            have e1 := kn.con 12 82 (c := .int .i64 ((ws.length : Int))) (by kernel_rfl) (by omega) (by kernel_rfl) rfl
            have e2 := kn.con 14 84 (c := .int .i64 ((ws.length : Int))) (by kernel_rfl) (by omega) (by kernel_rfl) rfl
            simp [execOp, kn.rho.con, e0, e1, e2, go_sem, HWD.out])
        · refine gd_eff (by kernel_rfl) (Want.none_ rfl) (fun D u ρ wx kn hD => ?_)
          obtain ⟨x1, x2, x3⟩ := kn.ext
          exact ⟨.slice (some ⟨wx.heap.size, 0, none⟩) 1 1, wx.alloc (.cells #[.int .u8 0] 5), by simp [execOp, kn.rho.con, go_sem], (fun c h => by injection h with h; cases h), only_alloc x1 _, fun _ => ⟨wx.heap.size, upd_at _ _ _, Blk.new _ _ _⟩, fun h => by
            rw [updB_ne D (by omega)] at h
            rw [upd_ne _ _ (by omega)]
            exact (x3 h).gr (only_alloc (only_refl _ _) _)⟩
        · refine gd_eff (by kernel_rfl) (Want.none_ rfl) (fun D u ρ wx kn hD => ?_)
          have e0 := kn.con 15 85 (c := .slice (some ⟨b6, o6, none⟩) ws.length ws.length) (by kernel_rfl) (by omega) (by kernel_rfl) rfl
          have e1 := kn.slot 16 86 (by kernel_rfl) (by omega)
          have d16 := kn.dep 16 (by kernel_rfl)
          obtain ⟨x1, x2, x3⟩ := kn.ext
          obtain ⟨a, ha, hab⟩ := x2 d16
          rw [ha] at e1
          obtain ⟨i0, hi0, hz0, hz1, hz2⟩ := info_parts byteInfo
          obtain ⟨v', w', hr, hown, hg'⟩ := run_append_arg_grows (P := Tryz.prog) wx 22 22 5 i0 _ 1 1 Tryz.underlying22 hi0 hz0 hz1 hz2 rfl (by decide) ⟨b6, o6, none⟩ ws.length ws.length (ws.map (.int .u8)) (by simp) (C9b.out wx x1) ⟨a, 0, none⟩ 1 1 [.int .u8 0] rfl (rd_cells hab.rd1) (by omega) (by unfold maxLen; omega) (by omega)
          refine ⟨v', w', exec_append rfl e0 e1 hr, (fun c h => by injection h with h; cases h), only_trans x1 hg', fun h => ?_, fun h => ?_⟩
          · rw [updB_ne D (by omega)] at h
            rw [upd_ne _ _ (by omega)]
            exact ⟨a, ha, hab.grown hg' (by simp)⟩
          · rw [upd_at]
            exact snocBRG hown HIN.out hge (by omega) (Nat.lt_of_lt_of_le hg9 x1.size)
      · intro D u wd hJ hD
        obtain ⟨hc, x1, -, x3⟩ := hJ
        have hv := x3 (hD 17 (by decide))
        simp only [List.take_succ_cons, List.take_zero, List.drop_succ_cons, List.drop_zero, putAll]
        rw [show u 0 = .slice A0 bs.length c0 from hc 0 _ rfl (hD 0 (by decide)), show u 1 = .slice (some ⟨b6, o6, none⟩) ws.length dB from hc 1 _ rfl (hD 1 (by decide)), show u 2 = .slice (some ⟨go, 0, none⟩) ws.length co from hc 2 _ rfl (hD 2 (by decide)), show u 3 = .slice (some ⟨gh, 0, none⟩) ws.length ch from hc 3 _ rfl (hD 3 (by decide)), show u 9 = .slice (some ⟨b6, o6, none⟩) m dB from hc 9 _ rfl (hD 9 (by decide))]
        obtain ⟨vA, hvA⟩ : ∃ v, v = u 17 := ⟨_, rfl⟩
        rw [← hvA] at hv ⊢
        obtain ⟨AA, nA, cA, hvs⟩ : ∃ A n c, vA = .slice A n c := by
          obtain ⟨A, q, c, h, -⟩ := hv
          exact ⟨A, _, c, h⟩
        rw [hvs] at hv ⊢
        clear hc hD x3 hvA hvs vA
        go_simp
        go_wp2_with fail
        go_meet
        exact ⟨wd.heap.size, _, rfl, Nat.lt_of_lt_of_le hg9 x1.size, Blk.new _ _ _, hv.gr (only_alloc (only_refl _ _) _), only_alloc x1 _⟩
    case rest =>
      obtain ⟨lb, vA, rfl, hglb, hB, hA, hgc⟩ := hcut
      have HB := Lib.hid hB
      have GC := Lib.hid (only_trans G9w.out hgc)
      have CC := Lib.hid (C9.out.grown hgc (by simp))
      have L0 : Hid (BRG g wc (.slice A0 bs.length c0)) := Lib.hid ⟨A0, bs, c0, rfl, HV9.out.grown hgc (by simp), hvc, hcv', by omega, InH.of HBX.out⟩
      have L1 : Hid (BRG g wc (.slice (some ⟨b6, o6, none⟩) ws.length dB)) := Lib.hid ⟨_, ws, dB, rfl, R9.out.grown hgc (by simp), hwd, hdm', by omega, HIN.out⟩
      have L2 := Lib.hid (BR19.out.gr hgc)
      have L3 := Lib.hid (BR2.out.gr hgc)
      have L4 : Hid (BRG g wc (.slice (some ⟨b6, o6, none⟩) m dB)) := Lib.hid (by
        refine ⟨_, ws.take m, dB, by rw [List.length_take]; congr 1; omega, ?_, by rw [List.length_take]; omega, hdm', by rw [List.length_take]; omega, HIN.out.take m⟩
        have := (R9.out.grown hgc (by simp)).take m
        rw [← List.map_take] at this; exact this)
      have L5 := Lib.hid hA
      have HKEY : Hid (∀ k, k < 6 → ∃ AU zs cu, (#[.slice A0 bs.length c0, .slice (some ⟨b6, o6, none⟩) ws.length dB, .slice (some ⟨go, 0, none⟩) ws.length co, .slice (some ⟨gh, 0, none⟩) ws.length ch, .slice (some ⟨b6, o6, none⟩) m dB, vA] : Array Value)[k]? = some (.slice AU (List.length zs) cu) ∧ Rd (· ≠ g) wc AU (zs.map (.int .u8)) ∧ zs.length ≤ cu ∧ cu ≤ 9223372036854775807 ∧ zs.length ≤ 9000000 ∧ InH zs) := Lib.hid (fun k hk => by
        have key : ∀ v, BRG g wc v → ∃ AU zs cu, some v = some (.slice AU (List.length zs) cu) ∧ Rd (· ≠ g) wc AU (zs.map (.int .u8)) ∧ zs.length ≤ cu ∧ cu ≤ 9223372036854775807 ∧ zs.length ≤ 9000000 ∧ InH zs := fun v ⟨AU, zs, cu, h1, h2⟩ => ⟨AU, zs, cu, by rw [h1], h2⟩
        rcases k with _ | _ | _ | _ | _ | _ | k
        · exact key _ L0.out
        · exact key _ L1.out
        · exact key _ L2.out
        · exact key _ L3.out
        · exact key _ L4.out
        · exact key _ L5.out
        · omega)
      have hgc2 : g < wc.heap.size := CC.out.lt
      clear hB hA hgc L0 L1 L2 L3 L4 L5 BR19 BR2 R9 HV9 HWD hmi hji hjh C9b HME HIN HBX hvc hcv' hdm' hwd
      go_wp2_with fail
      go_loopw [17] (fun vk wr => ∃ k kc : Nat, k ≤ 6 ∧ vk = .int .i64 k ∧ CodesAt wr g l kc ∧ wc.grownBy wr (some g)) (fun vk _ => 6 - (intOf vk).toNat)
      case atStart => exact ⟨0, k8, by omega, rfl, CC.out, only_refl _ _⟩
      case round =>
        obtain ⟨k, kc, hk, rfl, hcd, hgr⟩ := hrel
        have GR := Lib.hid hgr
        have CR := Lib.hid hcd
        by_cases hk6 : k < 6
        · obtain ⟨AU, zs, cu, hu, hru, hzc, hcum, hzl, hzi⟩ := HKEY.out k hk6
          have HRK : Hid (∀ W', wc.grownBy W' (some g) → Rd (· ≠ g) W' AU (zs.map (.int .u8))) := Lib.hid (fun W' hW' => hru.grown hW' ne_some)
          have HBK : Hid (∀ W', wc.grownBy W' (some g) → W'.cell? ⟨lb, k, none⟩ = some (.slice AU zs.length cu)) := Lib.hid (fun W' hW' => ((HB.out.grown hW' (fun e => by (have e' : lb = g := (by injection e)); omega)).cell k).trans hu)
          have HZI := Lib.hid hzi
          have hcu := HBK.out _ hgr
          obtain ⟨x, y, z, hV⟩ := sumV_three zs
          obtain ⟨E, hE⟩ : ∃ E, errS zs = E := ⟨_, rfl⟩
          have HV := Lib.hid hV
          have HE := Lib.hid hE
          have hi6 : (k : Int) < 6 := by omega
          have hdl := damL_len zs
          clear hu hru hzi hgr hcd hV hE
          go_upto_region 13 with (go_at_call 16; refine (ssummary_any AU zs cu _ (HRK.out _ GR.out) HZI.out (by omega) hzc hcum).mono ?_; rintro e w12 ⟨rfl, hg12⟩; rw [HV.out, HE.out]; have GA := Lib.hid hg12; clear hg12)
          obtain ⟨W12, hW12⟩ : ∃ W, W = w12.alloc (.cells #[.int .i64 x, .int .i64 y, .int .i64 z] 43) := ⟨_, rfl⟩
          obtain ⟨sa, hsa⟩ : ∃ s, s = w12.heap.size := ⟨_, rfl⟩
          have BA : Hid (Blk W12 sa 43 #[.int .i64 x, .int .i64 y, .int .i64 z]) := Lib.hid (by rw [hW12, hsa]; exact Blk.new _ _ _)
          have GA2 : Hid (wr.grownBy W12 none) := Lib.hid (by rw [hW12]; exact only_alloc GA.out _)
          rw [← hW12, ← hsa]
          clear hW12 hsa GA hcu
          have hcu := HBK.out _ (only_trans GR.out (only_of_none GA2.out _))
          go_upto_region 14 with (go_at_call 17; refine (rsummary_any AU zs cu _ (HRK.out _ (only_trans GR.out (only_of_none GA2.out _))) HZI.out (by omega) hzc hcum).mono ?_; rintro e w13 ⟨rfl, hg13⟩; rw [HV.out, HE.out]; have GB := Lib.hid hg13; clear hg13)
          obtain ⟨W13, hW13⟩ : ∃ W, W = w13.alloc (.cells #[.int .i64 x, .int .i64 y, .int .i64 z] 43) := ⟨_, rfl⟩
          obtain ⟨sb, hsb⟩ : ∃ s, s = w13.heap.size := ⟨_, rfl⟩
          have BB : Hid (Blk W13 sb 43 #[.int .i64 x, .int .i64 y, .int .i64 z]) := Lib.hid (by rw [hW13, hsb]; exact Blk.new _ _ _)
          have BA3 : Hid (Blk W13 sa 43 #[.int .i64 x, .int .i64 y, .int .i64 z]) := Lib.hid (by rw [hW13]; exact (BA.out.grown GB.out (by simp)).alloc _)
          have GB2 : Hid (wr.grownBy W13 none) := Lib.hid (by rw [hW13]; exact only_alloc (only_trans GA2.out GB.out) _)
          rw [← hW13, ← hsb]
          clear hW13 hsb GB BA hcu
          have hcu := HBK.out _ (only_trans GR.out (only_of_none GB2.out _))
          go_upto_region 15 with (go_at_call 18; refine (sdamaged_any AU zs cu _ (HRK.out _ (only_trans GR.out (only_of_none GB2.out _))) HZI.out (by omega) hzc hcum).mono ?_; rintro e w14 ⟨D1, e1, rfl, hd1, hg14⟩; rw [HE.out]; have HD1 := Lib.hid hd1; have GD := Lib.hid hg14; clear hg14 hd1)
          have GD2 := Lib.hid (only_trans GB2.out GD.out)
          clear hcu
          have hcu := HBK.out _ (only_trans GR.out (only_of_none GD2.out _))
          go_upto_region 16 with (go_at_call 19; refine (rdamaged_any AU zs cu _ (HRK.out _ (only_trans GR.out (only_of_none GD2.out _))) HZI.out (by omega) hzc hcum).mono ?_; rintro e w15 ⟨D2, e2, rfl, hd2, hg15⟩; rw [HE.out]; have HD2 := Lib.hid hd2; have GE := Lib.hid hg15; clear hg15 hd2)
          have GE2 := Lib.hid (only_trans GD2.out GE.out)
          have BA5 := Lib.hid ((BA3.out.grown GD.out (by simp)).grown GE.out (by simp))
          have BB5 := Lib.hid ((BB.out.grown GD.out (by simp)).grown GE.out (by simp))
          have HD1b := Lib.hid (HD1.out.grown GE.out (by simp))
          clear BA3 BB HD1 hcu
          have s0 := BA5.out.cell 0; have s1 := BA5.out.cell 1; have s2 := BA5.out.cell 2
          have t0 := BB5.out.cell 0; have t1 := BB5.out.cell 1; have t2 := BB5.out.cell 2
          simp at s0 s1 s2 t0 t1 t2
          obtain ⟨dl, hdlE⟩ : ∃ x, x = damL zs := ⟨_, rfl⟩
          rw [← hdlE] at HD1b HD2 hdl
          have KSI := Lib.hid (sameints_any D1 D2 dl dl e1 e2 w15 HD1b.out HD2.out (by omega) (by omega) true (by simp))
          rw [← hdlE]
          clear hdlE
          go_upto_region 18 with (go_at_call 20; refine KSI.out.mono ?_; rintro e w16 ⟨rfl, n16, rfl⟩)
          have C16 : Hid (CodesAt (w15.drewN n16) g l kc) := Lib.hid ((CR.out.grown GE2.out (by simp)).drewN n16)
          have GX : Hid (wc.grownBy (w15.drewN n16) (some g)) := Lib.hid (only_drewN (only_trans GR.out (only_of_none GE2.out _)) n16)
          clear BA5 BB5 HD1b HD2 KSI s0 s1 s2 t0 t1 t2 GE GD GA2 GB2 GD2 GE2 CR GR
          obtain ⟨w16, hw16⟩ : ∃ x, x = w15.drewN n16 := ⟨_, rfl⟩
          rw [← hw16] at C16 GX ⊢
          clear hw16
          go_upto_region 19 with (go_at_call 15; refine (next_some g l kc 12 w16 C16.out (by decide) (by decide)).mono ?_; rintro e w17 ⟨v17, k17, rfl, ⟨hv0, hv1⟩, hc17, hg17⟩; obtain ⟨n17, rfl⟩ : ∃ n : Nat, v17 = n := ⟨v17.toNat, by omega⟩; have C17 := Lib.hid hc17; have G17 := Lib.hid (only_trans GX.out hg17); clear hc17 hg17)
          obtain ⟨W18, hW18⟩ : ∃ W, W = w17.alloc (.cells #[.int .i64 kind, .int .i64 (1 + (n17 : Int))] 3) := ⟨_, rfl⟩
          obtain ⟨lk, hlk⟩ : ∃ s, s = w17.heap.size := ⟨_, rfl⟩
          have BK : Hid (Blk W18 lk 3 #[.int .i64 kind, .int .i64 (1 + (n17 : Int))]) := Lib.hid (by rw [hW18, hlk]; exact Blk.new _ _ _)
          have G18 : Hid (wc.grownBy W18 (some g)) := Lib.hid (by rw [hW18]; exact only_alloc G17.out _)
          have C18 : Hid (CodesAt W18 g l k17) := Lib.hid (by rw [hW18]; exact C17.out.alloc _)
          rw [← hW18, ← hlk]
          clear hW18 hlk C17 G17 C16 GX
          go_loopw [152] (fun vj wx => ∃ j : Nat, j ≤ 2 ∧ vj = .int .i64 j ∧ W18.grownBy wx none) (fun vj _ => 2 - (intOf vj).toNat)
          case atStart => exact ⟨0, by omega, rfl, only_refl _ _⟩
          case round =>
            obtain ⟨j, hj, rfl, hgx⟩ := hrel
            have GX := Lib.hid hgx
            by_cases hj2 : j < 2
            · have ij2 : (j : Int) < 2 := by omega
              obtain ⟨kd, hkd⟩ : ∃ kd : Int, wr.cell? ⟨lk, j, none⟩ = some (.int .i64 kd) := by
                rw [(BK.out.grown hgx (by simp)).cell j]
                rcases j with _ | _ | j
                · exact ⟨_, rfl⟩
                · exact ⟨_, rfl⟩
                · omega
              have hcu := HBK.out _ (only_trans G18.out (only_of_none hgx _))
              obtain ⟨F, hF⟩ : ∃ F, secE zs kd = F := ⟨_, rfl⟩
              obtain ⟨YL, hYL⟩ : ∃ Y, secY zs kd = Y := ⟨_, rfl⟩
              have hyl : YL.length ≤ 9000000 := by rw [← hYL]; exact Nat.le_trans (secY_len zs kd) hzl
              have HF := Lib.hid hF
              have HY := Lib.hid hYL
              clear hF hYL hgx
              go_upto_region 22 with (go_at_call 21; refine (ssection_any AU zs cu kd _ (HRK.out _ (only_trans G18.out (only_of_none GX.out _))) HZI.out (by omega) hzc hcum).mono ?_; rintro e w21 ⟨A21, c21, rfl, hr21, hg21⟩; rw [HF.out]; rw [HY.out] at hr21 ⊢; have R21 := Lib.hid hr21; have G21 := Lib.hid hg21; clear hr21 hg21)
              have GX2 := Lib.hid (only_trans GX.out G21.out)
              clear hcu
              have hcu := HBK.out _ (only_trans G18.out (only_of_none GX2.out _))
              go_upto_region 23 with (go_at_call 22; refine (rsection_any AU zs cu kd _ (HRK.out _ (only_trans G18.out (only_of_none GX2.out _))) HZI.out (by omega) hzc hcum).mono ?_; rintro e w22 ⟨A22, c22, rfl, hr22, hg22⟩; rw [HF.out]; rw [HY.out] at hr22 ⊢; have R22 := Lib.hid hr22; have G22 := Lib.hid hg22; clear hr22 hg22)
              have GX3 := Lib.hid (only_trans GX2.out G22.out)
              have KSB := Lib.hid (samebytes_any A21 A22 YL YL c21 c22 w22 (R21.out.grown G22.out (by simp)) R22.out (by omega) (by omega) true (by simp))
              clear hcu
              go_wp2_with (go_at_call 23; refine KSB.out.mono ?_; rintro e w23 ⟨rfl, n23, rfl⟩)
              go_roundw
              case rel => exact ⟨j + 1, by omega, by go_num, only_drewN GX3.out _⟩
              case measure => simp [intOf]; omega
            · obtain rfl : j = 2 := by omega
              clear hgx
              go_wp2_with fail
              go_roundw
              case rel => exact ⟨k + 1, k17, by omega, by go_num, C18.out.grown GX.out (by simp), only_trans G18.out (only_of_none GX.out _)⟩
              case measure => simp [intOf]; omega
        · obtain rfl : k = 6 := by omega
          go_wp2_with fail
          go_ret
          exact ⟨rfl, only_fresh GC.out GR.out hwg2⟩
end Go.Proofs.YtodaabofpkafjaaGreat
