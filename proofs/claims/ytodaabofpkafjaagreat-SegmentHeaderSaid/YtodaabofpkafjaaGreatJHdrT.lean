/- right of the reference of chapter 27. Conditions: sizes, bytes, a header that is right. -/
import Derived.Test.YtodaabofpkafjaaGreatJHdrS
import Derived.Test.YtodaabofpkafjaaGreatJPutF
import Derived.Test.YtodaabofpkafjaaGreatJFilA
namespace Go.Proofs.YtodaabofpkafjaaGreat
open Go.RowKit
set_option linter.unusedVariables false
set_option linter.unusedSimpArgs false

theorem sec_in {bs : List Int} (h : errS bs = 0) {k : Nat} (hk1 : 1 ≤ k) (hk : k ≤ 12) : offH bs (k - 1) + lenH bs k ≤ bs.length := by
  obtain ⟨j, rfl⟩ : ∃ j, k = j + 1 := ⟨k - 1, by omega⟩
  have h1 := offH_mono bs (i := j + 1) (j := 12) hk
  have h2 := (errS_ok h).2.2.2
  simp only [offH] at h1
  rw [Nat.add_sub_cancel]
  simp only [offH] at h2
  omega
theorem sec_len {bs : List Int} (h : errS bs = 0) {k : Nat} (hk1 : 1 ≤ k) (hk : k ≤ 12) : (secH bs k).length = lenH bs k := cutB_len (sec_in h hk1 hk)
theorem off_ge (bs : List Int) (k : Nat) : 124 ≤ offH bs k := offH_mono bs (i := 0) (Nat.zero_le k)
theorem sec_rd {S : Nat → Prop} {w : World} {b off c : Nat} {bs : List Int} (h : Rd S w (some ⟨b, off, none⟩) (bs.map (.int .u8))) (k : Nat) : Rd S w (some ⟨b, off + offH bs (k - 1), none⟩) ((secH bs k).map (.int .u8)) := cutB_rd h _ _
theorem sec_rd0 {S : Nat → Prop} {w : World} {A : Option Addr} {bs : List Int} {k : Nat} (h : bs.length ≤ offH bs (k - 1)) : Rd S w A ((secH bs k).map (.int .u8)) := by
  rw [show secH bs k = [] from by unfold secH cutB; rw [List.drop_of_length_le h]; simp]
  exact Rd.nil
def BoolExtH (v : Bool) (w : World) (e : Ending) (w' : World) : Prop := e = .returned (.bool v) ∧ w.grownBy w' none
set_option maxHeartbeats 2000000 in
set_option maxRecDepth 100000 in
theorem right27_at {S : Nat → Prop} (b off c : Nat) (bs : List Int) (k : Nat) (w : World) (hr : Rd S w (some ⟨b, off, none⟩) (bs.map (.int .u8))) (hi : InH bs) (he : errS bs = 0) (hl : bs.length ≤ 10000000) (hc : bs.length ≤ c) (hm : c ≤ 9223372036854775807) (hk1 : 1 ≤ k) (hk : k ≤ 12) :
    Calls Tryz.prog 38 #[.slice (some ⟨b, off, none⟩) bs.length c, .int .i64 k] w (BoolExtH (rightH bs k) w) := by
  have HR := Lib.hid hr
  have HI := Lib.hid hi
  have l124 : 124 ≤ bs.length := (errS_ok he).1
  have KP := Lib.hid (place_at b off c bs k w hr hi l124 hc hm hk1 hk)
  have KG := Lib.hid (fun (w' : World) (hg : w.grownBy w' none) (c : Nat) => rget_cut (w := w') (hr.grown hg (by simp)) hi (20 + 8 * k) 4 c (by omega) (by omega) (by decide))
  have hin := sec_in he hk1 hk
  have hog := off_ge bs (k - 1)
  have HSL := Lib.hid (sec_len he hk1 hk)
  have hcl := crcH_lt hi hk l124
  have KC := Lib.hid (fun (A : Option Addr) (w' : World) (c : Nat) (hA : Rd S w' A ((secH bs k).map (.int .u8))) => crc_any A (secH bs k) c w' hA (by rw [sec_len he hk1 hk]; omega))
  have hcc : crcN (secH bs k) < 4294967296 := crcN_lt _
  have HV : Hid (∀ V, V = (crcH bs k == crcN (secH bs k)) → V = rightH bs k) := Lib.hid (fun V h => h)
  have HON : Hid (offH bs (k - 1) = offH bs (k - 1)) := Lib.hid rfl
  have HR1 : Hid (∀ w', w.grownBy w' none → Rd S w' (some ⟨b, off + offH bs (k - 1), none⟩) ((secH bs k).map (.int .u8))) := Lib.hid (fun w' hg => sec_rd (c := c) (hr.grown hg (by simp)) k)
  have HR0 : Hid (bs.length ≤ offH bs (k - 1) → ∀ w' A, Rd S w' A ((secH bs k).map (.int .u8))) := Lib.hid (fun h w' A => sec_rd0 h)
  rw [show cutN bs (20 + 8 * k) 4 = crcH bs k from rfl] at KG
  rw [HSL.out] at KC
  obtain ⟨on, hon⟩ : ∃ g, g = offH bs (k - 1) := ⟨_, rfl⟩
  obtain ⟨ln, hln⟩ : ∃ g, g = lenH bs k := ⟨_, rfl⟩
  obtain ⟨gc, hgc⟩ : ∃ g, g = crcH bs k := ⟨_, rfl⟩
  obtain ⟨cc, hcn⟩ : ∃ g, g = crcN (secH bs k) := ⟨_, rfl⟩
  obtain ⟨RH, hRH⟩ : ∃ g, g = rightH bs k := ⟨_, rfl⟩
  rw [← hon, ← hln] at KP hin
  rw [← hon] at hog HR1 HR0
  rw [← hln, ← hcn] at KC
  rw [← hgc] at KG hcl
  rw [← hcn] at hcc
  rw [← hgc, ← hcn, ← hRH] at HV
  rw [← hRH]
  clear hr hi he hon hln hgc hcn hRH HSL HON
  have hg4 : gc < 4294967296 := hcl
  obtain ⟨p, hp⟩ : ∃ p, p = 20 + 8 * k := ⟨_, rfl⟩
  obtain ⟨q, hq⟩ : ∃ q, q = 24 + 8 * k := ⟨_, rfl⟩
  obtain ⟨z, hz⟩ : ∃ z, z = on + ln := ⟨_, rfl⟩
  rw [← hp] at KG
  obtain ⟨k8, hk8⟩ : ∃ z, z = 8 * k := ⟨_, rfl⟩
  have w1 : IntKind.i64.wrap (8 * (k : Int)) = (k8 : Int) := by rw [show 8 * (k : Int) = (k8 : Int) by omega]; exact IntWalk.i64_in _ (by omega)
  have w2 : IntKind.i64.wrap (20 + (k8 : Int)) = (p : Int) := by rw [show 20 + (k8 : Int) = (p : Int) by omega]; exact IntWalk.i64_in _ (by omega)
  have w3 : IntKind.i64.wrap (24 + (k8 : Int)) = (q : Int) := by rw [show 24 + (k8 : Int) = (q : Int) by omega]; exact IntWalk.i64_in _ (by omega)
  have w4 : IntKind.i64.wrap ((on : Int) + (ln : Int)) = (z : Int) := by rw [show (on : Int) + (ln : Int) = (z : Int) by omega]; exact IntWalk.i64_in _ (by omega)
  have w5 : IntKind.u64.wrap (cc : Int) = (cc : Int) := IntWalk.u64_in _ (by omega)
  have w6 : ((gc : Int) == (cc : Int)) = RH := by
    refine HV.out _ ?_
    by_cases h : gc = cc
    · rw [h, beq_self_eq_true, beq_self_eq_true]
    · rw [beq_eq_false_iff_ne.2 (show (gc : Int) ≠ (cc : Int) by omega), beq_eq_false_iff_ne.2 h]
  have n1 : (p : Int) ≤ (q : Int) := by omega
  have n2 : (q : Int) ≤ (c : Int) := by omega
  have n3 : (on : Int) ≤ (z : Int) := by omega
  have n4 : (z : Int) ≤ (c : Int) := by omega
  have n5 : q - p = 4 := by omega
  have n6 : z - on = ln := by omega
  have n7 : p ≤ q := by omega
  have n8 : q ≤ c := by omega
  have n9 : on ≤ z := by omega
  have n10 : z ≤ c := by omega
  have n11 : c ≠ p := by omega
  have n12 : p ≠ 0 := by omega
  have n13 : on ≠ 0 := by omega
  have HZ : Hid (c = on → bs.length ≤ on) := Lib.hid (fun h => by omega)
  have N := Lib.hid (And.intro n1 (And.intro n2 (And.intro n3 (And.intro n4 (And.intro n5 (And.intro n6 (And.intro n7 (And.intro n8 (And.intro n9 (And.intro n10 (And.intro n11 (And.intro n12 n13))))))))))))
  have W6 := Lib.hid w6
  have W5 := Lib.hid w5
  have W4 := Lib.hid w4
  have W3 := Lib.hid w3
  have W2 := Lib.hid w2
  have W1 := Lib.hid w1
  clear hk8 w1 w2 w3 w4 w5 w6 hp hq hz n1 n2 n3 n4 n5 n6 n7 n8 n9 n10 n11 n12 n13 hin hog
  obtain ⟨AS, hAS⟩ : ∃ A : Option Addr, A = if c = on then some ⟨b, off, none⟩ else some ⟨b, off + on, none⟩ := ⟨_, rfl⟩
  have HRS : Hid (∀ w', w.grownBy w' none → Rd S w' AS ((secH bs k).map (.int .u8))) := Lib.hid (fun n hg => by
    rw [hAS]
    split
    · exact HR0.out (HZ.out (by assumption)) n _
    · exact HR1.out n hg)
  have HAS := Lib.hid hAS
  clear hAS
  go_enter Tryz.func38, Tryz.ntmps38
  go_upto_region 2 with (go_at_call 37; refine KP.out.mono ?_; rintro e w2 ⟨rfl, hw2⟩; obtain rfl := hw2.symm)
  refine wp_region_gen 18 (JC [some (.slice (some ⟨b, off, none⟩) bs.length c), some (.int .i64 (k)), some (.int .i64 ((k8 : Int))), some (.int .i64 ((p : Int))), some (.int .i64 (k)), some (.int .i64 ((k8 : Int))), some (.int .i64 ((q : Int))), some (.slice (some ⟨b, off + p, none⟩) 4 (c - p)), some (.int .u64 (gc : Nat)), some (.slice (some ⟨b, off, none⟩) bs.length c), some (.int .i64 (on)), some (.int .i64 (on)), some (.int .i64 (ln)), some (.int .i64 ((z : Int))), some (.slice AS ln (c - on)), some (.int .u32 (cc : Nat)), some (.int .u64 (cc : Int)), some (.bool RH)] (fun D u wx => w.grownBy wx none)) (by kernel_rfl) (by kernel_rfl) ?_ ?_ ?_
  · intro u
    exact ⟨(fun j c _ h => by cases h), only_drew (only_refl _ _)⟩
  · intro AA hA
    have hasz : AA.tmps.size = 31 := by rw [hA]; kernel_rfl
    have ea0 : AA.eval (.tmp 0) = .slice (some ⟨b, off, none⟩) bs.length c := by rw [hA]; kernel_rfl
    have ea1 : AA.eval (.tmp 1) = .int .i64 (k) := by rw [hA]; kernel_rfl
    have ea5 : AA.eval (.tmp 5) = .int .i64 (on) := by rw [hA]; kernel_rfl
    have ea6 : AA.eval (.tmp 6) = .int .i64 (ln) := by rw [hA]; kernel_rfl
    clear hA
    simp only [List.take_succ_cons, List.take_zero]
    refine .cons ?_ (.cons ?_ (.cons ?_ (.cons ?_ (.cons ?_ (.cons ?_ (.cons ?_ (.cons ?_ (.cons ?_ (.cons ?_ (.cons ?_ (.cons ?_ (.cons ?_ (.cons ?_ (.cons ?_ (.cons ?_ (.cons ?_ (.cons ?_ (.nil))))))))))))))))))
    · exact gd_gen (by kernel_rfl) (Want.none_ rfl) rfl (fun D u w v h => by simpa [updB, upd] using h) (fun D u ρ w kn => by
        have e0 := kn.own 0 (c := .slice (some ⟨b, off, none⟩) bs.length c) (by kernel_rfl) ea0
        simp [execOp, kn.rho.con, e0, go_sem])
    · exact gd_gen (by kernel_rfl) (Want.none_ rfl) rfl (fun D u w v h => by simpa [updB, upd] using h) (fun D u ρ w kn => by
        have e0 := kn.own 1 (c := .int .i64 (k)) (by kernel_rfl) ea1
        simp [execOp, kn.rho.con, e0, go_sem])
    · exact gd_gen (by kernel_rfl) (Want.none_ rfl) rfl (fun D u w v h => by simpa [updB, upd] using h) (fun D u ρ w kn => by
        have e0 := kn.con 1 14 (c := .int .i64 (k)) (by kernel_rfl) (by omega) (by kernel_rfl) rfl
        simp [execOp, kn.rho.con, e0, go_sem, W1.out])
    · exact gd_gen (by kernel_rfl) (Want.none_ rfl) rfl (fun D u w v h => by simpa [updB, upd] using h) (fun D u ρ w kn => by
        have e0 := kn.con 2 15 (c := .int .i64 ((k8 : Int))) (by kernel_rfl) (by omega) (by kernel_rfl) rfl
        simp [execOp, kn.rho.con, e0, go_sem, W2.out])
    · exact gd_gen (by kernel_rfl) (Want.none_ rfl) rfl (fun D u w v h => by simpa [updB, upd] using h) (fun D u ρ w kn => by
        have e0 := kn.own 1 (c := .int .i64 (k)) (by kernel_rfl) ea1
        simp [execOp, kn.rho.con, e0, go_sem])
    · exact gd_gen (by kernel_rfl) (Want.none_ rfl) rfl (fun D u w v h => by simpa [updB, upd] using h) (fun D u ρ w kn => by
        have e0 := kn.con 4 17 (c := .int .i64 (k)) (by kernel_rfl) (by omega) (by kernel_rfl) rfl
        simp [execOp, kn.rho.con, e0, go_sem, W1.out])
    · exact gd_gen (by kernel_rfl) (Want.none_ rfl) rfl (fun D u w v h => by simpa [updB, upd] using h) (fun D u ρ w kn => by
        have e0 := kn.con 5 18 (c := .int .i64 ((k8 : Int))) (by kernel_rfl) (by omega) (by kernel_rfl) rfl
        simp [execOp, kn.rho.con, e0, go_sem, W3.out])
    · exact gd_gen (by kernel_rfl) (Want.none_ rfl) rfl (fun D u w v h => by simpa [updB, upd] using h) (fun D u ρ w kn => by
        have e0 := kn.con 0 13 (c := .slice (some ⟨b, off, none⟩) bs.length c) (by kernel_rfl) (by omega) (by kernel_rfl) rfl
        have e1 := kn.con 3 16 (c := .int .i64 ((p : Int))) (by kernel_rfl) (by omega) (by kernel_rfl) rfl
        have e2 := kn.con 6 19 (c := .int .i64 ((q : Int))) (by kernel_rfl) (by omega) (by kernel_rfl) rfl
        simp [execOp, kn.rho.con, e0, e1, e2, go_sem, N.out.1, N.out.2.1, N.out.2.2.2.2.1, N.out.2.2.2.2.2.2.1, N.out.2.2.2.2.2.2.2.1, N.out.2.2.2.2.2.2.2.2.2.2.1, N.out.2.2.2.2.2.2.2.2.2.2.2.1, Addr.add])
    · refine gd_call (by kernel_rfl) (Want.none_ rfl) 36 (fun D u ρ wx kn hD => ?_)
      have e0 := kn.con 7 20 (c := .slice (some ⟨b, off + p, none⟩) 4 (c - p)) (by kernel_rfl) (by omega) (by kernel_rfl) rfl
      refine ⟨#[.slice (some ⟨b, off + p, none⟩) 4 (c - p)], ?_, (KG.out wx kn.ext (c - p)).mono ?_⟩
      · simp only [execOp, resolve, Deferred.ofValue, List.map_toArray, List.map_cons, List.map_nil, e0, kn.rho.con, kn.rho.fn]
        simp [go_sem]
      · rintro e w' ⟨rfl, rfl⟩
        exact ⟨_, rfl, (fun c h => by injection h with h; injection h), kn.ext⟩
    · exact gd_gen (by kernel_rfl) (Want.none_ rfl) rfl (fun D u w v h => by simpa [updB, upd] using h) (fun D u ρ w kn => by
        have e0 := kn.own 0 (c := .slice (some ⟨b, off, none⟩) bs.length c) (by kernel_rfl) ea0
        simp [execOp, kn.rho.con, e0, go_sem])
    · exact gd_gen (by kernel_rfl) (Want.none_ rfl) rfl (fun D u w v h => by simpa [updB, upd] using h) (fun D u ρ w kn => by
        have e0 := kn.own 5 (c := .int .i64 (on)) (by kernel_rfl) ea5
        simp [execOp, kn.rho.con, e0, go_sem])
    · exact gd_gen (by kernel_rfl) (Want.none_ rfl) rfl (fun D u w v h => by simpa [updB, upd] using h) (fun D u ρ w kn => by
        have e0 := kn.own 5 (c := .int .i64 (on)) (by kernel_rfl) ea5
        simp [execOp, kn.rho.con, e0, go_sem])
    · exact gd_gen (by kernel_rfl) (Want.none_ rfl) rfl (fun D u w v h => by simpa [updB, upd] using h) (fun D u ρ w kn => by
        have e0 := kn.own 6 (c := .int .i64 (ln)) (by kernel_rfl) ea6
        simp [execOp, kn.rho.con, e0, go_sem])
    · exact gd_gen (by kernel_rfl) (Want.none_ rfl) rfl (fun D u w v h => by simpa [updB, upd] using h) (fun D u ρ w kn => by
        have e0 := kn.con 11 24 (c := .int .i64 (on)) (by kernel_rfl) (by omega) (by kernel_rfl) rfl
        have e1 := kn.con 12 25 (c := .int .i64 (ln)) (by kernel_rfl) (by omega) (by kernel_rfl) rfl
        simp [execOp, kn.rho.con, e0, e1, go_sem, W4.out])
    · exact gd_gen (by kernel_rfl) (Want.none_ rfl) rfl (fun D u w v h => by simpa [updB, upd] using h) (fun D u ρ w kn => by
        have e0 := kn.con 9 22 (c := .slice (some ⟨b, off, none⟩) bs.length c) (by kernel_rfl) (by omega) (by kernel_rfl) rfl
        have e1 := kn.con 10 23 (c := .int .i64 (on)) (by kernel_rfl) (by omega) (by kernel_rfl) rfl
        have e2 := kn.con 13 26 (c := .int .i64 ((z : Int))) (by kernel_rfl) (by omega) (by kernel_rfl) rfl
        simp [execOp, kn.rho.con, e0, e1, e2, go_sem, N.out.2.2.1, N.out.2.2.2.1, N.out.2.2.2.2.2.1, N.out.2.2.2.2.2.2.2.2.1, N.out.2.2.2.2.2.2.2.2.2.1, N.out.2.2.2.2.2.2.2.2.2.2.2.2, HAS.out, Addr.add])
    · refine gd_call (by kernel_rfl) (Want.none_ rfl) 13 (fun D u ρ wx kn hD => ?_)
      have e0 := kn.con 14 27 (c := .slice AS ln (c - on)) (by kernel_rfl) (by omega) (by kernel_rfl) rfl
      refine ⟨#[.slice AS ln (c - on)], ?_, (KC.out AS wx (c - on) (HRS.out wx kn.ext)).mono ?_⟩
      · simp only [execOp, resolve, Deferred.ofValue, List.map_toArray, List.map_cons, List.map_nil, e0, kn.rho.con, kn.rho.fn]
        simp [go_sem]
      · rintro e w' ⟨rfl, rfl⟩
        exact ⟨_, rfl, (fun c h => by injection h with h; injection h), kn.ext⟩
    · exact gd_gen (by kernel_rfl) (Want.none_ rfl) rfl (fun D u w v h => by simpa [updB, upd] using h) (fun D u ρ w kn => by
        have e0 := kn.con 15 28 (c := .int .u32 (cc : Nat)) (by kernel_rfl) (by omega) (by kernel_rfl) rfl
        simp [execOp, kn.rho.con, e0, go_sem, W5.out])
    · exact gd_gen (by kernel_rfl) (Want.none_ rfl) rfl (fun D u w v h => by simpa [updB, upd] using h) (fun D u ρ w kn => by
        have e0 := kn.con 8 21 (c := .int .u64 (gc : Nat)) (by kernel_rfl) (by omega) (by kernel_rfl) rfl
        have e1 := kn.con 16 29 (c := .int .u64 (cc : Int)) (by kernel_rfl) (by omega) (by kernel_rfl) rfl
        simp [execOp, kn.rho.con, e0, e1, go_sem, W6.out])
  · intro D u w3 hJ hD
    have hg3 : w.grownBy w3 none := hJ.2
    simp only [List.take_succ_cons, List.take_zero, List.drop_succ_cons, List.drop_zero, putAll]
    rw [show u 17 = .bool RH from hJ.1 17 _ rfl (hD 17 (by decide))]
    clear hJ hD
    go_wp2_with fail
    go_ret
    exact ⟨rfl, hg3⟩
end Go.Proofs.YtodaabofpkafjaaGreat

namespace Go.Proofs.YtodaabofpkafjaaGreat
open Go.RowKit
set_option linter.unusedVariables false
set_option linter.unusedSimpArgs false

/-- the error of section kind -/
def secE (bs : List Int) (kind : Int) : Nat := if kind < 1 ∨ 12 < kind then 2 else if errS bs ≠ 0 then errS bs else if rightH bs kind.toNat = true then 0 else 15
def secY (bs : List Int) (kind : Int) : List Int := if secE bs kind = 0 then secH bs kind.toNat else []
theorem secE_out {bs : List Int} {kind : Int} (h : kind < 1 ∨ 12 < kind) : secE bs kind = 2 := by unfold secE; rw [if_pos h]
theorem secE_err {bs : List Int} {kind : Int} {n : Nat} (h : 1 ≤ kind) (h2 : kind ≤ 12) (he : errS bs = n) (hn : n ≠ 0) : secE bs kind = n := by unfold secE; rw [if_neg (by omega), if_pos (by omega), he]
theorem secE_ok {bs : List Int} {k : Nat} (h : 1 ≤ k) (h2 : k ≤ 12) (he : errS bs = 0) : secE bs k = if rightH bs k = true then 0 else 15 := by unfold secE; rw [if_neg (by omega), if_neg (by omega), Int.toNat_natCast]
theorem secY_no {bs : List Int} {kind : Int} {n : Nat} (h : secE bs kind = n) (hn : n ≠ 0) : secY bs kind = [] := by unfold secY; rw [if_neg (by omega)]
theorem secY_yes {bs : List Int} {k : Nat} (h : secE bs k = 0) : secY bs k = secH bs k := by unfold secY; rw [if_pos h, Int.toNat_natCast]
def SecP (w : World) (bs : List Int) (kind : Int) (e : Ending) (w' : World) : Prop := ∃ A c, e = .returned (.tuple #[.slice A (secY bs kind).length c, .int .i64 (secE bs kind : Nat)]) ∧ Rd (w.heap.size ≤ ·) w' A ((secY bs kind).map (.int .u8)) ∧ w.grownBy w' none
theorem SecP.no {w w' : World} {bs : List Int} {kind : Int} {n : Nat} (h : secE bs kind = n) (hn : n ≠ 0) (hg : w.grownBy w' none) {c : Nat} : SecP w bs kind (.returned (.tuple #[.slice none 0 c, .int .i64 (n : Nat)])) w' :=
  ⟨none, c, by rw [secY_no h hn, h]; rfl, by rw [secY_no h hn]; exact Rd.nil, hg⟩
theorem fin22 {w w3 w7 : World} {bs : List Int} {k n : Nat} {A : Option Addr} {c : Nat} (hE : secE bs k = 0) (hX : secY bs k = secH bs k) (hn : n = (secH bs k).length) (h3 : w.grownBy w3 none) (h7 : w3.grownBy w7 (Value.slice none 0 0).ownBlock) (hr : Rd (w3.heap.size ≤ ·) w7 A ([] ++ (secH bs k).map (.int .u8))) : SecP w bs k (.returned (.tuple #[.slice A n c, .int .i64 0])) w7 :=
  ⟨A, c, by rw [hX, hE, hn]; rfl, by rw [hX]; exact hr.mono (fun b hb _ => Nat.le_trans h3.size hb), only_trans h3 h7⟩
theorem errS_le (bs : List Int) : errS bs ≤ 15 := by
  unfold errS
  repeat' split
  all_goals omega
set_option maxHeartbeats 4000000 in
set_option maxRecDepth 100000 in
theorem rsection_any {S : Nat → Prop} (A : Option Addr) (bs : List Int) (c : Nat) (kind : Int) (w : World) (hr : Rd S w A (bs.map (.int .u8))) (hi : InH bs) (hl : bs.length ≤ 10000000) (hc : bs.length ≤ c) (hm : c ≤ 9223372036854775807) :
    Calls Tryz.prog 22 #[.slice A bs.length c, .int .i64 kind] w (SecP w bs kind) := by
  have HR := Lib.hid hr
  have HI := Lib.hid hi
  clear hr hi
  go_enter Tryz.func22, Tryz.ntmps22
  by_cases h1 : kind < 1
  · have i1 : decide (kind < 1) = true := by simp [h1]
    have HE := Lib.hid (secE_out (bs := bs) (.inl h1))
    clear h1
    go_wp2_with fail
    go_ret2
    exact SecP.no HE.out (by decide) (only_refl _ _)
  · by_cases h2 : 12 < kind
    · have i1 : decide (kind < 1) = false := by simp; omega
      have i2 : decide (12 < kind) = true := by simp [h2]
      have HE := Lib.hid (secE_out (bs := bs) (.inr h2))
      clear h1 h2
      go_wp2_with fail
      go_ret2
      exact SecP.no HE.out (by decide) (only_refl _ _)
    · have i1 : decide (kind < 1) = false := by simp; omega
      have i2 : decide (12 < kind) = false := by simp; omega
      obtain ⟨k, rfl⟩ : ∃ k : Nat, kind = k := ⟨kind.toNat, by omega⟩
      have hk1 : 1 ≤ k := by omega
      have hk2 : k ≤ 12 := by omega
      clear h1 h2
      have KS := Lib.hid (rsummary_any A bs c w HR.out HI.out hl hc hm)
      obtain ⟨E, hE⟩ : ∃ E, E = errS bs := ⟨_, rfl⟩
      have hE15 := errS_le bs
      rw [← hE] at hE15
      by_cases he : E = 0
      · subst he
        have HE0 := Lib.hid hE.symm
        clear hE hE15
        obtain ⟨b, off, rfl, hSb, hbw, -⟩ := HR.out (by rw [List.length_map]; have := (errS_ok HE0.out).1; omega)
        obtain ⟨x, y, z, hV⟩ : ∃ x y z : Int, sumV bs = #[.int .i64 x, .int .i64 y, .int .i64 z] := ⟨_, _, _, by unfold sumV; rw [if_pos HE0.out]⟩
        have HV := Lib.hid hV
        have hl124 : 124 ≤ bs.length := (errS_ok HE0.out).1
        have hin := sec_in HE0.out hk1 hk2
        have HSL := Lib.hid (sec_len HE0.out hk1 hk2)
        have KR := Lib.hid (fun (w' : World) (hg : w.grownBy w' none) => right27_at b off c bs k w' (HR.out.grown hg (by simp)) HI.out HE0.out hl hc hm hk1 hk2)
        have KP := Lib.hid (fun (w' : World) (hg : w.grownBy w' none) => place_at b off c bs k w' (HR.out.grown hg (by simp)) HI.out hl124 hc hm hk1 hk2)
        have HS : Hid (∀ e w', SumP w bs e w' → e = .returned (.tuple #[.agg #[.int .i64 x, .int .i64 y, .int .i64 z], .int .i64 ((0 : Nat) : Int)]) ∧ w.grownBy w' none) := Lib.hid (fun e w' h => by have h2 := h; unfold SumP at h2; rw [HV.out, HE0.out] at h2; exact h2)
        have HRA : Hid (∀ w', w.grownBy w' none → Rd S w' (some ⟨b, off + offH bs (k - 1), none⟩) ((secH bs k).map (.int .u8))) := Lib.hid (fun w' hg => sec_rd (c := c) (HR.out.grown hg (by simp)) k)
        have HRZ : Hid (∀ w' A, c = offH bs (k - 1) → Rd S w' A ((secH bs k).map (.int .u8))) := Lib.hid (fun w' A h => sec_rd0 (by omega))
        obtain ⟨on, hon⟩ : ∃ g, g = offH bs (k - 1) := ⟨_, rfl⟩
        obtain ⟨ln, hln⟩ : ∃ g, g = lenH bs k := ⟨_, rfl⟩
        rw [← hon, ← hln] at KP hin
        rw [← hon] at HRA HRZ
        rw [← hln] at HSL
        clear hV hon hln hSb hbw
        cases hR : rightH bs k with
        | false =>
          have HE : Hid (secE bs k = 15) := Lib.hid (by rw [secE_ok hk1 hk2 HE0.out, hR]; rfl)
          rw [hR] at KR
          clear hR
          go_wp2_with (first
            | (go_at_call 17; refine KS.out.mono ?_; intro e w2 hs; obtain ⟨rfl, hg2⟩ := HS.out _ _ hs; clear hs)
            | (go_at_call 38; refine (KR.out _ (only_alloc hg2 _)).mono ?_; rintro e w3 ⟨rfl, hg3⟩))
          go_ret2
          exact SecP.no HE.out (by decide) (only_trans (only_alloc (by assumption) _) (by assumption))
        | true =>
          have HE : Hid (secE bs k = 0) := Lib.hid (by rw [secE_ok hk1 hk2 HE0.out, hR]; rfl)
          have HX := Lib.hid (secY_yes HE.out)
          rw [hR] at KR
          clear hR
          have i3 : (on : Int) ≤ (on : Int) + (ln : Int) := by omega
          have i4 : (on : Int) + (ln : Int) ≤ (c : Int) := by omega
          go_upto_region 9 with (first
            | (go_at_call 17; refine KS.out.mono ?_; intro e w2 hs; obtain ⟨rfl, hg2⟩ := HS.out _ _ hs; clear hs)
            | (go_at_call 38; refine (KR.out _ (only_alloc hg2 _)).mono ?_; rintro e w3 ⟨rfl, hg3⟩; have G3 := Lib.hid (only_trans (only_alloc hg2 _) hg3); clear hg3)
            | (go_at_call 37; refine (KP.out _ G3.out).mono ?_; rintro e w4 ⟨rfl, hw4⟩; obtain rfl := hw4.symm))
          by_cases hz : c = on
          · have H0 := Lib.hid hz
            go_wp2_with (at_builtin; go_must (refine wpList_appendN rfl _ _ 22 rfl w3.heap.size Tryz.underlying22 byteInfo rfl (by decide) (v := .slice none 0 0) (by rfl) (World.ownsRow_nil _ _ _ _) (some ⟨b, off, none⟩) (on + ln - on) 0 (news := (secH bs k).map (.int .u8)) (by rfl) (HRZ.out w3 _ H0.out) (by rw [List.length_map, HSL.out]; omega) (byte_ones _) (by decide) (by omega) (Nat.le_refl _) ?_); intro v7 w7 hown7 hg7 hob7; obtain ⟨A7, c7, rfl, -, -, -, hr7⟩ := Rd.of_own hown7 (by decide); have R7 := Lib.hid hr7; have G7 := Lib.hid hg7; clear hown7 hg7 hob7 hr7)
            go_ret2
            exact fin22 HE.out HX.out (by rw [HSL.out]) G3.out G7.out R7.out
          · have H0 := Lib.hid hz
            go_wp2_with (at_builtin; go_must (refine wpList_appendN rfl _ _ 22 rfl w3.heap.size Tryz.underlying22 byteInfo rfl (by decide) (v := .slice none 0 0) (by rfl) (World.ownsRow_nil _ _ _ _) (some ⟨b, off + on, none⟩) (on + ln - on) (c - on) (news := (secH bs k).map (.int .u8)) (by rfl) (HRA.out w3 G3.out) (by rw [List.length_map, HSL.out]; omega) (byte_ones _) (by decide) (by omega) (Nat.le_refl _) ?_); intro v7 w7 hown7 hg7 hob7; obtain ⟨A7, c7, rfl, -, -, -, hr7⟩ := Rd.of_own hown7 (by decide); have R7 := Lib.hid hr7; have G7 := Lib.hid hg7; clear hown7 hg7 hob7 hr7)
            go_ret2
            exact fin22 HE.out HX.out (by rw [HSL.out]) G3.out G7.out R7.out
      · have HE := Lib.hid (secE_err (bs := bs) (kind := (k : Int)) (by omega) (by omega) hE.symm he)
        have hne : ((E : Int) == 0) = false := by rw [beq_eq_false_iff_ne]; omega
        have HS : Hid (∀ e w', SumP w bs e w' → e = .returned (.tuple #[.agg (sumV bs), .int .i64 (E : Nat)]) ∧ w.grownBy w' none) := Lib.hid (fun e w' h => by rw [hE]; exact h)
        have HV : Hid (sumV bs = #[.int .i64 0, .int .i64 0, .int .i64 0]) := Lib.hid (sumV_no hE.symm he)
        have HN := Lib.hid he
        clear hE he
        go_wp2_with (go_at_call 17; refine KS.out.mono ?_; intro e w2 hs; obtain ⟨rfl, hg2⟩ := HS.out _ _ hs; rw [HV.out]; clear hs)
        go_ret2
        exact SecP.no HE.out HN.out (only_alloc (by assumption) _)
/-- the sections whose checksum is wrong -/
def damL (bs : List Int) : List Int := if errS bs = 0 then damH bs 12 else []
theorem damL_len (bs : List Int) : (damL bs).length ≤ 12 := by
  unfold damL
  split
  · exact damH_len bs 12
  · exact Nat.zero_le _
def DamP (w : World) (bs : List Int) (e : Ending) (w' : World) : Prop := ∃ A c, e = .returned (.tuple #[.slice A (damL bs).length c, .int .i64 (errS bs : Nat)]) ∧ Rd (w.heap.size ≤ ·) w' A ((damL bs).map (.int .i64)) ∧ w.grownBy w' none
theorem DamP.no {w w' : World} {bs : List Int} {n : Nat} (h : errS bs = n) (hn : n ≠ 0) (hg : w.grownBy w' none) {c : Nat} : DamP w bs (.returned (.tuple #[.slice none 0 c, .int .i64 (n : Nat)])) w' := by
  have hd : damL bs = [] := by unfold damL; rw [if_neg (by omega)]
  exact ⟨none, c, by rw [hd, h]; rfl, by rw [hd]; exact Rd.nil, hg⟩
theorem damH_true {bs : List Int} {k : Nat} (h : rightH bs k = true) (hk : 1 ≤ k) : damH bs k = damH bs (k - 1) := by
  obtain ⟨j, rfl⟩ : ∃ j, k = j + 1 := ⟨k - 1, by omega⟩
  simp only [damH, h, if_true, List.append_nil, Nat.add_sub_cancel]
theorem damH_false {bs : List Int} {k : Nat} (h : rightH bs k = false) (hk : 1 ≤ k) : damH bs k = damH bs (k - 1) ++ [(k : Int)] := by
  obtain ⟨j, rfl⟩ : ∃ j, k = j + 1 := ⟨k - 1, by omega⟩
  simp [damH, h]
set_option maxHeartbeats 4000000 in
set_option maxRecDepth 100000 in
theorem rdamaged_any {S : Nat → Prop} (A : Option Addr) (bs : List Int) (c : Nat) (w : World) (hr : Rd S w A (bs.map (.int .u8))) (hi : InH bs) (hl : bs.length ≤ 10000000) (hc : bs.length ≤ c) (hm : c ≤ 9223372036854775807) :
    Calls Tryz.prog 19 #[.slice A bs.length c] w (DamP w bs) := by
  have HR := Lib.hid hr
  have HI := Lib.hid hi
  clear hr hi
  go_enter Tryz.func19, Tryz.ntmps19
  have KS := Lib.hid (rsummary_any A bs c w HR.out HI.out hl hc hm)
  obtain ⟨E, hE⟩ : ∃ E, E = errS bs := ⟨_, rfl⟩
  have hE15 := errS_le bs
  rw [← hE] at hE15
  by_cases he : E = 0
  · subst he
    have HE0 := Lib.hid hE.symm
    clear hE hE15
    obtain ⟨b, off, rfl, hSb, hbw, -⟩ := HR.out (by rw [List.length_map]; have := (errS_ok HE0.out).1; omega)
    obtain ⟨x, y, z, hV⟩ : ∃ x y z : Int, sumV bs = #[.int .i64 x, .int .i64 y, .int .i64 z] := ⟨_, _, _, by unfold sumV; rw [if_pos HE0.out]⟩
    have HV := Lib.hid hV
    have KR := Lib.hid (fun (w' : World) (hg : w.grownBy w' none) (k : Nat) (hk1 : 1 ≤ k) (hk2 : k ≤ 12) => right27_at b off c bs k w' (HR.out.grown hg (by simp)) HI.out HE0.out hl hc hm hk1 hk2)
    have HS : Hid (∀ e w', SumP w bs e w' → e = .returned (.tuple #[.agg #[.int .i64 x, .int .i64 y, .int .i64 z], .int .i64 ((0 : Nat) : Int)]) ∧ w.grownBy w' none) := Lib.hid (fun e w' h => by have h2 := h; unfold SumP at h2; rw [HV.out, HE0.out] at h2; exact h2)
    clear hV hSb hbw
    go_wp2_with (go_at_call 17; refine KS.out.mono ?_; intro e w2 hs; obtain ⟨rfl, hg2⟩ := HS.out _ _ hs; clear hs)
    have G2 : Hid (w.grownBy _ none) := Lib.hid (only_alloc hg2 (.cells #[.int .i64 x, .int .i64 y, .int .i64 z] 43))
    clear hg2
    go_loopw [6, 7] (fun v vi wr => ∃ k : Nat, vi = .int .i64 k ∧ 1 ≤ k ∧ k ≤ 13 ∧ wr.ownsRow w.heap.size 3 1 v (damH bs (k - 1)).length ((damH bs (k - 1)).map (.int .i64)) ∧ w.grownBy wr none) (fun _ vi _ => 13 - (intOf vi).toNat)
    case atStart => exact ⟨1, rfl, by omega, by omega, World.ownsRow_nil _ _ _ _, G2.out⟩
    case round =>
      obtain ⟨k, rfl, hk1, hk, hO, hG⟩ := hrel
      have OO := Lib.hid hO
      have G := Lib.hid hG
      obtain ⟨vO, hvO⟩ : ∃ v, v = u6 := ⟨_, rfl⟩
      rw [← hvO] at OO ⊢
      clear hO hG hvO
      by_cases hlt : k ≤ 12
      · have i1 : (k : Int) ≤ 12 := by omega
        have KR1 := Lib.hid (KR.out wr G.out k hk1 hlt)
        have hln := damH_len bs (k - 1)
        have hwz := G.out.size
        cases hR : rightH bs k with
        | true =>
          have HD := Lib.hid (damH_true hR hk1)
          rw [hR] at KR1
          clear hR
          go_wp2_with (go_at_call 38; refine KR1.out.mono ?_; rintro e w3 ⟨rfl, hg3⟩; have G3 := Lib.hid hg3; clear hg3)
          go_roundw
          case rel => exact ⟨k + 1, by go_num, by omega, by omega, by rw [Nat.add_sub_cancel, HD.out]; exact own_ext OO.out G3.out, only_trans G.out G3.out⟩
          case measure => simp [intOf]; omega
        | false =>
          have HD := Lib.hid (damH_false hR hk1)
          rw [hR] at KR1
          clear hR
          go_wp2_with (first
            | (go_at_call 38; refine KR1.out.mono ?_; rintro e w3 ⟨rfl, hg3⟩; have G3 := Lib.hid hg3; have hz3 := hg3.size; clear hg3)
            | (at_builtin; go_must (refine wpList_append1 rfl _ _ 47 rfl w.heap.size Tryz.underlying47 intInfoS rfl (by decide) (v := vO) (by rfl) (w0 := w3) (cs := #[.int .i64 k]) (own_ext OO.out G3.out) (by rfl) rfl (by simp [Value.oneCell']) (by decide) (by omega) (by omega) ?_); intro v5 w5 hown5 hg5 hob5))
          have O5 : Hid (w5.ownsRow w.heap.size 3 1 v5 (damH bs k).length ((damH bs k).map (.int .i64))) := Lib.hid (by rw [HD.out, List.map_append, List.length_append]; exact hown5)
          have G5 : Hid (w.grownBy w5 none) := Lib.hid (only_own (only_trans G.out G3.out) hg5 (own_ext OO.out G3.out) (Nat.le_refl _))
          clear hown5 hg5 hob5
          go_wp2_with fail
          go_roundw
          case rel => exact ⟨k + 1, by go_num, by omega, by omega, by rw [Nat.add_sub_cancel]; exact O5.out, G5.out⟩
          case measure => simp [intOf]; omega
      · have i1 : ¬ (k : Int) ≤ 12 := by omega
        have hkE : k - 1 = 12 := by omega
        obtain ⟨AO, cO, hv, h1, h2, -, h3⟩ := Rd.of_own OO.out (by decide)
        rw [hkE] at h3 hv
        have HL : Hid (damL bs = damH bs 12) := Lib.hid (by unfold damL; rw [if_pos HE0.out])
        have H3 := Lib.hid h3
        rw [hv]
        clear hv h1 h2 h3 hkE OO
        go_wp2_with fail
        go_ret2
        exact ⟨AO, cO, by rw [HL.out, HE0.out]; rfl, by rw [HL.out]; exact H3.out, G.out⟩
  · have HE := Lib.hid hE.symm
    have hne : ((E : Int) == 0) = false := by rw [beq_eq_false_iff_ne]; omega
    have HS : Hid (∀ e w', SumP w bs e w' → e = .returned (.tuple #[.agg (sumV bs), .int .i64 (E : Nat)]) ∧ w.grownBy w' none) := Lib.hid (fun e w' h => by rw [hE]; exact h)
    have HV : Hid (sumV bs = #[.int .i64 0, .int .i64 0, .int .i64 0]) := Lib.hid (sumV_no hE.symm he)
    have HN := Lib.hid he
    clear hE he
    go_wp2_with (go_at_call 17; refine KS.out.mono ?_; intro e w2 hs; obtain ⟨rfl, hg2⟩ := HS.out _ _ hs; rw [HV.out]; clear hs)
    go_ret2
    exact DamP.no HE.out HN.out (only_alloc (by assumption) _)
end Go.Proofs.YtodaabofpkafjaaGreat
