/- right of the reference of chapter 27. Conditions: sizes, bytes, a header that is right. -/
import Derived.Test.YtganfhmjklcchaaGreatJSegS
import Derived.ArgAppend
import Derived.Test.YtganfhmjklcchaaGreatJWordP
namespace Go.Proofs.YtganfhmjklcchaaGreat
open Go.RowKit
set_option linter.unusedVariables false
set_option linter.unusedSimpArgs false

theorem sec_in {bs : List Int} (h : errS bs = 0) {k : Nat} (hk1 : 1 ≤ k) (hk : k ≤ 12) : offH bs (k - 1) + lenH bs k ≤ bs.length := by
  obtain ⟨j, rfl⟩ : ∃ j, k = j + 1 := ⟨k - 1, by omega⟩
  have h1 := offH_mono bs (i := j + 1) (j := 12) hk
  have h2 := (errS_ok h).2.2.2
  simp only [offH] at h1
  rw [Nat.add_sub_cancel]
  simp only [offH] at h2
  omega
theorem sec_len {bs : List Int} (h : errS bs = 0) {k : Nat} (hk1 : 1 ≤ k) (hk : k ≤ 12) : (secH bs k).length = lenH bs k := cutB_len (sec_in h hk1 hk)
theorem off_ge (bs : List Int) (k : Nat) : 124 ≤ offH bs k := offH_mono bs (i := 0) (Nat.zero_le k)
theorem sec_rd {S : Nat → Prop} {w : World} {b off c : Nat} {bs : List Int} (h : Rd S w (some ⟨b, off, none⟩) (bs.map (.int .u8))) (k : Nat) : Rd S w (some ⟨b, off + offH bs (k - 1), none⟩) ((secH bs k).map (.int .u8)) := cutB_rd h _ _
theorem sec_rd0 {S : Nat → Prop} {w : World} {A : Option Addr} {bs : List Int} {k : Nat} (h : bs.length ≤ offH bs (k - 1)) : Rd S w A ((secH bs k).map (.int .u8)) := by
  rw [show secH bs k = [] from by unfold secH cutB; rw [List.drop_of_length_le h]; simp]
  exact Rd.nil
def BoolExtH (v : Bool) (w : World) (e : Ending) (w' : World) : Prop := e = .returned (.bool v) ∧ w.grownBy w' none
set_option maxHeartbeats 2000000 in
set_option maxRecDepth 100000 in
theorem right27_at {S : Nat → Prop} (b off c : Nat) (bs : List Int) (k : Nat) (w : World) (hr : Rd S w (some ⟨b, off, none⟩) (bs.map (.int .u8))) (hi : InH bs) (he : errS bs = 0) (hl : bs.length ≤ 10000000) (hc : bs.length ≤ c) (hm : c ≤ 9223372036854775807) (hk1 : 1 ≤ k) (hk : k ≤ 12) :
    Calls Tryz.prog 88 #[.slice (some ⟨b, off, none⟩) bs.length c, .int .i64 k] w (BoolExtH (rightH bs k) w) := by
  have HR := Lib.hid hr
  have HI := Lib.hid hi
  have l124 : 124 ≤ bs.length := (errS_ok he).1
  have KP := Lib.hid (place_at b off c bs k w hr hi l124 hc hm hk1 hk)
  have KG := Lib.hid (fun (w' : World) (hg : w.grownBy w' none) (c : Nat) => rget_cut (w := w') (hr.grown hg (by simp)) hi (20 + 8 * k) 4 c (by omega) (by omega) (by decide))
  have hin := sec_in he hk1 hk
  have hog := off_ge bs (k - 1)
  have HSL := Lib.hid (sec_len he hk1 hk)
  have hcl := crcH_lt hi hk l124
  have KC := Lib.hid (fun (A : Option Addr) (w' : World) (c : Nat) (hA : Rd S w' A ((secH bs k).map (.int .u8))) => crc_any A (secH bs k) c w' hA (by rw [sec_len he hk1 hk]; omega))
  have hcc : crcN (secH bs k) < 4294967296 := crcN_lt _
  have HV : Hid (∀ V, V = (crcH bs k == crcN (secH bs k)) → V = rightH bs k) := Lib.hid (fun V h => h)
  have HON : Hid (offH bs (k - 1) = offH bs (k - 1)) := Lib.hid rfl
  have HR1 : Hid (∀ w', w.grownBy w' none → Rd S w' (some ⟨b, off + offH bs (k - 1), none⟩) ((secH bs k).map (.int .u8))) := Lib.hid (fun w' hg => sec_rd (c := c) (hr.grown hg (by simp)) k)
  have HR0 : Hid (bs.length ≤ offH bs (k - 1) → ∀ w' A, Rd S w' A ((secH bs k).map (.int .u8))) := Lib.hid (fun h w' A => sec_rd0 h)
  rw [show cutN bs (20 + 8 * k) 4 = crcH bs k from rfl] at KG
  rw [HSL.out] at KC
  obtain ⟨on, hon⟩ : ∃ g, g = offH bs (k - 1) := ⟨_, rfl⟩
  obtain ⟨ln, hln⟩ : ∃ g, g = lenH bs k := ⟨_, rfl⟩
  obtain ⟨gc, hgc⟩ : ∃ g, g = crcH bs k := ⟨_, rfl⟩
  obtain ⟨cc, hcn⟩ : ∃ g, g = crcN (secH bs k) := ⟨_, rfl⟩
  obtain ⟨RH, hRH⟩ : ∃ g, g = rightH bs k := ⟨_, rfl⟩
  rw [← hon, ← hln] at KP hin
  rw [← hon] at hog HR1 HR0
  rw [← hln, ← hcn] at KC
  rw [← hgc] at KG hcl
  rw [← hcn] at hcc
  rw [← hgc, ← hcn, ← hRH] at HV
  rw [← hRH]
  clear hr hi he hon hln hgc hcn hRH HSL HON
  have hg4 : gc < 4294967296 := hcl
  obtain ⟨p, hp⟩ : ∃ p, p = 20 + 8 * k := ⟨_, rfl⟩
  obtain ⟨q, hq⟩ : ∃ q, q = 24 + 8 * k := ⟨_, rfl⟩
  obtain ⟨z, hz⟩ : ∃ z, z = on + ln := ⟨_, rfl⟩
  rw [← hp] at KG
  obtain ⟨k8, hk8⟩ : ∃ z, z = 8 * k := ⟨_, rfl⟩
  have w1 : IntKind.i64.wrap (8 * (k : Int)) = (k8 : Int) := by rw [show 8 * (k : Int) = (k8 : Int) by omega]; exact IntWalk.i64_in _ (by omega)
  have w2 : IntKind.i64.wrap (20 + (k8 : Int)) = (p : Int) := by rw [show 20 + (k8 : Int) = (p : Int) by omega]; exact IntWalk.i64_in _ (by omega)
  have w3 : IntKind.i64.wrap (24 + (k8 : Int)) = (q : Int) := by rw [show 24 + (k8 : Int) = (q : Int) by omega]; exact IntWalk.i64_in _ (by omega)
  have w4 : IntKind.i64.wrap ((on : Int) + (ln : Int)) = (z : Int) := by rw [show (on : Int) + (ln : Int) = (z : Int) by omega]; exact IntWalk.i64_in _ (by omega)
  have w5 : IntKind.u64.wrap (cc : Int) = (cc : Int) := IntWalk.u64_in _ (by omega)
  have w6 : ((gc : Int) == (cc : Int)) = RH := by
    refine HV.out _ ?_
    by_cases h : gc = cc
    · rw [h, beq_self_eq_true, beq_self_eq_true]
    · rw [beq_eq_false_iff_ne.2 (show (gc : Int) ≠ (cc : Int) by omega), beq_eq_false_iff_ne.2 h]
  have n1 : (p : Int) ≤ (q : Int) := by omega
  have n2 : (q : Int) ≤ (c : Int) := by omega
  have n3 : (on : Int) ≤ (z : Int) := by omega
  have n4 : (z : Int) ≤ (c : Int) := by omega
  have n5 : q - p = 4 := by omega
  have n6 : z - on = ln := by omega
  have n7 : p ≤ q := by omega
  have n8 : q ≤ c := by omega
  have n9 : on ≤ z := by omega
  have n10 : z ≤ c := by omega
  have n11 : c ≠ p := by omega
  have n12 : p ≠ 0 := by omega
  have n13 : on ≠ 0 := by omega
  have HZ : Hid (c = on → bs.length ≤ on) := Lib.hid (fun h => by omega)
  have N := Lib.hid (And.intro n1 (And.intro n2 (And.intro n3 (And.intro n4 (And.intro n5 (And.intro n6 (And.intro n7 (And.intro n8 (And.intro n9 (And.intro n10 (And.intro n11 (And.intro n12 n13))))))))))))
  have W6 := Lib.hid w6
  have W5 := Lib.hid w5
  have W4 := Lib.hid w4
  have W3 := Lib.hid w3
  have W2 := Lib.hid w2
  have W1 := Lib.hid w1
  clear hk8 w1 w2 w3 w4 w5 w6 hp hq hz n1 n2 n3 n4 n5 n6 n7 n8 n9 n10 n11 n12 n13 hin hog
  obtain ⟨AS, hAS⟩ : ∃ A : Option Addr, A = if c = on then some ⟨b, off, none⟩ else some ⟨b, off + on, none⟩ := ⟨_, rfl⟩
  have HRS : Hid (∀ w', w.grownBy w' none → Rd S w' AS ((secH bs k).map (.int .u8))) := Lib.hid (fun n hg => by
    rw [hAS]
    split
    · exact HR0.out (HZ.out (by assumption)) n _
    · exact HR1.out n hg)
  have HAS := Lib.hid hAS
  clear hAS
  go_enter Tryz.func88, Tryz.ntmps88
  go_upto_region 2 with (go_at_call 58; refine KP.out.mono ?_; rintro e w2 ⟨rfl, hw2⟩; obtain rfl := hw2.symm)
  refine wp_region_gen 18 (JC [some (.slice (some ⟨b, off, none⟩) bs.length c), some (.int .i64 (k)), some (.int .i64 ((k8 : Int))), some (.int .i64 ((p : Int))), some (.int .i64 (k)), some (.int .i64 ((k8 : Int))), some (.int .i64 ((q : Int))), some (.slice (some ⟨b, off + p, none⟩) 4 (c - p)), some (.int .u64 (gc : Nat)), some (.slice (some ⟨b, off, none⟩) bs.length c), some (.int .i64 (on)), some (.int .i64 (on)), some (.int .i64 (ln)), some (.int .i64 ((z : Int))), some (.slice AS ln (c - on)), some (.int .u32 (cc : Nat)), some (.int .u64 (cc : Int)), some (.bool RH)] (fun D u wx => w.grownBy wx none)) (by kernel_rfl) (by kernel_rfl) ?_ ?_ ?_
  · intro u
    exact ⟨(fun j c _ h => by cases h), only_drew (only_refl _ _)⟩
  · intro AA hA
    have hasz : AA.tmps.size = 31 := by rw [hA]; kernel_rfl
    have ea0 : AA.eval (.tmp 0) = .slice (some ⟨b, off, none⟩) bs.length c := by rw [hA]; kernel_rfl
    have ea1 : AA.eval (.tmp 1) = .int .i64 (k) := by rw [hA]; kernel_rfl
    have ea5 : AA.eval (.tmp 5) = .int .i64 (on) := by rw [hA]; kernel_rfl
    have ea6 : AA.eval (.tmp 6) = .int .i64 (ln) := by rw [hA]; kernel_rfl
    clear hA
    simp only [List.take_succ_cons, List.take_zero]
    refine .cons ?_ (.cons ?_ (.cons ?_ (.cons ?_ (.cons ?_ (.cons ?_ (.cons ?_ (.cons ?_ (.cons ?_ (.cons ?_ (.cons ?_ (.cons ?_ (.cons ?_ (.cons ?_ (.cons ?_ (.cons ?_ (.cons ?_ (.cons ?_ (.nil))))))))))))))))))
    · exact gd_gen (by kernel_rfl) (Want.none_ rfl) rfl (fun D u w v h => by simpa [updB, upd] using h) (fun D u ρ w kn => by
        have e0 := kn.own 0 (c := .slice (some ⟨b, off, none⟩) bs.length c) (by kernel_rfl) ea0
        simp [execOp, kn.rho.con, e0, go_sem])
    · exact gd_gen (by kernel_rfl) (Want.none_ rfl) rfl (fun D u w v h => by simpa [updB, upd] using h) (fun D u ρ w kn => by
        have e0 := kn.own 1 (c := .int .i64 (k)) (by kernel_rfl) ea1
        simp [execOp, kn.rho.con, e0, go_sem])
    · exact gd_gen (by kernel_rfl) (Want.none_ rfl) rfl (fun D u w v h => by simpa [updB, upd] using h) (fun D u ρ w kn => by
        have e0 := kn.con 1 14 (c := .int .i64 (k)) (by kernel_rfl) (by omega) (by kernel_rfl) rfl
        simp [execOp, kn.rho.con, e0, go_sem, W1.out])
    · exact gd_gen (by kernel_rfl) (Want.none_ rfl) rfl (fun D u w v h => by simpa [updB, upd] using h) (fun D u ρ w kn => by
        have e0 := kn.con 2 15 (c := .int .i64 ((k8 : Int))) (by kernel_rfl) (by omega) (by kernel_rfl) rfl
        simp [execOp, kn.rho.con, e0, go_sem, W2.out])
    · exact gd_gen (by kernel_rfl) (Want.none_ rfl) rfl (fun D u w v h => by simpa [updB, upd] using h) (fun D u ρ w kn => by
        have e0 := kn.own 1 (c := .int .i64 (k)) (by kernel_rfl) ea1
        simp [execOp, kn.rho.con, e0, go_sem])
    · exact gd_gen (by kernel_rfl) (Want.none_ rfl) rfl (fun D u w v h => by simpa [updB, upd] using h) (fun D u ρ w kn => by
        have e0 := kn.con 4 17 (c := .int .i64 (k)) (by kernel_rfl) (by omega) (by kernel_rfl) rfl
        simp [execOp, kn.rho.con, e0, go_sem, W1.out])
    · exact gd_gen (by kernel_rfl) (Want.none_ rfl) rfl (fun D u w v h => by simpa [updB, upd] using h) (fun D u ρ w kn => by
        have e0 := kn.con 5 18 (c := .int .i64 ((k8 : Int))) (by kernel_rfl) (by omega) (by kernel_rfl) rfl
        simp [execOp, kn.rho.con, e0, go_sem, W3.out])
    · exact gd_gen (by kernel_rfl) (Want.none_ rfl) rfl (fun D u w v h => by simpa [updB, upd] using h) (fun D u ρ w kn => by
        have e0 := kn.con 0 13 (c := .slice (some ⟨b, off, none⟩) bs.length c) (by kernel_rfl) (by omega) (by kernel_rfl) rfl
        have e1 := kn.con 3 16 (c := .int .i64 ((p : Int))) (by kernel_rfl) (by omega) (by kernel_rfl) rfl
        have e2 := kn.con 6 19 (c := .int .i64 ((q : Int))) (by kernel_rfl) (by omega) (by kernel_rfl) rfl
        simp [execOp, kn.rho.con, e0, e1, e2, go_sem, N.out.1, N.out.2.1, N.out.2.2.2.2.1, N.out.2.2.2.2.2.2.1, N.out.2.2.2.2.2.2.2.1, N.out.2.2.2.2.2.2.2.2.2.2.1, N.out.2.2.2.2.2.2.2.2.2.2.2.1, Addr.add])
    · refine gd_call (by kernel_rfl) (Want.none_ rfl) 57 (fun D u ρ wx kn hD => ?_)
      have e0 := kn.con 7 20 (c := .slice (some ⟨b, off + p, none⟩) 4 (c - p)) (by kernel_rfl) (by omega) (by kernel_rfl) rfl
      refine ⟨#[.slice (some ⟨b, off + p, none⟩) 4 (c - p)], ?_, (KG.out wx kn.ext (c - p)).mono ?_⟩
      · simp only [execOp, resolve, Deferred.ofValue, List.map_toArray, List.map_cons, List.map_nil, e0, kn.rho.con, kn.rho.fn]
        simp [go_sem]
      · rintro e w' ⟨rfl, rfl⟩
        exact ⟨_, rfl, (fun c h => by injection h with h; injection h), kn.ext⟩
    · exact gd_gen (by kernel_rfl) (Want.none_ rfl) rfl (fun D u w v h => by simpa [updB, upd] using h) (fun D u ρ w kn => by
        have e0 := kn.own 0 (c := .slice (some ⟨b, off, none⟩) bs.length c) (by kernel_rfl) ea0
        simp [execOp, kn.rho.con, e0, go_sem])
    · exact gd_gen (by kernel_rfl) (Want.none_ rfl) rfl (fun D u w v h => by simpa [updB, upd] using h) (fun D u ρ w kn => by
        have e0 := kn.own 5 (c := .int .i64 (on)) (by kernel_rfl) ea5
        simp [execOp, kn.rho.con, e0, go_sem])
    · exact gd_gen (by kernel_rfl) (Want.none_ rfl) rfl (fun D u w v h => by simpa [updB, upd] using h) (fun D u ρ w kn => by
        have e0 := kn.own 5 (c := .int .i64 (on)) (by kernel_rfl) ea5
        simp [execOp, kn.rho.con, e0, go_sem])
    · exact gd_gen (by kernel_rfl) (Want.none_ rfl) rfl (fun D u w v h => by simpa [updB, upd] using h) (fun D u ρ w kn => by
        have e0 := kn.own 6 (c := .int .i64 (ln)) (by kernel_rfl) ea6
        simp [execOp, kn.rho.con, e0, go_sem])
    · exact gd_gen (by kernel_rfl) (Want.none_ rfl) rfl (fun D u w v h => by simpa [updB, upd] using h) (fun D u ρ w kn => by
        have e0 := kn.con 11 24 (c := .int .i64 (on)) (by kernel_rfl) (by omega) (by kernel_rfl) rfl
        have e1 := kn.con 12 25 (c := .int .i64 (ln)) (by kernel_rfl) (by omega) (by kernel_rfl) rfl
        simp [execOp, kn.rho.con, e0, e1, go_sem, W4.out])
    · exact gd_gen (by kernel_rfl) (Want.none_ rfl) rfl (fun D u w v h => by simpa [updB, upd] using h) (fun D u ρ w kn => by
        have e0 := kn.con 9 22 (c := .slice (some ⟨b, off, none⟩) bs.length c) (by kernel_rfl) (by omega) (by kernel_rfl) rfl
        have e1 := kn.con 10 23 (c := .int .i64 (on)) (by kernel_rfl) (by omega) (by kernel_rfl) rfl
        have e2 := kn.con 13 26 (c := .int .i64 ((z : Int))) (by kernel_rfl) (by omega) (by kernel_rfl) rfl
        simp [execOp, kn.rho.con, e0, e1, e2, go_sem, N.out.2.2.1, N.out.2.2.2.1, N.out.2.2.2.2.2.1, N.out.2.2.2.2.2.2.2.2.1, N.out.2.2.2.2.2.2.2.2.2.1, N.out.2.2.2.2.2.2.2.2.2.2.2.2, HAS.out, Addr.add])
    · refine gd_call (by kernel_rfl) (Want.none_ rfl) 50 (fun D u ρ wx kn hD => ?_)
      have e0 := kn.con 14 27 (c := .slice AS ln (c - on)) (by kernel_rfl) (by omega) (by kernel_rfl) rfl
      refine ⟨#[.slice AS ln (c - on)], ?_, (KC.out AS wx (c - on) (HRS.out wx kn.ext)).mono ?_⟩
      · simp only [execOp, resolve, Deferred.ofValue, List.map_toArray, List.map_cons, List.map_nil, e0, kn.rho.con, kn.rho.fn]
        simp [go_sem]
      · rintro e w' ⟨rfl, rfl⟩
        exact ⟨_, rfl, (fun c h => by injection h with h; injection h), kn.ext⟩
    · exact gd_gen (by kernel_rfl) (Want.none_ rfl) rfl (fun D u w v h => by simpa [updB, upd] using h) (fun D u ρ w kn => by
        have e0 := kn.con 15 28 (c := .int .u32 (cc : Nat)) (by kernel_rfl) (by omega) (by kernel_rfl) rfl
        simp [execOp, kn.rho.con, e0, go_sem, W5.out])
    · exact gd_gen (by kernel_rfl) (Want.none_ rfl) rfl (fun D u w v h => by simpa [updB, upd] using h) (fun D u ρ w kn => by
        have e0 := kn.con 8 21 (c := .int .u64 (gc : Nat)) (by kernel_rfl) (by omega) (by kernel_rfl) rfl
        have e1 := kn.con 16 29 (c := .int .u64 (cc : Int)) (by kernel_rfl) (by omega) (by kernel_rfl) rfl
        simp [execOp, kn.rho.con, e0, e1, go_sem, W6.out])
  · intro D u w3 hJ hD
    have hg3 : w.grownBy w3 none := hJ.2
    simp only [List.take_succ_cons, List.take_zero, List.drop_succ_cons, List.drop_zero, putAll]
    rw [show u 17 = .bool RH from hJ.1 17 _ rfl (hD 17 (by decide))]
    clear hJ hD
    go_wp2_with fail
    go_ret
    exact ⟨rfl, hg3⟩
end Go.Proofs.YtganfhmjklcchaaGreat

namespace Go.Proofs.YtganfhmjklcchaaGreat
open Go.RowKit
set_option linter.unusedVariables false
set_option linter.unusedSimpArgs false

theorem wpList_append1F {P : Program} {ops : Array Oper} {rest : List Oper} {o : Oper} {a : Act} {Q : Exit → Act → World → Prop} (hgd : o.guard = none) (s x : Operand) (t : TypeId)
    (ho : o.op = .call { callee := .builtin .append, args := #[s, x], argTypes := #[t, t] })
    {e : TypeId} {z : Value} {bytes : Nat} (ht : P.underlying t = some (.slice e)) (hi : (P.info? e).map (fun i => (i.zero, i.size, i.bytes)) = some (some z, 1, bytes)) (hzs : z.cells.size = 1)
    {b off n : Nat} {xs : List Value} (hs : a.eval s = .slice (some ⟨b, off, none⟩) n n) {w0 : World} {u : Value} (hl : xs.length = n) (hxs : ∀ j u, xs[j]? = some u → w0.cell? ⟨b, off + j, none⟩ = some u) (hb0 : b < w0.heap.size)
    (hx : a.eval x = .slice (some ⟨w0.heap.size, 0, none⟩) 1 1) (h1 : u.oneCell' = true) (hb : bytes ≤ 1000) (hn : n ≤ 10000000)
    (h : ∀ v' w', w'.ownsRow w0.heap.size e 1 v' (n + 1) (xs ++ [u]) → w0.grownBy w' none → wpList P ops Q rest (a.put o.dst v') w') : wpList P ops Q (o :: rest) a (w0.alloc (.cells #[u] e)) := by
  obtain ⟨i0, hi0, hz0, hz1, hz2⟩ := info_parts hi
  refine wpList_append_grows _ hgd s x t ho e i0 z 1 bytes ht hi0 hz0 hz1 hz2 hzs (by decide) (some ⟨b, off, none⟩) n n xs hs (fun h => by cases h) (by omega) (fun b' hb' j u' hu => ?_) ⟨w0.heap.size, 0, none⟩ 1 1 [u] hx rfl (fun j u' hu => ?_) (by intro u' hu; rw [List.mem_singleton.1 hu]; exact h1) (by omega) (by unfold maxLen; omega) ?_ ?_
  · injection hb' with hb'
    subst hb'
    have hadd : (⟨b, off, none⟩ : Addr).add j = ⟨b, off + j, none⟩ := by unfold Addr.add; split <;> simp_all
    rw [hadd, World.cell?_of_block (w := w0) (a := ⟨b, off + j, none⟩) (Below.heap_alloc w0 _ b hb0)]
    exact hxs j u' hu
  · have hadd : (⟨w0.heap.size, 0, none⟩ : Addr).add j = ⟨w0.heap.size, j, none⟩ := by unfold Addr.add; split <;> simp_all
    rw [hadd, (Blk.new w0 e #[u]).cell j]
    simpa using hu
  · have : (n + 1) * bytes ≤ 10000001 * 1000 := Nat.mul_le_mul (by omega) hb
    omega
  · intro v' w' ho' hg'
    refine h v' w' ⟨ho'.1, ho'.2.imp id (fun ⟨g, cap, cur, h1, h2, h3⟩ => ⟨g, cap, cur, h1, Nat.le_trans (by simp) h2, h3⟩)⟩ ?_
    exact ⟨hg'.os, hg'.tape, hg'.output, Nat.le_trans (by simp) hg'.size, fun i hi _ => (hg'.block i (by simp; omega) (by simp)).trans (Below.heap_alloc w0 _ i hi)⟩
set_option maxHeartbeats 4000000 in
set_option maxRecDepth 100000 in
theorem sput_full {S : Nat → Prop} (A : Option Addr) (xs : List Int) (n width : Nat) (w : World) (h : Rd S w A (xs.map (.int .u8))) (hx0 : 0 < xs.length) (hx : xs.length ≤ 4000000) (hw0 : 0 < width) (hw : width ≤ 8) (hn : n < 18446744073709551616) :
    Calls Tryz.prog 48 #[.slice A xs.length xs.length, .int .u64 n, .int .i64 (width : Int)] w (NewB w (xs ++ beB width n)) := by
  obtain ⟨b0, o0, rfl, -, hb0, hc0⟩ := h (by rw [List.length_map]; exact hx0)
  have HC := Lib.hid hc0
  clear h hc0
  go_enter Tryz.func48, Tryz.ntmps48
  go_wp2_with fail
  go_loopw [0, 7] (fun u i wr => ∃ (m : Nat) (ys : List Int), m ≤ width ∧ i = .int .i64 ((m : Int) - 1) ∧ ys ++ beB m n = xs ++ beB width n ∧ ((m = width ∧ u = .slice (some ⟨b0, o0, none⟩) xs.length xs.length ∧ ys = xs ∧ wr = w) ∨ (m < width ∧ Byts w.heap.size wr u ys ∧ w.grownBy wr none))) (fun _ i _ => (intOf i + 1).toNat)
  case atStart => exact ⟨width, xs, Nat.le_refl _, rfl, rfl, .inl ⟨rfl, rfl, rfl, rfl⟩⟩
  case round =>
    obtain ⟨m, ys, hm, rfl, he, hor⟩ := hrel
    have hl : ys.length ≤ 4000010 := by
      have h1 := congrArg List.length he
      simp [beB_len] at h1
      omega
    have HE := Lib.hid he
    clear he
    by_cases hc : 1 ≤ m
    · obtain ⟨j, rfl⟩ : ∃ j, m = j + 1 := ⟨m - 1, by omega⟩
      have hjj : (((j + 1 : Nat) : Int) - 1) = (j : Int) := by omega
      rw [hjj]
      have i1 : (0 : Int) ≤ (j : Int) := by omega
      clear hjj
      have HE2 : Hid (ys ++ [((n / 256 ^ j % 256 : Nat) : Int)] ++ beB j n = xs ++ beB width n) := Lib.hid (by rw [← HE.out, beB]; simp)
      rcases hor with ⟨hmw, rfl, rfl, rfl⟩ | ⟨hmw, hB, hG⟩
      · go_wp2_with (at_builtin; go_must (refine wpList_append1F rfl _ _ 22 rfl Tryz.underlying22 byteInfo rfl (by rfl) (w0 := wr) (xs := ys.map (.int .u8)) (u := .int .u8 ((n : Int) / 2 ^ (8 * j) % 256)) (by rw [List.length_map]) HC.out hb0 (by rfl) (by simp [Value.oneCell']) (by decide) (by omega) ?_); intro v1 w1 hv1 hg1)
        rw [be_el] at hv1
        have B1 := Lib.hid (Byts.snoc hv1)
        have G1 := Lib.hid hg1
        clear hv1 hg1
        go_wp2_with fail
        go_roundw
        case rel => exact ⟨j, ys ++ [((n / 256 ^ j % 256 : Nat) : Int)], by omega, rfl, HE2.out, .inr ⟨by omega, B1.out, G1.out⟩⟩
        case measure => simp [intOf] <;> omega
      · have HB := Lib.hid hB
        have HG := Lib.hid hG
        have hz := hG.size
        clear hB hG
        go_wp2_with (at_builtin; go_must (refine wpList_append1 rfl _ _ 22 rfl w.heap.size Tryz.underlying22 byteInfo rfl (by decide) (v := u0) (by rfl) (w0 := wr) (cs := #[.int .u8 ((n : Int) / 2 ^ (8 * j) % 256)]) HB.out (by rfl) rfl (by simp [Value.oneCell']) (by decide) (by omega) (by omega) ?_); intro v1 w1 hv1 hg1 hob1)
        rw [be_el] at hv1
        have B1 := Lib.hid (Byts.snoc hv1)
        have G1 := Lib.hid (HB.out.only (onto_ap hg1 hob1) HG.out (Nat.le_refl _))
        clear hv1 hg1 hob1
        go_wp2_with fail
        go_roundw
        case rel => exact ⟨j, ys ++ [((n / 256 ^ j % 256 : Nat) : Int)], by omega, rfl, HE2.out, .inr ⟨by omega, B1.out, G1.out⟩⟩
        case measure => simp [intOf] <;> omega
    · have hm0 : m = 0 := by omega
      subst hm0
      rcases hor with ⟨hmw, -, -, -⟩ | ⟨hmw, hB, hG⟩
      · omega
      · have HE2 : Hid (ys = xs ++ beB width n) := Lib.hid (by have h := HE.out; simpa [beB] using h)
        have B9 : Hid (Byts w.heap.size wr u0 (xs ++ beB width n)) := Lib.hid (by rw [← HE2.out]; exact hB)
        have G9 := Lib.hid hG
        clear hB hG
        go_wp2_with fail
        go_ret
        exact ⟨u0, rfl, B9.out, G9.out⟩
end Go.Proofs.YtganfhmjklcchaaGreat

namespace Go.Proofs.YtganfhmjklcchaaGreat
open Go.RowKit
set_option linter.unusedVariables false
set_option linter.unusedSimpArgs false

def hstep (h : Nat) (b : Int) : Nat := ((h ^^^ b.toNat) * 16777619) % 4294967296
def hashT (seed : Nat) (bs : List Int) : Nat := bs.foldl hstep (2166136261 ^^^ seed)
def hashF (h : Nat) : Nat := ((h ^^^ (h / 32768)) * 2246822519 % 4294967296) ^^^ ((h ^^^ (h / 32768)) * 2246822519 % 4294967296 / 8192)
def hashN (seed : Nat) (bs : List Int) : Nat := hashF (hashT seed bs)
theorem hashF_lt {h : Nat} : hashF h < 4294967296 := xor_lt32 (by omega) (by omega)
theorem bts_inb (s : ByteArray) : ∀ x ∈ bts s, 0 ≤ x ∧ x ≤ 255 := fun x hx => by
  unfold bts at hx
  obtain ⟨b, -, rfl⟩ := List.mem_map.1 hx
  have := b.toNat_lt
  omega
set_option maxHeartbeats 4000000 in
set_option maxRecDepth 100000 in
theorem hash_any (seed : Nat) (hs : seed < 4294967296) (s : ByteArray) (hz : s.size ≤ 100000) (w : World) :
    Calls Tryz.prog 132 #[.int .u32 seed, .string s] w (fun e w' => e = .returned (.int .u32 (hashN seed (bts s) : Nat)) ∧ w' = w) := by
  have hx0 : bits BinOp.xor IntKind.u32 2166136261 (seed : Int) = ((2166136261 ^^^ seed : Nat) : Int) := xor_u32 2166136261 seed (by decide) hs
  have hl0 : 2166136261 ^^^ seed < 4294967296 := xor_lt32 (by decide) hs
  obtain ⟨R, hR⟩ : ∃ r, r = hashN seed (bts s) := ⟨_, rfl⟩
  have HR : Hid (R = hashF ((bts s).foldl hstep (2166136261 ^^^ seed))) := Lib.hid hR
  obtain ⟨h0, hh0⟩ : ∃ h0, h0 = 2166136261 ^^^ seed := ⟨_, rfl⟩
  rw [← hh0] at hx0 hl0 HR
  rw [← hR]
  clear hR hh0
  go_enter Tryz.func132, Tryz.ntmps132
  go_wp2_with fail
  go_loopw [5, 6] (fun vh vi wr => ∃ (k h : Nat), vi = .int .i64 k ∧ k ≤ s.size ∧ vh = .int .u32 h ∧ Hid (((bts s).take k).foldl hstep h0 = h) ∧ h < 4294967296 ∧ wr = w) (fun _ vi _ => s.size - (intOf vi).toNat)
  case atStart => exact ⟨0, h0, rfl, Nat.zero_le _, rfl, Lib.hid rfl, hl0, rfl⟩
  case round =>
    clear hx0 hl0
    obtain ⟨k, h, rfl, hk, rfl, HH, hh, rfl⟩ := hrel
    by_cases hlt : k < s.size
    · have hx := bts_at s hlt
      have hxb : (s[k]'hlt).toNat ≤ 255 := by have := (s[k]'hlt).toNat_lt; omega
      have hX := xor_u32 h (s[k]'hlt).toNat hh (by omega)
      obtain ⟨y, hy⟩ : ∃ y, y = h ^^^ (s[k]'hlt).toNat := ⟨_, rfl⟩
      rw [← hy] at hX
      have HN : Hid (((bts s).take (k + 1)).foldl hstep h0 = y * 16777619 % 4294967296) := Lib.hid (by
        obtain ⟨h1, h2⟩ := List.getElem?_eq_some_iff.1 hx
        rw [List.take_succ_eq_append_getElem h1, h2, List.foldl_append, HH.out]
        rw [List.foldl_cons, List.foldl_nil, hstep, Int.toNat_natCast, hy])
      have i1 : (k : Int) < (s.size : Int) := by omega
      clear hx hy
      go_wp2_with fail
      go_roundw
      case rel => exact ⟨k + 1, y * 16777619 % 4294967296, by go_num, by omega, congrArg (Value.int .u32) (by omega), HN, by omega, trivial⟩
      case measure => simp [intOf]; omega
    · have HH2 : Hid ((bts s).foldl hstep h0 = h) := Lib.hid (by have h9 := HH.out; rw [List.take_of_length_le (by rw [bts_length]; omega)] at h9; exact h9)
      have i1 : ¬ (k : Int) < (s.size : Int) := by omega
      have hX1 : bits BinOp.xor IntKind.u32 (h : Int) ((h : Int) / 32768) = ((h ^^^ (h / 32768) : Nat) : Int) := by rw [show (h : Int) / 32768 = ((h / 32768 : Nat) : Int) from by omega]; exact xor_u32 h (h / 32768) hh (by omega)
      have hy1 : h ^^^ (h / 32768) < 4294967296 := xor_lt32 hh (by omega)
      obtain ⟨y, hy⟩ : ∃ y, y = h ^^^ (h / 32768) := ⟨_, rfl⟩
      rw [← hy] at hX1 hy1
      have HF : Hid (R = (y * 2246822519 % 4294967296) ^^^ (y * 2246822519 % 4294967296 / 8192)) := Lib.hid (by rw [HR.out, HH2.out, hashF, ← hy])
      have hX2 : bits BinOp.xor IntKind.u32 ((y : Int) * 2246822519 % 4294967296) ((y : Int) * 2246822519 % 4294967296 / 8192) = (R : Int) := by
        obtain ⟨z, hz⟩ : ∃ z, z = y * 2246822519 % 4294967296 := ⟨_, rfl⟩
        have e1 : (y : Int) * 2246822519 % 4294967296 = (z : Int) := by omega
        have e2 : (z : Int) / 8192 = ((z / 8192 : Nat) : Int) := by omega
        rw [e1, e2, xor_u32 z (z / 8192) (by omega) (by omega), HF.out, ← hz]
      have HX2 := Lib.hid hX2
      clear hy hX2
      go_wp2_with fail
      go_ret
      exact ⟨congrArg (fun x => Ending.returned (Value.int .u32 x)) HX2.out, rfl⟩
theorem u64Info : (Tryz.prog.info? 97).map (fun i => (i.zero, i.size, i.bytes)) = some (some (.int .u64 0), 1, 8) := by kernel_rfl
/-- a new filter -/
def FilP (w : World) (n : Nat) (e : Ending) (w' : World) : Prop := ∃ g, e = .returned (.tuple #[.agg #[.int .i64 3, .slice (some ⟨g, 0, none⟩) n n], .int .i64 0]) ∧ w.heap.size ≤ g ∧ Blk w' g 97 (Array.replicate n (.int .u64 0)) ∧ w.grownBy w' none
set_option maxHeartbeats 4000000 in
set_option maxRecDepth 100000 in
theorem fnew_any (size n : Nat) (hn : n = (size + 63) / 64) (h1 : 1 ≤ size) (h2 : size ≤ 65536) (w : World) :
    Calls Tryz.prog 122 #[.int .i64 size, .int .i64 3] w (FilP w n) := by
  have i1 : ¬ (size : Int) < 1 := by omega
  have i2 : ¬ (65536 : Int) < (size : Int) := by omega
  have HD : Hid (((size : Int) + 63) / 64 = (n : Int)) := Lib.hid (by omega)
  have hD := HD.out
  have hmk := fun (w' : World) => mk_any (P := Tryz.prog) Tryz.underlying164 u64Info rfl (by decide) n (by omega) w'
  have hnn : n ≤ 1024 := by omega
  clear hn h1 h2
  go_enter Tryz.func122, Tryz.ntmps122
  go_wp2_with fail
  have hB := (Blk.new w 166 #[.int .i64 3, .slice (some ⟨w.heap.size + 1, 0, none⟩) n n]).alloc (.cells (Array.replicate n (.int .u64 0)) 97)
  have q0 := hB.cell 0
  have q1 := hB.cell 1
  simp only [List.size_toArray, List.length_cons, List.length_nil, Nat.zero_add, Nat.reduceAdd, Nat.reduceLT, getElem?_pos, List.getElem_toArray, List.getElem_cons_zero, List.getElem_cons_succ] at q0 q1
  refine bodyPost_ret (v := .tuple #[.agg #[.int .i64 3, .slice (some ⟨w.heap.size + 1, 0, none⟩) n n], .int .i64 0]) (by simp [results, Tryz.results122, go_sem, q0, q1]) rfl ⟨w.heap.size + 1, rfl, by omega, ?_, only_alloc (only_alloc (only_refl _ _) _) _⟩
  have h := Blk.new (w.alloc (.cells #[.int .i64 3, .slice (some ⟨w.heap.size + 1, 0, none⟩) n n] 166)) 97 (Array.replicate n (.int .u64 0))
  simpa using h
/-- the places of a word -/
def placeX (n : Nat) (bs : List Int) (i : Nat) : Nat := (hashN 0 bs + i * hashN 1 bs) % 4294967296 % (64 * n)
def posX (n : Nat) (bs : List Int) : List Int := (List.range 3).map (fun i => (placeX n bs i : Int))
def PosP (w : World) (l : List Int) (e : Ending) (w' : World) : Prop := ∃ A c, e = .returned (.slice A l.length c) ∧ l.length ≤ c ∧ c ≤ maxLen ∧ Rd (w.heap.size ≤ ·) w' A (l.map (.int .i64)) ∧ w.grownBy w' none
set_option maxHeartbeats 4000000 in
set_option maxRecDepth 100000 in
theorem positions_any (A : Option Addr) (n c : Nat) (hn : 1 ≤ n) (hn2 : n ≤ 1024) (s : ByteArray) (hz : s.size ≤ 100000) (w : World) :
    Calls Tryz.prog 123 #[.agg #[.int .i64 3, .slice A n c], .string s] w (PosP w (posX n (bts s))) := by
  have KA := Lib.hid (fun w' => hash_any 0 (by decide) s hz w')
  have KB := Lib.hid (fun w' => hash_any 1 (by decide) s hz w')
  have hal : hashN 0 (bts s) < 4294967296 := hashF_lt
  have hbl : hashN 1 (bts s) < 4294967296 := hashF_lt
  have HP : Hid (∀ k, k < 3 → (posX n (bts s)).take (k + 1) = (posX n (bts s)).take k ++ [(((hashN 0 (bts s) + k * hashN 1 (bts s)) % 4294967296 % (64 * n) : Nat) : Int)]) := Lib.hid (fun k hk => by
    have h : (posX n (bts s))[k]? = some (placeX n (bts s) k : Int) := by
      unfold posX
      rw [List.getElem?_map, List.getElem?_range hk]
      rfl
    obtain ⟨h1, h2⟩ := List.getElem?_eq_some_iff.1 h
    rw [List.take_succ_eq_append_getElem h1, h2]
    rfl)
  have HL : Hid ((posX n (bts s)).length = 3) := Lib.hid (by unfold posX; rw [List.length_map, List.length_range])
  obtain ⟨P, hP⟩ : ∃ p, p = posX n (bts s) := ⟨_, rfl⟩
  obtain ⟨ha, hha⟩ : ∃ h, h = hashN 0 (bts s) := ⟨_, rfl⟩
  obtain ⟨hb, hhb⟩ : ∃ h, h = hashN 1 (bts s) := ⟨_, rfl⟩
  rw [← hha, ← hhb, ← hP] at HP
  rw [← hP] at HL
  rw [← hha] at KA hal
  rw [← hhb] at KB hbl
  rw [← hP]
  clear hP hha hhb
  have hfi : (Tryz.prog.info? 38).map (fun i => i.size) = some 1 := by kernel_rfl
  go_enter Tryz.func123, Tryz.ntmps123
  go_wp2_with fail
  refine (KA.out _).mono ?_
  rintro e w1 ⟨rfl, rfl⟩
  go_wp2_with fail
  refine (KB.out _).mono ?_
  rintro e w1 ⟨rfl, rfl⟩
  go_wp2_with fail
  have hB0 : Blk (w.alloc (.cells #[.int .i64 3, .slice A n c] 166)) w.heap.size 166 #[.int .i64 3, .slice A n c] := Blk.new _ _ _
  have hg0 : w.grownBy (w.alloc (.cells #[.int .i64 3, .slice A n c] 166)) none := only_alloc (only_refl _ _) _
  have BF := Lib.hid hB0
  have G0 := Lib.hid hg0
  obtain ⟨xb, hxb⟩ : ∃ b, b = w.heap.size := ⟨_, rfl⟩
  obtain ⟨W, hW⟩ : ∃ W, W = w.alloc (.cells #[.int .i64 3, .slice A n c] 166) := ⟨_, rfl⟩
  rw [← hW, ← hxb] at BF
  rw [← hW] at G0
  rw [← hW, ← hxb]
  clear hW hxb hB0 hg0
  go_loopw [7, 8] (fun v vi wr => ∃ k : Nat, vi = .int .i64 k ∧ k ≤ 3 ∧ wr.ownsRow W.heap.size 3 1 v k ((P.take k).map (.int .i64)) ∧ W.grownBy wr none) (fun _ vi _ => 3 - (intOf vi).toNat)
  case atStart => exact ⟨0, rfl, by omega, World.ownsRow_nil _ _ _ _, only_refl _ _⟩
  case round =>
    obtain ⟨k, rfl, hk, hO, hG⟩ := hrel
    have OO := Lib.hid hO
    have G := Lib.hid hG
    have hbase := hG.size
    have BW := BF.out.grown hG (by simp)
    have x0 := BW.cell 0
    have x1 := BW.cell 1
    simp at x0 x1
    obtain ⟨vO, hvO⟩ : ∃ v, v = u7 := ⟨_, rfl⟩
    rw [← hvO] at OO ⊢
    clear hO hG hvO BW
    by_cases hlt : k < 3
    · have i1 : (k : Int) < 3 := by omega
      have HPK := Lib.hid (HP.out k hlt)
      have HXE : Hid (((ha : Int) + (k : Int) * (hb : Int)) % 4294967296 % (64 * (n : Int)) = (((ha + k * hb) % 4294967296 % (64 * n) : Nat) : Int)) := Lib.hid (by
        simp only [Int.natCast_emod, Int.natCast_add, Int.natCast_mul]; rfl)
      go_wp2_with (at_builtin; go_must (refine wpList_append1 rfl _ _ 38 rfl W.heap.size Tryz.underlying38 intInfoS rfl (by decide) (v := vO) (by rfl) (w0 := wr) (cs := #[.int .i64 (((ha : Int) + (k : Int) * (hb : Int)) % 4294967296 % (64 * (n : Int)))]) OO.out (by rfl) rfl (by simp [Value.oneCell']) (by decide) (by omega) (by omega) ?_); intro v5 w5 hown5 hg5 hob5)
      rw [HXE.out] at hown5
      have O5 : Hid (w5.ownsRow W.heap.size 3 1 v5 (k + 1) ((P.take (k + 1)).map (.int .i64))) := Lib.hid (by rw [HPK.out, List.map_append]; exact hown5)
      have G5 : Hid (W.grownBy w5 none) := Lib.hid (only_own G.out hg5 OO.out (Nat.le_refl _))
      clear hown5 hg5 hob5
      go_wp2_with fail
      go_roundw
      case rel => exact ⟨k + 1, by go_num, by omega, O5.out, G5.out⟩
      case measure => simp [intOf]; omega
    · have i1 : ¬ (k : Int) < 3 := by omega
      have hkE : k = 3 := by omega
      have hE : P.take k = P := List.take_of_length_le (by rw [HL.out]; omega)
      obtain ⟨AO, cO, hv, h1, h2, -, h3⟩ := Rd.of_own OO.out (by decide)
      rw [hE] at h3
      have h4 : k = P.length := by rw [HL.out]; exact hkE
      rw [h4] at h1 hv
      have H1 := Lib.hid h1
      have H2 := Lib.hid h2
      have H3 := Lib.hid (h3.mono (S' := (w.heap.size ≤ ·)) (fun b hb _ => Nat.le_trans G0.out.size hb))
      rw [hv]
      clear hv h1 h2 h3 h4 hE hkE OO
      go_wp2_with fail
      go_ret
      exact ⟨AO, cO, rfl, H1.out, H2.out, H3.out, only_trans G0.out G.out⟩
end Go.Proofs.YtganfhmjklcchaaGreat

namespace Go.Proofs.YtganfhmjklcchaaGreat
open Go.RowKit
set_option linter.unusedVariables false
set_option linter.unusedSimpArgs false

/-- the error of section kind -/
def secE (bs : List Int) (kind : Int) : Nat := if kind < 1 ∨ 12 < kind then 2 else if errS bs ≠ 0 then errS bs else if rightH bs kind.toNat = true then 0 else 15
def secY (bs : List Int) (kind : Int) : List Int := if secE bs kind = 0 then secH bs kind.toNat else []
theorem secE_out {bs : List Int} {kind : Int} (h : kind < 1 ∨ 12 < kind) : secE bs kind = 2 := by unfold secE; rw [if_pos h]
theorem secE_err {bs : List Int} {kind : Int} {n : Nat} (h : 1 ≤ kind) (h2 : kind ≤ 12) (he : errS bs = n) (hn : n ≠ 0) : secE bs kind = n := by unfold secE; rw [if_neg (by omega), if_pos (by omega), he]
theorem secE_ok {bs : List Int} {k : Nat} (h : 1 ≤ k) (h2 : k ≤ 12) (he : errS bs = 0) : secE bs k = if rightH bs k = true then 0 else 15 := by unfold secE; rw [if_neg (by omega), if_neg (by omega), Int.toNat_natCast]
theorem secY_no {bs : List Int} {kind : Int} {n : Nat} (h : secE bs kind = n) (hn : n ≠ 0) : secY bs kind = [] := by unfold secY; rw [if_neg (by omega)]
theorem secY_yes {bs : List Int} {k : Nat} (h : secE bs k = 0) : secY bs k = secH bs k := by unfold secY; rw [if_pos h, Int.toNat_natCast]
def SecP (w : World) (bs : List Int) (kind : Int) (e : Ending) (w' : World) : Prop := ∃ A c, e = .returned (.tuple #[.slice A (secY bs kind).length c, .int .i64 (secE bs kind : Nat)]) ∧ Rd (w.heap.size ≤ ·) w' A ((secY bs kind).map (.int .u8)) ∧ w.grownBy w' none
theorem SecP.no {w w' : World} {bs : List Int} {kind : Int} {n : Nat} (h : secE bs kind = n) (hn : n ≠ 0) (hg : w.grownBy w' none) {c : Nat} : SecP w bs kind (.returned (.tuple #[.slice none 0 c, .int .i64 (n : Nat)])) w' :=
  ⟨none, c, by rw [secY_no h hn, h]; rfl, by rw [secY_no h hn]; exact Rd.nil, hg⟩
theorem fin22 {w w3 w7 : World} {bs : List Int} {k n : Nat} {A : Option Addr} {c : Nat} (hE : secE bs k = 0) (hX : secY bs k = secH bs k) (hn : n = (secH bs k).length) (h3 : w.grownBy w3 none) (h7 : w3.grownBy w7 (Value.slice none 0 0).ownBlock) (hr : Rd (w3.heap.size ≤ ·) w7 A ([] ++ (secH bs k).map (.int .u8))) : SecP w bs k (.returned (.tuple #[.slice A n c, .int .i64 0])) w7 :=
  ⟨A, c, by rw [hX, hE, hn]; rfl, by rw [hX]; exact hr.mono (fun b hb _ => Nat.le_trans h3.size hb), only_trans h3 h7⟩
theorem errS_le (bs : List Int) : errS bs ≤ 15 := by
  unfold errS
  repeat' split
  all_goals omega
/-- the sections whose checksum is wrong -/
def damL (bs : List Int) : List Int := if errS bs = 0 then damH bs 12 else []
theorem damL_len (bs : List Int) : (damL bs).length ≤ 12 := by
  unfold damL
  split
  · exact damH_len bs 12
  · exact Nat.zero_le _
def DamP (w : World) (bs : List Int) (e : Ending) (w' : World) : Prop := ∃ A c, e = .returned (.tuple #[.slice A (damL bs).length c, .int .i64 (errS bs : Nat)]) ∧ Rd (w.heap.size ≤ ·) w' A ((damL bs).map (.int .i64)) ∧ w.grownBy w' none
theorem DamP.no {w w' : World} {bs : List Int} {n : Nat} (h : errS bs = n) (hn : n ≠ 0) (hg : w.grownBy w' none) {c : Nat} : DamP w bs (.returned (.tuple #[.slice none 0 c, .int .i64 (n : Nat)])) w' := by
  have hd : damL bs = [] := by unfold damL; rw [if_neg (by omega)]
  exact ⟨none, c, by rw [hd, h]; rfl, by rw [hd]; exact Rd.nil, hg⟩
theorem damH_true {bs : List Int} {k : Nat} (h : rightH bs k = true) (hk : 1 ≤ k) : damH bs k = damH bs (k - 1) := by
  obtain ⟨j, rfl⟩ : ∃ j, k = j + 1 := ⟨k - 1, by omega⟩
  simp only [damH, h, if_true, List.append_nil, Nat.add_sub_cancel]
theorem damH_false {bs : List Int} {k : Nat} (h : rightH bs k = false) (hk : 1 ≤ k) : damH bs k = damH bs (k - 1) ++ [(k : Int)] := by
  obtain ⟨j, rfl⟩ : ∃ j, k = j + 1 := ⟨k - 1, by omega⟩
  simp [damH, h]
set_option maxHeartbeats 4000000 in
set_option maxRecDepth 100000 in
theorem rdamaged_any {S : Nat → Prop} (A : Option Addr) (bs : List Int) (c : Nat) (w : World) (hr : Rd S w A (bs.map (.int .u8))) (hi : InH bs) (hl : bs.length ≤ 10000000) (hc : bs.length ≤ c) (hm : c ≤ 9223372036854775807) :
    Calls Tryz.prog 61 #[.slice A bs.length c] w (DamP w bs) := by
  have HR := Lib.hid hr
  have HI := Lib.hid hi
  clear hr hi
  go_enter Tryz.func61, Tryz.ntmps61
  have KS := Lib.hid (rsummary_any A bs c w HR.out HI.out hl hc hm)
  obtain ⟨E, hE⟩ : ∃ E, E = errS bs := ⟨_, rfl⟩
  have hE15 := errS_le bs
  rw [← hE] at hE15
  by_cases he : E = 0
  · subst he
    have HE0 := Lib.hid hE.symm
    clear hE hE15
    obtain ⟨b, off, rfl, hSb, hbw, -⟩ := HR.out (by rw [List.length_map]; have := (errS_ok HE0.out).1; omega)
    obtain ⟨x, y, z, hV⟩ : ∃ x y z : Int, sumV bs = #[.int .i64 x, .int .i64 y, .int .i64 z] := ⟨_, _, _, by unfold sumV; rw [if_pos HE0.out]⟩
    have HV := Lib.hid hV
    have KR := Lib.hid (fun (w' : World) (hg : w.grownBy w' none) (k : Nat) (hk1 : 1 ≤ k) (hk2 : k ≤ 12) => right27_at b off c bs k w' (HR.out.grown hg (by simp)) HI.out HE0.out hl hc hm hk1 hk2)
    have HS : Hid (∀ e w', SumP w bs e w' → e = .returned (.tuple #[.agg #[.int .i64 x, .int .i64 y, .int .i64 z], .int .i64 ((0 : Nat) : Int)]) ∧ w.grownBy w' none) := Lib.hid (fun e w' h => by have h2 := h; unfold SumP at h2; rw [HV.out, HE0.out] at h2; exact h2)
    clear hV hSb hbw
    go_wp2_with (go_at_call 35; refine KS.out.mono ?_; intro e w2 hs; obtain ⟨rfl, hg2⟩ := HS.out _ _ hs; clear hs)
    have G2 : Hid (w.grownBy _ none) := Lib.hid (only_alloc hg2 (.cells #[.int .i64 x, .int .i64 y, .int .i64 z] 78))
    clear hg2
    go_loopw [6, 7] (fun v vi wr => ∃ k : Nat, vi = .int .i64 k ∧ 1 ≤ k ∧ k ≤ 13 ∧ wr.ownsRow w.heap.size 3 1 v (damH bs (k - 1)).length ((damH bs (k - 1)).map (.int .i64)) ∧ w.grownBy wr none) (fun _ vi _ => 13 - (intOf vi).toNat)
    case atStart => exact ⟨1, rfl, by omega, by omega, World.ownsRow_nil _ _ _ _, G2.out⟩
    case round =>
      obtain ⟨k, rfl, hk1, hk, hO, hG⟩ := hrel
      have OO := Lib.hid hO
      have G := Lib.hid hG
      obtain ⟨vO, hvO⟩ : ∃ v, v = u6 := ⟨_, rfl⟩
      rw [← hvO] at OO ⊢
      clear hO hG hvO
      by_cases hlt : k ≤ 12
      · have i1 : (k : Int) ≤ 12 := by omega
        have KR1 := Lib.hid (KR.out wr G.out k hk1 hlt)
        have hln := damH_len bs (k - 1)
        have hwz := G.out.size
        cases hR : rightH bs k with
        | true =>
          have HD := Lib.hid (damH_true hR hk1)
          rw [hR] at KR1
          clear hR
          go_wp2_with (go_at_call 88; refine KR1.out.mono ?_; rintro e w3 ⟨rfl, hg3⟩; have G3 := Lib.hid hg3; clear hg3)
          go_roundw
          case rel => exact ⟨k + 1, by go_num, by omega, by omega, by rw [Nat.add_sub_cancel, HD.out]; exact own_ext OO.out G3.out, only_trans G.out G3.out⟩
          case measure => simp [intOf]; omega
        | false =>
          have HD := Lib.hid (damH_false hR hk1)
          rw [hR] at KR1
          clear hR
          go_wp2_with (first
            | (go_at_call 88; refine KR1.out.mono ?_; rintro e w3 ⟨rfl, hg3⟩; have G3 := Lib.hid hg3; have hz3 := hg3.size; clear hg3)
            | (at_builtin; go_must (refine wpList_append1 rfl _ _ 38 rfl w.heap.size Tryz.underlying38 intInfoS rfl (by decide) (v := vO) (by rfl) (w0 := w3) (cs := #[.int .i64 k]) (own_ext OO.out G3.out) (by rfl) rfl (by simp [Value.oneCell']) (by decide) (by omega) (by omega) ?_); intro v5 w5 hown5 hg5 hob5))
          have O5 : Hid (w5.ownsRow w.heap.size 3 1 v5 (damH bs k).length ((damH bs k).map (.int .i64))) := Lib.hid (by rw [HD.out, List.map_append, List.length_append]; exact hown5)
          have G5 : Hid (w.grownBy w5 none) := Lib.hid (only_own (only_trans G.out G3.out) hg5 (own_ext OO.out G3.out) (Nat.le_refl _))
          clear hown5 hg5 hob5
          go_wp2_with fail
          go_roundw
          case rel => exact ⟨k + 1, by go_num, by omega, by omega, by rw [Nat.add_sub_cancel]; exact O5.out, G5.out⟩
          case measure => simp [intOf]; omega
      · have i1 : ¬ (k : Int) ≤ 12 := by omega
        have hkE : k - 1 = 12 := by omega
        obtain ⟨AO, cO, hv, h1, h2, -, h3⟩ := Rd.of_own OO.out (by decide)
        rw [hkE] at h3 hv
        have HL : Hid (damL bs = damH bs 12) := Lib.hid (by unfold damL; rw [if_pos HE0.out])
        have H3 := Lib.hid h3
        rw [hv]
        clear hv h1 h2 h3 hkE OO
        go_wp2_with fail
        go_ret2
        exact ⟨AO, cO, by rw [HL.out, HE0.out]; rfl, by rw [HL.out]; exact H3.out, G.out⟩
  · have HE := Lib.hid hE.symm
    have hne : ((E : Int) == 0) = false := by rw [beq_eq_false_iff_ne]; omega
    have HS : Hid (∀ e w', SumP w bs e w' → e = .returned (.tuple #[.agg (sumV bs), .int .i64 (E : Nat)]) ∧ w.grownBy w' none) := Lib.hid (fun e w' h => by rw [hE]; exact h)
    have HV : Hid (sumV bs = #[.int .i64 0, .int .i64 0, .int .i64 0]) := Lib.hid (sumV_no hE.symm he)
    have HN := Lib.hid he
    clear hE he
    go_wp2_with (go_at_call 35; refine KS.out.mono ?_; intro e w2 hs; obtain ⟨rfl, hg2⟩ := HS.out _ _ hs; rw [HV.out]; clear hs)
    go_ret2
    exact DamP.no HE.out HN.out (only_alloc (by assumption) _)
end Go.Proofs.YtganfhmjklcchaaGreat

namespace Go.Proofs.YtganfhmjklcchaaGreat
open Go.RowKit
set_option linter.unusedVariables false
set_option linter.unusedSimpArgs false

set_option maxHeartbeats 4000000 in
set_option maxRecDepth 100000 in
theorem scrc_any {S : Nat → Prop} (A : Option Addr) (bs : List Int) (c : Nat) (w : World) (hr : Rd S w A (bs.map (.int .u8))) (hl : bs.length ≤ 10000000) :
    Calls Tryz.prog 84 #[.slice A bs.length c] w (fun e w' => e = .returned (.int .u32 (crcN bs : Nat)) ∧ w' = w) := by
  have HR := Lib.hid hr
  clear hr
  go_enter Tryz.func84, Tryz.ntmps84
  go_wp2_with fail
  go_loopw [3, 8] (fun vc vi wr => ∃ (k s : Nat), vi = .int .i64 k ∧ vc = .int .u32 s ∧ k ≤ bs.length ∧ Hid (crcT (bs.take k) = s) ∧ s < 4294967296 ∧ wr = w) (fun _ vi _ => bs.length - (intOf vi).toNat)
  case atStart => exact ⟨0, 4294967295, rfl, rfl, Nat.zero_le _, Lib.hid rfl, by decide, rfl⟩
  case round =>
    obtain ⟨k, s, rfl, rfl, hk, HS, hs, rfl⟩ := hrel
    by_cases hlt : k < bs.length
    · obtain ⟨x, hx⟩ : ∃ x, bs[k]? = some x := ⟨_, List.getElem?_eq_getElem hlt⟩
      obtain ⟨xn, hxn⟩ : ∃ n : Nat, n = (x % 4294967296).toNat := ⟨_, rfl⟩
      have hxw : x % 4294967296 = (xn : Int) := by omega
      obtain ⟨b, off, eA, hS, hlt2, hc⟩ := HR.out (by simp; omega)
      subst eA
      have c0 := hc k (.int .u8 x) (by simp [hx])
      have i1 : (k : Int) < (bs.length : Int) := by omega
      have HN : Hid (crcT (bs.take (k + 1)) = crcK 8 (s ^^^ xn)) := Lib.hid (by
        obtain ⟨h1, h2⟩ := List.getElem?_eq_some_iff.1 hx
        rw [List.take_succ_eq_append_getElem h1, h2, crcT_snoc, HS.out, crcS, ← hxn])
      have hxs : s ^^^ xn < 4294967296 := xor_lt32 hs (by omega)
      have HXR := Lib.hid (xor_u32 s xn hs (by omega))
      clear hc hx hxn
      go_wp2_with fail
      rw [HXR.out]
      obtain ⟨wo, rfl⟩ : ∃ wo : World, wo = wr := ⟨_, rfl⟩
      go_loopw [3, 16] (fun vc vj wr => ∃ (j t : Nat), vj = .int .i64 j ∧ vc = .int .u32 t ∧ j ≤ 8 ∧ Hid (t = crcK j (s ^^^ xn)) ∧ t < 4294967296 ∧ wr = wo) (fun _ vj _ => 8 - (intOf vj).toNat)
      case atStart => exact ⟨0, s ^^^ xn, rfl, rfl, Nat.zero_le _, Lib.hid rfl, hxs, rfl⟩
      case round =>
        obtain ⟨j, t, rfl, rfl, hj, HT, ht, rfl⟩ := hrel
        by_cases hlt8 : j < 8
        · have i2 : (j : Int) < 8 := by omega
          by_cases hodd : t % 2 = 1
          · have ha : bits BinOp.and IntKind.u32 (t : Int) 1 = 1 := by
              have h := and_u32 t 1 ht (by decide)
              rw [and_one32, hodd] at h
              exact h
            have hb : bits BinOp.and IntKind.u32 3988292384 4294967295 = 3988292384 := by decide
            have HT2 : Hid (t / 2 ^^^ 3988292384 = crcK (j + 1) (s ^^^ xn)) := Lib.hid (by rw [crcK, ← HT.out, crc1, if_pos hodd])
            have HX2 := Lib.hid (xor_u32 (t / 2) 3988292384 (by omega) (by decide))
            have hl2 : t / 2 ^^^ 3988292384 < 4294967296 := xor_lt32 (by omega) (by decide)
            clear hodd
            go_wp2_with fail
            go_roundw
            case rel => exact ⟨j + 1, t / 2 ^^^ 3988292384, by go_num, congrArg (Value.int .u32) HX2.out, by omega, HT2, hl2, trivial⟩
            case measure => simp [intOf]; omega
          · have ha : bits BinOp.and IntKind.u32 (t : Int) 1 = 0 := by
              have h := and_u32 t 1 ht (by decide)
              rw [and_one32, show t % 2 = 0 by omega] at h
              exact h
            have hb : bits BinOp.and IntKind.u32 3988292384 0 = 0 := by decide
            have HT2 : Hid (t / 2 = crcK (j + 1) (s ^^^ xn)) := Lib.hid (by rw [crcK, ← HT.out, crc1, if_neg hodd])
            have HX2 := Lib.hid (xor_u32 (t / 2) 0 (by omega) (by decide))
            clear hodd
            go_wp2_with fail
            go_roundw
            case rel => exact ⟨j + 1, t / 2, by go_num, congrArg (Value.int .u32) (HX2.out.trans (by rw [Nat.xor_zero])), by omega, HT2, by omega, trivial⟩
            case measure => simp [intOf]; omega
        · have i2 : ¬ (j : Int) < 8 := by omega
          have hj8 : j = 8 := by omega
          have HT2 : Hid (crcT (bs.take (k + 1)) = t) := Lib.hid (by rw [HN.out, HT.out, hj8])
          clear hj8
          go_wp2_with fail
          go_roundw
          case rel => exact ⟨k + 1, t, by go_num, rfl, by omega, HT2, ht, trivial⟩
          case measure => simp [intOf]; omega
    · have i1 : ¬ (k : Int) < (bs.length : Int) := by omega
      have HE : Hid (crcN bs = s ^^^ 4294967295) := Lib.hid (by have h := HS.out; rw [List.take_of_length_le (by omega)] at h; unfold crcN; rw [h])
      have HX3 : Hid (bits BinOp.xor IntKind.u32 IntKind.u32.max (s : Int) = ((s ^^^ 4294967295 : Nat) : Int)) := Lib.hid (by rw [Nat.xor_comm]; exact xor_u32 4294967295 s (by decide) hs)
      go_wp2_with fail
      go_ret
      exact ⟨congrArg (fun x => Ending.returned (Value.int .u32 x)) (HX3.out.trans (congrArg (fun (x : Nat) => (x : Int)) HE.out.symm)), rfl⟩
end Go.Proofs.YtganfhmjklcchaaGreat
