/- law31: CompactMakesProgress: the walk of the law itself (printed by mkprog.py). For every input. -/
import Derived.Test.YtphglalphejppaaLaw31A
import Derived.Test.YtphglalphejppaaMSet
import Derived.Test.YtphglalphejppaaPChoose
import Derived.Test.YtphglalphejppaaMLevR
import Derived.Test.YtphglalphejppaaAdd
import Derived.Test.YtphglalphejppaaGenC
import Derived.Deep.CutBlock
import Derived.Deep.DeepCutAuto
namespace Go.Proofs.Ytphglalphejppaa
open Go.RowKit
set_option linter.unusedVariables false
set_option linter.unusedSimpArgs false

/-- the head of a round of compaction -/
def LR (w : World) (mb : Nat) (jn : Int) (B : Option Addr) (ms : List MarkD) (d2 : Nat) (C : Option Addr) (ts : List Tal) (f2 : Nat) (E : Option Addr) (xs : List Tal) (h2' : Nat) (n : Nat) (wx : World) : Prop :=
  ∃ (num nid : Int) (A : Option Addr) (c : Nat) (ss : List SegD), Blk wx mb 52 #[.int .i64 num, .int .i64 nid, .int .i64 jn, .slice A ss.length c, .slice B ms.length d2, .slice C ts.length f2, .slice E xs.length h2'] ∧ Rd (· ≠ mb) wx A (ss.flatMap SegD.cells) ∧ Rd (· ≠ mb) wx B (ms.flatMap MarkD.cells) ∧ Rd (· ≠ mb) wx C (ts.flatMap Tal.cells) ∧ Rd (· ≠ mb) wx E (xs.flatMap Tal.cells) ∧ PInv n num nid jn ss ms ts xs ∧ w.grownBy wx none
def Keep3 (S : Nat → Prop) (B : Option Addr) (ms : List MarkD) (C : Option Addr) (ts : List Tal) (E : Option Addr) (xs : List Tal) (wx : World) : Prop := Rd S wx B (ms.flatMap MarkD.cells) ∧ Rd S wx C (ts.flatMap Tal.cells) ∧ Rd S wx E (xs.flatMap Tal.cells)
theorem Keep3.grown {S : Nat → Prop} {B : Option Addr} {ms : List MarkD} {C : Option Addr} {ts : List Tal} {E : Option Addr} {xs : List Tal} {w w' : World} {row : Option Nat} (h : Keep3 S B ms C ts E xs w) (hg : w.grownBy w' row) (hr : ∀ b, S b → some b ≠ row) : Keep3 S B ms C ts E xs w' := ⟨h.1.grown hg hr, h.2.1.grown hg hr, h.2.2.grown hg hr⟩
theorem Keep3.mono {S S' : Nat → Prop} {B : Option Addr} {ms : List MarkD} {C : Option Addr} {ts : List Tal} {E : Option Addr} {xs : List Tal} {w : World} (h : Keep3 S B ms C ts E xs w) (hS : ∀ b, S b → b < w.heap.size → S' b) : Keep3 S' B ms C ts E xs w := ⟨h.1.mono hS, h.2.1.mono hS, h.2.2.mono hS⟩
/-- what holds ahead of a round of the first loop -/
def FR (w : World) (g : Nat) (l : List Int) (mb : Nat) (num nid jn : Int) (B : Option Addr) (ms : List MarkD) (d2 : Nat) (C : Option Addr) (ts : List Tal) (f2 : Nat) (E : Option Addr) (xs : List Tal) (h2' : Nat) (base : Nat) (A3 : Option Addr) (n c : Nat) (ss : List SegD) (wx : World) : Prop :=
  ss.length = n ∧ SegsOk ss nid ∧ LRow w g l mb #[.int .i64 num, .int .i64 nid, .int .i64 jn, .slice A3 n c, .slice B ms.length d2, .slice C ts.length f2, .slice E xs.length h2'] base A3 n c (ss.flatMap SegD.cells) wx ∧ Keep3 (fun b => (base ≤ b ∧ b < mb) ∧ (Value.slice A3 n c).ownBlock ≠ some b) B ms C ts E xs wx
theorem MOk.start {num nid jn : Int} {ss : List SegD} {ms : List MarkD} {ts xs : List Tal} (h1 : 0 ≤ num) (h2 : num ≤ 8) (h3 : 0 ≤ jn) (h4 : 0 ≤ nid) (h5 : nid ≤ 26) (h6 : ss.length ≤ 13) (h7 : SegsOk ss nid) (h8 : ms.length ≤ 100) (h9 : ms.Pairwise Mlt) (h10 : ts.length ≤ 4) (h11 : TSrt ts) (h12 : xs.length ≤ 4) (h13 : TSrt xs) : PInv 0 num nid jn ss ms ts xs where
  ok := { hnum := by omega, hnid := by omega, hjn := h3, len := by omega, asc := h7.1, seg := fun s hs => by have := h7.2 s hs; unfold SegOk at this; unfold SegC; omega, ml := by omega, ma := h9, tl := by omega, ta := h11, xl := by omega, xa := h13 }
  hnum := by simpa using h2
  hnid := by simp; omega
  len := by omega
  lev := fun s hs => by have := h7.2 s hs; unfold SegOk at this; simp; omega
set_option maxHeartbeats 8000000 in
set_option maxRecDepth 100000 in
theorem law_progress (A : Option Addr) (l0 : List Int) (d : Nat) (w : World) (h : Rd (fun _ => True) w A (l0.map (.int .u8))) (hc : l0.length ≤ d) (hcm : d ≤ maxLen) (hx : ∀ x ∈ l0, 0 ≤ x ∧ x ≤ 255) :
    Calls Try.prog 8 #[.slice A l0.length d] w (TrueExt w) := by
  have HX := Lib.hid hx
  have HL := Lib.hid h
  clear hx h
  go_enter Try.func8, Try.ntmps8
  go_wp2_with (go_at_call 9; refine (awake_any _).mono ?_; rintro e w1 ⟨rfl, hg1⟩)
  refine (new_any A l0 d 300 _ (HL.out.grown hg1 (by simp)) hc hcm (by omega) HX.out).mono ?_
  rintro e w2 ⟨rfl, h2, hg2, hlt2⟩
  have G2 : Hid (w.grownBy w2 none) := Lib.hid (only_trans hg1 hg2)
  have hs1 := hg1.size
  have hs2 := hg2.size
  generalize w1.heap.size = g at *
  obtain ⟨l, hl⟩ : ∃ l, l = l0.take 300 := ⟨_, rfl⟩
  rw [← hl] at h2
  clear HL HX hg1 hg2 hl
  go_wp2_with fail
  refine (manifest_some g l _ w2 h2).mono ?_
  rintro e w3 ⟨A3, B, C, E, c, d2, f2, h2', num, jn, nid, ss0, ms, ts, xs, k3, rfl, hn1, hn2, hj1, hj2, hi1, hi2, hn3, hok, hrow, hm1, -, -, hm4, hm5, -, -, ht3, ht4, ht5, -, -, hx3, hx4, hx5, hc3, hg3⟩
  obtain ⟨base, hbase⟩ : ∃ b, b = w2.heap.size := ⟨_, rfl⟩
  obtain ⟨mb, hmb⟩ : ∃ b, b = w3.heap.size := ⟨_, rfl⟩
  obtain ⟨n, hn⟩ : ∃ n, n = ss0.length := ⟨_, rfl⟩
  have hgb : g < base := by omega
  have hs3 := hg3.size
  have hgm : g ≠ mb := by omega
  have hwg : w.heap.size ≤ g := hs1
  have hwb : w.heap.size ≤ base := by omega
  have hbm : base ≤ mb := by omega
  rw [← hn]
  have HST := Lib.hid (fun (ss : List SegD) (hl : ss.length ≤ 13) (hs : SegsOk ss nid) => MOk.start (jn := jn) hn1 hn2 hj1 hi1 hi2 hl hs hm1 hm4.1 ht3 ht4 hx3 hx4)
  obtain ⟨W4, hW4⟩ : ∃ W, W = w3.alloc (.cells #[.int .i64 num, .int .i64 nid, .int .i64 jn, .slice A3 n c, .slice B ms.length d2, .slice C ts.length f2, .slice E xs.length h2'] 52) := ⟨_, rfl⟩
  have RW0 : Hid (LRow w g l mb #[.int .i64 num, .int .i64 nid, .int .i64 jn, .slice A3 n c, .slice B ms.length d2, .slice C ts.length f2, .slice E xs.length h2'] base A3 n c (ss0.flatMap SegD.cells) W4) := Lib.hid (by rw [hW4]; exact ⟨by rw [hmb]; exact Blk.new w3 _ _, by rw [hn, hbase]; exact hrow.alloc _, ⟨k3, hc3.alloc _⟩, only_alloc (only_fresh G2.out hg3 hwg) _⟩)
  have hap : w3.grownBy W4 none := by rw [hW4]; exact only_alloc (only_refl _ _) _
  have hkp : Keep3 (fun b => (base ≤ b ∧ b < mb) ∧ (Value.slice A3 n c).ownBlock ≠ some b) B ms C ts E xs W4 := Keep3.grown (w := w3) (Keep3.mono (S := fun b => w2.heap.size ≤ b ∧ (Value.slice A3 ss0.length c).ownBlock ≠ some b) ⟨hm5, ht5, hx5⟩ (fun b hb hlt => by rw [hbase, hmb, hn]; exact ⟨⟨hb.1, hlt⟩, hb.2⟩)) hap (by simp)
  have F0 : Hid (FR w g l mb num nid jn B ms d2 C ts f2 E xs h2' base A3 n c ss0 W4) := Lib.hid ⟨hn.symm, hok, RW0.out, hkp⟩
  have HW4 := Lib.hid hW4.symm
  clear hW4
  have HN := Lib.hid hn
  have HN3 : Hid (n ≤ 13) := Lib.hid (by rw [hn]; exact hn3)
  have HMB := Lib.hid hmb.symm
  clear h2 hrow hc3 hg3 hmb hbase hok hn hn1 hn2 hj1 hj2 hi1 hi2 hn3 hm1 hm4 hm5 ht3 ht4 ht5 hx3 hx4 hx5 hap hkp RW0
  go_upto_block 0 with fail
  rw [HW4.out, HMB.out]
  clear HW4
  go_wp2_with fail
  go_loopw [5] (fun vi wx => ∃ (k : Nat) (ss : List SegD), vi = .int .i64 k ∧ k ≤ n ∧ FR w g l mb num nid jn B ms d2 C ts f2 E xs h2' base A3 n c ss wx) (fun vi _ => n - (intOf vi).toNat)
  case atStart => exact ⟨0, ss0, rfl, Nat.zero_le _, F0.out⟩
  case round =>
    obtain ⟨k, ss, rfl, hk, hsl, hso, hR, hkp⟩ := hrel
    have HSL := Lib.hid hsl
    have HSO := Lib.hid hso
    have R := Lib.hid hR
    have KP := Lib.hid hkp
    have c3 := hR.c3
    clear hsl hso hR hkp
    by_cases hkn : k < n
    · obtain ⟨gr, rfl, hgr1, hgr2, hgr3⟩ := R.out.row (by omega)
      have i2 : (k : Int) < (n : Int) := by omega
      obtain ⟨s, hs⟩ : ∃ s, ss[k]? = some s := ⟨_, List.getElem?_eq_getElem (by rw [HSL.out]; exact hkn)⟩
      have HS := Lib.hid hs
      have HC1 : Hid ((ss.flatMap SegD.cells)[k * 7 + 1]? = some (.int .i64 s.level)) := Lib.hid (by
        obtain ⟨q1, q2⟩ := List.getElem?_eq_some_iff.1 hs
        rw [flat_at SegD.cells 7 SegD.cells_len ss k 1 q1 (by omega), q2]; rfl)
      have hkn7 : k * 7 + 2 < n * 7 := by omega
      have HKN := Lib.hid hkn
      clear hs
      obtain ⟨W0, rfl⟩ : ∃ W0 : World, W0 = wr := ⟨_, rfl⟩
      go_upto_region 8 with fail
      refine wp_region_gen 7 (JC [some (.pointer (some ⟨mb, 3, none⟩)), some (.slice (some ⟨gr, 0, none⟩) (n) (c)), some (.int .i64 ((k : Int))), some (.pointer (some ⟨g, 0, none⟩)), none, some (.pointer (some ⟨gr, k * 7, none⟩)), some (.pointer (some ⟨gr, k * 7 + 1, none⟩))] (fun D u wx => ∃ v : Int, (D 4 = true → u 4 = .int .i64 v) ∧ (0 ≤ v ∧ v ≤ 1) ∧ LRow w g l mb #[.int .i64 num, .int .i64 nid, .int .i64 jn, .slice (some ⟨gr, 0, none⟩) n c, .slice B ms.length d2, .slice C ts.length f2, .slice E xs.length h2'] base (some ⟨gr, 0, none⟩) n c (ss.flatMap SegD.cells) wx ∧ W0.grownBy wx (some g))) (by kernel_rfl) (by kernel_rfl) ?_ ?_ ?_
      · intro u
        exact ⟨(fun j c _ h => by cases h), ⟨0, (fun h => by cases h), by omega, by simpa using (R.out).drew, only_drew (only_refl _ _)⟩⟩
      · intro AA hA
        have hasz : AA.tmps.size = 108 := by rw [hA]; kernel_rfl
        have ea3 : AA.eval (.tmp 3) = .pointer (some ⟨g, 0, none⟩) := by rw [hA]; kernel_rfl
        have ea4 : AA.eval (.tmp 4) = .pointer (some ⟨mb, 0, none⟩) := by rw [hA]; kernel_rfl
        have ea5 : AA.eval (.tmp 5) = .int .i64 ((k : Int)) := by rw [hA]; kernel_rfl
        clear hA
        simp only [List.take_succ_cons, List.take_zero]
        refine .cons ?_ (.cons ?_ (.cons ?_ (.cons ?_ (.cons ?_ (.cons ?_ (.cons ?_ (.nil)))))))
        · exact gd_gen (by kernel_rfl) (Want.none_ rfl) rfl (fun D u w v h => by simpa [updB, upd] using h) (fun D u ρ w kn => by
            have e0 := kn.own 4 (c := .pointer (some ⟨mb, 0, none⟩)) (by kernel_rfl) ea4
            simp [execOp, kn.rho.con, e0, go_sem])
        · exact gd_gen (by kernel_rfl) (Want.none_ rfl) rfl (fun D u w v h => by simpa [updB, upd] using h) (fun D u ρ w kn => by
            have e0 := kn.con 0 29 (c := .pointer (some ⟨mb, 3, none⟩)) (by kernel_rfl) (by omega) (by kernel_rfl) rfl
            have f0 := (show w.cell? ⟨mb, 3, none⟩ = some (.slice (some ⟨gr, 0, none⟩) n c) from (by obtain ⟨v, x1, x2, x4, x5⟩ := kn.ext; exact x4.c3))
            simp [execOp, kn.rho.con, e0, f0, go_sem])
        · exact gd_gen (by kernel_rfl) (Want.none_ rfl) rfl (fun D u w v h => by simpa [updB, upd] using h) (fun D u ρ w kn => by
            have e0 := kn.own 5 (c := .int .i64 ((k : Int))) (by kernel_rfl) ea5
            simp [execOp, kn.rho.con, e0, go_sem])
        · exact gd_gen (by kernel_rfl) (Want.none_ rfl) rfl (fun D u w v h => by simpa [updB, upd] using h) (fun D u ρ w kn => by
            have e0 := kn.own 3 (c := .pointer (some ⟨g, 0, none⟩)) (by kernel_rfl) ea3
            simp [execOp, kn.rho.con, e0, go_sem])
        · refine gd_call (by kernel_rfl) (Want.none_ rfl) 15 (fun D u ρ wx kn hD => ?_)
          have e0 := kn.con 3 32 (c := .pointer (some ⟨g, 0, none⟩)) (by kernel_rfl) (by omega) (by kernel_rfl) rfl
          obtain ⟨v, x1, x2, x4, x5⟩ := kn.ext
          obtain ⟨kc, hkc⟩ := x4.2.2.1
          refine ⟨#[.pointer (some ⟨g, 0, none⟩), .int .i64 2], ?_, (next_some g l kc 2 wx hkc (by omega) (by omega)).mono ?_⟩
          · simp only [execOp, resolve, Deferred.ofValue, List.map_toArray, List.map_cons, List.map_nil, e0, kn.rho.con, kn.rho.fn]
            simp [go_sem]
          · rintro e w' ⟨v', k', rfl, hv', hc', hg'⟩
            exact ⟨_, rfl, (fun c h => by cases h), v', (fun _ => upd_at _ _ _), by omega, x4.next hc' hg' hgb hgm hwg, only_trans x5 hg'⟩
        · exact gd_gen (by kernel_rfl) (Want.none_ rfl) rfl (fun D u w v h => by simpa [updB, upd] using h) (fun D u ρ w kn => by
            have e0 := kn.con 1 30 (c := .slice (some ⟨gr, 0, none⟩) (n) (c)) (by kernel_rfl) (by omega) (by kernel_rfl) rfl
            have e1 := kn.con 2 31 (c := .int .i64 ((k : Int))) (by kernel_rfl) (by omega) (by kernel_rfl) rfl
            simp [execOp, kn.rho.con, e0, e1, go_sem, hkn])
        · exact gd_gen (by kernel_rfl) (Want.none_ rfl) rfl (fun D u w v h => by simpa [updB, upd] using h) (fun D u ρ w kn => by
            have e0 := kn.con 5 34 (c := .pointer (some ⟨gr, k * 7, none⟩)) (by kernel_rfl) (by omega) (by kernel_rfl) rfl
            simp [execOp, kn.rho.con, e0, go_sem])
      · intro D u w9 hJ hD
        obtain ⟨hcn, v, x1, x2, x4, x5⟩ := hJ
        have e4 : u 4 = .int .i64 v := x1 (hD 4 (by omega))
        have e6 : u 6 = .pointer (some ⟨gr, k * 7 + 1, none⟩) := hcn 6 _ rfl (hD 6 (by omega))
        obtain ⟨z1, z2⟩ := x4.cell HC1.out
        have R9 := x4.put (i := k * 7 + 1) (by omega) hgb hwb (.int .i64 v)
        have hs9 : w9.grownBy (w9.setCell ⟨gr, k * 7 + 1, none⟩ (.int .i64 v)) (some gr) := only_setCell (only_refl _ _) (p := ⟨gr, k * 7 + 1, none⟩) (.inl rfl) _
        rw [seg_put1 HS.out] at R9
        have hs1 := set_at (y := s.at_ v s.tier) HS.out
        have hC2 : ((ss.set k (s.at_ v s.tier)).flatMap SegD.cells)[k * 7 + 2]? = some (.int .i64 s.tier) := by
          obtain ⟨q1, q2⟩ := List.getElem?_eq_some_iff.1 hs1
          rw [flat_at SegD.cells 7 SegD.cells_len _ k 2 q1 (by omega), q2]; rfl
        obtain ⟨y1, y2⟩ := R9.cell hC2
        have hc3 := R9.c3
        have R10 := R9.put (i := k * 7 + 2) (by omega) hgb hwb (.int .i64 0)
        rw [seg_put2 hs1 0, List.set_set] at R10
        have K10 := ((KP.out.grown x5 (fun b hb e => by injection e; omega)).grown hs9 (fun b hb e => hb.2 (by injection e with e; rw [e]; rfl))).grown (only_setCell (only_refl _ _) (p := ⟨gr, k * 7 + 2, none⟩) (.inl rfl) (.int .i64 0)) (fun b hb e => hb.2 (by injection e with e; rw [e]; rfl))
        have F10 : Hid (FR w g l mb num nid jn B ms d2 C ts f2 E xs h2' base (some ⟨gr, 0, none⟩) n c (ss.set k (s.at_ v 0)) _) := Lib.hid ⟨by rw [List.length_set]; exact HSL.out, HSO.out.set_ HS.out (v := v) (t := 0) (by omega) (by omega), R10, K10⟩
        simp only [List.take_succ_cons, List.take_zero, List.drop_succ_cons, List.drop_zero, putAll]
        rw [e4, e6]
        obtain ⟨wv, hwv⟩ : ∃ wv, wv = w9.setCell ⟨gr, k * 7 + 1, none⟩ (.int .i64 v) := ⟨_, rfl⟩
        rw [← hwv] at y1 y2 hc3 F10
        have HWV := Lib.hid hwv.symm
        clear hcn x1 x4 x5 e4 e6 hD hs1 hC2 R9 R10 K10 hs9 hwv
        go_upto_region 9 with fail
        rw [HWV.out]
        clear z1 z2 HWV
        have hn13 := HN3.out
        have hwk : IntKind.i64.wrap ((k : Int) + 1) = (k : Int) + 1 := IntWalk.i64_in _ (by omega)
        go_wp2_with fail
        go_roundw
        case rel => exact ⟨k + 1, _, by go_num, HKN.out, F10.out⟩
        case measure => have := HKN.out; simp [intOf]; omega
    · have i2 : ¬ ((k : Int) < (n : Int)) := by omega
      go_wp2_with fail
      have L0 : Hid (LR w mb jn B ms d2 C ts f2 E xs h2' 0 wr) := Lib.hid (by
        obtain ⟨A9, c9, e9, -, -, -, hr9⟩ := Rd.of_own R.out.2.1 (by decide)
        injection e9 with e91 e92 e93
        subst e91 e93
        have hne := blk_norow R.out.1 R.out.2.1 (by decide)
        have hlen := HSL.out
        refine ⟨num, nid, A3, c, ss, by rw [hlen]; exact R.out.1, fun hn => ?_, KP.out.1.mono (fun b hb _ e => by rw [e] at hb; omega), KP.out.2.1.mono (fun b hb _ e => by rw [e] at hb; omega), KP.out.2.2.mono (fun b hb _ e => by rw [e] at hb; omega), HST.out ss (by rw [hlen]; exact HN3.out) HSO.out, R.out.2.2.2⟩
        obtain ⟨b, o, e, hb, hlt, hc⟩ := hr9 hn
        have hnn : 0 < n := by rw [← hlen]; rw [flat_len _ 7 SegD.cells_len] at hn; omega
        obtain ⟨gr, e2, h1, h2, h3⟩ := R.out.row hnn
        rw [e] at e2; injection e2 with e2; injection e2 with e2
        exact ⟨b, o, e, by rw [e2]; exact h3, hlt, hc⟩)
      clear c3 R KP HSL HSO HST F0
      go_loopw [6] (fun vi wx => ∃ q : Nat, vi = .int .i64 q ∧ q ≤ 20 ∧ LR w mb jn B ms d2 C ts f2 E xs h2' q wx) (fun vi _ => 20 - (intOf vi).toNat)
      case atStart => exact ⟨0, rfl, by omega, L0.out⟩
      case round =>
        obtain ⟨q, rfl, hq, num, nid, A, c, ss, hB, hA, hM, hT, hX, hI, hG⟩ := hrel
        have hq20 : q < 20 := by have := hI.len; omega
        have i1 : (q : Int) < 20 := by omega
        have HB := Lib.hid hB
        have HA := Lib.hid hA
        have HM := Lib.hid hM
        have HT := Lib.hid hT
        have HXX := Lib.hid hX
        have HI := Lib.hid hI
        have G := Lib.hid hG
        have hsl := hI.ok.len
        have hnum := hI.ok.hnum
        have hnid := hI.ok.hnid
        have hnum1 : num < 1000 := by have := hI.hnum; omega
        have hnid1 : nid < 1000 := by have := hI.hnid; omega
        have hlen20 := hI.len
        have hseg : ∀ s ∈ ss, 0 ≤ s.level ∧ s.level ≤ 1000 ∧ 0 ≤ s.tier ∧ s.tier ≤ 1000 := fun s hs => by
          have := hI.ok.seg s hs; unfold SegC at this; omega
        have HSEG := Lib.hid hseg
        have hofk : ∀ k, (ofK ss k).Pairwise (· ≤ ·) := fun k => by
          have h1 : (ofK ss k).Pairwise (· < ·) := by
            unfold ofK ofL
            exact List.pairwise_map.2 ((show AscId ss from hI.ok.asc).sublist (List.filter_sublist ..))
          exact h1.imp (fun h => Int.le_of_lt h)
        have KC := Lib.hid (pchoose_any num nid jn A ss c B ms.length d2 C ts.length f2 E xs.length h2' wr hA (by omega) hseg hofk)
        clear hB hA hM hT hX hI hG hseg hofk
        have b0 := HB.out.cell 0
        have b1 := HB.out.cell 1
        have b2 := HB.out.cell 2
        have b3 := HB.out.cell 3
        have b4 := HB.out.cell 4
        have b5 := HB.out.cell 5
        have b6 := HB.out.cell 6
        simp at b0 b1 b2 b3 b4 b5 b6
        go_wp2_with fail
        refine KC.out.mono ?_
        rintro e W5 ⟨A5, c5, acc, hbo, rfl, hc5, hm5, hr5, hg5⟩
        clear b0 b1 b2 b3 b4 b5 b6
        cases acc with
        | none =>
          simp only [chL, List.length_nil]
          have G5 := Lib.hid (only_trans G.out hg5)
          clear hbo hc5 hm5 hr5 hg5
          go_wp2_with fail
          go_ret
          exact ⟨rfl, G5.out⟩
        | some b =>
          have h4 : 4 ≤ (ofK ss b).length := by obtain ⟨D, h1, -⟩ := hbo; exact h1.2.1
          obtain ⟨hL4, hids, hlv, hfind, hb0, hb1, hrl, hmo, hsc, hnx⟩ := HI.out.next hq20 h4
          obtain ⟨L, hL⟩ : ∃ L, L = chL (ofK ss) (some b) := ⟨_, rfl⟩
          rw [← hL] at hL4 hids hlv hfind hrl hmo hnx hc5 hr5 ⊢
          have HB5 := Lib.hid (HB.out.grown hg5 (by simp))
          have HA5 := Lib.hid (HA.out.grown hg5 (by simp))
          have HM5 := Lib.hid (HM.out.grown hg5 (by simp))
          have HT5 := Lib.hid (HT.out.grown hg5 (by simp))
          have HX5 := Lib.hid (HXX.out.grown hg5 (by simp))
          have HI5 := Lib.hid (hr5.mono (S' := (wr.heap.size ≤ ·)) (fun _ h _ => h))
          have G5 := Lib.hid (only_trans G.out hg5)
          have HOK := Lib.hid HI.out.ok
          have HIDS := Lib.hid hids
          have HMO := Lib.hid hmo
          have HSC := Lib.hid hsc
          have HNX := Lib.hid hnx
          have HFD := Lib.hid hfind
          have HL4 := Lib.hid hL4
          have hlb : b.1 + 1 ≤ 1000 := by omega
          obtain ⟨lv, hlvv⟩ : ∃ lv, lv = b.1 + 1 := ⟨_, rfl⟩
          rw [← hlvv] at hlv hlb HSC HNX HFD
          have HLVV := Lib.hid hlvv
          clear hlvv
          have hmb5 : mb < W5.heap.size := HB5.out.lt
          have KL : Hid (∀ W, W5.grownBy W none → Calls Try.prog 24 #[.agg #[.int .i64 num, .int .i64 nid, .int .i64 jn, .slice A ss.length c, .slice B ms.length d2, .slice C ts.length f2, .slice E xs.length h2'], .slice A5 4 c5] W (LevPost lv W)) := Lib.hid (fun W hW => by
            have := level_any num nid jn A ss c B ms.length d2 C ts.length f2 E xs.length h2' A5 L c5 W (HA5.out.grown hW (by simp)) (HI5.out.grown hW (by simp)) (by omega) (by omega) (fun s hs => ⟨(HSEG.out s hs).1, (HSEG.out s hs).2.1⟩)
            rw [hL4, hlv] at this
            exact this)
          have KR : Hid (∀ W, W5.grownBy W none → Calls Try.prog 26 #[.agg #[.int .i64 num, .int .i64 nid, .int .i64 jn, .slice A ss.length c, .slice B ms.length d2, .slice C ts.length f2, .slice E xs.length h2'], .slice A5 4 c5] W (ManiOut W (num + 1) nid jn B ms.length d2 C ts.length f2 E xs.length h2' (remL ss L))) := Lib.hid (fun W hW => by
            have := rremove_any num nid jn A ss c B ms d2 C ts f2 E xs h2' A5 L c5 W (HA5.out.grown hW (by simp)) (HM5.out.grown hW (by simp)) (HT5.out.grown hW (by simp)) (HX5.out.grown hW (by simp)) (HI5.out.grown hW (by simp)) (by omega) HOK.out hnum1 HIDS.out
            rw [hL4] at this
            exact this)
          rw [hL4]
          clear hbo hc5 hm5 hr5 hg5 hids hmo hsc hnx hfind hL hlv hL4 h4
          have b0 := HB5.out.cell 0
          have b1 := HB5.out.cell 1
          have b2 := HB5.out.cell 2
          have b3 := HB5.out.cell 3
          have b4 := HB5.out.cell 4
          have b5 := HB5.out.cell 5
          have b6 := HB5.out.cell 6
          simp at b0 b1 b2 b3 b4 b5 b6
          go_wp2_with fail
          refine (KL.out _ (only_refl _ _)).mono ?_
          rintro e w6 ⟨rfl, hg6⟩
          clear b0 b1 b2 b3 b4 b5 b6
          have HB6 := HB5.out.grown hg6 (by simp)
          have G6 := Lib.hid hg6
          have b0 := HB6.cell 0
          have b1 := HB6.cell 1
          have b2 := HB6.cell 2
          have b3 := HB6.cell 3
          have b4 := HB6.cell 4
          have b5 := HB6.cell 5
          have b6 := HB6.cell 6
          simp at b0 b1 b2 b3 b4 b5 b6
          clear hg6
          go_wp2_with fail
          refine (KR.out _ G6.out).mono ?_
          rintro e w7 ⟨A7, c7, rfl, hc7, hm7, hr7, hg7⟩
          clear b0 b1 b2 b3 b4 b5 b6 HB6
          obtain ⟨g9, hg9⟩ : ∃ g9, g9 = w7.heap.size := ⟨_, rfl⟩
          obtain ⟨n7, hn7⟩ : ∃ n7, n7 = (remL ss L).length := ⟨_, rfl⟩
          rw [← hn7] at hc7 hrl ⊢
          obtain ⟨W9, hW9⟩ : ∃ W9, W9 = w7.alloc (.cells #[.int .i64 (num + 1), .int .i64 nid, .int .i64 jn, .slice A7 n7 c7, .slice B ms.length d2, .slice C ts.length f2, .slice E xs.length h2'] 52) := ⟨_, rfl⟩
          have G67 := only_trans G6.out hg7
          have hq7 : w7.grownBy W9 none := by rw [hW9]; exact only_alloc (only_refl _ _) _
          have G9 := Lib.hid (only_trans G67 hq7)
          have hs9 : g9 < W9.heap.size := by rw [hW9, hg9]; simp
          have hm9 : mb < g9 := by have := G67.size; omega
          have B9 := Lib.hid ((show Blk W9 g9 52 #[.int .i64 (num + 1), .int .i64 nid, .int .i64 jn, .slice A7 n7 c7, .slice B ms.length d2, .slice C ts.length f2, .slice E xs.length h2'] from by rw [hW9, hg9]; exact Blk.new w7 _ _))
          have HR7 := Lib.hid (hr7.grown hq7 (by simp))
          have HW9 := Lib.hid hW9.symm
          have HG9 := Lib.hid hg9.symm
          have HN7 := Lib.hid hn7
          have KA : Hid (Calls Try.prog 27 #[.agg #[.int .i64 (num + 1), .int .i64 nid, .int .i64 jn, .slice A7 n7 c7, .slice B ms.length d2, .slice C ts.length f2, .slice E xs.length h2'], .agg #[.int .i64 0, .int .i64 lv, .int .i64 0, .int .i64 1, .int .i64 0, .int .i64 1, .int .i64 0]] W9 (ManiOut W9 (num + 1 + 1) (nid + 1) jn B ms.length d2 C ts.length f2 E xs.length h2' (remL ss L ++ [newSeg nid lv]))) := Lib.hid (by
            have := radd_any (num + 1) nid jn A7 (remL ss L) c7 B ms d2 C ts f2 E xs h2' ⟨0, lv, 0, 1, 0, 1, 0⟩ (newSeg nid lv) W9 HR7.out (HM5.out.grown G9.out (by simp)) (HT5.out.grown G9.out (by simp)) (HX5.out.grown G9.out (by simp)) HMO.out (by have := HI.out.hnum; omega) hnid1 (by rw [← hn7]; omega) HSC.out rfl
            rw [← hn7] at this
            exact this)
          clear hW9 hg9 hn7 G67 hq7 hg7 hr7
          go_upto_region 20 with fail
          rw [HG9.out, HW9.out]
          clear HW9 HG9
          have b0 := B9.out.cell 0
          have b1 := B9.out.cell 1
          have b2 := B9.out.cell 2
          have b3 := B9.out.cell 3
          have b4 := B9.out.cell 4
          have b5 := B9.out.cell 5
          have b6 := B9.out.cell 6
          simp at b0 b1 b2 b3 b4 b5 b6
          go_wp2_with fail
          refine KA.out.mono ?_
          rintro e w10 ⟨A10, c10, rfl, hc10, hm10, hr10, hg10⟩
          clear b0 b1 b2 b3 b4 b5 b6
          obtain ⟨g11, hg11⟩ : ∃ g11, g11 = w10.heap.size := ⟨_, rfl⟩
          obtain ⟨n10, hn10⟩ : ∃ n10, n10 = (remL ss L ++ [newSeg nid lv]).length := ⟨_, rfl⟩
          have hn10s : n10 + 3 = ss.length := by rw [hn10, List.length_append]; have := HN7.out; simp; omega
          rw [← hn10] at hc10 ⊢
          obtain ⟨W11, hW11⟩ : ∃ W11, W11 = w10.alloc (.cells #[.int .i64 (num + 1 + 1), .int .i64 (nid + 1), .int .i64 jn, .slice A10 n10 c10, .slice B ms.length d2, .slice C ts.length f2, .slice E xs.length h2'] 52) := ⟨_, rfl⟩
          have hq10 : w10.grownBy W11 none := by rw [hW11]; exact only_alloc (only_refl _ _) _
          have G11 := Lib.hid (only_trans (only_trans G9.out hg10) hq10)
          have hs11 : g11 < W11.heap.size := by rw [hW11, hg11]; simp
          have hm11 : mb < g11 := by have := hg10.size; omega
          have B11 := Lib.hid ((show Blk W11 g11 52 #[.int .i64 (num + 1 + 1), .int .i64 (nid + 1), .int .i64 jn, .slice A10 n10 c10, .slice B ms.length d2, .slice C ts.length f2, .slice E xs.length h2'] from by rw [hW11, hg11]; exact Blk.new w10 _ _))
          have HR10 := Lib.hid ((hr10.mono (S' := (· ≠ mb)) (fun b hb _ e => by have h1 : W9.heap.size ≤ b := hb; omega)).grown hq10 (by simp))
          have HB11 := Lib.hid (HB5.out.grown G11.out (by simp))
          have HW11 := Lib.hid hW11.symm
          have HG11 := Lib.hid hg11.symm
          have HN10 := Lib.hid hn10
          have i3 : ¬ ((ss.length : Int) ≤ (n10 : Int)) := by omega
          clear hW11 hg11 hn10 hq10 hg10 hr10
          go_upto_region 21 with fail
          rw [HG11.out, HW11.out]
          clear HW11 HG11
          have c3 := HB11.out.cell 3
          have d3 := B11.out.cell 3
          simp at c3 d3
          go_wp2_with fail
          clear c3 d3
          go_loopw [13] (fun vi wx => ∃ i : Nat, vi = .int .i64 i ∧ i ≤ 4 ∧ W11.grownBy wx none) (fun vi _ => 4 - (intOf vi).toNat)
          case atStart => exact ⟨0, rfl, by omega, only_refl _ _⟩
          case round =>
            obtain ⟨i, rfl, hi, hGi⟩ := hrel
            have G0 := Lib.hid hGi
            clear hGi
            by_cases hi4 : i < 4
            · have hir := HI5.out.grown (only_trans G11.out G0.out) (by simp)
              obtain ⟨b5, o5, x, rfl, hc5, hx5⟩ := hir.int_at (k := i) (by rw [HL4.out]; exact hi4)
              have hb5 : b5 < wr.heap.size := by
                obtain ⟨b', o', e', -, hb', -⟩ := hir (by rw [List.length_map, HL4.out]; omega)
                injection e' with e'; injection e' with e1 e2; subst e1; exact hb'
              obtain ⟨s, hF, hlt⟩ := HFD.out x (by rw [← hx5.out]; exact getD_mem L 0 (by rw [HL4.out]; exact hi4))
              have KX : Hid (∀ W, W11.grownBy W none → Calls Try.prog 28 #[.agg #[.int .i64 num, .int .i64 nid, .int .i64 jn, .slice A ss.length c, .slice B ms.length d2, .slice C ts.length f2, .slice E xs.length h2'], .int .i64 x] W (RetExt (.tuple #[.agg #[.int .i64 s.id, .int .i64 s.level, .int .i64 s.tier, .int .i64 s.count, .int .i64 s.min, .int .i64 s.max, .int .i64 s.size], .bool true]) W)) := Lib.hid (fun W hW => (rfind_any num nid jn A ss c B ms.length d2 C ts.length f2 E xs.length h2' x W (HA5.out.grown (only_trans G11.out hW) (by simp)) (by omega)).mono fun e w' he => find_some hF he)
              have HBI := Lib.hid (HB11.out.grown G0.out (by simp))
              have i4 : (i : Int) < 4 := by omega
              have i5 : ¬ (lv ≤ s.level) := by omega
              have i6 : (0 : Int) ≤ (i : Int) := by omega
              clear hir hx5 hF hlt
              obtain ⟨W0, rfl⟩ : ∃ W0 : World, W0 = wr := ⟨_, rfl⟩
              go_upto_region 26 with fail
              refine wp_region_gen 11 (JC [some (.agg #[.int .i64 num, .int .i64 nid, .int .i64 jn, .slice A ss.length c, .slice B ms.length d2, .slice C ts.length f2, .slice E xs.length h2']), some (.slice (some ⟨b5, o5, none⟩) 4 c5), some (.int .i64 ((i : Int))), some (.pointer (some ⟨b5, o5 + i, none⟩)), some (.int .i64 (x)), some (.tuple #[.agg #[.int .i64 s.id, .int .i64 s.level, .int .i64 s.tier, .int .i64 s.count, .int .i64 s.min, .int .i64 s.max, .int .i64 s.size], .bool true]), some (.tuple #[.agg #[.int .i64 s.id, .int .i64 s.level, .int .i64 s.tier, .int .i64 s.count, .int .i64 s.min, .int .i64 s.max, .int .i64 s.size], .bool true]), some (.agg #[.int .i64 s.id, .int .i64 s.level, .int .i64 s.tier, .int .i64 s.count, .int .i64 s.min, .int .i64 s.max, .int .i64 s.size]), some (.bool true), none, none] (fun D u wx => W0.grownBy wx none ∧ (D 9 = true → ∃ gb, u 9 = .pointer (some ⟨gb, 0, none⟩) ∧ W0.heap.size ≤ gb ∧ Blk wx gb 29 (if D 10 = true then #[.int .i64 s.id, .int .i64 s.level, .int .i64 s.tier, .int .i64 s.count, .int .i64 s.min, .int .i64 s.max, .int .i64 s.size] else #[.int .i64 0, .int .i64 0, .int .i64 0, .int .i64 0, .int .i64 0, .int .i64 0, .int .i64 0])) ∧ (D 10 = true → D 9 = true))) (by kernel_rfl) (by kernel_rfl) ?_ ?_ ?_
              · intro u
                exact ⟨(fun j c _ h => by cases h), ⟨only_drew (only_refl _ _), (fun h => by cases h), fun h => by cases h⟩⟩
              · intro AA hA
                have hasz : AA.tmps.size = 108 := by rw [hA]; kernel_rfl
                have ea4 : AA.eval (.tmp 4) = .pointer (some ⟨mb, 0, none⟩) := by rw [hA]; kernel_rfl
                have ea7 : AA.eval (.tmp 7) = .slice (some ⟨b5, o5, none⟩) 4 c5 := by rw [hA]; kernel_rfl
                have ea13 : AA.eval (.tmp 13) = .int .i64 ((i : Int)) := by rw [hA]; kernel_rfl
                clear hA
                simp only [List.take_succ_cons, List.take_zero]
                refine .cons ?_ (.cons ?_ (.cons ?_ (.cons ?_ (.cons ?_ (.cons ?_ (.cons ?_ (.cons ?_ (.cons ?_ (.cons ?_ (.cons ?_ (.nil)))))))))))
                · exact gd_gen (by kernel_rfl) (Want.none_ rfl) rfl (fun D u w v h => by simpa [updB, upd] using h) (fun D u ρ w kn => by
                    have e0 := kn.own 4 (c := .pointer (some ⟨mb, 0, none⟩)) (by kernel_rfl) ea4
                    exact run_load ρ w rfl e0 (load_mani w mb (HBI.out.grown kn.ext.1 (by simp))))
                · exact gd_gen (by kernel_rfl) (Want.none_ rfl) rfl (fun D u w v h => by simpa [updB, upd] using h) (fun D u ρ w kn => by
                    have e0 := kn.own 7 (c := .slice (some ⟨b5, o5, none⟩) 4 c5) (by kernel_rfl) ea7
                    simp [execOp, kn.rho.con, e0, go_sem])
                · exact gd_gen (by kernel_rfl) (Want.none_ rfl) rfl (fun D u w v h => by simpa [updB, upd] using h) (fun D u ρ w kn => by
                    have e0 := kn.own 13 (c := .int .i64 ((i : Int))) (by kernel_rfl) ea13
                    simp [execOp, kn.rho.con, e0, go_sem])
                · exact gd_gen (by kernel_rfl) (Want.none_ rfl) rfl (fun D u w v h => by simpa [updB, upd] using h) (fun D u ρ w kn => by
                    have e0 := kn.con 1 92 (c := .slice (some ⟨b5, o5, none⟩) 4 c5) (by kernel_rfl) (by omega) (by kernel_rfl) rfl
                    have e1 := kn.con 2 93 (c := .int .i64 ((i : Int))) (by kernel_rfl) (by omega) (by kernel_rfl) rfl
                    simp [execOp, kn.rho.con, e0, e1, go_sem, i4])
                · exact gd_gen (by kernel_rfl) (Want.none_ rfl) rfl (fun D u w v h => by simpa [updB, upd] using h) (fun D u ρ w kn => by
                    have e0 := kn.con 3 94 (c := .pointer (some ⟨b5, o5 + i, none⟩)) (by kernel_rfl) (by omega) (by kernel_rfl) rfl
                    have f0 := ((World.cell?_of_block (w := W0) (a := ⟨b5, o5 + i, none⟩) (kn.ext.1.block b5 hb5 (by simp))).trans hc5)
                    simp [execOp, kn.rho.con, e0, f0, go_sem])
                · refine gd_call (by kernel_rfl) (Want.none_ rfl) 28 (fun D u ρ wx kn hD => ?_)
                  have e0 := kn.con 0 91 (c := .agg #[.int .i64 num, .int .i64 nid, .int .i64 jn, .slice A ss.length c, .slice B ms.length d2, .slice C ts.length f2, .slice E xs.length h2']) (by kernel_rfl) (by omega) (by kernel_rfl) rfl
                  have e1 := kn.con 4 95 (c := .int .i64 x) (by kernel_rfl) (by omega) (by kernel_rfl) rfl
                  obtain ⟨x1, x2, x3⟩ := kn.ext
                  refine ⟨#[.agg #[.int .i64 num, .int .i64 nid, .int .i64 jn, .slice A ss.length c, .slice B ms.length d2, .slice C ts.length f2, .slice E xs.length h2'], .int .i64 x], ?_, (KX.out wx (only_trans G0.out x1)).mono ?_⟩
                  · simp only [execOp, resolve, Deferred.ofValue, List.map_toArray, List.map_cons, List.map_nil, e0, e1, kn.rho.con, kn.rho.fn]
                    simp [go_sem]
                  · rintro e w' ⟨rfl, hg⟩
                    exact ⟨_, rfl, (fun c h => by injection h with h; injection h), only_trans x1 hg, (fun h => by rw [updB_ne D (show (9 : Nat) ≠ 5 by omega)] at h; rw [upd_ne u _ (show (9 : Nat) ≠ 5 by omega)]; obtain ⟨gb, q1, q2, q3⟩ := x2 h; rw [updB_ne D (show (10 : Nat) ≠ 5 by omega)]; exact ⟨gb, q1, q2, q3.grown hg (by simp)⟩), (fun h => by rw [updB_ne D (show (10 : Nat) ≠ 5 by omega)] at h; rw [updB_ne D (show (9 : Nat) ≠ 5 by omega)]; exact x3 h)⟩
                · exact gd_gen (by kernel_rfl) (Want.none_ rfl) rfl (fun D u w v h => by simpa [updB, upd] using h) (fun D u ρ w kn => by
                    have e0 := kn.con 5 96 (c := .tuple #[.agg #[.int .i64 s.id, .int .i64 s.level, .int .i64 s.tier, .int .i64 s.count, .int .i64 s.min, .int .i64 s.max, .int .i64 s.size], .bool true]) (by kernel_rfl) (by omega) (by kernel_rfl) rfl
                    simp [execOp, kn.rho.con, e0, go_sem])
                · exact gd_gen (by kernel_rfl) (Want.none_ rfl) rfl (fun D u w v h => by simpa [updB, upd] using h) (fun D u ρ w kn => by
                    have e0 := kn.con 6 90 (c := .tuple #[.agg #[.int .i64 s.id, .int .i64 s.level, .int .i64 s.tier, .int .i64 s.count, .int .i64 s.min, .int .i64 s.max, .int .i64 s.size], .bool true]) (by kernel_rfl) (by omega) (by kernel_rfl) rfl
                    simp [execOp, kn.rho.con, e0, go_sem])
                · exact gd_gen (by kernel_rfl) (Want.none_ rfl) rfl (fun D u w v h => by simpa [updB, upd] using h) (fun D u ρ w kn => by
                    have e0 := kn.con 6 90 (c := .tuple #[.agg #[.int .i64 s.id, .int .i64 s.level, .int .i64 s.tier, .int .i64 s.count, .int .i64 s.min, .int .i64 s.max, .int .i64 s.size], .bool true]) (by kernel_rfl) (by omega) (by kernel_rfl) rfl
                    simp [execOp, kn.rho.con, e0, go_sem])
                · refine gd_eff (by kernel_rfl) (Want.none_ rfl) (fun D u ρ wx kn hD => ?_)
                  obtain ⟨x1, x2, x3⟩ := kn.ext
                  have h10 : D 10 = false := by cases h : D 10 with | false => rfl | true => have := x3 h; rw [hD] at this; cases this
                  exact ⟨.pointer (some ⟨wx.heap.size, 0, none⟩), wx.alloc (.cells #[.int .i64 0, .int .i64 0, .int .i64 0, .int .i64 0, .int .i64 0, .int .i64 0, .int .i64 0] 29), alloc_seg ρ wx, (fun c h => by cases h), only_alloc x1 _, (fun _ => ⟨wx.heap.size, upd_at _ _ _, x1.size, by rw [updB_ne D (show (10 : Nat) ≠ 9 by omega), h10, if_neg (by simp)]; exact Blk.new wx _ _⟩), (fun h => by rw [updB_ne D (show (10 : Nat) ≠ 9 by omega), h10] at h; cases h)⟩
                · refine gd_skip (by kernel_rfl) (Want.none_ rfl) rfl (fun D u ρ wx kn hD => ?_)
                  have e0 := kn.slot 9 14 (by kernel_rfl) (by omega)
                  have e1 := kn.con 7 97 (c := .agg #[.int .i64 s.id, .int .i64 s.level, .int .i64 s.tier, .int .i64 s.count, .int .i64 s.min, .int .i64 s.max, .int .i64 s.size]) (by kernel_rfl) (by omega) (by kernel_rfl) rfl
                  have d9 := kn.dep 9 (by kernel_rfl)
                  obtain ⟨x1, x2, x3⟩ := kn.ext
                  obtain ⟨gb, q1, q2, q3⟩ := x2 d9
                  rw [hD, if_neg (by simp)] at q3
                  obtain ⟨w', z1, z2, z3⟩ := store_seg wx gb (s.id) (s.level) (s.tier) (s.count) (s.min) (s.max) (s.size) q3
                  rw [q1] at e0
                  exact ⟨w', by simp only [execOp, e0, e1, Sem.run_bind, z1, Result.andThen_ok, Sem.run_pure], only_fresh x1 z3 q2, (fun _ => ⟨gb, by rw [upd_ne u _ (show (9 : Nat) ≠ 10 by omega)]; exact q1, q2, by rw [updB_at, if_pos rfl]; exact z2⟩), (fun _ => by rw [updB_ne D (show (9 : Nat) ≠ 10 by omega)]; exact d9)⟩
              · intro D u w12 hJ hD
                obtain ⟨hcn, x1, x2, -⟩ := hJ
                obtain ⟨gb, hu, hgb', hBb⟩ := x2 (hD 9 (by omega))
                rw [hD 10 (by omega), if_pos rfl] at hBb
                have e8 : u 8 = .bool true := hcn 8 _ rfl (hD 8 (by omega))
                simp only [List.take_succ_cons, List.take_zero, List.drop_succ_cons, List.drop_zero, putAll]
                rw [hu, e8]
                have q1 := hBb.cell 1
                simp at q1
                have G12 := Lib.hid (only_trans G0.out x1)
                clear hcn x1 x2 hu e8 hD hBb hc5
                go_wp2_with fail
                go_roundw
                case rel => exact ⟨i + 1, by go_num, by omega, G12.out⟩
                case measure => simp [intOf]; omega
            · have i4 : ¬ ((i : Int) < 4) := by omega
              have hB11 := B11.out.grown G0.out (by simp)
              have hBm := HB11.out.grown G0.out (by simp)
              have e0 := hB11.cell 0
              have e1 := hB11.cell 1
              have e2 := hB11.cell 2
              have e3 := hB11.cell 3
              have e4 := hB11.cell 4
              have e5 := hB11.cell 5
              have e6 := hB11.cell 6
              simp at e0 e1 e2 e3 e4 e5 e6
              have y0 := hBm.cell 0
              have y1 := hBm.cell 1
              have y2 := hBm.cell 2
              have y3 := hBm.cell 3
              have y4 := hBm.cell 4
              have y5 := hBm.cell 5
              have y6 := hBm.cell 6
              simp at y0 y1 y2 y3 y4 y5 y6
              have z0 := hBm.frozen 0
              have z1 := hBm.frozen 1
              have z2 := hBm.frozen 2
              have z3 := hBm.frozen 3
              have z4 := hBm.frozen 4
              have z5 := hBm.frozen 5
              have z6 := hBm.frozen 6
              have P13 := Lib.hid (blk_put7 hBm (.int .i64 (num + 1 + 1)) (.int .i64 (nid + 1)) (.int .i64 jn) (.slice A10 n10 c10) (.slice B ms.length d2) (.slice C ts.length f2) (.slice E xs.length h2'))
              have g13 := Lib.hid (only_set7 (only_refl wr (some mb)) (b := mb) (.int .i64 (num + 1 + 1)) (.int .i64 (nid + 1)) (.int .i64 jn) (.slice A10 n10 c10) (.slice B ms.length d2) (.slice C ts.length f2) (.slice E xs.length h2'))
              clear hB11 hBm
              go_wp2_with fail
              go_roundw
              case rel =>
                have hnb : ∀ b, b ≠ mb → some b ≠ some mb := fun b hb e => hb (by injection e)
                have hG' := only_trans G11.out G0.out
                refine ⟨q + 1, by go_num, by omega, num + 1 + 1, nid + 1, A10, c10, remL ss L ++ [newSeg nid lv], by rw [← HN10.out]; exact P13.out, (HR10.out.grown G0.out (by simp)).grown g13.out hnb, (HM5.out.grown hG' (by simp)).grown g13.out hnb, (HT5.out.grown hG' (by simp)).grown g13.out hnb, (HX5.out.grown hG' (by simp)).grown g13.out hnb, HNX.out, only_fresh (only_trans G5.out hG') g13.out (by omega)⟩
              case measure => simp [intOf]; omega
end Go.Proofs.Ytphglalphejppaa
