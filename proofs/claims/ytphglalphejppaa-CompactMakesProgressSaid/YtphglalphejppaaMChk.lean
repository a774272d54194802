/- Check of the reference of chapter 30 at a manifest that is right. Condition: sizes. -/
import Derived.Test.YtphglalphejppaaMSet
import Derived.Deep.DeepCutAuto
namespace Go.Proofs.Ytphglalphejppaa
open Go.RowKit
set_option linter.unusedVariables false
set_option linter.unusedSimpArgs false

def QuietN (v : Value) (w : World) (e : Ending) (w' : World) : Prop := e = .returned v ∧ w.grownBy w' none
theorem kl_facts {x y : Tal} (h : kl x y) : ¬ y.host < x.host ∧ ((y.host == x.host) = true → Op.bytesLess y.rule.toList x.rule.toList = false ∧ (y.rule.toList == x.rule.toList) = false) := by
  refine ⟨by unfold kl at h; omega, fun e => ?_⟩
  have e' : y.host = x.host := by simpa using e
  unfold kl at h
  rcases h with h | ⟨_, h⟩
  · omega
  · refine ⟨sl_asymm h, ?_⟩
    rw [beq_eq_false_iff_ne]; intro e2; have h2 : Op.bytesLess x.rule.toList y.rule.toList = true := h; rw [e2, bl_irrefl] at h2; cases h2
set_option maxHeartbeats 4000000 in
set_option maxRecDepth 100000 in
theorem rtallies_any {S : Nat → Prop} (A : Option Addr) (ts : List Tal) (c : Nat) (w : World) (hr : Rd S w A (ts.flatMap Tal.cells)) (hl : ts.length ≤ 100000) (hs : TSrt ts) :
    Calls Try.prog 60 #[.slice A ts.length c] w (Quiet (.bool true) w) := by
  have HR := Lib.hid hr
  have HS := Lib.hid hs
  clear hr hs
  go_enter Try.func60, Try.ntmps60
  go_wp2_with fail
  go_loopw [3] (fun i wr => ∃ k : Nat, k ≤ ts.length ∧ i = .int .i64 ((k : Int) + 1) ∧ ∃ q, wr = w.drewN q) (fun i _ => ts.length + 1 - (intOf i).toNat)
  case atStart => exact ⟨0, Nat.zero_le _, rfl, 0, rfl⟩
  case round =>
    obtain ⟨k, hk, rfl, q, rfl⟩ := hrel
    by_cases hlt : k + 1 < ts.length
    · obtain ⟨x, hx⟩ : ∃ x, ts[k]? = some x := ⟨_, List.getElem?_eq_getElem (by omega)⟩
      obtain ⟨y, hy⟩ : ∃ y, ts[k + 1]? = some y := ⟨_, List.getElem?_eq_getElem hlt⟩
      obtain ⟨b, o, rfl, x0, x1, x2⟩ := HR.out.tal hx
      obtain ⟨b', o', e', y0, y1, y2⟩ := HR.out.tal hy
      injection e' with e'
      injection e' with e1 e2
      subst e1 e2
      have hkl : kl x y := by
        obtain ⟨a1, a2⟩ := List.getElem?_eq_some_iff.1 hx
        obtain ⟨a3, a4⟩ := List.getElem?_eq_some_iff.1 hy
        have := List.pairwise_iff_getElem.1 HS.out k (k + 1) a1 a3 (by omega)
        rwa [a2, a4] at this
      obtain ⟨n1, n2⟩ := kl_facts hkl
      have NN := Lib.hid n2
      have t0 : decide (y.host < x.host) = false := by simpa using n1
      have i1 : (k : Int) + 1 < (ts.length : Int) := by omega
      have i2 : (k : Int) < (ts.length : Int) := by omega
      have i3 : (0 : Int) ≤ (k : Int) := by omega
      have i4 : (0 : Int) ≤ (k : Int) + 1 := by omega
      have i5 : ((k : Int) + 1).toNat = k + 1 := by omega
      have hwk : IntKind.i64.wrap (k : Int) = (k : Int) := IntWalk.i64_in _ (by omega)
      clear hx hy hkl n2
      by_cases he : (y.host == x.host) = true
      · obtain ⟨t1, t2⟩ := NN.out he
        go_wp2_with fail
        go_quiet (fail)
        go_wp2_with fail
        go_roundw
        case rel => exact ⟨k + 1, by omega, by go_num, _, rfl⟩
        case measure => simp [intOf]; omega
      · have he' : (y.host == x.host) = false := by simpa using he
        clear he
        go_wp2_with fail
        go_quiet (fail)
        go_wp2_with fail
        go_roundw
        case rel => exact ⟨k + 1, by omega, by go_num, _, rfl⟩
        case measure => simp [intOf]; omega
    · have i1 : ¬ ((k : Int) + 1 < (ts.length : Int)) := by omega
      go_wp2_with fail
      go_ret
      exact ⟨rfl, _, rfl⟩
/-- an entry that Check lets pass -/
def SegC (nid : Int) (s : SegD) : Prop := 0 ≤ s.id ∧ s.id < nid ∧ 0 ≤ s.level ∧ s.level ≤ 1000 ∧ 0 ≤ s.count ∧ 0 ≤ s.size ∧ 0 ≤ s.tier ∧ s.tier ≤ 2 ∧ s.min ≤ s.max
structure MOk (num nid jn : Int) (ss : List SegD) (ms : List MarkD) (ts xs : List Tal) : Prop where
  hnum : 0 ≤ num ∧ num ≤ 1000
  hnid : 0 ≤ nid ∧ nid ≤ 1000
  hjn : 0 ≤ jn
  len : ss.length ≤ 64
  asc : ss.Pairwise fun a b => a.id < b.id
  seg : ∀ s ∈ ss, SegC nid s
  ml : ms.length ≤ 100000
  ma : ms.Pairwise Mlt
  tl : ts.length ≤ 100000
  ta : TSrt ts
  xl : xs.length ≤ 100000
  xa : TSrt xs
theorem Rd.mark {S : Nat → Prop} {w : World} {A : Option Addr} {l : List MarkD} (h : Rd S w A (l.flatMap MarkD.cells)) {i : Nat} {t : MarkD} (ht : l[i]? = some t) :
    ∃ b off, A = some ⟨b, off, none⟩ ∧ w.cell? ⟨b, off + i * 3, none⟩ = some (.int .i64 t.host) ∧ w.cell? ⟨b, off + i * 3 + 1, none⟩ = some (.int .i64 t.file) := by
  have hi := (List.getElem?_eq_some_iff.1 ht).1
  obtain ⟨b, o, rfl, -, -, -⟩ := h (by rw [flat_len _ 3 MarkD.cells_len]; omega)
  exact ⟨b, o, rfl, h.flatAt MarkD.cells_len ht 0 (by omega), h.flatAt MarkD.cells_len ht 1 (by omega)⟩
set_option maxHeartbeats 8000000 in
set_option maxRecDepth 100000 in
theorem rcheckm_any {S S' S2 S3 : Nat → Prop} (num nid jn : Int) (A : Option Addr) (ss : List SegD) (c : Nat) (B : Option Addr) (ms : List MarkD) (d : Nat) (C : Option Addr) (ts : List Tal) (f : Nat) (E : Option Addr) (xs : List Tal) (h : Nat) (w : World) (hr : Rd S w A (ss.flatMap SegD.cells)) (hm : Rd S' w B (ms.flatMap MarkD.cells)) (ht : Rd S2 w C (ts.flatMap Tal.cells)) (hx : Rd S3 w E (xs.flatMap Tal.cells)) (hk : MOk num nid jn ss ms ts xs) :
    Calls Try.prog 47 #[.agg #[.int .i64 num, .int .i64 nid, .int .i64 jn, .slice A ss.length c, .slice B ms.length d, .slice C ts.length f, .slice E xs.length h]] w (QuietN (.int .i64 0) w) := by
  obtain ⟨W1, hW1⟩ : ∃ W1, W1 = w.alloc (.cells #[.int .i64 num, .int .i64 nid, .int .i64 jn, .slice A ss.length c, .slice B ms.length d, .slice C ts.length f, .slice E xs.length h] 52) := ⟨_, rfl⟩
  have G1 : Hid (w.grownBy W1 none) := Lib.hid (by rw [hW1]; exact only_alloc (only_refl _ _) _)
  obtain ⟨mb, hmb⟩ : ∃ b, b = w.heap.size := ⟨_, rfl⟩
  have B1 : Hid (Blk W1 mb 52 #[.int .i64 num, .int .i64 nid, .int .i64 jn, .slice A ss.length c, .slice B ms.length d, .slice C ts.length f, .slice E xs.length h]) := Lib.hid (by rw [hW1, hmb]; exact Blk.new w _ _)
  have HR := Lib.hid (hr.grown G1.out (by simp))
  have HM := Lib.hid (hm.grown G1.out (by simp))
  have HT := Lib.hid (ht.grown G1.out (by simp))
  have HX := Lib.hid (hx.grown G1.out (by simp))
  have HK := Lib.hid hk
  have HW := Lib.hid hW1.symm
  have HMB := Lib.hid hmb
  have q1 := hk.hnum
  have q2 := hk.hnid
  have q3 := hk.hjn
  have q4 := hk.len
  have q5 := hk.ml
  have q6 := hk.tl
  have q7 := hk.xl
  clear hW1 hmb hr hm ht hx hk
  go_enter Try.func47, Try.ntmps47
  go_upto_region 1 with fail
  rw [HW.out, ← HMB.out]
  clear HW
  have b0 := B1.out.cell 0
  have b1 := B1.out.cell 1
  have b2 := B1.out.cell 2
  have b3 := B1.out.cell 3
  simp at b0 b1 b2 b3
  go_wp2_with fail
  clear b0 b1 b2 b3
  go_loopw [3] (fun vi wr => ∃ k : Nat, vi = .int .i64 k ∧ k ≤ ss.length ∧ W1.grownBy wr none) (fun vi _ => ss.length - (intOf vi).toNat)
  case atStart => exact ⟨0, rfl, Nat.zero_le _, only_refl _ _⟩
  case round =>
    obtain ⟨k, rfl, hk, hG⟩ := hrel
    have G := Lib.hid hG
    have hB := B1.out.grown hG (by simp)
    have b1 := hB.cell 1
    have b3 := hB.cell 3
    simp at b1 b3
    have hlm := hB.lt
    have hlm2 : mb ≠ wr.heap.size := by omega
    clear hG hB
    by_cases hkl : k < ss.length
    · obtain ⟨b, o, rfl, -, hbo, -⟩ := (HR.out.grown G.out (by simp)) (by rw [flat_len _ 7 SegD.cells_len]; omega)
      obtain ⟨s, hs⟩ : ∃ s, ss[k]? = some s := ⟨_, List.getElem?_eq_getElem hkl⟩
      have hrr := HR.out.grown G.out (by simp)
      have d0 : wr.cell? ⟨b, o + k * 7, none⟩ = some (.int .i64 s.id) := hrr.flatAt SegD.cells_len hs 0 (by omega)
      have d1 : wr.cell? ⟨b, o + k * 7 + 1, none⟩ = some (.int .i64 s.level) := hrr.flatAt SegD.cells_len hs 1 (by omega)
      have d2 : wr.cell? ⟨b, o + k * 7 + 2, none⟩ = some (.int .i64 s.tier) := hrr.flatAt SegD.cells_len hs 2 (by omega)
      have d3 : wr.cell? ⟨b, o + k * 7 + 3, none⟩ = some (.int .i64 s.count) := hrr.flatAt SegD.cells_len hs 3 (by omega)
      have d4 : wr.cell? ⟨b, o + k * 7 + 4, none⟩ = some (.int .i64 s.min) := hrr.flatAt SegD.cells_len hs 4 (by omega)
      have d5 : wr.cell? ⟨b, o + k * 7 + 5, none⟩ = some (.int .i64 s.max) := hrr.flatAt SegD.cells_len hs 5 (by omega)
      have d6 : wr.cell? ⟨b, o + k * 7 + 6, none⟩ = some (.int .i64 s.size) := hrr.flatAt SegD.cells_len hs 6 (by omega)
      obtain ⟨p0, p1, p2, p3, p4, p5, p6, p7, p8⟩ := HK.out.seg s (List.mem_of_getElem? hs)
      have i1 : (k : Int) < (ss.length : Int) := by omega
      have i2 : (0 : Int) ≤ (k : Int) := by omega
      clear hrr hs
      go_wp2_with fail
      go_roundw
      case rel => exact ⟨k + 1, by go_num, by omega, only_alloc G.out _⟩
      case measure => simp [intOf]; omega
    · have i1 : ¬ ((k : Int) < (ss.length : Int)) := by omega
      go_wp2_with fail
      clear b1 b3
      go_loopw [5] (fun vi wx => ∃ j : Nat, vi = .int .i64 ((j : Int) + 1) ∧ j ≤ ss.length ∧ W1.grownBy wx none) (fun vi _ => ss.length + 1 - (intOf vi).toNat)
      case atStart => exact ⟨0, rfl, Nat.zero_le _, G.out⟩
      case round =>
        obtain ⟨j, rfl, hj, hG2⟩ := hrel
        have G2 := Lib.hid hG2
        have hB := B1.out.grown hG2 (by simp)
        have b3 := hB.cell 3
        have b4 := hB.cell 4
        simp at b3 b4
        clear hG2 hB
        by_cases hlt : j + 1 < ss.length
        · obtain ⟨x, hx⟩ : ∃ x, ss[j]? = some x := ⟨_, List.getElem?_eq_getElem (by omega)⟩
          obtain ⟨y, hy⟩ : ∃ y, ss[j + 1]? = some y := ⟨_, List.getElem?_eq_getElem hlt⟩
          have hrr := HR.out.grown G2.out (by simp)
          obtain ⟨b, o, rfl, -, hbo, -⟩ := hrr (by rw [flat_len _ 7 SegD.cells_len]; omega)
          have x0 := hrr.flatAt SegD.cells_len hx 0 (by omega)
          have y0 := hrr.flatAt SegD.cells_len hy 0 (by omega)
          simp only [SegD.cells, Nat.add_zero, List.getElem?_cons_zero] at x0 y0
          have hlt2 : x.id < y.id := by
            obtain ⟨a1, a2⟩ := List.getElem?_eq_some_iff.1 hx
            obtain ⟨a3, a4⟩ := List.getElem?_eq_some_iff.1 hy
            have := List.pairwise_iff_getElem.1 HK.out.asc j (j + 1) a1 a3 (by omega)
            rwa [a2, a4] at this
          have t0 : decide (y.id ≤ x.id) = false := by simp; omega
          have i3 : (j : Int) + 1 < (ss.length : Int) := by omega
          have i4 : (j : Int) < (ss.length : Int) := by omega
          have i5 : (0 : Int) ≤ (j : Int) := by omega
          have i6 : (0 : Int) ≤ (j : Int) + 1 := by omega
          have i7 : ((j : Int) + 1).toNat = j + 1 := by omega
          have hwk : IntKind.i64.wrap (j : Int) = (j : Int) := IntWalk.i64_in _ (by omega)
          clear hx hy hrr
          go_wp2_with fail
          go_quiet (fail)
          go_wp2_with fail
          go_roundw
          case rel => exact ⟨j + 1, by go_num, by omega, only_drewN G2.out _⟩
          case measure => simp [intOf]; omega
        · have i3 : ¬ ((j : Int) + 1 < (ss.length : Int)) := by omega
          go_wp2_with fail
          clear b3 b4
          go_loopw [7] (fun vi wy => ∃ i : Nat, vi = .int .i64 ((i : Int) + 1) ∧ i ≤ ms.length ∧ W1.grownBy wy none) (fun vi _ => ms.length + 1 - (intOf vi).toNat)
          case atStart => exact ⟨0, rfl, Nat.zero_le _, G2.out⟩
          case round =>
            obtain ⟨i, rfl, hi, hG3⟩ := hrel
            have G3 := Lib.hid hG3
            by_cases hlm3 : i + 1 < ms.length
            · obtain ⟨x, hx⟩ : ∃ x, ms[i]? = some x := ⟨_, List.getElem?_eq_getElem (by omega)⟩
              obtain ⟨y, hy⟩ : ∃ y, ms[i + 1]? = some y := ⟨_, List.getElem?_eq_getElem hlm3⟩
              obtain ⟨b, o, rfl, x0, x1⟩ := (HM.out.grown G3.out (by simp)).mark hx
              obtain ⟨b', o', e', y0, y1⟩ := (HM.out.grown G3.out (by simp)).mark hy
              injection e' with e'
              injection e' with e1 e2
              subst e1 e2
              have hkl : Mlt x y := by
                obtain ⟨a1, a2⟩ := List.getElem?_eq_some_iff.1 hx
                obtain ⟨a3, a4⟩ := List.getElem?_eq_some_iff.1 hy
                have := List.pairwise_iff_getElem.1 HK.out.ma i (i + 1) a1 a3 (by omega)
                rwa [a2, a4] at this
              have n1 : ¬ y.host < x.host := by unfold Mlt at hkl; omega
              have t0 : decide (y.host < x.host) = false := by simpa using n1
              have i4 : (i : Int) + 1 < (ms.length : Int) := by omega
              have i5 : (i : Int) < (ms.length : Int) := by omega
              have i6 : (0 : Int) ≤ (i : Int) := by omega
              have i7 : (0 : Int) ≤ (i : Int) + 1 := by omega
              have i8 : ((i : Int) + 1).toNat = i + 1 := by omega
              have hwk : IntKind.i64.wrap (i : Int) = (i : Int) := IntWalk.i64_in _ (by omega)
              have NN := Lib.hid hkl
              clear hx hy hkl hG3
              by_cases he : y.host = x.host
              · have he1 : (y.host == x.host) = true := by simp [he]
                have n2 : x.file < y.file := by have := NN.out; unfold Mlt at this; omega
                have t1 : decide (y.file ≤ x.file) = false := by simp; omega
                clear he
                go_wp2_with fail
                go_quiet (fail)
                go_wp2_with fail
                go_roundw
                case rel => exact ⟨i + 1, by go_num, by omega, only_drewN G3.out _⟩
                case measure => simp [intOf]; omega
              · have he1 : (y.host == x.host) = false := by simp [he]
                clear he
                go_wp2_with fail
                go_quiet (fail)
                go_wp2_with fail
                go_roundw
                case rel => exact ⟨i + 1, by go_num, by omega, only_drewN G3.out _⟩
                case measure => simp [intOf]; omega
            · have i4 : ¬ ((i : Int) + 1 < (ms.length : Int)) := by omega
              have hB := B1.out.grown hG3 (by simp)
              have b5 := hB.cell 5
              have b6 := hB.cell 6
              simp at b5 b6
              have K1 := Lib.hid (fun W (hW : W1.grownBy W none) => rtallies_any C ts f W (HT.out.grown hW (by simp)) q6 HK.out.ta)
              have K2 := Lib.hid (fun W (hW : W1.grownBy W none) => rtallies_any E xs h W (HX.out.grown hW (by simp)) q7 HK.out.xa)
              clear hG3 hB
              go_wp2_with fail
              refine (K1.out _ G3.out).mono ?_
              rintro e w5 ⟨rfl, n5, rfl⟩
              go_wp2_with fail
              refine (K2.out _ (only_drewN G3.out n5)).mono ?_
              rintro e w6 ⟨rfl, n6, rfl⟩
              go_wp2_with fail
              go_ret
              exact ⟨rfl, only_trans G1.out (only_drewN G3.out _)⟩
end Go.Proofs.Ytphglalphejppaa
