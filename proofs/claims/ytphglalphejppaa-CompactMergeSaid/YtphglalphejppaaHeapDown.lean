/- container/heap.down on the queue. No condition. -/
import Derived.Test.YtphglalphejppaaHeapP
import Derived.Deep.DeepCutAuto
namespace Go.Proofs.Ytphglalphejppaa
open Go.RowKit
set_option linter.unusedVariables false
set_option linter.unusedSimpArgs false

def SOkTo (w0 : World) (ss : List Src) (n : Nat) : Prop := ∀ k s, k < n → ss[k]? = some s → SOk w0 s
theorem SOkTo.swap {w0 : World} {ss : List Src} {n : Nat} (h : SOkTo w0 ss n) (hn : n ≤ ss.length) {i j : Nat} (hi : i < n) (hj : j < n) : SOkTo w0 (swapAt ss i j) n := fun k s hk hs => by
  rw [swapAt_at (by omega) (by omega)] at hs
  split at hs
  · exact h i s hi hs
  · split at hs
    · exact h j s hj hs
    · exact h k s hk hs
theorem SOkTo.two {w0 : World} {ss : List Src} {n i j : Nat} (h : SOkTo w0 ss n) (hi : i < n) (hj : j < n) : ∀ s, ss[i]? = some s ∨ ss[j]? = some s → SOk w0 s := fun s hs => hs.elim (h i s hi) (h j s hj)
theorem QSt.grown {base gq : Nat} {w w' : World} {v : Value} {ss : List Src} (h : QSt base w gq v ss) (hg : w.grownBy w' none) : QSt base w' gq v ss := ⟨h.1.grown hg (by simp), own_ext h.2 hg⟩
theorem lessM_any (base gq gr cq i j m : Nat) (ts : List Src) (w0 w : World) (hm : ts.length = m) (h : QSt base w gq (.slice (some ⟨gr, 0, none⟩) m cq) ts) (hg : w0.grownBy w none) (hs : ∀ s, ts[i]? = some s ∨ ts[j]? = some s → SOk w0 s) (hi : i < m) (hj : j < m) :
    Calls Try.prog 108 #[.slice (some ⟨gr, 0, none⟩) m cq, .int .i64 i, .int .i64 j] w (BoolExt (lessAt ts i j) w) := by
  subst hm
  exact lessS_any base gq gr cq i j ts w0 w h hg hs hi hj
theorem swapM_any (base gq gr cq i j m : Nat) (ts : List Src) (w : World) (hm : ts.length = m) (h : QSt base w gq (.slice (some ⟨gr, 0, none⟩) m cq) ts) (hi : i < m) (hj : j < m) :
    Calls Try.prog 111 #[.slice (some ⟨gr, 0, none⟩) m cq, .int .i64 i, .int .i64 j] w (SwpPost base w gr m cq (swapAt ts i j)) := by
  subst hm
  obtain ⟨a, ha⟩ : ∃ s, ts[i]? = some s := ⟨_, List.getElem?_eq_getElem hi⟩
  obtain ⟨b, hb⟩ : ∃ s, ts[j]? = some s := ⟨_, List.getElem?_eq_getElem hj⟩
  have e : swapAt ts i j = swp ts i j a b := by unfold swapAt; rw [ha, hb]
  rw [e]
  exact swap_any base gr ts.length cq i j ts a b w ⟨rfl, h.2⟩ ha hb
def DPost (base : Nat) (w : World) (gq : Nat) (v : Value) (ss : List Src) (b : Bool) (e : Ending) (w' : World) : Prop := e = .returned (.bool b) ∧ QSt base w' gq v ss ∧ Fr2 w w' gq v.ownBlock
set_option maxHeartbeats 4000000 in
set_option maxRecDepth 100000 in
theorem down_any (base gq gr cq i n m : Nat) (ss : List Src) (w0 w : World) (hm : ss.length = m) (h : QSt base w gq (.slice (some ⟨gr, 0, none⟩) m cq) ss) (hg : w0.grownBy w none) (hs : SOkTo w0 ss n) (hi : i ≤ n) (hn : n ≤ m) (hl : m ≤ 100000) (hgb : w0.heap.size ≤ base) (hw0 : w0.heap.size ≤ gq) (hgr : base ≤ gr) :
    Calls Try.prog 53 #[.iface 71 (.pointer (some ⟨gq, 0, none⟩)), .int .i64 i, .int .i64 n] w (DPost base w gq (.slice (some ⟨gr, 0, none⟩) m cq) (downM ss i n).1 (decide (i < (downM ss i n).2))) := by
  have hqr : gq ≠ gr := fun e => blk_not_row h.1 h.2 (by decide) (by rw [e]; rfl)
  have H := Lib.hid h
  have HS := Lib.hid hs
  have HG := Lib.hid hg
  have HM := Lib.hid hm
  clear h hs hg hm
  go_enter Try.func53, Try.ntmps53
  go_wp2_with fail
  go_loopw [7] (fun vi wr => ∃ (k : Nat) (ts : List Src), vi = .int .i64 k ∧ k ≤ n ∧ ts.length = m ∧ downM ts k n = downM ss i n ∧ QSt base wr gq (.slice (some ⟨gr, 0, none⟩) m cq) ts ∧ SOkTo w0 ts n ∧ Fr2 w wr gq (some gr)) (fun vi _ => n - (intOf vi).toNat)
  case atStart => exact ⟨i, ss, rfl, hi, HM.out, rfl, H.out, HS.out, Fr2.refl _ _ _⟩
  case round =>
    obtain ⟨k, ts, rfl, hkn, htl, hup, hq, hso, hfr⟩ := hrel
    have TL := Lib.hid htl
    have UP := Lib.hid hup
    have QS := Lib.hid hq
    have SO := Lib.hid hso
    have FR := Lib.hid hfr
    have q0 := hq.1.cell 0
    simp at q0
    have GR : Hid (w0.grownBy wr none) := Lib.hid (hfr.grown HG.out hw0 (fun b e => by injection e; omega))
    clear htl hup hq hso hfr
    obtain ⟨a, ha⟩ : ∃ a : Nat, a = 2 * k + 1 := ⟨_, rfl⟩
    have haI : 2 * (k : Int) + 1 = (a : Int) := by omega
    have HA := Lib.hid ha
    obtain ⟨b, hb⟩ : ∃ b : Nat, b = 2 * k + 1 + 1 := ⟨_, rfl⟩
    have hbI : (a : Int) + 1 = (b : Int) := by omega
    have HBB := Lib.hid hb
    have hka : k < a := by omega
    have hab : a < b := by omega
    have h2k : 2 * k + 1 = a := ha.symm
    have H2K := Lib.hid h2k
    clear ha hb h2k
    have hM := meth_val q_less gq 262 _ ⟨_, _, _, rfl⟩ wr q0
    by_cases han : a < n
    · have ha0 : ¬ ((a : Int) < 0) := by omega
      have hanI : (a : Int) < (n : Int) := by omega
      have KB : Hid (b < n → ∀ w2, QSt base w2 gq (.slice (some ⟨gr, 0, none⟩) m cq) ts → w0.grownBy w2 none → Calls Try.prog 108 #[.slice (some ⟨gr, 0, none⟩) m cq, .int .i64 b, .int .i64 a] w2 (BoolExt (lessAt ts b a) w2)) := Lib.hid (fun hbn w2 hq hg => lessM_any base gq gr cq b a m ts w0 w2 TL.out hq hg (SO.out.two (by omega) (by omega)) (by omega) (by omega))
      obtain ⟨C, hC⟩ : ∃ C : Bool, C = (decide (b < n) && lessAt ts b a) := ⟨_, rfl⟩
      have HC := Lib.hid hC
      clear hC
      go_upto_region 6 with fail
      go_cut [33] (fun v wx => v = .bool C ∧ wr.grownBy wx none)
      case first =>
        by_cases hbn : b < n
        · have hbnI : (b : Int) < (n : Int) := by omega
          have KB2 := Lib.hid (KB.out hbn)
          have HC2 : Hid (C = lessAt ts b a) := Lib.hid (by rw [HC.out]; simp [hbn])
          go_wp2_with (go_at_call 108; refine (KB2.out _ QS.out GR.out).mono ?_; rintro e w2 ⟨rfl, hgw2⟩)
          go_meet
          exact ⟨by rw [HC2.out], hgw2⟩
        · have hbnI : ¬ ((b : Int) < (n : Int)) := by omega
          have HC2 : Hid (C = false) := Lib.hid (by rw [HC.out]; simp [hbn])
          go_wp2_with fail
          go_meet
          exact ⟨by rw [HC2.out], only_refl _ _⟩
      case rest =>
        obtain ⟨rfl, hgw2⟩ := hcut
        have Qw2 := Lib.hid (QSt.grown QS.out hgw2)
        have G2 : Hid (w0.grownBy wc none) := Lib.hid (only_trans GR.out hgw2)
        have F2 : Hid (Fr2 w wc gq (some gr)) := Lib.hid (FR.out.trans (Fr2.of hgw2) (.inr (.inl rfl)))
        clear hM q0 hgw2 QS GR FR KB
        obtain ⟨j, hj⟩ : ∃ j, j = jOf ts k n := ⟨_, rfl⟩
        have hjI : Hid ((j : Int) = if C = true then (b : Int) else (a : Int)) := Lib.hid (by
          rw [hj, HC.out]; unfold jOf; rw [← HBB.out, ← HA.out]
          split <;> rfl)
        have hkj : k < j := by rw [hj]; exact jOf_gt _ _ _
        have hjn : j < n := by rw [hj]; exact jOf_lt (by have := H2K.out; omega)
        have HJ : Hid (jOf ts k n = j) := Lib.hid hj.symm
        have hjm : j < m := by omega
        have hkm : k < m := by omega
        clear hj
        go_upto_if 33 with fail
        go_cut [9] (fun v wx => v = .int .i64 j ∧ wx = wc)
        case first =>
          cases C with
          | true =>
            have HJ2 : Hid ((b : Int) = j) := by rw [hjI.out]; rfl
            go_wp2_with fail
            go_meet
            exact ⟨by rw [HJ2.out], rfl⟩
          | false =>
            have HJ2 : Hid ((a : Int) = j) := by rw [hjI.out]; rfl
            go_wp2_with fail
            go_meet
            exact ⟨by rw [HJ2.out], rfl⟩
        case rest =>
          obtain ⟨rfl, rfl⟩ := hcut
          have qc := Qw2.out.1.cell 0
          simp at qc
          have hL := meth_val q_less gq 262 _ ⟨_, _, _, rfl⟩ wc qc
          have KJ : Hid (Calls Try.prog 108 #[.slice (some ⟨gr, 0, none⟩) m cq, .int .i64 j, .int .i64 k] wc (BoolExt (lessAt ts j k) wc)) := Lib.hid (lessM_any base gq gr cq j k m ts w0 wc TL.out Qw2.out G2.out (SO.out.two (by omega) (by omega)) (by omega) (by omega))
          have SW : Hid (∀ w2, QSt base w2 gq (.slice (some ⟨gr, 0, none⟩) m cq) ts → Calls Try.prog 111 #[.slice (some ⟨gr, 0, none⟩) m cq, .int .i64 k, .int .i64 j] w2 (SwpPost base w2 gr m cq (swapAt ts k j))) := Lib.hid (fun w2 hq => swapM_any base gq gr cq k j m ts w2 TL.out hq (by omega) (by omega))
          cases hd : lessAt ts j k with
          | true =>
            rw [hd] at KJ
            have HD := Lib.hid hd
            clear hd
            go_wp2_with (go_at_call 108; refine KJ.out.mono ?_; rintro e w4 ⟨rfl, hgw4⟩; have Q4 := Lib.hid (QSt.grown Qw2.out hgw4); have q4 := Q4.out.1.cell 0; simp at q4; have hS4 := meth_val q_swap gq 262 _ ⟨_, _, _, rfl⟩ w4 q4)
            refine (SW.out w4 Q4.out).mono ?_
            rintro e w5 ⟨⟨x5, rfl⟩, hS5, hg5⟩
            have Q5 : Hid (QSt base w5 gq (.slice (some ⟨gr, 0, none⟩) m cq) (swapAt ts k j)) := Lib.hid ⟨Q4.out.1.grown hg5 (by intro e; injection e; omega), by rw [swapAt_len, TL.out]; exact hS5.2⟩
            have F5 : Hid (Fr2 w w5 gq (some gr)) := Lib.hid ((F2.out.trans (Fr2.of hgw4) (.inr (.inl rfl))).trans (Fr2.of hg5) (.inl rfl))
            clear hgw4 hg5 hS5 q4 hS4 hL qc
            go_wp2_with fail
            go_roundw
            case rel => exact ⟨j, swapAt ts k j, rfl, by omega, by rw [swapAt_len]; exact TL.out, by rw [← UP.out, downM_step (show 2 * k + 1 < n by have := H2K.out; omega) HJ.out HD.out], Q5.out, SO.out.swap (by rw [TL.out]; omega) (by omega) (by omega), F5.out⟩
            case measure => simp [intOf]; omega
          | false =>
            rw [hd] at KJ
            have HD := Lib.hid hd
            clear hd
            go_wp2_with (go_at_call 108; refine KJ.out.mono ?_; rintro e w4 ⟨rfl, hgw4⟩; have Q4 := Lib.hid (QSt.grown Qw2.out hgw4))
            go_ret
            have e : downM ss i n = (ts, k) := by rw [← UP.out]; exact downM_stop HJ.out HD.out
            exact ⟨by rw [e]; first | rfl | (congr 2; rw [decide_eq_decide]; omega), by rw [e]; exact Q4.out, F2.out.trans (Fr2.of hgw4) (.inr (.inl rfl))⟩
    · have hanI : ¬ ((a : Int) < (n : Int)) := by omega
      go_wp2_with fail
      go_ret
      have e : downM ss i n = (ts, k) := by rw [← UP.out, downM, if_neg (by have := H2K.out; omega)]
      exact ⟨by rw [e]; first | rfl | (congr 2; rw [decide_eq_decide]; omega), by rw [e]; exact QS.out, FR.out⟩
end Go.Proofs.Ytphglalphejppaa
