/- Words of the reference of chapter 27 (printed by mkrwords.py). Condition: sizes. -/
import Derived.Test.YtganfhmjklcchaaGreatJWordP
import Derived.Shelf.Bytes.SlEqualAll
import Derived.Deep.DeepCutAuto
import Derived.Test.YtganfhmjklcchaaGreatJBase
import Derived.Deep.RegionWith
import Derived.Test.YtganfhmjklcchaaGreatJInv
import Derived.Deep.RegionLaw
import Derived.Deep.DeepMust
namespace Go.Proofs.YtganfhmjklcchaaGreat
open Go.RowKit
set_option linter.unusedVariables false
set_option linter.unusedSimpArgs false

theorem own_apart2 {w : World} {b1 e1 z1 n1 b2 e2 z2 n2 : Nat} {v1 v2 : Value} {x1 x2 : List Value} (h1 : w.ownsRow b1 e1 z1 v1 n1 x1) (h2 : w.ownsRow b2 e2 z2 v2 n2 x2) (hne : e1 ≠ e2) : v1.ownBlock = none ∨ v1.ownBlock ≠ v2.ownBlock := by
  rcases h1.2 with ⟨rfl, _⟩ | ⟨g, cap, cur, rfl, _, hh, _⟩
  · exact .inl rfl
  · right
    intro e
    rcases h2.2 with ⟨rfl, _⟩ | ⟨g', cap', cur', rfl, _, hh', _⟩
    · simp [Value.ownBlock] at e
    · have e' : g = g' := by simpa [Value.ownBlock] using e
      subst e'
      rw [hh] at hh'
      injection hh' with hh'
      injection hh' with _ h _
      exact hne h
/-- the words behind the first k bytes; behind the last one what is left is put out -/
def outK (cs : List Int) (k : Nat) : List ByteArray := if k ≤ cs.length then (wst (cs.take k)).2 else rawW cs
def curK (cs : List Int) (k : Nat) : List Int := if k ≤ cs.length then (wst (cs.take k)).1 else []
theorem k_step {cs : List Int} {k : Nat} {x : Int} (h : cs[k]? = some x) : outK cs (k + 1) = (stepW (wst (cs.take k)) x).2 ∧ curK cs (k + 1) = (stepW (wst (cs.take k)) x).1 := by
  have hk := (List.getElem?_eq_some_iff.1 h)
  unfold outK curK
  rw [if_pos (by have := hk.1; omega), if_pos (by have := hk.1; omega), List.take_succ_eq_append_getElem hk.1, wst_snoc, hk.2]
  exact ⟨rfl, rfl⟩
set_option maxHeartbeats 4000000 in
set_option maxRecDepth 100000 in
theorem rwords_own (s : ByteArray) (w : World) (hl : s.size ≤ 100000) :
    Calls Tryz.prog 99 #[.string s] w (DistOwn w (rawW (bts s))) := by
  obtain ⟨cs, hcs⟩ : ∃ cs, cs = bts s := ⟨_, rfl⟩
  have HLEN : Hid (cs.length = s.size) := Lib.hid (by rw [hcs]; exact bts_length s)
  have HCS := Lib.hid hcs
  rw [← hcs]
  clear hcs
  go_enter Tryz.func99, Tryz.ntmps99
  go_wp2_with fail
  go_loopw [3, 4, 5] (fun vo vw i wr => ∃ k : Nat, k ≤ s.size + 1 ∧ i = .int .i64 k ∧ wr.ownsRow w.heap.size 9 1 vo (outK cs k).length ((outK cs k).map .string) ∧ wr.ownsRow w.heap.size 5 1 vw (curK cs k).length ((curK cs k).map (.int .u8)) ∧ w.grownBy wr none) (fun _ _ i _ => s.size + 1 - (intOf i).toNat)
  case atStart => exact ⟨0, Nat.zero_le _, rfl, World.ownsRow_nil _ _ _ _, World.ownsRow_nil _ _ _ _, only_refl _ _⟩
  case round =>
    obtain ⟨k, hk, rfl, hO, hC, hG⟩ := hrel
    have G := Lib.hid hG
    have hsz := hG.size
    obtain ⟨out, hout⟩ : ∃ out, out = outK cs k := ⟨_, rfl⟩
    obtain ⟨cur, hcur⟩ : ∃ cur, cur = curK cs k := ⟨_, rfl⟩
    rw [← hout] at hO
    rw [← hcur] at hC
    obtain ⟨Ao, co, rfl, hoc, hom, -, hor⟩ := Rd.of_own hO (by decide)
    obtain ⟨Aw, cw, rfl, -, -, -, hrw⟩ := Rd.of_own hC (by decide)
    have OO := Lib.hid hO
    have OC := Lib.hid hC
    have RO := Lib.hid hor
    have RW := Lib.hid hrw
    have HOUT := Lib.hid hout
    have HCUR := Lib.hid hcur
    have hlo : out.length ≤ 200000 ∧ cur.length ≤ 200000 := by
      have h1 := wst_len _ (cs.take k) (Nat.le_refl _)
      have h2 := rawW_len cs
      have h3 := HLEN.out
      rw [List.length_take] at h1
      rw [hout, hcur]
      unfold outK curK
      constructor
      · split <;> omega
      · split
        · omega
        · simp
    obtain ⟨hlo1, hlo2⟩ := hlo
    clear hO hC hG hor hrw hout hcur
    by_cases hlt : k < s.size
    · have hx := bts_at s hlt
      have hxb : (s[k]'hlt).toNat ≤ 255 := by have := (s[k]'hlt).toNat_lt; omega
      have hst := k_step (cs := cs) (k := k) (by rw [HCS.out]; exact hx)
      have hko : outK cs k = (wst (cs.take k)).2 ∧ curK cs k = (wst (cs.take k)).1 := by unfold outK curK; rw [if_pos (by rw [HLEN.out]; omega), if_pos (by rw [HLEN.out]; omega)]; exact ⟨rfl, rfl⟩
      have HKO := Lib.hid hko
      have i1 : (k : Int) < (s.size : Int) := by omega
      have i2 : (k : Int) ≤ (s.size : Int) := by omega
      have HST := Lib.hid hst
      clear hx hst hko
      go_wp2_with fail
      refine (letter_any _ wr (by omega) (by omega)).mono ?_
      rintro e w2 ⟨rfl, rfl⟩
      cases hlow : lowI ((s[k]'hlt).toNat : Int) with
      | some d =>
        have hd := lowI_in hlow
        have HO1 : Hid (outK cs (k + 1) = out) := Lib.hid (by
          rw [HST.out.1, HOUT.out, HKO.out.1]; unfold stepW; rw [hlow])
        have HC1 : Hid (curK cs (k + 1) = cur ++ [d]) := Lib.hid (by
          rw [HST.out.2, HCUR.out, HKO.out.2]; unfold stepW; rw [hlow])
        have d1 : (d != 0) = true := by simp; omega
        simp only [Option.getD_some]
        clear hlow
        obtain ⟨wr, rfl⟩ : ∃ w0 : World, w0 = w2 := ⟨_, rfl⟩
        go_wp2_with (at_builtin; refine wpList_append1 rfl _ _ 22 rfl w.heap.size Tryz.underlying22 u8Info27 rfl (by decide) (v := .slice Aw cur.length cw) (by rfl) (w0 := wr) (cs := #[.int .u8 d]) OC.out (by rfl) rfl (by simp [Value.oneCell']) (by decide) (by omega) (by omega) ?_; intro v7 w7 hown7 hg7 hob7)
        have C7 : Hid (w7.ownsRow w.heap.size 5 1 v7 (cur ++ [d]).length ((cur ++ [d]).map (.int .u8))) := Lib.hid (by simpa using hown7)
        have O7 := Lib.hid (OO.out.kept hg7 (own_apart2 OO.out OC.out (by decide)))
        have G7 : Hid (w.grownBy w7 none) := Lib.hid (only_own G.out hg7 OC.out (Nat.le_refl _))
        clear hown7 hg7 hob7
        go_wp2_with fail
        go_roundw
        case rel => exact ⟨k + 1, by omega, by go_num, by rw [HO1.out]; exact O7.out, by rw [HC1.out]; exact C7.out, G7.out⟩
        case measure => simp [intOf]; omega
      | none =>
        have HO1 : Hid (outK cs (k + 1) = flushW cur out) := Lib.hid (by
          rw [HST.out.1, HOUT.out, HCUR.out, HKO.out.1, HKO.out.2]; unfold stepW; rw [hlow])
        have HC1 : Hid (curK cs (k + 1) = []) := Lib.hid (by
          rw [HST.out.2]; unfold stepW; rw [hlow])
        simp only [Option.getD_none]
        clear hlow
        obtain ⟨wr, rfl⟩ : ∃ w0 : World, w0 = w2 := ⟨_, rfl⟩
        by_cases hc0 : 0 < cur.length
        · by_cases hc40 : cur.length ≤ 40
          · have HF : Hid (flushW cur out = out ++ [strOfNums cur]) := Lib.hid (by unfold flushW; rw [if_pos ⟨hc0, hc40⟩])
            have j1 : (0 : Int) < (cur.length : Int) := by omega
            have j2 : (cur.length : Int) ≤ 40 := by omega
            have hcv := Lib.BytesIn.convert (P := Tryz.prog) (w := wr) (p := Aw) (n := cur.length) (xs := cur) (bytesin_rd RW.out) rfl cw 22 5 9 Tryz.underlying22 Tryz.underlying5 Tryz.underlying9
            go_wp2_with (at_builtin; refine wpList_append1 rfl _ _ 123 rfl w.heap.size Tryz.underlying123 strInfo rfl (by decide) (v := .slice Ao out.length co) (by rfl) (w0 := wr) (cs := #[.string (strOfNums cur)]) OO.out (by rfl) rfl (by simp [Value.oneCell']) (by decide) (by omega) (by omega) ?_; intro v7 w7 hown7 hg7 hob7)
            have O7 : Hid (w7.ownsRow w.heap.size 9 1 v7 (flushW cur out).length ((flushW cur out).map .string)) := Lib.hid (by rw [HF.out]; simpa using hown7)
            have G7 : Hid (w.grownBy w7 none) := Lib.hid (only_own G.out hg7 OO.out (Nat.le_refl _))
            clear hown7 hg7 hob7 hcv
            go_wp2_with fail
            go_roundw
            case rel => exact ⟨k + 1, by omega, by go_num, by rw [HO1.out]; exact O7.out, by rw [HC1.out]; exact World.ownsRow_nil _ _ _ _, G7.out⟩
            case measure => simp [intOf]; omega
          · have HF : Hid (flushW cur out = out) := Lib.hid (by unfold flushW; rw [if_neg (by omega)])
            have j1 : (0 : Int) < (cur.length : Int) := by omega
            have j2 : ¬ ((cur.length : Int) ≤ 40) := by omega
            have O7 : Hid (wr.ownsRow w.heap.size 9 1 (.slice Ao out.length co) (flushW cur out).length ((flushW cur out).map .string)) := Lib.hid (by rw [HF.out]; exact OO.out)
            have G7 := G
            go_wp2_with fail
            go_roundw
            case rel => exact ⟨k + 1, by omega, by go_num, by rw [HO1.out]; exact O7.out, by rw [HC1.out]; exact World.ownsRow_nil _ _ _ _, G7.out⟩
            case measure => simp [intOf]; omega
        · have HF : Hid (flushW cur out = out) := Lib.hid (by unfold flushW; rw [if_neg (by omega)])
          have j1 : ¬ ((0 : Int) < (cur.length : Int)) := by omega
          have O7 : Hid (wr.ownsRow w.heap.size 9 1 (.slice Ao out.length co) (flushW cur out).length ((flushW cur out).map .string)) := Lib.hid (by rw [HF.out]; exact OO.out)
          have G7 := G
          go_wp2_with fail
          go_roundw
          case rel => exact ⟨k + 1, by omega, by go_num, by rw [HO1.out]; exact O7.out, by rw [HC1.out]; exact World.ownsRow_nil _ _ _ _, G7.out⟩
          case measure => simp [intOf]; omega
    · by_cases hke : k = s.size
      · have i1 : ¬ ((k : Int) < (s.size : Int)) := by omega
        have i2 : (k : Int) ≤ (s.size : Int) := by omega
        have HO1 : Hid (outK cs (k + 1) = flushW cur out) := Lib.hid (by
          rw [HOUT.out, HCUR.out]
          unfold outK curK
          rw [if_neg (by rw [HLEN.out]; omega), if_pos (by rw [HLEN.out]; omega), if_pos (by rw [HLEN.out]; omega), List.take_of_length_le (by rw [HLEN.out]; omega)]
          rfl)
        have HC1 : Hid (curK cs (k + 1) = []) := Lib.hid (by unfold curK; rw [if_neg (by rw [HLEN.out]; omega)])
        have HKE := Lib.hid hke
        clear hke
        by_cases hc0 : 0 < cur.length
        · by_cases hc40 : cur.length ≤ 40
          · have HF : Hid (flushW cur out = out ++ [strOfNums cur]) := Lib.hid (by unfold flushW; rw [if_pos ⟨hc0, hc40⟩])
            have j1 : (0 : Int) < (cur.length : Int) := by omega
            have j2 : (cur.length : Int) ≤ 40 := by omega
            have hcv := Lib.BytesIn.convert (P := Tryz.prog) (w := wr) (p := Aw) (n := cur.length) (xs := cur) (bytesin_rd RW.out) rfl cw 22 5 9 Tryz.underlying22 Tryz.underlying5 Tryz.underlying9
            go_wp2_with (at_builtin; refine wpList_append1 rfl _ _ 123 rfl w.heap.size Tryz.underlying123 strInfo rfl (by decide) (v := .slice Ao out.length co) (by rfl) (w0 := wr) (cs := #[.string (strOfNums cur)]) OO.out (by rfl) rfl (by simp [Value.oneCell']) (by decide) (by omega) (by omega) ?_; intro v7 w7 hown7 hg7 hob7)
            have O7 : Hid (w7.ownsRow w.heap.size 9 1 v7 (flushW cur out).length ((flushW cur out).map .string)) := Lib.hid (by rw [HF.out]; simpa using hown7)
            have G7 : Hid (w.grownBy w7 none) := Lib.hid (only_own G.out hg7 OO.out (Nat.le_refl _))
            clear hown7 hg7 hob7 hcv
            go_wp2_with fail
            go_roundw
            case rel => exact ⟨k + 1, by omega, by go_num, by rw [HO1.out]; exact O7.out, by rw [HC1.out]; exact World.ownsRow_nil _ _ _ _, G7.out⟩
            case measure => simp [intOf]; omega
          · have HF : Hid (flushW cur out = out) := Lib.hid (by unfold flushW; rw [if_neg (by omega)])
            have j1 : (0 : Int) < (cur.length : Int) := by omega
            have j2 : ¬ ((cur.length : Int) ≤ 40) := by omega
            have O7 : Hid (wr.ownsRow w.heap.size 9 1 (.slice Ao out.length co) (flushW cur out).length ((flushW cur out).map .string)) := Lib.hid (by rw [HF.out]; exact OO.out)
            have G7 := G
            go_wp2_with fail
            go_roundw
            case rel => exact ⟨k + 1, by omega, by go_num, by rw [HO1.out]; exact O7.out, by rw [HC1.out]; exact World.ownsRow_nil _ _ _ _, G7.out⟩
            case measure => simp [intOf]; omega
        · have HF : Hid (flushW cur out = out) := Lib.hid (by unfold flushW; rw [if_neg (by omega)])
          have j1 : ¬ ((0 : Int) < (cur.length : Int)) := by omega
          have O7 : Hid (wr.ownsRow w.heap.size 9 1 (.slice Ao out.length co) (flushW cur out).length ((flushW cur out).map .string)) := Lib.hid (by rw [HF.out]; exact OO.out)
          have G7 := G
          go_wp2_with fail
          go_roundw
          case rel => exact ⟨k + 1, by omega, by go_num, by rw [HO1.out]; exact O7.out, by rw [HC1.out]; exact World.ownsRow_nil _ _ _ _, G7.out⟩
          case measure => simp [intOf]; omega
      · have i2 : ¬ ((k : Int) ≤ (s.size : Int)) := by omega
        have HE : Hid (out = rawW cs) := Lib.hid (by rw [HOUT.out]; unfold outK; rw [if_neg (by rw [HLEN.out]; omega)])
        have KD := Lib.hid (distinct_own Ao out co wr RO.out (by omega) hoc hom)
        go_wp2_with fail
        refine KD.out.mono ?_
        rintro e w3 ⟨A3, c3, ds, rfl, e1, e2, e3, e4, e5, e6, e7⟩
        have H6 := Lib.hid (own_dn e6 hsz)
        have G3 := Lib.hid (only_trans G.out e7)
        have E4 := Lib.hid e4
        have E3 := Lib.hid e3
        clear e6 e7 e4 e3 KD
        go_wp2_with fail
        go_ret
        exact ⟨A3, c3, ds, rfl, e1, e2, E3.out, by rw [← HE.out]; exact E4.out, by rw [← HE.out]; exact e5, H6.out, G3.out⟩
theorem rwords_any (s : ByteArray) (w : World) (hl : s.size ≤ 100000) :
    Calls Tryz.prog 99 #[.string s] w (DistPost w (rawW (bts s))) := (rwords_own s w hl).mono fun _ _ h => h.post
end Go.Proofs.YtganfhmjklcchaaGreat

namespace Go.Proofs.YtganfhmjklcchaaGreat
open Go.RowKit
set_option linter.unusedVariables false
set_option linter.unusedSimpArgs false

set_option maxHeartbeats 800000 in
theorem word_some (g : Nat) (l : List Int) (k : Nat) (w : World) (h : CodesAt w g l k) :
    Calls Tryz.prog 113 #[.pointer (some ⟨g, 0, none⟩)] w (StrPost w g l 7) := by
  go_enter Tryz.func113, Tryz.ntmps113
  go_wp2_with fail
  refine (next_some g l k 14 _ (h.grown (World.grownBy_alloc _ _ none) (by simp)) (by omega) (by omega)).mono ?_
  rintro e w2 ⟨v2, k2, rfl, hv2, h2, hg2⟩
  obtain ⟨j, rfl⟩ := Int.eq_ofNat_of_zero_le hv2.1
  have hj : j < 14 := by omega
  have hlt := h.lt
  have hB := (Blk.new w _ _).grown hg2 (by simp; omega)
  obtain ⟨x, hc, HX⟩ := hB.str_at (m := 7) (by rfl) (j := j) hj
  have G2 := Lib.hid hg2
  have C2 := Lib.hid h2
  clear hg2 h2 hB
  go_wp2
  go_ret
  exact ⟨x, k2, rfl, by have := HX.out; simpa using this, C2.out, only_trans (only_alloc (only_refl _ _) _) G2.out⟩
end Go.Proofs.YtganfhmjklcchaaGreat

namespace Go.Proofs.YtganfhmjklcchaaGreat
open Go.RowKit
set_option linter.unusedVariables false
set_option linter.unusedSimpArgs false

def sepTab : Array Value := #[.string ⟨#[32]⟩, .string ⟨#[32]⟩, .string ⟨#[44, 32]⟩, .string ⟨#[61]⟩, .string ⟨#[]⟩]
set_option maxHeartbeats 1600000 in
theorem text_some (g : Nat) (l : List Int) (k : Nat) (w : World) (h : CodesAt w g l k) :
    Calls Tryz.prog 90 #[.pointer (some ⟨g, 0, none⟩)] w (StrPost w g l 40) := by
  go_enter Tryz.func90, Tryz.ntmps90
  go_wp2_with fail
  refine (word_some g l k _ h).mono ?_
  rintro e w1 ⟨s1, k1, rfl, hs1, h1, hg1⟩
  go_wp2_with fail
  refine (next_some g l k1 4 _ h1 (by omega) (by omega)).mono ?_
  rintro e w2 ⟨v2, k2, rfl, hv2, h2, hg2⟩
  have G2 : Hid (w.grownBy w2 (some g)) := only_trans hg1 hg2
  clear hg1 hg2 h1 h
  go_wp2_with fail
  go_loopw [3, 4] (fun s i wr => ∃ (m : Int) (s' : ByteArray) (k : Nat), i = .int .i64 m ∧ 0 ≤ m ∧ s = .string s' ∧ (s'.size : Int) + 10 * m ≤ 37 ∧ CodesAt wr g l k ∧ w.grownBy wr (some g)) (fun _ i _ => (intOf i).toNat)
  case atStart => exact ⟨v2, s1, k2, rfl, hv2.1, rfl, by omega, h2, G2.out⟩
  case round =>
    obtain ⟨m, s', k, rfl, hm, rfl, hsz, hC, hG⟩ := hrel
    have G := Lib.hid hG
    have hlt := hC.lt
    clear hG h2 G2
    by_cases hm0 : 0 < m
    · go_wp2_with fail
      go_region_with (first
        | (go_at_call 11; refine (next_some g l k 5 _ (by first | exact hC.drew | exact (hC.alloc _).drew) (by omega) (by omega)).mono ?_; rintro e w5 ⟨v5, k5, rfl, hv5, hC5, hg5⟩; obtain ⟨j, rfl⟩ := Int.eq_ofNat_of_zero_le hv5.1; obtain ⟨x, hx, hX⟩ := tab_str (cs := sepTab) (m := 2) (by rfl) (j := j) (show j < 5 by omega); simp only [sepTab] at hx; (try (have hcb := ((Blk.new _ _ _).drew.grown hg5 (by simp; omega)).cell j; rw [hx] at hcb)))
        | (go_at_call 113; refine (word_some g l k5 _ (by first | exact hC5 | exact hC5.alloc _)).mono ?_; rintro e w6 ⟨s6, k6, rfl, hs6, hC6, hg6⟩; (try (have hcb2 := ((Blk.new _ _ _).grown hg6 (by have := hC5.lt; simp; omega)).cell j; rw [hx] at hcb2)); (try (have hcb3 := hg6.cell hcb (by simp; omega)))))
      all_goals go_wp2
      all_goals go_roundw
      all_goals first
        | (refine ⟨m - 1, _, k6, rfl, by omega, rfl, ?_, by first | exact hC6 | exact hC6.alloc _, ?_⟩
           · simp only [ByteArray.size_append]; omega
           · first
             | exact only_trans (only_trans (only_drew (only_alloc G.out _)) hg5) hg6
             | exact only_trans (only_alloc (only_trans (only_drew G.out) hg5) _) hg6
             | exact only_alloc (only_trans (only_trans (only_drew G.out) hg5) hg6) _)
        | (simp [intOf]; omega)
    · go_wp2_with fail
      go_ret
      exact ⟨s', k, rfl, by omega, hC, G.out⟩
end Go.Proofs.YtganfhmjklcchaaGreat

namespace Go.Proofs.YtganfhmjklcchaaGreat
open Go.RowKit
set_option linter.unusedVariables false
set_option linter.unusedSimpArgs false

set_option maxHeartbeats 800000 in
theorem value_some (g : Nat) (l : List Int) (k : Nat) (w : World) (h : CodesAt w g l k) :
    Calls Tryz.prog 114 #[.pointer (some ⟨g, 0, none⟩)] w (StrPost w g l 20) := by
  go_enter Tryz.func114, Tryz.ntmps114
  go_wp2_with fail
  refine (next_some g l k 11 _ (h.grown (World.grownBy_alloc _ _ none) (by simp)) (by omega) (by omega)).mono ?_
  rintro e w2 ⟨v2, k2, rfl, hv2, h2, hg2⟩
  obtain ⟨j, rfl⟩ := Int.eq_ofNat_of_zero_le hv2.1
  have hj : j < 11 := by omega
  have hlt := h.lt
  have hB := (Blk.new w _ _).grown hg2 (by simp; omega)
  obtain ⟨x, hc, HX⟩ := hB.str_at (m := 20) (by rfl) (j := j) hj
  have G2 := Lib.hid hg2
  have C2 := Lib.hid h2
  clear hg2 h2 hB
  go_wp2
  go_ret
  exact ⟨x, k2, rfl, by have := HX.out; simpa using this, C2.out, only_trans (only_alloc (only_refl _ _) _) G2.out⟩

def IsWeight (v : Int) : Prop := v = 1 ∨ v = 2 ∨ v = 5 ∨ v = 10 ∨ v = 5040

set_option maxHeartbeats 800000 in
theorem weight_some (g : Nat) (l : List Int) (k : Nat) (w : World) (h : CodesAt w g l k) :
    Calls Tryz.prog 92 #[.pointer (some ⟨g, 0, none⟩)] w (DrawnPost w g l IsWeight) := by
  go_enter Tryz.func92, Tryz.ntmps92
  go_wp2_with fail
  refine (next_some g l k 6 _ (h.grown (World.grownBy_alloc _ _ none) (by simp)) (by omega) (by omega)).mono ?_
  rintro e w2 ⟨v2, k2, rfl, hv2, h2, hg2⟩
  obtain ⟨j, rfl⟩ := Int.eq_ofNat_of_zero_le hv2.1
  have hj : j < 6 := by omega
  have hlt := h.lt
  have hB := (Blk.new w _ _).grown hg2 (by simp; omega)
  obtain ⟨x, hc, HX⟩ := hB.int_at (p := fun v => v == 1 || v == 2 || v == 5 || v == 10 || v == 5040) (by rfl) (j := j) hj
  have G2 := Lib.hid hg2
  have C2 := Lib.hid h2
  clear hg2 h2 hB
  go_wp2
  go_ret
  exact ⟨x, k2, rfl, by have := HX.out; simpa [IsWeight, or_assoc] using this, C2.out, only_trans (only_alloc (only_refl _ _) _) G2.out⟩

end Go.Proofs.YtganfhmjklcchaaGreat

namespace Go.Proofs.YtganfhmjklcchaaGreat
open Go.RowKit
set_option linter.unusedVariables false
set_option linter.unusedSimpArgs false

theorem fieldInfo : (Tryz.prog.info? 154).map (fun i => (i.zero, i.size, i.bytes)) = some (some (.agg #[.string ⟨#[]⟩, .string ⟨#[]⟩]), 2, 32) := by kernel_rfl
def nameTab : List ByteArray := [⟨#[99, 111, 100, 101]⟩, ⟨#[108, 101, 118, 101, 108]⟩, ⟨#[109, 115]⟩, ⟨#[117, 115, 101, 114]⟩]
def FieldsOk (n : Nat) (fs : List FieldD) : Prop := (fs.map FieldD.name).Sublist (nameTab.take n) ∧ ∀ f ∈ fs, f.value.size ≤ 20
theorem FieldsOk.skip {n : Nat} {fs : List FieldD} (h : FieldsOk n fs) : FieldsOk (n + 1) fs :=
  ⟨h.1.trans (List.take_sublist_take_left (by omega)), h.2⟩
theorem FieldsOk.snoc {n : Nat} {fs : List FieldD} (h : FieldsOk n fs) (hn : n < 4) {f : FieldD} (h1 : nameTab[n]? = some f.name) (h2 : f.value.size ≤ 20) : FieldsOk (n + 1) (fs ++ [f]) := by
  refine ⟨?_, mem_snoc h.2 h2⟩
  have : nameTab.take (n + 1) = nameTab.take n ++ [f.name] := by rw [List.take_add_one, h1]; rfl
  rw [this, List.map_append]
  exact h.1.append (List.Sublist.refl _)
def FieldsPost (w : World) (g : Nat) (l : List Int) (e : Ending) (w' : World) : Prop :=
  ∃ (A : Option Addr) (c : Nat) (fs : List FieldD) (k : Nat), e = .returned (.slice A fs.length c) ∧ FieldsOk 4 fs ∧ fs.length ≤ c ∧ c ≤ maxLen ∧ Rd (w.heap.size ≤ ·) w' A (fs.flatMap FieldD.cells) ∧ CodesAt w' g l k ∧ w.grownBy w' (some g)

set_option maxHeartbeats 1600000 in
set_option maxRecDepth 100000 in
theorem fields_some (g : Nat) (l : List Int) (k : Nat) (w : World) (h : CodesAt w g l k) :
    Calls Tryz.prog 93 #[.pointer (some ⟨g, 0, none⟩)] w (FieldsPost w g l) := by
  have hlt0 := h.lt
  go_enter Tryz.func93, Tryz.ntmps93
  go_wp2_with fail
  obtain ⟨W, hW⟩ : ∃ W, W = w.alloc (Obj.cells (nameTab.map Value.string).toArray 9) := ⟨_, rfl⟩
  have hW2 : w.alloc (Obj.cells #[Value.string ⟨#[99, 111, 100, 101]⟩, Value.string ⟨#[108, 101, 118, 101, 108]⟩, Value.string ⟨#[109, 115]⟩, Value.string ⟨#[117, 115, 101, 114]⟩] 9) = W := hW.symm
  rw [hW2]
  have HC : Hid (CodesAt W g l k) := hW ▸ h.alloc _
  have HB : Hid (Blk W w.heap.size 9 (nameTab.map Value.string).toArray) := hW ▸ Blk.new w _ _
  have HG : Hid (w.grownBy W (some g)) := hW ▸ only_alloc (only_refl _ _) _
  clear hW hW2 h
  obtain ⟨tb, htb⟩ : ∃ tb, tb = w.heap.size := ⟨_, rfl⟩
  rw [← htb] at HB hlt0 ⊢
  have HTB := Lib.hid htb
  clear htb
  go_loopw [3, 5] (fun v i wr => ∃ (n k : Nat) (fs : List FieldD), n ≤ 4 ∧ fs.length ≤ n ∧ i = .int .i64 n ∧ FieldsOk n fs ∧ wr.ownsRow (tb + 1) 154 2 v fs.length (fs.flatMap FieldD.cells) ∧ CodesAt wr g l k ∧ Blk wr tb 9 (nameTab.map Value.string).toArray ∧ w.grownBy wr (some g)) (fun _ i _ => 4 - (intOf i).toNat)
  case atStart => exact ⟨0, k, [], by omega, by simp, rfl, ⟨by simp, by simp⟩, World.ownsRow_nil _ _ _ _, HC.out, HB.out, HG.out⟩
  case round =>
    obtain ⟨n, k, fs, hn, hfn, rfl, hok, hown, hC, hB, hG⟩ := hrel
    have G := Lib.hid hG
    have OK := Lib.hid hok
    have hlt := hB.lt
    clear hG hok HC HB HG
    by_cases hn4 : n < 4
    · go_wp2_with fail
      refine (next_some g l k 3 _ hC (by omega) (by omega)).mono ?_
      rintro e w2 ⟨v2, k2, rfl, hv2, h2, hg2⟩
      have hown2 := own_only hown hg2 (by omega)
      have hB2 := hB.grown hg2 (by simp; omega)
      have G2 : Hid (w.grownBy w2 (some g)) := only_trans G.out hg2
      have hlt2 := hB2.lt
      clear hC hB hown hg2 G hlt
      by_cases hv : v2 = 1
      · have hb1 : (v2 == 1) = true := by simp [hv]
        obtain ⟨nm, hnm⟩ : ∃ nm, nameTab[n]? = some nm := ⟨_, List.getElem?_eq_getElem (show n < nameTab.length from hn4)⟩
        have hcell := hB2.cell n
        have hcell' : w2.cell? ⟨tb, n, none⟩ = some (.string nm) := by rw [hcell]; simp [hnm]
        have HNM := Lib.hid hnm
        have HB2 := Lib.hid hB2
        clear hcell hnm hv hB2
        go_wp2_with fail
        go_region_law (first
          | (have htok := hown5; go_must (refine step_append1 rfl _ _ 65 rfl (tb + 1) Tryz.underlying65 fieldInfo rfl (by decide) (v := _) (by rfl) (w0 := w5) (cs := #[.string nm, .string s5]) (by rfl) (by rfl) (by rfl) (by rfl) hown5 (by rfl) rfl (by simp [Value.oneCell']) (by decide) (by omega) (by omega) ?_); intro v9 w9 hown9 hg9 hob9)
          | (go_simp; go_at_call 114; refine (value_some g l k2 _ (by exact h2.drew)).mono ?_; rintro e w5 ⟨s5, k5, rfl, hs5, hC5, hg5⟩; have hown5 := own_only (own_drew hown2) hg5 (by omega); have hlt5 := hC5.lt; have hz5 : w2.heap.size ≤ w5.heap.size := hg5.size; have hcell5 : w5.cell? ⟨tb, n, none⟩ = some (.string nm) := hg5.cell (show w2.drew.cell? _ = _ from hcell') (by simp; omega)))
        all_goals
          have hC9 := hC5.grown hg9 (fun b hb e => by have := (hown5.lt b e.symm).1; omega)
          have hB9 := (HB2.out.drew.grown hg5 (by simp; omega)).grown hg9 (fun e => by have := (hown5.lt _ e.symm).1; omega)
          have G9 : Hid (w.grownBy w9 (some g)) := only_own (only_trans (only_drew G2.out) hg5) hg9 hown5 (by have := HTB.out; omega)
          have hown9' : w9.ownsRow (tb + 1) 154 2 v9 (fs ++ [FieldD.mk nm s5]).length ((fs ++ [FieldD.mk nm s5]).flatMap FieldD.cells) := by simpa [FieldD.cells] using hown9
          clear hown9 hg9 hob9 hown5 hC5 hg5 hcell5 hown2 h2
          go_wp2_with fail
          go_roundw
          case rel => exact ⟨n + 1, k5, fs ++ [FieldD.mk nm s5], by omega, by simp; omega, by go_num, OK.out.snoc hn4 HNM.out hs5, hown9', hC9, hB9, G9.out⟩
          case measure => simp [intOf]; omega
      · have hb1 : (v2 == 1) = false := by simp [hv]
        go_wp2_with fail
        go_roundw
        case rel => exact ⟨n + 1, k2, fs, by omega, by omega, by go_num, OK.out.skip, hown2, h2, hB2, G2.out⟩
        case measure => simp [intOf]; omega
    · obtain rfl : n = 4 := by omega
      obtain ⟨A, cc, rfl, hnc, hcm, -, hrd⟩ := Rd.of_own hown (by decide)
      have HR := Lib.hid hrd
      clear hrd
      go_wp2_with fail
      go_ret
      exact ⟨A, cc, fs, k, rfl, OK.out, hnc, hcm, HR.out.mono (fun b hb _ => by have := HTB.out; omega), hC, G.out⟩
end Go.Proofs.YtganfhmjklcchaaGreat

namespace Go.Proofs.YtganfhmjklcchaaGreat
open Go.RowKit
set_option linter.unusedVariables false
set_option linter.unusedSimpArgs false

def Ev.less (a b : Ev) : Bool :=
  if a.time ≠ b.time then decide (a.time < b.time) else if a.host ≠ b.host then decide (a.host < b.host) else if a.file ≠ b.file then decide (a.file < b.file) else decide (a.beg < b.beg)
def BoolExt (b : Bool) (w : World) (e : Ending) (w' : World) : Prop := e = .returned (.bool b) ∧ w.grownBy w' none

set_option maxHeartbeats 1000000 in
theorem rless_any (a b : Ev) (w : World) : Calls Tryz.prog 68 #[.agg a.cells.toArray, .agg b.cells.toArray] w (BoolExt (a.less b) w) := by
  have hE : w.grownBy ((w.alloc (.cells a.cells.toArray 67)).alloc (.cells b.cells.toArray 67)) none := only_alloc (only_alloc (only_refl _ _) _) _
  have HE := Lib.hid hE
  clear hE
  simp only [Ev.cells] at HE ⊢
  by_cases h1 : a.time = b.time
  · have b1 : (a.time != b.time) = false := by simp [h1]
    by_cases h2 : a.host = b.host
    · have b2 : (a.host != b.host) = false := by simp [h2]
      by_cases h3 : a.file = b.file
      · have b3 : (a.file != b.file) = false := by simp [h3]
        have hl : a.less b = decide (a.beg < b.beg) := by simp [Ev.less, h1, h2, h3]
        rw [hl]
        clear h1 h2 h3 hl
        go_enter Tryz.func68, Tryz.ntmps68
        go_wp2
        go_ret
        exact ⟨rfl, HE.out⟩
      · have b3 : (a.file != b.file) = true := by simp [h3]
        have hl : a.less b = decide (a.file < b.file) := by simp [Ev.less, h1, h2, h3]
        rw [hl]
        clear h1 h2 h3 hl
        go_enter Tryz.func68, Tryz.ntmps68
        go_wp2
        go_ret
        exact ⟨rfl, HE.out⟩
    · have b2 : (a.host != b.host) = true := by simp [h2]
      have hl : a.less b = decide (a.host < b.host) := by simp [Ev.less, h1, h2]
      rw [hl]
      clear h1 h2 hl
      go_enter Tryz.func68, Tryz.ntmps68
      go_wp2
      go_ret
      exact ⟨rfl, HE.out⟩
  · have b1 : (a.time != b.time) = true := by simp [h1]
    have hl : a.less b = decide (a.time < b.time) := by simp [Ev.less, h1]
    rw [hl]
    clear h1 hl
    go_enter Tryz.func68, Tryz.ntmps68
    go_wp2
    go_ret
    exact ⟨rfl, HE.out⟩
end Go.Proofs.YtganfhmjklcchaaGreat

namespace Go.Proofs.YtganfhmjklcchaaGreat
open Go.RowKit
set_option linter.unusedVariables false
set_option linter.unusedSimpArgs false

def zeroEv : Value := .agg #[.int .i64 0, .int .i64 0, .int .i64 0, .int .i64 0, .slice none 0 0, .int .i64 0, .int .i64 0, .string ⟨#[]⟩, .string ⟨#[]⟩, .slice none 0 0]
theorem eventInfo : (Tryz.prog.info? 67).map (fun i => (i.zero, i.size, i.bytes)) = some (some zeroEv, 10, 128) := by kernel_rfl
theorem Ev.one (e : Ev) : ∀ u ∈ e.cells, u.oneCell' = true := by simp [Ev.cells, Value.oneCell']
def insAt (es : List Ev) (e : Ev) (i : Nat) : List Ev := es.take i ++ e :: es.drop i
def InsPost (w : World) (es : List Ev) (e : Ev) (en : Ending) (w' : World) : Prop :=
  ∃ (A : Option Addr) (c i : Nat), i ≤ es.length ∧ (∀ j x, i ≤ j → es[j]? = some x → e.less x = true) ∧ (∀ x, 0 < i → es[i - 1]? = some x → e.less x = false) ∧ en = .returned (.slice A (es.length + 1) c) ∧ es.length + 1 ≤ c ∧ c ≤ maxLen ∧
    Rd (w.heap.size ≤ ·) w' A ((insAt es e i).flatMap Ev.cells) ∧ w.grownBy w' none

/-- the ten cells of one event of a slice -/
theorem Evs.cells_at {S : Nat → Prop} {w : World} {b off : Nat} {es : List Ev} (h : Rd S w (some ⟨b, off, none⟩) (es.flatMap Ev.cells)) {i : Nat} (hi : i < es.length) (j : Nat) (hj : j < 10) :
    w.cell? ⟨b, off + i * 10 + j, none⟩ = (es[i]).cells[j]? := by
  rw [Nat.add_assoc]
  obtain ⟨b', off', e, _, _, hc⟩ := h (by rw [flat_len _ 10 Ev.cells_len]; omega)
  injection e with e
  injection e with e1 e2
  subst e1 e2
  have h1 := flat_at Ev.cells 10 Ev.cells_len es i j hi hj
  have h2 : (es[i]).cells[j]? = some ((es[i]).cells[j]'(by rw [Ev.cells_len]; exact hj)) := List.getElem?_eq_getElem _
  rw [h2]
  exact hc _ _ (h1.trans h2)

theorem Evs.load10 {S : Nat → Prop} {w : World} {b off : Nat} {es : List Ev} (h : Rd S w (some ⟨b, off, none⟩) (es.flatMap Ev.cells)) {i : Nat} (hi : i < es.length) {y : Ev} (hy : es[i] = y) :
    w.cell? ⟨b, off + i * 10, none⟩ = some (.int .i64 y.host) ∧ w.cell? ⟨b, off + i * 10 + 1, none⟩ = some (.int .i64 y.file) ∧ w.cell? ⟨b, off + i * 10 + 2, none⟩ = some (.int .i64 y.beg) ∧
    w.cell? ⟨b, off + i * 10 + 3, none⟩ = some (.int .i64 y.fin) ∧ w.cell? ⟨b, off + i * 10 + 4, none⟩ = some (.slice y.la y.lines.length y.lc) ∧ w.cell? ⟨b, off + i * 10 + 5, none⟩ = some (.int .i64 y.time) ∧
    w.cell? ⟨b, off + i * 10 + 6, none⟩ = some (.int .i64 y.weight) ∧ w.cell? ⟨b, off + i * 10 + 7, none⟩ = some (.string y.trace) ∧ w.cell? ⟨b, off + i * 10 + 8, none⟩ = some (.string y.stream) ∧ w.cell? ⟨b, off + i * 10 + 9, none⟩ = some (.slice y.fa y.fields.length y.fc) := by
  subst hy
  exact ⟨Evs.cells_at h hi 0 (by omega), Evs.cells_at h hi 1 (by omega), Evs.cells_at h hi 2 (by omega), Evs.cells_at h hi 3 (by omega), Evs.cells_at h hi 4 (by omega), Evs.cells_at h hi 5 (by omega), Evs.cells_at h hi 6 (by omega), Evs.cells_at h hi 7 (by omega), Evs.cells_at h hi 8 (by omega), Evs.cells_at h hi 9 (by omega)⟩
theorem Blk.load10 {w : World} {g t : Nat} {y : Ev} (h : Blk w g t y.cells.toArray) :
    w.cell? ⟨g, 0, none⟩ = some (.int .i64 y.host) ∧ w.cell? ⟨g, 1, none⟩ = some (.int .i64 y.file) ∧ w.cell? ⟨g, 2, none⟩ = some (.int .i64 y.beg) ∧
    w.cell? ⟨g, 3, none⟩ = some (.int .i64 y.fin) ∧ w.cell? ⟨g, 4, none⟩ = some (.slice y.la y.lines.length y.lc) ∧ w.cell? ⟨g, 5, none⟩ = some (.int .i64 y.time) ∧
    w.cell? ⟨g, 6, none⟩ = some (.int .i64 y.weight) ∧ w.cell? ⟨g, 7, none⟩ = some (.string y.trace) ∧ w.cell? ⟨g, 8, none⟩ = some (.string y.stream) ∧ w.cell? ⟨g, 9, none⟩ = some (.slice y.fa y.fields.length y.fc) :=
  ⟨h.cell 0, h.cell 1, h.cell 2, h.cell 3, h.cell 4, h.cell 5, h.cell 6, h.cell 7, h.cell 8, h.cell 9⟩

set_option maxHeartbeats 1600000 in
set_option maxRecDepth 100000 in
theorem insert_any {S : Nat → Prop} (A : Option Addr) (es : List Ev) (c : Nat) (x : Ev) (w : World) (h : Rd S w A (es.flatMap Ev.cells)) (hl : es.length ≤ 100000) (hc : es.length ≤ c) (hcm : c ≤ maxLen) :
    Calls Tryz.prog 46 #[.slice A es.length c, .agg x.cells.toArray] w (InsPost w es x) := by
  unfold maxLen at hcm
  have H := Lib.hid (h.mono (S' := (· < w.heap.size)) (fun b _ hb => hb))
  obtain ⟨W, hW⟩ : ∃ W, W = w.alloc (.cells x.cells.toArray 67) := ⟨_, rfl⟩
  have HB : Hid (Blk W w.heap.size 67 x.cells.toArray) := hW ▸ Blk.new w _ _
  have HG : Hid (w.grownBy W none) := hW ▸ only_alloc (only_refl _ _) _
  have hW2 : w.alloc (.cells #[.int .i64 x.host, .int .i64 x.file, .int .i64 x.beg, .int .i64 x.fin, .slice x.la x.lines.length x.lc, .int .i64 x.time, .int .i64 x.weight, .string x.trace, .string x.stream, .slice x.fa x.fields.length x.fc] 67) = W := hW.symm
  clear h hW
  show Calls Tryz.prog 46 #[.slice A es.length c, .agg #[.int .i64 x.host, .int .i64 x.file, .int .i64 x.beg, .int .i64 x.fin, .slice x.la x.lines.length x.lc, .int .i64 x.time, .int .i64 x.weight, .string x.trace, .string x.stream, .slice x.fa x.fields.length x.fc]] w _
  have HW2 := Lib.hid hW2
  clear hW2
  go_enter Tryz.func46, Tryz.ntmps46
  go_wp2
  rw [HW2.out]
  obtain ⟨g, hg⟩ : ∃ g, g = w.heap.size := ⟨_, rfl⟩
  rw [← hg] at HB ⊢
  have HGS := Lib.hid hg
  clear hg HW2
  go_loopw [5] (fun i wr => ∃ k : Nat, k ≤ es.length ∧ i = .int .i64 k ∧ (∀ j y, k ≤ j → es[j]? = some y → x.less y = true) ∧ Blk wr g 67 x.cells.toArray ∧ w.grownBy wr none) (fun i _ => (intOf i).toNat)
  case atStart => exact ⟨es.length, Nat.le_refl _, rfl, (fun j y hj hy => by rw [List.getElem?_eq_none hj] at hy; cases hy), HB.out, HG.out⟩
  case round =>
    obtain ⟨k, hk, rfl, hall, hB, hG⟩ := hrel
    have G := Lib.hid hG
    have AL := Lib.hid hall
    clear hG hall HB HG
    obtain ⟨b0, b1, b2, b3, b4, b5, b6, b7, b8, b9⟩ := hB.load10
    have HB := Lib.hid hB
    clear hB
    by_cases hk0 : 0 < k
    · obtain ⟨b, off, rfl, -, -, -⟩ := H.out (by rw [flat_len _ 10 Ev.cells_len]; omega)
      obtain ⟨k, rfl⟩ : ∃ k', k = k' + 1 := ⟨k - 1, by omega⟩
      have hr := (H.out.grown G.out (by simp))
      have hklt : k < es.length := by omega
      obtain ⟨y, hy⟩ : ∃ y, es[k] = y := ⟨_, rfl⟩
      obtain ⟨e0, e1, e2, e3, e4, e5, e6, e7, e8, e9⟩ := Evs.load10 hr hklt hy
      have HY := Lib.hid hy
      clear hr hy
      have hwk : IntKind.i64.wrap (k : Int) = (k : Int) := IntWalk.i64_in _ (by omega)
      have hki : (k : Int) < (es.length : Int) := by omega
      have hkn : (0 : Int) ≤ (k : Int) := by omega
      go_wp2_with fail
      by_cases hless : x.less y = true
      · go_region_with (first | (go_at_call 68; refine (rless_any x y _).mono ?_; rintro e w2 ⟨rfl, hg2⟩))
        all_goals
          have hB2 := HB.out.drew.grown hg2 (by simp)
          have G2 : Hid (w.grownBy w2 none) := only_trans (only_drew G.out) hg2
          clear hg2 e0 e1 e2 e3 e4 e5 e6 e7 e8 e9 b0 b1 b2 b3 b4 b5 b6 b7 b8 b9 hwk
          go_wp2_with fail
          go_roundw
          case rel =>
            refine ⟨k, by omega, by go_num, fun j z hj hz => ?_, hB2, G2.out⟩
            rcases Nat.lt_or_ge k j with h | h
            · exact AL.out j z h hz
            · obtain rfl : j = k := by omega
              rw [List.getElem?_eq_getElem hklt, HY.out] at hz
              injection hz with hz
              rw [← hz]; exact hless
          case measure => simp [intOf]
      · have hless' : x.less y = false := by simpa using hless
        clear hless
        go_region_with (first | (go_at_call 68; refine (rless_any x y _).mono ?_; rintro e w2 ⟨rfl, hg2⟩))
        all_goals
          have hB2 := HB.out.drew.grown hg2 (by simp)
          have G2 : Hid (w.grownBy w2 none) := only_trans (only_drew G.out) hg2
          clear hg2 e0 e1 e2 e3 e4 e5 e6 e7 e8 e9 b0 b1 b2 b3 b4 b5 b6 b7 b8 b9 hwk
          have hlen1 : ((es.take (k + 1)).flatMap Ev.cells).length = (k + 1) * 10 := by rw [flat_len _ 10 Ev.cells_len, List.length_take, Nat.min_eq_left (by omega)]
          have HR1 : Hid (Rd (· < w.heap.size) w2 (some ⟨b, off, none⟩) ((es.take (k + 1)).flatMap Ev.cells)) := by
            have := (H.out.grown G2.out (by simp)).take ((k + 1) * 10)
            rwa [← flat_take Ev.cells_len] at this
          have hgB : g < w2.heap.size := hB2.lt
          go_wp2_with (at_builtin; refine wpList_appendN rfl _ _ 61 rfl (g + 1) Tryz.underlying61 eventInfo rfl (by decide) (v := .slice none 0 0) (by rfl) (World.ownsRow_nil _ _ _ _) (some ⟨b, off, none⟩) (k + 1) c (by rfl) HR1.out hlen1 (flat_one Ev.one _) (by decide) (by omega) (by omega) ?_; intro v5 w5 hown5 hg5 hob5)
          simp only [Nat.zero_add, List.nil_append] at hown5
          have hB5 := hB2.grown hg5 (by simp [Value.ownBlock])
          have HR5 : Hid (Rd (· < w.heap.size) w5 _ _) := ((H.out.grown G2.out (by simp)).grown hg5 (by simp [Value.ownBlock]))
          have G5 : Hid (w.grownBy w5 none) := only_trans G2.out (by simpa [Value.ownBlock] using hg5)
          have hlt5 := hB5.lt
          obtain ⟨b0, b1, b2, b3, b4, b5, b6, b7, b8, b9⟩ := hB5.load10
          clear hob5 HR1 hg5
          have hkk : IntKind.i64.wrap ((k : Int) + 1) = (k : Int) + 1 := IntWalk.i64_in _ (by omega)
          have hk1 : (0 : Int) ≤ (k : Int) + 1 := by omega
          have hk2 : (k : Int) + 1 ≤ (es.length : Int) := by omega
          have hk3 : ((k : Int) + 1).toNat = k + 1 := by omega
          go_region_law (first
            | (have htok := hown7; go_must (refine step_appendN rfl _ _ 61 rfl (g + 1) Tryz.underlying61 eventInfo rfl (by decide) (v := _) (by rfl) hown7 _ _ _ (by rfl) (HR7.out.cut (n := es.length) (k := k + 1) (size := 10) (cap := c) (by rw [flat_len _ 10 Ev.cells_len]) (by omega) (by omega)) (by rw [List.length_drop, flat_len _ 10 Ev.cells_len, Nat.sub_mul]) (fun u hu => flat_one Ev.one _ u (List.mem_of_mem_drop hu)) (by decide) (by omega) (by omega) ?_); intro v8 w8 hown8 hg8 hob8)
            | (go_must (refine step_append1 rfl _ _ 61 rfl (g + 1) Tryz.underlying61 eventInfo rfl (by decide) (v := _) (by rfl) (w0 := w5) (cs := x.cells.toArray) (by rfl) (by rfl) (by rfl) (by rfl) hown5 (by rfl) rfl (by simpa using Ev.one x) (by decide) (by omega) (by omega) ?_); intro v7 w7 hown7 hg7 hob7; have HR7 : Hid (Rd (· < w.heap.size) w7 _ _) := (HR5.out.grown hg7 (fun b hb e => by have := (hown5.lt b e.symm).1; have := HGS.out; omega)); have hz7 : w5.heap.size ≤ w7.heap.size := hg7.size))
          all_goals
            have G8 : Hid (w.grownBy w8 none) := only_own (only_own G5.out hg7 hown5 (by have := HGS.out; omega)) hg8 hown7 (by have := HGS.out; omega)
            have hown9 : w8.ownsRow (g + 1) 67 10 v8 (es.length + 1) ((insAt es x (k + 1)).flatMap Ev.cells) := by
              have e1 : (k + 1) + 1 + (es.length - (k + 1)) = es.length + 1 := by omega
              rw [e1] at hown8
              simpa [insAt, flat_drop Ev.cells_len, List.flatMap_append] using hown8
            obtain ⟨A8, c8, rfl, hc8, hm8, -, hr8⟩ := Rd.of_own hown9 (by decide)
            have HR8 := Lib.hid hr8
            clear hown5 hown7 hown8 hown9 hr8 hg7 hg8 hob7 hob8 b0 b1 b2 b3 b4 b5 b6 b7 b8 b9 hkk hk1 hk2 hk3
            go_wp2
            all_goals go_ret
            all_goals exact ⟨A8, c8, (k + 1), by omega, AL.out, (fun z hz hzz => by rw [show k + 1 - 1 = k from rfl, List.getElem?_eq_getElem hklt, HY.out] at hzz; injection hzz with hzz; rw [← hzz]; exact hless'), rfl, hc8, hm8, HR8.out.mono (fun b hb _ => by have := HGS.out; omega), G8.out⟩
    · obtain rfl : k = 0 := by omega
      clear b0 b1 b2 b3 b4 b5 b6 b7 b8 b9
      go_wp2_with fail
      go_quiet (fail)
      have HBq := HB.out.drewN nq
      have Gq : Hid (w.grownBy (wr.drewN nq) none) := only_drewN G.out nq
      have hlen1 : ((es.take 0).flatMap Ev.cells).length = 0 * 10 := by rw [flat_len _ 10 Ev.cells_len, List.length_take, Nat.min_eq_left (by omega)]
      have HR1 : Hid (Rd (· < w.heap.size) (wr.drewN nq) (A) ((es.take 0).flatMap Ev.cells)) := by
        have := (H.out.grown Gq.out (by simp)).take (0 * 10)
        rwa [← flat_take Ev.cells_len] at this
      have hgB : g < (wr.drewN nq).heap.size := HBq.lt
      go_wp2_with (at_builtin; refine wpList_appendN rfl _ _ 61 rfl (g + 1) Tryz.underlying61 eventInfo rfl (by decide) (v := .slice none 0 0) (by rfl) (World.ownsRow_nil _ _ _ _) (A) 0 c (by rfl) HR1.out hlen1 (flat_one Ev.one _) (by decide) (by omega) (by omega) ?_; intro v5 w5 hown5 hg5 hob5)
      simp only [Nat.zero_add, List.nil_append] at hown5
      have hB5 := HBq.grown hg5 (by simp [Value.ownBlock])
      have HR5 : Hid (Rd (· < w.heap.size) w5 _ _) := ((H.out.grown Gq.out (by simp)).grown hg5 (by simp [Value.ownBlock]))
      have G5 : Hid (w.grownBy w5 none) := only_trans Gq.out (by simpa [Value.ownBlock] using hg5)
      have hlt5 := hB5.lt
      obtain ⟨b0, b1, b2, b3, b4, b5, b6, b7, b8, b9⟩ := hB5.load10
      clear hob5 HR1 hg5
      have hk2 : (0 : Int) ≤ (es.length : Int) := by omega
      go_region_law (first
        | (have htok := hown7; go_must (refine step_appendN rfl _ _ 61 rfl (g + 1) Tryz.underlying61 eventInfo rfl (by decide) (v := _) (by rfl) hown7 _ _ _ (by rfl) HR7.out (by rw [flat_len _ 10 Ev.cells_len]) (flat_one Ev.one _) (by decide) (by omega) (by omega) ?_); intro v8 w8 hown8 hg8 hob8)
        | (go_must (refine step_append1 rfl _ _ 61 rfl (g + 1) Tryz.underlying61 eventInfo rfl (by decide) (v := _) (by rfl) (w0 := w5) (cs := x.cells.toArray) (by rfl) (by rfl) (by rfl) (by rfl) hown5 (by rfl) rfl (by simpa using Ev.one x) (by decide) (by omega) (by omega) ?_); intro v7 w7 hown7 hg7 hob7; have HR7 : Hid (Rd (· < w.heap.size) w7 _ _) := (HR5.out.grown hg7 (fun b hb e => by have := (hown5.lt b e.symm).1; have := HGS.out; omega)); have hz7 : w5.heap.size ≤ w7.heap.size := hg7.size))
      all_goals
        have G8 : Hid (w.grownBy w8 none) := only_own (only_own G5.out hg7 hown5 (by have := HGS.out; omega)) hg8 hown7 (by have := HGS.out; omega)
        have hown9 : w8.ownsRow (g + 1) 67 10 v8 (es.length + 1) ((insAt es x 0).flatMap Ev.cells) := by
          have e1 : 0 + 1 + es.length = es.length + 1 := by omega
          rw [e1] at hown8
          simpa [insAt, flat_drop Ev.cells_len, List.flatMap_append] using hown8
        obtain ⟨A8, c8, rfl, hc8, hm8, -, hr8⟩ := Rd.of_own hown9 (by decide)
        have HR8 := Lib.hid hr8
        clear hown5 hown7 hown8 hown9 hr8 hg7 hg8 hob7 hob8 b0 b1 b2 b3 b4 b5 b6 b7 b8 b9 hk2
        go_wp2
        all_goals go_ret
        all_goals exact ⟨A8, c8, 0, by omega, AL.out, (fun z hz => absurd hz (by omega)), rfl, hc8, hm8, HR8.out.mono (fun b hb _ => by have := HGS.out; omega), G8.out⟩
end Go.Proofs.YtganfhmjklcchaaGreat

namespace Go.Proofs.YtganfhmjklcchaaGreat
open Go.RowKit
set_option linter.unusedVariables false
set_option linter.unusedSimpArgs false

theorem load_ev (w : World) (g : Nat) (v0 v1 v2 v3 v5 v6 : Int) (s7 s8 : ByteArray) (A4 A9 : Option Addr) (n4 c4 n9 c9 : Nat) (h : Blk w g 67 #[.int .i64 v0, .int .i64 v1, .int .i64 v2, .int .i64 v3, .slice A4 n4 c4, .int .i64 v5, .int .i64 v6, .string s7, .string s8, .slice A9 n9 c9]) :
    (Instr.loadAt 67 (.pointer (some ⟨g, 0, none⟩))).run Tryz.prog w = .ok (.agg #[.int .i64 v0, .int .i64 v1, .int .i64 v2, .int .i64 v3, .slice A4 n4 c4, .int .i64 v5, .int .i64 v6, .string s7, .string s8, .slice A9 n9 c9]) w := by
  have c0 := h.cell 0
  have c1 := h.cell 1
  have c2 := h.cell 2
  have c3 := h.cell 3
  have c4 := h.cell 4
  have c5 := h.cell 5
  have c6 := h.cell 6
  have c7 := h.cell 7
  have c8 := h.cell 8
  have c9 := h.cell 9
  simp at c0 c1 c2 c3 c4 c5 c6 c7 c8 c9
  have hu := Tryz.underlying67
  simp [go_sem, c0, c1, c2, c3, c4, c5, c6, c7, c8, c9]
theorem fa_ev7 (w : World) (g : Nat) : (Instr.fieldAt 67 (.pointer (some ⟨g, 0, none⟩)) 7).run Tryz.prog w = .ok (.pointer (some ⟨g, 7, none⟩)) w := by
  simp [go_sem]
end Go.Proofs.YtganfhmjklcchaaGreat
