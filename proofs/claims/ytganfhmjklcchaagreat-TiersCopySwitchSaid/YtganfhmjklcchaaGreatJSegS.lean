/- section, the numbers' ones: the reference of chapter 27. Conditions: sizes. -/
import Derived.Test.YtganfhmjklcchaaGreatJSegI
import Derived.Test.YtganfhmjklcchaaGreatJWordP
import Derived.Deep.DeepCutAuto
import Derived.Test.YtganfhmjklcchaaGreatJBase
import Derived.Deep.RegionLaw
import Derived.Test.YtganfhmjklcchaaGreatJGenC
import Derived.Deep.QuietTactic
import Derived.BigQuiet
namespace Go.Proofs.YtganfhmjklcchaaGreat
open Go.RowKit
set_option linter.unusedVariables false
set_option linter.unusedSimpArgs false

def numsX (es : List Ev) (j : Nat) : List Int := es.map (fun e => numX e j)
set_option maxHeartbeats 8000000 in
set_option maxRecDepth 100000 in
theorem section_num {S : Nat → Prop} (A : Option Addr) (es : List Ev) (c j : Nat) (w : World) (hev : Evs S w A es) (hel : es.length ≤ 2000) (hj1 : 1 ≤ j) (hj6 : j ≤ 6) (hi : ∀ e ∈ es, I64 (numX e j)) :
    Calls Tryz.prog 49 #[.slice A es.length c, .int .i64 j] w (NewB w (colX (numsX es j))) := by
  have HEV := Lib.hid hev
  have KN := Lib.hid (fun (e : Ev) (w' : World) => number_any e j w' hj1 hj6)
  have HI : Hid (∀ x ∈ numsX es j, I64 x) := Lib.hid (fun x hx => by
    obtain ⟨e, he, rfl⟩ := List.mem_map.1 hx
    exact hi e he)
  have HNL : Hid ((numsX es j).length = es.length) := Lib.hid (by unfold numsX; rw [List.length_map])
  have HSN : Hid (∀ k y, es[k]? = some y → numsX (es.take (k + 1)) j = numsX (es.take k) j ++ [numX y j]) := Lib.hid (fun k y hy => by
    obtain ⟨h1, h2⟩ := List.getElem?_eq_some_iff.1 hy
    unfold numsX
    rw [List.take_succ_eq_append_getElem h1, h2, List.map_append]
    rfl)
  have n7 : ((j : Int) == 7) = false := by simp; omega
  have n8 : ((j : Int) == 8) = false := by simp; omega
  have n9 : ((j : Int) == 9) = false := by simp; omega
  have n10 : ((j : Int) == 10) = false := by simp; omega
  have n11 : ((j : Int) == 11) = false := by simp; omega
  have n12 : ((j : Int) == 12) = false := by simp; omega
  clear hev hi
  go_enter Tryz.func49, Tryz.ntmps49
  go_wp2_with fail
  go_loopw [7, 8] (fun v vi wr => ∃ k : Nat, vi = .int .i64 k ∧ k ≤ es.length ∧ wr.ownsRow w.heap.size 3 1 v k ((numsX (es.take k) j).map (.int .i64)) ∧ w.grownBy wr none) (fun _ vi _ => es.length - (intOf vi).toNat)
  case atStart => exact ⟨0, rfl, Nat.zero_le _, World.ownsRow_nil _ _ _ _, only_refl _ _⟩
  case round =>
    obtain ⟨k, rfl, hk, hO, hG⟩ := hrel
    have OO := Lib.hid hO
    have G := Lib.hid hG
    have hbase : w.heap.size ≤ wr.heap.size := hG.size
    obtain ⟨vO, hvO⟩ : ∃ v, v = u7 := ⟨_, rfl⟩
    rw [← hvO] at OO ⊢
    clear hO hG hvO
    by_cases hlt : k < es.length
    · obtain ⟨y, hy⟩ : ∃ y, es[k]? = some y := ⟨_, List.getElem?_eq_getElem hlt⟩
      obtain ⟨kb, ko, eE, hkw, z0, z1, z2, z3, z4, z5, z6, z7, z8, z9⟩ := ev_in (HEV.out.1.grown G.out (by simp)) hy
      subst eE
      have K1 := KN.out y wr
      have hycl : y.cells.toArray = #[.int .i64 y.host, .int .i64 y.file, .int .i64 y.beg, .int .i64 y.fin, .slice y.la y.lines.length y.lc, .int .i64 y.time, .int .i64 y.weight, .string y.trace, .string y.stream, .slice y.fa y.fields.length y.fc] := rfl
      rw [hycl] at K1
      have K1 := Lib.hid K1
      have HS1 := Lib.hid (HSN.out k y hy)
      have i1 : (k : Int) < (es.length : Int) := by omega
      clear hy hycl
      go_wp2_with fail
      refine K1.out.mono ?_
      rintro e w2 ⟨rfl, hg2⟩
      have G2 := Lib.hid (only_trans G.out hg2)
      have O2 := Lib.hid (own_ext OO.out hg2)
      have hb2 := G2.out.size
      clear hg2 K1 z0 z1 z2 z3 z4 z5 z6 z7 z8 z9
      go_wp2_with (at_builtin; go_must (refine wpList_append1 rfl _ _ 38 rfl w.heap.size Tryz.underlying38 intInfoS rfl (by decide) (v := vO) (by rfl) (w0 := w2) (cs := #[.int .i64 (numX y j)]) O2.out (by rfl) rfl (by simp [Value.oneCell']) (by decide) (by omega) (by omega) ?_); intro v5 w5 hown5 hg5 hob5)
      have O5 : Hid (w5.ownsRow w.heap.size 3 1 v5 (k + 1) ((numsX (es.take (k + 1)) j).map (.int .i64))) := Lib.hid (by rw [HS1.out, List.map_append]; exact hown5)
      have G5 : Hid (w.grownBy w5 none) := Lib.hid (only_own G2.out hg5 O2.out (Nat.le_refl _))
      clear hown5 hg5 hob5
      go_wp2_with fail
      go_roundw
      case rel => exact ⟨k + 1, by go_num, by omega, O5.out, G5.out⟩
      case measure => simp [intOf]; omega
    · have hkE : k = es.length := by omega
      have OV : Hid (wr.ownsRow w.heap.size 3 1 vO es.length ((numsX es j).map (.int .i64))) := Lib.hid (by
        have h := OO.out
        rw [List.take_of_length_le (by omega), hkE] at h
        exact h)
      have i1 : ¬ (k : Int) < (es.length : Int) := by omega
      obtain ⟨AO, cO, hv, -, -, -, h3⟩ := Rd.of_own OV.out (by decide)
      have KC := column_any AO (numsX es j) cO wr (h3.mono (fun b _ _ => trivial)) (by rw [HNL.out]; omega) HI.out
      rw [HNL.out] at KC
      have KC := Lib.hid KC
      rw [hv]
      clear hv h3 OO OV hkE
      go_wp2_with fail
      refine KC.out.mono ?_
      rintro e w5 ⟨v5, rfl, hB5, hG5⟩
      have B5 := Lib.hid hB5
      have G5 := Lib.hid (only_trans G.out hG5)
      clear hB5 hG5 KC
      go_wp2_with fail
      go_ret
      exact ⟨v5, rfl, B5.out.base hbase, G5.out⟩
end Go.Proofs.YtganfhmjklcchaaGreat

namespace Go.Proofs.YtganfhmjklcchaaGreat
open Go.RowKit
set_option linter.unusedVariables false
set_option linter.unusedSimpArgs false

def txtsX (es : List Ev) (j : Nat) : List ByteArray := es.map (fun e => if j = 7 then e.trace else e.stream)
set_option maxHeartbeats 8000000 in
set_option maxRecDepth 100000 in
theorem section_txt {S : Nat → Prop} (A : Option Addr) (es : List Ev) (c j : Nat) (w : World) (hev : Evs S w A es) (hel : es.length ≤ 2000) (hj1 : 7 ≤ j) (hj6 : j ≤ 8) (hs : ∀ e ∈ es, EvS e) :
    Calls Tryz.prog 49 #[.slice A es.length c, .int .i64 j] w (NewB w (idxX (txtsX es j))) := by
  have HEV := Lib.hid hev
  have HI : Hid (∀ x ∈ txtsX es j, x.size ≤ 250) := Lib.hid (fun x hx => by
    obtain ⟨e, he, rfl⟩ := List.mem_map.1 hx
    have h1 := (hs e he).2.2.2.2.2
    split <;> omega)
  have HNL : Hid ((txtsX es j).length = es.length) := Lib.hid (by unfold txtsX; rw [List.length_map])
  have HSN : Hid (∀ k y, es[k]? = some y → txtsX (es.take (k + 1)) j = txtsX (es.take k) j ++ [if j = 7 then y.trace else y.stream]) := Lib.hid (fun k y hy => by
    obtain ⟨h1, h2⟩ := List.getElem?_eq_some_iff.1 hy
    unfold txtsX
    rw [List.take_succ_eq_append_getElem h1, h2, List.map_append]
    rfl)
  clear hev hs
  have hj : j = 7 ∨ j = 8 := by omega
  rcases hj with rfl | rfl
  · go_enter Tryz.func49, Tryz.ntmps49
    go_wp2_with fail
    go_loopw [5, 6] (fun v vi wr => ∃ k : Nat, vi = .int .i64 k ∧ k ≤ es.length ∧ wr.ownsRow w.heap.size 9 1 v k ((txtsX (es.take k) 7).map .string) ∧ w.grownBy wr none) (fun _ vi _ => es.length - (intOf vi).toNat)
    case atStart => exact ⟨0, rfl, Nat.zero_le _, World.ownsRow_nil _ _ _ _, only_refl _ _⟩
    case round =>
      obtain ⟨k, rfl, hk, hO, hG⟩ := hrel
      have OO := Lib.hid hO
      have G := Lib.hid hG
      have hbase : w.heap.size ≤ wr.heap.size := hG.size
      obtain ⟨vO, hvO⟩ : ∃ v, v = u5 := ⟨_, rfl⟩
      rw [← hvO] at OO ⊢
      clear hO hG hvO
      by_cases hlt : k < es.length
      · obtain ⟨y, hy⟩ : ∃ y, es[k]? = some y := ⟨_, List.getElem?_eq_getElem hlt⟩
        obtain ⟨kb, ko, eE, hkw, z0, z1, z2, z3, z4, z5, z6, z7, z8, z9⟩ := ev_in (HEV.out.1.grown G.out (by simp)) hy
        subst eE
        have HS1 : Hid (txtsX (es.take (k + 1)) 7 = txtsX (es.take k) 7 ++ [y.trace]) := Lib.hid (HSN.out k y hy)
        have i1 : (k : Int) < (es.length : Int) := by omega
        clear hy
        go_wp2_with (at_builtin; go_must (refine wpList_append1 rfl _ _ 123 rfl w.heap.size Tryz.underlying123 strInfo rfl (by decide) (v := vO) (by rfl) (w0 := wr) (cs := #[.string y.trace]) OO.out (by rfl) rfl (by simp [Value.oneCell']) (by decide) (by omega) (by omega) ?_); intro v5 w5 hown5 hg5 hob5)
        have O5 : Hid (w5.ownsRow w.heap.size 9 1 v5 (k + 1) ((txtsX (es.take (k + 1)) 7).map .string)) := Lib.hid (by rw [HS1.out, List.map_append]; exact hown5)
        have G5 : Hid (w.grownBy w5 none) := Lib.hid (only_own G.out hg5 OO.out (Nat.le_refl _))
        clear hown5 hg5 hob5 z0 z1 z2 z3 z4 z5 z6 z7 z8 z9
        go_wp2_with fail
        go_roundw
        case rel => exact ⟨k + 1, by go_num, by omega, O5.out, G5.out⟩
        case measure => simp [intOf]; omega
      · have hkE : k = es.length := by omega
        have OV : Hid (wr.ownsRow w.heap.size 9 1 vO es.length ((txtsX es 7).map .string)) := Lib.hid (by
          have h := OO.out
          rw [List.take_of_length_le (by omega), hkE] at h
          exact h)
        have i1 : ¬ (k : Int) < (es.length : Int) := by omega
        obtain ⟨AO, cO, hv, h1, h2, -, h3⟩ := Rd.of_own OV.out (by decide)
        have KC := indexed_any AO (txtsX es 7) cO wr h3 (by rw [HNL.out]; omega) HI.out (by rw [HNL.out]; exact h1) h2
        rw [HNL.out] at KC
        have KC := Lib.hid KC
        rw [hv]
        clear hv h1 h2 h3 OO OV hkE
        go_wp2_with fail
        refine KC.out.mono ?_
        rintro e w5 ⟨v5, rfl, hB5, hG5⟩
        have B5 := Lib.hid hB5
        have G5 := Lib.hid (only_trans G.out hG5)
        clear hB5 hG5 KC
        go_wp2_with fail
        go_ret
        exact ⟨v5, rfl, B5.out.base hbase, G5.out⟩
  · go_enter Tryz.func49, Tryz.ntmps49
    go_wp2_with fail
    go_loopw [5, 6] (fun v vi wr => ∃ k : Nat, vi = .int .i64 k ∧ k ≤ es.length ∧ wr.ownsRow w.heap.size 9 1 v k ((txtsX (es.take k) 8).map .string) ∧ w.grownBy wr none) (fun _ vi _ => es.length - (intOf vi).toNat)
    case atStart => exact ⟨0, rfl, Nat.zero_le _, World.ownsRow_nil _ _ _ _, only_refl _ _⟩
    case round =>
      obtain ⟨k, rfl, hk, hO, hG⟩ := hrel
      have OO := Lib.hid hO
      have G := Lib.hid hG
      have hbase : w.heap.size ≤ wr.heap.size := hG.size
      obtain ⟨vO, hvO⟩ : ∃ v, v = u5 := ⟨_, rfl⟩
      rw [← hvO] at OO ⊢
      clear hO hG hvO
      by_cases hlt : k < es.length
      · obtain ⟨y, hy⟩ : ∃ y, es[k]? = some y := ⟨_, List.getElem?_eq_getElem hlt⟩
        obtain ⟨kb, ko, eE, hkw, z0, z1, z2, z3, z4, z5, z6, z7, z8, z9⟩ := ev_in (HEV.out.1.grown G.out (by simp)) hy
        subst eE
        have HS1 : Hid (txtsX (es.take (k + 1)) 8 = txtsX (es.take k) 8 ++ [y.stream]) := Lib.hid (HSN.out k y hy)
        have i1 : (k : Int) < (es.length : Int) := by omega
        clear hy
        go_wp2_with (at_builtin; go_must (refine wpList_append1 rfl _ _ 123 rfl w.heap.size Tryz.underlying123 strInfo rfl (by decide) (v := vO) (by rfl) (w0 := wr) (cs := #[.string y.stream]) OO.out (by rfl) rfl (by simp [Value.oneCell']) (by decide) (by omega) (by omega) ?_); intro v5 w5 hown5 hg5 hob5)
        have O5 : Hid (w5.ownsRow w.heap.size 9 1 v5 (k + 1) ((txtsX (es.take (k + 1)) 8).map .string)) := Lib.hid (by rw [HS1.out, List.map_append]; exact hown5)
        have G5 : Hid (w.grownBy w5 none) := Lib.hid (only_own G.out hg5 OO.out (Nat.le_refl _))
        clear hown5 hg5 hob5 z0 z1 z2 z3 z4 z5 z6 z7 z8 z9
        go_wp2_with fail
        go_roundw
        case rel => exact ⟨k + 1, by go_num, by omega, O5.out, G5.out⟩
        case measure => simp [intOf]; omega
      · have hkE : k = es.length := by omega
        have OV : Hid (wr.ownsRow w.heap.size 9 1 vO es.length ((txtsX es 8).map .string)) := Lib.hid (by
          have h := OO.out
          rw [List.take_of_length_le (by omega), hkE] at h
          exact h)
        have i1 : ¬ (k : Int) < (es.length : Int) := by omega
        obtain ⟨AO, cO, hv, h1, h2, -, h3⟩ := Rd.of_own OV.out (by decide)
        have KC := indexed_any AO (txtsX es 8) cO wr h3 (by rw [HNL.out]; omega) HI.out (by rw [HNL.out]; exact h1) h2
        rw [HNL.out] at KC
        have KC := Lib.hid KC
        rw [hv]
        clear hv h1 h2 h3 OO OV hkE
        go_wp2_with fail
        refine KC.out.mono ?_
        rintro e w5 ⟨v5, rfl, hB5, hG5⟩
        have B5 := Lib.hid hB5
        have G5 := Lib.hid (only_trans G.out hG5)
        clear hB5 hG5 KC
        go_wp2_with fail
        go_ret
        exact ⟨v5, rfl, B5.out.base hbase, G5.out⟩
end Go.Proofs.YtganfhmjklcchaaGreat

namespace Go.Proofs.YtganfhmjklcchaaGreat
open Go.RowKit
set_option linter.unusedVariables false
set_option linter.unusedSimpArgs false

set_option maxHeartbeats 4000000 in
set_option maxRecDepth 100000 in
theorem section_fld {S : Nat → Prop} (A : Option Addr) (es : List Ev) (c : Nat) (w : World) (hev : Evs S w A es) (hel : es.length ≤ 40) (hs : ∀ e ∈ es, EvS e) :
    Calls Tryz.prog 49 #[.slice A es.length c, .int .i64 10] w (NewB w (fieldsX es)) := by
  have K := Lib.hid (fields_any A es c w hev hel hs)
  clear hev hs
  go_enter Tryz.func49, Tryz.ntmps49
  go_wp2_with fail
  refine K.out.mono ?_
  rintro e w5 ⟨v5, rfl, hB5, hG5⟩
  have B5 := Lib.hid hB5
  have G5 := Lib.hid hG5
  clear hB5 hG5 K
  go_wp2_with fail
  go_ret
  exact ⟨v5, rfl, B5.out, G5.out⟩
end Go.Proofs.YtganfhmjklcchaaGreat

namespace Go.Proofs.YtganfhmjklcchaaGreat
open Go.RowKit
set_option linter.unusedVariables false
set_option linter.unusedSimpArgs false

set_option maxRecDepth 100000 in
theorem or_byte (v x : Nat) (hx : x < 256) (hv : v * 256 + x < 18446744073709551616) : bits .or .u64 ((v : Int) * 256) (x : Int) = ((v * 256 + x : Nat) : Int) := by
  have e : (v : Int) * 256 = ((v * 256 : Nat) : Int) := by omega
  rw [e]
  have ho : v * 256 ||| x = v * 256 + x := by
    have h := Nat.shiftLeft_add_eq_or_of_lt (i := 8) (show x < 2 ^ 8 from hx) v
    rw [Nat.shiftLeft_eq] at h
    exact h.symm
  show IntKind.u64.wrap ((BitVec.ofInt 64 ((v * 256 : Nat) : Int) ||| BitVec.ofInt 64 (x : Int)).toNat : Int) = _
  rw [BitVec.toNat_or, ofInt_nat 64 (v * 256) (by omega), ofInt_nat 64 x (by omega), ho]
  simp [IntKind.wrap, IntKind.signed, IntKind.bits]
  omega
def SameW (v : Value) (w : World) (e : Ending) (w' : World) : Prop := e = .returned v ∧ w' = w
set_option maxHeartbeats 4000000 in
set_option maxRecDepth 100000 in
theorem rget27_any {S : Nat → Prop} (A : Option Addr) (bs : List Int) (c : Nat) (w : World) (hr : Rd S w A (bs.map (.int .u8))) (hl : bs.length ≤ 8) (hx : ∀ x ∈ bs, 0 ≤ x ∧ x ≤ 255) :
    Calls Tryz.prog 57 #[.slice A bs.length c] w (SameW (.int .u64 (getN bs : Nat)) w) := by
  have HR := Lib.hid hr
  have HX := Lib.hid hx
  have HB : Hid (∀ k, k ≤ 8 → getN (bs.take k) < 256 ^ (bs.take k).length) := Lib.hid (fun k _ => getN_lt _ (bs.take k) rfl (fun x h => hx x (List.mem_of_mem_take h)))
  have HSN : Hid (∀ k x, bs[k]? = some x → getN (bs.take (k + 1)) = getN (bs.take k) * 256 + x.toNat) := Lib.hid (fun k x h => by
    obtain ⟨h1, h2⟩ := List.getElem?_eq_some_iff.1 h
    rw [List.take_succ_eq_append_getElem h1, h2, getN_snoc])
  clear hr hx
  go_enter Tryz.func57, Tryz.ntmps57
  go_wp2_with fail
  go_loopw [3, 4] (fun v vi wr => ∃ (k g : Nat), vi = .int .i64 k ∧ k ≤ bs.length ∧ v = .int .u64 g ∧ Hid (getN (bs.take k) = g) ∧ wr = w) (fun _ vi _ => bs.length - (intOf vi).toNat)
  case atStart => exact ⟨0, 0, rfl, Nat.zero_le _, rfl, Lib.hid rfl, rfl⟩
  case round =>
    obtain ⟨k, g, rfl, hk, rfl, HG, rfl⟩ := hrel
    by_cases hlt : k < bs.length
    · obtain ⟨x, hx⟩ : ∃ x, bs[k]? = some x := ⟨_, List.getElem?_eq_getElem hlt⟩
      obtain ⟨hx0, hx1⟩ := HX.out x (List.mem_of_getElem? hx)
      obtain ⟨xn, rfl⟩ : ∃ n : Nat, x = (n : Int) := ⟨x.toNat, by omega⟩
      obtain ⟨b, off, eA, hS, hlt2, hc⟩ := HR.out (by rw [List.length_map]; omega)
      subst eA
      have c0 := hc k (.int .u8 (xn : Int)) (by rw [List.getElem?_map, hx]; rfl)
      have hg : g < 72057594037927936 := by
        have h := HB.out k (by omega)
        rw [HG.out, List.length_take] at h
        exact Nat.lt_of_lt_of_le h (Nat.le_trans (Nat.pow_le_pow_right (by decide) (show min k bs.length ≤ 7 by omega)) (by decide))
      have HN : Hid (getN (bs.take (k + 1)) = g * 256 + xn) := Lib.hid (by rw [HSN.out k _ hx, HG.out, Int.toNat_natCast])
      have hO := or_byte g xn (by omega) (by omega)
      have i1 : (k : Int) < (bs.length : Int) := by omega
      have HO := Lib.hid hO
      clear hx hc hO
      go_wp2_with fail
      go_roundw
      case rel => exact ⟨k + 1, g * 256 + xn, by go_num, by omega, congrArg (Value.int .u64) HO.out, HN, trivial⟩
      case measure => simp [intOf]; omega
    · have i1 : ¬ (k : Int) < (bs.length : Int) := by omega
      have HE : Hid (getN bs = g) := Lib.hid (by have h := HG.out; rw [List.take_of_length_le (by omega)] at h; exact h)
      go_wp2_with fail
      go_ret
      exact ⟨by rw [HE.out]; rfl, rfl⟩
theorem cutB_rd {S : Nat → Prop} {w : World} {b off : Nat} {bs : List Int} (h : Rd S w (some ⟨b, off, none⟩) (bs.map (.int .u8))) (a k : Nat) : Rd S w (some ⟨b, off + a, none⟩) ((cutB bs a k).map (.int .u8)) := by
  have h1 := (h.drop a).take k
  have e : (some (⟨b, off, none⟩ : Addr)).map (·.add a) = some ⟨b, off + a, none⟩ := by
    show some (Addr.add _ _) = _; unfold Addr.add; split <;> simp_all
  rw [e] at h1
  unfold cutB
  rw [List.map_take, List.map_drop]
  exact h1
/-- a number of the header is read -/
theorem rget_cut {S : Nat → Prop} {w : World} {b off : Nat} {bs : List Int} (h : Rd S w (some ⟨b, off, none⟩) (bs.map (.int .u8))) (hi : InH bs) (a k c : Nat) (hk : a + k ≤ 124) (hl : a + k ≤ bs.length) (hk8 : k ≤ 8) :
    Calls Tryz.prog 57 #[.slice (some ⟨b, off + a, none⟩) k c] w (SameW (.int .u64 (cutN bs a k : Nat)) w) := by
  have h2 := rget27_any (some ⟨b, off + a, none⟩) (cutB bs a k) c w (cutB_rd h a k) (by rw [cutB_len hl]; exact hk8) (hi.cut hk)
  rw [cutB_len hl] at h2
  exact h2
set_option maxHeartbeats 4000000 in
set_option maxRecDepth 100000 in
theorem place_at {S : Nat → Prop} (b off c : Nat) (bs : List Int) (k : Nat) (w : World) (hr : Rd S w (some ⟨b, off, none⟩) (bs.map (.int .u8))) (hi : InH bs) (hl : 124 ≤ bs.length) (hc : bs.length ≤ c) (hm : c ≤ 9223372036854775807) (hk1 : 1 ≤ k) (hk : k ≤ 12) :
    Calls Tryz.prog 58 #[.slice (some ⟨b, off, none⟩) bs.length c, .int .i64 k] w (SameW (.tuple #[.int .i64 (offH bs (k - 1) : Nat), .int .i64 (lenH bs k : Nat)]) w) := by
  have KG := Lib.hid (fun (a c : Nat) (ha : a + 4 ≤ 124) => rget_cut hr hi a 4 c ha (by omega) (by decide))
  have HOL := Lib.hid (fun j (hj : j ≤ 12) => offH_le hi hl j hj)
  have HLL := Lib.hid (fun j (hj : j ≤ 12) => lenH_lt hi hj hl)
  have HO1 : Hid (∀ j, offH bs (j + 1) = offH bs j + cutN bs (16 + 8 * (j + 1)) 4) := Lib.hid (fun j => rfl)
  have HO0 : Hid (offH bs 0 = 124) := Lib.hid rfl
  have HLK : Hid (lenH bs k = cutN bs (16 + 8 * k) 4) := Lib.hid rfl
  clear hr hi
  go_enter Tryz.func58, Tryz.ntmps58
  go_wp2_with fail
  go_loopw [6, 7] (fun va vk wr => ∃ (j : Nat), vk = .int .i64 j ∧ 1 ≤ j ∧ j ≤ k ∧ va = .int .i64 (offH bs (j - 1) : Nat) ∧ wr = w) (fun _ vk _ => 13 - (intOf vk).toNat)
  case atStart => exact ⟨1, rfl, by omega, hk1, by rw [HO0.out]; rfl, rfl⟩
  case round =>
    obtain ⟨j, rfl, hj1, hj, rfl, rfl⟩ := hrel
    have hol := HOL.out (j - 1) (by omega)
    by_cases hlt : j < k
    · have i1 : (j : Int) < (k : Int) := by omega
      have hll := HLL.out j (by omega)
      have HN : Hid (offH bs j = offH bs (j - 1) + cutN bs (16 + 8 * j) 4) := Lib.hid (by
        obtain ⟨i, rfl⟩ : ∃ i, j = i + 1 := ⟨j - 1, by omega⟩
        exact HO1.out i)
      have K1 := Lib.hid (fun c => KG.out (16 + 8 * j) c (by omega))
      have hll2 : cutN bs (16 + 8 * j) 4 < 4294967296 := hll
      obtain ⟨on, hon⟩ : ∃ n, n = offH bs (j - 1) := ⟨_, rfl⟩
      obtain ⟨ln, hln⟩ : ∃ n, n = cutN bs (16 + 8 * j) 4 := ⟨_, rfl⟩
      rw [← hon] at hol HN ⊢
      rw [← hln] at hll2 HN K1
      clear hon hln hll
      go_wp2_with fail
      rw [show 20 + 8 * j - (16 + 8 * j) = 4 by omega]
      refine (K1.out _).mono ?_
      rintro e w1 ⟨rfl, rfl⟩
      go_wp2_with fail
      go_roundw
      case rel => exact ⟨j + 1, by go_num, by omega, by omega, by rw [show j + 1 - 1 = j from rfl, HN.out]; go_num, trivial⟩
      case measure => simp [intOf]; omega
    · have i1 : ¬ (j : Int) < (k : Int) := by omega
      have hjk : j = k := by omega
      have K1 := Lib.hid (fun c => KG.out (16 + 8 * k) c (by omega))
      have hll2 : cutN bs (16 + 8 * k) 4 < 4294967296 := HLL.out k hk
      have HON : Hid (offH bs (j - 1) = offH bs (k - 1)) := Lib.hid (by rw [hjk])
      obtain ⟨on, hon⟩ : ∃ n, n = offH bs (k - 1) := ⟨_, rfl⟩
      obtain ⟨ln, hln⟩ : ∃ n, n = cutN bs (16 + 8 * k) 4 := ⟨_, rfl⟩
      rw [← hon] at HON
      rw [HON.out] at hol ⊢
      rw [← hln] at hll2 K1 HLK
      have HON2 := Lib.hid hon
      clear hon hln hjk
      go_wp2_with fail
      rw [show 20 + 8 * k - (16 + 8 * k) = 4 by omega]
      refine (K1.out _).mono ?_
      rintro e w1 ⟨rfl, rfl⟩
      go_wp2_with fail
      go_ret2
      exact ⟨by rw [← HON2.out, HLK.out]; rfl, rfl⟩
end Go.Proofs.YtganfhmjklcchaaGreat

namespace Go.Proofs.YtganfhmjklcchaaGreat
open Go.RowKit
set_option linter.unusedVariables false
set_option linter.unusedSimpArgs false

theorem mk_one (z : Value) (hz : z.cells = #[z]) (n : Nat) : madeCells z.cells (n * 1) = Array.replicate n z := by
  rw [hz, Nat.mul_one]
  apply Array.ext
  · simp [madeCells]
  · intro i h1 h2
    simp [madeCells, Nat.mod_one]
theorem mk_any {P : Program} {t e : TypeId} {z : Value} {bytes : Nat} (ht : P.underlying t = some (.slice e)) (hi : (P.info? e).map (fun i => (i.zero, i.size, i.bytes)) = some (some z, 1, bytes)) (hz : z.cells = #[z]) (hb : bytes ≤ 100) (n : Nat) (hn : n ≤ 10000000) (w : World) :
    Sem.run P (Instr.makeSlice t (.int .i64 (n : Int)) (.int .i64 (n : Int))) w = .ok (.slice (some ⟨w.heap.size, 0, none⟩) n n) (w.alloc (.cells (Array.replicate n z) e)) := by
  obtain ⟨i0, hi0, hz0, hz1, hz2⟩ := info_parts hi
  have hbi : (i0.bytes : Int) * (n : Int) ≤ 281474976710656 := by
    have h1 : i0.bytes * n ≤ 100 * 10000000 := Nat.mul_le_mul (by omega) hn
    have h2 : ((i0.bytes * n : Nat) : Int) ≤ 1000000000 := by omega
    rw [Int.natCast_mul] at h2; omega
  have h := run_makeSlice (P := P) w t e i0 z ht hi0 hz0 .i64 .i64 n n (by omega) (Int.le_refl _) (by rw [hz1, Int.toNat_natCast]; omega) hbi (by omega)
  rw [Int.toNat_natCast, hz1, mk_one z hz] at h
  exact h
theorem only_setN {a w : World} {row : Option Nat} (h : a.grownBy w row) {p : Addr} (hp : a.heap.size ≤ p.block) (u : Value) : a.grownBy (w.setCell p u) row :=
  ⟨h.os, h.tape, h.output, by simpa [World.setCell] using h.size, fun i hi hne => (Below.heap_setCell w p u i (by rintro rfl; omega)).trans (h.block i hi hne)⟩
theorem only_setB (w : World) {p : Addr} (u : Value) : w.grownBy (w.setCell p u) (some p.block) :=
  ⟨rfl, rfl, rfl, by simp [World.setCell], fun k _ hne => Below.heap_setCell w p u k (fun e => hne (by rw [e]))⟩
end Go.Proofs.YtganfhmjklcchaaGreat

namespace Go.Proofs.YtganfhmjklcchaaGreat
open Go.RowKit
set_option linter.unusedVariables false
set_option linter.unusedSimpArgs false

def curO (off c k : Nat) : Nat := if c = k then off else off + k
def TakeP (w : World) (g b off n c k : Nat) (e : Ending) (w' : World) : Prop := e = .returned (.slice (some ⟨b, off, none⟩) k c) ∧ Blk w' g 137 #[.slice (some ⟨b, curO off c k, none⟩) (n - k) (c - k), .bool false] ∧ w.grownBy w' (some g)
set_option maxHeartbeats 2000000 in
set_option maxRecDepth 100000 in
theorem take_at (g b off n c k : Nat) (w : World) (hB : Blk w g 137 #[.slice (some ⟨b, off, none⟩) n c, .bool false]) (hk : k ≤ n) (hc : n ≤ c) (hm : c ≤ 9223372036854775807) :
    Calls Tryz.prog 111 #[.pointer (some ⟨g, 0, none⟩), .int .i64 k] w (TakeP w g b off n c k) := by
  have HB := Lib.hid hB
  have q0 := hB.cell 0; have q1 := hB.cell 1
  have z0 := hB.frozen 0; have z1 := hB.frozen 1
  simp at q0 q1
  have hgl := hB.lt
  have i1 : decide ((k : Int) < 0) = false := by simp
  have i2 : decide ((n : Int) < (k : Int)) = false := by simp; omega
  have i3 : (k : Int) ≤ (c : Int) := by omega
  have i4 : (0 : Int) ≤ (k : Int) := by omega
  have i5 : (k : Int) ≤ (n : Int) := by omega
  clear hB
  go_enter Tryz.func111, Tryz.ntmps111
  by_cases hz : c = k
  · subst hz
    obtain rfl : n = c := by omega
    have HZ : Hid (curO off n n = off) := Lib.hid (by unfold curO; rw [if_pos rfl])
    go_wp2_with fail
    go_ret
    exact ⟨rfl, by rw [HZ.out]; have h := HB.out.set_ 0 (.slice (some ⟨b, off, none⟩) 0 0); simpa using h, only_setB w _⟩
  · have HZ : Hid (curO off c k = off + k) := Lib.hid (by unfold curO; rw [if_neg hz])
    go_wp2_with fail
    go_ret
    exact ⟨rfl, by rw [HZ.out]; have h := HB.out.set_ 0 (.slice (some ⟨b, off + k, none⟩) (n - k) (c - k)); simpa using h, only_setB w _⟩
theorem curDrop {S : Nat → Prop} {w : World} {b off : Nat} {xs : List Value} (h : Rd S w (some ⟨b, off, none⟩) xs) (m : Nat) : Rd S w (some ⟨b, off + m, none⟩) (xs.drop m) := by
  have h1 := h.drop m
  have e : (some (⟨b, off, none⟩ : Addr)).map (·.add m) = some ⟨b, off + m, none⟩ := by
    show some (Addr.add _ _) = _; unfold Addr.add; split <;> simp_all
  rw [e] at h1
  exact h1
/-- the cursor stands at byte a -/
def CurS (S : Nat → Prop) (w : World) (g b : Nat) (bs : List Int) (a : Nat) : Prop := ∃ off c, Blk w g 137 #[.slice (some ⟨b, off, none⟩) (bs.length - a) c, .bool false] ∧ bs.length - a ≤ c ∧ c ≤ 9223372036854775807 ∧ Rd S w (some ⟨b, off, none⟩) ((bs.drop a).map (.int .u8))
theorem CurS.grown {S : Nat → Prop} {w w' : World} {g b a : Nat} {bs : List Int} (h : CurS S w g b bs a) (hg : w.grownBy w' none) : CurS S w' g b bs a := by
  obtain ⟨off, c, h1, h2, h3, h4⟩ := h
  exact ⟨off, c, h1.grown hg (by simp), h2, h3, h4.grown hg (by simp)⟩
def FixP (S : Nat → Prop) (w : World) (g b : Nat) (bs : List Int) (a k : Nat) (e : Ending) (w' : World) : Prop := e = .returned (.int .u64 (cutN bs a k : Nat)) ∧ CurS S w' g b bs (a + k) ∧ w.grownBy w' (some g)
set_option maxHeartbeats 4000000 in
set_option maxRecDepth 100000 in
theorem fixed_at {S : Nat → Prop} (g b : Nat) (bs : List Int) (a k : Nat) (w : World) (hC : CurS S w g b bs a) (hS : ∀ x, S x → x ≠ g) (hi : InH bs) (hl : a + k ≤ bs.length) (hak : a + k ≤ 124) (hk8 : k ≤ 8) :
    Calls Tryz.prog 83 #[.pointer (some ⟨g, 0, none⟩), .int .i64 k] w (FixP S w g b bs a k) := by
  obtain ⟨off, c, hB, h1, h2, hr⟩ := hC
  have KT := Lib.hid (take_at g b off (bs.length - a) c k w hB (by omega) h1 h2)
  have HR := Lib.hid hr
  obtain ⟨cs, hcs⟩ : ∃ l, l = cutB bs a k := ⟨_, rfl⟩
  have hcl : cs.length = k := by rw [hcs]; exact cutB_len hl
  have HX : Hid (∀ x ∈ cs, 0 ≤ x ∧ x ≤ 255) := Lib.hid (by rw [hcs]; exact hi.cut hak)
  have HV : Hid (getN cs = cutN bs a k) := Lib.hid (by rw [hcs]; rfl)
  have HQ : Hid (∀ w', TakeP w g b off (bs.length - a) c k (.returned (.slice (some ⟨b, off, none⟩) k c)) w' → CurS S w' g b bs (a + k) ∧ Rd S w' (some ⟨b, off, none⟩) (cs.map (.int .u8)) ∧ w.grownBy w' (some g)) := Lib.hid (by
    rintro w' ⟨-, hb, hg⟩
    have hr' := hr.grown hg (fun x hx e => hS x hx (by injection e))
    refine ⟨⟨curO off c k, c - k, by rw [← Nat.sub_sub]; exact hb, by omega, by omega, ?_⟩, ?_, hg⟩
    · rw [← List.drop_drop]
      by_cases hz : c = k
      · rw [show (bs.drop a).drop k = [] from List.drop_of_length_le (by rw [List.length_drop]; omega)]
        exact Rd.nil
      · rw [show curO off c k = off + k by unfold curO; rw [if_neg hz], List.map_drop]
        exact curDrop hr' k
    · rw [hcs]
      have h := hr'.take k
      rw [← List.map_take] at h
      exact h)
  have HB : Hid (∀ j, j ≤ 8 → getN (cs.take j) < 256 ^ (cs.take j).length) := Lib.hid (fun j _ => getN_lt _ (cs.take j) rfl (fun x h => HX.out x (List.mem_of_mem_take h)))
  have HSN : Hid (∀ j x, cs[j]? = some x → getN (cs.take (j + 1)) = getN (cs.take j) * 256 + x.toNat) := Lib.hid (fun j x h => by
    obtain ⟨h1, h2⟩ := List.getElem?_eq_some_iff.1 h
    rw [List.take_succ_eq_append_getElem h1, h2, getN_snoc])
  clear hB h1 h2 hr hcs hi hl hak hS
  go_enter Tryz.func83, Tryz.ntmps83
  go_wp2_with (go_at_call 111; refine KT.out.mono ?_; intro e w2 ht; obtain rfl := ht.1; obtain ⟨hc2, hr2, hg2⟩ := HQ.out _ ht; have C2 := Lib.hid hc2; have R2 := Lib.hid hr2; have G2 := Lib.hid hg2; clear ht hc2 hr2 hg2)
  go_loopw [5, 12] (fun v vi wr => ∃ (j q : Nat), vi = .int .i64 j ∧ j ≤ k ∧ v = .int .u64 q ∧ Hid (getN (cs.take j) = q) ∧ wr = w2) (fun _ vi _ => k - (intOf vi).toNat)
  case atStart => exact ⟨0, 0, rfl, Nat.zero_le _, rfl, Lib.hid rfl, rfl⟩
  case round =>
    obtain ⟨j, q, rfl, hj, rfl, HG, rfl⟩ := hrel
    by_cases hlt : j < k
    · obtain ⟨x, hx⟩ : ∃ x, cs[j]? = some x := ⟨_, List.getElem?_eq_getElem (by omega)⟩
      obtain ⟨hx0, hx1⟩ := HX.out x (List.mem_of_getElem? hx)
      obtain ⟨xn, rfl⟩ : ∃ n : Nat, x = (n : Int) := ⟨x.toNat, by omega⟩
      obtain ⟨b', off', eA, hS, hlt2, hc⟩ := R2.out (by rw [List.length_map]; omega)
      injection eA with eA; injection eA with eb eo
      subst eb eo
      have c0 := hc j (.int .u8 (xn : Int)) (by rw [List.getElem?_map, hx]; rfl)
      have hq : q < 72057594037927936 := by
        have h := HB.out j (by omega)
        rw [HG.out, List.length_take] at h
        exact Nat.lt_of_lt_of_le h (Nat.le_trans (Nat.pow_le_pow_right (by decide) (show min j cs.length ≤ 7 by omega)) (by decide))
      have HN : Hid (getN (cs.take (j + 1)) = q * 256 + xn) := Lib.hid (by rw [HSN.out j _ hx, HG.out, Int.toNat_natCast])
      have hO := or_byte q xn (by omega) (by omega)
      have i1 : (j : Int) < (k : Int) := by omega
      have HO := Lib.hid hO
      clear hx hc hO hcl
      go_wp2_with fail
      go_roundw
      case rel => exact ⟨j + 1, q * 256 + xn, by go_num, by omega, congrArg (Value.int .u64) HO.out, HN, trivial⟩
      case measure => simp [intOf]; omega
    · have i1 : ¬ (j : Int) < (k : Int) := by omega
      have HE : Hid (getN cs = q) := Lib.hid (by have h := HG.out; rw [List.take_of_length_le (by omega)] at h; exact h)
      clear hcl
      go_wp2_with fail
      go_ret
      exact ⟨by rw [← HV.out, HE.out]; rfl, C2.out, G2.out⟩
end Go.Proofs.YtganfhmjklcchaaGreat

namespace Go.Proofs.YtganfhmjklcchaaGreat
open Go.RowKit
set_option linter.unusedVariables false
set_option linter.unusedSimpArgs false

def sumV (bs : List Int) : Array Value := if errS bs = 0 then #[.int .i64 (cutN bs 4 4 : Nat), .int .i64 (IntKind.i64.wrap (cutN bs 8 8 : Nat)), .int .i64 (IntKind.i64.wrap (cutN bs 16 8 : Nat))] else #[.int .i64 0, .int .i64 0, .int .i64 0]
def SumP (w : World) (bs : List Int) (e : Ending) (w' : World) : Prop := e = .returned (.tuple #[.agg (sumV bs), .int .i64 (errS bs : Nat)]) ∧ w.grownBy w' none
theorem sumV_no {bs : List Int} {n : Nat} (h : errS bs = n) (hn : n ≠ 0) : sumV bs = #[.int .i64 0, .int .i64 0, .int .i64 0] := by unfold sumV; rw [if_neg (by omega)]
theorem errS_short {bs : List Int} (h : bs.length < 124) : errS bs = 14 := by unfold errS; rw [if_pos h]
theorem errS_syn {bs : List Int} (h : 124 ≤ bs.length) (h1 : magicB bs = false) : errS bs = 1 := by unfold errS; rw [if_neg (by omega), if_pos h1]
theorem errS_crc {bs : List Int} (h : 124 ≤ bs.length) (h1 : magicB bs = true) (h2 : cutN bs 120 4 ≠ crcN (bs.take 120)) : errS bs = 15 := by unfold errS; rw [if_neg (by omega), if_neg (by simp [h1]), if_pos h2]
theorem errS_end {bs : List Int} (h : 124 ≤ bs.length) (h1 : magicB bs = true) (h2 : cutN bs 120 4 = crcN (bs.take 120)) : errS bs = if bs.length ≠ offH bs 12 then 14 else 0 := by unfold errS; rw [if_neg (by omega), if_neg (by simp [h1]), if_neg (by simp [h2])]
theorem errS_ok {bs : List Int} (h : errS bs = 0) : 124 ≤ bs.length ∧ magicB bs = true ∧ cutN bs 120 4 = crcN (bs.take 120) ∧ bs.length = offH bs 12 := by
  unfold errS at h
  split at h
  · cases h
  · split at h
    · cases h
    · split at h
      · cases h
      · split at h
        · cases h
        · rename_i h1 h2 h3 h4
          exact ⟨by omega, by simpa using h2, by simpa using h3, by simpa using h4⟩
theorem mgl : (⟨#[76, 84, 83, 49]⟩ : ByteArray).toList = ([76, 84, 83, 49] : List UInt8) := by rw [ByteArray.toList_eq]
theorem fin17 {w W : World} {rb : Nat} {tm : Array Value} {x0 x1 x2 V0 V1 V2 : Value} {E : Nat} (hrb : rb = w.heap.size) (hB : Blk W rb 78 #[x0, x1, x2]) (hG : w.grownBy W none) (h2 : tm[2]?.getD undef = .pointer (some ⟨rb, 0, none⟩)) (h3 : tm[3]?.getD undef = .int .i64 E) :
    bodyPost Tryz.prog Tryz.f35 (fun e w' => e = .returned (.tuple #[.agg #[V0, V1, V2], .int .i64 (E : Nat)]) ∧ w.grownBy w' none) .ret ⟨tm, []⟩ (((W.setCell ⟨rb, 0, none⟩ V0).setCell ⟨rb, 1, none⟩ V1).setCell ⟨rb, 2, none⟩ V2) := by
  have hB2 := ((hB.set_ 0 V0).set_ 1 V1).set_ 2 V2
  have q0 := hB2.cell 0; have q1 := hB2.cell 1; have q2 := hB2.cell 2
  simp at q0 q1 q2
  refine bodyPost_ret (v := .tuple #[.agg #[V0, V1, V2], .int .i64 (E : Nat)]) ?_ rfl ⟨rfl, only_setN (only_setN (only_setN hG (by simp [hrb]) _) (by simp [hrb]) _) (by simp [hrb]) _⟩
  simp [results, Tryz.results35, go_sem, h2, h3, q0, q1, q2]
set_option maxHeartbeats 8000000 in
set_option maxRecDepth 100000 in
theorem rsummary_any {S : Nat → Prop} (A : Option Addr) (bs : List Int) (c : Nat) (w : World) (hr : Rd S w A (bs.map (.int .u8))) (hi : InH bs) (hl : bs.length ≤ 10000000) (hc : bs.length ≤ c) (hm : c ≤ 9223372036854775807) :
    Calls Tryz.prog 35 #[.slice A bs.length c] w (SumP w bs) := by
  have HR := Lib.hid hr
  have HI := Lib.hid hi
  obtain ⟨E, hE⟩ : ∃ E, E = errS bs := ⟨_, rfl⟩
  obtain ⟨V, hV⟩ : ∃ V, V = sumV bs := ⟨_, rfl⟩
  have HP : Hid (∀ e w', (e = .returned (.tuple #[.agg V, .int .i64 (E : Nat)]) ∧ w.grownBy w' none) → SumP w bs e w') := Lib.hid (fun e w' h => by rw [hV, hE] at h; exact h)
  refine Calls.mono (R := fun e w' => e = .returned (.tuple #[.agg V, .int .i64 (E : Nat)]) ∧ w.grownBy w' none) ?_ HP.out
  clear HP
  have HVN : Hid (∀ n, errS bs = n → n ≠ 0 → V = #[.int .i64 0, .int .i64 0, .int .i64 0] ∧ E = n) := Lib.hid (fun n h hn => ⟨by rw [hV]; exact sumV_no h hn, by rw [hE]; exact h⟩)
  have HVY : Hid (errS bs = 0 → V = #[.int .i64 (cutN bs 4 4 : Nat), .int .i64 (IntKind.i64.wrap (cutN bs 8 8 : Nat)), .int .i64 (IntKind.i64.wrap (cutN bs 16 8 : Nat))] ∧ E = 0) := Lib.hid (fun h => ⟨by rw [hV]; unfold sumV; rw [if_pos h], by rw [hE]; exact h⟩)
  clear hV hE
  go_enter Tryz.func35, Tryz.ntmps35
  go_upto_region 1 with fail
  obtain ⟨rb, hrb⟩ : ∃ b, b = w.heap.size := ⟨_, rfl⟩
  obtain ⟨W, hW⟩ : ∃ W, W = w.alloc (.cells #[.int .i64 0, .int .i64 0, .int .i64 0] 78) := ⟨_, rfl⟩
  have hBR : Blk W rb 78 #[.int .i64 0, .int .i64 0, .int .i64 0] := by rw [hW, hrb]; exact Blk.new _ _ _
  have hG0 : w.grownBy W none := by rw [hW]; exact only_alloc (only_refl _ _) _
  have HRB := Lib.hid hrb
  have G0 := Lib.hid hG0
  have BR := Lib.hid hBR
  have hrW := hBR.lt
  rw [← hW, ← hrb]
  have q0 := hBR.cell 0; have q1 := hBR.cell 1; have q2 := hBR.cell 2
  have z0 := hBR.frozen 0; have z1 := hBR.frozen 1; have z2 := hBR.frozen 2
  simp at q0 q1 q2
  clear hW hrb hBR
  by_cases hs : bs.length < 124
  · obtain ⟨rfl, rfl⟩ := HVN.out 14 (errS_short hs) (by decide)
    have i1 : (bs.length : Int) < 124 := by omega
    clear hr hi HVN HVY hs
    go_wp2_with fail
    exact fin17 HRB.out BR.out G0.out rfl rfl
  · have hl124 : 124 ≤ bs.length := by omega
    have i1 : ¬ (bs.length : Int) < 124 := by omega
    obtain ⟨b, off, rfl, hSb, hbw, -⟩ := hr (by rw [List.length_map]; omega)
    have HRW := Lib.hid (HR.out.grown G0.out (by simp))
    have h4 : (bs.take 4).length = 4 := by rw [List.length_take]; omega
    have hbi := bytesin_rd (S := S) (w := W) (A := some ⟨b, off, none⟩) (bs := bs.take 4) (by rw [List.map_take]; exact HRW.out.take 4)
    rw [h4] at hbi
    have hcv := Lib.BytesIn.convert (P := Tryz.prog) (w := W) (p := some ⟨b, off, none⟩) (n := 4) (xs := bs.take 4) hbi h4 c 22 5 9 Tryz.underlying22 Tryz.underlying5 Tryz.underlying9
    have j1 : (4 : Int) ≤ (c : Int) := by omega
    clear hbi h4 hr hs
    by_cases hmg : magicB bs = false
    · obtain ⟨rfl, rfl⟩ := HVN.out 1 (errS_syn hl124 hmg) (by decide)
      have hb : ((strOfNums (bs.take 4)).toList == ([76, 84, 83, 49] : List UInt8)) = false := by have h := hmg; unfold magicB at h; rw [mgl] at h; exact h
      clear HVN HVY hmg
      go_wp2_with fail
      exact fin17 HRB.out BR.out G0.out rfl rfl
    · have hmg2 : magicB bs = true := by simpa using hmg
      have hE4 : strOfNums (bs.take 4) = (⟨#[76, 84, 83, 49]⟩ : ByteArray) := toList_inj (by have h := hmg2; unfold magicB at h; exact eq_of_beq h)
      rw [hE4] at hcv
      have KG := Lib.hid (fun (n : Nat) (a k c : Nat) (h1 : a + k ≤ 124) (h2 : k ≤ 8) => rget_cut (w := W.drewN n) ((HR.out.grown G0.out (by simp)).grown (only_drewN (only_refl W none) n) (by simp)) HI.out a k c h1 (by omega) h2)
      have KC := Lib.hid (fun (n : Nat) (c : Nat) => crc_any (S := S) (some ⟨b, off, none⟩) (bs.take 120) c (W.drewN n) (by rw [List.map_take]; exact ((HR.out.grown G0.out (by simp)).grown (only_drewN (only_refl W none) n) (by simp)).take 120) (by rw [List.length_take]; omega))
      obtain ⟨gc, hgc⟩ : ∃ g, g = cutN bs 120 4 := ⟨_, rfl⟩
      obtain ⟨cc, hcc⟩ : ∃ g, g = crcN (bs.take 120) := ⟨_, rfl⟩
      have hg4 : gc < 4294967296 := by rw [hgc]; exact cutN_lt4 HI.out (by omega) (by omega)
      have hc4 : cc < 4294967296 := by rw [hcc]; exact crcN_lt _
      have l120 : (bs.take 120).length = 120 := by rw [List.length_take]; omega
      have KC2 := Lib.hid (fun (n c : Nat) => by have h := KC.out n c; rw [l120, ← hcc] at h; exact h)
      have KG2 := Lib.hid (fun (n c : Nat) => by have h := KG.out n 120 4 c (by omega) (by omega); rw [← hgc] at h; exact h)
      have HGC := Lib.hid hgc
      have HCC := Lib.hid hcc
      clear l120 KC hmg hgc hcc
      have j2 : (124 : Int) ≤ (c : Int) := by omega
      have j3 : (120 : Int) ≤ (c : Int) := by omega
      have cw : IntKind.u64.wrap (cc : Int) = (cc : Int) := IntWalk.u64_in _ (by omega)
      by_cases heq : gc = cc
      · have HEQ := Lib.hid heq
        have e1 : ((gc : Int) == (cc : Int)) = true := by simp [heq]
        clear heq
        go_upto_region 5 with fail
        go_quiet (first | (go_at_call 57; exact Calls.quiet_of_same (KG2.out _ _)) | (go_at_call 50; exact Calls.quiet_of_same (KC2.out _ _)))
        obtain ⟨wq, hwq⟩ : ∃ wq, wq = W.drewN nq := ⟨_, rfl⟩
        have GQ0 : Hid (W.grownBy wq none) := Lib.hid (by rw [hwq]; exact only_drewN (only_refl W none) nq)
        have GQ := Lib.hid (only_trans G0.out GQ0.out)
        have BQ := Lib.hid (BR.out.grown GQ0.out (by simp))
        have hrW := BQ.out.lt
        have q0 := BQ.out.cell 0; have q1 := BQ.out.cell 1; have q2 := BQ.out.cell 2
        have z0 := BQ.out.frozen 0; have z1 := BQ.out.frozen 1; have z2 := BQ.out.frozen 2
        simp at q0 q1 q2
        rw [← hwq]
        clear hwq
        have HRQ := Lib.hid (HR.out.grown GQ.out (by simp))
        have KP := Lib.hid (place_at b off c bs 12 wq HRQ.out HI.out hl124 hc hm (by decide) (by decide))
        have HOL : Hid (offH bs 11 + lenH bs 12 = offH bs 12) := Lib.hid rfl
        have hol := offH_le HI.out hl124 11 (by decide)
        have hll := lenH_lt HI.out (k := 12) (by decide) hl124
        obtain ⟨on, hon⟩ : ∃ g, g = offH bs 11 := ⟨_, rfl⟩
        obtain ⟨ln, hln⟩ : ∃ g, g = lenH bs 12 := ⟨_, rfl⟩
        rw [show 12 - 1 = 11 from rfl, ← hon, ← hln] at KP
        rw [← hon] at hol
        rw [← hln] at hll
        rw [← hon, ← hln] at HOL
        have HE := Lib.hid (errS_end hl124 hmg2 (by rw [← HGC.out, ← HCC.out]; exact HEQ.out))
        clear hon hln
        by_cases hlen : bs.length = on + ln
        · have hv := HVY.out (by rw [HE.out, if_neg (by rw [← HOL.out]; omega)])
          have e2 : ((bs.length : Int) == (on : Int) + (ln : Int)) = true := by simp [hlen]
          clear hlen
          have KW := Lib.hid (fun (w' : World) (hg : wq.grownBy w' none) (a k c : Nat) (h1 : a + k ≤ 124) (h2 : k ≤ 8) => rget_cut (w := w') (HRQ.out.grown hg (by simp)) HI.out a k c h1 (by omega) h2)
          have l4 := cutN_lt4 HI.out (a := 4) (by decide) (by omega)
          have l8 := cutN_lt8 HI.out (a := 8) (by decide) (by omega)
          have l16 := cutN_lt8 HI.out (a := 16) (by decide) (by omega)
          have K4 := Lib.hid (fun (w' : World) (hg : wq.grownBy w' none) (c : Nat) => KW.out w' hg 4 4 c (by decide) (by decide))
          have K8 := Lib.hid (fun (w' : World) (hg : wq.grownBy w' none) (c : Nat) => KW.out w' hg 8 8 c (by decide) (by decide))
          have K16 := Lib.hid (fun (w' : World) (hg : wq.grownBy w' none) (c : Nat) => KW.out w' hg 16 8 c (by decide) (by decide))
          obtain ⟨n4, hn4⟩ : ∃ g, g = cutN bs 4 4 := ⟨_, rfl⟩
          obtain ⟨n8, hn8⟩ : ∃ g, g = cutN bs 8 8 := ⟨_, rfl⟩
          obtain ⟨n16, hn16⟩ : ∃ g, g = cutN bs 16 8 := ⟨_, rfl⟩
          rw [← hn4] at l4 K4
          rw [← hn8] at l8 K8
          rw [← hn16] at l16 K16
          rw [← hn4, ← hn8, ← hn16] at hv
          obtain ⟨m8, hm8⟩ : ∃ m : Int, m = IntKind.i64.wrap (n8 : Int) := ⟨_, rfl⟩
          obtain ⟨m16, hm16⟩ : ∃ m : Int, m = IntKind.i64.wrap (n16 : Int) := ⟨_, rfl⟩
          rw [← hm8, ← hm16] at hv
          have HM8 := Lib.hid hm8
          have HM16 := Lib.hid hm16
          clear hm8 hm16
          obtain ⟨rfl, rfl⟩ := hv
          have j4 : (8 : Int) ≤ (c : Int) := by omega
          have j5 : (16 : Int) ≤ (c : Int) := by omega
          have j6 : (24 : Int) ≤ (c : Int) := by omega
          clear hn4 hn8 hn16 KW
          have cw4 : IntKind.i64.wrap (n4 : Int) = (n4 : Int) := IntWalk.i64_in _ (by omega)
          go_wp2_with (go_at_call 58; refine KP.out.mono ?_; rintro e w2 ⟨rfl, hw2⟩; obtain rfl := hw2.symm)
          refine wp_region_gen 13 (JC [some (.slice (some ⟨b, off, none⟩) bs.length c), some (.slice (some ⟨b, off + 4, none⟩) 4 (c - 4)), some (.int .u64 (n4 : Nat)), some (.int .i64 (n4)), some (.slice (some ⟨b, off, none⟩) bs.length c), some (.slice (some ⟨b, off + 8, none⟩) 8 (c - 8)), some (.int .u64 (n8 : Nat)), some (.int .i64 (m8)), some (.slice (some ⟨b, off, none⟩) bs.length c), some (.slice (some ⟨b, off + 16, none⟩) 8 (c - 16)), some (.int .u64 (n16 : Nat)), some (.int .i64 (m16)), some (.agg #[.int .i64 (n4), .int .i64 (m8), .int .i64 (m16)])] (fun D u wx => wq.grownBy wx none)) (by kernel_rfl) (by kernel_rfl) ?_ ?_ ?_
          · intro u
            exact ⟨(fun j c _ h => by cases h), only_drew (only_refl _ _)⟩
          · intro AA hA
            have hasz : AA.tmps.size = 49 := by rw [hA]; kernel_rfl
            have ea0 : AA.eval (.tmp 0) = .slice (some ⟨b, off, none⟩) bs.length c := by rw [hA]; kernel_rfl
            have ea2 : AA.eval (.tmp 2) = .pointer (some ⟨rb, 0, none⟩) := by rw [hA]; kernel_rfl
            clear hA
            simp only [List.take_succ_cons, List.take_zero]
            refine .cons ?_ (.cons ?_ (.cons ?_ (.cons ?_ (.cons ?_ (.cons ?_ (.cons ?_ (.cons ?_ (.cons ?_ (.cons ?_ (.cons ?_ (.cons ?_ (.cons ?_ (.nil)))))))))))))
            · exact gd_gen (by kernel_rfl) (Want.none_ rfl) rfl (fun D u w v h => by simpa [updB, upd] using h) (fun D u ρ w kn => by
                have e0 := kn.own 0 (c := .slice (some ⟨b, off, none⟩) bs.length c) (by kernel_rfl) ea0
                simp [execOp, kn.rho.con, e0, go_sem])
            · exact gd_gen (by kernel_rfl) (Want.none_ rfl) rfl (fun D u w v h => by simpa [updB, upd] using h) (fun D u ρ w kn => by
                have e0 := kn.con 0 36 (c := .slice (some ⟨b, off, none⟩) bs.length c) (by kernel_rfl) (by omega) (by kernel_rfl) rfl
                simp [execOp, kn.rho.con, e0, go_sem, j4, Addr.add, show c ≠ 4 by omega])
            · refine gd_call (by kernel_rfl) (Want.none_ rfl) 57 (fun D u ρ wx kn hD => ?_)
              have e0 := kn.con 1 37 (c := .slice (some ⟨b, off + 4, none⟩) 4 (c - 4)) (by kernel_rfl) (by omega) (by kernel_rfl) rfl
              refine ⟨#[.slice (some ⟨b, off + 4, none⟩) 4 (c - 4)], ?_, (K4.out wx kn.ext (c - 4)).mono ?_⟩
              · simp only [execOp, resolve, Deferred.ofValue, List.map_toArray, List.map_cons, List.map_nil, e0, kn.rho.con, kn.rho.fn]
                simp [go_sem]
              · rintro e w' ⟨rfl, rfl⟩
                exact ⟨_, rfl, (fun c h => by injection h with h; injection h), kn.ext⟩
            · exact gd_gen (by kernel_rfl) (Want.none_ rfl) rfl (fun D u w v h => by simpa [updB, upd] using h) (fun D u ρ w kn => by
                have e0 := kn.con 2 38 (c := .int .u64 (n4 : Nat)) (by kernel_rfl) (by omega) (by kernel_rfl) rfl
                simp [execOp, kn.rho.con, e0, go_sem, cw4])
            · exact gd_gen (by kernel_rfl) (Want.none_ rfl) rfl (fun D u w v h => by simpa [updB, upd] using h) (fun D u ρ w kn => by
                have e0 := kn.own 0 (c := .slice (some ⟨b, off, none⟩) bs.length c) (by kernel_rfl) ea0
                simp [execOp, kn.rho.con, e0, go_sem])
            · exact gd_gen (by kernel_rfl) (Want.none_ rfl) rfl (fun D u w v h => by simpa [updB, upd] using h) (fun D u ρ w kn => by
                have e0 := kn.con 4 40 (c := .slice (some ⟨b, off, none⟩) bs.length c) (by kernel_rfl) (by omega) (by kernel_rfl) rfl
                simp [execOp, kn.rho.con, e0, go_sem, j5, Addr.add, show c ≠ 8 by omega])
            · refine gd_call (by kernel_rfl) (Want.none_ rfl) 57 (fun D u ρ wx kn hD => ?_)
              have e0 := kn.con 5 41 (c := .slice (some ⟨b, off + 8, none⟩) 8 (c - 8)) (by kernel_rfl) (by omega) (by kernel_rfl) rfl
              refine ⟨#[.slice (some ⟨b, off + 8, none⟩) 8 (c - 8)], ?_, (K8.out wx kn.ext (c - 8)).mono ?_⟩
              · simp only [execOp, resolve, Deferred.ofValue, List.map_toArray, List.map_cons, List.map_nil, e0, kn.rho.con, kn.rho.fn]
                simp [go_sem]
              · rintro e w' ⟨rfl, rfl⟩
                exact ⟨_, rfl, (fun c h => by injection h with h; injection h), kn.ext⟩
            · exact gd_gen (by kernel_rfl) (Want.none_ rfl) rfl (fun D u w v h => by simpa [updB, upd] using h) (fun D u ρ w kn => by
                have e0 := kn.con 6 42 (c := .int .u64 (n8 : Nat)) (by kernel_rfl) (by omega) (by kernel_rfl) rfl
                simp [execOp, kn.rho.con, e0, go_sem, HM8.out])
            · exact gd_gen (by kernel_rfl) (Want.none_ rfl) rfl (fun D u w v h => by simpa [updB, upd] using h) (fun D u ρ w kn => by
                have e0 := kn.own 0 (c := .slice (some ⟨b, off, none⟩) bs.length c) (by kernel_rfl) ea0
                simp [execOp, kn.rho.con, e0, go_sem])
            · exact gd_gen (by kernel_rfl) (Want.none_ rfl) rfl (fun D u w v h => by simpa [updB, upd] using h) (fun D u ρ w kn => by
                have e0 := kn.con 8 44 (c := .slice (some ⟨b, off, none⟩) bs.length c) (by kernel_rfl) (by omega) (by kernel_rfl) rfl
                simp [execOp, kn.rho.con, e0, go_sem, j6, Addr.add, show c ≠ 16 by omega])
            · refine gd_call (by kernel_rfl) (Want.none_ rfl) 57 (fun D u ρ wx kn hD => ?_)
              have e0 := kn.con 9 45 (c := .slice (some ⟨b, off + 16, none⟩) 8 (c - 16)) (by kernel_rfl) (by omega) (by kernel_rfl) rfl
              refine ⟨#[.slice (some ⟨b, off + 16, none⟩) 8 (c - 16)], ?_, (K16.out wx kn.ext (c - 16)).mono ?_⟩
              · simp only [execOp, resolve, Deferred.ofValue, List.map_toArray, List.map_cons, List.map_nil, e0, kn.rho.con, kn.rho.fn]
                simp [go_sem]
              · rintro e w' ⟨rfl, rfl⟩
                exact ⟨_, rfl, (fun c h => by injection h with h; injection h), kn.ext⟩
            · exact gd_gen (by kernel_rfl) (Want.none_ rfl) rfl (fun D u w v h => by simpa [updB, upd] using h) (fun D u ρ w kn => by
                have e0 := kn.con 10 46 (c := .int .u64 (n16 : Nat)) (by kernel_rfl) (by omega) (by kernel_rfl) rfl
                simp [execOp, kn.rho.con, e0, go_sem, HM16.out])
            · exact gd_gen (by kernel_rfl) (Want.none_ rfl) rfl (fun D u w v h => by simpa [updB, upd] using h) (fun D u ρ w kn => by
                have e0 := kn.con 3 39 (c := .int .i64 (n4)) (by kernel_rfl) (by omega) (by kernel_rfl) rfl
                have e1 := kn.con 7 43 (c := .int .i64 (m8)) (by kernel_rfl) (by omega) (by kernel_rfl) rfl
                have e2 := kn.con 11 47 (c := .int .i64 (m16)) (by kernel_rfl) (by omega) (by kernel_rfl) rfl
                simp [execOp, kn.rho.con, e0, e1, e2, go_sem])
          · intro D u w3 hJ hD
            have hg3 := hJ.2
            simp only [List.take_succ_cons, List.take_zero, List.drop_succ_cons, List.drop_zero, putAll]
            rw [show u 12 = .agg #[.int .i64 n4, .int .i64 m8, .int .i64 m16] from hJ.1 12 _ rfl (hD 12 (by decide))]
            have G3 := Lib.hid (only_trans GQ.out hg3)
            have B3 := Lib.hid (BQ.out.grown hg3 (by simp))
            clear hJ hD hg3
            have hrW := B3.out.lt
            have q0 := B3.out.cell 0; have q1 := B3.out.cell 1; have q2 := B3.out.cell 2
            have z0 := B3.out.frozen 0; have z1 := B3.out.frozen 1; have z2 := B3.out.frozen 2
            simp at q0 q1 q2
            go_wp2_with fail
            refine fin17 (E := 0) HRB.out B3.out G3.out ?_ ?_
            · rfl
            · rfl
        · obtain ⟨rfl, rfl⟩ := HVN.out 14 (by rw [HE.out, if_pos (by rw [← HOL.out]; exact hlen)]) (by decide)
          have e2 : ((bs.length : Int) == (on : Int) + (ln : Int)) = false := by rw [beq_eq_false_iff_ne]; omega
          clear hlen
          go_wp2_with (go_at_call 58; refine KP.out.mono ?_; rintro e w2 ⟨rfl, hw2⟩; obtain rfl := hw2.symm)
          exact fin17 HRB.out BQ.out GQ.out rfl rfl
      · obtain ⟨rfl, rfl⟩ := HVN.out 15 (errS_crc hl124 hmg2 (by rw [← HGC.out, ← HCC.out]; exact heq)) (by decide)
        have e1 : ((gc : Int) == (cc : Int)) = false := by rw [beq_eq_false_iff_ne]; omega
        clear heq
        go_upto_region 5 with fail
        go_quiet (first | (go_at_call 57; exact Calls.quiet_of_same (KG2.out _ _)) | (go_at_call 50; exact Calls.quiet_of_same (KC2.out _ _)))
        go_wp2_with fail
        exact fin17 HRB.out (BR.out.drewN nq) (only_drewN G0.out nq) rfl rfl
end Go.Proofs.YtganfhmjklcchaaGreat
