/- section, the texts' ones: the reference of chapter 27. Conditions: sizes. -/
import Derived.Test.YtodaabofpkafjaaGreatJSegG
import Derived.Test.YtodaabofpkafjaaGreatBase
namespace Go.Proofs.YtodaabofpkafjaaGreat
open Go.RowKit
set_option linter.unusedVariables false
set_option linter.unusedSimpArgs false

def txtsX (es : List Ev) (j : Nat) : List ByteArray := es.map (fun e => if j = 7 then e.trace else e.stream)
set_option maxHeartbeats 8000000 in
set_option maxRecDepth 100000 in
theorem section_txt {S : Nat → Prop} (A : Option Addr) (es : List Ev) (c j : Nat) (w : World) (hev : Evs S w A es) (hel : es.length ≤ 2000) (hj1 : 7 ≤ j) (hj6 : j ≤ 8) (hs : ∀ e ∈ es, EvS e) :
    Calls Tryz.prog 44 #[.slice A es.length c, .int .i64 j] w (NewB w (idxX (txtsX es j))) := by
  have HEV := Lib.hid hev
  have HI : Hid (∀ x ∈ txtsX es j, x.size ≤ 250) := Lib.hid (fun x hx => by
    obtain ⟨e, he, rfl⟩ := List.mem_map.1 hx
    have h1 := (hs e he).2.2.2.2.2
    split <;> omega)
  have HNL : Hid ((txtsX es j).length = es.length) := Lib.hid (by unfold txtsX; rw [List.length_map])
  have HSN : Hid (∀ k y, es[k]? = some y → txtsX (es.take (k + 1)) j = txtsX (es.take k) j ++ [if j = 7 then y.trace else y.stream]) := Lib.hid (fun k y hy => by
    obtain ⟨h1, h2⟩ := List.getElem?_eq_some_iff.1 hy
    unfold txtsX
    rw [List.take_succ_eq_append_getElem h1, h2, List.map_append]
    rfl)
  clear hev hs
  have hj : j = 7 ∨ j = 8 := by omega
  rcases hj with rfl | rfl
  · go_enter Tryz.func44, Tryz.ntmps44
    go_wp2_with fail
    go_loopw [5, 6] (fun v vi wr => ∃ k : Nat, vi = .int .i64 k ∧ k ≤ es.length ∧ wr.ownsRow w.heap.size 9 1 v k ((txtsX (es.take k) 7).map .string) ∧ w.grownBy wr none) (fun _ vi _ => es.length - (intOf vi).toNat)
    case atStart => exact ⟨0, rfl, Nat.zero_le _, World.ownsRow_nil _ _ _ _, only_refl _ _⟩
    case round =>
      obtain ⟨k, rfl, hk, hO, hG⟩ := hrel
      have OO := Lib.hid hO
      have G := Lib.hid hG
      have hbase : w.heap.size ≤ wr.heap.size := hG.size
      obtain ⟨vO, hvO⟩ : ∃ v, v = u5 := ⟨_, rfl⟩
      rw [← hvO] at OO ⊢
      clear hO hG hvO
      by_cases hlt : k < es.length
      · obtain ⟨y, hy⟩ : ∃ y, es[k]? = some y := ⟨_, List.getElem?_eq_getElem hlt⟩
        obtain ⟨kb, ko, eE, hkw, z0, z1, z2, z3, z4, z5, z6, z7, z8, z9⟩ := ev_in (HEV.out.1.grown G.out (by simp)) hy
        subst eE
        have HS1 : Hid (txtsX (es.take (k + 1)) 7 = txtsX (es.take k) 7 ++ [y.trace]) := Lib.hid (HSN.out k y hy)
        have i1 : (k : Int) < (es.length : Int) := by omega
        clear hy
        go_wp2_with (at_builtin; go_must (refine wpList_append1 rfl _ _ 29 rfl w.heap.size Tryz.underlying29 strInfo rfl (by decide) (v := vO) (by rfl) (w0 := wr) (cs := #[.string y.trace]) OO.out (by rfl) rfl (by simp [Value.oneCell']) (by decide) (by omega) (by omega) ?_); intro v5 w5 hown5 hg5 hob5)
        have O5 : Hid (w5.ownsRow w.heap.size 9 1 v5 (k + 1) ((txtsX (es.take (k + 1)) 7).map .string)) := Lib.hid (by rw [HS1.out, List.map_append]; exact hown5)
        have G5 : Hid (w.grownBy w5 none) := Lib.hid (only_own G.out hg5 OO.out (Nat.le_refl _))
        clear hown5 hg5 hob5 z0 z1 z2 z3 z4 z5 z6 z7 z8 z9
        go_wp2_with fail
        go_roundw
        case rel => exact ⟨k + 1, by go_num, by omega, O5.out, G5.out⟩
        case measure => simp [intOf]; omega
      · have hkE : k = es.length := by omega
        have OV : Hid (wr.ownsRow w.heap.size 9 1 vO es.length ((txtsX es 7).map .string)) := Lib.hid (by
          have h := OO.out
          rw [List.take_of_length_le (by omega), hkE] at h
          exact h)
        have i1 : ¬ (k : Int) < (es.length : Int) := by omega
        obtain ⟨AO, cO, hv, h1, h2, -, h3⟩ := Rd.of_own OV.out (by decide)
        have KC := indexed_any AO (txtsX es 7) cO wr h3 (by rw [HNL.out]; omega) HI.out (by rw [HNL.out]; exact h1) h2
        rw [HNL.out] at KC
        have KC := Lib.hid KC
        rw [hv]
        clear hv h1 h2 h3 OO OV hkE
        go_wp2_with fail
        refine KC.out.mono ?_
        rintro e w5 ⟨v5, rfl, hB5, hG5⟩
        have B5 := Lib.hid hB5
        have G5 := Lib.hid (only_trans G.out hG5)
        clear hB5 hG5 KC
        go_wp2_with fail
        go_ret
        exact ⟨v5, rfl, B5.out.base hbase, G5.out⟩
  · go_enter Tryz.func44, Tryz.ntmps44
    go_wp2_with fail
    go_loopw [5, 6] (fun v vi wr => ∃ k : Nat, vi = .int .i64 k ∧ k ≤ es.length ∧ wr.ownsRow w.heap.size 9 1 v k ((txtsX (es.take k) 8).map .string) ∧ w.grownBy wr none) (fun _ vi _ => es.length - (intOf vi).toNat)
    case atStart => exact ⟨0, rfl, Nat.zero_le _, World.ownsRow_nil _ _ _ _, only_refl _ _⟩
    case round =>
      obtain ⟨k, rfl, hk, hO, hG⟩ := hrel
      have OO := Lib.hid hO
      have G := Lib.hid hG
      have hbase : w.heap.size ≤ wr.heap.size := hG.size
      obtain ⟨vO, hvO⟩ : ∃ v, v = u5 := ⟨_, rfl⟩
      rw [← hvO] at OO ⊢
      clear hO hG hvO
      by_cases hlt : k < es.length
      · obtain ⟨y, hy⟩ : ∃ y, es[k]? = some y := ⟨_, List.getElem?_eq_getElem hlt⟩
        obtain ⟨kb, ko, eE, hkw, z0, z1, z2, z3, z4, z5, z6, z7, z8, z9⟩ := ev_in (HEV.out.1.grown G.out (by simp)) hy
        subst eE
        have HS1 : Hid (txtsX (es.take (k + 1)) 8 = txtsX (es.take k) 8 ++ [y.stream]) := Lib.hid (HSN.out k y hy)
        have i1 : (k : Int) < (es.length : Int) := by omega
        clear hy
        go_wp2_with (at_builtin; go_must (refine wpList_append1 rfl _ _ 29 rfl w.heap.size Tryz.underlying29 strInfo rfl (by decide) (v := vO) (by rfl) (w0 := wr) (cs := #[.string y.stream]) OO.out (by rfl) rfl (by simp [Value.oneCell']) (by decide) (by omega) (by omega) ?_); intro v5 w5 hown5 hg5 hob5)
        have O5 : Hid (w5.ownsRow w.heap.size 9 1 v5 (k + 1) ((txtsX (es.take (k + 1)) 8).map .string)) := Lib.hid (by rw [HS1.out, List.map_append]; exact hown5)
        have G5 : Hid (w.grownBy w5 none) := Lib.hid (only_own G.out hg5 OO.out (Nat.le_refl _))
        clear hown5 hg5 hob5 z0 z1 z2 z3 z4 z5 z6 z7 z8 z9
        go_wp2_with fail
        go_roundw
        case rel => exact ⟨k + 1, by go_num, by omega, O5.out, G5.out⟩
        case measure => simp [intOf]; omega
      · have hkE : k = es.length := by omega
        have OV : Hid (wr.ownsRow w.heap.size 9 1 vO es.length ((txtsX es 8).map .string)) := Lib.hid (by
          have h := OO.out
          rw [List.take_of_length_le (by omega), hkE] at h
          exact h)
        have i1 : ¬ (k : Int) < (es.length : Int) := by omega
        obtain ⟨AO, cO, hv, h1, h2, -, h3⟩ := Rd.of_own OV.out (by decide)
        have KC := indexed_any AO (txtsX es 8) cO wr h3 (by rw [HNL.out]; omega) HI.out (by rw [HNL.out]; exact h1) h2
        rw [HNL.out] at KC
        have KC := Lib.hid KC
        rw [hv]
        clear hv h1 h2 h3 OO OV hkE
        go_wp2_with fail
        refine KC.out.mono ?_
        rintro e w5 ⟨v5, rfl, hB5, hG5⟩
        have B5 := Lib.hid hB5
        have G5 := Lib.hid (only_trans G.out hG5)
        clear hB5 hG5 KC
        go_wp2_with fail
        go_ret
        exact ⟨v5, rfl, B5.out.base hbase, G5.out⟩
end Go.Proofs.YtodaabofpkafjaaGreat

namespace Go.Proofs.YtodaabofpkafjaaGreat
open Go.RowKit
set_option linter.unusedVariables false
set_option linter.unusedSimpArgs false

set_option maxHeartbeats 4000000 in
set_option maxRecDepth 100000 in
theorem section_fld {S : Nat → Prop} (A : Option Addr) (es : List Ev) (c : Nat) (w : World) (hev : Evs S w A es) (hel : es.length ≤ 40) (hs : ∀ e ∈ es, EvS e) :
    Calls Tryz.prog 44 #[.slice A es.length c, .int .i64 10] w (NewB w (fieldsX es)) := by
  have K := Lib.hid (fields_any A es c w hev hel hs)
  clear hev hs
  go_enter Tryz.func44, Tryz.ntmps44
  go_wp2_with fail
  refine K.out.mono ?_
  rintro e w5 ⟨v5, rfl, hB5, hG5⟩
  have B5 := Lib.hid hB5
  have G5 := Lib.hid hG5
  clear hB5 hG5 K
  go_wp2_with fail
  go_ret
  exact ⟨v5, rfl, B5.out, G5.out⟩
end Go.Proofs.YtodaabofpkafjaaGreat

namespace Go.Proofs.YtodaabofpkafjaaGreat
open Go.RowKit
set_option linter.unusedVariables false
set_option linter.unusedSimpArgs false

theorem mk_one (z : Value) (hz : z.cells = #[z]) (n : Nat) : madeCells z.cells (n * 1) = Array.replicate n z := by
  rw [hz, Nat.mul_one]
  apply Array.ext
  · simp [madeCells]
  · intro i h1 h2
    simp [madeCells, Nat.mod_one]
theorem mk_any {P : Program} {t e : TypeId} {z : Value} {bytes : Nat} (ht : P.underlying t = some (.slice e)) (hi : (P.info? e).map (fun i => (i.zero, i.size, i.bytes)) = some (some z, 1, bytes)) (hz : z.cells = #[z]) (hb : bytes ≤ 100) (n : Nat) (hn : n ≤ 10000000) (w : World) :
    Sem.run P (Instr.makeSlice t (.int .i64 (n : Int)) (.int .i64 (n : Int))) w = .ok (.slice (some ⟨w.heap.size, 0, none⟩) n n) (w.alloc (.cells (Array.replicate n z) e)) := by
  obtain ⟨i0, hi0, hz0, hz1, hz2⟩ := info_parts hi
  have hbi : (i0.bytes : Int) * (n : Int) ≤ 281474976710656 := by
    have h1 : i0.bytes * n ≤ 100 * 10000000 := Nat.mul_le_mul (by omega) hn
    have h2 : ((i0.bytes * n : Nat) : Int) ≤ 1000000000 := by omega
    rw [Int.natCast_mul] at h2; omega
  have h := run_makeSlice (P := P) w t e i0 z ht hi0 hz0 .i64 .i64 n n (by omega) (Int.le_refl _) (by rw [hz1, Int.toNat_natCast]; omega) hbi (by omega)
  rw [Int.toNat_natCast, hz1, mk_one z hz] at h
  exact h
theorem only_setN {a w : World} {row : Option Nat} (h : a.grownBy w row) {p : Addr} (hp : a.heap.size ≤ p.block) (u : Value) : a.grownBy (w.setCell p u) row :=
  ⟨h.os, h.tape, h.output, by simpa [World.setCell] using h.size, fun i hi hne => (Below.heap_setCell w p u i (by rintro rfl; omega)).trans (h.block i hi hne)⟩
theorem only_setB (w : World) {p : Addr} (u : Value) : w.grownBy (w.setCell p u) (some p.block) :=
  ⟨rfl, rfl, rfl, by simp [World.setCell], fun k _ hne => Below.heap_setCell w p u k (fun e => hne (by rw [e]))⟩
end Go.Proofs.YtodaabofpkafjaaGreat
