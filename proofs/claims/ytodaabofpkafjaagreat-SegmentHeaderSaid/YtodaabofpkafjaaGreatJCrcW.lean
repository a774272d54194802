/- Crc of package segment. Condition: the size. -/
import Derived.Test.YtodaabofpkafjaaGreatJRIdx
import Derived.Test.YtodaabofpkafjaaGreatJNatB
import Derived.Test.YtodaabofpkafjaaGreatJRTermsJ
import Derived.Test.YtodaabofpkafjaaGreatJFil27
import Derived.Test.YtodaabofpkafjaaGreatJGen
namespace Go.Proofs.YtodaabofpkafjaaGreat
open Go.RowKit
set_option linter.unusedVariables false
set_option linter.unusedSimpArgs false

set_option maxHeartbeats 4000000 in
set_option maxRecDepth 100000 in
theorem scrc_any {S : Nat → Prop} (A : Option Addr) (bs : List Int) (c : Nat) (w : World) (hr : Rd S w A (bs.map (.int .u8))) (hl : bs.length ≤ 10000000) :
    Calls Tryz.prog 12 #[.slice A bs.length c] w (fun e w' => e = .returned (.int .u32 (crcN bs : Nat)) ∧ w' = w) := by
  have HR := Lib.hid hr
  clear hr
  go_enter Tryz.func12, Tryz.ntmps12
  go_wp2_with fail
  go_loopw [3, 8] (fun vc vi wr => ∃ (k s : Nat), vi = .int .i64 k ∧ vc = .int .u32 s ∧ k ≤ bs.length ∧ Hid (crcT (bs.take k) = s) ∧ s < 4294967296 ∧ wr = w) (fun _ vi _ => bs.length - (intOf vi).toNat)
  case atStart => exact ⟨0, 4294967295, rfl, rfl, Nat.zero_le _, Lib.hid rfl, by decide, rfl⟩
  case round =>
    obtain ⟨k, s, rfl, rfl, hk, HS, hs, rfl⟩ := hrel
    by_cases hlt : k < bs.length
    · obtain ⟨x, hx⟩ : ∃ x, bs[k]? = some x := ⟨_, List.getElem?_eq_getElem hlt⟩
      obtain ⟨xn, hxn⟩ : ∃ n : Nat, n = (x % 4294967296).toNat := ⟨_, rfl⟩
      have hxw : x % 4294967296 = (xn : Int) := by omega
      obtain ⟨b, off, eA, hS, hlt2, hc⟩ := HR.out (by simp; omega)
      subst eA
      have c0 := hc k (.int .u8 x) (by simp [hx])
      have i1 : (k : Int) < (bs.length : Int) := by omega
      have HN : Hid (crcT (bs.take (k + 1)) = crcK 8 (s ^^^ xn)) := Lib.hid (by
        obtain ⟨h1, h2⟩ := List.getElem?_eq_some_iff.1 hx
        rw [List.take_succ_eq_append_getElem h1, h2, crcT_snoc, HS.out, crcS, ← hxn])
      have hxs : s ^^^ xn < 4294967296 := xor_lt32 hs (by omega)
      have HXR := Lib.hid (xor_u32 s xn hs (by omega))
      clear hc hx hxn
      go_wp2_with fail
      rw [HXR.out]
      obtain ⟨wo, rfl⟩ : ∃ wo : World, wo = wr := ⟨_, rfl⟩
      go_loopw [3, 16] (fun vc vj wr => ∃ (j t : Nat), vj = .int .i64 j ∧ vc = .int .u32 t ∧ j ≤ 8 ∧ Hid (t = crcK j (s ^^^ xn)) ∧ t < 4294967296 ∧ wr = wo) (fun _ vj _ => 8 - (intOf vj).toNat)
      case atStart => exact ⟨0, s ^^^ xn, rfl, rfl, Nat.zero_le _, Lib.hid rfl, hxs, rfl⟩
      case round =>
        obtain ⟨j, t, rfl, rfl, hj, HT, ht, rfl⟩ := hrel
        by_cases hlt8 : j < 8
        · have i2 : (j : Int) < 8 := by omega
          by_cases hodd : t % 2 = 1
          · have ha : bits BinOp.and IntKind.u32 (t : Int) 1 = 1 := by
              have h := and_u32 t 1 ht (by decide)
              rw [and_one32, hodd] at h
              exact h
            have hb : bits BinOp.and IntKind.u32 3988292384 4294967295 = 3988292384 := by decide
            have HT2 : Hid (t / 2 ^^^ 3988292384 = crcK (j + 1) (s ^^^ xn)) := Lib.hid (by rw [crcK, ← HT.out, crc1, if_pos hodd])
            have HX2 := Lib.hid (xor_u32 (t / 2) 3988292384 (by omega) (by decide))
            have hl2 : t / 2 ^^^ 3988292384 < 4294967296 := xor_lt32 (by omega) (by decide)
            clear hodd
            go_wp2_with fail
            go_roundw
            case rel => exact ⟨j + 1, t / 2 ^^^ 3988292384, by go_num, congrArg (Value.int .u32) HX2.out, by omega, HT2, hl2, trivial⟩
            case measure => simp [intOf]; omega
          · have ha : bits BinOp.and IntKind.u32 (t : Int) 1 = 0 := by
              have h := and_u32 t 1 ht (by decide)
              rw [and_one32, show t % 2 = 0 by omega] at h
              exact h
            have hb : bits BinOp.and IntKind.u32 3988292384 0 = 0 := by decide
            have HT2 : Hid (t / 2 = crcK (j + 1) (s ^^^ xn)) := Lib.hid (by rw [crcK, ← HT.out, crc1, if_neg hodd])
            have HX2 := Lib.hid (xor_u32 (t / 2) 0 (by omega) (by decide))
            clear hodd
            go_wp2_with fail
            go_roundw
            case rel => exact ⟨j + 1, t / 2, by go_num, congrArg (Value.int .u32) (HX2.out.trans (by rw [Nat.xor_zero])), by omega, HT2, by omega, trivial⟩
            case measure => simp [intOf]; omega
        · have i2 : ¬ (j : Int) < 8 := by omega
          have hj8 : j = 8 := by omega
          have HT2 : Hid (crcT (bs.take (k + 1)) = t) := Lib.hid (by rw [HN.out, HT.out, hj8])
          clear hj8
          go_wp2_with fail
          go_roundw
          case rel => exact ⟨k + 1, t, by go_num, rfl, by omega, HT2, ht, trivial⟩
          case measure => simp [intOf]; omega
    · have i1 : ¬ (k : Int) < (bs.length : Int) := by omega
      have HE : Hid (crcN bs = s ^^^ 4294967295) := Lib.hid (by have h := HS.out; rw [List.take_of_length_le (by omega)] at h; unfold crcN; rw [h])
      have HX3 : Hid (bits BinOp.xor IntKind.u32 IntKind.u32.max (s : Int) = ((s ^^^ 4294967295 : Nat) : Int)) := Lib.hid (by rw [Nat.xor_comm]; exact xor_u32 4294967295 s (by decide) hs)
      go_wp2_with fail
      go_ret
      exact ⟨congrArg (fun x => Ending.returned (Value.int .u32 x)) (HX3.out.trans (congrArg (fun (x : Nat) => (x : Int)) HE.out.symm)), rfl⟩
end Go.Proofs.YtodaabofpkafjaaGreat

namespace Go.Proofs.YtodaabofpkafjaaGreat
open Go.RowKit
set_option linter.unusedVariables false
set_option linter.unusedSimpArgs false

theorem Rd.i_at {S : Nat → Prop} {w : World} {A : Option Addr} {k : Nat} {vs : List Int} {kd : IntKind} (h : Rd S w A (vs.map (.int kd))) (hk : k < vs.length) :
    ∃ b off x, A = some ⟨b, off, none⟩ ∧ w.cell? ⟨b, off + k, none⟩ = some (.int kd x) ∧ Hid (vs[k]? = some x) := by
  obtain ⟨b, off, e, _, _, hc⟩ := h (by simp; omega)
  exact ⟨b, off, vs[k], e, hc k _ (by simp [hk]), List.getElem?_eq_getElem hk⟩
theorem take_eq_all {α : Type} {a b : List α} (hl : a.length = b.length) (h : ∀ i, i < a.length → a[i]? = b[i]?) : a = b := by
  apply List.ext_getElem? 
  intro i
  by_cases hi : i < a.length
  · exact h i hi
  · rw [List.getElem?_eq_none (by omega), List.getElem?_eq_none (by omega)]

end Go.Proofs.YtodaabofpkafjaaGreat
namespace Go.Proofs.YtodaabofpkafjaaGreat
open Go.RowKit
set_option linter.unusedVariables false
set_option linter.unusedSimpArgs false

set_option maxHeartbeats 1000000 in
theorem same_any {S S' : Nat → Prop} (A B : Option Addr) (a b : List ByteArray) (c d : Nat) (w : World) (ha : Rd S w A (a.map .string)) (hb : Rd S' w B (b.map .string)) (hl : a.length ≤ 10000000) (hl2 : b.length ≤ 10000000) (v : Bool) (hv : v = true ↔ a = b) :
    Calls Tryz.prog 7 #[.slice A a.length c, .slice B b.length d] w (Quiet (.bool v) w) := by
  have HA := Lib.hid ha
  have HB := Lib.hid hb
  have HV := Lib.hid hv
  clear ha hb hv
  by_cases hlen : a.length = b.length
  · have t1 : ((a.length : Int) != (b.length : Int)) = false := by simp [hlen]
    have HLEN := Lib.hid hlen
    have hle1 : a.length ≤ b.length := by omega
    have hle2 : b.length ≤ a.length := by omega
    clear hlen
    go_enter Tryz.func7, Tryz.ntmps7
    go_wp2
    go_loopw [5] (fun i wr => ∃ k : Nat, k ≤ a.length ∧ i = .int .i64 k ∧ (∀ i, i < k → a[i]? = b[i]?) ∧ ∃ q, wr = w.drewN q) (fun i _ => a.length - (intOf i).toNat)
    case atStart => exact ⟨0, Nat.zero_le _, rfl, fun i hi => absurd hi (by omega), 0, rfl⟩
    case round =>
      obtain ⟨k, hk, rfl, hall, q, rfl⟩ := hrel
      have AL := Lib.hid hall
      clear hall
      by_cases hlt : k < a.length
      · obtain ⟨b1, o1, x, rfl, hc1, hx⟩ := HA.out.str_at hlt
        obtain ⟨b2, o2, y, rfl, hc2, hy⟩ := HB.out.str_at (k := k) (by omega)
        have i1 : (k : Int) < (a.length : Int) := by omega
        have i2 : (k : Int) < (b.length : Int) := by omega
        by_cases hxy : x = y
        · have t2 : (!(x.toList == y.toList)) = false := by simp [hxy]
          have HXY := Lib.hid hxy
          clear hxy
          go_wp2
          go_quiet (fail)
          go_wp2
          go_roundw
          case rel =>
            refine ⟨k + 1, by omega, by go_num, fun i hi => ?_, _, rfl⟩
            rcases Nat.lt_or_ge i k with h | h
            · exact AL.out i h
            · obtain rfl : i = k := by omega
              rw [hx.out, hy.out, HXY.out]
          case measure => simp [intOf]; omega
        · have t2 : (!(x.toList == y.toList)) = true := by simp; exact fun h => hxy (toList_inj h)
          have hne : v = false := by
            cases hv : v with
            | false => rfl
            | true =>
              have := HV.out.1 hv
              rw [this] at hx
              rw [hx.out] at hy
              have := hy.out
              injection this with this
              exact absurd this hxy
          have HNE := Lib.hid hne
          clear hxy hne
          go_wp2
          go_quiet (fail)
          go_wp2
          go_ret
          exact ⟨by rw [HNE.out]; rfl, _, World.drewN_drewN _ _ _⟩
      · have hv1 : v = true := HV.out.2 (take_eq_all HLEN.out (fun i hi => AL.out i (by omega)))
        have HV1 := Lib.hid hv1
        clear hv1
        go_wp2
        go_ret
        exact ⟨by rw [HV1.out]; rfl, _, rfl⟩
  · have t1 : ((a.length : Int) != (b.length : Int)) = true := by simp; omega
    have hne : v = false := by
      cases hv : v with
      | false => rfl
      | true => exact absurd (congrArg List.length (HV.out.1 hv)) hlen
    have HNE := Lib.hid hne
    clear hlen hne
    go_enter Tryz.func7, Tryz.ntmps7
    go_wp2
    go_ret
    exact ⟨by rw [HNE.out]; rfl, 0, rfl⟩
end Go.Proofs.YtodaabofpkafjaaGreat

namespace Go.Proofs.YtodaabofpkafjaaGreat
open Go.RowKit
set_option linter.unusedVariables false
set_option linter.unusedSimpArgs false

theorem swords_new (s : ByteArray) (w : World) (hl : s.size ≤ 100000) : Calls Tryz.prog 10 #[.string s] w (NewS w (dist (rawW (bts s)))) :=
  (swords_own s w hl).mono (by
    rintro e' w' ⟨A', c', ds, rfl, h1, h2, h3, h4, h5, h6, h7⟩
    obtain rfl : ds = dist (rawW (bts s)) := srt_ext h3 (dist_srt _) (fun s => by rw [h4, dist_mem])
    exact ⟨A', c', rfl, h1, h2, rd_ownG h6, h7⟩)
theorem rwords_new (s : ByteArray) (w : World) (hl : s.size ≤ 100000) : Calls Tryz.prog 11 #[.string s] w (NewS w (dist (rawW (bts s)))) :=
  (rwords_any s w hl).mono (by
    rintro e' w' ⟨A', c', ds, rfl, h1, h2, h3, h4, h5, h6, h7⟩
    obtain rfl : ds = dist (rawW (bts s)) := srt_ext h3 (dist_srt _) (fun s => by rw [h4, dist_mem])
    exact ⟨A', c', rfl, h1, h2, h6, h7⟩)
theorem sterms_new {S : Nat → Prop} (e : Ev) (w : World) (hs : e.Sub S w) (he : EvS e) : Calls Tryz.prog 8 #[.agg e.cells.toArray] w (NewS w (termsE e)) :=
  (sterms_own e w hs he.evT).mono (by
    rintro e' w' ⟨A', c', ds, rfl, h1, h2, h3, h4, h5, h6, h7⟩
    obtain rfl : ds = termsE e := srt_ext h3 (dist_srt _) (fun s => by rw [h4]; unfold termsE; rw [dist_mem])
    exact ⟨A', c', rfl, h1, h2, rd_ownG h6, h7⟩)
theorem wordsA27 : rawW (bts ⟨#[97, 44, 32, 98]⟩) = [⟨#[97]⟩, ⟨#[98]⟩] := by kernel_rfl
theorem srtA27 : Srt [(⟨#[97]⟩ : ByteArray), ⟨#[98]⟩] := by simp [Srt, sl, ByteArray.toList_eq, Op.bytesLess]
set_option maxHeartbeats 1000000 in
theorem awake27_any (w : World) : Calls Tryz.prog 5 #[] w (BoolExt true w) := by
  have K := Lib.hid (swords_own ⟨#[97, 44, 32, 98]⟩ w (by decide))
  go_enter Tryz.func5, Tryz.ntmps5
  go_wp2_with fail
  refine K.out.mono ?_
  rintro e w1 ⟨A, c, ds, rfl, -, -, h3, h4, -, -, hg⟩
  have hd : ds = [⟨#[97]⟩, ⟨#[98]⟩] := srt_ext h3 srtA27 (fun s => by rw [h4, wordsA27])
  subst hd
  have G := Lib.hid hg
  clear h3 h4 hg K
  simp only [List.length_cons, List.length_nil, Nat.zero_add, Nat.reduceAdd]
  go_wp2_with fail
  go_ret
  exact ⟨rfl, G.out⟩
/-- a slice of strings that a call has given back -/
def StrV (ts : List ByteArray) (w : World) (v : Value) : Prop := ∃ A c, v = .slice A ts.length c ∧ Rd (fun _ => True) w A (ts.map .string)
theorem StrV.grown {ts : List ByteArray} {w w' : World} {v : Value} (h : StrV ts w v) (hg : w.grownBy w' none) : StrV ts w' v := by
  obtain ⟨A, c, e, hr⟩ := h
  exact ⟨A, c, e, hr.grown hg (by simp)⟩
set_option maxRecDepth 100000 in
theorem load_evZ (w : World) (b o : Nat) (a : Ev) (c0 : w.cell? ⟨b, o, none⟩ = some (.int .i64 a.host)) (c1 : w.cell? ⟨b, o + 1, none⟩ = some (.int .i64 a.file)) (c2 : w.cell? ⟨b, o + 2, none⟩ = some (.int .i64 a.beg)) (c3 : w.cell? ⟨b, o + 3, none⟩ = some (.int .i64 a.fin)) (c4 : w.cell? ⟨b, o + 4, none⟩ = some (.slice a.la a.lines.length a.lc)) (c5 : w.cell? ⟨b, o + 5, none⟩ = some (.int .i64 a.time)) (c6 : w.cell? ⟨b, o + 6, none⟩ = some (.int .i64 a.weight)) (c7 : w.cell? ⟨b, o + 7, none⟩ = some (.string a.trace)) (c8 : w.cell? ⟨b, o + 8, none⟩ = some (.string a.stream)) (c9 : w.cell? ⟨b, o + 9, none⟩ = some (.slice a.fa a.fields.length a.fc)) :
    (Instr.loadAt 34 (.pointer (some ⟨b, o, none⟩))).run Tryz.prog w = .ok (.agg a.cells.toArray) w := by
  have hu := Tryz.underlying34
  simp [go_sem, c0, c1, c2, c3, c4, c5, c6, c7, c8, c9, Ev.cells]
set_option maxRecDepth 100000 in
theorem load_evR {S : Nat → Prop} (w : World) (b o k : Nat) (es : List Ev) (y : Ev) (h : Rd S w (some ⟨b, o, none⟩) (es.flatMap Ev.cells)) (hy : es[k]? = some y) :
    (Instr.loadAt 34 (.pointer (some ⟨b, o + k * 10, none⟩))).run Tryz.prog w = .ok (.agg y.cells.toArray) w := by
  obtain ⟨kb, ko, e, -, z0, z1, z2, z3, z4, z5, z6, z7, z8, z9⟩ := ev_in h hy
  injection e with e
  injection e with e1 e2
  subst e1 e2
  exact load_evZ w b (o + k * 10) y z0 z1 z2 z3 z4 z5 z6 z7 z8 z9
end Go.Proofs.YtodaabofpkafjaaGreat
