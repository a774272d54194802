/- filter; the sections of lines, words and filter: the reference of chapter 27. Conditions: sizes. -/
import Derived.Test.YtodaabofpkafjaaGreatJFilA
import Derived.Test.YtodaabofpkafjaaGreatJPrefP
namespace Go.Proofs.YtodaabofpkafjaaGreat
open Go.RowKit
set_option linter.unusedVariables false
set_option linter.unusedSimpArgs false

def termsE (e : Ev) : List ByteArray := dist (rawT e)
theorem EvS.evT {e : Ev} (h : EvS e) : EvT e := ⟨by have := h.1; omega, fun l hl => by have := h.2.1 l hl; omega, by have := h.2.2.1; omega, by have := h.2.2.2.1; omega, fun f hf => by have := h.2.2.2.2.1 f hf; omega⟩
theorem termsE_len {e : Ev} (h : EvS e) : (termsE e).length ≤ 185 := by
  have h1 := dist_len' (rawT e)
  have h2 := rawW_len (bts (textOf e.lines))
  rw [bts_length] at h2
  have h3 := h.2.2.1
  have h4 := h.2.2.2.1
  unfold termsE
  unfold rawT at h1 ⊢
  rw [List.length_append, List.length_map] at h1
  omega
theorem termsE_sz {e : Ev} (h : EvS e) : ∀ x ∈ termsE e, x.size ≤ 41 := dist_sz (fun x hx => by
  unfold rawT at hx
  rcases List.mem_append.1 hx with hx | hx
  · have := rawW_sz _ x hx; omega
  · obtain ⟨f, hf, rfl⟩ := List.mem_map.1 hx
    have := h.2.2.2.2.1 f hf
    rw [nmeq_size]; omega)
theorem terms_new {S : Nat → Prop} (e : Ev) (w : World) (hs : e.Sub S w) (he : EvS e) : Calls Tryz.prog 9 #[.agg e.cells.toArray] w (NewS w (termsE e)) :=
  (terms_own e w hs he.evT).mono (by
    rintro e' w' ⟨A', c', ds, rfl, h1, h2, h3, h4, h5, h6, h7⟩
    obtain rfl : ds = termsE e := srt_ext h3 (dist_srt _) (fun s => by rw [h4]; unfold termsE; rw [dist_mem])
    exact ⟨A', c', rfl, h1, h2, rd_ownG h6, h7⟩)
def termsX (es : List Ev) : List ByteArray := dist (es.flatMap termsE)
def filX (es : List Ev) : List Int := encF (sizeF (termsX es).length) (bitsN (sizeF (termsX es).length) (termsX es))
theorem filX_len (es : List Ev) : (filX es).length ≤ 8195 := by
  unfold filX
  rw [encF_len, bitsN_len]
  have := (sizeF_in (termsX es).length).2
  omega
set_option maxHeartbeats 8000000 in
set_option maxRecDepth 100000 in
theorem filter_any {S : Nat → Prop} (A : Option Addr) (es : List Ev) (c : Nat) (w : World) (hev : Evs S w A es) (hel : es.length ≤ 40) (hs : ∀ e ∈ es, EvS e) :
    Calls Tryz.prog 59 #[.slice A es.length c] w (NewB w (filX es)) := by
  have HEV := Lib.hid hev
  have HS := Lib.hid hs
  have HL : Hid (∀ k, ((es.take k).flatMap termsE).length ≤ 7400) := Lib.hid (fun k => by
    have h1 := flat_le termsE 185 (es.take k) (fun e he => termsE_len (hs e (List.mem_of_mem_take he)))
    rw [List.length_take] at h1
    have h2 : min k es.length * 185 ≤ 40 * 185 := Nat.mul_le_mul (by omega) (Nat.le_refl _)
    omega)
  have KT : Hid (∀ (e : Ev) (w' : World), e ∈ es → w.grownBy w' none → Calls Tryz.prog 9 #[.agg e.cells.toArray] w' (NewS w' (termsE e))) := Lib.hid (fun e w' he hg => terms_new e w' ((hev.2 e he).grown hg (by simp)) (hs e he))
  have HSN : Hid (∀ (k : Nat) (y : Ev), es[k]? = some y → (es.take (k + 1)).flatMap termsE = (es.take k).flatMap termsE ++ termsE y) := Lib.hid (fun k y hy => flat_snoc termsE hy)
  have HTZ : Hid (∀ x ∈ termsX es, x.size ≤ 100000) := Lib.hid (fun x hx => by
    obtain ⟨e, he, hx⟩ := List.mem_flatMap.1 ((dist_mem _ x).1 hx)
    have := termsE_sz (hs e he) x hx
    omega)
  have hdl := dist_len' (es.flatMap termsE)
  have HDL : Hid ((termsX es).length ≤ 7400) := Lib.hid (by
    have h1 := HL.out es.length
    rw [List.take_of_length_le (Nat.le_refl _)] at h1
    unfold termsX
    omega)
  obtain ⟨hn1, hn2⟩ := sizeF_in (termsX es).length
  have HX : Hid (filX es = encF (sizeF (termsX es).length) (bitsN (sizeF (termsX es).length) (termsX es))) := Lib.hid rfl
  have HD : Hid (termsX es = dist (es.flatMap termsE)) := Lib.hid rfl
  obtain ⟨R, hR⟩ : ∃ r, r = filX es := ⟨_, rfl⟩
  obtain ⟨ds, hds⟩ : ∃ d, d = termsX es := ⟨_, rfl⟩
  obtain ⟨n, hn⟩ : ∃ n, n = sizeF ds.length := ⟨_, rfl⟩
  rw [← hds] at HD HTZ HDL hn1 hn2
  rw [← hn] at hn1 hn2
  rw [← hR, ← hds, ← hn] at HX
  rw [← hR]
  have HNS := Lib.hid hn
  clear hev hs hR hds hn hdl
  go_enter Tryz.func59, Tryz.ntmps59
  go_wp2_with fail
  go_loopw [3, 4] (fun v vi wr => ∃ (k : Nat) (ws : List ByteArray), vi = .int .i64 k ∧ k ≤ es.length ∧ Hid ((es.take k).flatMap termsE = ws) ∧ wr.ownsRow w.heap.size 9 1 v ws.length (ws.map .string) ∧ w.grownBy wr none) (fun _ vi _ => es.length - (intOf vi).toNat)
  case atStart => exact ⟨0, [], rfl, Nat.zero_le _, Lib.hid rfl, World.ownsRow_nil _ _ _ _, only_refl _ _⟩
  case round =>
    obtain ⟨k, ws, rfl, hk, HK, hO, hG⟩ := hrel
    have OO := Lib.hid hO
    have G := Lib.hid hG
    have hbase : w.heap.size ≤ wr.heap.size := hG.size
    have hwl : ws.length ≤ 7400 := by rw [← HK.out]; exact HL.out k
    obtain ⟨vO, hvOd⟩ : ∃ v, v = u3 := ⟨_, rfl⟩
    rw [← hvOd] at OO ⊢
    clear hO hG hvOd
    by_cases hlt : k < es.length
    · obtain ⟨y, hy⟩ : ∃ y, es[k]? = some y := ⟨_, List.getElem?_eq_getElem hlt⟩
      obtain ⟨kb, ko, eE, hkw, z0, z1, z2, z3, z4, z5, z6, z7, z8, z9⟩ := ev_in (HEV.out.1.grown G.out (by simp)) hy
      subst eE
      have K1 := Lib.hid (KT.out y wr (List.mem_of_getElem? hy) G.out)
      have hycl : y.cells.toArray = #[.int .i64 y.host, .int .i64 y.file, .int .i64 y.beg, .int .i64 y.fin, .slice y.la y.lines.length y.lc, .int .i64 y.time, .int .i64 y.weight, .string y.trace, .string y.stream, .slice y.fa y.fields.length y.fc] := rfl
      rw [hycl] at K1
      have HS1 := Lib.hid (HSN.out k y hy)
      have hyl : (termsE y).length ≤ 185 := termsE_len (HS.out y (List.mem_of_getElem? hy))
      have i1 : (k : Int) < (es.length : Int) := by omega
      clear hy hycl
      go_wp2_with fail
      refine K1.out.mono ?_
      rintro e w3 ⟨AW, cW, rfl, h1, h2, h3, hg3⟩
      have G3 := Lib.hid (only_trans G.out hg3)
      have O3 := Lib.hid (own_ext OO.out hg3)
      have R3 := Lib.hid h3
      have hb3 : w.heap.size ≤ w3.heap.size := G3.out.size
      clear h1 h2 h3 hg3 z0 z1 z2 z3 z4 z5 z6 z7 z8 z9
      go_wp2_with (at_builtin; go_must (refine wpList_appendN rfl _ _ 29 rfl w.heap.size Tryz.underlying29 strInfo rfl (by decide) (v := vO) (by rfl) O3.out AW (termsE y).length cW (by rfl) R3.out (by simp) str_onesG (by decide) (by omega) (by omega) ?_); intro v5 w5 hown5 hg5 hob5)
      have O5 : Hid (w5.ownsRow w.heap.size 9 1 v5 (ws ++ termsE y).length ((ws ++ termsE y).map .string)) := Lib.hid (by rw [List.length_append, List.map_append]; exact hown5)
      have G5 : Hid (w.grownBy w5 none) := Lib.hid (only_own G3.out hg5 O3.out (Nat.le_refl _))
      clear hown5 hg5 hob5
      go_wp2_with fail
      go_roundw
      case rel => exact ⟨k + 1, ws ++ termsE y, by go_num, by omega, Lib.hid (by rw [HS1.out, HK.out]), O5.out, G5.out⟩
      case measure => simp [intOf]; omega
    · have i1 : ¬ (k : Int) < (es.length : Int) := by omega
      obtain ⟨AO, cO, hv, h1, h2, -, h3⟩ := Rd.of_own OO.out (by decide)
      have HE : Hid (ds = dist ws) := Lib.hid (by have h := HK.out; rw [List.take_of_length_le (by omega)] at h; rw [HD.out, h])
      have KD := Lib.hid (dist_new AO ws cO wr h3 (by omega) h1 h2)
      rw [← HE.out] at KD
      rw [hv]
      clear hv h1 h2 h3 OO
      go_wp2_with fail
      refine KD.out.mono ?_
      rintro e w3 ⟨AD, cD, rfl, d1, d2, d3, hg3⟩
      have KB := fbuild_any AD ds cD w3 d3 (by have := HDL.out; omega) HTZ.out
      rw [← HNS.out] at KB
      have KB := Lib.hid KB
      have G3 := Lib.hid (only_trans G.out hg3)
      clear d1 d2 d3 hg3 KD
      go_wp2_with fail
      refine KB.out.mono ?_
      rintro e w4 ⟨g, rfl, hg4, hB4, hG4⟩
      have G4 := Lib.hid (only_trans G3.out hG4)
      have B4 := Lib.hid hB4
      clear hB4 hG4 KB hg4
      go_wp2_with fail
      have KE := fencode_any (some ⟨g, 0, none⟩) n n hn1 hn2 (bitsN n ds) (bitsN_len n ds)
      obtain ⟨W5, hW5⟩ : ∃ W, W = w4.alloc (.cells #[.int .i64 3, .slice (some ⟨g, 0, none⟩) n n] 143) := ⟨_, rfl⟩
      have hg5 : w4.grownBy W5 none := by rw [hW5]; exact only_alloc (only_refl _ _) _
      rw [← hW5]
      clear hW5
      have B5 := B4.out.grown hg5 (by simp)
      refine (KE W5 (fun _ => ⟨g, 0, rfl, trivial, B5.lt, fun j u hu => by
        rw [Nat.zero_add, B5.cell j]
        simpa [cellsU] using hu⟩)).mono ?_
      rintro e w6 ⟨v6, rfl, hB6, hG6⟩
      have B6 := Lib.hid hB6
      have G6 := Lib.hid (only_trans G4.out (only_trans hg5 hG6))
      have hz6 := (only_trans G4.out hg5).size
      clear hB6 hG6 KE B5 hg5
      go_wp2_with fail
      go_ret
      rw [HX.out]
      exact ⟨v6, rfl, B6.out.base hz6, G6.out⟩
set_option maxHeartbeats 4000000 in
set_option maxRecDepth 100000 in
theorem section_lin {S : Nat → Prop} (A : Option Addr) (es : List Ev) (c : Nat) (w : World) (hev : Evs S w A es) (hel : es.length ≤ 40) (hs : ∀ e ∈ es, EvL e) :
    Calls Tryz.prog 44 #[.slice A es.length c, .int .i64 9] w (NewB w (linesX es)) := by
  have K := Lib.hid (lines_any A es c w hev hel hs)
  clear hev hs
  go_enter Tryz.func44, Tryz.ntmps44
  go_wp2_with fail
  refine K.out.mono ?_
  rintro e w5 ⟨v5, rfl, hB5, hG5⟩
  have B5 := Lib.hid hB5
  have G5 := Lib.hid hG5
  clear hB5 hG5 K
  go_wp2_with fail
  go_ret
  exact ⟨v5, rfl, B5.out, G5.out⟩
set_option maxHeartbeats 4000000 in
set_option maxRecDepth 100000 in
theorem section_wds {S : Nat → Prop} (A : Option Addr) (es : List Ev) (c : Nat) (w : World) (hev : Evs S w A es) (hel : es.length ≤ 40) (hs : ∀ e ∈ es, EvS e) :
    Calls Tryz.prog 44 #[.slice A es.length c, .int .i64 11] w (NewB w (indexX es)) := by
  have K := Lib.hid (index_any A es c w hev hel hs)
  clear hev hs
  go_enter Tryz.func44, Tryz.ntmps44
  go_wp2_with fail
  refine K.out.mono ?_
  rintro e w5 ⟨v5, rfl, hB5, hG5⟩
  have B5 := Lib.hid hB5
  have G5 := Lib.hid hG5
  clear hB5 hG5 K
  go_wp2_with fail
  go_ret
  exact ⟨v5, rfl, B5.out, G5.out⟩
set_option maxHeartbeats 4000000 in
set_option maxRecDepth 100000 in
theorem section_fil {S : Nat → Prop} (A : Option Addr) (es : List Ev) (c : Nat) (w : World) (hev : Evs S w A es) (hel : es.length ≤ 40) (hs : ∀ e ∈ es, EvS e) :
    Calls Tryz.prog 44 #[.slice A es.length c, .int .i64 12] w (NewB w (filX es)) := by
  have K := Lib.hid (filter_any A es c w hev hel hs)
  clear hev hs
  go_enter Tryz.func44, Tryz.ntmps44
  go_wp2_with fail
  refine K.out.mono ?_
  rintro e w5 ⟨v5, rfl, hB5, hG5⟩
  have B5 := Lib.hid hB5
  have G5 := Lib.hid hG5
  clear hB5 hG5 K
  go_wp2_with fail
  go_ret
  exact ⟨v5, rfl, B5.out, G5.out⟩
end Go.Proofs.YtodaabofpkafjaaGreat
