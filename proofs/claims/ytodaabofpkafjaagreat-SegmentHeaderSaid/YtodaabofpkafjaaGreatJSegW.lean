/- Words, names of events: the reference of chapter 27. Conditions: sizes. -/
import Derived.Test.YtodaabofpkafjaaGreatJRIdx
import Derived.Test.YtodaabofpkafjaaGreatJRTermsJ
import Derived.Test.YtodaabofpkafjaaGreatJFiles
import Derived.Test.YtodaabofpkafjaaGreatJNatB
import Derived.Deep.DeepCutAuto
namespace Go.Proofs.YtodaabofpkafjaaGreat
open Go.RowKit
set_option linter.unusedVariables false
set_option linter.unusedSimpArgs false

/-- a new slice of strings -/
def NewS (w : World) (ws : List ByteArray) (e : Ending) (w' : World) : Prop := ∃ A c, e = .returned (.slice A ws.length c) ∧ ws.length ≤ c ∧ c ≤ maxLen ∧ Rd (w.heap.size ≤ ·) w' A (ws.map .string) ∧ w.grownBy w' none
theorem str_onesG {l : List ByteArray} : ∀ u ∈ l.map Value.string, u.oneCell' = true := by
  intro u hu
  obtain ⟨s, -, rfl⟩ := List.mem_map.1 hu
  rfl
theorem dist_new {S : Nat → Prop} (A : Option Addr) (ws : List ByteArray) (c : Nat) (w : World) (h : Rd S w A (ws.map .string)) (hl : ws.length ≤ 1000000) (hc : ws.length ≤ c) (hm : c ≤ maxLen) :
    Calls Tryz.prog 31 #[.slice A ws.length c] w (NewS w (dist ws)) :=
  (distinct_post A ws c w h hl hc hm).mono (by
    rintro e w' ⟨A', c', ds, rfl, h1, h2, h3, h4, h5, h6, h7⟩
    obtain rfl : ds = dist ws := srt_ext h3 (dist_srt ws) (fun s => by rw [h4, dist_mem])
    exact ⟨A', c', rfl, h1, h2, h6, h7⟩)
theorem dist_len' (ws : List ByteArray) : (dist ws).length ≤ ws.length := by
  have := dist_len ws
  exact this
/-- events whose texts and fields are small -/
def EvS (e : Ev) : Prop := e.lines.length ≤ 3 ∧ (∀ l ∈ e.lines, l.text.size ≤ 59) ∧ (textOf e.lines).size ≤ 180 ∧ e.fields.length ≤ 4 ∧ (∀ f ∈ e.fields, f.name.size ≤ 20 ∧ f.value.size ≤ 20) ∧ e.trace.size ≤ 10 ∧ e.stream.size ≤ 10
def wordsE (e : Ev) : List ByteArray := dist (rawW (bts (textOf e.lines)))
theorem wordsE_len {e : Ev} (h : EvS e) : (wordsE e).length ≤ 181 := by
  have h1 := dist_len' (rawW (bts (textOf e.lines)))
  have h2 := rawW_len (bts (textOf e.lines))
  rw [bts_length] at h2
  have := h.2.2.1
  unfold wordsE
  omega
def wordsX (es : List Ev) : List ByteArray := dist (es.flatMap wordsE)
def namesE (e : Ev) : List ByteArray := e.fields.map FieldD.name
def namesX (es : List Ev) : List ByteArray := dist (es.flatMap namesE)
theorem flat_le {α β : Type} (f : α → List β) (m : Nat) : ∀ l : List α, (∀ x ∈ l, (f x).length ≤ m) → (l.flatMap f).length ≤ l.length * m
  | [], _ => by simp
  | x :: l, h => by
    rw [List.flatMap_cons, List.length_append, List.length_cons, Nat.succ_mul]
    have h1 := h x (List.mem_cons_self ..)
    have h2 := flat_le f m l (fun y hy => h y (List.mem_cons_of_mem _ hy))
    omega
theorem flat_snoc {α β : Type} (f : α → List β) {l : List α} {k : Nat} {y : α} (hy : l[k]? = some y) : (l.take (k + 1)).flatMap f = (l.take k).flatMap f ++ f y := by
  obtain ⟨h1, e⟩ := List.getElem?_eq_some_iff.1 hy
  rw [List.take_succ_eq_append_getElem h1, e, List.flatMap_append]
  simp
theorem wE_any {S : Nat → Prop} (e : Ev) (w : World) (hs : e.Sub S w) (he : EvS e) : Calls Tryz.prog 30 #[.agg e.cells.toArray] w (TextP w (textOf e.lines)) :=
  rtext_any e w hs (by have := he.1; omega) (fun l hl => by have := he.2.1 l hl; omega)
theorem wW_any (e : Ev) (w : World) (he : EvS e) : Calls Tryz.prog 11 #[.string (textOf e.lines)] w (NewS w (wordsE e)) :=
  (rwords_any _ w (by have := he.2.2.1; omega)).mono (by
    rintro e' w' ⟨A', c', ds, rfl, h1, h2, h3, h4, h5, h6, h7⟩
    obtain rfl : ds = wordsE e := srt_ext h3 (dist_srt _) (fun s => by rw [h4]; unfold wordsE; rw [dist_mem])
    exact ⟨A', c', rfl, h1, h2, h6, h7⟩)
set_option maxHeartbeats 8000000 in
set_option maxRecDepth 100000 in
theorem words_any {S : Nat → Prop} (A : Option Addr) (es : List Ev) (c : Nat) (w : World) (hev : Evs S w A es) (hel : es.length ≤ 2000) (hs : ∀ e ∈ es, EvS e) :
    Calls Tryz.prog 53 #[.slice A es.length c] w (NewS w (wordsX es)) := by
  have HEV := Lib.hid hev
  have HS := Lib.hid hs
  have HL : Hid (∀ k, ((es.take k).flatMap wordsE).length ≤ 400000) := Lib.hid (fun k => by
    have h1 := flat_le wordsE 181 (es.take k) (fun e he => wordsE_len (hs e (List.mem_of_mem_take he)))
    rw [List.length_take] at h1
    have h2 : min k es.length * 181 ≤ 2000 * 181 := Nat.mul_le_mul (by omega) (Nat.le_refl _)
    omega)
  have KT : Hid (∀ (e : Ev) (w' : World), e ∈ es → w.grownBy w' none → Calls Tryz.prog 30 #[.agg e.cells.toArray] w' (TextP w' (textOf e.lines))) := Lib.hid (fun e w' he hg => wE_any e w' ((hev.2 e he).grown hg (by simp)) (hs e he))
  have KW : Hid (∀ (e : Ev) (w' : World), e ∈ es → Calls Tryz.prog 11 #[.string (textOf e.lines)] w' (NewS w' (wordsE e))) := Lib.hid (fun e w' he => wW_any e w' (hs e he))
  have HSN : Hid (∀ (k : Nat) (y : Ev), es[k]? = some y → (es.take (k + 1)).flatMap wordsE = (es.take k).flatMap wordsE ++ wordsE y) := Lib.hid (fun k y hy => flat_snoc wordsE hy)
  have HX : Hid (wordsX es = dist (es.flatMap wordsE)) := Lib.hid rfl
  obtain ⟨R, hR⟩ : ∃ r, r = wordsX es := ⟨_, rfl⟩
  rw [← hR] at HX ⊢
  clear hev hs hR
  go_enter Tryz.func53, Tryz.ntmps53
  go_wp2_with fail
  go_loopw [3, 4] (fun v vi wr => ∃ (k : Nat) (ws : List ByteArray), vi = .int .i64 k ∧ k ≤ es.length ∧ Hid ((es.take k).flatMap wordsE = ws) ∧ wr.ownsRow w.heap.size 9 1 v ws.length (ws.map .string) ∧ w.grownBy wr none) (fun _ vi _ => es.length - (intOf vi).toNat)
  case atStart => exact ⟨0, [], rfl, Nat.zero_le _, Lib.hid rfl, World.ownsRow_nil _ _ _ _, only_refl _ _⟩
  case round =>
    obtain ⟨k, ws, rfl, hk, HK, hO, hG⟩ := hrel
    have OO := Lib.hid hO
    have G := Lib.hid hG
    have hbase : w.heap.size ≤ wr.heap.size := hG.size
    have hwl : ws.length ≤ 400000 := by rw [← HK.out]; exact HL.out k
    obtain ⟨vO, hvOd⟩ : ∃ v, v = u3 := ⟨_, rfl⟩
    rw [← hvOd] at OO ⊢
    clear hO hG hvOd
    by_cases hlt : k < es.length
    · obtain ⟨y, hy⟩ : ∃ y, es[k]? = some y := ⟨_, List.getElem?_eq_getElem hlt⟩
      obtain ⟨kb, ko, eE, hkw, z0, z1, z2, z3, z4, z5, z6, z7, z8, z9⟩ := ev_in (HEV.out.1.grown G.out (by simp)) hy
      subst eE
      have K1 := Lib.hid (KT.out y wr (List.mem_of_getElem? hy) G.out)
      have K2 := Lib.hid (fun w' => KW.out y w' (List.mem_of_getElem? hy))
      have hycl : y.cells.toArray = #[.int .i64 y.host, .int .i64 y.file, .int .i64 y.beg, .int .i64 y.fin, .slice y.la y.lines.length y.lc, .int .i64 y.time, .int .i64 y.weight, .string y.trace, .string y.stream, .slice y.fa y.fields.length y.fc] := rfl
      rw [hycl] at K1
      have HS1 := Lib.hid (HSN.out k y hy)
      have hyl : (wordsE y).length ≤ 181 := wordsE_len (HS.out y (List.mem_of_getElem? hy))
      have i1 : (k : Int) < (es.length : Int) := by omega
      clear hy hycl
      go_wp2_with fail
      refine K1.out.mono ?_
      rintro e w2 ⟨rfl, hg2⟩
      have G2 := Lib.hid (only_trans G.out hg2)
      have O2 := Lib.hid (own_ext OO.out hg2)
      clear hg2
      go_wp2_with fail
      refine (K2.out w2).mono ?_
      rintro e w3 ⟨AW, cW, rfl, h1, h2, h3, hg3⟩
      have G3 := Lib.hid (only_trans G2.out hg3)
      have O3 := Lib.hid (own_ext O2.out hg3)
      have R3 := Lib.hid h3
      have hb3 : w.heap.size ≤ w3.heap.size := G3.out.size
      clear h1 h2 h3 hg3 z0 z1 z2 z3 z4 z5 z6 z7 z8 z9
      go_wp2_with (at_builtin; go_must (refine wpList_appendN rfl _ _ 29 rfl w.heap.size Tryz.underlying29 strInfo rfl (by decide) (v := vO) (by rfl) O3.out AW (wordsE y).length cW (by rfl) R3.out (by simp) str_onesG (by decide) (by omega) (by omega) ?_); intro v5 w5 hown5 hg5 hob5)
      have O5 : Hid (w5.ownsRow w.heap.size 9 1 v5 (ws ++ wordsE y).length ((ws ++ wordsE y).map .string)) := Lib.hid (by rw [List.length_append, List.map_append]; exact hown5)
      have G5 : Hid (w.grownBy w5 none) := Lib.hid (only_own G3.out hg5 O3.out (Nat.le_refl _))
      clear hown5 hg5 hob5
      go_wp2_with fail
      go_roundw
      case rel => exact ⟨k + 1, ws ++ wordsE y, by go_num, by omega, Lib.hid (by rw [HS1.out, HK.out]), O5.out, G5.out⟩
      case measure => simp [intOf]; omega
    · have i1 : ¬ (k : Int) < (es.length : Int) := by omega
      obtain ⟨AO, cO, hv, h1, h2, -, h3⟩ := Rd.of_own OO.out (by decide)
      have HE : Hid (R = dist ws) := Lib.hid (by have h := HK.out; rw [List.take_of_length_le (by omega)] at h; rw [HX.out, h])
      have KD := Lib.hid (dist_new AO ws cO wr h3 (by omega) h1 h2)
      rw [hv]
      clear hv h1 h2 h3 OO
      go_wp2_with fail
      refine KD.out.mono ?_
      rintro e w3 ⟨AD, cD, rfl, d1, d2, d3, hg3⟩
      have D3 := Lib.hid (d3.mono (S' := (w.heap.size ≤ ·)) (fun b hb _ => Nat.le_trans hbase hb))
      have D12 := Lib.hid (And.intro d1 d2)
      have G3 := Lib.hid (only_trans G.out hg3)
      clear d1 d2 d3 hg3
      go_wp2_with fail
      go_ret
      rw [HE.out]
      exact ⟨AD, cD, rfl, D12.out.1, D12.out.2, D3.out, G3.out⟩
set_option maxHeartbeats 8000000 in
set_option maxRecDepth 100000 in
theorem names_any {S : Nat → Prop} (A : Option Addr) (es : List Ev) (c : Nat) (w : World) (hev : Evs S w A es) (hel : es.length ≤ 2000) (hs : ∀ e ∈ es, EvS e) :
    Calls Tryz.prog 54 #[.slice A es.length c] w (NewS w (namesX es)) := by
  have HEV := Lib.hid hev
  have HS := Lib.hid hs
  have HL : Hid (∀ k, ((es.take k).flatMap namesE).length ≤ 8000) := Lib.hid (fun k => by
    have h1 := flat_le namesE 4 (es.take k) (fun e he => by unfold namesE; rw [List.length_map]; exact (hs e (List.mem_of_mem_take he)).2.2.2.1)
    rw [List.length_take] at h1
    have h2 : min k es.length * 4 ≤ 2000 * 4 := Nat.mul_le_mul (by omega) (Nat.le_refl _)
    omega)
  have HSN : Hid (∀ (k : Nat) (y : Ev), es[k]? = some y → (es.take (k + 1)).flatMap namesE = (es.take k).flatMap namesE ++ namesE y) := Lib.hid (fun k y hy => flat_snoc namesE hy)
  have HX : Hid (namesX es = dist (es.flatMap namesE)) := Lib.hid rfl
  obtain ⟨R, hR⟩ : ∃ r, r = namesX es := ⟨_, rfl⟩
  rw [← hR] at HX ⊢
  clear hev hs hR
  go_enter Tryz.func54, Tryz.ntmps54
  go_wp2_with fail
  go_loopw [3, 4] (fun v vi wr => ∃ (k : Nat) (ws : List ByteArray), vi = .int .i64 k ∧ k ≤ es.length ∧ Hid ((es.take k).flatMap namesE = ws) ∧ wr.ownsRow w.heap.size 9 1 v ws.length (ws.map .string) ∧ w.grownBy wr none) (fun _ vi _ => es.length - (intOf vi).toNat)
  case atStart => exact ⟨0, [], rfl, Nat.zero_le _, Lib.hid rfl, World.ownsRow_nil _ _ _ _, only_refl _ _⟩
  case round =>
    obtain ⟨k, ws, rfl, hk, HK, hO, hG⟩ := hrel
    have OO := Lib.hid hO
    have G := Lib.hid hG
    have hbase : w.heap.size ≤ wr.heap.size := hG.size
    have hwl : ws.length ≤ 8000 := by rw [← HK.out]; exact HL.out k
    obtain ⟨vO, hvOd⟩ : ∃ v, v = u3 := ⟨_, rfl⟩
    rw [← hvOd] at OO ⊢
    clear hO hG hvOd
    by_cases hlt : k < es.length
    · obtain ⟨y, hy⟩ : ∃ y, es[k]? = some y := ⟨_, List.getElem?_eq_getElem hlt⟩
      have HY := Lib.hid hy
      obtain ⟨kb, ko, eE, -⟩ := ev_in (HEV.out.1.grown G.out (by simp)) hy
      subst eE
      have HS1 := Lib.hid (HSN.out k y hy)
      have hfl : y.fields.length ≤ 4 := (HS.out y (List.mem_of_getElem? hy)).2.2.2.1
      have HFR := Lib.hid ((HEV.out.2 y (List.mem_of_getElem? hy)).2.1)
      have i1 : (k : Int) < (es.length : Int) := by omega
      clear hy
      go_wp2_with fail
      obtain ⟨wo, rfl⟩ : ∃ wo : World, wo = wr := ⟨_, rfl⟩
      go_loopw [3, 5] (fun v vj wr => ∃ (j : Nat), vj = .int .i64 j ∧ j ≤ y.fields.length ∧ wr.ownsRow w.heap.size 9 1 v (ws ++ (namesE y).take j).length ((ws ++ (namesE y).take j).map .string) ∧ w.grownBy wr none) (fun _ vj _ => y.fields.length - (intOf vj).toNat)
      case atStart => exact ⟨0, rfl, Nat.zero_le _, by simpa using OO.out, G.out⟩
      case round =>
        obtain ⟨j, rfl, hj, hO2, hG2⟩ := hrel
        have O2 := Lib.hid hO2
        have G2 := Lib.hid hG2
        have hbase2 : w.heap.size ≤ wr.heap.size := hG2.size
        have hzl : (ws ++ (namesE y).take j).length ≤ 8010 := by simp [namesE]; omega
        obtain ⟨kb', ko', eE', hkw, -, -, -, -, -, -, -, -, -, z9⟩ := ev_in (HEV.out.1.grown G2.out (by simp)) HY.out
        injection eE' with eE'
        injection eE' with e1 e2
        subst e1 e2
        obtain ⟨vQ, hvQd⟩ : ∃ v, v = u3 := ⟨_, rfl⟩
        rw [← hvQd] at O2 ⊢
        clear hO2 hG2 hvQd OO G
        by_cases hlt2 : j < y.fields.length
        · obtain ⟨f, hf⟩ : ∃ f, y.fields[j]? = some f := ⟨_, List.getElem?_eq_getElem hlt2⟩
          obtain ⟨fb, fo, eF, hfw, f0, f1⟩ := fld_in (HFR.out.grown G2.out (by simp)) hf
          rw [eF] at z9
          have HNX : Hid (ws ++ (namesE y).take (j + 1) = (ws ++ (namesE y).take j) ++ [f.name]) := Lib.hid (by
            have h1 : (namesE y)[j]? = some f.name := by unfold namesE; rw [List.getElem?_map, hf]; rfl
            obtain ⟨h2, h3⟩ := List.getElem?_eq_some_iff.1 h1
            rw [List.take_succ_eq_append_getElem h2, h3, List.append_assoc])
          have i2 : (j : Int) < (y.fields.length : Int) := by omega
          obtain ⟨zs, hzs⟩ : ∃ z, z = ws ++ (namesE y).take j := ⟨_, rfl⟩
          rw [← hzs] at O2 HNX hzl
          clear hf eF hzs
          go_wp2_with (at_builtin; go_must (refine wpList_append1 rfl _ _ 29 rfl w.heap.size Tryz.underlying29 strInfo rfl (by decide) (v := vQ) (by rfl) (w0 := wr) (cs := #[.string f.name]) O2.out (by rfl) rfl (by simp [Value.oneCell']) (by decide) (by omega) (by omega) ?_); intro v5 w5 hown5 hg5 hob5)
          have O5 : Hid (w5.ownsRow w.heap.size 9 1 v5 (zs ++ [f.name]).length ((zs ++ [f.name]).map .string)) := Lib.hid (by rw [List.length_append, List.map_append]; exact hown5)
          have G5 : Hid (w.grownBy w5 none) := Lib.hid (only_own G2.out hg5 O2.out (Nat.le_refl _))
          clear hown5 hg5 hob5 z9 f0 f1
          go_wp2_with fail
          go_roundw
          case rel => exact ⟨j + 1, by go_num, by omega, by rw [HNX.out]; exact O5.out, G5.out⟩
          case measure => simp [intOf]; omega
        · have i2 : ¬ (j : Int) < (y.fields.length : Int) := by omega
          have HT : Hid ((namesE y).take j = namesE y) := Lib.hid (List.take_of_length_le (by unfold namesE; rw [List.length_map]; omega))
          rw [HT.out] at O2
          go_wp2_with fail
          go_roundw
          case rel => exact ⟨k + 1, ws ++ namesE y, by go_num, by omega, Lib.hid (by rw [HS1.out, HK.out]), O2.out, G2.out⟩
          case measure => simp [intOf]; omega
    · have i1 : ¬ (k : Int) < (es.length : Int) := by omega
      obtain ⟨AO, cO, hv, h1, h2, -, h3⟩ := Rd.of_own OO.out (by decide)
      have HE : Hid (R = dist ws) := Lib.hid (by have h := HK.out; rw [List.take_of_length_le (by omega)] at h; rw [HX.out, h])
      have KD := Lib.hid (dist_new AO ws cO wr h3 (by omega) h1 h2)
      rw [hv]
      clear hv h1 h2 h3 OO
      go_wp2_with fail
      refine KD.out.mono ?_
      rintro e w3 ⟨AD, cD, rfl, d1, d2, d3, hg3⟩
      have D3 := Lib.hid (d3.mono (S' := (w.heap.size ≤ ·)) (fun b hb _ => Nat.le_trans hbase hb))
      have D12 := Lib.hid (And.intro d1 d2)
      have G3 := Lib.hid (only_trans G.out hg3)
      clear d1 d2 d3 hg3
      go_wp2_with fail
      go_ret
      rw [HE.out]
      exact ⟨AD, cD, rfl, D12.out.1, D12.out.2, D3.out, G3.out⟩
end Go.Proofs.YtodaabofpkafjaaGreat

namespace Go.Proofs.YtodaabofpkafjaaGreat
open Go.RowKit
set_option linter.unusedVariables false
set_option linter.unusedSimpArgs false

def getF : List FieldD → ByteArray → Option ByteArray
  | [], _ => none
  | f :: fs, nm => if f.name = nm then some f.value else getF fs nm
def valV : Option ByteArray → Value
  | some s => .tuple #[.string s, .bool true]
  | none => .tuple #[.string ⟨#[]⟩, .bool false]
def ValP (w : World) (o : Option ByteArray) (e : Ending) (w' : World) : Prop := e = .returned (valV o) ∧ w.grownBy w' none
theorem str_ne {a b : ByteArray} (h : a ≠ b) : (a.toList == b.toList) = false := by
  rw [beq_eq_false_iff_ne]; exact fun e => h (toList_inj e)
set_option maxHeartbeats 4000000 in
set_option maxRecDepth 100000 in
/-- the value of a name -/
theorem rget_any {S : Nat → Prop} (fa : Option Addr) (fields : List FieldD) (fc : Nat) (nm : ByteArray) (w : World) (hr : Rd S w fa (fields.flatMap FieldD.cells)) (hl : fields.length ≤ 1000000) :
    Calls Tryz.prog 107 #[.slice fa fields.length fc, .string nm] w (ValP w (getF fields nm)) := by
  have HR := Lib.hid hr
  clear hr
  go_enter Tryz.func107, Tryz.ntmps107
  go_wp2_with fail
  go_loopw [6] (fun i wr => ∃ k : Nat, i = .int .i64 k ∧ k ≤ fields.length ∧ Hid (getF fields nm = getF (fields.drop k) nm) ∧ w.grownBy wr none) (fun i _ => fields.length - (intOf i).toNat)
  case atStart => exact ⟨0, rfl, Nat.zero_le _, Lib.hid rfl, only_refl _ _⟩
  case round =>
    obtain ⟨k, rfl, hk, HN, hG⟩ := hrel
    have G := Lib.hid hG
    clear hG
    by_cases hlt : k < fields.length
    · obtain ⟨y, hy⟩ : ∃ y, fields[k]? = some y := ⟨_, List.getElem?_eq_getElem hlt⟩
      obtain ⟨kb, ko, rfl, hkw, z0, z1⟩ := fld_in (HR.out.grown G.out (by simp)) hy
      have hd : fields.drop k = y :: fields.drop (k + 1) := by
        rw [List.getElem?_eq_getElem hlt] at hy
        injection hy with hy
        rw [← List.getElem_cons_drop hlt, hy]
      have i1 : (k : Int) < (fields.length : Int) := by omega
      by_cases he : y.name = nm
      · have q1 : (y.name.toList == nm.toList) = true := by rw [he]; simp
        have HV : Hid (getF fields nm = some y.value) := Lib.hid (by rw [HN.out, hd, getF, if_pos he])
        clear hy hd he
        go_wp2_with fail
        rw [HV.out]
        exact bodyPost_ret (v := valV (some y.value)) (by simp [results, Tryz.results107, go_sem, valV]) rfl ⟨rfl, G.out⟩
      · have q1 : (y.name.toList == nm.toList) = false := str_ne he
        have HV : Hid (getF fields nm = getF (fields.drop (k + 1)) nm) := Lib.hid (by rw [HN.out, hd, getF, if_neg he])
        clear hy hd he
        go_wp2_with fail
        go_roundw
        case rel => exact ⟨k + 1, by go_num, by omega, HV, G.out⟩
        case measure => simp [intOf]; omega
    · have i1 : ¬ (k : Int) < (fields.length : Int) := by omega
      have HV : Hid (getF fields nm = none) := Lib.hid (by rw [HN.out, List.drop_eq_nil_of_le (by omega)]; rfl)
      go_wp2_with fail
      rw [HV.out]
      exact bodyPost_ret (v := valV none) (by simp [results, Tryz.results107, go_sem, valV]) rfl ⟨rfl, G.out⟩
end Go.Proofs.YtodaabofpkafjaaGreat

namespace Go.Proofs.YtodaabofpkafjaaGreat
open Go.RowKit
set_option linter.unusedVariables false
set_option linter.unusedSimpArgs false

theorem colX_len {vs : List Int} (h : ∀ x ∈ vs, I64 x) (hl : vs.length ≤ 16384) : (colX vs).length ≤ 10 * vs.length + 11 := by
  have h0 : (colB 0 vs).length ≤ 10 * vs.length + 11 := by
    unfold colB
    split
    · have h1 := genTo_len (plF vs) 10 (plF_len h) vs.length
      have h2 := vint_len10 (n := vs.length) (by omega)
      have h3 : bodyB 0 vs = genTo (plF vs) vs.length := if_pos rfl
      rw [h3, List.length_append, List.length_append, List.length_singleton]
      omega
    · simp
  have key : ∀ k : Nat, 1 ≤ k → (bestTo vs k).length ≤ (colB 0 vs).length := by
    intro k
    induction k with
    | zero => intro h; omega
    | succ k ih =>
      intro _
      by_cases hk : k = 0
      · subst hk; exact Nat.le_refl _
      · rw [best_step vs (by omega)]
        have h1 := ih (by omega)
        unfold sh
        split <;> omega
  exact Nat.le_trans (key 4 (by omega)) h0
theorem NewB.row {w w' : World} {xs : List Int} {e : Ending} (h : NewB w xs e w') : ∃ A c, e = .returned (.slice A xs.length c) ∧ xs.length ≤ c ∧ c ≤ maxLen ∧ Rd (w.heap.size ≤ ·) w' A (xs.map (.int .u8)) ∧ w.grownBy w' none := by
  obtain ⟨v, rfl, hB, hG⟩ := h
  obtain ⟨A, c, rfl, h1, h2, -, h3⟩ := Rd.of_own hB (by decide)
  exact ⟨A, c, rfl, h1, h2, h3, hG⟩
theorem intInfoS : (Tryz.prog.info? 3).map (fun i => (i.zero, i.size, i.bytes)) = some (some (.int .i64 0), 1, 8) := by kernel_rfl
theorem dist_sz {ws : List ByteArray} {m : Nat} (h : ∀ x ∈ ws, x.size ≤ m) : ∀ x ∈ dist ws, x.size ≤ m := fun x hx => h x ((dist_mem ws x).1 hx)
theorem dicX_len {ds : List ByteArray} (h : ∀ x ∈ ds, x.size ≤ 250) (hl : ds.length ≤ 8000) : (dicX ds).length ≤ 2100000 := encR_len2 h hl
theorem blkP_len {b : List Int} (h : b.length < 18446744073709551616) : (blkP b).length ≤ b.length + 10 := by
  have := vint_len10 h
  unfold blkP
  rw [List.length_append]
  omega
set_option maxHeartbeats 8000000 in
set_option maxRecDepth 100000 in
theorem indexed_any {S : Nat → Prop} (A : Option Addr) (os : List ByteArray) (c : Nat) (w : World) (hr : Rd S w A (os.map .string)) (hl : os.length ≤ 8000) (hsz : ∀ x ∈ os, x.size ≤ 250) (hc : os.length ≤ c) (hm : c ≤ maxLen) :
    Calls Tryz.prog 55 #[.slice A os.length c] w (NewB w (idxX os)) := by
  have HR := Lib.hid hr
  have KD := Lib.hid (dist_new A os c w hr (by omega) hc hm)
  have HDZ := Lib.hid (dist_sz hsz)
  have hdl : (dist os).length ≤ os.length := dist_len' os
  have HXL := Lib.hid (fun t => ixOf_le (dist os) t)
  have HX : Hid (idxX os = blkP (dicX (dist os)) ++ blkP (colX (os.map (fun t => (ixOf (dist os) t : Int))))) := Lib.hid rfl
  have HDL := Lib.hid (dicX_len (dist_sz hsz) (show (dist os).length ≤ 8000 by omega))
  obtain ⟨R, hR⟩ : ∃ r, r = idxX os := ⟨_, rfl⟩
  obtain ⟨ds, hds⟩ : ∃ r, r = dist os := ⟨_, rfl⟩
  rw [← hR, ← hds] at HX
  rw [← hds] at KD HDZ hdl HXL HDL
  rw [← hR]
  clear hr hR hds hsz hc hm
  go_enter Tryz.func55, Tryz.ntmps55
  go_wp2_with fail
  refine KD.out.mono ?_
  rintro e w1 ⟨AD, cD, rfl, d1, d2, d3, hg1⟩
  have G1 := Lib.hid hg1
  have RD := Lib.hid (d3.mono (S' := fun b => w.heap.size ≤ b ∧ b < w1.heap.size) (fun b h1 h2 => ⟨h1, h2⟩))
  have R1 := Lib.hid (HR.out.grown hg1 (by simp))
  have hz1 := hg1.size
  clear d1 d2 d3 hg1 KD
  go_wp2_with fail
  go_loopw [4, 5] (fun v vi wr => ∃ (k : Nat), vi = .int .i64 k ∧ k ≤ os.length ∧ wr.ownsRow w1.heap.size 3 1 v k (((os.take k).map (fun t => (ixOf ds t : Int))).map (.int .i64)) ∧ w1.grownBy wr none) (fun _ vi _ => os.length - (intOf vi).toNat)
  case atStart => exact ⟨0, rfl, Nat.zero_le _, by simpa using World.ownsRow_nil _ _ _ _, only_refl _ _⟩
  case round =>
    obtain ⟨k, rfl, hk, hO, hG⟩ := hrel
    have OO := Lib.hid hO
    have G := Lib.hid hG
    have hbase : w1.heap.size ≤ wr.heap.size := hG.size
    obtain ⟨vO, hvOd⟩ : ∃ v, v = u4 := ⟨_, rfl⟩
    rw [← hvOd] at OO ⊢
    clear hO hG hvOd
    by_cases hlt : k < os.length
    · obtain ⟨b, off, x, rfl, hc, hx⟩ := (R1.out.grown G.out (by simp)).str_at hlt
      have HSN : Hid ((os.take (k + 1)).map (fun t => (ixOf ds t : Int)) = (os.take k).map (fun t => (ixOf ds t : Int)) ++ [(ixOf ds x : Int)]) := Lib.hid (by
        have h9 := hx.out
        obtain ⟨h1, h2⟩ := List.getElem?_eq_some_iff.1 h9
        rw [List.take_succ_eq_append_getElem h1, h2, List.map_append]
        rfl)
      have KI := Lib.hid (rindex_any AD ds cD x wr (RD.out.grown G.out (by simp)) (by omega))
      have i1 : (k : Int) < (os.length : Int) := by omega
      clear hx
      go_wp2_with fail
      refine KI.out.mono ?_
      rintro e w2 ⟨rfl, nq, hw2⟩
      have O2 : Hid (w2.ownsRow w1.heap.size 3 1 vO k (((os.take k).map (fun t => (ixOf ds t : Int))).map (.int .i64))) := Lib.hid (by rw [hw2]; exact OO.out)
      have G2 : Hid (w1.grownBy w2 none) := Lib.hid (by rw [hw2]; exact only_drewN G.out nq)
      have hb2 := G2.out.size
      clear hw2 KI hc
      go_wp2_with (at_builtin; go_must (refine wpList_append1 rfl _ _ 47 rfl w1.heap.size Tryz.underlying47 intInfoS rfl (by decide) (v := vO) (by rfl) (w0 := w2) (cs := #[.int .i64 (ixOf ds x : Nat)]) O2.out (by rfl) rfl (by simp [Value.oneCell']) (by decide) (by omega) (by omega) ?_); intro v5 w5 hown5 hg5 hob5)
      have O5 : Hid (w5.ownsRow w1.heap.size 3 1 v5 (k + 1) (((os.take (k + 1)).map (fun t => (ixOf ds t : Int))).map (.int .i64))) := Lib.hid (by rw [HSN.out, List.map_append]; exact hown5)
      have G5 : Hid (w1.grownBy w5 none) := Lib.hid (only_own G2.out hg5 O2.out (Nat.le_refl _))
      clear hown5 hg5 hob5
      go_wp2_with fail
      go_roundw
      case rel => exact ⟨k + 1, by go_num, by omega, O5.out, G5.out⟩
      case measure => simp [intOf]; omega
    · have i1 : ¬ (k : Int) < (os.length : Int) := by omega
      obtain ⟨vs, hvs⟩ : ∃ vs, vs = os.map (fun t => (ixOf ds t : Int)) := ⟨_, rfl⟩
      have hvl : vs.length = os.length := by rw [hvs, List.length_map]
      have OV : Hid (wr.ownsRow w1.heap.size 3 1 vO vs.length (vs.map (.int .i64))) := Lib.hid (by
        have h := OO.out
        rw [List.take_of_length_le (by omega), ← hvs] at h
        obtain rfl : k = vs.length := by omega
        exact h)
      have HI : Hid (∀ x ∈ vs, I64 x) := Lib.hid (fun x hx => by
        rw [hvs] at hx
        obtain ⟨t, -, rfl⟩ := List.mem_map.1 hx
        have := HXL.out t
        unfold I64
        constructor <;> omega)
      have HE : Hid (R = blkP (dicX ds) ++ blkP (colX vs)) := Lib.hid (by rw [hvs]; exact HX.out)
      have hcl := colX_len HI.out (by omega)
      have hbl := blkP_len (b := dicX ds) (by have := HDL.out; omega)
      obtain ⟨AO, cO, hv, h1, h2, -, h3⟩ := Rd.of_own OV.out (by decide)
      have RO := Lib.hid (h3.mono (S' := fun b => w1.heap.size ≤ b ∧ b < wr.heap.size) (fun b h1 h2 => ⟨h1, h2⟩))
      have KDi := Lib.hid (dictionary_any AD ds cD wr (RD.out.grown G.out (by simp)) (by omega) HDZ.out)
      rw [hvl] at hv
      rw [hv]
      have HVL := Lib.hid hvl
      have hvl2 : vs.length ≤ 8000 := by omega
      clear hv h1 h2 h3 OO hvs HX OV hvl
      go_wp2_with fail
      refine KDi.out.mono ?_
      intro e w3 hN3
      obtain ⟨AB, cB, rfl, b1, b2, b3, hg3⟩ := hN3.row
      have G3 := Lib.hid (only_trans G.out hg3)
      have RO3 := Lib.hid (RO.out.grown hg3 (by simp))
      have B3 := Lib.hid b3
      have hz3 := G3.out.size
      clear b1 b2 b3 hg3 hN3 KDi
      go_wp2_with fail
      refine (putblock_any w1.heap.size _ [] AB (dicX ds) cB w3 (Byts.nil _ _) B3.out (by simp [Value.ownBlock]) (by simp) (by have := HDL.out; omega) hz3).mono ?_
      rintro e w4 ⟨v4, rfl, hB4, hO4⟩
      have B4 := Lib.hid hB4
      have G4 : Hid (w1.grownBy w4 none) := Byts.only (Byts.nil w1.heap.size w3) hO4 G3.out (Nat.le_refl _)
      have RO4 := Lib.hid (RO3.out.grown hO4.1 (by simp [Value.ownBlock]))
      have hz4 := G4.out.size
      clear hB4 hO4
      have KC := column_any AO vs cO w4 (RO4.out.mono (fun b _ _ => trivial)) (by omega) HI.out
      rw [HVL.out] at KC
      have KC := Lib.hid KC
      go_wp2_with fail
      refine KC.out.mono ?_
      intro e w5 hN5
      obtain ⟨AC, cC, rfl, b1, b2, b3, hg5⟩ := hN5.row
      have G5 := Lib.hid (only_trans G4.out hg5)
      have B5 := Lib.hid (own_ext B4.out hg5)
      have R5 := Lib.hid b3
      have hne5 : Hid (∀ b, w4.heap.size ≤ b → some b ≠ v4.ownBlock) := Lib.hid (fun b hb e => by have := (World.ownsRow.lt B4.out b e.symm).2; omega)
      have hz5 := G5.out.size
      clear b1 b2 b3 hg5 hN5 KC
      go_wp2_with fail
      refine (putblock_any w1.heap.size v4 ([] ++ blkP (dicX ds)) AC (colX vs) cC w5 B5.out R5.out hne5.out (by simp; have := HDL.out; omega) (by omega) hz5).mono ?_
      rintro e w6 ⟨v6, rfl, hB6, hO6⟩
      have B6 := Lib.hid hB6
      have G6 : Hid (w1.grownBy w6 none) := Byts.only B5.out hO6 G5.out (Nat.le_refl _)
      clear hB6 hO6
      go_wp2_with fail
      go_ret
      rw [HE.out]
      exact ⟨v6, rfl, B6.out.base hz1, only_trans G1.out G6.out⟩
end Go.Proofs.YtodaabofpkafjaaGreat
