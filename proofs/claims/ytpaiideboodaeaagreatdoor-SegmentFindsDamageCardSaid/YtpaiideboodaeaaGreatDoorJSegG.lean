/- fields: the reference of chapter 27. Conditions: sizes. -/
import Derived.Test.YtpaiideboodaeaaGreatDoorJSegI
import Derived.Test.YtpaiideboodaeaaGreatDoorJBase
namespace Go.Proofs.YtpaiideboodaeaaGreatDoor
open Go.RowKit
set_option linter.unusedVariables false
set_option linter.unusedSimpArgs false

theorem encR_len3 {ds : List ByteArray} (h : ∀ x ∈ ds, x.size ≤ 250) (hl : ds.length ≤ 8000) : (encR ds).length ≤ 3 + 256 * ds.length := by
  by_cases h2 : chk ds = 0
  · rw [encR_ok h2]; exact encTo_len2 h (by omega) ds.length
  · rw [encR_no h2]; simp
theorem idxX_len {os : List ByteArray} (h : ∀ x ∈ os, x.size ≤ 250) (hl : os.length ≤ 40) : (idxX os).length ≤ 11000 := by
  have hd := dist_len' os
  have h1 : (dicX (dist os)).length ≤ 3 + 256 * (dist os).length := encR_len3 (dist_sz h) (by omega)
  have h2 := blkP_len (b := dicX (dist os)) (by omega)
  have h3 : (colX (os.map (fun t => (ixOf (dist os) t : Int)))).length ≤ 10 * (os.map (fun t => (ixOf (dist os) t : Int))).length + 11 := colX_len (fun x hx => by
    obtain ⟨t, -, rfl⟩ := List.mem_map.1 hx
    have := ixOf_le (dist os) t
    unfold I64
    constructor <;> omega) (by rw [List.length_map]; omega)
  rw [List.length_map] at h3
  have h4 := blkP_len (b := colX (os.map (fun t => (ixOf (dist os) t : Int)))) (by omega)
  unfold idxX
  rw [List.length_append]
  omega
theorem postX_len2 (ds : List Int) (h : ∀ i, i < ds.length → 0 ≤ ds.getD i 0 ∧ ds.getD i 0 < 4096) (hl : ds.length ≤ 40) : (postX ds).length ≤ 690 := by
  have h1 := headP_len ds h (by omega) ((ds.length + 31) / 32) (by omega)
  have h2 := bodyP_len ds h ((ds.length + 31) / 32) (by omega)
  unfold postX
  rw [List.length_append]
  omega
theorem getF_mem : ∀ (fs : List FieldD) {nm v : ByteArray}, getF fs nm = some v → ∃ f ∈ fs, f.value = v
  | [], _, _, h => by cases h
  | f :: fs, nm, v, h => by
    unfold getF at h
    split at h
    · injection h with h; exact ⟨f, List.mem_cons_self .., h⟩
    · obtain ⟨g, h1, h2⟩ := getF_mem fs h
      exact ⟨g, List.mem_cons_of_mem _ h1, h2⟩
theorem valsTo_sz {es : List Ev} (hs : ∀ e ∈ es, EvS e) (nm : ByteArray) : ∀ k, ∀ x ∈ strV (valsTo es nm k), x.size ≤ 250
  | 0, x, h => by cases h
  | k + 1, x, h => by
    have ih := valsTo_sz hs nm k x
    unfold strV at h ih
    simp only [valsTo, List.map_append] at h
    rcases List.mem_append.1 h with h | h
    · exact ih h
    · split at h
      · rename_i e he
        split at h
        · rename_i v hv
          obtain ⟨f, h1, h2⟩ := getF_mem _ hv
          have h3 := ((hs e (List.mem_of_getElem? he)).2.2.2.2.1 f h1).2
          simp at h
          subst h
          rw [← h2]
          omega
        · simp at h
      · simp at h
noncomputable def fieldX (es : List Ev) (nm : ByteArray) : List Int := blkP (postX (posV (valsTo es nm es.length))) ++ idxX (strV (valsTo es nm es.length))
noncomputable def fieldsTo (es : List Ev) (ns : List ByteArray) : Nat → List Int
  | 0 => blkP (dicX ns)
  | k + 1 => fieldsTo es ns k ++ (match ns[k]? with
    | some nm => fieldX es nm
    | none => [])
noncomputable def fieldsX (es : List Ev) : List Int := fieldsTo es (namesX es) (namesX es).length
theorem posV_len (ps : List (Nat × ByteArray)) : (posV ps).length = ps.length := by unfold posV; rw [List.length_map]
theorem strV_len (ps : List (Nat × ByteArray)) : (strV ps).length = ps.length := by unfold strV; rw [List.length_map]
theorem fieldX_len {es : List Ev} (hs : ∀ e ∈ es, EvS e) (hl : es.length ≤ 40) (nm : ByteArray) : (fieldX es nm).length ≤ 11700 := by
  have h0 := valsTo_len es nm es.length
  have h1 := postX_len2 (posV (valsTo es nm es.length)) (valsTo_asc es nm es.length (by omega)).1 (by rw [posV_len]; omega)
  have h2 := idxX_len (valsTo_sz hs nm es.length) (by rw [strV_len]; omega)
  have h3 := blkP_len (b := postX (posV (valsTo es nm es.length))) (by omega)
  unfold fieldX
  rw [List.length_append]
  omega
theorem fieldsTo_len {es : List Ev} (hs : ∀ e ∈ es, EvS e) (hl : es.length ≤ 40) {ns : List ByteArray} (hn : ∀ x ∈ ns, x.size ≤ 250) (hnl : ns.length ≤ 160) : ∀ k, (fieldsTo es ns k).length ≤ 41000 + 11700 * k
  | 0 => by
    have h1 : (dicX ns).length ≤ 3 + 256 * ns.length := encR_len3 hn (by omega)
    have h2 := blkP_len (b := dicX ns) (by omega)
    simp only [fieldsTo]
    omega
  | k + 1 => by
    have h1 := fieldsTo_len hs hl hn hnl k
    simp only [fieldsTo, List.length_append]
    split
    · have := fieldX_len hs hl (by assumption); omega
    · simp; omega
theorem namesX_len {es : List Ev} (hs : ∀ e ∈ es, EvS e) (hl : es.length ≤ 40) : (namesX es).length ≤ 160 := by
  have h1 := flat_le namesE 4 es (fun e he => by unfold namesE; rw [List.length_map]; exact (hs e he).2.2.2.1)
  have h2 := dist_len' (es.flatMap namesE)
  unfold namesX
  omega
theorem namesX_sz {es : List Ev} (hs : ∀ e ∈ es, EvS e) : ∀ x ∈ namesX es, x.size ≤ 250 := dist_sz (fun x hx => by
  obtain ⟨e, he, hx⟩ := List.mem_flatMap.1 hx
  obtain ⟨f, hf, rfl⟩ := List.mem_map.1 hx
  have := ((hs e he).2.2.2.2.1 f hf).1
  omega)
set_option maxHeartbeats 8000000 in
set_option maxRecDepth 100000 in
theorem fields_any {S : Nat → Prop} (A : Option Addr) (es : List Ev) (c : Nat) (w : World) (hev : Evs S w A es) (hel : es.length ≤ 40) (hs : ∀ e ∈ es, EvS e) :
    Calls Tryz.prog 86 #[.slice A es.length c] w (NewB w (fieldsX es)) := by
  have KN := Lib.hid (names_any A es c w hev (by omega) hs)
  have KV : Hid (∀ nm w', w.grownBy w' none → Calls Tryz.prog 149 #[.slice A es.length c, .string nm] w' (ValsP w' (valsTo es nm es.length))) := Lib.hid (fun nm w' hg => values_any A es c nm w' ⟨hev.1.grown hg (by simp), fun e he => (hev.2 e he).grown hg (by simp)⟩ (by omega) hs)
  have HSZ := Lib.hid (fun nm => valsTo_sz hs nm es.length)
  have HVL := Lib.hid (fun nm => valsTo_len es nm es.length)
  have HAS := Lib.hid (fun nm => valsTo_asc es nm es.length (by omega))
  have hnl := namesX_len hs hel
  have HNZ := Lib.hid (namesX_sz hs)
  have HFL := Lib.hid (fieldsTo_len hs hel (namesX_sz hs) hnl)
  have HX : Hid (fieldsX es = fieldsTo es (namesX es) (namesX es).length) := Lib.hid rfl
  obtain ⟨R, hR⟩ : ∃ r, r = fieldsX es := ⟨_, rfl⟩
  obtain ⟨ns, hns⟩ : ∃ r, r = namesX es := ⟨_, rfl⟩
  rw [← hR, ← hns] at HX
  rw [← hns] at KN hnl HNZ HFL
  rw [← hR]
  have HF0 : Hid (fieldsTo es ns 0 = blkP (dicX ns)) := Lib.hid rfl
  have HF1 : Hid (∀ k nm, ns[k]? = some nm → fieldsTo es ns (k + 1) = fieldsTo es ns k ++ (blkP (postX (posV (valsTo es nm es.length))) ++ idxX (strV (valsTo es nm es.length)))) := Lib.hid (fun k nm h => by
    simp only [fieldsTo, h, fieldX])
  clear hev hs hR hns
  go_enter Tryz.func86, Tryz.ntmps86
  go_wp2_with fail
  refine KN.out.mono ?_
  rintro e w1 ⟨AD, cD, rfl, d1, d2, d3, hg1⟩
  have G1 := Lib.hid hg1
  have RD := Lib.hid (d3.mono (S' := fun b => b < w1.heap.size) (fun b h1 h2 => h2))
  have hz1 := hg1.size
  clear d1 d2 d3 hg1 KN
  have KD := Lib.hid (dictionary_any AD ns cD w1 RD.out (by omega) HNZ.out)
  have hdl : (dicX ns).length ≤ 2100000 := dicX_len HNZ.out (by omega)
  have HDL := Lib.hid hdl
  clear hdl
  go_wp2_with fail
  refine KD.out.mono ?_
  intro e w2 hN
  obtain ⟨AB, cB, rfl, -, -, b3, hg2⟩ := hN.row
  have G2 := Lib.hid hg2
  have B2 := Lib.hid b3
  have hz2 := hg2.size
  clear b3 hg2 hN KD
  go_wp2_with fail
  refine (putblock_any w1.heap.size _ [] AB (dicX ns) cB w2 (Byts.nil _ _) B2.out (by simp [Value.ownBlock]) (by simp) (by have := HDL.out; omega) hz2).mono ?_
  rintro e w3 ⟨v3, rfl, hB3, hO3⟩
  have B3 : Hid (Byts w1.heap.size w3 v3 (fieldsTo es ns 0)) := Lib.hid (by rw [HF0.out]; exact hB3)
  have G3 : Hid (w1.grownBy w3 none) := Byts.only (Byts.nil w1.heap.size w2) hO3 G2.out (Nat.le_refl _)
  clear hB3 hO3 B2
  go_wp2_with fail
  go_loopw [4, 5] (fun v vi wr => ∃ k : Nat, vi = .int .i64 k ∧ k ≤ ns.length ∧ Byts w1.heap.size wr v (fieldsTo es ns k) ∧ w1.grownBy wr none) (fun _ vi _ => ns.length - (intOf vi).toNat)
  case atStart => exact ⟨0, rfl, Nat.zero_le _, B3.out, G3.out⟩
  case round =>
    obtain ⟨k, rfl, hk, hB, hG⟩ := hrel
    have B := Lib.hid hB
    have G := Lib.hid hG
    have hbase : w1.heap.size ≤ wr.heap.size := hG.size
    have hfl := HFL.out k
    obtain ⟨vO, hvO⟩ : ∃ v, v = u4 := ⟨_, rfl⟩
    rw [← hvO] at B ⊢
    clear hB hG hvO B3
    by_cases hlt : k < ns.length
    · obtain ⟨b, off, nm, rfl, hc, hx⟩ := (RD.out.grown G.out (by simp)).str_at hlt
      have HS1 := Lib.hid (HF1.out k nm hx.out)
      have i1 : (k : Int) < (ns.length : Int) := by omega
      have K1 := Lib.hid (KV.out nm wr (only_trans G1.out G.out))
      have hvl := HVL.out nm
      have HZ1 := Lib.hid (HSZ.out nm)
      have HA1 := Lib.hid (HAS.out nm)
      obtain ⟨ps, hps⟩ : ∃ ps, ps = valsTo es nm es.length := ⟨_, rfl⟩
      rw [← hps] at HS1 K1 hvl HZ1 HA1
      clear hx hps
      go_wp2_with fail
      refine K1.out.mono ?_
      rintro e w4 ⟨A1, c1, A2, c2, rfl, p1, p2, p3, p4, p5, p6, hg4⟩
      have G4 := Lib.hid (only_trans G.out hg4)
      have B4 : Hid (Byts w1.heap.size w4 vO (fieldsTo es ns k)) := Lib.hid (own_ext B.out hg4)
      have R5 := Lib.hid p5
      have R6 := Lib.hid (p6.mono (S' := fun b => wr.heap.size ≤ b ∧ b < w4.heap.size) (fun b h1 h2 => ⟨h1, h2⟩))
      have P34 := Lib.hid (And.intro p3 p4)
      have HL1 := Lib.hid (posV_len ps)
      have HL2 := Lib.hid (strV_len ps)
      have KP := postings_any A1 (posV ps) c1 w4 p5 (by rw [HL1.out]; omega) HA1.out (by rw [HL1.out]; exact p1) p2
      rw [HL1.out] at KP
      have KP := Lib.hid KP
      have HPL := Lib.hid (postX_len2 (posV ps) HA1.out.1 (by rw [HL1.out]; omega))
      clear hg4 p1 p2 p3 p4 p5 p6 hc K1
      go_wp2_with fail
      refine KP.out.mono ?_
      intro e w5 hN5
      obtain ⟨A5, c5, rfl, -, -, b3, hg5⟩ := hN5.row
      have G5 := Lib.hid (only_trans G4.out hg5)
      have B5 : Hid (Byts w1.heap.size w5 vO (fieldsTo es ns k)) := Lib.hid (own_ext B4.out hg5)
      have RP := Lib.hid b3
      have RS5 := Lib.hid (R6.out.grown hg5 (by simp))
      have HNE : Hid (∀ b, w4.heap.size ≤ b → some b ≠ vO.ownBlock) := Lib.hid (fun b hb e => by have := B4.out.below b e.symm; omega)
      have HNE2 : Hid (∀ b, wr.heap.size ≤ b ∧ b < w4.heap.size → some b ≠ vO.ownBlock) := Lib.hid (fun b hb e => by have := B.out.below b e.symm; omega)
      have hz45 := hg5.size
      have hz5 := G5.out.size
      clear b3 hg5 hN5 KP
      go_wp2_with fail
      refine (putblock_any w1.heap.size vO (fieldsTo es ns k) A5 (postX (posV ps)) c5 w5 B5.out RP.out HNE.out (by omega) (by have := HPL.out; omega) hz5).mono ?_
      rintro e w6 ⟨v6, rfl, hB6, hO6⟩
      have B6 := Lib.hid hB6
      have G6 : Hid (w1.grownBy w6 none) := B5.out.only hO6 G5.out (Nat.le_refl _)
      have RS6 := Lib.hid (RS5.out.grown hO6.1 HNE2.out)
      have hz6 := G6.out.size
      have KI := indexed_any A2 (strV ps) c2 w6 RS6.out (by rw [HL2.out]; omega) HZ1.out (by rw [HL2.out]; exact P34.out.1) P34.out.2
      rw [HL2.out] at KI
      have KI := Lib.hid KI
      have HIL := Lib.hid (idxX_len HZ1.out (by rw [HL2.out]; omega))
      have HBL := Lib.hid (blkP_len (b := postX (posV ps)) (by have := HPL.out; omega))
      clear hB6 hO6
      go_wp2_with fail
      refine KI.out.mono ?_
      intro e w7 hN7
      obtain ⟨A7, c7, rfl, -, -, b3, hg7⟩ := hN7.row
      have G7 := Lib.hid (only_trans G6.out hg7)
      have B7 : Hid (Byts w1.heap.size w7 v6 (fieldsTo es ns k ++ blkP (postX (posV ps)))) := Lib.hid (own_ext B6.out hg7)
      have R7 := Lib.hid b3
      have hz7 := G7.out.size
      clear b3 hg7 hN7 KI
      go_wp2_with (at_builtin; go_must (refine wpList_appendN rfl _ _ 22 rfl w1.heap.size Tryz.underlying22 byteInfo rfl (by decide) (v := v6) (by rfl) B7.out A7 (idxX (strV ps)).length c7 (by rfl) R7.out (by simp) (byte_ones _) (by decide) (by rw [List.length_append]; have := HIL.out; have := HBL.out; have := HPL.out; omega) (by omega) ?_); intro v8 w8 hown8 hg8 hob8)
      have B8 : Hid (Byts w1.heap.size w8 v8 (fieldsTo es ns (k + 1))) := Lib.hid (by
        rw [HS1.out, ← List.append_assoc]
        have h9 := hown8
        unfold Byts
        rw [List.length_append, List.map_append]
        exact h9)
      have G8 : Hid (w1.grownBy w8 none) := Lib.hid (only_own G7.out hg8 B7.out (Nat.le_refl _))
      clear hown8 hg8 hob8
      go_wp2_with fail
      go_roundw
      case rel => exact ⟨k + 1, by go_num, by omega, B8.out, G8.out⟩
      case measure => simp [intOf]; omega
    · have hkE : k = ns.length := by omega
      have HE : Hid (R = fieldsTo es ns k) := Lib.hid (by rw [hkE]; exact HX.out)
      have i1 : ¬ (k : Int) < (ns.length : Int) := by omega
      clear hkE
      go_wp2_with fail
      go_ret
      rw [HE.out]
      exact ⟨vO, rfl, B.out.base hz1, only_trans G1.out G.out⟩
end Go.Proofs.YtpaiideboodaeaaGreatDoor

namespace Go.Proofs.YtpaiideboodaeaaGreatDoor
open Go.RowKit
set_option linter.unusedVariables false
set_option linter.unusedSimpArgs false

def numsX (es : List Ev) (j : Nat) : List Int := es.map (fun e => numX e j)
set_option maxHeartbeats 8000000 in
set_option maxRecDepth 100000 in
theorem section_num {S : Nat → Prop} (A : Option Addr) (es : List Ev) (c j : Nat) (w : World) (hev : Evs S w A es) (hel : es.length ≤ 2000) (hj1 : 1 ≤ j) (hj6 : j ≤ 6) (hi : ∀ e ∈ es, I64 (numX e j)) :
    Calls Tryz.prog 50 #[.slice A es.length c, .int .i64 j] w (NewB w (colX (numsX es j))) := by
  have HEV := Lib.hid hev
  have KN := Lib.hid (fun (e : Ev) (w' : World) => number_any e j w' hj1 hj6)
  have HI : Hid (∀ x ∈ numsX es j, I64 x) := Lib.hid (fun x hx => by
    obtain ⟨e, he, rfl⟩ := List.mem_map.1 hx
    exact hi e he)
  have HNL : Hid ((numsX es j).length = es.length) := Lib.hid (by unfold numsX; rw [List.length_map])
  have HSN : Hid (∀ k y, es[k]? = some y → numsX (es.take (k + 1)) j = numsX (es.take k) j ++ [numX y j]) := Lib.hid (fun k y hy => by
    obtain ⟨h1, h2⟩ := List.getElem?_eq_some_iff.1 hy
    unfold numsX
    rw [List.take_succ_eq_append_getElem h1, h2, List.map_append]
    rfl)
  have n7 : ((j : Int) == 7) = false := by simp; omega
  have n8 : ((j : Int) == 8) = false := by simp; omega
  have n9 : ((j : Int) == 9) = false := by simp; omega
  have n10 : ((j : Int) == 10) = false := by simp; omega
  have n11 : ((j : Int) == 11) = false := by simp; omega
  have n12 : ((j : Int) == 12) = false := by simp; omega
  clear hev hi
  go_enter Tryz.func50, Tryz.ntmps50
  go_wp2_with fail
  go_loopw [7, 8] (fun v vi wr => ∃ k : Nat, vi = .int .i64 k ∧ k ≤ es.length ∧ wr.ownsRow w.heap.size 3 1 v k ((numsX (es.take k) j).map (.int .i64)) ∧ w.grownBy wr none) (fun _ vi _ => es.length - (intOf vi).toNat)
  case atStart => exact ⟨0, rfl, Nat.zero_le _, World.ownsRow_nil _ _ _ _, only_refl _ _⟩
  case round =>
    obtain ⟨k, rfl, hk, hO, hG⟩ := hrel
    have OO := Lib.hid hO
    have G := Lib.hid hG
    have hbase : w.heap.size ≤ wr.heap.size := hG.size
    obtain ⟨vO, hvO⟩ : ∃ v, v = u7 := ⟨_, rfl⟩
    rw [← hvO] at OO ⊢
    clear hO hG hvO
    by_cases hlt : k < es.length
    · obtain ⟨y, hy⟩ : ∃ y, es[k]? = some y := ⟨_, List.getElem?_eq_getElem hlt⟩
      obtain ⟨kb, ko, eE, hkw, z0, z1, z2, z3, z4, z5, z6, z7, z8, z9⟩ := ev_in (HEV.out.1.grown G.out (by simp)) hy
      subst eE
      have K1 := KN.out y wr
      have hycl : y.cells.toArray = #[.int .i64 y.host, .int .i64 y.file, .int .i64 y.beg, .int .i64 y.fin, .slice y.la y.lines.length y.lc, .int .i64 y.time, .int .i64 y.weight, .string y.trace, .string y.stream, .slice y.fa y.fields.length y.fc] := rfl
      rw [hycl] at K1
      have K1 := Lib.hid K1
      have HS1 := Lib.hid (HSN.out k y hy)
      have i1 : (k : Int) < (es.length : Int) := by omega
      clear hy hycl
      go_wp2_with fail
      refine K1.out.mono ?_
      rintro e w2 ⟨rfl, hg2⟩
      have G2 := Lib.hid (only_trans G.out hg2)
      have O2 := Lib.hid (own_ext OO.out hg2)
      have hb2 := G2.out.size
      clear hg2 K1 z0 z1 z2 z3 z4 z5 z6 z7 z8 z9
      go_wp2_with (at_builtin; go_must (refine wpList_append1 rfl _ _ 47 rfl w.heap.size Tryz.underlying47 intInfoS rfl (by decide) (v := vO) (by rfl) (w0 := w2) (cs := #[.int .i64 (numX y j)]) O2.out (by rfl) rfl (by simp [Value.oneCell']) (by decide) (by omega) (by omega) ?_); intro v5 w5 hown5 hg5 hob5)
      have O5 : Hid (w5.ownsRow w.heap.size 3 1 v5 (k + 1) ((numsX (es.take (k + 1)) j).map (.int .i64))) := Lib.hid (by rw [HS1.out, List.map_append]; exact hown5)
      have G5 : Hid (w.grownBy w5 none) := Lib.hid (only_own G2.out hg5 O2.out (Nat.le_refl _))
      clear hown5 hg5 hob5
      go_wp2_with fail
      go_roundw
      case rel => exact ⟨k + 1, by go_num, by omega, O5.out, G5.out⟩
      case measure => simp [intOf]; omega
    · have hkE : k = es.length := by omega
      have OV : Hid (wr.ownsRow w.heap.size 3 1 vO es.length ((numsX es j).map (.int .i64))) := Lib.hid (by
        have h := OO.out
        rw [List.take_of_length_le (by omega), hkE] at h
        exact h)
      have i1 : ¬ (k : Int) < (es.length : Int) := by omega
      obtain ⟨AO, cO, hv, -, -, -, h3⟩ := Rd.of_own OV.out (by decide)
      have KC := column_any AO (numsX es j) cO wr (h3.mono (fun b _ _ => trivial)) (by rw [HNL.out]; omega) HI.out
      rw [HNL.out] at KC
      have KC := Lib.hid KC
      rw [hv]
      clear hv h3 OO OV hkE
      go_wp2_with fail
      refine KC.out.mono ?_
      rintro e w5 ⟨v5, rfl, hB5, hG5⟩
      have B5 := Lib.hid hB5
      have G5 := Lib.hid (only_trans G.out hG5)
      clear hB5 hG5 KC
      go_wp2_with fail
      go_ret
      exact ⟨v5, rfl, B5.out.base hbase, G5.out⟩
end Go.Proofs.YtpaiideboodaeaaGreatDoor

namespace Go.Proofs.YtpaiideboodaeaaGreatDoor
open Go.RowKit
set_option linter.unusedVariables false
set_option linter.unusedSimpArgs false

def txtsX (es : List Ev) (j : Nat) : List ByteArray := es.map (fun e => if j = 7 then e.trace else e.stream)
set_option maxHeartbeats 8000000 in
set_option maxRecDepth 100000 in
theorem section_txt {S : Nat → Prop} (A : Option Addr) (es : List Ev) (c j : Nat) (w : World) (hev : Evs S w A es) (hel : es.length ≤ 2000) (hj1 : 7 ≤ j) (hj6 : j ≤ 8) (hs : ∀ e ∈ es, EvS e) :
    Calls Tryz.prog 50 #[.slice A es.length c, .int .i64 j] w (NewB w (idxX (txtsX es j))) := by
  have HEV := Lib.hid hev
  have HI : Hid (∀ x ∈ txtsX es j, x.size ≤ 250) := Lib.hid (fun x hx => by
    obtain ⟨e, he, rfl⟩ := List.mem_map.1 hx
    have h1 := (hs e he).2.2.2.2.2
    split <;> omega)
  have HNL : Hid ((txtsX es j).length = es.length) := Lib.hid (by unfold txtsX; rw [List.length_map])
  have HSN : Hid (∀ k y, es[k]? = some y → txtsX (es.take (k + 1)) j = txtsX (es.take k) j ++ [if j = 7 then y.trace else y.stream]) := Lib.hid (fun k y hy => by
    obtain ⟨h1, h2⟩ := List.getElem?_eq_some_iff.1 hy
    unfold txtsX
    rw [List.take_succ_eq_append_getElem h1, h2, List.map_append]
    rfl)
  clear hev hs
  have hj : j = 7 ∨ j = 8 := by omega
  rcases hj with rfl | rfl
  · go_enter Tryz.func50, Tryz.ntmps50
    go_wp2_with fail
    go_loopw [5, 6] (fun v vi wr => ∃ k : Nat, vi = .int .i64 k ∧ k ≤ es.length ∧ wr.ownsRow w.heap.size 9 1 v k ((txtsX (es.take k) 7).map .string) ∧ w.grownBy wr none) (fun _ vi _ => es.length - (intOf vi).toNat)
    case atStart => exact ⟨0, rfl, Nat.zero_le _, World.ownsRow_nil _ _ _ _, only_refl _ _⟩
    case round =>
      obtain ⟨k, rfl, hk, hO, hG⟩ := hrel
      have OO := Lib.hid hO
      have G := Lib.hid hG
      have hbase : w.heap.size ≤ wr.heap.size := hG.size
      obtain ⟨vO, hvO⟩ : ∃ v, v = u5 := ⟨_, rfl⟩
      rw [← hvO] at OO ⊢
      clear hO hG hvO
      by_cases hlt : k < es.length
      · obtain ⟨y, hy⟩ : ∃ y, es[k]? = some y := ⟨_, List.getElem?_eq_getElem hlt⟩
        obtain ⟨kb, ko, eE, hkw, z0, z1, z2, z3, z4, z5, z6, z7, z8, z9⟩ := ev_in (HEV.out.1.grown G.out (by simp)) hy
        subst eE
        have HS1 : Hid (txtsX (es.take (k + 1)) 7 = txtsX (es.take k) 7 ++ [y.trace]) := Lib.hid (HSN.out k y hy)
        have i1 : (k : Int) < (es.length : Int) := by omega
        clear hy
        go_wp2_with (at_builtin; go_must (refine wpList_append1 rfl _ _ 39 rfl w.heap.size Tryz.underlying39 strInfo rfl (by decide) (v := vO) (by rfl) (w0 := wr) (cs := #[.string y.trace]) OO.out (by rfl) rfl (by simp [Value.oneCell']) (by decide) (by omega) (by omega) ?_); intro v5 w5 hown5 hg5 hob5)
        have O5 : Hid (w5.ownsRow w.heap.size 9 1 v5 (k + 1) ((txtsX (es.take (k + 1)) 7).map .string)) := Lib.hid (by rw [HS1.out, List.map_append]; exact hown5)
        have G5 : Hid (w.grownBy w5 none) := Lib.hid (only_own G.out hg5 OO.out (Nat.le_refl _))
        clear hown5 hg5 hob5 z0 z1 z2 z3 z4 z5 z6 z7 z8 z9
        go_wp2_with fail
        go_roundw
        case rel => exact ⟨k + 1, by go_num, by omega, O5.out, G5.out⟩
        case measure => simp [intOf]; omega
      · have hkE : k = es.length := by omega
        have OV : Hid (wr.ownsRow w.heap.size 9 1 vO es.length ((txtsX es 7).map .string)) := Lib.hid (by
          have h := OO.out
          rw [List.take_of_length_le (by omega), hkE] at h
          exact h)
        have i1 : ¬ (k : Int) < (es.length : Int) := by omega
        obtain ⟨AO, cO, hv, h1, h2, -, h3⟩ := Rd.of_own OV.out (by decide)
        have KC := indexed_any AO (txtsX es 7) cO wr h3 (by rw [HNL.out]; omega) HI.out (by rw [HNL.out]; exact h1) h2
        rw [HNL.out] at KC
        have KC := Lib.hid KC
        rw [hv]
        clear hv h1 h2 h3 OO OV hkE
        go_wp2_with fail
        refine KC.out.mono ?_
        rintro e w5 ⟨v5, rfl, hB5, hG5⟩
        have B5 := Lib.hid hB5
        have G5 := Lib.hid (only_trans G.out hG5)
        clear hB5 hG5 KC
        go_wp2_with fail
        go_ret
        exact ⟨v5, rfl, B5.out.base hbase, G5.out⟩
  · go_enter Tryz.func50, Tryz.ntmps50
    go_wp2_with fail
    go_loopw [5, 6] (fun v vi wr => ∃ k : Nat, vi = .int .i64 k ∧ k ≤ es.length ∧ wr.ownsRow w.heap.size 9 1 v k ((txtsX (es.take k) 8).map .string) ∧ w.grownBy wr none) (fun _ vi _ => es.length - (intOf vi).toNat)
    case atStart => exact ⟨0, rfl, Nat.zero_le _, World.ownsRow_nil _ _ _ _, only_refl _ _⟩
    case round =>
      obtain ⟨k, rfl, hk, hO, hG⟩ := hrel
      have OO := Lib.hid hO
      have G := Lib.hid hG
      have hbase : w.heap.size ≤ wr.heap.size := hG.size
      obtain ⟨vO, hvO⟩ : ∃ v, v = u5 := ⟨_, rfl⟩
      rw [← hvO] at OO ⊢
      clear hO hG hvO
      by_cases hlt : k < es.length
      · obtain ⟨y, hy⟩ : ∃ y, es[k]? = some y := ⟨_, List.getElem?_eq_getElem hlt⟩
        obtain ⟨kb, ko, eE, hkw, z0, z1, z2, z3, z4, z5, z6, z7, z8, z9⟩ := ev_in (HEV.out.1.grown G.out (by simp)) hy
        subst eE
        have HS1 : Hid (txtsX (es.take (k + 1)) 8 = txtsX (es.take k) 8 ++ [y.stream]) := Lib.hid (HSN.out k y hy)
        have i1 : (k : Int) < (es.length : Int) := by omega
        clear hy
        go_wp2_with (at_builtin; go_must (refine wpList_append1 rfl _ _ 39 rfl w.heap.size Tryz.underlying39 strInfo rfl (by decide) (v := vO) (by rfl) (w0 := wr) (cs := #[.string y.stream]) OO.out (by rfl) rfl (by simp [Value.oneCell']) (by decide) (by omega) (by omega) ?_); intro v5 w5 hown5 hg5 hob5)
        have O5 : Hid (w5.ownsRow w.heap.size 9 1 v5 (k + 1) ((txtsX (es.take (k + 1)) 8).map .string)) := Lib.hid (by rw [HS1.out, List.map_append]; exact hown5)
        have G5 : Hid (w.grownBy w5 none) := Lib.hid (only_own G.out hg5 OO.out (Nat.le_refl _))
        clear hown5 hg5 hob5 z0 z1 z2 z3 z4 z5 z6 z7 z8 z9
        go_wp2_with fail
        go_roundw
        case rel => exact ⟨k + 1, by go_num, by omega, O5.out, G5.out⟩
        case measure => simp [intOf]; omega
      · have hkE : k = es.length := by omega
        have OV : Hid (wr.ownsRow w.heap.size 9 1 vO es.length ((txtsX es 8).map .string)) := Lib.hid (by
          have h := OO.out
          rw [List.take_of_length_le (by omega), hkE] at h
          exact h)
        have i1 : ¬ (k : Int) < (es.length : Int) := by omega
        obtain ⟨AO, cO, hv, h1, h2, -, h3⟩ := Rd.of_own OV.out (by decide)
        have KC := indexed_any AO (txtsX es 8) cO wr h3 (by rw [HNL.out]; omega) HI.out (by rw [HNL.out]; exact h1) h2
        rw [HNL.out] at KC
        have KC := Lib.hid KC
        rw [hv]
        clear hv h1 h2 h3 OO OV hkE
        go_wp2_with fail
        refine KC.out.mono ?_
        rintro e w5 ⟨v5, rfl, hB5, hG5⟩
        have B5 := Lib.hid hB5
        have G5 := Lib.hid (only_trans G.out hG5)
        clear hB5 hG5 KC
        go_wp2_with fail
        go_ret
        exact ⟨v5, rfl, B5.out.base hbase, G5.out⟩
end Go.Proofs.YtpaiideboodaeaaGreatDoor

namespace Go.Proofs.YtpaiideboodaeaaGreatDoor
open Go.RowKit
set_option linter.unusedVariables false
set_option linter.unusedSimpArgs false

set_option maxHeartbeats 4000000 in
set_option maxRecDepth 100000 in
theorem section_fld {S : Nat → Prop} (A : Option Addr) (es : List Ev) (c : Nat) (w : World) (hev : Evs S w A es) (hel : es.length ≤ 40) (hs : ∀ e ∈ es, EvS e) :
    Calls Tryz.prog 50 #[.slice A es.length c, .int .i64 10] w (NewB w (fieldsX es)) := by
  have K := Lib.hid (fields_any A es c w hev hel hs)
  clear hev hs
  go_enter Tryz.func50, Tryz.ntmps50
  go_wp2_with fail
  refine K.out.mono ?_
  rintro e w5 ⟨v5, rfl, hB5, hG5⟩
  have B5 := Lib.hid hB5
  have G5 := Lib.hid hG5
  clear hB5 hG5 K
  go_wp2_with fail
  go_ret
  exact ⟨v5, rfl, B5.out, G5.out⟩
end Go.Proofs.YtpaiideboodaeaaGreatDoor

namespace Go.Proofs.YtpaiideboodaeaaGreatDoor
open Go.RowKit
set_option linter.unusedVariables false
set_option linter.unusedSimpArgs false

theorem mk_one (z : Value) (hz : z.cells = #[z]) (n : Nat) : madeCells z.cells (n * 1) = Array.replicate n z := by
  rw [hz, Nat.mul_one]
  apply Array.ext
  · simp [madeCells]
  · intro i h1 h2
    simp [madeCells, Nat.mod_one]
theorem mk_any {P : Program} {t e : TypeId} {z : Value} {bytes : Nat} (ht : P.underlying t = some (.slice e)) (hi : (P.info? e).map (fun i => (i.zero, i.size, i.bytes)) = some (some z, 1, bytes)) (hz : z.cells = #[z]) (hb : bytes ≤ 100) (n : Nat) (hn : n ≤ 10000000) (w : World) :
    Sem.run P (Instr.makeSlice t (.int .i64 (n : Int)) (.int .i64 (n : Int))) w = .ok (.slice (some ⟨w.heap.size, 0, none⟩) n n) (w.alloc (.cells (Array.replicate n z) e)) := by
  obtain ⟨i0, hi0, hz0, hz1, hz2⟩ := info_parts hi
  have hbi : (i0.bytes : Int) * (n : Int) ≤ 281474976710656 := by
    have h1 : i0.bytes * n ≤ 100 * 10000000 := Nat.mul_le_mul (by omega) hn
    have h2 : ((i0.bytes * n : Nat) : Int) ≤ 1000000000 := by omega
    rw [Int.natCast_mul] at h2; omega
  have h := run_makeSlice (P := P) w t e i0 z ht hi0 hz0 .i64 .i64 n n (by omega) (Int.le_refl _) (by rw [hz1, Int.toNat_natCast]; omega) hbi (by omega)
  rw [Int.toNat_natCast, hz1, mk_one z hz] at h
  exact h
theorem only_setN {a w : World} {row : Option Nat} (h : a.grownBy w row) {p : Addr} (hp : a.heap.size ≤ p.block) (u : Value) : a.grownBy (w.setCell p u) row :=
  ⟨h.os, h.tape, h.output, by simpa [World.setCell] using h.size, fun i hi hne => (Below.heap_setCell w p u i (by rintro rfl; omega)).trans (h.block i hi hne)⟩
theorem only_setB (w : World) {p : Addr} (u : Value) : w.grownBy (w.setCell p u) (some p.block) :=
  ⟨rfl, rfl, rfl, by simp [World.setCell], fun k _ hne => Below.heap_setCell w p u k (fun e => hne (by rw [e]))⟩
end Go.Proofs.YtpaiideboodaeaaGreatDoor

namespace Go.Proofs.YtpaiideboodaeaaGreatDoor
open Go.RowKit
set_option linter.unusedVariables false
set_option linter.unusedSimpArgs false

def hstep (h : Nat) (b : Int) : Nat := ((h ^^^ b.toNat) * 16777619) % 4294967296
def hashT (seed : Nat) (bs : List Int) : Nat := bs.foldl hstep (2166136261 ^^^ seed)
def hashF (h : Nat) : Nat := ((h ^^^ (h / 32768)) * 2246822519 % 4294967296) ^^^ ((h ^^^ (h / 32768)) * 2246822519 % 4294967296 / 8192)
def hashN (seed : Nat) (bs : List Int) : Nat := hashF (hashT seed bs)
theorem hashF_lt {h : Nat} : hashF h < 4294967296 := xor_lt32 (by omega) (by omega)
theorem bts_inb (s : ByteArray) : ∀ x ∈ bts s, 0 ≤ x ∧ x ≤ 255 := fun x hx => by
  unfold bts at hx
  obtain ⟨b, -, rfl⟩ := List.mem_map.1 hx
  have := b.toNat_lt
  omega
set_option maxHeartbeats 4000000 in
set_option maxRecDepth 100000 in
theorem hash_any (seed : Nat) (hs : seed < 4294967296) (s : ByteArray) (hz : s.size ≤ 100000) (w : World) :
    Calls Tryz.prog 229 #[.int .u32 seed, .string s] w (fun e w' => e = .returned (.int .u32 (hashN seed (bts s) : Nat)) ∧ w' = w) := by
  have hx0 : bits BinOp.xor IntKind.u32 2166136261 (seed : Int) = ((2166136261 ^^^ seed : Nat) : Int) := xor_u32 2166136261 seed (by decide) hs
  have hl0 : 2166136261 ^^^ seed < 4294967296 := xor_lt32 (by decide) hs
  obtain ⟨R, hR⟩ : ∃ r, r = hashN seed (bts s) := ⟨_, rfl⟩
  have HR : Hid (R = hashF ((bts s).foldl hstep (2166136261 ^^^ seed))) := Lib.hid hR
  obtain ⟨h0, hh0⟩ : ∃ h0, h0 = 2166136261 ^^^ seed := ⟨_, rfl⟩
  rw [← hh0] at hx0 hl0 HR
  rw [← hR]
  clear hR hh0
  go_enter Tryz.func229, Tryz.ntmps229
  go_wp2_with fail
  go_loopw [5, 6] (fun vh vi wr => ∃ (k h : Nat), vi = .int .i64 k ∧ k ≤ s.size ∧ vh = .int .u32 h ∧ Hid (((bts s).take k).foldl hstep h0 = h) ∧ h < 4294967296 ∧ wr = w) (fun _ vi _ => s.size - (intOf vi).toNat)
  case atStart => exact ⟨0, h0, rfl, Nat.zero_le _, rfl, Lib.hid rfl, hl0, rfl⟩
  case round =>
    clear hx0 hl0
    obtain ⟨k, h, rfl, hk, rfl, HH, hh, rfl⟩ := hrel
    by_cases hlt : k < s.size
    · have hx := bts_at s hlt
      have hxb : (s[k]'hlt).toNat ≤ 255 := by have := (s[k]'hlt).toNat_lt; omega
      have hX := xor_u32 h (s[k]'hlt).toNat hh (by omega)
      obtain ⟨y, hy⟩ : ∃ y, y = h ^^^ (s[k]'hlt).toNat := ⟨_, rfl⟩
      rw [← hy] at hX
      have HN : Hid (((bts s).take (k + 1)).foldl hstep h0 = y * 16777619 % 4294967296) := Lib.hid (by
        obtain ⟨h1, h2⟩ := List.getElem?_eq_some_iff.1 hx
        rw [List.take_succ_eq_append_getElem h1, h2, List.foldl_append, HH.out]
        rw [List.foldl_cons, List.foldl_nil, hstep, Int.toNat_natCast, hy])
      have i1 : (k : Int) < (s.size : Int) := by omega
      clear hx hy
      go_wp2_with fail
      go_roundw
      case rel => exact ⟨k + 1, y * 16777619 % 4294967296, by go_num, by omega, congrArg (Value.int .u32) (by omega), HN, by omega, trivial⟩
      case measure => simp [intOf]; omega
    · have HH2 : Hid ((bts s).foldl hstep h0 = h) := Lib.hid (by have h9 := HH.out; rw [List.take_of_length_le (by rw [bts_length]; omega)] at h9; exact h9)
      have i1 : ¬ (k : Int) < (s.size : Int) := by omega
      have hX1 : bits BinOp.xor IntKind.u32 (h : Int) ((h : Int) / 32768) = ((h ^^^ (h / 32768) : Nat) : Int) := by rw [show (h : Int) / 32768 = ((h / 32768 : Nat) : Int) from by omega]; exact xor_u32 h (h / 32768) hh (by omega)
      have hy1 : h ^^^ (h / 32768) < 4294967296 := xor_lt32 hh (by omega)
      obtain ⟨y, hy⟩ : ∃ y, y = h ^^^ (h / 32768) := ⟨_, rfl⟩
      rw [← hy] at hX1 hy1
      have HF : Hid (R = (y * 2246822519 % 4294967296) ^^^ (y * 2246822519 % 4294967296 / 8192)) := Lib.hid (by rw [HR.out, HH2.out, hashF, ← hy])
      have hX2 : bits BinOp.xor IntKind.u32 ((y : Int) * 2246822519 % 4294967296) ((y : Int) * 2246822519 % 4294967296 / 8192) = (R : Int) := by
        obtain ⟨z, hz⟩ : ∃ z, z = y * 2246822519 % 4294967296 := ⟨_, rfl⟩
        have e1 : (y : Int) * 2246822519 % 4294967296 = (z : Int) := by omega
        have e2 : (z : Int) / 8192 = ((z / 8192 : Nat) : Int) := by omega
        rw [e1, e2, xor_u32 z (z / 8192) (by omega) (by omega), HF.out, ← hz]
      have HX2 := Lib.hid hX2
      clear hy hX2
      go_wp2_with fail
      go_ret
      exact ⟨congrArg (fun x => Ending.returned (Value.int .u32 x)) HX2.out, rfl⟩
theorem u64Info : (Tryz.prog.info? 69).map (fun i => (i.zero, i.size, i.bytes)) = some (some (.int .u64 0), 1, 8) := by kernel_rfl
/-- a new filter -/
def FilP (w : World) (n : Nat) (e : Ending) (w' : World) : Prop := ∃ g, e = .returned (.tuple #[.agg #[.int .i64 3, .slice (some ⟨g, 0, none⟩) n n], .int .i64 0]) ∧ w.heap.size ≤ g ∧ Blk w' g 69 (Array.replicate n (.int .u64 0)) ∧ w.grownBy w' none
set_option maxHeartbeats 4000000 in
set_option maxRecDepth 100000 in
theorem fnew_any (size n : Nat) (hn : n = (size + 63) / 64) (h1 : 1 ≤ size) (h2 : size ≤ 65536) (w : World) :
    Calls Tryz.prog 199 #[.int .i64 size, .int .i64 3] w (FilP w n) := by
  have i1 : ¬ (size : Int) < 1 := by omega
  have i2 : ¬ (65536 : Int) < (size : Int) := by omega
  have HD : Hid (((size : Int) + 63) / 64 = (n : Int)) := Lib.hid (by omega)
  have hD := HD.out
  have hmk := fun (w' : World) => mk_any (P := Tryz.prog) Tryz.underlying34 u64Info rfl (by decide) n (by omega) w'
  have hnn : n ≤ 1024 := by omega
  clear hn h1 h2
  go_enter Tryz.func199, Tryz.ntmps199
  go_wp2_with fail
  have hB := (Blk.new w 36 #[.int .i64 3, .slice (some ⟨w.heap.size + 1, 0, none⟩) n n]).alloc (.cells (Array.replicate n (.int .u64 0)) 69)
  have q0 := hB.cell 0
  have q1 := hB.cell 1
  simp only [List.size_toArray, List.length_cons, List.length_nil, Nat.zero_add, Nat.reduceAdd, Nat.reduceLT, getElem?_pos, List.getElem_toArray, List.getElem_cons_zero, List.getElem_cons_succ] at q0 q1
  refine bodyPost_ret (v := .tuple #[.agg #[.int .i64 3, .slice (some ⟨w.heap.size + 1, 0, none⟩) n n], .int .i64 0]) (by simp [results, Tryz.results199, go_sem, q0, q1]) rfl ⟨w.heap.size + 1, rfl, by omega, ?_, only_alloc (only_alloc (only_refl _ _) _) _⟩
  have h := Blk.new (w.alloc (.cells #[.int .i64 3, .slice (some ⟨w.heap.size + 1, 0, none⟩) n n] 36)) 69 (Array.replicate n (.int .u64 0))
  simpa using h
/-- the places of a word -/
def placeX (n : Nat) (bs : List Int) (i : Nat) : Nat := (hashN 0 bs + i * hashN 1 bs) % 4294967296 % (64 * n)
def posX (n : Nat) (bs : List Int) : List Int := (List.range 3).map (fun i => (placeX n bs i : Int))
def PosP (w : World) (l : List Int) (e : Ending) (w' : World) : Prop := ∃ A c, e = .returned (.slice A l.length c) ∧ l.length ≤ c ∧ c ≤ maxLen ∧ Rd (w.heap.size ≤ ·) w' A (l.map (.int .i64)) ∧ w.grownBy w' none
set_option maxHeartbeats 4000000 in
set_option maxRecDepth 100000 in
theorem positions_any (A : Option Addr) (n c : Nat) (hn : 1 ≤ n) (hn2 : n ≤ 1024) (s : ByteArray) (hz : s.size ≤ 100000) (w : World) :
    Calls Tryz.prog 200 #[.agg #[.int .i64 3, .slice A n c], .string s] w (PosP w (posX n (bts s))) := by
  have KA := Lib.hid (fun w' => hash_any 0 (by decide) s hz w')
  have KB := Lib.hid (fun w' => hash_any 1 (by decide) s hz w')
  have hal : hashN 0 (bts s) < 4294967296 := hashF_lt
  have hbl : hashN 1 (bts s) < 4294967296 := hashF_lt
  have HP : Hid (∀ k, k < 3 → (posX n (bts s)).take (k + 1) = (posX n (bts s)).take k ++ [(((hashN 0 (bts s) + k * hashN 1 (bts s)) % 4294967296 % (64 * n) : Nat) : Int)]) := Lib.hid (fun k hk => by
    have h : (posX n (bts s))[k]? = some (placeX n (bts s) k : Int) := by
      unfold posX
      rw [List.getElem?_map, List.getElem?_range hk]
      rfl
    obtain ⟨h1, h2⟩ := List.getElem?_eq_some_iff.1 h
    rw [List.take_succ_eq_append_getElem h1, h2]
    rfl)
  have HL : Hid ((posX n (bts s)).length = 3) := Lib.hid (by unfold posX; rw [List.length_map, List.length_range])
  obtain ⟨P, hP⟩ : ∃ p, p = posX n (bts s) := ⟨_, rfl⟩
  obtain ⟨ha, hha⟩ : ∃ h, h = hashN 0 (bts s) := ⟨_, rfl⟩
  obtain ⟨hb, hhb⟩ : ∃ h, h = hashN 1 (bts s) := ⟨_, rfl⟩
  rw [← hha, ← hhb, ← hP] at HP
  rw [← hP] at HL
  rw [← hha] at KA hal
  rw [← hhb] at KB hbl
  rw [← hP]
  clear hP hha hhb
  have hfi : (Tryz.prog.info? 47).map (fun i => i.size) = some 1 := by kernel_rfl
  go_enter Tryz.func200, Tryz.ntmps200
  go_wp2_with fail
  refine (KA.out _).mono ?_
  rintro e w1 ⟨rfl, rfl⟩
  go_wp2_with fail
  refine (KB.out _).mono ?_
  rintro e w1 ⟨rfl, rfl⟩
  go_wp2_with fail
  have hB0 : Blk (w.alloc (.cells #[.int .i64 3, .slice A n c] 36)) w.heap.size 36 #[.int .i64 3, .slice A n c] := Blk.new _ _ _
  have hg0 : w.grownBy (w.alloc (.cells #[.int .i64 3, .slice A n c] 36)) none := only_alloc (only_refl _ _) _
  have BF := Lib.hid hB0
  have G0 := Lib.hid hg0
  obtain ⟨xb, hxb⟩ : ∃ b, b = w.heap.size := ⟨_, rfl⟩
  obtain ⟨W, hW⟩ : ∃ W, W = w.alloc (.cells #[.int .i64 3, .slice A n c] 36) := ⟨_, rfl⟩
  rw [← hW, ← hxb] at BF
  rw [← hW] at G0
  rw [← hW, ← hxb]
  clear hW hxb hB0 hg0
  go_loopw [7, 8] (fun v vi wr => ∃ k : Nat, vi = .int .i64 k ∧ k ≤ 3 ∧ wr.ownsRow W.heap.size 3 1 v k ((P.take k).map (.int .i64)) ∧ W.grownBy wr none) (fun _ vi _ => 3 - (intOf vi).toNat)
  case atStart => exact ⟨0, rfl, by omega, World.ownsRow_nil _ _ _ _, only_refl _ _⟩
  case round =>
    obtain ⟨k, rfl, hk, hO, hG⟩ := hrel
    have OO := Lib.hid hO
    have G := Lib.hid hG
    have hbase := hG.size
    have BW := BF.out.grown hG (by simp)
    have x0 := BW.cell 0
    have x1 := BW.cell 1
    simp at x0 x1
    obtain ⟨vO, hvO⟩ : ∃ v, v = u7 := ⟨_, rfl⟩
    rw [← hvO] at OO ⊢
    clear hO hG hvO BW
    by_cases hlt : k < 3
    · have i1 : (k : Int) < 3 := by omega
      have HPK := Lib.hid (HP.out k hlt)
      have HXE : Hid (((ha : Int) + (k : Int) * (hb : Int)) % 4294967296 % (64 * (n : Int)) = (((ha + k * hb) % 4294967296 % (64 * n) : Nat) : Int)) := Lib.hid (by
        simp only [Int.natCast_emod, Int.natCast_add, Int.natCast_mul]; rfl)
      go_wp2_with (at_builtin; go_must (refine wpList_append1 rfl _ _ 47 rfl W.heap.size Tryz.underlying47 intInfoS rfl (by decide) (v := vO) (by rfl) (w0 := wr) (cs := #[.int .i64 (((ha : Int) + (k : Int) * (hb : Int)) % 4294967296 % (64 * (n : Int)))]) OO.out (by rfl) rfl (by simp [Value.oneCell']) (by decide) (by omega) (by omega) ?_); intro v5 w5 hown5 hg5 hob5)
      rw [HXE.out] at hown5
      have O5 : Hid (w5.ownsRow W.heap.size 3 1 v5 (k + 1) ((P.take (k + 1)).map (.int .i64))) := Lib.hid (by rw [HPK.out, List.map_append]; exact hown5)
      have G5 : Hid (W.grownBy w5 none) := Lib.hid (only_own G.out hg5 OO.out (Nat.le_refl _))
      clear hown5 hg5 hob5
      go_wp2_with fail
      go_roundw
      case rel => exact ⟨k + 1, by go_num, by omega, O5.out, G5.out⟩
      case measure => simp [intOf]; omega
    · have i1 : ¬ (k : Int) < 3 := by omega
      have hkE : k = 3 := by omega
      have hE : P.take k = P := List.take_of_length_le (by rw [HL.out]; omega)
      obtain ⟨AO, cO, hv, h1, h2, -, h3⟩ := Rd.of_own OO.out (by decide)
      rw [hE] at h3
      have h4 : k = P.length := by rw [HL.out]; exact hkE
      rw [h4] at h1 hv
      have H1 := Lib.hid h1
      have H2 := Lib.hid h2
      have H3 := Lib.hid (h3.mono (S' := (w.heap.size ≤ ·)) (fun b hb _ => Nat.le_trans G0.out.size hb))
      rw [hv]
      clear hv h1 h2 h3 h4 hE hkE OO
      go_wp2_with fail
      go_ret
      exact ⟨AO, cO, rfl, H1.out, H2.out, H3.out, only_trans G0.out G.out⟩
end Go.Proofs.YtpaiideboodaeaaGreatDoor
