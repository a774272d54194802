/- columns, encoded, coded of segment: the program's. Conditions: sizes. -/
import Derived.Test.YtpaiideboodaeaaGreatDoorJPosG
import Derived.Test.YtpaiideboodaeaaGreatDoorJPosH
import Derived.Test.YtpaiideboodaeaaGreatDoorJSegI
import Derived.Test.YtpaiideboodaeaaGreatDoorJPCol
import Derived.Deep.DeepMust
import Derived.Shelf.Strconv.Itoa0
import Derived.Shelf.Strconv.Itoa1
import Derived.Shelf.LaysM
import Derived.Shelf.Strconv.Itoa2
import Derived.Shelf.Strconv.Itoa3
import Derived.Shelf.Strconv.Itoa4
import Derived.Shelf.SlIter.Nil
import Derived.Shelf.SortM.Plain
import Derived.Shelf.SortM.SortNone
import Derived.Ground.GgzProg
import Derived.Ground.SlgmProg
import Derived.Test.YtpaiideboodaeaaGreatDoorProg
namespace Go.Proofs.YtpaiideboodaeaaGreatDoor
open Go.RowKit
set_option linter.unusedVariables false
set_option linter.unusedSimpArgs false

theorem Onto.quiet {w w' : World} {v : Value} (hg : w.grownBy w' none) : Onto w v v w' := ⟨only_of_none hg _, .inl rfl⟩
/-- a row of numbers in memory -/
structure RowI where
  a : Option Addr
  vs : List Int
  c : Nat
def RowI.cell (r : RowI) : Value := .slice r.a r.vs.length r.c
theorem rowi_at {S : Nat → Prop} {w : World} {b o : Nat} {rs : List RowI} {k : Nat} {r : RowI} (h : Rd S w (some ⟨b, o, none⟩) (rs.map RowI.cell)) (hr : rs[k]? = some r) : w.cell? ⟨b, o + k, none⟩ = some (.slice r.a r.vs.length r.c) := by
  have hm : (rs.map RowI.cell)[k]? = some r.cell := by rw [List.getElem?_map, hr]; rfl
  obtain ⟨hlt, e⟩ := List.getElem?_eq_some_iff.1 hm
  obtain ⟨b', o', e', -, -, hc⟩ := h (by omega)
  injection e' with e'
  injection e' with e1 e2
  subst e1 e2
  exact hc k _ hm
theorem flat_one' {α β : Type} (f : α → List β) {l : List α} {k : Nat} {y : α} (hy : l[k]? = some y) : (l.take (k + 1)).flatMap f = (l.take k).flatMap f ++ f y := by
  obtain ⟨h1, e⟩ := List.getElem?_eq_some_iff.1 hy
  rw [List.take_succ_eq_append_getElem h1, e, List.flatMap_append]
  simp
set_option maxHeartbeats 4000000 in
set_option maxRecDepth 100000 in
theorem columns_any {S : Nat → Prop} (base : Nat) (v : Value) (xs : List Int) (L : Option Addr) (rs : List RowI) (lc : Nat) (w : World) (h : Byts base w v xs) (hr : Rd S w L (rs.map RowI.cell)) (hrs : ∀ r ∈ rs, Rd S w r.a (r.vs.map (.int .i64)) ∧ r.vs.length ≤ 16384 ∧ ∀ x ∈ r.vs, I64 x)
    (hne : ∀ b, S b → some b ≠ v.ownBlock) (hl : rs.length ≤ 10) (hx : ∀ k, (xs ++ (rs.take k).flatMap (fun r => blkP (colX r.vs))).length ≤ 7400000) (hb : base ≤ w.heap.size) :
    Calls Tryz.prog 59 #[v, .slice L rs.length lc] w (VPost base w v (xs ++ rs.flatMap (fun r => blkP (colX r.vs)))) := by
  have H := Lib.hid h
  have HR := Lib.hid (hr.mono (S' := fun b => S b ∧ b < w.heap.size) (fun b h1 h2 => ⟨h1, h2⟩))
  have HRS := Lib.hid (fun r (hm : r ∈ rs) => ((hrs r hm).1.mono (S' := fun b => S b ∧ b < w.heap.size) (fun b h1 h2 => ⟨h1, h2⟩)))
  have HRL := Lib.hid (fun r (hm : r ∈ rs) => (hrs r hm).2)
  have HNE := Lib.hid hne
  have HX := Lib.hid hx
  clear h hr hne hrs hx
  go_enter Tryz.func59, Tryz.ntmps59
  go_wp2_with fail
  go_loopw [0, 11] (fun u i wr => ∃ k : Nat, k ≤ rs.length ∧ i = .int .i64 k ∧ Byts base wr u (xs ++ (rs.take k).flatMap (fun r => blkP (colX r.vs))) ∧ Onto w v u wr) (fun _ i _ => rs.length - (intOf i).toNat)
  case atStart => exact ⟨0, Nat.zero_le _, rfl, by simpa using H.out, Onto.refl _ _⟩
  case round =>
    obtain ⟨k, hk, rfl, hB, hO⟩ := hrel
    have HB := Lib.hid hB
    have HO := Lib.hid hO
    have hz := hO.1.size
    have HG := Lib.hid hO.1
    have hN0 : Hid (∀ b, (S b ∧ b < w.heap.size) → some b ≠ u0.ownBlock) := Lib.hid (hO.ne (fun b hb => hb.2) (fun b hb => HNE.out b hb.1))
    clear hB hO
    by_cases hlt : k < rs.length
    · obtain ⟨r, hrk⟩ : ∃ r, rs[k]? = some r := ⟨_, List.getElem?_eq_getElem hlt⟩
      have hRk := HR.out.grown HG.out (fun b hb => HNE.out b hb.1)
      obtain ⟨b, o, rfl, -, -, -⟩ := hRk (by rw [List.length_map]; omega)
      have hc := rowi_at hRk hrk
      have RR := Lib.hid ((HRS.out r (List.mem_of_getElem? hrk)).grown HG.out (fun b hb => HNE.out b hb.1))
      obtain ⟨hrl, hri⟩ := HRL.out r (List.mem_of_getElem? hrk)
      have KE := Lib.hid (fun (w' : World) (hg : wr.grownBy w' none) => encode_any r.a r.vs r.c w' ((RR.out.grown hg (by simp)).mono (fun _ _ _ => trivial)) (by omega) hri)
      have HXK := Lib.hid (HX.out k)
      have HNX := Lib.hid (flat_one' (fun r : RowI => blkP (colX r.vs)) hrk)
      have hcl := colX_len hri hrl
      have i1 : (k : Int) < (rs.length : Int) := by omega
      have i2 : (0 : Int) ≤ (k : Int) := by omega
      clear hrk hRk hri
      go_wp2_with fail
      refine (KE.out _ (only_refl _ _)).mono ?_
      rintro e w2 ⟨v2, rfl, hB2, hG2⟩
      obtain ⟨A2, c2, e2, hc2, hm2, hl2, hr2⟩ := Rd.of_own hB2 (by decide)
      subst e2
      have R2 := Lib.hid hr2
      have B2 : Hid (Byts base w2 u0 (xs ++ (rs.take k).flatMap (fun r => blkP (colX r.vs)))) := Lib.hid (own_ext HB.out hG2)
      have G2 := Lib.hid hG2
      have hz2 := hG2.size
      have hlt0 : ∀ g, u0.ownBlock = some g → g < wr.heap.size := fun g e => (World.ownsRow.lt HB.out g e).2
      have HLT := Lib.hid hlt0
      clear hB2 hG2 hr2 hl2 hlt0
      go_wp2_with fail
      refine (pblock_any base u0 (xs ++ (rs.take k).flatMap (fun r => blkP (colX r.vs))) A2 (colX r.vs) c2 _ w2 B2.out R2.out (fun b hb e => by have := HLT.out b e.symm; have h0 : wr.heap.size ≤ b := hb; omega) HXK.out (by omega) (by omega)).mono ?_
      rintro e w3 ⟨v3, rfl, hB3, hO3⟩
      have B3 : Hid (Byts base w3 v3 (xs ++ (rs.take (k + 1)).flatMap (fun r => blkP (colX r.vs)))) := Lib.hid (by rw [HNX.out, ← List.append_assoc]; exact hB3)
      have O3 : Hid (Onto w v v3 w3) := Lib.hid (HO.out.trans (Onto.trans (Onto.quiet G2.out) hO3))
      clear hB3 hO3
      go_wp2_with fail
      go_roundw
      case rel => exact ⟨k + 1, by omega, by go_num, B3.out, O3.out⟩
      case measure => simp [intOf]; omega
    · have i1 : ¬ (k : Int) < (rs.length : Int) := by omega
      have hkE : (rs.take k) = rs := List.take_of_length_le (by omega)
      have B9 : Hid (Byts base wr u0 (xs ++ rs.flatMap (fun r => blkP (colX r.vs)))) := Lib.hid (by have h9 := HB.out; rw [hkE] at h9; exact h9)
      clear hkE
      go_wp2_with fail
      go_ret
      exact ⟨u0, rfl, B9.out, HO.out⟩
set_option maxHeartbeats 2000000 in
theorem encoded_any {S : Nat → Prop} (base : Nat) (v : Value) (xs : List Int) (A : Option Addr) (ds : List ByteArray) (c : Nat) (w : World) (h : Byts base w v xs) (hr : Rd S w A (ds.map .string)) (hl : ds.length ≤ 8000) (hz8 : ∀ x ∈ ds, x.size ≤ 250) (hx : xs.length ≤ 4000000) (hb : base ≤ w.heap.size) :
    Calls Tryz.prog 60 #[v, .slice A ds.length c] w (VPost base w v (xs ++ blkP (dicX ds))) := by
  have H := Lib.hid h
  have K := Lib.hid (dencode_any A ds c w hr hl hz8)
  have hdl : (dicX ds).length ≤ 2100000 := dicX_len hz8 hl
  clear h hr hz8
  go_enter Tryz.func60, Tryz.ntmps60
  go_wp2_with fail
  refine K.out.mono ?_
  rintro e w2 ⟨v2, rfl, hB2, hG2⟩
  obtain ⟨A2, c2, e2, hc2, hm2, hl2, hr2⟩ := Rd.of_own hB2 (by decide)
  subst e2
  have R2 := Lib.hid hr2
  have G2 := Lib.hid hG2
  have B2 : Hid (Byts base w2 v xs) := Lib.hid (own_ext H.out hG2)
  have HLT : Hid (∀ g, v.ownBlock = some g → g < w.heap.size) := Lib.hid (fun g e => (World.ownsRow.lt H.out g e).2)
  have hz2 := hG2.size
  clear hB2 hG2 hr2 hl2
  go_wp2_with fail
  refine (pblock_any base v xs A2 (dicX ds) c2 _ w2 B2.out R2.out (fun b hb e => by have := HLT.out b e.symm; have h0 : w.heap.size ≤ b := hb; omega) (by omega) (by omega) (by omega)).mono ?_
  rintro e w3 ⟨v3, rfl, hB3, hO3⟩
  have B3 := Lib.hid hB3
  have O3 : Hid (Onto w v v3 w3) := Lib.hid ((Onto.quiet G2.out).trans hO3)
  clear hB3 hO3
  go_wp2_with fail
  go_ret
  exact ⟨v3, rfl, B3.out, O3.out⟩
theorem dist_sub (ts : List ByteArray) : (dist ts).length ≤ ts.length := dist_len ts
theorem bOut_ok {ts : List ByteArray} (hl : ts.length ≤ 8000) (hz : ∀ x ∈ ts, x.size ≤ 250) : bOut ts = dist ts ∧ bErr ts = 0 := by
  have h1 := dist_len ts
  have h2 : ¬ Long ts := by rintro ⟨x, hx, h⟩; have := hz x hx; omega
  have h3 : bErr ts = 0 := by unfold bErr; rw [if_neg h2, if_neg (by omega)]
  exact ⟨by unfold bOut; rw [if_pos h3], h3⟩
set_option maxHeartbeats 4000000 in
set_option maxRecDepth 100000 in
theorem coded_any {S : Nat → Prop} (base : Nat) (v : Value) (xs : List Int) (A : Option Addr) (ts : List ByteArray) (c : Nat) (w : World) (h : Byts base w v xs) (hr : Rd S w A (ts.map .string)) (hne : ∀ b, S b → some b ≠ v.ownBlock) (hl : ts.length ≤ 8000) (hz8 : ∀ x ∈ ts, x.size ≤ 250) (hc : ts.length ≤ c) (hnil : A = none → c = 0) (hx : xs.length ≤ 4000000) (hb : base ≤ w.heap.size) :
    Calls Tryz.prog 25 #[v, .slice A ts.length c] w (VPost base w v (xs ++ idxX ts)) := by
  have H := Lib.hid h
  have HR := Lib.hid (hr.mono (S' := fun b => S b ∧ b < w.heap.size) (fun b h1 h2 => ⟨h1, h2⟩))
  have HNE := Lib.hid hne
  obtain ⟨hbo, hbe⟩ := bOut_ok hl hz8
  have K := Lib.hid (build_any A ts c w hr (by omega) hc hnil)
  have HBO := Lib.hid hbo
  have HBE := Lib.hid hbe
  have HZ8 := Lib.hid hz8
  have HDZ : Hid (∀ x ∈ dist ts, x.size ≤ 250) := Lib.hid (fun x hx => hz8 x ((dist_mem _ _).1 hx))
  obtain ⟨d, hd⟩ : ∃ d, d = dist ts := ⟨_, rfl⟩
  have hdl : d.length ≤ ts.length := by rw [hd]; exact dist_len ts
  have HD : Hid (idxX ts = blkP (dicX d) ++ blkP (colX (ts.map (fun t => (ixOf d t : Int))))) := Lib.hid (by rw [hd]; rfl)
  rw [← hd] at HBO HDZ
  clear h hr hne hbo hbe hz8 hd
  have hdx : (dicX d).length ≤ 2100000 := dicX_len HDZ.out (by omega)
  have HIX : Hid (∀ x ∈ ts.map (fun t => (ixOf d t : Int)), I64 x) := Lib.hid (fun x hx => by
    obtain ⟨t, -, rfl⟩ := List.mem_map.1 hx
    have := ixOf_le d t
    unfold I64
    omega)
  have hcx := colX_len HIX.out (by rw [List.length_map]; omega)
  rw [List.length_map] at hcx
  go_enter Tryz.func25, Tryz.ntmps25
  go_wp2_with fail
  refine K.out.mono ?_
  rintro e w2 ⟨A2, c2, he2, hr2, hg2⟩
  rw [HBO.out, HBE.out] at he2
  rw [HBO.out] at hr2
  subst he2
  have R2 := Lib.hid hr2
  have G2 := Lib.hid hg2
  have hz2 := hg2.size
  clear K hr2 hg2
  go_wp2_with fail
  go_loopw [7, 19] (fun u i wr => ∃ k : Nat, k ≤ ts.length ∧ i = .int .i64 k ∧ wr.ownsRow w2.heap.size 3 1 u k ((ts.take k).map (fun t => Value.int .i64 (ixOf d t : Nat))) ∧ w2.grownBy wr none) (fun _ i _ => ts.length - (intOf i).toNat)
  case atStart => exact ⟨0, Nat.zero_le _, rfl, World.ownsRow_nil _ _ _ _, only_refl _ _⟩
  case round =>
    obtain ⟨k, hk, rfl, hO, hG⟩ := hrel
    have OO := Lib.hid hO
    have GG := Lib.hid hG
    have hzr := hG.size
    clear hO hG
    by_cases hlt : k < ts.length
    · obtain ⟨b, off, x, rfl, hc0, hx0⟩ := (HR.out.grown (only_trans G2.out GG.out) (by simp)).str_at hlt
      have HT : Hid (ts.take (k + 1) = ts.take k ++ [x]) := Lib.hid (by obtain ⟨h1, e⟩ := List.getElem?_eq_some_iff.1 hx0.out; rw [List.take_succ_eq_append_getElem h1, e])
      have KI := Lib.hid (fun (w' : World) (hg : wr.grownBy w' none) => pindex_any A2 d c2 x w' ((R2.out.grown GG.out (by simp)).grown hg (by simp)) (by omega))
      have i1 : (k : Int) < (ts.length : Int) := by omega
      have i2 : (0 : Int) ≤ (k : Int) := by omega
      clear hx0
      go_wp2_with fail
      refine (KI.out _ (only_refl _ _)).mono ?_
      rintro e w4 ⟨rfl, q, hw4⟩
      have O4 : Hid (w4.ownsRow w2.heap.size 3 1 u7 k ((ts.take k).map (fun t => Value.int .i64 (ixOf d t : Nat)))) := Lib.hid (by rw [hw4]; exact own_ext OO.out (only_drewN (only_refl _ _) q))
      have G4 : Hid (w2.grownBy w4 none) := Lib.hid (by rw [hw4]; exact only_drewN GG.out q)
      have hz4 := G4.out.size
      clear hw4 KI hc0
      go_wp2_with (at_builtin; go_must (refine wpList_append1 rfl _ _ 47 rfl w2.heap.size Tryz.underlying47 intInfoS rfl (by decide) (v := u7) (by rfl) (w0 := w4) (cs := #[.int .i64 (ixOf d x : Nat)]) O4.out (by rfl) rfl (by simp [Value.oneCell']) (by decide) (by omega) (by omega) ?_); intro v5 w5 hown5 hg5 hob5; have G5 : Hid (w2.grownBy w5 none) := Lib.hid (only_own G4.out hg5 O4.out (Nat.le_refl _)); have O5 : Hid (w5.ownsRow w2.heap.size 3 1 v5 (k + 1) ((ts.take (k + 1)).map (fun t => Value.int .i64 (ixOf d t : Nat)))) := Lib.hid (by rw [HT.out, List.map_append]; exact hown5); clear hown5 hg5 hob5)
      go_roundw
      case rel => exact ⟨k + 1, by omega, by go_num, O5.out, G5.out⟩
      case measure => simp [intOf]; omega
    · have i1 : ¬ (k : Int) < (ts.length : Int) := by omega
      have hkE : k = ts.length := by omega
      subst hkE
      obtain ⟨A6, c6, e6, hc6, hm6, -, hr6⟩ := Rd.of_own OO.out (by decide)
      rw [List.take_length] at hr6
      subst e6
      have R6 := Lib.hid hr6
      have HLT : Hid (∀ g, v.ownBlock = some g → g < w.heap.size) := Lib.hid (fun g e => (World.ownsRow.lt H.out g e).2)
      have B6 : Hid (Byts base wr v xs) := Lib.hid (own_ext H.out (only_trans G2.out GG.out))
      clear hr6 hlt
      go_wp2_with fail
      refine (encoded_any base v xs A2 d c2 wr B6.out (R2.out.grown GG.out (by simp)) (by omega) HDZ.out (by omega) (by omega)).mono ?_
      rintro e w7 ⟨v7, rfl, hB7, hO7⟩
      have B7 := Lib.hid hB7
      have O7 : Hid (Onto w v v7 w7) := Lib.hid ((Onto.quiet (only_trans G2.out GG.out)).trans hO7)
      have R7 : Hid (Rd (fun b => w2.heap.size ≤ b ∧ b < wr.heap.size) w7 A6 ((ts.map (fun t => (ixOf d t : Int))).map (.int .i64))) := Lib.hid (by
        have h1 := (R6.out.mono (S' := fun b => w2.heap.size ≤ b ∧ b < wr.heap.size) (fun b h1 h2 => ⟨h1, h2⟩)).grown hO7.1 (fun b hb e => by have := HLT.out b e.symm; omega)
        rw [List.map_map]; exact h1)
      have hz7 := hO7.1.size
      have HNE7 : Hid (∀ b, (w2.heap.size ≤ b ∧ b < wr.heap.size) → some b ≠ v7.ownBlock) := Lib.hid (hO7.ne (fun b hb => hb.2) (fun b hb e => by have := HLT.out b e.symm; omega))
      have hbl : (blkP (dicX d)).length ≤ (dicX d).length + 10 := blkP_len (by omega)
      have hbc : (blkP (colX (ts.map (fun t => (ixOf d t : Int))))).length ≤ (colX (ts.map (fun t => (ixOf d t : Int)))).length + 10 := blkP_len (by omega)
      obtain ⟨cs, hcs⟩ : ∃ cs, cs = ts.map (fun t => (ixOf d t : Int)) := ⟨_, rfl⟩
      have hcl : cs.length = ts.length := by rw [hcs, List.length_map]
      rw [← hcs] at R7 HIX HD hbc hcx
      have hdx2 := hdx
      clear hB7 hO7 R6 B6 hcs
      obtain ⟨W8, hW8⟩ : ∃ W, W = w7.alloc (.cells #[.slice A6 ts.length c6] 47) := ⟨_, rfl⟩
      have hg8 : w7.grownBy W8 none := by rw [hW8]; exact only_alloc (only_refl _ _) _
      have hb8 : Blk W8 w7.heap.size 47 #[.slice A6 ts.length c6] := by rw [hW8]; exact Blk.new _ _ _
      have B8 : Hid (Byts base W8 v7 (xs ++ blkP (dicX d))) := Lib.hid (own_ext B7.out hg8)
      have HL7 : Hid (∀ g, v7.ownBlock = some g → g < w7.heap.size) := Lib.hid (fun g e => (World.ownsRow.lt B7.out g e).2)
      have KC : Hid (Calls Tryz.prog 59 #[v7, .slice (some ⟨w7.heap.size, 0, none⟩) 1 1] W8 (VPost base W8 v7 ((xs ++ blkP (dicX d)) ++ blkP (colX cs)))) := Lib.hid (by
        have h := columns_any (S := fun b => (w2.heap.size ≤ b ∧ b < wr.heap.size) ∨ b = w7.heap.size) base v7 (xs ++ blkP (dicX d)) (some ⟨w7.heap.size, 0, none⟩) [⟨A6, cs, c6⟩] 1 W8 B8.out
          (fun _ => ⟨w7.heap.size, 0, rfl, .inr rfl, hb8.lt, fun j u hu => by rw [Nat.zero_add, hb8.cell j]; simpa [RowI.cell, hcl] using hu⟩)
          (fun r hr => by rw [List.mem_singleton] at hr; subst hr; exact ⟨(R7.out.grown hg8 (by simp)).mono (fun b hb _ => .inl hb), by simp only []; omega, HIX.out⟩)
          (fun b hb e => by
            rcases hb with hb | hb
            · exact HNE7.out b hb e
            · subst hb; have := HL7.out _ e.symm; omega) (by simp)
          (fun k => by
            rw [List.length_append, List.length_append]
            have h9 : ((([⟨A6, cs, c6⟩] : List RowI).take k).flatMap (fun r => blkP (colX r.vs))).length ≤ (blkP (colX cs)).length := by
              cases k with
              | zero => simp
              | succ k => simp
            omega) (by have := hg8.size; omega)
        simpa using h)
      have HW8 := Lib.hid hW8.symm
      have hz8 := hg8.size
      have G8 := Lib.hid hg8
      clear hW8 hb8 hg8 HNE7 R7
      go_wp2_with fail
      rw [HW8.out]
      refine KC.out.mono ?_
      rintro e w9 ⟨v9, rfl, hB9, hO9⟩
      have B9 : Hid (Byts base w9 v9 (xs ++ idxX ts)) := Lib.hid (by rw [HD.out, ← List.append_assoc]; exact hB9)
      have O9 : Hid (Onto w v v9 w9) := Lib.hid ((O7.out.trans (Onto.quiet G8.out)).trans hO9)
      clear hB9 hO9
      go_wp2_with fail
      go_ret
      exact ⟨v9, rfl, B9.out, O9.out⟩
end Go.Proofs.YtpaiideboodaeaaGreatDoor

namespace Go.Proofs
open Go.Shelf
def Tryz.keys111_ren : Go.Shelf.Ren := ⟨fun | 7 => 111 | 10 => 172 | n => n, fun | 23 => 108 | 26 => 9 | 3 => 47 | 28 => 164 | 0 => 0 | 27 => 163 | 33 => 158 | 4 => 4 | n => n, fun | n => n⟩
theorem Tryz.keys111 : Go.Proofs.SlLaysZ.n7 Tryz.prog Tryz.keys111_ren := {
  mixed := by kernel_rfl
  f7 := ⟨Tryz.f111.name, by decide, Tryz.func111.trans (congrArg some (by kernel_rfl))⟩
  f10 := ⟨Tryz.f172.name, by decide, Tryz.func172.trans (congrArg some (by kernel_rfl))⟩
  t0 := Tryz.underlying0
  a0 := Tryz.isAgg0
  z0 := Tryz.sizeOf0
  v0 := Tryz.zeroValue0
  t4 := Tryz.underlying4
  a4 := Tryz.isAgg4
  z4 := Tryz.sizeOf4
  v4 := Tryz.zeroValue4
  t23 := Tryz.underlying108
  a23 := Tryz.isAgg108
  z23 := Tryz.sizeOf108
  v23 := Tryz.zeroValue108
  t26 := Tryz.underlying9
  a26 := Tryz.isAgg9
  z26 := Tryz.sizeOf9
  v26 := Tryz.zeroValue9
  t27 := Tryz.underlying163
  a27 := Tryz.isAgg163
  z27 := Tryz.sizeOf163
  v27 := Tryz.zeroValue163
  t28 := Tryz.underlying164
  a28 := Tryz.isAgg164
  z28 := Tryz.sizeOf164
  v28 := Tryz.zeroValue164
  t33 := Tryz.underlying158
  a33 := Tryz.isAgg158
  z33 := Tryz.sizeOf158
  v33 := Tryz.zeroValue158 }
def Tryz.sorted110_ren : Go.Shelf.Ren := ⟨fun | 6 => 110 | 8 => 171 | 9 => 43 | 11 => 211 | 13 => 77 | 12 => 76 | 23 => 135 | 24 => 136 | 14 => 126 | 15 => 127 | 16 => 128 | 17 => 129 | 18 => 130 | 19 => 131 | 20 => 132 | 21 => 133 | 22 => 134 | 25 => 186 | 26 => 187 | 27 => 188 | 28 => 189 | 29 => 190 | 30 => 191 | 31 => 223 | n => n, fun | 26 => 9 | 28 => 164 | 24 => 39 | 0 => 0 | 3 => 3 | 37 => 81 | 48 => 70 | 50 => 69 | 4 => 4 | 40 => 181 | 39 => 180 | 45 => 113 | 5 => 5 | 9 => 9 | 51 => 221 | 55 => 58 | 57 => 246 | 58 => 247 | 33 => 158 | n => n, fun | n => n⟩
theorem Tryz.sorted110 : Go.Proofs.SlLaysZ.n6 Tryz.prog Tryz.sorted110_ren := {
  mixed := by kernel_rfl
  f6 := ⟨Tryz.f110.name, by decide, Tryz.func110.trans (congrArg some (by kernel_rfl))⟩
  f8 := ⟨Tryz.f171.name, by decide, Tryz.func171.trans (congrArg some (by kernel_rfl))⟩
  f11 := ⟨Tryz.f211.name, by decide, Tryz.func211.trans (congrArg some (by kernel_rfl))⟩
  t0 := Tryz.underlying0
  a0 := Tryz.isAgg0
  z0 := Tryz.sizeOf0
  v0 := Tryz.zeroValue0
  t24 := Tryz.underlying39
  a24 := Tryz.isAgg39
  z24 := Tryz.sizeOf39
  v24 := Tryz.zeroValue39
  t26 := Tryz.underlying9
  a26 := Tryz.isAgg9
  z26 := Tryz.sizeOf9
  v26 := Tryz.zeroValue9
  t28 := Tryz.underlying164
  a28 := Tryz.isAgg164
  z28 := Tryz.sizeOf164
  v28 := Tryz.zeroValue164
  i26 := by kernel_rfl }
def Tryz.sort43_ren : Go.Shelf.Ren := ⟨fun | 6 => 43 | 8 => 77 | 9 => 76 | 19 => 135 | 20 => 136 | 21 => 126 | 22 => 127 | 23 => 128 | 24 => 129 | 25 => 130 | 26 => 131 | 27 => 132 | 28 => 133 | 29 => 134 | 36 => 186 | 31 => 187 | 32 => 188 | 37 => 189 | 38 => 190 | 39 => 191 | 41 => 223 | n => n, fun | 27 => 39 | 29 => 9 | 3 => 3 | 32 => 81 | 26 => 39 | 0 => 0 | 44 => 70 | 46 => 69 | 4 => 4 | 36 => 181 | 35 => 180 | 41 => 113 | 5 => 5 | 9 => 9 | 53 => 221 | 57 => 58 | 63 => 246 | 64 => 247 | n => n, fun | n => n⟩
theorem Tryz.sort43 : Go.Proofs.SlLaysM.n6 Tryz.prog Tryz.sort43_ren := {
  mixed := by kernel_rfl
  f6 := ⟨Tryz.f43.name, by decide, Tryz.func43.trans (congrArg some (by kernel_rfl))⟩
  f8 := Tryz.func77.trans (congrArg some (by kernel_rfl))
  f9 := ⟨Tryz.f76.name, by decide, Tryz.func76.trans (congrArg some (by kernel_rfl))⟩
  f19 := Tryz.func135.trans (congrArg some (by kernel_rfl))
  f20 := Tryz.func136.trans (congrArg some (by kernel_rfl))
  f21 := ⟨Tryz.f126.name, by decide, Tryz.func126.trans (congrArg some (by kernel_rfl))⟩
  f22 := ⟨Tryz.f127.name, by decide, Tryz.func127.trans (congrArg some (by kernel_rfl))⟩
  f23 := ⟨Tryz.f128.name, by decide, Tryz.func128.trans (congrArg some (by kernel_rfl))⟩
  f24 := ⟨Tryz.f129.name, by decide, Tryz.func129.trans (congrArg some (by kernel_rfl))⟩
  f25 := ⟨Tryz.f130.name, by decide, Tryz.func130.trans (congrArg some (by kernel_rfl))⟩
  f26 := ⟨Tryz.f131.name, by decide, Tryz.func131.trans (congrArg some (by kernel_rfl))⟩
  f27 := ⟨Tryz.f132.name, by decide, Tryz.func132.trans (congrArg some (by kernel_rfl))⟩
  f28 := ⟨Tryz.f133.name, by decide, Tryz.func133.trans (congrArg some (by kernel_rfl))⟩
  f29 := ⟨Tryz.f134.name, by decide, Tryz.func134.trans (congrArg some (by kernel_rfl))⟩
  f31 := Tryz.func187.trans (congrArg some (by kernel_rfl))
  f32 := Tryz.func188.trans (congrArg some (by kernel_rfl))
  f36 := ⟨Tryz.f186.name, by decide, Tryz.func186.trans (congrArg some (by kernel_rfl))⟩
  f37 := ⟨Tryz.f189.name, by decide, Tryz.func189.trans (congrArg some (by kernel_rfl))⟩
  f38 := ⟨Tryz.f190.name, by decide, Tryz.func190.trans (congrArg some (by kernel_rfl))⟩
  f39 := ⟨Tryz.f191.name, by decide, Tryz.func191.trans (congrArg some (by kernel_rfl))⟩
  f41 := ⟨Tryz.f223.name, by decide, Tryz.func223.trans (congrArg some (by kernel_rfl))⟩
  t0 := Tryz.underlying0
  a0 := Tryz.isAgg0
  z0 := Tryz.sizeOf0
  v0 := Tryz.zeroValue0
  t3 := Tryz.underlying3
  a3 := Tryz.isAgg3
  z3 := Tryz.sizeOf3
  v3 := Tryz.zeroValue3
  t4 := Tryz.underlying4
  a4 := Tryz.isAgg4
  z4 := Tryz.sizeOf4
  v4 := Tryz.zeroValue4
  t5 := Tryz.underlying5
  a5 := Tryz.isAgg5
  z5 := Tryz.sizeOf5
  v5 := Tryz.zeroValue5
  t9 := Tryz.underlying9
  a9 := Tryz.isAgg9
  z9 := Tryz.sizeOf9
  v9 := Tryz.zeroValue9
  t26 := Tryz.underlying39
  a26 := Tryz.isAgg39
  z26 := Tryz.sizeOf39
  v26 := Tryz.zeroValue39
  t27 := Tryz.underlying39
  a27 := Tryz.isAgg39
  z27 := Tryz.sizeOf39
  v27 := Tryz.zeroValue39
  t29 := Tryz.underlying9
  a29 := Tryz.isAgg9
  z29 := Tryz.sizeOf9
  v29 := Tryz.zeroValue9
  t32 := Tryz.underlying81
  a32 := Tryz.isAgg81
  z32 := Tryz.sizeOf81
  v32 := Tryz.zeroValue81
  t35 := Tryz.underlying180
  a35 := Tryz.isAgg180
  z35 := Tryz.sizeOf180
  v35 := Tryz.zeroValue180
  t36 := Tryz.underlying181
  a36 := Tryz.isAgg181
  z36 := Tryz.sizeOf181
  v36 := Tryz.zeroValue181
  t41 := Tryz.underlying113
  a41 := Tryz.isAgg113
  z41 := Tryz.sizeOf113
  v41 := Tryz.zeroValue113
  t44 := Tryz.underlying70
  a44 := Tryz.isAgg70
  z44 := Tryz.sizeOf70
  v44 := Tryz.zeroValue70
  t46 := Tryz.underlying69
  a46 := Tryz.isAgg69
  z46 := Tryz.sizeOf69
  v46 := Tryz.zeroValue69
  t53 := Tryz.underlying221
  a53 := Tryz.isAgg221
  z53 := Tryz.sizeOf221
  v53 := Tryz.zeroValue221
  t57 := Tryz.underlying58
  a57 := Tryz.isAgg58
  z57 := Tryz.sizeOf58
  v57 := Tryz.zeroValue58
  t63 := Tryz.underlying246
  a63 := Tryz.isAgg246
  z63 := Tryz.sizeOf246
  v63 := Tryz.zeroValue246
  t64 := Tryz.underlying247
  a64 := Tryz.isAgg247
  z64 := Tryz.sizeOf247
  v64 := Tryz.zeroValue247 }
open Go.RowKit Go.Maps Go.Sort
/-- slices.Sort's two contracts at this dump, at the fence that asks nothing. -/
theorem Tryz.sorts110 (m : Nat) : AnyZ.SortsIn Tryz.prog Tryz.sorted110_ren Fence.wide m :=
  ⟨fun blk off cap ss W hH hblk hsz => callsIn_wide.2 (AnyM.slices_Sort_string Tryz.sort43 blk off cap ss W hH hblk hsz),
   fun p cap W => callsIn_wide.2 (AnyM.slices_Sort_string_none Tryz.sort43 p cap W)⟩

/-- **maps.Keys[logtide/segment.index,string,[]int], at whatever map, the nil one too:** a function value over ONE NEW BLOCK, which holds the map. -/
theorem Tryz.maps_Keys_111 (mb : Option Nat) (W : World) : CallsIn Fence.wide 5 Tryz.prog 111 #[.map mb] W fun e w' => e = .returned (.func (.func 172) #[] #[.pointer (some ⟨W.heap.size, 0, none⟩)]) ∧ w' = W.alloc (.cells #[.map mb] 108) :=
  AnyZ.keys_in Tryz.keys111 Fence.wide 5 trivial rfl mb W

set_option maxHeartbeats 1000000 in
/-- **slices.Sorted[string] AT WHAT maps.Keys[logtide/segment.index,string,[]int] HANDED BACK FOR A MAP THAT IS NOT nil** ('w': the world AHEAD of maps.Keys' call): A NEW SLICE THAT HOLDS THE MAP's KEYS, SORTED; nil just where it has none; nothing that lay before has turned. -/
theorem Tryz.slices_Sorted_keys_110_111 {H : Type} (b nn : Nat) (D0 : DataW H) (R : Value → Option (DataW H × List MemPlace)) (w : World) (hown : w.ownsMap Tryz.prog 9 R b nn D0) (hmax : Maps.size D0 ≤ maxLen) (hbytes : Maps.size D0 * 16 ≤ 140737488355328) :
    CallsIn Fence.wide 5 Tryz.prog 110 #[.func (.func 172) #[] #[.pointer (some ⟨w.heap.size, 0, none⟩)]] (w.alloc (.cells #[.map (some b)] 108)) fun e w' => ∃ (v : Value) (ss : List (List UInt8)), e = .returned v ∧ ss.Perm (strKeys D0) ∧
      w'.ownsRow (w.alloc (.cells #[.map (some b)] 108)).heap.size 9 1 v ss.length ((ss.mergeSort (fun x y => decide (x ≤ y))).map encStr) ∧ (v = .slice none 0 0 ↔ ss = []) ∧ Below (w.alloc (.cells #[.map (some b)] 108)).heap.size (w.alloc (.cells #[.map (some b)] 108)) w' := by
  have hbl := hown.lt
  have hseq : SeqGives Fence.wide 2 Tryz.prog 172 #[.pointer (some ⟨w.heap.size, 0, none⟩)] encStr (fun ss => ss.Perm (strKeys D0)) (Maps.size D0) (w.alloc (.cells #[.map (some b)] 108)) :=
    AnyZ.keys_gives (ρ := Tryz.keys111_ren) { Tryz.keys111 with } Fence.wide _ trivial rfl (by omega) w.heap.size b nn D0 _ (by simp) (by simp) (by
      obtain ⟨es, clock, hb, Ft, hs, hD⟩ := hown
      exact ⟨es, clock, (Below.heap_alloc _ _ b hbl).trans hb, Ft, hs, hD⟩)
  exact AnyZ.sorted_in Tryz.sorted110 Fence.wide 5 trivial trivial trivial trivial rfl (by omega) (Tryz.sorts110 _) (enters_of Tryz.func43 (by kernel_rfl) rfl) 172 #[.pointer (some ⟨w.heap.size, 0, none⟩)] trivial (enters_of Tryz.func172 (by kernel_rfl) rfl) _ _ hmax hbytes _ hseq

set_option maxHeartbeats 1000000 in
/-- **.. AND FOR THE nil MAP: nil.** -/
theorem Tryz.slices_Sorted_keys_nil_110_111 (w : World) :
    CallsIn Fence.wide 5 Tryz.prog 110 #[.func (.func 172) #[] #[.pointer (some ⟨w.heap.size, 0, none⟩)]] (w.alloc (.cells #[.map none] 108)) fun e w' => ∃ (v : Value) (ss : List (List UInt8)), e = .returned v ∧ ss = [] ∧
      w'.ownsRow (w.alloc (.cells #[.map none] 108)).heap.size 9 1 v ss.length ((ss.mergeSort (fun x y => decide (x ≤ y))).map encStr) ∧ (v = .slice none 0 0 ↔ ss = []) ∧ Below (w.alloc (.cells #[.map none] 108)).heap.size (w.alloc (.cells #[.map none] 108)) w' := by
  have hseq : SeqGives Fence.wide 2 Tryz.prog 172 #[.pointer (some ⟨w.heap.size, 0, none⟩)] encStr (fun ss : List (List UInt8) => ss = []) 0 (w.alloc (.cells #[.map none] 108)) :=
    AnyZ.keys_gives_nil (ρ := Tryz.keys111_ren) { Tryz.keys111 with } Fence.wide _ trivial rfl w.heap.size _ (by simp) (by simp)
  exact AnyZ.sorted_in Tryz.sorted110 Fence.wide 5 trivial trivial trivial trivial rfl (by omega) (Tryz.sorts110 _) (enters_of Tryz.func43 (by kernel_rfl) rfl) 172 #[.pointer (some ⟨w.heap.size, 0, none⟩)] trivial (enters_of Tryz.func172 (by kernel_rfl) rfl) _ 0 (Nat.zero_le _) (by omega) _ hseq

end Go.Proofs
