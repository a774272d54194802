/- indexed, values: the reference of chapter 27. Conditions: sizes. -/
import Derived.Test.YtpaiideboodaeaaGreatDoorJRIdx
namespace Go.Proofs.YtpaiideboodaeaaGreatDoor
open Go.RowKit
set_option linter.unusedVariables false
set_option linter.unusedSimpArgs false

theorem colX_len {vs : List Int} (h : ∀ x ∈ vs, I64 x) (hl : vs.length ≤ 16384) : (colX vs).length ≤ 10 * vs.length + 11 := by
  have h0 : (colB 0 vs).length ≤ 10 * vs.length + 11 := by
    unfold colB
    split
    · have h1 := genTo_len (plF vs) 10 (plF_len h) vs.length
      have h2 := vint_len10 (n := vs.length) (by omega)
      have h3 : bodyB 0 vs = genTo (plF vs) vs.length := if_pos rfl
      rw [h3, List.length_append, List.length_append, List.length_singleton]
      omega
    · simp
  have key : ∀ k : Nat, 1 ≤ k → (bestTo vs k).length ≤ (colB 0 vs).length := by
    intro k
    induction k with
    | zero => intro h; omega
    | succ k ih =>
      intro _
      by_cases hk : k = 0
      · subst hk; exact Nat.le_refl _
      · rw [best_step vs (by omega)]
        have h1 := ih (by omega)
        unfold sh
        split <;> omega
  exact Nat.le_trans (key 4 (by omega)) h0
theorem NewB.row {w w' : World} {xs : List Int} {e : Ending} (h : NewB w xs e w') : ∃ A c, e = .returned (.slice A xs.length c) ∧ xs.length ≤ c ∧ c ≤ maxLen ∧ Rd (w.heap.size ≤ ·) w' A (xs.map (.int .u8)) ∧ w.grownBy w' none := by
  obtain ⟨v, rfl, hB, hG⟩ := h
  obtain ⟨A, c, rfl, h1, h2, -, h3⟩ := Rd.of_own hB (by decide)
  exact ⟨A, c, rfl, h1, h2, h3, hG⟩
theorem intInfoS : (Tryz.prog.info? 3).map (fun i => (i.zero, i.size, i.bytes)) = some (some (.int .i64 0), 1, 8) := by kernel_rfl
theorem dist_sz {ws : List ByteArray} {m : Nat} (h : ∀ x ∈ ws, x.size ≤ m) : ∀ x ∈ dist ws, x.size ≤ m := fun x hx => h x ((dist_mem ws x).1 hx)
theorem dicX_len {ds : List ByteArray} (h : ∀ x ∈ ds, x.size ≤ 250) (hl : ds.length ≤ 8000) : (dicX ds).length ≤ 2100000 := encR_len2 h hl
theorem blkP_len {b : List Int} (h : b.length < 18446744073709551616) : (blkP b).length ≤ b.length + 10 := by
  have := vint_len10 h
  unfold blkP
  rw [List.length_append]
  omega
set_option maxHeartbeats 8000000 in
set_option maxRecDepth 100000 in
theorem indexed_any {S : Nat → Prop} (A : Option Addr) (os : List ByteArray) (c : Nat) (w : World) (hr : Rd S w A (os.map .string)) (hl : os.length ≤ 8000) (hsz : ∀ x ∈ os, x.size ≤ 250) (hc : os.length ≤ c) (hm : c ≤ maxLen) :
    Calls Tryz.prog 84 #[.slice A os.length c] w (NewB w (idxX os)) := by
  have HR := Lib.hid hr
  have KD := Lib.hid (dist_new A os c w hr (by omega) hc hm)
  have HDZ := Lib.hid (dist_sz hsz)
  have hdl : (dist os).length ≤ os.length := dist_len' os
  have HXL := Lib.hid (fun t => ixOf_le (dist os) t)
  have HX : Hid (idxX os = blkP (dicX (dist os)) ++ blkP (colX (os.map (fun t => (ixOf (dist os) t : Int))))) := Lib.hid rfl
  have HDL := Lib.hid (dicX_len (dist_sz hsz) (show (dist os).length ≤ 8000 by omega))
  obtain ⟨R, hR⟩ : ∃ r, r = idxX os := ⟨_, rfl⟩
  obtain ⟨ds, hds⟩ : ∃ r, r = dist os := ⟨_, rfl⟩
  rw [← hR, ← hds] at HX
  rw [← hds] at KD HDZ hdl HXL HDL
  rw [← hR]
  clear hr hR hds hsz hc hm
  go_enter Tryz.func84, Tryz.ntmps84
  go_wp2_with fail
  refine KD.out.mono ?_
  rintro e w1 ⟨AD, cD, rfl, d1, d2, d3, hg1⟩
  have G1 := Lib.hid hg1
  have RD := Lib.hid (d3.mono (S' := fun b => w.heap.size ≤ b ∧ b < w1.heap.size) (fun b h1 h2 => ⟨h1, h2⟩))
  have R1 := Lib.hid (HR.out.grown hg1 (by simp))
  have hz1 := hg1.size
  clear d1 d2 d3 hg1 KD
  go_wp2_with fail
  go_loopw [4, 5] (fun v vi wr => ∃ (k : Nat), vi = .int .i64 k ∧ k ≤ os.length ∧ wr.ownsRow w1.heap.size 3 1 v k (((os.take k).map (fun t => (ixOf ds t : Int))).map (.int .i64)) ∧ w1.grownBy wr none) (fun _ vi _ => os.length - (intOf vi).toNat)
  case atStart => exact ⟨0, rfl, Nat.zero_le _, by simpa using World.ownsRow_nil _ _ _ _, only_refl _ _⟩
  case round =>
    obtain ⟨k, rfl, hk, hO, hG⟩ := hrel
    have OO := Lib.hid hO
    have G := Lib.hid hG
    have hbase : w1.heap.size ≤ wr.heap.size := hG.size
    obtain ⟨vO, hvOd⟩ : ∃ v, v = u4 := ⟨_, rfl⟩
    rw [← hvOd] at OO ⊢
    clear hO hG hvOd
    by_cases hlt : k < os.length
    · obtain ⟨b, off, x, rfl, hc, hx⟩ := (R1.out.grown G.out (by simp)).str_at hlt
      have HSN : Hid ((os.take (k + 1)).map (fun t => (ixOf ds t : Int)) = (os.take k).map (fun t => (ixOf ds t : Int)) ++ [(ixOf ds x : Int)]) := Lib.hid (by
        have h9 := hx.out
        obtain ⟨h1, h2⟩ := List.getElem?_eq_some_iff.1 h9
        rw [List.take_succ_eq_append_getElem h1, h2, List.map_append]
        rfl)
      have KI := Lib.hid (rindex_any AD ds cD x wr (RD.out.grown G.out (by simp)) (by omega))
      have i1 : (k : Int) < (os.length : Int) := by omega
      clear hx
      go_wp2_with fail
      refine KI.out.mono ?_
      rintro e w2 ⟨rfl, nq, hw2⟩
      have O2 : Hid (w2.ownsRow w1.heap.size 3 1 vO k (((os.take k).map (fun t => (ixOf ds t : Int))).map (.int .i64))) := Lib.hid (by rw [hw2]; exact OO.out)
      have G2 : Hid (w1.grownBy w2 none) := Lib.hid (by rw [hw2]; exact only_drewN G.out nq)
      have hb2 := G2.out.size
      clear hw2 KI hc
      go_wp2_with (at_builtin; go_must (refine wpList_append1 rfl _ _ 47 rfl w1.heap.size Tryz.underlying47 intInfoS rfl (by decide) (v := vO) (by rfl) (w0 := w2) (cs := #[.int .i64 (ixOf ds x : Nat)]) O2.out (by rfl) rfl (by simp [Value.oneCell']) (by decide) (by omega) (by omega) ?_); intro v5 w5 hown5 hg5 hob5)
      have O5 : Hid (w5.ownsRow w1.heap.size 3 1 v5 (k + 1) (((os.take (k + 1)).map (fun t => (ixOf ds t : Int))).map (.int .i64))) := Lib.hid (by rw [HSN.out, List.map_append]; exact hown5)
      have G5 : Hid (w1.grownBy w5 none) := Lib.hid (only_own G2.out hg5 O2.out (Nat.le_refl _))
      clear hown5 hg5 hob5
      go_wp2_with fail
      go_roundw
      case rel => exact ⟨k + 1, by go_num, by omega, O5.out, G5.out⟩
      case measure => simp [intOf]; omega
    · have i1 : ¬ (k : Int) < (os.length : Int) := by omega
      obtain ⟨vs, hvs⟩ : ∃ vs, vs = os.map (fun t => (ixOf ds t : Int)) := ⟨_, rfl⟩
      have hvl : vs.length = os.length := by rw [hvs, List.length_map]
      have OV : Hid (wr.ownsRow w1.heap.size 3 1 vO vs.length (vs.map (.int .i64))) := Lib.hid (by
        have h := OO.out
        rw [List.take_of_length_le (by omega), ← hvs] at h
        obtain rfl : k = vs.length := by omega
        exact h)
      have HI : Hid (∀ x ∈ vs, I64 x) := Lib.hid (fun x hx => by
        rw [hvs] at hx
        obtain ⟨t, -, rfl⟩ := List.mem_map.1 hx
        have := HXL.out t
        unfold I64
        constructor <;> omega)
      have HE : Hid (R = blkP (dicX ds) ++ blkP (colX vs)) := Lib.hid (by rw [hvs]; exact HX.out)
      have hcl := colX_len HI.out (by omega)
      have hbl := blkP_len (b := dicX ds) (by have := HDL.out; omega)
      obtain ⟨AO, cO, hv, h1, h2, -, h3⟩ := Rd.of_own OV.out (by decide)
      have RO := Lib.hid (h3.mono (S' := fun b => w1.heap.size ≤ b ∧ b < wr.heap.size) (fun b h1 h2 => ⟨h1, h2⟩))
      have KDi := Lib.hid (dictionary_any AD ds cD wr (RD.out.grown G.out (by simp)) (by omega) HDZ.out)
      rw [hvl] at hv
      rw [hv]
      have HVL := Lib.hid hvl
      have hvl2 : vs.length ≤ 8000 := by omega
      clear hv h1 h2 h3 OO hvs HX OV hvl
      go_wp2_with fail
      refine KDi.out.mono ?_
      intro e w3 hN3
      obtain ⟨AB, cB, rfl, b1, b2, b3, hg3⟩ := hN3.row
      have G3 := Lib.hid (only_trans G.out hg3)
      have RO3 := Lib.hid (RO.out.grown hg3 (by simp))
      have B3 := Lib.hid b3
      have hz3 := G3.out.size
      clear b1 b2 b3 hg3 hN3 KDi
      go_wp2_with fail
      refine (putblock_any w1.heap.size _ [] AB (dicX ds) cB w3 (Byts.nil _ _) B3.out (by simp [Value.ownBlock]) (by simp) (by have := HDL.out; omega) hz3).mono ?_
      rintro e w4 ⟨v4, rfl, hB4, hO4⟩
      have B4 := Lib.hid hB4
      have G4 : Hid (w1.grownBy w4 none) := Byts.only (Byts.nil w1.heap.size w3) hO4 G3.out (Nat.le_refl _)
      have RO4 := Lib.hid (RO3.out.grown hO4.1 (by simp [Value.ownBlock]))
      have hz4 := G4.out.size
      clear hB4 hO4
      have KC := column_any AO vs cO w4 (RO4.out.mono (fun b _ _ => trivial)) (by omega) HI.out
      rw [HVL.out] at KC
      have KC := Lib.hid KC
      go_wp2_with fail
      refine KC.out.mono ?_
      intro e w5 hN5
      obtain ⟨AC, cC, rfl, b1, b2, b3, hg5⟩ := hN5.row
      have G5 := Lib.hid (only_trans G4.out hg5)
      have B5 := Lib.hid (own_ext B4.out hg5)
      have R5 := Lib.hid b3
      have hne5 : Hid (∀ b, w4.heap.size ≤ b → some b ≠ v4.ownBlock) := Lib.hid (fun b hb e => by have := (World.ownsRow.lt B4.out b e.symm).2; omega)
      have hz5 := G5.out.size
      clear b1 b2 b3 hg5 hN5 KC
      go_wp2_with fail
      refine (putblock_any w1.heap.size v4 ([] ++ blkP (dicX ds)) AC (colX vs) cC w5 B5.out R5.out hne5.out (by simp; have := HDL.out; omega) (by omega) hz5).mono ?_
      rintro e w6 ⟨v6, rfl, hB6, hO6⟩
      have B6 := Lib.hid hB6
      have G6 : Hid (w1.grownBy w6 none) := Byts.only B5.out hO6 G5.out (Nat.le_refl _)
      clear hB6 hO6
      go_wp2_with fail
      go_ret
      rw [HE.out]
      exact ⟨v6, rfl, B6.out.base hz1, only_trans G1.out G6.out⟩
end Go.Proofs.YtpaiideboodaeaaGreatDoor

namespace Go.Proofs.YtpaiideboodaeaaGreatDoor
open Go.RowKit
set_option linter.unusedVariables false
set_option linter.unusedSimpArgs false

/-- two rows that share no block -/
def Apt (a b : Value) : Prop := ∀ g, a.ownBlock = some g → b.ownBlock ≠ some g
theorem Apt.symm {a b : Value} (h : Apt a b) : Apt b a := fun g h1 h2 => h g h2 h1
theorem Apt.step {a b b' : Value} {n : Nat} (h : Apt a b) (hob : b'.ownBlock = b.ownBlock ∨ b'.ownBlock = some n) (hlt : ∀ g, a.ownBlock = some g → g < n) : Apt a b' := by
  intro g h1 h2
  rcases hob with e | e
  · exact h g h1 (e ▸ h2)
  · rw [e] at h2
    injection h2 with h2
    have := hlt g h1
    omega
theorem Apt.keep {w w' : World} {a b : Value} {base e size n : Nat} {xs : List Value} (h : Apt a b) (ho : w.ownsRow base e size a n xs) (hg : w.grownBy w' b.ownBlock) : w'.ownsRow base e size a n xs :=
  ho.kept hg (by
    cases ha : a.ownBlock with
    | none => exact .inl rfl
    | some g => exact .inr (fun hc => h g ha hc.symm))
def valsTo (es : List Ev) (nm : ByteArray) : Nat → List (Nat × ByteArray)
  | 0 => []
  | k + 1 => valsTo es nm k ++ (match es[k]? with
    | some e => (match getF e.fields nm with
      | some v => [(k, v)]
      | none => [])
    | none => [])
theorem valsTo_some {es : List Ev} {nm v : ByteArray} {k : Nat} {e : Ev} (h : es[k]? = some e) (hv : getF e.fields nm = some v) : valsTo es nm (k + 1) = valsTo es nm k ++ [(k, v)] := by
  simp only [valsTo, h, hv]
theorem valsTo_none {es : List Ev} {nm : ByteArray} {k : Nat} {e : Ev} (h : es[k]? = some e) (hv : getF e.fields nm = none) : valsTo es nm (k + 1) = valsTo es nm k := by
  simp only [valsTo, h, hv, List.append_nil]
theorem valsTo_len (es : List Ev) (nm : ByteArray) : ∀ k, (valsTo es nm k).length ≤ k
  | 0 => Nat.le_refl _
  | k + 1 => by
    have h := valsTo_len es nm k
    simp only [valsTo, List.length_append]
    split
    · split <;> simp <;> omega
    · simp; omega
def posV (ps : List (Nat × ByteArray)) : List Int := ps.map (fun p => (p.1 : Int))
def strV (ps : List (Nat × ByteArray)) : List ByteArray := ps.map (·.2)
def ValsP (w : World) (ps : List (Nat × ByteArray)) (e : Ending) (w' : World) : Prop :=
  ∃ A c B d, e = .returned (.tuple #[.slice A ps.length c, .slice B ps.length d]) ∧ ps.length ≤ c ∧ c ≤ maxLen ∧ ps.length ≤ d ∧ d ≤ maxLen ∧ Rd (w.heap.size ≤ ·) w' A ((posV ps).map (.int .i64)) ∧ Rd (w.heap.size ≤ ·) w' B ((strV ps).map .string) ∧ w.grownBy w' none
set_option maxHeartbeats 8000000 in
set_option maxRecDepth 100000 in
theorem values_any {S : Nat → Prop} (A : Option Addr) (es : List Ev) (c : Nat) (nm : ByteArray) (w : World) (hev : Evs S w A es) (hel : es.length ≤ 2000) (hs : ∀ e ∈ es, EvS e) :
    Calls Tryz.prog 149 #[.slice A es.length c, .string nm] w (ValsP w (valsTo es nm es.length)) := by
  have HEV := Lib.hid hev
  have KG : Hid (∀ (e : Ev) (w' : World), e ∈ es → w.grownBy w' none → Calls Tryz.prog 197 #[.slice e.fa e.fields.length e.fc, .string nm] w' (ValP w' (getF e.fields nm))) := Lib.hid (fun e w' he hg => rget_any e.fa e.fields e.fc nm w' ((hev.2 e he).2.1.grown hg (by simp)) (by have := (hs e he).2.2.2.1; omega))
  have HPL := Lib.hid (valsTo_len es nm)
  obtain ⟨R, hR⟩ : ∃ r, r = valsTo es nm es.length := ⟨_, rfl⟩
  have HR := Lib.hid hR
  rw [← hR]
  clear hev hs hR
  go_enter Tryz.func149, Tryz.ntmps149
  go_wp2_with fail
  go_loopw [6, 7, 8] (fun vI vS vi wr => ∃ (k : Nat) (ps : List (Nat × ByteArray)), vi = .int .i64 k ∧ k ≤ es.length ∧ Hid (valsTo es nm k = ps) ∧ wr.ownsRow w.heap.size 3 1 vI ps.length ((posV ps).map (.int .i64)) ∧ wr.ownsRow w.heap.size 9 1 vS ps.length ((strV ps).map .string) ∧ Apt vI vS ∧ w.grownBy wr none) (fun _ _ vi _ => es.length - (intOf vi).toNat)
  case atStart => exact ⟨0, [], rfl, Nat.zero_le _, Lib.hid rfl, World.ownsRow_nil _ _ _ _, World.ownsRow_nil _ _ _ _, fun g h => by simp [Value.ownBlock] at h, only_refl _ _⟩
  case round =>
    obtain ⟨k, ps, rfl, hk, HK, hO1, hO2, hA, hG⟩ := hrel
    have OI := Lib.hid hO1
    have OS := Lib.hid hO2
    have HA := Lib.hid hA
    have G := Lib.hid hG
    have hbase : w.heap.size ≤ wr.heap.size := hG.size
    have hpl : ps.length ≤ k := by rw [← HK.out]; exact HPL.out k
    obtain ⟨vI, hvI⟩ : ∃ v, v = u6 := ⟨_, rfl⟩
    obtain ⟨vS, hvS⟩ : ∃ v, v = u7 := ⟨_, rfl⟩
    rw [← hvI] at OI HA ⊢
    rw [← hvS] at OS HA ⊢
    clear hO1 hO2 hA hG hvI hvS
    by_cases hlt : k < es.length
    · obtain ⟨y, hy⟩ : ∃ y, es[k]? = some y := ⟨_, List.getElem?_eq_getElem hlt⟩
      have HY := Lib.hid hy
      obtain ⟨kb, ko, eE, hkw, -, -, -, -, -, -, -, -, -, z9⟩ := ev_in (HEV.out.1.grown G.out (by simp)) hy
      subst eE
      have K1 := Lib.hid (KG.out y wr (List.mem_of_getElem? hy) G.out)
      have i1 : (k : Int) < (es.length : Int) := by omega
      clear hy
      go_wp2_with fail
      refine K1.out.mono ?_
      rintro e w2 ⟨rfl, hg2⟩
      have G2 := Lib.hid (only_trans G.out hg2)
      have OI2 := Lib.hid (own_ext OI.out hg2)
      have OS2 := Lib.hid (own_ext OS.out hg2)
      have hb2 := G2.out.size
      clear hg2 K1 z9
      cases hgv : getF y.fields nm with
      | none =>
        have HN := Lib.hid (valsTo_none HY.out hgv)
        clear hgv
        simp only [valV]
        go_wp2_with fail
        go_roundw
        case rel => exact ⟨k + 1, ps, by go_num, by omega, Lib.hid (by rw [HN.out, HK.out]), OI2.out, OS2.out, HA.out, G2.out⟩
        case measure => simp [intOf]; omega
      | some s =>
        have HN := Lib.hid (valsTo_some HY.out hgv)
        have HLI : Hid (∀ g, vI.ownBlock = some g → g < w2.heap.size) := Lib.hid (fun g h => (World.ownsRow.lt OI2.out g h).2)
        have HLS : Hid (∀ g, vS.ownBlock = some g → g < w2.heap.size) := Lib.hid (fun g h => (World.ownsRow.lt OS2.out g h).2)
        clear hgv
        simp only [valV]
        go_wp2_with (at_builtin; first
          | (refine wpList_append1 rfl _ _ 47 rfl w.heap.size Tryz.underlying47 intInfoS rfl (by decide) (v := vI) (by rfl) (w0 := w2) (cs := #[.int .i64 (k : Nat)]) OI2.out (by rfl) rfl (by simp [Value.oneCell']) (by decide) (by omega) (by omega) ?_
             intro v5 w5 hown5 hg5 hob5
             have OI5 : Hid (w5.ownsRow w.heap.size 3 1 v5 (ps ++ [(k, s)]).length ((posV (ps ++ [(k, s)])).map (.int .i64))) := Lib.hid (by
               unfold posV
               rw [List.length_append, List.map_append, List.map_append]
               exact hown5)
             have OS5 := Lib.hid (HA.out.symm.keep OS2.out hg5)
             have HA5 : Hid (Apt v5 vS) := Lib.hid ((HA.out.symm.step hob5 (fun g h => by have := HLS.out g h; omega)).symm)
             have G5 : Hid (w.grownBy w5 none) := Lib.hid (only_own G2.out hg5 OI2.out (Nat.le_refl _))
             have hb5 := G5.out.size
             have HLI5 : Hid (∀ g, v5.ownBlock = some g → g < w5.heap.size) := Lib.hid (fun g h => (World.ownsRow.lt OI5.out g h).2)
             clear hown5 hg5 hob5)
          | (go_must (refine wpList_append1 rfl _ _ 39 rfl w.heap.size Tryz.underlying39 strInfo rfl (by decide) (v := vS) (by rfl) (w0 := w5) (cs := #[.string s]) OS5.out (by rfl) rfl (by simp [Value.oneCell']) (by decide) (by omega) (by omega) ?_)
             intro v6 w6 hown6 hg6 hob6))
        have OS6 : Hid (w6.ownsRow w.heap.size 9 1 v6 (ps ++ [(k, s)]).length ((strV (ps ++ [(k, s)])).map .string)) := Lib.hid (by
          unfold strV
          rw [List.length_append, List.map_append, List.map_append]
          exact hown6)
        have OI6 := Lib.hid (HA5.out.keep OI5.out hg6)
        have HA6 : Hid (Apt v5 v6) := Lib.hid (HA5.out.step hob6 (fun g h => by have := HLI5.out g h; omega))
        have G6 : Hid (w.grownBy w6 none) := Lib.hid (only_own G5.out hg6 OS5.out (Nat.le_refl _))
        clear hown6 hg6 hob6
        go_wp2_with fail
        go_roundw
        case rel => exact ⟨k + 1, ps ++ [(k, s)], by go_num, by omega, Lib.hid (by rw [HN.out, HK.out]), OI6.out, OS6.out, HA6.out, G6.out⟩
        case measure => simp [intOf]; omega
    · have i1 : ¬ (k : Int) < (es.length : Int) := by omega
      have HE : Hid (R = ps) := Lib.hid (by rw [HR.out, ← HK.out, show k = es.length from by omega])
      obtain ⟨A1, c1, hv1, h1, h2, -, h3⟩ := Rd.of_own OI.out (by decide)
      obtain ⟨A2, c2, hv2, h4, h5, -, h6⟩ := Rd.of_own OS.out (by decide)
      have R1 := Lib.hid h3
      have R2 := Lib.hid h6
      have H12 := Lib.hid (And.intro h1 h2)
      have H45 := Lib.hid (And.intro h4 h5)
      rw [hv1, hv2]
      clear hv1 hv2 h1 h2 h3 h4 h5 h6 OI OS
      go_wp2_with fail
      go_ret2
      rw [HE.out]
      exact ⟨A1, c1, A2, c2, rfl, H12.out.1, H12.out.2, H45.out.1, H45.out.2, R1.out, R2.out, G.out⟩
end Go.Proofs.YtpaiideboodaeaaGreatDoor

namespace Go.Proofs.YtpaiideboodaeaaGreatDoor
open Go.RowKit
set_option linter.unusedVariables false
set_option linter.unusedSimpArgs false

/-- the number of an event that a section asks for -/
def numX (e : Ev) (j : Nat) : Int :=
  if j = 1 then e.host else if j = 2 then e.file else if j = 3 then e.beg else if j = 4 then e.fin else if j = 5 then e.time else if j = 6 then e.weight else 0
set_option maxHeartbeats 4000000 in
set_option maxRecDepth 100000 in
theorem number_any (e : Ev) (j : Nat) (w : World) (h1 : 1 ≤ j) (h6 : j ≤ 6) :
    Calls Tryz.prog 89 #[.agg e.cells.toArray, .int .i64 j] w (fun e' w' => e' = .returned (.int .i64 (numX e j)) ∧ w.grownBy w' none) := by
  obtain ⟨host, file, beg, fin, lines, time, weight, trace, stream, fields, la, lc, fa, fc⟩ := e
  have h : j = 1 ∨ j = 2 ∨ j = 3 ∨ j = 4 ∨ j = 5 ∨ j = 6 := by omega
  show Calls _ _ #[.agg #[.int .i64 host, .int .i64 file, .int .i64 beg, .int .i64 fin, .slice la lines.length lc, .int .i64 time, .int .i64 weight, .string trace, .string stream, .slice fa fields.length fc], .int .i64 j] w _
  rcases h with rfl | rfl | rfl | rfl | rfl | rfl
  all_goals
    go_enter Tryz.func89, Tryz.ntmps89
    go_wp2_with fail
    go_ret
    exact ⟨rfl, only_alloc (only_refl _ _) _⟩
end Go.Proofs.YtpaiideboodaeaaGreatDoor

namespace Go.Proofs.YtpaiideboodaeaaGreatDoor
open Go.RowKit
set_option linter.unusedVariables false
set_option linter.unusedSimpArgs false

/-- places that rise -/
def AscN (ds : List Int) : Prop := (∀ i, i < ds.length → 0 ≤ ds.getD i 0 ∧ ds.getD i 0 < 4096) ∧ ∀ i, i + 1 < ds.length → ds.getD i 0 < ds.getD (i + 1) 0
set_option maxHeartbeats 4000000 in
set_option maxRecDepth 100000 in
theorem pcheck_any {S : Nat → Prop} (A : Option Addr) (ds : List Int) (c : Nat) (w : World) (h : Rd S w A (ds.map (.int .i64))) (hl : ds.length ≤ 4096) (ha : AscN ds) :
    Calls Tryz.prog 228 #[.slice A ds.length c] w (Quiet (.int .i64 0) w) := by
  have H := Lib.hid h
  have HA1 := Lib.hid ha.1
  have HA2 := Lib.hid ha.2
  clear h ha
  have hdb : decide ((4096 : Int) < (ds.length : Int)) = false := by simp; omega
  go_enter Tryz.func228, Tryz.ntmps228
  go_wp2_with fail
  go_loopw [3] (fun i wr => ∃ k : Nat, k ≤ ds.length ∧ i = .int .i64 k ∧ ∃ q, wr = w.drewN q) (fun i _ => ds.length - (intOf i).toNat)
  case atStart => exact ⟨0, Nat.zero_le _, rfl, 0, rfl⟩
  case round =>
    obtain ⟨k, hk, rfl, q, rfl⟩ := hrel
    by_cases hlt : k < ds.length
    · obtain ⟨b, off, x, rfl, hc, hx⟩ := H.out.int_at hlt
      obtain ⟨h0, h1⟩ := HA1.out k hlt
      rw [hx.out] at h0 h1
      have i1 : (k : Int) < (ds.length : Int) := by omega
      have n0 : ¬ x < 0 := by omega
      have n1 : ¬ (4096 : Int) ≤ x := by omega
      clear hx
      go_wp2_with fail
      go_roundw
      case rel => exact ⟨k + 1, by omega, by go_num, _, rfl⟩
      case measure => simp [intOf]; omega
    · have i1 : ¬ (k : Int) < (ds.length : Int) := by omega
      go_wp2_with fail
      clear hlt hk i1
      go_loopw [4] (fun i wr => ∃ k : Nat, 1 ≤ k ∧ k ≤ ds.length + 1 ∧ i = .int .i64 k ∧ ∃ q, wr = w.drewN q) (fun i _ => ds.length + 1 - (intOf i).toNat)
      case atStart => exact ⟨1, by omega, by omega, rfl, _, rfl⟩
      case round =>
        obtain ⟨k, hk0, hk1, rfl, q, rfl⟩ := hrel
        by_cases hlt : k < ds.length
        · obtain ⟨k, rfl⟩ : ∃ k', k = k' + 1 := ⟨k - 1, by omega⟩
          obtain ⟨b, off, x, rfl, hc, hx⟩ := H.out.int_at (k := k) (by omega)
          obtain ⟨y, hcy, hy⟩ := H.out.int_at' hlt
          have hxy := HA2.out k hlt
          rw [hx.out, hy.out] at hxy
          have hwk : IntKind.i64.wrap (k : Int) = (k : Int) := IntWalk.i64_in _ (by omega)
          have i1 : (k : Int) < (ds.length : Int) := by omega
          have i2 : (k : Int) + 1 < (ds.length : Int) := by omega
          have i3 : (0 : Int) ≤ (k : Int) := by omega
          have i4 : (0 : Int) ≤ (k : Int) + 1 := by omega
          have i5 : ((k : Int) + 1).toNat = k + 1 := by omega
          have i6 : ¬ y ≤ x := by omega
          clear hx hy
          go_wp2
          go_quiet (fail)
          go_wp2
          go_roundw
          case rel => exact ⟨k + 1 + 1, by omega, by omega, by go_num, _, rfl⟩
          case measure => simp [intOf]; omega
        · have i1 : ¬ (k : Int) < (ds.length : Int) := by omega
          go_wp2
          go_ret
          exact ⟨rfl, _, rfl⟩
end Go.Proofs.YtpaiideboodaeaaGreatDoor

namespace Go.Proofs.YtpaiideboodaeaaGreatDoor
open Go.RowKit
set_option linter.unusedVariables false
set_option linter.unusedSimpArgs false

/-- the bytes of the first j steps of the block at k -/
def gapTo (ds : List Int) (k : Nat) : Nat → List Int
  | 0 => []
  | j + 1 => gapTo ds k j ++ vint (if j = 0 then ds.getD k 0 else ds.getD (k + j) 0 - ds.getD (k + (j - 1)) 0).toNat
def blL (ds : List Int) (m : Nat) : Nat := min ds.length (32 * m + 32) - 32 * m
def headP (ds : List Int) : Nat → List Int
  | 0 => vint ds.length
  | m + 1 => headP ds m ++ (vint (ds.getD (32 * m + (blL ds m - 1)) 0).toNat ++ vint (gapTo ds (32 * m) (blL ds m)).length)
def bodyP (ds : List Int) : Nat → List Int
  | 0 => []
  | m + 1 => bodyP ds m ++ gapTo ds (32 * m) (blL ds m)
def postX (ds : List Int) : List Int := headP ds ((ds.length + 31) / 32) ++ bodyP ds ((ds.length + 31) / 32)
theorem gapTo_len (ds : List Int) (h : ∀ i, i < ds.length → 0 ≤ ds.getD i 0 ∧ ds.getD i 0 < 4096) (k : Nat) : ∀ j, k + j ≤ ds.length → (gapTo ds k j).length ≤ 10 * j
  | 0, _ => by simp [gapTo]
  | j + 1, hj => by
    have h1 := gapTo_len ds h k j (by omega)
    have h2 := h (k + j) (by omega)
    have h3 := h (k + (j - 1)) (by omega)
    have h4 := h k (by omega)
    simp only [gapTo, List.length_append]
    have h5 := vint_len10 (n := (if j = 0 then ds.getD k 0 else ds.getD (k + j) 0 - ds.getD (k + (j - 1)) 0).toNat) (by split <;> omega)
    omega
theorem blL_le (ds : List Int) (m : Nat) : blL ds m ≤ 32 ∧ (32 * m ≤ ds.length → 32 * m + blL ds m ≤ ds.length) := by unfold blL; omega
theorem headP_len (ds : List Int) (h : ∀ i, i < ds.length → 0 ≤ ds.getD i 0 ∧ ds.getD i 0 < 4096) (hl : ds.length ≤ 4096) : ∀ m, 32 * m ≤ ds.length + 31 → (headP ds m).length ≤ 10 + 20 * m
  | 0, _ => vint_len10 (by omega)
  | m + 1, hm => by
    have h1 := headP_len ds h hl m (by omega)
    have h2 : (ds.getD (32 * m + (blL ds m - 1)) 0).toNat < 4096 := by have := h (32 * m + (blL ds m - 1)) (by unfold blL; omega); omega
    have h3 := gapTo_len ds h (32 * m) (blL ds m) ((blL_le ds m).2 (by omega))
    have h4 := (blL_le ds m).1
    have h5 := vint_len10 (n := (ds.getD (32 * m + (blL ds m - 1)) 0).toNat) (by omega)
    have h6 := vint_len10 (n := (gapTo ds (32 * m) (blL ds m)).length) (by omega)
    simp only [headP, List.length_append]
    omega
theorem bodyP_len (ds : List Int) (h : ∀ i, i < ds.length → 0 ≤ ds.getD i 0 ∧ ds.getD i 0 < 4096) : ∀ m, 32 * m ≤ ds.length + 31 → (bodyP ds m).length ≤ 320 * m
  | 0, _ => by simp [bodyP]
  | m + 1, hm => by
    have h1 := bodyP_len ds h m (by omega)
    have h3 := gapTo_len ds h (32 * m) (blL ds m) ((blL_le ds m).2 (by omega))
    have h4 := (blL_le ds m).1
    simp only [bodyP, List.length_append]
    omega
theorem Apt.onto {w w' : World} {a b b' : Value} (h : Apt a b) (k : Onto w b b' w') (hlt : ∀ g, a.ownBlock = some g → g < w.heap.size) : Apt a b' := by
  intro g h1 h2
  rcases k.2 with e | ⟨n, hn, e⟩
  · exact h g h1 (e ▸ h2)
  · rw [e] at h2
    injection h2 with h2
    have := hlt g h1
    omega
theorem Byts.below {base : Nat} {w : World} {v : Value} {xs : List Int} (h : Byts base w v xs) : ∀ g, v.ownBlock = some g → g < w.heap.size := fun g e => (World.ownsRow.lt h g e).2
theorem Byts.apt {b1 b2 : Nat} {w w' : World} {v v' : Value} {xs ys : List Int} (h : Byts b1 w v xs) (h' : Byts b2 w' v' ys) (hb : w.heap.size ≤ b2) : Apt v v' := by
  intro g h1 h2
  have h3 := h.below g h1
  have h4 := (World.ownsRow.lt h' g h2).1
  omega
theorem Byts.keepA {base : Nat} {w w' : World} {a b b' : Value} {xs : List Int} (h : Byts base w a xs) (hA : Apt a b) (k : Onto w b b' w') : Byts base w' a xs := hA.keep h k.1
def PostP (w : World) (ds : List Int) (e : Ending) (w' : World) : Prop :=
  ∃ v, e = .returned (.tuple #[v, .int .i64 0]) ∧ Byts w.heap.size w' v (postX ds) ∧ w.grownBy w' none
set_option maxHeartbeats 8000000 in
set_option maxRecDepth 100000 in
theorem pencode_any {S : Nat → Prop} (A : Option Addr) (ds : List Int) (c : Nat) (w : World) (h : Rd S w A (ds.map (.int .i64))) (hl : ds.length ≤ 4096) (ha : AscN ds) (hc : ds.length ≤ c) (hm : c ≤ maxLen) :
    Calls Tryz.prog 198 #[.slice A ds.length c] w (PostP w ds) := by
  have H := Lib.hid h
  have HA1 := Lib.hid ha.1
  have HA2 := Lib.hid ha.2
  have HM := Lib.hid hm
  have KC := Lib.hid (pcheck_any A ds c w h hl ha)
  have HHL := Lib.hid (headP_len ds ha.1 hl)
  have HBL := Lib.hid (bodyP_len ds ha.1)
  have HGL := Lib.hid (gapTo_len ds ha.1)
  have HX : Hid (postX ds = headP ds ((ds.length + 31) / 32) ++ bodyP ds ((ds.length + 31) / 32)) := Lib.hid rfl
  obtain ⟨R, hR⟩ : ∃ r, r = postX ds := ⟨_, rfl⟩
  have HP : Hid (∀ e w', (∃ v, e = .returned (.tuple #[v, .int .i64 0]) ∧ Byts w.heap.size w' v R ∧ w.grownBy w' none) → PostP w ds e w') := Lib.hid (fun e w' h => by rw [hR] at h; exact h)
  rw [← hR] at HX
  clear h ha hm hR
  refine Calls.mono (R := fun e w' => ∃ v, e = .returned (.tuple #[v, .int .i64 0]) ∧ Byts w.heap.size w' v R ∧ w.grownBy w' none) ?_ HP.out
  clear HP
  go_enter Tryz.func198, Tryz.ntmps198
  go_wp2_with fail
  refine KC.out.mono ?_
  rintro e w1 ⟨rfl, n1, hw1⟩
  have H1 : Hid (Rd S w1 A (ds.map (.int .i64))) := Lib.hid (by rw [hw1]; exact H.out)
  have G1 : Hid (w.grownBy w1 none) := Lib.hid (by rw [hw1]; exact only_drewN (only_refl _ _) n1)
  have hz1 := G1.out.size
  clear hw1 KC H
  go_wp2_with fail
  refine (rvarint_any w1.heap.size _ [] ds.length _ (Byts.nil _ _) (by simp) (by omega) (Nat.le_refl _)).mono ?_
  rintro e w2 ⟨v2, rfl, hB2, hO2⟩
  have B2 : Hid (Byts w1.heap.size w2 v2 (headP ds 0)) := Lib.hid hB2
  have G2 : Hid (w1.grownBy w2 none) := Byts.only (Byts.nil w1.heap.size w1) hO2 (only_refl _ _) (Nat.le_refl _)
  clear hB2 hO2
  go_wp2_with fail
  go_loopw [5, 6, 7] (fun vh vb vi wr => ∃ m : Nat, 32 * m ≤ ds.length + 31 ∧ vi = .int .i64 ((32 * m : Nat) : Int) ∧ Byts w1.heap.size wr vh (headP ds m) ∧ Byts w1.heap.size wr vb (bodyP ds m) ∧ Apt vh vb ∧ w1.grownBy wr none) (fun _ _ vi _ => ds.length - (intOf vi).toNat)
  case atStart => exact ⟨0, by omega, rfl, B2.out, Byts.nil _ _, fun g _ h => by simp [Value.ownBlock] at h, G2.out⟩
  case round =>
    obtain ⟨m, hm, rfl, hH, hB, hA, hG⟩ := hrel
    have BH := Lib.hid hH
    have BB := Lib.hid hB
    have AP := Lib.hid hA
    have G := Lib.hid hG
    have hbase : w1.heap.size ≤ wr.heap.size := hG.size
    obtain ⟨vH, hvH⟩ : ∃ v, v = u5 := ⟨_, rfl⟩
    obtain ⟨vB, hvB⟩ : ∃ v, v = u6 := ⟨_, rfl⟩
    rw [← hvH] at BH AP ⊢
    rw [← hvB] at BB AP ⊢
    obtain ⟨q, hq⟩ : ∃ q, q = 32 * m := ⟨_, rfl⟩
    have HQ := Lib.hid hq
    rw [← hq] at hm ⊢
    clear hH hB hA hG hvH hvB B2 G2
    by_cases hlt : q < ds.length
    · obtain ⟨L, hL⟩ : ∃ L, L = blL ds m := ⟨_, rfl⟩
      have HL := Lib.hid hL
      have hL0 : 0 < L ∧ L ≤ 32 ∧ q + L ≤ ds.length ∧ (q + L = ds.length ∨ L = 32) := by rw [hL, hq]; rw [hq] at hlt; unfold blL; omega
      obtain ⟨hLp, hL32, hLn, hLe⟩ := hL0
      have HMIN : Hid (min (ds.length : Int) ((q : Int) + 32) = ((q + L : Nat) : Int)) := Lib.hid (by omega)
      obtain ⟨b, off, x0, rfl, hc0, -⟩ := (H1.out.grown G.out (by simp)).int_at hlt
      have HRw := Lib.hid (H1.out.grown G.out (by simp))
      have i1 : (q : Int) < (ds.length : Int) := by omega
      clear hq hL hc0
      go_wp2_with fail
      have HLEN : Hid ((min (ds.length : Int) ((q : Int) + 32)).toNat - q = L) := Lib.hid (by rw [HMIN.out]; omega)
      rw [HLEN.out]
      clear HLEN HMIN
      obtain ⟨wo, rfl⟩ : ∃ wo : World, wo = wr := ⟨_, rfl⟩
      go_loopw [9, 10] (fun vg vj wr => ∃ j : Nat, vj = .int .i64 j ∧ j ≤ L ∧ Byts wo.heap.size wr vg (gapTo ds q j) ∧ wo.grownBy wr none) (fun _ vj _ => L - (intOf vj).toNat)
      case atStart => exact ⟨0, rfl, Nat.zero_le _, Byts.nil _ _, only_refl _ _⟩
      case round =>
        obtain ⟨j, rfl, hj, hB2, hG2⟩ := hrel
        have BG := Lib.hid hB2
        have G2 := Lib.hid hG2
        have hb2 : wo.heap.size ≤ wr.heap.size := hG2.size
        have hgl := HGL.out q j (by omega)
        obtain ⟨vG, hvG⟩ : ∃ v, v = u9 := ⟨_, rfl⟩
        rw [← hvG] at BG ⊢
        clear hB2 hG2 hvG
        by_cases hjl : j < L
        · obtain ⟨x, hcx, hx⟩ := (HRw.out.grown G2.out (by simp)).int_at' (k := q + j) (by omega)
          obtain ⟨hx0, hx1⟩ := HA1.out (q + j) (by omega)
          rw [hx.out] at hx0 hx1
          obtain ⟨xn, rfl⟩ : ∃ n : Nat, x = (n : Int) := ⟨x.toNat, by omega⟩
          rw [← Nat.add_assoc] at hcx
          have i2 : (j : Int) < (L : Int) := by omega
          by_cases hj0 : j = 0
          · subst hj0
            have HN : Hid (gapTo ds q 1 = gapTo ds q 0 ++ vint xn) := Lib.hid (by
              have h9 := hx.out
              simp only [Nat.add_zero] at h9
              simp only [gapTo, if_pos, h9, Int.toNat_natCast])
            clear hx
            simp only [Nat.add_zero] at hcx
            go_wp2_with fail
            refine (rvarint_any wo.heap.size vG (gapTo ds q 0) xn _ BG.out (by omega) (by omega) hb2).mono ?_
            rintro e w5 ⟨v5, rfl, hB5, hO5⟩
            have B5 : Hid (Byts wo.heap.size w5 v5 (gapTo ds q 1)) := Lib.hid (by rw [HN.out]; exact hB5)
            have G5 : Hid (wo.grownBy w5 none) := BG.out.only hO5 G2.out (Nat.le_refl _)
            clear hB5 hO5
            go_wp2_with fail
            go_roundw
            case rel => exact ⟨1, by go_num, by omega, B5.out, G5.out⟩
            case measure => simp [intOf]; omega
          · obtain ⟨j, rfl⟩ : ∃ i, j = i + 1 := ⟨j - 1, by omega⟩
            obtain ⟨y, hcy, hy⟩ := (HRw.out.grown G2.out (by simp)).int_at' (k := q + j) (by omega)
            obtain ⟨hy0, hy1⟩ := HA1.out (q + j) (by omega)
            have hxy := HA2.out (q + j) (by omega)
            rw [show q + j + 1 = q + (j + 1) from rfl, hx.out] at hxy
            rw [hy.out] at hy0 hy1 hxy
            obtain ⟨yn, rfl⟩ : ∃ n : Nat, y = (n : Int) := ⟨y.toNat, by omega⟩
            rw [← Nat.add_assoc] at hcy
            have HN : Hid (gapTo ds q (j + 1 + 1) = gapTo ds q (j + 1) ++ vint (xn - yn)) := Lib.hid (by
              rw [gapTo, if_neg (by omega), show j + 1 - 1 = j from rfl, hx.out, hy.out]
              rw [show ((xn : Int) - (yn : Int)).toNat = xn - yn from by omega])
            have i3 : (0 : Int) ≤ (j : Int) := by omega
            have i4 : (j : Int) < (L : Int) := by omega
            have i5 : (0 : Int) < (j : Int) + 1 := by omega
            have i6 : (j : Int) + 1 < (L : Int) := by omega
            have i7 : ((j : Int) + 1).toNat = j + 1 := by omega
            have HSUB : Hid (((xn : Int) - (yn : Int)) = ((xn - yn : Nat) : Int)) := Lib.hid (by omega)
            clear hx hy
            go_wp2_with fail
            rw [HSUB.out]
            refine (rvarint_any wo.heap.size vG (gapTo ds q (j + 1)) (xn - yn) _ BG.out (by omega) (by omega) hb2).mono ?_
            rintro e w5 ⟨v5, rfl, hB5, hO5⟩
            have B5 : Hid (Byts wo.heap.size w5 v5 (gapTo ds q (j + 1 + 1))) := Lib.hid (by rw [HN.out]; exact hB5)
            have G5 : Hid (wo.grownBy w5 none) := BG.out.only hO5 G2.out (Nat.le_refl _)
            clear hB5 hO5
            go_wp2_with fail
            go_roundw
            case rel => exact ⟨j + 1 + 1, by go_num, by omega, B5.out, G5.out⟩
            case measure => simp [intOf]; omega
        · obtain rfl : j = L := by omega
          obtain ⟨L', hL'⟩ : ∃ L', j = L' + 1 := ⟨j - 1, by omega⟩
          obtain ⟨x, hcx, hx⟩ := (HRw.out.grown G2.out (by simp)).int_at' (k := q + L') (by omega)
          obtain ⟨hx0, hx1⟩ := HA1.out (q + L') (by omega)
          rw [hx.out] at hx0 hx1
          obtain ⟨xn, rfl⟩ : ∃ n : Nat, x = (n : Int) := ⟨x.toNat, by omega⟩
          rw [← Nat.add_assoc] at hcx
          subst hL'
          have HH1 : Hid (headP ds (m + 1) = headP ds m ++ (vint xn ++ vint (gapTo ds q (L' + 1)).length)) := Lib.hid (by
            rw [headP, ← HL.out, ← HQ.out, show L' + 1 - 1 = L' from rfl, hx.out, Int.toNat_natCast])
          have HB1 : Hid (bodyP ds (m + 1) = bodyP ds m ++ gapTo ds q (L' + 1)) := Lib.hid (by rw [bodyP, ← HL.out, ← HQ.out])
          have hhl := HHL.out m (by rw [← HQ.out]; omega)
          have hbl := HBL.out m (by rw [← HQ.out]; omega)
          have hvl := vint_len10 (n := xn) (by omega)
          have hq9 := HQ.out
          have hm2 : m ≤ 128 := by omega
          have G3 := Lib.hid (only_trans G.out G2.out)
          have BH3 : Hid (Byts w1.heap.size wr vH (headP ds m)) := Lib.hid (own_ext BH.out G2.out)
          have BB3 : Hid (Byts w1.heap.size wr vB (bodyP ds m)) := Lib.hid (own_ext BB.out G2.out)
          have APH : Hid (Apt vH vG) := Lib.hid (BH.out.apt BG.out (Nat.le_refl _))
          have APB : Hid (Apt vB vG) := Lib.hid (BB.out.apt BG.out (Nat.le_refl _))
          have i2 : ¬ (L' : Int) + 1 < (L' : Int) + 1 := by omega
          have i3 : (0 : Int) ≤ (L' : Int) := by omega
          have i4 : (L' : Int) < (L' : Int) + 1 := by omega
          clear hx hq9
          go_wp2_with fail
          refine (rvarint_any w1.heap.size vH (headP ds m) xn _ BH3.out (by omega) (by omega) (by omega)).mono ?_
          rintro e w5 ⟨v5, rfl, hB5, hO5⟩
          have BH5 := Lib.hid hB5
          have BB5 : Hid (Byts w1.heap.size w5 vB (bodyP ds m)) := Lib.hid (BB3.out.keepA AP.out.symm hO5)
          have BG5 : Hid (Byts wo.heap.size w5 vG (gapTo ds q (L' + 1))) := Lib.hid (BG.out.keepA APH.out.symm hO5)
          have AP5 : Hid (Apt v5 vB) := Lib.hid (AP.out.symm.onto hO5 BB3.out.below).symm
          have APG5 : Hid (Apt v5 vG) := Lib.hid (APH.out.symm.onto hO5 BG.out.below).symm
          have G5 : Hid (w1.grownBy w5 none) := BH3.out.only hO5 G3.out (Nat.le_refl _)
          have hb5 := G5.out.size
          clear hB5 hO5 hcx
          obtain ⟨AG, cG, hvG2, -, -, -⟩ := BG5.out.rd
          subst hvG2
          go_wp2_with fail
          refine (rvarint_any w1.heap.size v5 (headP ds m ++ vint xn) (gapTo ds q (L' + 1)).length _ BH5.out (by rw [List.length_append]; omega) (by omega) (by omega)).mono ?_
          rintro e w6 ⟨v6, rfl, hB6, hO6⟩
          have BH6 : Hid (Byts w1.heap.size w6 v6 (headP ds (m + 1))) := Lib.hid (by rw [HH1.out, ← List.append_assoc]; exact hB6)
          have BB6 : Hid (Byts w1.heap.size w6 vB (bodyP ds m)) := Lib.hid (BB5.out.keepA AP5.out.symm hO6)
          have BG6 : Hid (Byts wo.heap.size w6 _ (gapTo ds q (L' + 1))) := Lib.hid (BG5.out.keepA APG5.out.symm hO6)
          have AP6 : Hid (Apt v6 vB) := Lib.hid (AP5.out.symm.onto hO6 BB5.out.below).symm
          have G6 : Hid (w1.grownBy w6 none) := BH5.out.only hO6 G5.out (Nat.le_refl _)
          have hb6 := G6.out.size
          clear hB6 hO6
          obtain ⟨AG', cG', e9, -, -, g3⟩ := BG6.out.rd
          injection e9 with e1 e2 e3
          subst e1 e3
          have RG := Lib.hid g3
          clear g3 e2
          go_wp2_with (at_builtin; go_must (refine wpList_appendN rfl _ _ 22 rfl w1.heap.size Tryz.underlying22 byteInfo rfl (by decide) (v := vB) (by rfl) BB6.out AG (gapTo ds q (L' + 1)).length cG (by rfl) RG.out (by simp) (byte_ones _) (by decide) (by omega) (by omega) ?_); intro v7 w7 hown7 hg7 hob7)
          have BB7 : Hid (Byts w1.heap.size w7 v7 (bodyP ds (m + 1))) := Lib.hid (by
            rw [HB1.out]
            unfold Byts
            rw [List.length_append, List.map_append]
            exact hown7)
          have hO7 : Onto w6 vB v7 w7 := onto_apN hg7 hob7
          have BH7 : Hid (Byts w1.heap.size w7 v6 (headP ds (m + 1))) := Lib.hid (BH6.out.keepA AP6.out hO7)
          have AP7 : Hid (Apt v6 v7) := Lib.hid (AP6.out.onto hO7 BH6.out.below)
          have G7 : Hid (w1.grownBy w7 none) := Lib.hid (BB6.out.only hO7 G6.out (Nat.le_refl _))
          clear hown7 hg7 hob7 hO7
          go_wp2_with fail
          go_roundw
          case rel =>
            have hq9 := HQ.out
            exact ⟨m + 1, by omega, by go_num, BH7.out, BB7.out, AP7.out, G7.out⟩
          case measure => simp [intOf]; omega
    · have hq9 := HQ.out
      have hmE : m = (ds.length + 31) / 32 := by omega
      have HE : Hid (R = headP ds m ++ bodyP ds m) := Lib.hid (by rw [hmE]; exact HX.out)
      have hhl := HHL.out m (by omega)
      have hbl := HBL.out m (by omega)
      have hm2 : m ≤ 128 := by omega
      have i1 : ¬ (q : Int) < (ds.length : Int) := by omega
      obtain ⟨AB, cB, hvB, -, -, g3⟩ := BB.out.rd
      have RB := Lib.hid g3
      rw [hvB]
      clear g3 hvB hq9 hmE
      go_wp2_with (at_builtin; go_must (refine wpList_appendN rfl _ _ 22 rfl w1.heap.size Tryz.underlying22 byteInfo rfl (by decide) (v := vH) (by rfl) BH.out AB (bodyP ds m).length cB (by rfl) RB.out (by simp) (byte_ones _) (by decide) (by omega) (by omega) ?_); intro v7 w7 hown7 hg7 hob7)
      have B7 : Hid (Byts w1.heap.size w7 v7 (headP ds m ++ bodyP ds m)) := Lib.hid (by
        unfold Byts
        rw [List.length_append, List.map_append]
        exact hown7)
      have G7 : Hid (w1.grownBy w7 none) := Lib.hid (BH.out.only (onto_apN hg7 hob7) G.out (Nat.le_refl _))
      clear hown7 hg7 hob7
      go_wp2_with fail
      go_ret2
      rw [HE.out]
      exact ⟨v7, rfl, B7.out.base hz1, only_trans G1.out G7.out⟩
end Go.Proofs.YtpaiideboodaeaaGreatDoor

namespace Go.Proofs.YtpaiideboodaeaaGreatDoor
open Go.RowKit
set_option linter.unusedVariables false
set_option linter.unusedSimpArgs false

set_option maxHeartbeats 4000000 in
theorem postings_any {S : Nat → Prop} (A : Option Addr) (ds : List Int) (c : Nat) (w : World) (h : Rd S w A (ds.map (.int .i64))) (hl : ds.length ≤ 4096) (ha : AscN ds) (hc : ds.length ≤ c) (hm : c ≤ maxLen) :
    Calls Tryz.prog 150 #[.slice A ds.length c] w (NewB w (postX ds)) := by
  have K := Lib.hid (pencode_any A ds c w h hl ha hc hm)
  clear h ha hc hm
  go_enter Tryz.func150, Tryz.ntmps150
  go_wp2_with fail
  refine K.out.mono ?_
  rintro e w1 ⟨v, rfl, hB, hG⟩
  have B := Lib.hid hB
  have G := Lib.hid hG
  clear hB hG
  go_wp2_with fail
  go_ret
  exact ⟨v, rfl, B.out, G.out⟩
theorem postX_len (ds : List Int) (h : ∀ i, i < ds.length → 0 ≤ ds.getD i 0 ∧ ds.getD i 0 < 4096) (hl : ds.length ≤ 4096) : (postX ds).length ≤ 100000 := by
  have h1 := headP_len ds h hl ((ds.length + 31) / 32) (by omega)
  have h2 := bodyP_len ds h ((ds.length + 31) / 32) (by omega)
  unfold postX
  rw [List.length_append]
  omega
/-- places of values rise -/
theorem valsTo_bound (es : List Ev) (nm : ByteArray) : ∀ k, ∀ p ∈ valsTo es nm k, p.1 < k
  | 0, p, h => by cases h
  | k + 1, p, h => by
    have ih := valsTo_bound es nm k
    simp only [valsTo] at h
    rcases List.mem_append.1 h with h | h
    · have := ih p h; omega
    · split at h
      · split at h
        · rw [List.mem_singleton] at h; subst h; exact Nat.lt_succ_self k
        · cases h
      · cases h
theorem valsTo_pw (es : List Ev) (nm : ByteArray) : ∀ k, ((valsTo es nm k).map (·.1)).Pairwise (· < ·)
  | 0 => List.Pairwise.nil
  | k + 1 => by
    have ih := valsTo_pw es nm k
    have hb := valsTo_bound es nm k
    simp only [valsTo, List.map_append]
    rw [List.pairwise_append]
    refine ⟨ih, ?_, ?_⟩
    · split
      · split <;> simp
      · simp
    · intro a ha b hb'
      obtain ⟨p, hp, rfl⟩ := List.mem_map.1 ha
      have h1 := hb p hp
      split at hb'
      · split at hb'
        · simp at hb'; omega
        · simp at hb'
      · simp at hb'
theorem valsTo_asc (es : List Ev) (nm : ByteArray) (k : Nat) (hk : k ≤ 4096) : AscN (posV (valsTo es nm k)) := by
  have hpw := valsTo_pw es nm k
  have hb := valsTo_bound es nm k
  obtain ⟨ps, hps⟩ : ∃ ps, ps = valsTo es nm k := ⟨_, rfl⟩
  rw [← hps] at hpw hb ⊢
  have hl : (posV ps).length = ps.length := by unfold posV; rw [List.length_map]
  have hg : ∀ (i : Nat) (hi : i < ps.length), (posV ps).getD i 0 = ((ps[i]'hi).1 : Int) := fun i hi => by
    rw [List.getD_eq_getElem?_getD]
    simp [posV, hi]
  refine ⟨fun i hi => ?_, fun i hi => ?_⟩
  · rw [hl] at hi
    rw [hg i hi]
    have := hb _ (List.getElem_mem hi)
    omega
  · rw [hl] at hi
    rw [hg i (by omega), hg (i + 1) hi]
    have h1 := List.pairwise_iff_getElem.1 hpw i (i + 1) (by simp; omega) (by simpa using hi) (Nat.lt_succ_self i)
    simp at h1
    omega
end Go.Proofs.YtpaiideboodaeaaGreatDoor
