/- fieldSection of segment: the program's. Conditions: good events. -/
import Derived.Test.YtpaiideboodaeaaGreatDoorJIdxW
import Derived.Test.YtpaiideboodaeaaGreatDoorJSegG
import Derived.Lib.ConvBytes
import Derived.Deep.RegionLaw
import Derived.Test.YtpaiideboodaeaaGreatDoorJFilB
import Derived.Test.YtpaiideboodaeaaGreatDoorJGenC
namespace Go.Proofs.YtpaiideboodaeaaGreatDoor
open Go.RowKit
set_option linter.unusedVariables false
set_option linter.unusedSimpArgs false

theorem own_parts {w : World} {base e n : Nat} {v : Value} {xs : List Value} {size : Nat} (h : w.ownsRow base e size v n xs) (hs : 0 < size) :
    ∃ A c, v = .slice A n c ∧ n ≤ c ∧ c ≤ maxLen ∧ (A = none → c = 0) ∧ Rd (base ≤ ·) w A xs := by
  obtain ⟨A, c, rfl, h1, h2, -, h3⟩ := Rd.of_own h hs
  refine ⟨A, c, rfl, h1, h2, fun e => ?_, h3⟩
  rcases h.2 with ⟨hv, -⟩ | ⟨g, cap, cur, hv, -⟩
  · injection hv
  · injection hv with e1 e2 e3
    rw [e] at e1; cases e1
set_option maxHeartbeats 8000000 in
set_option maxRecDepth 100000 in
theorem fieldsec_any {S : Nat → Prop} (A : Option Addr) (es : List Ev) (c : Nat) (w : World) (hev : Evs S w A es) (hel : es.length ≤ 40) (hs : ∀ e ∈ es, EvS e) (hsr : ∀ e ∈ es, Srt (e.fields.map FieldD.name)) :
    Calls Tryz.prog 27 #[.slice A es.length c] w (NewB w (fieldsX es)) := by
  have HEV := Lib.hid (hev.mono (S' := (· < w.heap.size)) (fun b _ h => h))
  have KN := Lib.hid (snames_any A es c w hev (by omega) (fun e he => ⟨by have := (hs e he).2.2.2.1; omega, fun f hf => by have := ((hs e he).2.2.2.2.1 f hf).1; omega⟩))
  obtain ⟨ds, hds⟩ : ∃ ds, ds = namesX es := ⟨_, rfl⟩
  have hdl : ds.length ≤ 160 := by rw [hds]; exact namesX_len hs hel
  have HDZ : Hid (∀ x ∈ ds, x.size ≤ 250) := Lib.hid (by rw [hds]; exact namesX_sz hs)
  have HDS : Hid (Srt ds) := Lib.hid (by rw [hds]; exact dist_srt _)
  have HTL : Hid (∀ k, k ≤ 160 → (fieldsTo es ds k).length ≤ 2000000) := Lib.hid (fun k hk => by have := fieldsTo_len hs hel HDZ.out hdl k; omega)
  have HIX : Hid (fieldsX es = fieldsTo es ds ds.length) := Lib.hid (by rw [hds]; rfl)
  obtain ⟨f, hf⟩ : ∃ f, f = idxU namesG es es.length := ⟨_, rfl⟩
  have HKE : Hid (∀ ks, Srt ks → (∀ t, t ∈ ks ↔ f t ≠ []) → ks = ds) := Lib.hid (fun ks h1 h2 => by rw [hds]; rw [hf] at h2; exact keys_names h1 h2)
  have HMF : Hid (∀ t, t ∈ ds ↔ f t ≠ []) := Lib.hid (fun t => by rw [hf, hds, idxU_ne, List.take_length]; exact dist_mem _ _)
  have HRW : Hid (∀ x, f x = posV (valsTo es x es.length)) := Lib.hid (fun x => by rw [hf]; exact idxU_name hsr x _ (Nat.le_refl _))
  have HRA : Hid (∀ x, AscN (posV (valsTo es x es.length)) ∧ (valsTo es x es.length).length ≤ 40 ∧ (∀ s ∈ strV (valsTo es x es.length), s.size ≤ 250) ∧ (postX (posV (valsTo es x es.length))).length ≤ 690 ∧ (∀ p ∈ valsTo es x es.length, ∃ e, es[p.1]? = some e ∧ getF e.fields x = some p.2)) := Lib.hid (fun x => by
    have hl := valsTo_len es x es.length
    have ha := valsTo_asc es x es.length (by omega)
    exact ⟨ha, by omega, valsTo_sz hs x _, postX_len2 _ ha.1 (by rw [posV_len]; omega), valsTo_get _⟩)
  have HFL : Hid (∀ e ∈ es, e.fields.length ≤ 4) := Lib.hid (fun e he => (hs e he).2.2.2.1)
  rw [← hf] at KN
  clear hev hs hsr hds hf
  go_enter Tryz.func27, Tryz.ntmps27
  go_wp2_with fail
  refine KN.out.mono ?_
  rintro e w2 ⟨b, n, rfl, hbw, hSM, hg2⟩
  have M2 := Lib.hid (hSM.tight (srt_nodup2 HDS.out) HMF.out)
  have G2 := Lib.hid hg2
  have hz2 := hg2.size
  clear hSM hg2 KN n
  go_wp2_with fail
  refine (keys_any w2 M2.out (by omega)).mono ?_
  rintro e w3 ⟨A3, c3, ks, rfl, hc3, hm3, hn3, hsr, hmem, hown, hg3⟩
  obtain rfl := HKE.out ks hsr hmem
  have R3 := Lib.hid (rd_own hown (by decide))
  have G3 := Lib.hid hg3
  have hz3 := hg3.size
  clear hsr hmem hown hg3
  go_wp2_with fail
  refine (encoded_any w2.heap.size (.slice none 0 0) [] A3 ks c3 w3 (Byts.nil _ _) R3.out (by omega) HDZ.out (by simp) hz3).mono ?_
  rintro e w4 ⟨v4, rfl, hB4, hO4⟩
  have B4 : Hid (Byts w2.heap.size w4 v4 (fieldsTo es ks 0)) := Lib.hid hB4
  have G4 : Hid (w2.grownBy w4 none) := Lib.hid (Byts.only (Byts.nil w2.heap.size w3) hO4 G3.out (Nat.le_refl _))
  have M4 := Lib.hid (M2.out.quiet G4.out)
  have hz4 := G4.out.size
  clear hB4 hO4
  go_wp2_with fail
  refine (keys_any w4 M4.out (by omega)).mono ?_
  rintro e w5 ⟨A5, c5, ks', rfl, hc5, hm5, hn5, hsr, hmem, hown, hg5⟩
  obtain rfl := HKE.out ks' hsr hmem
  have R5 := Lib.hid ((rd_own hown (by decide)).mono (S' := fun b => w4.heap.size ≤ b ∧ b < w5.heap.size) (fun b h1 h2 => ⟨h1, h2⟩))
  have B5 : Hid (Byts w2.heap.size w5 v4 (fieldsTo es ks' 0)) := Lib.hid (own_ext B4.out hg5)
  have G5 := Lib.hid (only_trans G4.out hg5)
  have hz5 := hg5.size
  have HNE : Hid (∀ b, (w4.heap.size ≤ b ∧ b < w5.heap.size) → some b ≠ v4.ownBlock) := Lib.hid (fun b hb e => by have := (World.ownsRow.lt B4.out b e.symm).2; omega)
  clear hsr hmem hown hg5 B4 M4
  go_wp2_with fail
  go_loopw [4, 20] (fun u i wr => ∃ k : Nat, k ≤ ks'.length ∧ i = .int .i64 k ∧ Byts w2.heap.size wr u (fieldsTo es ks' k) ∧ Onto w5 v4 u wr) (fun _ i _ => ks'.length - (intOf i).toNat)
  case atStart => exact ⟨0, Nat.zero_le _, rfl, B5.out, Onto.refl _ _⟩
  case round =>
    obtain ⟨k, hk, rfl, hB, hO⟩ := hrel
    have BB := Lib.hid hB
    have OO := Lib.hid hO
    have GG : Hid (w2.grownBy wr none) := Lib.hid (B5.out.only hO G5.out (Nat.le_refl _))
    have hzr := hO.1.size
    clear hB hO
    by_cases hlt : k < ks'.length
    · obtain ⟨q, off, x, rfl, hc0, hx0⟩ := (R5.out.grown OO.out.1 HNE.out).str_at hlt
      have MM := Lib.hid (M2.out.quiet GG.out)
      have hfx : f x ≠ [] := (HMF.out x).1 (List.mem_of_getElem? hx0.out)
      have hsx := HDZ.out x (List.mem_of_getElem? hx0.out)
      obtain ⟨P, hP⟩ : ∃ P, P = valsTo es x es.length := ⟨_, rfl⟩
      obtain ⟨hra, hrl, hrz, hrp, hrg⟩ := HRA.out x
      have hfP := HRW.out x
      rw [← hP] at hra hrl hrz hrp hrg hfP
      have hPf : (f x).length = P.length := by rw [hfP, posV_len]
      have h0 : 0 < P.length := by rw [← hPf]; exact List.length_pos_iff.2 hfx
      have HT1 : Hid (fieldsTo es ks' (k + 1) = fieldsTo es ks' k ++ blkP (postX (posV P)) ++ idxX (strV P)) := Lib.hid (by rw [fieldsTo, hx0.out, List.append_assoc, hP]; rfl)
      have hxl := HTL.out k (by omega)
      have HRA1 := Lib.hid hra
      have HRZ1 := Lib.hid hrz
      have HRG1 := Lib.hid hrg
      have HFP := Lib.hid hfP
      have HPF := Lib.hid hPf
      have i1 : (k : Int) < (ks'.length : Int) := by omega
      have i2 : (0 : Int) ≤ (k : Int) := by omega
      clear hfx hx0 hra hrz hrg hP hfP hPf
      go_wp2_with (refine wpList_lookS rfl _ _ rfl rfl x rfl MM.out (by unfold SKey maxLen; omega) ?_; intro Av cv hov hback; have HOV := Lib.hid hov; clear hov hback; rw [HPF.out])
      have hov := HOV.out
      rw [HPF.out, HFP.out] at hov
      have RI := Lib.hid ((rd_own hov (by decide)).mono (S' := fun b => b < wr.heap.size) (fun b _ h => h))
      clear hov
      obtain ⟨wo, rfl⟩ : ∃ x, x = wr := ⟨_, rfl⟩
      obtain ⟨vb, hvb⟩ : ∃ x, x = u4 := ⟨_, rfl⟩
      rw [← hvb] at BB OO ⊢
      clear hvb
      go_loopw [7, 28] (fun vv vj wr => ∃ j : Nat, j ≤ P.length ∧ vj = .int .i64 j ∧ wr.ownsRow wo.heap.size 9 1 vv j (((strV P).take j).map .string) ∧ wo.grownBy wr none) (fun _ vj _ => P.length - (intOf vj).toNat)
      case atStart => exact ⟨0, Nat.zero_le _, rfl, World.ownsRow_nil _ _ _ _, only_refl _ _⟩
      case round =>
        obtain ⟨j, hj, rfl, hR, hG⟩ := hrel
        have RO := Lib.hid hR
        have G := Lib.hid hG
        have hzq := hG.size
        clear hR hG
        by_cases hjl : j < P.length
        · obtain ⟨p, hp⟩ : ∃ p, P[j]? = some p := ⟨_, List.getElem?_eq_getElem hjl⟩
          obtain ⟨y, hy, hgy⟩ := HRG1.out p (List.mem_of_getElem? hp)
          obtain ⟨ib, io, eI, -, -, hci⟩ := RI.out.grown G.out (by simp) (by rw [List.length_map, posV_len]; omega)
          subst eI
          have q0 : wr.cell? ⟨ib, io + j, none⟩ = some (.int .i64 p.1) := hci j _ (by unfold posV; rw [List.map_map, List.getElem?_map, hp]; rfl)
          have hHev := HEV.out.grown (only_trans G2.out (only_trans GG.out G.out)) (by simp)
          obtain ⟨kb, ko, eE, hkw, z0, z1, z2, z3, z4, z5, z6, z7, z8, z9⟩ := ev_in hHev.1 hy
          subst eE
          have KG := Lib.hid (eget_any y x wr (hHev.2 y (List.mem_of_getElem? hy)) (by have := HFL.out y (List.mem_of_getElem? hy); omega))
          rw [hgy] at KG
          rw [show y.cells.toArray = #[.int .i64 y.host, .int .i64 y.file, .int .i64 y.beg, .int .i64 y.fin, .slice y.la y.lines.length y.lc, .int .i64 y.time, .int .i64 y.weight, .string y.trace, .string y.stream, .slice y.fa y.fields.length y.fc] from rfl] at KG
          have hpl : p.1 < es.length := (List.getElem?_eq_some_iff.1 hy).1
          have HTK : Hid ((strV P).take (j + 1) = (strV P).take j ++ [p.2]) := Lib.hid (by
            have h1 : (strV P)[j]? = some p.2 := by unfold strV; rw [List.getElem?_map, hp]; rfl
            obtain ⟨h2, h3⟩ := List.getElem?_eq_some_iff.1 h1
            rw [List.take_succ_eq_append_getElem h2, h3])
          have j1 : (j : Int) < (P.length : Int) := by omega
          have j2 : (0 : Int) ≤ (j : Int) := by omega
          have j3 : (p.1 : Int) < (es.length : Int) := by omega
          have j4 : (0 : Int) ≤ (p.1 : Int) := by omega
          obtain ⟨P1, hP1⟩ : ∃ n, n = p.1 := ⟨_, rfl⟩
          obtain ⟨P2, hP2⟩ : ∃ s, s = p.2 := ⟨_, rfl⟩
          rw [← hP1] at q0 j3 j4 hpl z0 z1 z2 z3 z4 z5 z6 z7 z8 z9
          rw [← hP2] at KG HTK
          clear hp hy hgy hci hHev hP1 hP2
          go_wp2_with fail
          refine KG.out.mono ?_
          rintro e w6 ⟨rfl, hg6⟩
          have G6 := Lib.hid (only_trans G.out hg6)
          have RO6 := Lib.hid (own_ext RO.out hg6)
          have hz6 := hg6.size
          simp only [valV]
          clear hg6 KG z0 z1 z2 z3 z4 z5 z6 z7 z8 z9 q0 RO G
          go_wp2_with (at_builtin; go_must (refine wpList_append1 rfl _ _ 39 rfl wo.heap.size Tryz.underlying39 strInfo rfl (by decide) (v := u7) (by rfl) (w0 := w6) (cs := #[.string P2]) RO6.out (by rfl) rfl (by simp [Value.oneCell']) (by decide) (by omega) (by omega) ?_); intro v7 w7 hown7 hg7 hob7; have G7 : Hid (wo.grownBy w7 none) := Lib.hid (only_own G6.out hg7 RO6.out (Nat.le_refl _)); have RO7 : Hid (w7.ownsRow wo.heap.size 9 1 v7 (j + 1) (((strV P).take (j + 1)).map .string)) := Lib.hid (by rw [HTK.out, List.map_append]; exact hown7); clear hown7 hg7 hob7)
          go_roundw
          case rel => exact ⟨j + 1, by omega, by go_num, RO7.out, G7.out⟩
          case measure => simp [intOf]; omega
        · have j1 : ¬ (j : Int) < (P.length : Int) := by omega
          have hjE : j = P.length := by omega
          subst hjE
          obtain ⟨A7, c7, e7, hc7, hm7, hn7, hr7⟩ := own_parts RO.out (by decide)
          rw [show ((strV P).take P.length) = strV P from by rw [← strV_len P]; exact List.take_length] at hr7
          subst e7
          have MW := Lib.hid (MM.out.quiet G.out)
          have RS := Lib.hid (hr7.mono (S' := fun b => wo.heap.size ≤ b ∧ b < wr.heap.size) (fun b h1 h2 => ⟨h1, h2⟩))
          have HN7 := Lib.hid hn7
          have BW : Hid (Byts w2.heap.size wr vb (fieldsTo es ks' k)) := Lib.hid (own_ext BB.out G.out)
          have HLT : Hid (∀ g, vb.ownBlock = some g → g < wo.heap.size) := Lib.hid (fun g e => (World.ownsRow.lt BB.out g e).2)
          clear hr7 hn7 RO hjl HOV
          go_wp2_with (refine wpList_lookS rfl _ _ rfl rfl x rfl MW.out (by unfold SKey maxLen; omega) ?_; intro Av' cv' hov hback; have HOV := Lib.hid hov; clear hov hback; rw [HPF.out])
          have hov := HOV.out
          rw [HPF.out, HFP.out] at hov
          obtain ⟨Ar, cr, er, hcr, hmr, -, hrr⟩ := Rd.of_own hov (by decide)
          injection er with e1 e2 e3
          subst e1 e3
          have RR := Lib.hid hrr
          have KL := Lib.hid (listed_any w2.heap.size vb (fieldsTo es ks' k) Av' (posV P) cv' wr BW.out RR.out (by rw [posV_len]; exact hrl) (by rw [posV_len]; exact h0) HRA1.out (by rw [posV_len]; exact hcr) hmr (by omega) (by omega))
          rw [posV_len] at KL
          clear hrr e2 hov HOV
          refine KL.out.mono ?_
          rintro e w8 ⟨v8, rfl, hB8, hO8⟩
          have B8 := Lib.hid hB8
          have O8 := Lib.hid hO8
          have hz8 := hO8.1.size
          have RS8 := Lib.hid (RS.out.grown hO8.1 (fun b hb e => by have := HLT.out b e.symm; omega))
          have HNE8 : Hid (∀ b, (wo.heap.size ≤ b ∧ b < wr.heap.size) → some b ≠ v8.ownBlock) := Lib.hid (hO8.ne (fun b hb => hb.2) (fun b hb e => by have := HLT.out b e.symm; omega))
          have hbl : (blkP (postX (posV P))).length ≤ 700 := by have := blkP_len (b := postX (posV P)) (by omega); omega
          have KCd := Lib.hid (coded_any w2.heap.size v8 (fieldsTo es ks' k ++ blkP (postX (posV P))) A7 (strV P) c7 w8 B8.out RS8.out HNE8.out (by rw [strV_len]; omega) HRZ1.out (by rw [strV_len]; exact hc7) HN7.out (by rw [List.length_append]; omega) (by omega))
          rw [strV_len] at KCd
          clear hB8 hO8 KL
          go_wp2_with fail
          refine KCd.out.mono ?_
          rintro e w9 ⟨v9, rfl, hB9, hO9⟩
          have B9 : Hid (Byts w2.heap.size w9 v9 (fieldsTo es ks' (k + 1))) := Lib.hid (by rw [HT1.out]; exact hB9)
          have O9 : Hid (Onto w5 v4 v9 w9) := Lib.hid (OO.out.trans ((Onto.quiet G.out).trans (O8.out.trans hO9)))
          clear hB9 hO9 KCd
          go_wp2_with fail
          go_roundw
          case rel => exact ⟨k + 1, by omega, by go_num, B9.out, O9.out⟩
          case measure => simp [intOf]; omega
    · have i1 : ¬ (k : Int) < (ks'.length : Int) := by omega
      have hkE : k = ks'.length := by omega
      have B9 : Hid (Byts w2.heap.size wr u4 (fieldsX es)) := Lib.hid (by rw [HIX.out, ← hkE]; exact BB.out)
      clear hkE
      go_wp2_with fail
      go_ret
      exact ⟨u4, rfl, B9.out.base hz2, only_trans G2.out GG.out⟩
end Go.Proofs.YtpaiideboodaeaaGreatDoor

namespace Go.Proofs.YtpaiideboodaeaaGreatDoor
open Go.RowKit
set_option linter.unusedVariables false
set_option linter.unusedSimpArgs false

theorem bytes_only (w : World) (e : TypeId) (s : ByteArray) : w.grownBy (Lib.bytesWorld w e s) none :=
  ⟨by simp [Lib.bytesWorld, World.freeze]; rfl, by simp [Lib.bytesWorld, World.freeze], by simp [Lib.bytesWorld, World.freeze]; rfl, by rw [Lib.bytesWorld_size]; omega, fun j hj _ => Lib.bytesWorld_at_old w e s j hj⟩
theorem bytes_rd (w : World) (e : TypeId) (s : ByteArray) : Rd (fun _ => True) (Lib.bytesWorld w e s) (some ⟨w.heap.size, 0, none⟩) ((bts s).map (.int .u8)) := fun hn => by
  refine ⟨w.heap.size, 0, rfl, trivial, by rw [Lib.bytesWorld_size]; omega, fun j u hu => ?_⟩
  have hj : j < s.size := by
    have := (List.getElem?_eq_some_iff.1 hu).1
    rw [List.length_map, bts_length] at this
    exact this
  rw [Nat.zero_add, Lib.bytesWorld_cell w e s j hj]
  rw [List.getElem?_map, bts_at s hj] at hu
  injection hu with hu
  rw [← hu]
  congr 2
  have hl : j < s.data.toList.length := by simpa using hj
  rw [getD_lt _ _ hl]
  rfl

set_option maxHeartbeats 4000000 in
set_option maxRecDepth 100000 in
theorem phash_any (seed : Nat) (hs : seed < 4294967296) (s : ByteArray) (hz : s.size ≤ 100000) (w : World) :
    Calls Tryz.prog 176 #[.int .u32 seed, .string s] w (fun e w' => e = .returned (.int .u32 (hashN seed (bts s) : Nat)) ∧ w.grownBy w' none) := by
  have hx0 : bits BinOp.xor IntKind.u32 2166136261 (seed : Int) = ((2166136261 ^^^ seed : Nat) : Int) := xor_u32 2166136261 seed (by decide) hs
  have hl0 : 2166136261 ^^^ seed < 4294967296 := xor_lt32 (by decide) hs
  obtain ⟨R, hR⟩ : ∃ r, r = hashN seed (bts s) := ⟨_, rfl⟩
  have HR : Hid (R = hashF ((bts s).foldl hstep (2166136261 ^^^ seed))) := Lib.hid hR
  obtain ⟨h0, hh0⟩ : ∃ h0, h0 = 2166136261 ^^^ seed := ⟨_, rfl⟩
  rw [← hh0] at hx0 hl0 HR
  rw [← hR]
  clear hR hh0
  go_enter Tryz.func176, Tryz.ntmps176
  have kc := fun (w : World) => Lib.run_convert_string_bytes (P := Tryz.prog) w 9 22 5 s Tryz.underlying9 Tryz.underlying22 Tryz.underlying5
  have HBR := Lib.hid (bytes_rd w 5 s)
  have HBG := Lib.hid (bytes_only w 5 s)
  have hbl := bts_length s
  go_wp2_with fail
  clear kc
  obtain ⟨W, hW⟩ : ∃ W, W = Lib.bytesWorld w 5 s := ⟨_, rfl⟩
  rw [← hW] at HBR HBG ⊢
  clear hW
  go_loopw [5, 13] (fun vh vi wr => ∃ (k h : Nat), vi = .int .i64 k ∧ k ≤ s.size ∧ vh = .int .u32 h ∧ Hid (((bts s).take k).foldl hstep h0 = h) ∧ h < 4294967296 ∧ wr = W) (fun _ vi _ => s.size - (intOf vi).toNat)
  case atStart => exact ⟨0, h0, rfl, Nat.zero_le _, rfl, Lib.hid rfl, hl0, rfl⟩
  case round =>
    clear hx0 hl0
    obtain ⟨k, h, rfl, hk, rfl, HH, hh, rfl⟩ := hrel
    by_cases hlt : k < s.size
    · have hx := bts_at s hlt
      have hxb : (s[k]'hlt).toNat ≤ 255 := by have := (s[k]'hlt).toNat_lt; omega
      have hX := xor_u32 h (s[k]'hlt).toNat hh (by omega)
      obtain ⟨y, hy⟩ : ∃ y, y = h ^^^ (s[k]'hlt).toNat := ⟨_, rfl⟩
      rw [← hy] at hX
      have HN : Hid (((bts s).take (k + 1)).foldl hstep h0 = y * 16777619 % 4294967296) := Lib.hid (by
        obtain ⟨h1, h2⟩ := List.getElem?_eq_some_iff.1 hx
        rw [List.take_succ_eq_append_getElem h1, h2, List.foldl_append, HH.out]
        rw [List.foldl_cons, List.foldl_nil, hstep, Int.toNat_natCast, hy])
      have i1 : (k : Int) < (s.size : Int) := by omega
      have i0 : (0 : Int) ≤ (k : Int) := by omega
      obtain ⟨b0, o0, e0, -, -, hc0⟩ := HBR.out (by rw [List.length_map]; omega)
      injection e0 with e0
      injection e0 with e1 e2
      subst e1 e2
      have hck := hc0 k (.int .u8 ((s[k]'hlt).toNat : Int)) (by rw [List.getElem?_map, hx]; rfl)
      rw [Nat.zero_add] at hck
      clear hx hy hc0
      go_wp2_with fail
      go_roundw
      case rel => exact ⟨k + 1, y * 16777619 % 4294967296, by go_num, by omega, congrArg (Value.int .u32) (by omega), HN, by omega, trivial⟩
      case measure => simp [intOf]; omega
    · have HH2 : Hid ((bts s).foldl hstep h0 = h) := Lib.hid (by have h9 := HH.out; rw [List.take_of_length_le (by rw [bts_length]; omega)] at h9; exact h9)
      have i1 : ¬ (k : Int) < (s.size : Int) := by omega
      have hX1 : bits BinOp.xor IntKind.u32 (h : Int) ((h : Int) / 32768) = ((h ^^^ (h / 32768) : Nat) : Int) := by rw [show (h : Int) / 32768 = ((h / 32768 : Nat) : Int) from by omega]; exact xor_u32 h (h / 32768) hh (by omega)
      have hy1 : h ^^^ (h / 32768) < 4294967296 := xor_lt32 hh (by omega)
      obtain ⟨y, hy⟩ : ∃ y, y = h ^^^ (h / 32768) := ⟨_, rfl⟩
      rw [← hy] at hX1 hy1
      have HF : Hid (R = (y * 2246822519 % 4294967296) ^^^ (y * 2246822519 % 4294967296 / 8192)) := Lib.hid (by rw [HR.out, HH2.out, hashF, ← hy])
      have hX2 : bits BinOp.xor IntKind.u32 ((y : Int) * 2246822519 % 4294967296) ((y : Int) * 2246822519 % 4294967296 / 8192) = (R : Int) := by
        obtain ⟨z, hz⟩ : ∃ z, z = y * 2246822519 % 4294967296 := ⟨_, rfl⟩
        have e1 : (y : Int) * 2246822519 % 4294967296 = (z : Int) := by omega
        have e2 : (z : Int) / 8192 = ((z / 8192 : Nat) : Int) := by omega
        rw [e1, e2, xor_u32 z (z / 8192) (by omega) (by omega), HF.out, ← hz]
      have HX2 := Lib.hid hX2
      clear hy hX2
      go_wp2_with fail
      go_ret
      exact ⟨congrArg (fun x => Ending.returned (Value.int .u32 x)) HX2.out, HBG.out⟩

theorem fsize_any (A : Option Addr) (n c : Nat) (hn : n ≤ 100000) (w : World) : Calls Tryz.prog 177 #[.slice A n c] w (Quiet (.int .i64 ((n : Int) * 64)) w) := by
  go_enter Tryz.func177, Tryz.ntmps177
  go_wp2_with fail
  go_ret
  exact ⟨rfl, 0, rfl⟩
end Go.Proofs.YtpaiideboodaeaaGreatDoor

namespace Go.Proofs.YtpaiideboodaeaaGreatDoor
open Go.RowKit
set_option linter.unusedVariables false
set_option linter.unusedSimpArgs false

set_option maxHeartbeats 4000000 in
set_option maxRecDepth 100000 in
theorem pfcheck_any (A : Option Addr) (n c : Nat) (hn : 1 ≤ n) (hn2 : n ≤ 1024) (w : World) :
    Calls Tryz.prog 117 #[.agg #[.int .i64 3, .slice A n c]] w (fun e w' => e = .returned (.int .i64 0) ∧ w.grownBy w' none) := by
  have i1 : ¬ (n : Int) < 1 := by omega
  have i2 : ¬ (1024 : Int) < (n : Int) := by omega
  have i3 : ¬ n < 1 := by omega
  have i4 : ¬ 1024 < n := by omega
  have i5 : ¬ n = 0 := by omega
  go_enter Tryz.func117, Tryz.ntmps117
  go_wp2_with fail
  go_ret
  exact ⟨rfl, only_alloc (only_refl _ _) _⟩
set_option maxHeartbeats 4000000 in
set_option maxRecDepth 100000 in
theorem pfnew_any (size n : Nat) (hn : n = (size + 63) / 64) (h1 : 1 ≤ size) (h2 : size ≤ 65536) (w : World) :
    Calls Tryz.prog 114 #[.int .i64 size, .int .i64 3] w (FilP w n) := by
  have i1 : ¬ (size : Int) < 1 := by omega
  have i2 : ¬ (65536 : Int) < (size : Int) := by omega
  have HD : Hid (((size : Int) + 64 - 1) / 64 = (n : Int)) := Lib.hid (by omega)
  have hD := HD.out
  have hmk := fun (w' : World) => mk_any (P := Tryz.prog) Tryz.underlying34 u64Info rfl (by decide) n (by omega) w'
  have hnn : n ≤ 1024 := by omega
  clear hn h1 h2
  go_enter Tryz.func114, Tryz.ntmps114
  go_wp2_with fail
  have hB := (Blk.new w 36 #[.int .i64 3, .slice (some ⟨w.heap.size + 1, 0, none⟩) n n]).alloc (.cells (Array.replicate n (.int .u64 0)) 69)
  have q0 := hB.cell 0
  have q1 := hB.cell 1
  simp only [List.size_toArray, List.length_cons, List.length_nil, Nat.zero_add, Nat.reduceAdd, Nat.reduceLT, getElem?_pos, List.getElem_toArray, List.getElem_cons_zero, List.getElem_cons_succ] at q0 q1
  refine bodyPost_ret (v := .tuple #[.agg #[.int .i64 3, .slice (some ⟨w.heap.size + 1, 0, none⟩) n n], .int .i64 0]) (by simp [results, Tryz.results114, go_sem, q0, q1]) rfl ⟨w.heap.size + 1, rfl, by omega, ?_, only_alloc (only_alloc (only_refl _ _) _) _⟩
  have h := Blk.new (w.alloc (.cells #[.int .i64 3, .slice (some ⟨w.heap.size + 1, 0, none⟩) n n] 36)) 69 (Array.replicate n (.int .u64 0))
  simpa using h
set_option maxHeartbeats 8000000 in
set_option maxRecDepth 100000 in
theorem pfencode_any (A : Option Addr) (n c : Nat) (hn : 1 ≤ n) (hn2 : n ≤ 1024) (xs : List Int) (hl : xs.length = n) (w : World) (h : Rd (fun _ => True) w A (xs.map (.int .u64))) :
    Calls Tryz.prog 66 #[.agg #[.int .i64 3, .slice A n c]] w (fun e w' => ∃ v, e = .returned (.tuple #[v, .int .i64 0]) ∧ Byts w.heap.size w' v (encF n xs) ∧ w.grownBy w' none) := by
  have H := Lib.hid (h.mono (S' := fun b => b < w.heap.size) (fun b _ h => h))
  have HL := Lib.hid hl
  have KC := Lib.hid (fun w' => pfcheck_any A n c hn hn2 w')
  have HX : Hid (encF n xs = [3, ((n / 256 % 256 : Nat) : Int), ((n % 256 : Nat) : Int)] ++ xs.flatMap (fun x => byteL x 8)) := Lib.hid rfl
  have HSN : Hid (∀ k x, xs[k]? = some x → (xs.take (k + 1)).flatMap (fun x => byteL x 8) = (xs.take k).flatMap (fun x => byteL x 8) ++ byteL x 8) := Lib.hid (fun k x hx => flat_snoc (fun x => byteL x 8) hx)
  have HFL : Hid (∀ k, ((xs.take k).flatMap (fun x => byteL x 8)).length ≤ 8192) := Lib.hid (fun k => by rw [encF_flat, List.length_take]; omega)
  have HBS := Lib.hid byteL_step
  obtain ⟨R, hR⟩ : ∃ r, r = encF n xs := ⟨_, rfl⟩
  rw [← hR] at HX ⊢
  clear h hl hR
  have e1 : (n : Int) / 256 = ((n / 256 % 256 : Nat) : Int) := by omega
  have e2 : (n : Int) % 256 = ((n % 256 : Nat) : Int) := by omega
  have E12 := Lib.hid (And.intro e1 e2)
  clear e1 e2
  go_enter Tryz.func66, Tryz.ntmps66
  go_wp2_with fail
  obtain ⟨fb, hfb⟩ : ∃ b, b = w.heap.size := ⟨_, rfl⟩
  obtain ⟨W, hW⟩ : ∃ W, W = w.alloc (.cells #[.int .i64 3, .slice A n c] 36) := ⟨_, rfl⟩
  have hBF : Blk W fb 36 #[.int .i64 3, .slice A n c] := by rw [hW, hfb]; exact Blk.new _ _ _
  have hG0 : w.grownBy W none := by rw [hW]; exact only_alloc (only_refl _ _) _
  rw [← hW, ← hfb]
  clear hW hfb
  refine (KC.out W).mono ?_
  rintro e w1 ⟨rfl, hg1⟩
  have BF := Lib.hid (hBF.grown hg1 (by simp))
  have G1 := Lib.hid (only_trans hG0 hg1)
  have H1 := Lib.hid (H.out.grown (only_trans hG0 hg1) (by simp))
  have f0 := BF.out.cell 0; have f1 := BF.out.cell 1
  simp only [List.size_toArray, List.length_cons, List.length_nil, Nat.zero_add, Nat.reduceAdd, Nat.reduceLT, getElem?_pos, List.getElem_toArray, List.getElem_cons_zero, List.getElem_cons_succ] at f0 f1
  have hfl := BF.out.lt
  have hfn : fb ≠ w1.heap.size := by omega
  clear hBF hG0 hg1 KC H
  go_wp2_with fail
  have O1 : Hid ((w1.alloc (.cells #[.int .u8 3, .int .u8 ((n : Int) / 256), .int .u8 ((n : Int) % 256)] 5)).ownsRow w1.heap.size 5 1 (.slice (some ⟨w1.heap.size, 0, none⟩) 3 3) 3 [.int .u8 3, .int .u8 ((n : Int) / 256), .int .u8 ((n : Int) % 256)]) := Lib.hid (own_lit _ (Nat.le_refl _) rfl (by decide))
  have B1 : Hid (Byts w1.heap.size (w1.alloc (.cells #[.int .u8 3, .int .u8 ((n : Int) / 256), .int .u8 ((n : Int) % 256)] 5)) (.slice (some ⟨w1.heap.size, 0, none⟩) 3 3) ([3, ((n / 256 % 256 : Nat) : Int), ((n % 256 : Nat) : Int)] ++ (xs.take 0).flatMap (fun x => byteL x 8))) := Lib.hid (by
    unfold Byts
    rw [← E12.out.1, ← E12.out.2]
    exact O1.out)
  have G2 : Hid (w1.grownBy (w1.alloc (.cells #[.int .u8 3, .int .u8 ((n : Int) / 256), .int .u8 ((n : Int) % 256)] 5)) none) := Lib.hid (only_alloc (only_refl _ _) _)
  clear O1 E12
  obtain ⟨hd3, hh3⟩ : ∃ h : List Int, h = [3, ((n / 256 % 256 : Nat) : Int), ((n % 256 : Nat) : Int)] := ⟨_, rfl⟩
  have h3l : hd3.length = 3 := by rw [hh3]; rfl
  rw [← hh3] at HX B1
  clear hh3
  go_loopw [6, 30] (fun v vi wr => ∃ k : Nat, vi = .int .i64 k ∧ k ≤ n ∧ Byts w1.heap.size wr v (hd3 ++ (xs.take k).flatMap (fun x => byteL x 8)) ∧ w1.grownBy wr none) (fun _ vi _ => n - (intOf vi).toNat)
  case atStart => exact ⟨0, rfl, Nat.zero_le _, B1.out, G2.out⟩
  case round =>
    clear B1 G2
    obtain ⟨k, rfl, hk, hB, hG⟩ := hrel
    have B := Lib.hid hB
    have G := Lib.hid hG
    have hbase := hG.size
    obtain ⟨vO, hvO⟩ : ∃ v, v = u6 := ⟨_, rfl⟩
    rw [← hvO] at B ⊢
    clear hB hG hvO
    by_cases hlt : k < n
    · obtain ⟨x, hx⟩ : ∃ x, xs[k]? = some x := ⟨_, List.getElem?_eq_getElem (by rw [HL.out]; exact hlt)⟩
      have HS1 := Lib.hid (HSN.out k x hx)
      have hfl := HFL.out k
      obtain ⟨pre, hpre⟩ : ∃ p, p = hd3 ++ (xs.take k).flatMap (fun x => byteL x 8) := ⟨_, rfl⟩
      have hpl : pre.length ≤ 8195 := by rw [hpre, List.length_append]; omega
      have HPRE := Lib.hid hpre
      rw [← hpre] at B
      have HXK := Lib.hid hx
      obtain ⟨xb, xo, eA, hxb, -, hxc⟩ := (H1.out.grown G.out (by simp)) (by rw [List.length_map]; exact Nat.lt_of_le_of_lt (Nat.zero_le _) (List.getElem?_eq_some_iff.1 hx).1)
      have hcx := hxc k (.int .u64 x) (by rw [List.getElem?_map, hx]; rfl)
      have i0 : (0 : Int) ≤ (k : Int) := by omega
      subst eA
      have i1 : (k : Int) < (n : Int) := by omega
      clear hx hpre hfl hxc
      go_wp2_with fail
      obtain ⟨wo, rfl⟩ : ∃ wo : World, wo = wr := ⟨_, rfl⟩
      go_loopw [6, 34] (fun v vj wr => ∃ m : Nat, vj = .int .i64 m ∧ m ≤ 8 ∧ Byts w1.heap.size wr v (pre ++ byteL x m) ∧ w1.grownBy wr none) (fun _ vj _ => 8 - (intOf vj).toNat)
      case atStart => exact ⟨0, rfl, by omega, by simpa [byteL] using B.out, G.out⟩
      case round =>
        clear B G hbase
        obtain ⟨m, rfl, hm, hB, hG⟩ := hrel
        have B := Lib.hid hB
        have G := Lib.hid hG
        have hbase := hG.size
        obtain ⟨vQ, hvQ⟩ : ∃ v, v = u6 := ⟨_, rfl⟩
        rw [← hvQ] at B ⊢
        clear hB hG hvQ
        by_cases hlt8 : m < 8
        · have i2 : (m : Int) < 8 := by omega
          have HBM := Lib.hid (HBS.out x m)
          have hbl := byteL_len x m
          go_wp2_with (at_builtin; go_must (refine wpList_append1 rfl _ _ 22 rfl w1.heap.size Tryz.underlying22 byteInfo rfl (by decide) (v := vQ) (by rfl) (w0 := wr) (cs := #[.int .u8 (x / 2 ^ (8 * m) % 256)]) B.out (by rfl) rfl (by simp [Value.oneCell']) (by decide) (by rw [List.length_append]; omega) (by omega) ?_); intro v5 w5 hown5 hg5 hob5)
          have B5 : Hid (Byts w1.heap.size w5 v5 (pre ++ byteL x (m + 1))) := Lib.hid (by rw [HBM.out, ← List.append_assoc]; exact Byts.snoc hown5)
          have G5 : Hid (w1.grownBy w5 none) := Lib.hid (only_own G.out hg5 B.out (Nat.le_refl _))
          clear hown5 hg5 hob5
          go_wp2_with fail
          go_roundw
          case rel => exact ⟨m + 1, by go_num, by omega, B5.out, G5.out⟩
          case measure => simp [intOf]; omega
        · have hmE : m = 8 := by omega
          have B9 : Hid (Byts w1.heap.size wr vQ (hd3 ++ (xs.take (k + 1)).flatMap (fun x => byteL x 8))) := Lib.hid (by
            rw [HS1.out, ← List.append_assoc, ← HPRE.out, ← hmE]
            exact B.out)
          have i2 : ¬ (m : Int) < 8 := by omega
          clear hmE
          go_wp2_with fail
          go_roundw
          case rel => exact ⟨k + 1, by go_num, by omega, B9.out, G.out⟩
          case measure => simp [intOf]; omega
    · have hkE : k = n := by omega
      have HE : Hid (R = hd3 ++ (xs.take k).flatMap (fun x => byteL x 8)) := Lib.hid (by rw [HX.out, List.take_of_length_le (by rw [HL.out]; omega)])
      have i1 : ¬ (k : Int) < (n : Int) := by omega
      clear hkE
      go_wp2_with fail
      go_ret2
      rw [HE.out]
      exact ⟨vO, rfl, B.out.base G1.out.size, only_trans G1.out G.out⟩
end Go.Proofs.YtpaiideboodaeaaGreatDoor

namespace Go.Proofs.YtpaiideboodaeaaGreatDoor
open Go.RowKit
set_option linter.unusedVariables false
set_option linter.unusedSimpArgs false

set_option maxHeartbeats 4000000 in
set_option maxRecDepth 100000 in
theorem ppositions_any (A : Option Addr) (n c : Nat) (hn : 1 ≤ n) (hn2 : n ≤ 1024) (s : ByteArray) (hz : s.size ≤ 100000) (w : World) :
    Calls Tryz.prog 115 #[.agg #[.int .i64 3, .slice A n c], .string s] w (PosP w (posX n (bts s))) := by
  have KA := Lib.hid (fun w' => phash_any 0 (by decide) s hz w')
  have KB := Lib.hid (fun w' => phash_any 1 (by decide) s hz w')
  have hal : hashN 0 (bts s) < 4294967296 := hashF_lt
  have hbl : hashN 1 (bts s) < 4294967296 := hashF_lt
  have HP : Hid (∀ k, k < 3 → (posX n (bts s)).take (k + 1) = (posX n (bts s)).take k ++ [(((hashN 0 (bts s) + k * hashN 1 (bts s)) % 4294967296 % (64 * n) : Nat) : Int)]) := Lib.hid (fun k hk => by
    have h : (posX n (bts s))[k]? = some (placeX n (bts s) k : Int) := by
      unfold posX
      rw [List.getElem?_map, List.getElem?_range hk]
      rfl
    obtain ⟨h1, h2⟩ := List.getElem?_eq_some_iff.1 h
    rw [List.take_succ_eq_append_getElem h1, h2]
    rfl)
  have HL : Hid ((posX n (bts s)).length = 3) := Lib.hid (by unfold posX; rw [List.length_map, List.length_range])
  obtain ⟨P, hP⟩ : ∃ p, p = posX n (bts s) := ⟨_, rfl⟩
  obtain ⟨ha, hha⟩ : ∃ h, h = hashN 0 (bts s) := ⟨_, rfl⟩
  obtain ⟨hb, hhb⟩ : ∃ h, h = hashN 1 (bts s) := ⟨_, rfl⟩
  rw [← hha, ← hhb, ← hP] at HP
  rw [← hP] at HL
  rw [← hha] at KA hal
  rw [← hhb] at KB hbl
  rw [← hP]
  clear hP hha hhb
  have hfi : (Tryz.prog.info? 47).map (fun i => i.size) = some 1 := by kernel_rfl
  go_enter Tryz.func115, Tryz.ntmps115
  go_wp2_with fail
  have hB0 : Blk (w.alloc (.cells #[.int .i64 3, .slice A n c] 36)) w.heap.size 36 #[.int .i64 3, .slice A n c] := Blk.new _ _ _
  have hg0 : w.grownBy (w.alloc (.cells #[.int .i64 3, .slice A n c] 36)) none := only_alloc (only_refl _ _) _
  have BF := Lib.hid hB0
  have G0 := Lib.hid hg0
  obtain ⟨xb, hxb⟩ : ∃ b, b = w.heap.size := ⟨_, rfl⟩
  obtain ⟨W, hW⟩ : ∃ W, W = w.alloc (.cells #[.int .i64 3, .slice A n c] 36) := ⟨_, rfl⟩
  rw [← hW, ← hxb] at BF
  rw [← hW] at G0
  rw [← hW, ← hxb]
  clear hW hxb hB0 hg0
  have x1 : ∀ w', W.grownBy w' none → w'.cell? ⟨xb, 1, none⟩ = some (.slice A n c) := fun w' hg => by have h := (BF.out.grown hg (by simp)).cell 1; simpa using h
  have HC32 : Hid (IntKind.u32.wrap ((n : Int) * 64) = (n : Int) * 64) := Lib.hid (by simp [IntKind.wrap, IntKind.bits, IntKind.signed]; omega)
  go_upto_region 1 with fail
  refine wp_region_gen 11 (JC [some (.string s), some (.int .u32 (ha : Nat)), some (.string s), some (.int .u32 (hb : Nat)), some (.pointer (some ⟨xb, 1, none⟩)), some (.slice A n c), some (.int .i64 ((n : Int) * 64)), some (.int .u32 ((n : Int) * 64)), some (.int .u32 (ha : Nat)), some (.int .u32 (hb : Nat)), some (.int .u32 ((n : Int) * 64))] (fun D u wx => W.grownBy wx none)) (by kernel_rfl) (by kernel_rfl) ?_ ?_ ?_
  · intro u
    exact ⟨(fun j c _ h => by cases h), only_drew (only_refl _ _)⟩
  · intro AA hA
    have hasz : AA.tmps.size = 37 := by rw [hA]; kernel_rfl
    have ea1 : AA.eval (.tmp 1) = .string s := by rw [hA]; kernel_rfl
    have ea2 : AA.eval (.tmp 2) = .pointer (some ⟨xb, 0, none⟩) := by rw [hA]; kernel_rfl
    clear hA
    simp only [List.take_succ_cons, List.take_zero]
    refine .cons ?_ (.cons ?_ (.cons ?_ (.cons ?_ (.cons ?_ (.cons ?_ (.cons ?_ (.cons ?_ (.cons ?_ (.cons ?_ (.cons ?_ (.nil)))))))))))
    · exact gd_gen (by kernel_rfl) (Want.none_ rfl) rfl (fun D u w v h => by simpa [updB, upd] using h) (fun D u ρ w kn => by
        have e0 := kn.own 1 (c := .string s) (by kernel_rfl) ea1
        simp [execOp, kn.rho.con, e0, go_sem])
    · refine gd_call (by kernel_rfl) (Want.none_ rfl) 176 (fun D u ρ wx kn hD => ?_)
      have e0 := kn.con 0 10 (c := .string s) (by kernel_rfl) (by omega) (by kernel_rfl) rfl
      refine ⟨#[.int .u32 0, .string s], ?_, (KA.out wx).mono ?_⟩
      · simp only [execOp, resolve, Deferred.ofValue, List.map_toArray, List.map_cons, List.map_nil, e0, kn.rho.con, kn.rho.fn]
        simp [go_sem]
      · rintro e w' ⟨rfl, hg⟩
        exact ⟨_, rfl, (fun c h => by injection h with h; injection h), only_trans kn.ext hg⟩
    · exact gd_gen (by kernel_rfl) (Want.none_ rfl) rfl (fun D u w v h => by simpa [updB, upd] using h) (fun D u ρ w kn => by
        have e0 := kn.own 1 (c := .string s) (by kernel_rfl) ea1
        simp [execOp, kn.rho.con, e0, go_sem])
    · refine gd_call (by kernel_rfl) (Want.none_ rfl) 176 (fun D u ρ wx kn hD => ?_)
      have e0 := kn.con 2 12 (c := .string s) (by kernel_rfl) (by omega) (by kernel_rfl) rfl
      refine ⟨#[.int .u32 1, .string s], ?_, (KB.out wx).mono ?_⟩
      · simp only [execOp, resolve, Deferred.ofValue, List.map_toArray, List.map_cons, List.map_nil, e0, kn.rho.con, kn.rho.fn]
        simp [go_sem]
      · rintro e w' ⟨rfl, hg⟩
        exact ⟨_, rfl, (fun c h => by injection h with h; injection h), only_trans kn.ext hg⟩
    · exact gd_gen (by kernel_rfl) (Want.none_ rfl) rfl (fun D u w v h => by simpa [updB, upd] using h) (fun D u ρ w kn => by
        have e0 := kn.own 2 (c := .pointer (some ⟨xb, 0, none⟩)) (by kernel_rfl) ea2
        simp [execOp, kn.rho.con, e0, go_sem])
    · exact gd_gen (by kernel_rfl) (Want.none_ rfl) rfl (fun D u w v h => by simpa [updB, upd] using h) (fun D u ρ w kn => by
        have e0 := kn.con 4 14 (c := .pointer (some ⟨xb, 1, none⟩)) (by kernel_rfl) (by omega) (by kernel_rfl) rfl
        have f0 := x1 w kn.ext
        simp [execOp, kn.rho.con, e0, f0, go_sem])
    · refine gd_call (by kernel_rfl) (Want.none_ rfl) 177 (fun D u ρ wx kn hD => ?_)
      have e0 := kn.con 5 15 (c := .slice A n c) (by kernel_rfl) (by omega) (by kernel_rfl) rfl
      refine ⟨#[.slice A n c], ?_, (fsize_any A n c (by omega) wx).mono ?_⟩
      · simp only [execOp, resolve, Deferred.ofValue, List.map_toArray, List.map_cons, List.map_nil, e0, kn.rho.con, kn.rho.fn]
        simp [go_sem]
      · rintro e w' ⟨rfl, q, rfl⟩
        exact ⟨_, rfl, (fun c h => by injection h with h; injection h), only_drewN kn.ext q⟩
    · exact gd_gen (by kernel_rfl) (Want.none_ rfl) rfl (fun D u w v h => by simpa [updB, upd] using h) (fun D u ρ w kn => by
        have e0 := kn.con 6 16 (c := .int .i64 ((n : Int) * 64)) (by kernel_rfl) (by omega) (by kernel_rfl) rfl
        simp [execOp, kn.rho.con, e0, go_sem, HC32.out])
    · exact gd_gen (by kernel_rfl) (Want.none_ rfl) rfl (fun D u w v h => by simpa [updB, upd] using h) (fun D u ρ w kn => by
        have e0 := kn.con 1 11 (c := .int .u32 (ha : Nat)) (by kernel_rfl) (by omega) (by kernel_rfl) rfl
        simp [execOp, kn.rho.con, e0, go_sem])
    · exact gd_gen (by kernel_rfl) (Want.none_ rfl) rfl (fun D u w v h => by simpa [updB, upd] using h) (fun D u ρ w kn => by
        have e0 := kn.con 3 13 (c := .int .u32 (hb : Nat)) (by kernel_rfl) (by omega) (by kernel_rfl) rfl
        simp [execOp, kn.rho.con, e0, go_sem])
    · exact gd_gen (by kernel_rfl) (Want.none_ rfl) rfl (fun D u w v h => by simpa [updB, upd] using h) (fun D u ρ w kn => by
        have e0 := kn.con 7 17 (c := .int .u32 ((n : Int) * 64)) (by kernel_rfl) (by omega) (by kernel_rfl) rfl
        simp [execOp, kn.rho.con, e0, go_sem])
  · intro D u w9 hJ hD
    simp only [List.take_succ_cons, List.take_zero, List.drop_succ_cons, List.drop_zero, putAll]
    have hcn := hJ.1
    have x9 := hJ.2
    have e1 : u 8 = .int .u32 (ha : Nat) := hcn 8 _ rfl (hD 8 (by omega))
    have e3 : u 9 = .int .u32 (hb : Nat) := hcn 9 _ rfl (hD 9 (by omega))
    have e7 : u 10 = .int .u32 ((n : Int) * 64) := hcn 10 _ rfl (hD 10 (by omega))
    rw [e1, e3, e7]
    have GW := Lib.hid x9
    clear hJ hcn x9 e1 e3 e7 hD x1
    have y0 := (BF.out.grown GW.out (by simp)).cell 0
    simp at y0
    go_simp
    go_wp2_with fail
    clear y0
    go_loopw [8, 20] (fun v vi wr => ∃ k : Nat, vi = .int .i64 k ∧ k ≤ 3 ∧ wr.ownsRow W.heap.size 3 1 v k ((P.take k).map (.int .i64)) ∧ W.grownBy wr none) (fun _ vi _ => 3 - (intOf vi).toNat)
    case atStart => exact ⟨0, rfl, by omega, World.ownsRow_nil _ _ _ _, GW.out⟩
    case round =>
      obtain ⟨k, rfl, hk, hO, hG⟩ := hrel
      have OO := Lib.hid hO
      have G := Lib.hid hG
      have hbase := hG.size
      obtain ⟨vO, hvO⟩ : ∃ v, v = u8 := ⟨_, rfl⟩
      rw [← hvO] at OO ⊢
      clear hO hG hvO
      by_cases hlt : k < 3
      · have i1 : (k : Int) < 3 := by omega
        have HPK := Lib.hid (HP.out k hlt)
        have HXE : Hid (wrap64 (((ha : Int) + (k : Int) * (hb : Int)) % 4294967296 % ((n : Int) * 64)) = (((ha + k * hb) % 4294967296 % (64 * n) : Nat) : Int)) := Lib.hid (by
          have hm : (ha + k * hb) % 4294967296 % (64 * n) < 64 * n := Nat.mod_lt _ (by omega)
          have he : ((ha : Int) + (k : Int) * (hb : Int)) % 4294967296 % ((n : Int) * 64) = (((ha + k * hb) % 4294967296 % (64 * n) : Nat) : Int) := by rw [Int.mul_comm (n : Int) 64]; simp only [Int.natCast_emod, Int.natCast_add, Int.natCast_mul]; rfl
          rw [he]
          obtain ⟨z, hz⟩ : ∃ z, z = (ha + k * hb) % 4294967296 % (64 * n) := ⟨_, rfl⟩
          rw [← hz] at hm ⊢
          have hz2 : z < 65536 := by omega
          clear hz he hm
          unfold wrap64; omega)
        go_wp2_with (at_builtin; go_must (refine wpList_append1 rfl _ _ 47 rfl W.heap.size Tryz.underlying47 intInfoS rfl (by decide) (v := vO) (by rfl) (w0 := wr) (cs := #[.int .i64 (wrap64 (((ha : Int) + (k : Int) * (hb : Int)) % 4294967296 % ((n : Int) * 64)))]) OO.out (by rfl) rfl (by simp [Value.oneCell']) (by decide) (by omega) (by omega) ?_); intro v5 w5 hown5 hg5 hob5)
        rw [HXE.out] at hown5
        have O5 : Hid (w5.ownsRow W.heap.size 3 1 v5 (k + 1) ((P.take (k + 1)).map (.int .i64))) := Lib.hid (by rw [HPK.out, List.map_append]; exact hown5)
        have G5 : Hid (W.grownBy w5 none) := Lib.hid (only_own G.out hg5 OO.out (Nat.le_refl _))
        clear hown5 hg5 hob5
        go_wp2_with fail
        go_roundw
        case rel => exact ⟨k + 1, by go_num, by omega, O5.out, G5.out⟩
        case measure => simp [intOf]; omega
      · have i1 : ¬ (k : Int) < 3 := by omega
        have hkE : k = 3 := by omega
        have hE : P.take k = P := List.take_of_length_le (by rw [HL.out]; omega)
        obtain ⟨AO, cO, hv, h1, h2, -, h3⟩ := Rd.of_own OO.out (by decide)
        rw [hE] at h3
        have h4 : k = P.length := by rw [HL.out]; exact hkE
        rw [h4] at h1 hv
        have H1 := Lib.hid h1
        have H2 := Lib.hid h2
        have H3 := Lib.hid (h3.mono (S' := (w.heap.size ≤ ·)) (fun b hb _ => Nat.le_trans G0.out.size hb))
        rw [hv]
        clear hv h1 h2 h3 h4 hE hkE OO
        go_wp2_with fail
        go_ret
        exact ⟨AO, cO, rfl, H1.out, H2.out, H3.out, only_trans G0.out G.out⟩

end Go.Proofs.YtpaiideboodaeaaGreatDoor
