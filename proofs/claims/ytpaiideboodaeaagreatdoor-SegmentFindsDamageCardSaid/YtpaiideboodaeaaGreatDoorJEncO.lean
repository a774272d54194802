/- segment.Encode: the program's, at good events. Conditions: good events, the table of letters. -/
import Derived.Test.YtpaiideboodaeaaGreatDoorJEnc27
import Derived.Test.YtpaiideboodaeaaGreatDoorJEncN
import Derived.Test.YtpaiideboodaeaaGreatDoorJFilS
import Derived.Test.YtpaiideboodaeaaGreatDoorJEncL
import Derived.Test.YtpaiideboodaeaaGreatDoorJEChk
import Derived.Test.YtpaiideboodaeaaGreatDoorJIdxP
import Derived.Test.YtpaiideboodaeaaGreatDoorJStr
namespace Go.Proofs.YtpaiideboodaeaaGreatDoor
open Go.RowKit
set_option linter.unusedVariables false
set_option linter.unusedSimpArgs false

theorem pcheck27 {S : Nat → Prop} (A : Option Addr) (es : List Ev) (c : Nat) (w : World) (hev : Evs S w A es) (hel : es.length ≤ 40) (hs : ∀ e ∈ es, EvE e) (hr : SrtE es) (hK : Kinds w) :
    Calls Tryz.prog 21 #[.slice A es.length c] w (OkE w) :=
  scheck_any A es c w hev (by omega) (fun e he => (hs e he).c.o (hev.2 e he) (by have := (hs e he).s.2.2.2.1; omega))
    (fun e he => ⟨fun l hl => by have := (hs e he).s.2.1 l hl; omega, by have := (hs e he).s.2.2.1; omega, fun f hf => by have := ((hs e he).s.2.2.2.2.1 f hf).1; omega⟩) hr
    (by have := wordsX_len (fun e he => (hs e he).s) hel; have e : dist (es.flatMap wordsG) = wordsX es := rfl; rw [e]; omega)
    (by have := namesX_len (fun e he => (hs e he).s) hel; have e : dist (es.flatMap namesG) = namesX es := rfl; rw [e]; omega) hK
/-- the place of the k-th number of an event -/
def offI (k : Nat) : Nat := if k < 4 then k else k + 1
theorem ints_ix0 (g : Nat) (w : World) : (Instr.index 59 (intsV g) (.int .i64 ((0 : Nat) : Int))).run Tryz.prog w = .ok (.pointer (some ⟨g, offI 0, none⟩)) w := by kernel_rfl
theorem ints_ix1 (g : Nat) (w : World) : (Instr.index 59 (intsV g) (.int .i64 ((1 : Nat) : Int))).run Tryz.prog w = .ok (.pointer (some ⟨g, offI 1, none⟩)) w := by kernel_rfl
theorem ints_ix2 (g : Nat) (w : World) : (Instr.index 59 (intsV g) (.int .i64 ((2 : Nat) : Int))).run Tryz.prog w = .ok (.pointer (some ⟨g, offI 2, none⟩)) w := by kernel_rfl
theorem ints_ix3 (g : Nat) (w : World) : (Instr.index 59 (intsV g) (.int .i64 ((3 : Nat) : Int))).run Tryz.prog w = .ok (.pointer (some ⟨g, offI 3, none⟩)) w := by kernel_rfl
theorem ints_ix4 (g : Nat) (w : World) : (Instr.index 59 (intsV g) (.int .i64 ((4 : Nat) : Int))).run Tryz.prog w = .ok (.pointer (some ⟨g, offI 4, none⟩)) w := by kernel_rfl
theorem ints_ix5 (g : Nat) (w : World) : (Instr.index 59 (intsV g) (.int .i64 ((5 : Nat) : Int))).run Tryz.prog w = .ok (.pointer (some ⟨g, offI 5, none⟩)) w := by kernel_rfl
theorem ints_ix (g k : Nat) (hk : k < 6) (w : World) : (Instr.index 59 (intsV g) (.int .i64 k)).run Tryz.prog w = .ok (.pointer (some ⟨g, offI k, none⟩)) w := by
  have h : k = 0 ∨ k = 1 ∨ k = 2 ∨ k = 3 ∨ k = 4 ∨ k = 5 := by omega
  rcases h with rfl | rfl | rfl | rfl | rfl | rfl
  · exact ints_ix0 g w
  · exact ints_ix1 g w
  · exact ints_ix2 g w
  · exact ints_ix3 g w
  · exact ints_ix4 g w
  · exact ints_ix5 g w
theorem texts_ix0 (g : Nat) (w : World) : (Instr.index 64 (textsV g) (.int .i64 ((0 : Nat) : Int))).run Tryz.prog w = .ok (.pointer (some ⟨g, 7 + 0, none⟩)) w := by kernel_rfl
theorem texts_ix1 (g : Nat) (w : World) : (Instr.index 64 (textsV g) (.int .i64 ((1 : Nat) : Int))).run Tryz.prog w = .ok (.pointer (some ⟨g, 7 + 1, none⟩)) w := by kernel_rfl
theorem texts_ix (g k : Nat) (hk : k < 2) (w : World) : (Instr.index 64 (textsV g) (.int .i64 k)).run Tryz.prog w = .ok (.pointer (some ⟨g, 7 + k, none⟩)) w := by
  have h : k = 0 ∨ k = 1 := by omega
  rcases h with rfl | rfl
  · exact texts_ix0 g w
  · exact texts_ix1 g w
theorem ints_cell {w : World} {g k : Nat} {y : Ev} {t : TypeId} (hB : Blk w g t y.cells.toArray) (hk : k < 6) : w.cell? ⟨g, offI k, none⟩ = some (.int .i64 (numX y (k + 1))) := by
  have h : k = 0 ∨ k = 1 ∨ k = 2 ∨ k = 3 ∨ k = 4 ∨ k = 5 := by omega
  rcases h with rfl | rfl | rfl | rfl | rfl | rfl <;> (rw [hB.cell]; rfl)
theorem texts_cell {w : World} {g k : Nat} {y : Ev} {t : TypeId} (hB : Blk w g t y.cells.toArray) (hk : k < 2) : w.cell? ⟨g, 7 + k, none⟩ = some (.string (if k + 7 = 7 then y.trace else y.stream)) := by
  have h : k = 0 ∨ k = 1 := by omega
  rcases h with rfl | rfl <;> (rw [hB.cell]; rfl)
set_option maxHeartbeats 16000000 in
set_option maxRecDepth 100000 in
theorem pencode27_any {S : Nat → Prop} (A : Option Addr) (es : List Ev) (c : Nat) (w : World) (hev : Evs S w A es) (hel : es.length ≤ 40) (hs : ∀ e ∈ es, EvE e) (hr : SrtE es) (hK : Kinds w) :
    Calls Tryz.prog 8 #[.slice A es.length c] w (EncP w (encX es)) := by
  have HEV := Lib.hid (hev.mono (S' := fun b => b < w.heap.size) (fun b _ h => h))
  have KC := Lib.hid (pcheck27 A es c w hev hel hs hr hK)
  have hS : ∀ e ∈ es, EvS e := fun e he => (hs e he).s
  have KL := Lib.hid (fun (w' : World) (hg : w.grownBy w' none) => linesec_any A es c w' (hev.grown hg (by simp)) hel (fun e he => (hs e he).l))
  have KF := Lib.hid (fun (w' : World) (hg : w.grownBy w' none) => fieldsec_any A es c w' (hev.grown hg (by simp)) hel hS (fun e he => (hs e he).c.fs))
  have KW := Lib.hid (fun (w' : World) (hg : w.grownBy w' none) => wordsec_any A es c w' (hev.grown hg (by simp)) hel hS)
  have KT := Lib.hid (fun (w' : World) (hg : w.grownBy w' none) => filtersec_any A es c w' (hev.grown hg (by simp)) hel hS)
  have HNX : Hid (∀ k, k < 6 → secX es (k + 1) = colX (numsX es (k + 1))) := Lib.hid (fun k hk => by unfold secX; rw [if_pos (by omega)])
  have HTX : Hid (∀ k, k < 2 → secX es (6 + k + 1) = idxX (txtsX es (k + 7))) := Lib.hid (fun k hk => by unfold secX; rw [if_neg (by omega), if_pos (by omega), show 6 + k + 1 = k + 7 from by omega])
  have HX9 : Hid (secX es 9 = linesX es) := Lib.hid rfl
  have HX10 : Hid (secX es 10 = fieldsX es) := Lib.hid rfl
  have HX11 : Hid (secX es 11 = indexX es) := Lib.hid rfl
  have HX12 : Hid (secX es 12 = filX es) := Lib.hid rfl
  have HNI : Hid (∀ k, ∀ x ∈ numsX es k, I64 x) := Lib.hid (fun k x hx => by obtain ⟨e, he, rfl⟩ := List.mem_map.1 hx; exact (hs e he).num k)
  have HTI : Hid (∀ k, ∀ x ∈ txtsX es k, x.size ≤ 250) := Lib.hid (fun k x hx => by
    obtain ⟨e, he, rfl⟩ := List.mem_map.1 hx
    have h1 := (hS e he).2.2.2.2.2
    split <;> omega)
  have HSL : Hid (∀ j, 1 ≤ j → j ≤ 12 → (secX es j).length ≤ 7000000) := Lib.hid (fun j h1 h2 => by
    have h := secX_len hs hel j
    split at h
    · omega
    · split at h
      · omega
      · split at h
        · omega
        · split at h
          · omega
          · split at h <;> omega)
  have HBL : Hid (∀ k, k ≤ 12 → (bodyTo es k).length ≤ 8900000) := Lib.hid (fun k hk => bodyTo_len hs hel hk)
  have HHL := Lib.hid (headTo_len es)
  have HCN := Lib.hid crcN_lt
  have HT : Hid (∀ e ∈ es, 0 ≤ e.time ∧ e.time ≤ 253402300799999) := Lib.hid (fun e he => ⟨(hs e he).c.t0, (hs e he).c.t1⟩)
  have HH0 : Hid (headTo es 0 = [76, 84, 83, 49] ++ beB 4 es.length ++ beB 8 (firstT es) ++ beB 8 (lastT es)) := Lib.hid rfl
  have HH1 : Hid (∀ k, headTo es (k + 1) = headTo es k ++ beB 4 (secX es (k + 1)).length ++ beB 4 (crcN (secX es (k + 1)))) := Lib.hid (fun k => rfl)
  have HX : Hid (encX es = headTo es 12 ++ beB 4 (crcN (headTo es 12)) ++ bodyTo es 12) := Lib.hid rfl
  have HFL : Hid (firstT es < 18446744073709551616 ∧ lastT es < 18446744073709551616) := Lib.hid (by
    constructor
    · cases es with
      | nil => have h0 : firstT ([] : List Ev) = 0 := rfl; omega
      | cons x xs => rw [firstT_cons]; have := HT.out x (List.mem_cons_self ..); omega
    · rcases Nat.eq_zero_or_pos es.length with h | h
      · have h0 : lastT ([] : List Ev) = 0 := rfl
        rw [List.eq_nil_of_length_eq_zero h]; omega
      · rw [lastT_at (m := es.length - 1) (by omega) (List.getElem?_eq_getElem (by omega))]
        have := HT.out _ (List.getElem_mem (show es.length - 1 < es.length by omega))
        omega)
  have HF0 : Hid (∀ x, es[0]? = some x → firstT es = x.time.toNat) := Lib.hid (fun x hx => firstT_at hx)
  have HFZ : Hid (es.length = 0 → firstT es = 0 ∧ lastT es = 0) := Lib.hid (fun h => by rw [List.eq_nil_of_length_eq_zero h]; exact ⟨rfl, rfl⟩)
  have HLT : Hid (∀ m y, es.length = m + 1 → es[m]? = some y → lastT es = y.time.toNat) := Lib.hid (fun m y hm hy => lastT_at hm hy)
  obtain ⟨tf, htf⟩ : ∃ t, t = firstT es := ⟨_, rfl⟩
  obtain ⟨tl, htl⟩ : ∃ t, t = lastT es := ⟨_, rfl⟩
  rw [← htf] at HFL HF0 HFZ HH0
  rw [← htl] at HFL HFZ HLT HH0
  obtain ⟨R, hR⟩ : ∃ r, r = encX es := ⟨_, rfl⟩
  rw [← hR] at HX ⊢
  clear hev hs hr htf htl hR hS hK
  go_enter Tryz.func8, Tryz.ntmps8
  go_wp2_with fail
  refine KC.out.mono ?_
  rintro en w1 ⟨rfl, hg1⟩
  have G1 := Lib.hid hg1
  clear hg1 KC
  go_wp2_with fail
  refine (ints_any _ _).mono ?_
  rintro en w2 ⟨rfl, hg2⟩
  have G2 : Hid (w1.grownBy w2 none) := Lib.hid (only_trans (only_alloc (only_refl _ _) _) hg2)
  clear hg2
  go_wp2_with fail
  go_loopw [5, 29] (fun u i wr => ∃ k : Nat, k ≤ 6 ∧ i = .int .i64 k ∧ SecS es w1.heap.size wr u k ∧ w1.grownBy wr none) (fun _ i _ => 6 - (intOf i).toNat)
  case atStart => exact ⟨0, by omega, rfl, SecS.nil _ _ _, G2.out⟩
  case round =>
    clear G2
    obtain ⟨k, hk, rfl, hSe, hG⟩ := hrel
    have SE := Lib.hid hSe
    have GG := Lib.hid hG
    have hzr := hG.size
    clear hSe hG
    by_cases hlt : k < 6
    · have i1 : (k : Int) < 6 := by omega
      have HNX1 := Lib.hid (HNX.out k hlt)
      have HNI1 := Lib.hid (HNI.out (k + 1))
      obtain ⟨xs, hxs⟩ : ∃ xs, xs = numsX es (k + 1) := ⟨_, rfl⟩
      have HXL : Hid (xs.length = es.length) := Lib.hid (by rw [hxs]; unfold numsX; rw [List.length_map])
      have HXA : Hid (∀ m y, es[m]? = some y → xs.take (m + 1) = xs.take m ++ [numX y (k + 1)]) := Lib.hid (fun m y hy => by
        have h1 : xs[m]? = some (numX y (k + 1)) := by rw [hxs]; unfold numsX; rw [List.getElem?_map, hy]; rfl
        obtain ⟨h2, h3⟩ := List.getElem?_eq_some_iff.1 h1
        rw [List.take_succ_eq_append_getElem h2, h3])
      rw [← hxs] at HNX1 HNI1
      clear hxs
      go_wp2_with fail
      obtain ⟨wo, rfl⟩ : ∃ x, x = wr := ⟨_, rfl⟩
      go_loopw [7, 34] (fun v j wr => ∃ m : Nat, m ≤ es.length ∧ j = .int .i64 m ∧ wr.ownsRow wo.heap.size 3 1 v m ((xs.take m).map (.int .i64)) ∧ wo.grownBy wr none) (fun _ j _ => es.length - (intOf j).toNat)
      case atStart => exact ⟨0, Nat.zero_le _, rfl, World.ownsRow_nil _ _ _ _, only_refl _ _⟩
      case round =>
        obtain ⟨m, hm, rfl, hO, hG⟩ := hrel
        have O := Lib.hid hO
        have G := Lib.hid hG
        have hzq := hG.size
        clear hO hG
        by_cases hml : m < es.length
        · obtain ⟨y, hy⟩ : ∃ y, es[m]? = some y := ⟨_, List.getElem?_eq_getElem hml⟩
          have hHev := HEV.out.grown (only_trans G1.out (only_trans GG.out G.out)) (by simp)
          obtain ⟨kb, ko, eE, hkw, z0, z1, z2, z3, z4, z5, z6, z7, z8, z9⟩ := ev_in hHev.1 hy
          subst eE
          have HXY := Lib.hid (HXA.out m y hy)
          have i2 : (m : Int) < (es.length : Int) := by omega
          have i3 : (0 : Int) ≤ (m : Int) := by omega
          clear hy hHev
          go_upto_region 12 with fail
          obtain ⟨W, hW⟩ : ∃ W, W = wr.alloc (.cells #[.int .i64 y.host, .int .i64 y.file, .int .i64 y.beg, .int .i64 y.fin, .slice y.la y.lines.length y.lc, .int .i64 y.time, .int .i64 y.weight, .string y.trace, .string y.stream, .slice y.fa y.fields.length y.fc] 44) := ⟨_, rfl⟩
          have hB : Blk W wr.heap.size 44 y.cells.toArray := by rw [hW]; exact Blk.new _ _ _
          have hgW : wr.grownBy W none := by rw [hW]; exact only_alloc (only_refl _ _) _
          obtain ⟨g, hg0⟩ : ∃ g, g = wr.heap.size := ⟨_, rfl⟩
          rw [← hW, ← hg0]
          rw [← hg0] at hB
          have HG0 := Lib.hid hg0
          clear hW hg0 z0 z1 z2 z3 z4 z5 z6 z7 z8 z9
          go_wp2_with fail
          refine (ints_any g W).mono ?_
          rintro e w4 ⟨rfl, hg4⟩
          have hix := ints_ix g k hlt
          have hc4 := ints_cell (hB.grown hg4 (by simp)) hlt
          have O4 := Lib.hid (own_ext (own_ext O.out hgW) hg4)
          have G4 := Lib.hid (only_trans G.out (only_trans hgW hg4))
          have hz4 := G4.out.size
          clear hB hgW hg4 O G
          go_wp2_with (at_builtin; go_must (refine wpList_append1 rfl _ _ 47 rfl wo.heap.size Tryz.underlying47 intInfoS rfl (by decide) (v := u7) (by rfl) (w0 := w4) (cs := #[.int .i64 (numX y (k + 1))]) O4.out (by rfl) rfl (by simp [Value.oneCell']) (by decide) (by omega) (by omega) ?_); intro v7 w7 hown7 hg7 hob7; have G7 : Hid (wo.grownBy w7 none) := Lib.hid (only_own G4.out hg7 O4.out (Nat.le_refl _)); have O7 : Hid (w7.ownsRow wo.heap.size 3 1 v7 (m + 1) ((xs.take (m + 1)).map (.int .i64))) := Lib.hid (by rw [HXY.out, List.map_append]; exact hown7); clear hown7 hg7 hob7)
          go_roundw
          case rel => exact ⟨m + 1, by omega, by go_num, O7.out, G7.out⟩
          case measure => simp [intOf]; omega
        · have hmE : m = es.length := by omega
          subst hmE
          have i2 : ¬ (es.length : Int) < (es.length : Int) := by omega
          obtain ⟨A7, c7, e7, hc7, hm7, -, hr7⟩ := own_parts O.out (by decide)
          rw [show xs.take es.length = xs from by rw [← HXL.out]; exact List.take_length] at hr7
          subst e7
          have KE := encode_any A7 xs c7 wr (hr7.mono (fun _ _ _ => trivial)) (by rw [HXL.out]; omega) HNI1.out
          rw [HXL.out] at KE
          have KE1 := Lib.hid KE
          have hcx := colX_len HNI1.out (by rw [HXL.out]; omega)
          rw [HXL.out] at hcx
          clear KE hr7 O hml
          go_wp2_with fail
          refine KE1.out.mono ?_
          rintro e w5 ⟨v5, rfl, hB5, hg5⟩
          obtain ⟨A5, c5, e5, hc5, hm5, -⟩ := hB5.rd
          subst e5
          have hBs : Byts w1.heap.size w5 (.slice A5 (colX xs).length c5) (secX es (k + 1)) := by rw [HNX1.out]; exact Byts.base hB5 (by omega)
          have HBS := Lib.hid hBs
          have g5 := only_trans G.out hg5
          obtain ⟨rows, hl, ho, hr⟩ := SE.out.quiet g5
          have HO := Lib.hid ho
          have HR := Lib.hid hr
          have HL := Lib.hid hl
          have G5 := Lib.hid (only_trans GG.out g5)
          have hz5 := g5.size
          clear hB5 hBs hg5 g5 ho hr hl KE1 SE
          go_wp2_with (at_builtin; go_must (refine wpList_append1 rfl _ _ 57 rfl w1.heap.size Tryz.underlying57 bytesInfoS rfl (by decide) (v := u5) (by rfl) (w0 := w5) (cs := #[.slice A5 (colX xs).length c5]) HO.out (by rfl) rfl (by simp [Value.oneCell']) (by decide) (by omega) (by omega) ?_); intro v7 w7 hown7 hg7 hob7; have G7 : Hid (w1.grownBy w7 none) := Lib.hid (only_own G5.out hg7 HO.out (Nat.le_refl _)); have S7 : Hid (SecS es w1.heap.size w7 v7 (k + 1)) := Lib.hid (SecS.puts (us := [.slice A5 (colX xs).length c5]) HL.out HO.out HR.out (fun i u hu => by (rcases i with _ | i <;> simp at hu; subst hu; exact HBS.out)) hg7 hown7); clear hown7 hg7 hob7)
          go_roundw
          case rel => exact ⟨k + 1, by omega, by go_num, S7.out, G7.out⟩
          case measure => simp [intOf]; omega
    · have hkE : k = 6 := by omega
      subst hkE
      have i1 : ¬ (6 : Int) < 6 := by omega
      go_wp2_with fail
      refine (texts_any _ _).mono ?_
      rintro e w8 ⟨rfl, hg8⟩
      have S8 := Lib.hid ((SE.out.quiet (only_alloc (only_refl _ _) _)).quiet hg8)
      have G8 := Lib.hid (only_trans (only_alloc GG.out _) hg8)
      clear hg8 SE GG hzr
      go_wp2_with fail
      go_loopw [5, 60] (fun u i wr => ∃ k : Nat, k ≤ 2 ∧ i = .int .i64 k ∧ SecS es w1.heap.size wr u (6 + k) ∧ w1.grownBy wr none) (fun _ i _ => 2 - (intOf i).toNat)
      case atStart => exact ⟨0, by omega, rfl, S8.out, G8.out⟩
      case round =>
        clear S8 G8
        obtain ⟨k, hk, rfl, hSe, hG⟩ := hrel
        have SE := Lib.hid hSe
        have GG := Lib.hid hG
        have hzr := hG.size
        clear hSe hG
        by_cases hlt : k < 2
        · have i1 : (k : Int) < 2 := by omega
          have HTX1 := Lib.hid (HTX.out k hlt)
          have HTI1 := Lib.hid (HTI.out (k + 7))
          obtain ⟨xs, hxs⟩ : ∃ xs, xs = txtsX es (k + 7) := ⟨_, rfl⟩
          have HXL : Hid (xs.length = es.length) := Lib.hid (by rw [hxs]; unfold txtsX; rw [List.length_map])
          have HXA : Hid (∀ m y, es[m]? = some y → xs.take (m + 1) = xs.take m ++ [if k + 7 = 7 then y.trace else y.stream]) := Lib.hid (fun m y hy => by
            have h1 : xs[m]? = some (if k + 7 = 7 then y.trace else y.stream) := by rw [hxs]; unfold txtsX; rw [List.getElem?_map, hy]; rfl
            obtain ⟨h2, h3⟩ := List.getElem?_eq_some_iff.1 h1
            rw [List.take_succ_eq_append_getElem h2, h3])
          rw [← hxs] at HTX1 HTI1
          clear hxs
          go_wp2_with fail
          obtain ⟨wo, rfl⟩ : ∃ x, x = wr := ⟨_, rfl⟩
          go_loopw [13, 65] (fun v j wr => ∃ m : Nat, m ≤ es.length ∧ j = .int .i64 m ∧ wr.ownsRow wo.heap.size 9 1 v m ((xs.take m).map .string) ∧ wo.grownBy wr none) (fun _ j _ => es.length - (intOf j).toNat)
          case atStart => exact ⟨0, Nat.zero_le _, rfl, World.ownsRow_nil _ _ _ _, only_refl _ _⟩
          case round =>
            obtain ⟨m, hm, rfl, hO, hG⟩ := hrel
            have O := Lib.hid hO
            have G := Lib.hid hG
            have hzq := hG.size
            clear hO hG
            by_cases hml : m < es.length
            · obtain ⟨y, hy⟩ : ∃ y, es[m]? = some y := ⟨_, List.getElem?_eq_getElem hml⟩
              have hHev := HEV.out.grown (only_trans G1.out (only_trans GG.out G.out)) (by simp)
              obtain ⟨kb, ko, eE, hkw, z0, z1, z2, z3, z4, z5, z6, z7, z8, z9⟩ := ev_in hHev.1 hy
              subst eE
              have hxy := HXA.out m y hy
              have hcl := fun (W : World) (g : Nat) (t : TypeId) (hB : Blk W g t y.cells.toArray) => texts_cell hB hlt
              obtain ⟨sx, hsx⟩ : ∃ s, s = (if k + 7 = 7 then y.trace else y.stream) := ⟨_, rfl⟩
              rw [← hsx] at hxy hcl
              have HXY := Lib.hid hxy
              have HCL := Lib.hid hcl
              have i2 : (m : Int) < (es.length : Int) := by omega
              have i3 : (0 : Int) ≤ (m : Int) := by omega
              clear hy hHev hxy hcl hsx
              go_upto_region 24 with fail
              obtain ⟨W, hW⟩ : ∃ W, W = wr.alloc (.cells #[.int .i64 y.host, .int .i64 y.file, .int .i64 y.beg, .int .i64 y.fin, .slice y.la y.lines.length y.lc, .int .i64 y.time, .int .i64 y.weight, .string y.trace, .string y.stream, .slice y.fa y.fields.length y.fc] 44) := ⟨_, rfl⟩
              have hB : Blk W wr.heap.size 44 y.cells.toArray := by rw [hW]; exact Blk.new _ _ _
              have hgW : wr.grownBy W none := by rw [hW]; exact only_alloc (only_refl _ _) _
              obtain ⟨g, hg0⟩ : ∃ g, g = wr.heap.size := ⟨_, rfl⟩
              rw [← hW, ← hg0]
              rw [← hg0] at hB
              have HG0 := Lib.hid hg0
              clear hW hg0 z0 z1 z2 z3 z4 z5 z6 z7 z8 z9
              go_wp2_with fail
              refine (texts_any g W).mono ?_
              rintro e w4 ⟨rfl, hg4⟩
              have hix := texts_ix g k hlt
              have hc4 := HCL.out _ _ _ (hB.grown hg4 (by simp))
              have O4 := Lib.hid (own_ext (own_ext O.out hgW) hg4)
              have G4 := Lib.hid (only_trans G.out (only_trans hgW hg4))
              have hz4 := G4.out.size
              clear hB hgW hg4 O G
              go_wp2_with (at_builtin; go_must (refine wpList_append1 rfl _ _ 39 rfl wo.heap.size Tryz.underlying39 strInfo rfl (by decide) (v := u13) (by rfl) (w0 := w4) (cs := #[.string sx]) O4.out (by rfl) rfl (by simp [Value.oneCell']) (by decide) (by omega) (by omega) ?_); intro v7 w7 hown7 hg7 hob7; have G7 : Hid (wo.grownBy w7 none) := Lib.hid (only_own G4.out hg7 O4.out (Nat.le_refl _)); have O7 : Hid (w7.ownsRow wo.heap.size 9 1 v7 (m + 1) ((xs.take (m + 1)).map .string)) := Lib.hid (by rw [HXY.out, List.map_append]; exact hown7); clear hown7 hg7 hob7)
              go_roundw
              case rel => exact ⟨m + 1, by omega, by go_num, O7.out, G7.out⟩
              case measure => simp [intOf]; omega
            · have hmE : m = es.length := by omega
              subst hmE
              have i2 : ¬ (es.length : Int) < (es.length : Int) := by omega
              obtain ⟨A7, c7, e7, hc7, hm7, hn7, hr7⟩ := own_parts O.out (by decide)
              rw [show xs.take es.length = xs from by rw [← HXL.out]; exact List.take_length] at hr7
              subst e7
              have KE := coded_any (S := fun b => wo.heap.size ≤ b) w1.heap.size (.slice none 0 0) [] A7 xs c7 wr (Byts.nil _ _) hr7 (fun b hb e => by simp [Value.ownBlock] at e) (by rw [HXL.out]; omega) HTI1.out (by rw [HXL.out]; exact hc7) hn7 (by simp) (by omega)
              rw [HXL.out, List.nil_append] at KE
              have KE1 := Lib.hid KE
              have hix9 := idxX_len HTI1.out (by rw [HXL.out]; omega)
              clear KE hr7 O hml hn7
              go_wp2_with fail
              refine KE1.out.mono ?_
              rintro e w5 ⟨v5, rfl, hB5, hO5⟩
              have hg5 : wr.grownBy w5 none := Byts.only (Byts.nil wr.heap.size wr) hO5 (only_refl _ _) (Nat.le_refl _)
              obtain ⟨A5, c5, e5, hc5, hm5, -⟩ := hB5.rd
              subst e5
              have HBS : Hid (Byts w1.heap.size w5 (.slice A5 (idxX xs).length c5) (secX es (6 + k + 1))) := Lib.hid (by rw [HTX1.out]; exact hB5)
              have g5 := only_trans G.out hg5
              obtain ⟨rows, hl, ho, hr⟩ := SE.out.quiet g5
              have HO := Lib.hid ho
              have HR := Lib.hid hr
              have HL := Lib.hid hl
              have G5 := Lib.hid (only_trans GG.out g5)
              have hz5 := g5.size
              clear hB5 hO5 hg5 g5 ho hr hl KE1 SE
              go_wp2_with (at_builtin; go_must (refine wpList_append1 rfl _ _ 57 rfl w1.heap.size Tryz.underlying57 bytesInfoS rfl (by decide) (v := u5) (by rfl) (w0 := w5) (cs := #[.slice A5 (idxX xs).length c5]) HO.out (by rfl) rfl (by simp [Value.oneCell']) (by decide) (by omega) (by omega) ?_); intro v7 w7 hown7 hg7 hob7; have G7 : Hid (w1.grownBy w7 none) := Lib.hid (only_own G5.out hg7 HO.out (Nat.le_refl _)); have S7 : Hid (SecS es w1.heap.size w7 v7 (6 + (k + 1))) := Lib.hid (SecS.puts (us := [.slice A5 (idxX xs).length c5]) HL.out HO.out HR.out (fun i u hu => by (rcases i with _ | i <;> simp at hu; subst hu; exact HBS.out)) hg7 hown7); clear hown7 hg7 hob7)
              go_roundw
              case rel => exact ⟨k + 1, by omega, by go_num, S7.out, G7.out⟩
              case measure => simp [intOf]; omega
        · have hkE : k = 2 := by omega
          subst hkE
          have i1 : ¬ (2 : Int) < 2 := by omega
          go_wp2_with fail
          refine (KL.out wr (only_trans G1.out GG.out)).mono ?_
          rintro e wa ⟨va, rfl, hBa, hga⟩
          obtain ⟨Aa, ca, ea, -, -, -⟩ := hBa.rd
          subst ea
          have Ba : Hid (Byts w1.heap.size wa (.slice Aa (linesX es).length ca) (secX es 9)) := Lib.hid (by rw [HX9.out]; exact Byts.base hBa hzr)
          have Ga : Hid (w1.grownBy wa none) := Lib.hid (only_trans GG.out hga)
          have Sa := Lib.hid (SE.out.quiet hga)
          have hza := Ga.out.size
          clear hBa hga SE
          go_wp2_with fail
          refine (KF.out wa (only_trans G1.out Ga.out)).mono ?_
          rintro e wb ⟨vb, rfl, hBb, hgb⟩
          obtain ⟨Ab, cb, eb, -, -, -⟩ := hBb.rd
          subst eb
          have Bb : Hid (Byts w1.heap.size wb (.slice Ab (fieldsX es).length cb) (secX es 10)) := Lib.hid (by rw [HX10.out]; exact Byts.base hBb hza)
          have Bab : Hid (Byts w1.heap.size wb (.slice Aa (linesX es).length ca) (secX es 9)) := Lib.hid (own_ext Ba.out hgb)
          have Gb : Hid (w1.grownBy wb none) := Lib.hid (only_trans Ga.out hgb)
          have Sb := Lib.hid (Sa.out.quiet hgb)
          have hzb := Gb.out.size
          clear hBb hgb Sa Ba
          go_wp2_with fail
          refine (KW.out wb (only_trans G1.out Gb.out)).mono ?_
          rintro e wc ⟨vc, rfl, hBc, hgc⟩
          obtain ⟨Ac, cc, ec, -, -, -⟩ := hBc.rd
          subst ec
          have Bc : Hid (Byts w1.heap.size wc (.slice Ac (indexX es).length cc) (secX es 11)) := Lib.hid (by rw [HX11.out]; exact Byts.base hBc hzb)
          have Bac : Hid (Byts w1.heap.size wc (.slice Aa (linesX es).length ca) (secX es 9)) := Lib.hid (own_ext Bab.out hgc)
          have Bbc : Hid (Byts w1.heap.size wc (.slice Ab (fieldsX es).length cb) (secX es 10)) := Lib.hid (own_ext Bb.out hgc)
          have Gc : Hid (w1.grownBy wc none) := Lib.hid (only_trans Gb.out hgc)
          have Sc := Lib.hid (Sb.out.quiet hgc)
          have hzc := Gc.out.size
          clear hBc hgc Sb Bb Bab
          go_wp2_with fail
          refine (KT.out wc (only_trans G1.out Gc.out)).mono ?_
          rintro e wd ⟨vd, rfl, hBd, hgd⟩
          obtain ⟨Ad, cd, ed, -, -, -⟩ := hBd.rd
          subst ed
          obtain ⟨W9, hW9⟩ : ∃ W, W = wd.alloc (.cells #[.slice Aa (linesX es).length ca, .slice Ab (fieldsX es).length cb, .slice Ac (indexX es).length cc, .slice Ad (filX es).length cd] 22) := ⟨_, rfl⟩
          have hg9 : wd.grownBy W9 none := by rw [hW9]; exact only_alloc (only_refl _ _) _
          have hb9 : Blk W9 wd.heap.size 22 #[.slice Aa (linesX es).length ca, .slice Ab (fieldsX es).length cb, .slice Ac (indexX es).length cc, .slice Ad (filX es).length cd] := by rw [hW9]; exact Blk.new _ _ _
          have g9 := only_trans hgd hg9
          have Bd : Hid (Byts w1.heap.size W9 (.slice Ad (filX es).length cd) (secX es 12)) := Lib.hid (by rw [HX12.out]; exact own_ext (Byts.base hBd hzc) hg9)
          have Bad : Hid (Byts w1.heap.size W9 (.slice Aa (linesX es).length ca) (secX es 9)) := Lib.hid (own_ext Bac.out g9)
          have Bbd : Hid (Byts w1.heap.size W9 (.slice Ab (fieldsX es).length cb) (secX es 10)) := Lib.hid (own_ext Bbc.out g9)
          have Bcd : Hid (Byts w1.heap.size W9 (.slice Ac (indexX es).length cc) (secX es 11)) := Lib.hid (own_ext Bc.out g9)
          have Gd : Hid (w1.grownBy W9 none) := Lib.hid (only_trans Gc.out g9)
          obtain ⟨rows, hl, ho, hr⟩ := Sc.out.quiet g9
          have HO := Lib.hid ho
          have HR := Lib.hid hr
          have HL := Lib.hid hl
          have hzd := Gd.out.size
          have RB : Hid (Rd (fun _ => True) W9 (some ⟨wd.heap.size, 0, none⟩) [.slice Aa (linesX es).length ca, .slice Ab (fieldsX es).length cb, .slice Ac (indexX es).length cc, .slice Ad (filX es).length cd]) := Lib.hid (fun _ => ⟨wd.heap.size, 0, rfl, trivial, hb9.lt, fun j u hu => by rw [Nat.zero_add, hb9.cell j]; simpa using hu⟩)
          have HW9 := Lib.hid hW9
          clear hBd hgd Sc Bc Bac Bbc g9 hg9 hb9 ho hr hl hW9
          obtain ⟨gd, hgd0⟩ : ∃ g, g = wd.heap.size := ⟨_, rfl⟩
          rw [← hgd0] at RB
          have HGD := Lib.hid hgd0
          clear hgd0
          go_upto_region 29 with (at_builtin; (try rw [← HW9.out, ← HGD.out]); go_must (refine wpList_appendN rfl _ _ 57 rfl w1.heap.size Tryz.underlying57 bytesInfoS rfl (by decide) (v := u5) (by rfl) HO.out (some ⟨gd, 0, none⟩) 4 4 (by rfl) RB.out (by rfl) (by intro u hu; simp only [List.mem_cons, List.not_mem_nil, or_false] at hu; rcases hu with rfl | rfl | rfl | rfl <;> rfl) (by decide) (by omega) (by omega) ?_); intro v7 w7 hown7 hg7 hob7; have G7 : Hid (w1.grownBy w7 none) := Lib.hid (only_own Gd.out hg7 HO.out (Nat.le_refl _)); have S7 : Hid (SecS es w1.heap.size w7 v7 12) := Lib.hid (SecS.puts (k := 8) (us := [.slice Aa (linesX es).length ca, .slice Ab (fieldsX es).length cb, .slice Ac (indexX es).length cc, .slice Ad (filX es).length cd]) HL.out HO.out HR.out (fun i u hu => by (rcases i with _ | _ | _ | _ | i <;> simp at hu <;> subst hu; exact Bad.out; exact Bbd.out; exact Bcd.out; exact Bd.out)) hg7 hown7); clear hown7 hg7 hob7)
          obtain ⟨sb, cp, hv7, hat⟩ := S7.out.look
          obtain ⟨rs, hrl, hro, hrr, hrz, hr1, hrs⟩ := S7.out.rows
          obtain ⟨hcat, hnum⟩ := cat_secs hrl hrs
          have HAT := Lib.hid hat
          have HRL := Lib.hid hrl
          have HRO := Lib.hid hro
          have HRR := Lib.hid hrr
          have HRZ := Lib.hid hrz
          have HR1 := Lib.hid hr1
          have HRS := Lib.hid hrs
          have HCAT := Lib.hid hcat
          have HNUM := Lib.hid hnum
          rw [hv7] at HRO ⊢
          clear hv7 hat hrl hro hrr hrz hr1 hrs hcat hnum S7 HNX HTX HX9 HX10 HX11 HX12 HNI HTI KL KF KW KT Bad Bbd Bcd Bd HO HR HL RB HW9 HGD Gd Gc Gb Ga GG
          have hz7 := G7.out.size
          have kc := fun (w : World) (C : Array Value) (n c : Nat) => Lib.run_convert_bytes_const (P := Tryz.prog) w 22 5 C n c Tryz.underlying22 Tryz.underlying5
          go_wp2_with fail
          obtain ⟨W0, hW0⟩ : ∃ W, W = w7.alloc (.cells #[.int .u8 76, .int .u8 84, .int .u8 83, .int .u8 49] 5 (4, 5)) := ⟨_, rfl⟩
          have g0 : w7.grownBy W0 none := by rw [hW0]; exact only_alloc (only_refl _ _) _
          have hr0 : Rd (fun _ => True) W0 (some ⟨w7.heap.size, 0, none⟩) (([76, 84, 83, 49] : List Int).map (.int .u8)) := fun _ => ⟨w7.heap.size, 0, rfl, trivial, by rw [hW0]; simp, fun j u hu => by
            rw [Nat.zero_add, cell_of_row W0 w7.heap.size j _ _ (4, 5) (by rw [hW0]; exact heap_alloc_new w7 _)]
            simpa using hu⟩
          have KP0 := Lib.hid (pput_full (some ⟨w7.heap.size, 0, none⟩) [76, 84, 83, 49] es.length 4 W0 hr0 (by decide) (by decide) (by decide) (by decide) (by omega))
          rw [← hW0]
          clear hW0 kc hr0
          have GP := Lib.hid g0
          have hz0 := g0.size
          clear g0
          refine KP0.out.mono ?_
          rintro en w3 ⟨v3, rfl, hB3, hG3⟩
          have B3 := Lib.hid (hB3.base hz0)
          have G3 : Hid (w7.grownBy w3 none) := Lib.hid (only_trans GP.out hG3)
          have hz3 := G3.out.size
          clear hB3 hG3 KP0 GP
          go_upto_if 103 with fail
          go_cut [17, 18] (fun va vb wx => va = .int .i64 (tf : Nat) ∧ vb = .int .i64 (tl : Nat) ∧ ∃ q, wx = w3.drewN q)
          case first =>
            clear HAT HRL HRO HRR HRZ HR1 HRS HCAT HNUM
            by_cases h0 : es.length = 0
            · obtain ⟨z1, z2⟩ := HFZ.out h0
              have i1 : ¬ (0 : Int) < (es.length : Int) := by omega
              clear h0
              go_wp2_with fail
              go_meet
              exact ⟨by rw [z1]; rfl, by rw [z2]; rfl, 0, rfl⟩
            · obtain ⟨m, hm⟩ : ∃ m, es.length = m + 1 := ⟨es.length - 1, by omega⟩
              obtain ⟨x, hx⟩ : ∃ x, es[0]? = some x := ⟨_, List.getElem?_eq_getElem (by omega)⟩
              obtain ⟨y, hy⟩ : ∃ y, es[m]? = some y := ⟨_, List.getElem?_eq_getElem (by omega)⟩
              have hxt := HF0.out x hx
              have hyt := HLT.out m y hm hy
              have hgE := only_trans G1.out (only_trans G7.out G3.out)
              obtain ⟨kb, ko, eE, -, -, -, -, -, -, x5, -, -, -, -⟩ := ev_in (HEV.out.1.grown hgE (by simp)) hx
              subst eE
              obtain ⟨kb', ko', eE, -, -, -, -, -, -, y5, -, -, -, -⟩ := ev_in (HEV.out.1.grown hgE (by simp)) hy
              injection eE with eE
              injection eE with e1 e2
              subst e1 e2
              have hx0 := (HT.out x (List.mem_of_getElem? hx)).1
              have hy0 := (HT.out y (List.mem_of_getElem? hy)).1
              have ex : x.time = (tf : Int) := by omega
              have ey : y.time = (tl : Int) := by omega
              rw [ex] at x5
              rw [ey] at y5
              simp only [Nat.zero_mul, Nat.add_zero] at x5
              have i1 : (0 : Int) < (es.length : Int) := by omega
              have i2 : (es.length : Int) - 1 = (m : Int) := by omega
              have i3 : (m : Int) < (es.length : Int) := by omega
              have hwk : IntKind.i64.wrap (m : Int) = (m : Int) := IntWalk.i64_in _ (by omega)
              clear hx hy hxt hyt hx0 hy0 ex ey hm h0 hgE
              go_wp2_with fail
              go_quiet (fail)
              go_wp2_with fail
              go_meet
              exact ⟨rfl, rfl, nq, rfl⟩
          case rest =>
            obtain ⟨rfl, rfl, q, hwc⟩ := hcut
            have G4 : Hid (w7.grownBy wc none) := Lib.hid (by rw [hwc]; exact only_drewN G3.out q)
            have B4 : Hid (Byts w7.heap.size wc v3 ([76, 84, 83, 49] ++ beB 4 es.length)) := Lib.hid (by rw [hwc]; exact B3.out)
            clear hwc G3 B3
            obtain ⟨w3, rfl⟩ : ∃ x : World, x = wc := ⟨_, rfl⟩
            have hfl1 := HFL.out.1
            have hfl2 := HFL.out.2
            have hz3 := G4.out.size
            go_wp2_with fail
            refine (pput_any w7.heap.size _ _ tf 8 w3 B4.out (by simp [beB_len]) (by decide) hfl1 hz3).mono ?_
            rintro en w4 ⟨v4, rfl, hB5, hO5⟩
            have B5 := Lib.hid hB5
            have G5 : Hid (w7.grownBy w4 none) := Byts.only B4.out hO5 G4.out (Nat.le_refl _)
            have hz4 := G5.out.size
            clear hB5 hO5 B4 G4
            go_wp2_with fail
            refine (pput_any w7.heap.size _ _ tl 8 w4 B5.out (by simp [beB_len]) (by decide) hfl2 hz4).mono ?_
            rintro en w5 ⟨v5, rfl, hB6, hO6⟩
            have B6 : Hid (Byts w7.heap.size w5 v5 (headTo es 0)) := Lib.hid (by rw [HH0.out]; exact hB6)
            have G6 : Hid (w7.grownBy w5 none) := Byts.only B5.out hO6 G5.out (Nat.le_refl _)
            clear hB6 hO6 B5 G5 hfl1 hfl2
            go_wp2_with fail
            go_loopw [16, 124] (fun u i wr => ∃ k : Nat, k ≤ 12 ∧ i = .int .i64 k ∧ Byts w7.heap.size wr u (headTo es k) ∧ w7.grownBy wr none) (fun _ i _ => 12 - (intOf i).toNat)
            case atStart => exact ⟨0, by omega, rfl, B6.out, G6.out⟩
            case round =>
              clear B6 G6 hz3 hz4
              obtain ⟨k, hk, rfl, hB, hG⟩ := hrel
              have BB := Lib.hid hB
              have GG := Lib.hid hG
              have hbr := hG.size
              have hhl := HHL.out k
              clear hB hG
              by_cases hlt : k < 12
              · obtain ⟨As, cs, hat⟩ := HAT.out k hlt
                have hsl := HSL.out (k + 1) (by omega) (by omega)
                have HN1 := Lib.hid (HH1.out k)
                have hcn := HCN.out (secX es (k + 1))
                obtain ⟨sx, hsx⟩ : ∃ s, s = secX es (k + 1) := ⟨_, rfl⟩
                rw [← hsx] at hat hsl HN1 hcn
                obtain ⟨cn, hcnd⟩ : ∃ c, c = crcN sx := ⟨_, rfl⟩
                rw [← hcnd] at HN1 hcn
                have HCN1 := Lib.hid hcnd
                have HA := Lib.hid hat
                have q0 := (hat wr GG.out).1
                have i1 : (k : Int) < 12 := by omega
                have i2 : (0 : Int) ≤ (k : Int) := by omega
                clear hsx hcnd hat
                go_wp2_with fail
                refine (pput_any w7.heap.size u16 (headTo es k) sx.length 4 wr BB.out (by omega) (by decide) (by omega) hbr).mono ?_
                rintro en w8 ⟨v8, rfl, hB8, hO8⟩
                have B8 := Lib.hid hB8
                have G8 : Hid (w7.grownBy w8 none) := BB.out.only hO8 GG.out (Nat.le_refl _)
                have hz8 := G8.out.size
                have KC := Lib.hid (scrc_any As sx cs w8 (HA.out w8 G8.out).2 (by omega))
                clear hB8 hO8 BB GG q0
                go_wp2_with fail
                refine KC.out.mono ?_
                rintro en w9 ⟨rfl, rfl⟩
                rw [← HCN1.out]
                clear KC
                go_wp2_with fail
                refine (pput_any w7.heap.size v8 (headTo es k ++ beB 4 sx.length) cn 4 w9 B8.out (by rw [List.length_append, beB_len]; omega) (by decide) (by omega) hz8).mono ?_
                rintro en w10 ⟨v10, rfl, hB10, hO10⟩
                have B10 : Hid (Byts w7.heap.size w10 v10 (headTo es (k + 1))) := Lib.hid (by rw [HN1.out]; exact hB10)
                have G10 : Hid (w7.grownBy w10 none) := B8.out.only hO10 G8.out (Nat.le_refl _)
                clear hB10 hO10 B8 G8
                go_wp2_with fail
                go_roundw
                case rel => exact ⟨k + 1, by omega, by go_num, B10.out, G10.out⟩
                case measure => simp [intOf]; omega
              · have hkE : k = 12 := by omega
                subst hkE
                have i1 : ¬ (12 : Int) < 12 := by omega
                have hbl := HBL.out 12 (by omega)
                have hcn := HCN.out (headTo es 12)
                obtain ⟨hd, hhd⟩ : ∃ h, h = headTo es 12 := ⟨_, rfl⟩
                obtain ⟨bd, hbd⟩ : ∃ b, b = bodyTo es 12 := ⟨_, rfl⟩
                rw [← hhd] at hhl hcn BB HX
                rw [← hbd] at hbl HX HCAT HNUM
                obtain ⟨cn, hcnd⟩ : ∃ c, c = crcN hd := ⟨_, rfl⟩
                rw [← hcnd] at HX hcn
                have HCN1 := Lib.hid hcnd
                obtain ⟨AB, cB, hv1, -, -, rB⟩ := BB.out.rd
                rw [hv1] at BB ⊢
                have KC := Lib.hid (scrc_any AB hd cB wr rB (by omega))
                have hhl2 : hd.length ≤ 200 := by omega
                clear hhd hbd hv1 rB hcnd hhl hlt
                go_wp2_with fail
                refine KC.out.mono ?_
                rintro en w2 ⟨rfl, rfl⟩
                rw [← HCN1.out]
                clear KC
                go_wp2_with fail
                refine (pput_any w7.heap.size _ hd cn 4 w2 BB.out (by omega) (by decide) (by omega) hbr).mono ?_
                rintro en w3 ⟨v3, rfl, hB3, hO3⟩
                have B3 := Lib.hid hB3
                have G3 : Hid (w7.grownBy w3 none) := BB.out.only hO3 GG.out (Nat.le_refl _)
                have hz3 := G3.out.size
                clear hB3 hO3 BB GG
                have hcc := concatBy_any (T := fun _ => True) (S := fun _ => True) sb 0 cp rs w3 (((Rd.of_own HRO.out (by decide)).elim fun A' h => h.elim fun c' h => (by
                  obtain ⟨e1, -, -, -, h5⟩ := h
                  injection e1 with e1
                  subst e1
                  exact (h5.mono (fun _ _ _ => trivial)).grown G3.out (by simp)))) (fun r hr => ((HRR.out r hr).mono (fun _ _ _ => trivial)).grown G3.out (by simp)) HRZ.out HR1.out (by rw [HRL.out]; decide) (fun r hr => by
                    obtain ⟨j, hj⟩ := List.getElem?_of_mem hr
                    have h1 := (HRS.out j r hj).1
                    have h2 := (List.getElem?_eq_some_iff.1 hj).1
                    rw [HRL.out] at h2
                    have h3 := HSL.out (j + 1) (by omega) (by omega)
                    omega) (fun k => by
                    by_cases hk12 : k ≤ 12
                    · have h1 := (cat_secs (es := es) (k := k) (rs := rs.take k) (by rw [List.length_take, HRL.out]; omega) (fun j x hx => HRS.out j x (by
                        rw [List.getElem?_take] at hx
                        split at hx
                        · exact hx
                        · cases hx))).2
                      have h2 := HBL.out k hk12
                      omega
                    · rw [List.take_of_length_le (by rw [HRL.out]; omega), HNUM.out]; omega)
                rw [HRL.out, HNUM.out, HCAT.out] at hcc
                have KQ := Lib.hid hcc
                clear hcc
                go_wp2_with fail
                refine KQ.out.mono ?_
                rintro en w4 ⟨v4, rfl, hown4, hg4⟩
                obtain ⟨AY, cY, e4, -, -, -, rY⟩ := Rd.of_own hown4 (by decide)
                subst e4
                have RY := Lib.hid rY
                have B4 : Hid (Byts w7.heap.size w4 v3 (hd ++ beB 4 cn)) := Lib.hid (own_ext B3.out hg4)
                have G4 : Hid (w7.grownBy w4 none) := Lib.hid (only_trans G3.out hg4)
                have hz4 := G4.out.size
                clear hown4 hg4 rY KQ B3 G3
                go_wp2_with (at_builtin; go_must (refine wpList_appendN rfl _ _ 22 rfl w7.heap.size Tryz.underlying22 byteInfo rfl (by decide) (v := v3) (by rfl) B4.out AY bd.length cY (by rfl) RY.out (by simp) (byte_ones _) (by decide) (by rw [List.length_append, beB_len]; omega) hz4 ?_); intro v9 w9 hown9 hg9 hob9)
                have B9 : Hid (Byts w7.heap.size w9 v9 R) := Lib.hid (by
                  rw [HX.out]
                  unfold Byts
                  rw [List.length_append, List.map_append]
                  exact hown9)
                have G9 : Hid (w7.grownBy w9 none) := Lib.hid (B4.out.only (onto_apN hg9 hob9) G4.out (Nat.le_refl _))
                clear hown9 hg9 hob9
                go_wp2_with fail
                go_ret2
                exact ⟨v9, rfl, B9.out.base (Nat.le_trans G1.out.size hz7), only_trans G1.out (only_trans G7.out G9.out)⟩
end Go.Proofs.YtpaiideboodaeaaGreatDoor

namespace Go.Proofs.YtpaiideboodaeaaGreatDoor
open Go.RowKit
set_option linter.unusedVariables false
set_option linter.unusedSimpArgs false

theorem Rd.i_at {S : Nat → Prop} {w : World} {A : Option Addr} {k : Nat} {vs : List Int} {kd : IntKind} (h : Rd S w A (vs.map (.int kd))) (hk : k < vs.length) :
    ∃ b off x, A = some ⟨b, off, none⟩ ∧ w.cell? ⟨b, off + k, none⟩ = some (.int kd x) ∧ Hid (vs[k]? = some x) := by
  obtain ⟨b, off, e, _, _, hc⟩ := h (by simp; omega)
  exact ⟨b, off, vs[k], e, hc k _ (by simp [hk]), List.getElem?_eq_getElem hk⟩
theorem take_eq_all {α : Type} {a b : List α} (hl : a.length = b.length) (h : ∀ i, i < a.length → a[i]? = b[i]?) : a = b := by
  apply List.ext_getElem? 
  intro i
  by_cases hi : i < a.length
  · exact h i hi
  · rw [List.getElem?_eq_none (by omega), List.getElem?_eq_none (by omega)]

end Go.Proofs.YtpaiideboodaeaaGreatDoor
namespace Go.Proofs.YtpaiideboodaeaaGreatDoor
open Go.RowKit
set_option linter.unusedVariables false
set_option linter.unusedSimpArgs false
end Go.Proofs.YtpaiideboodaeaaGreatDoor

namespace Go.Proofs.YtpaiideboodaeaaGreatDoor
open Go.RowKit
set_option linter.unusedVariables false
set_option linter.unusedSimpArgs false


set_option maxHeartbeats 1000000 in
theorem samebytes_any {S S' : Nat → Prop} (A B : Option Addr) (a b : List Int) (c d : Nat) (w : World) (ha : Rd S w A (a.map (.int .u8))) (hb : Rd S' w B (b.map (.int .u8))) (hl : a.length ≤ 10000000) (hl2 : b.length ≤ 10000000) (v : Bool) (hv : v = true ↔ a = b) :
    Calls Tryz.prog 9 #[.slice A a.length c, .slice B b.length d] w (Quiet (.bool v) w) := by
  have HA := Lib.hid ha
  have HB := Lib.hid hb
  have HV := Lib.hid hv
  clear ha hb hv
  by_cases hlen : a.length = b.length
  · have t1 : ((a.length : Int) != (b.length : Int)) = false := by simp [hlen]
    have HLEN := Lib.hid hlen
    have hle1 : a.length ≤ b.length := by omega
    have hle2 : b.length ≤ a.length := by omega
    clear hlen
    go_enter Tryz.func9, Tryz.ntmps9
    go_wp2
    go_loopw [5] (fun i wr => ∃ k : Nat, k ≤ a.length ∧ i = .int .i64 k ∧ (∀ i, i < k → a[i]? = b[i]?) ∧ ∃ q, wr = w.drewN q) (fun i _ => a.length - (intOf i).toNat)
    case atStart => exact ⟨0, Nat.zero_le _, rfl, fun i hi => absurd hi (by omega), 0, rfl⟩
    case round =>
      obtain ⟨k, hk, rfl, hall, q, rfl⟩ := hrel
      have AL := Lib.hid hall
      clear hall
      by_cases hlt : k < a.length
      · obtain ⟨b1, o1, x, rfl, hc1, hx⟩ := HA.out.i_at hlt
        obtain ⟨b2, o2, y, rfl, hc2, hy⟩ := HB.out.i_at (k := k) (by omega)
        have i1 : (k : Int) < (a.length : Int) := by omega
        have i2 : (k : Int) < (b.length : Int) := by omega
        by_cases hxy : x = y
        · have t2 : (x != y) = false := by simp [hxy]
          have HXY := Lib.hid hxy
          clear hxy
          go_wp2
          go_quiet (fail)
          go_wp2
          go_roundw
          case rel =>
            refine ⟨k + 1, by omega, by go_num, fun i hi => ?_, _, rfl⟩
            rcases Nat.lt_or_ge i k with h | h
            · exact AL.out i h
            · obtain rfl : i = k := by omega
              rw [hx.out, hy.out, HXY.out]
          case measure => simp [intOf]; omega
        · have t2 : (x != y) = true := by simp [hxy]
          have hne : v = false := by
            cases hv : v with
            | false => rfl
            | true =>
              have := HV.out.1 hv
              rw [this] at hx
              rw [hx.out] at hy
              have := hy.out
              injection this with this
              exact absurd this hxy
          have HNE := Lib.hid hne
          clear hxy hne
          go_wp2
          go_quiet (fail)
          go_wp2
          go_ret
          exact ⟨by rw [HNE.out]; rfl, _, World.drewN_drewN _ _ _⟩
      · have hv1 : v = true := HV.out.2 (take_eq_all HLEN.out (fun i hi => AL.out i (by omega)))
        have HV1 := Lib.hid hv1
        clear hv1
        go_wp2
        go_ret
        exact ⟨by rw [HV1.out]; rfl, _, rfl⟩
  · have t1 : ((a.length : Int) != (b.length : Int)) = true := by simp; omega
    have hne : v = false := by
      cases hv : v with
      | false => rfl
      | true => exact absurd (congrArg List.length (HV.out.1 hv)) hlen
    have HNE := Lib.hid hne
    clear hlen hne
    go_enter Tryz.func9, Tryz.ntmps9
    go_wp2
    go_ret
    exact ⟨by rw [HNE.out]; rfl, 0, rfl⟩
end Go.Proofs.YtpaiideboodaeaaGreatDoor

namespace Go.Proofs.YtpaiideboodaeaaGreatDoor
open Go.RowKit
set_option linter.unusedVariables false
set_option linter.unusedSimpArgs false

theorem encZ_ge (es : List Ev) : 124 ≤ (encX es).length := by
  unfold encX
  rw [List.length_append, List.length_append, headTo_len, beB_len]
  omega
theorem encZ_le {es : List Ev} (hs : ∀ e ∈ es, EvE e) (hl : es.length ≤ 40) : (encX es).length ≤ 8900124 := by
  unfold encX
  have := bodyTo_len hs hl (k := 12) (by decide)
  rw [List.length_append, List.length_append, headTo_len, beB_len]
  omega
end Go.Proofs.YtpaiideboodaeaaGreatDoor
