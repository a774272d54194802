/- The law of part 36 about more terms. No condition. -/
import Derived.Test.YtceebhgbebkafaaGreatDoorPoss
import Derived.Test.YtceebhgbebkafaaGreatDoorTerms
import Derived.Test.YtceebhgbebkafaaGreatDoorScene
import Derived.Test.YtceebhgbebkafaaGreatDoorAwakeB
namespace Go.Proofs.YtceebhgbebkafaaGreatDoor
open Go.RowKit
set_option linter.unusedVariables false
set_option linter.unusedSimpArgs false

theorem ev_in {S : Nat → Prop} {w : World} {A : Option Addr} {es : List Ev} (h : Rd S w A (es.flatMap Ev.cells)) {i : Nat} {y : Ev} (hy : es[i]? = some y) :
    ∃ b off, A = some ⟨b, off, none⟩ ∧ b < w.heap.size ∧ w.cell? ⟨b, off + i * 10, none⟩ = some (.int .i64 y.host) ∧ w.cell? ⟨b, off + i * 10 + 1, none⟩ = some (.int .i64 y.file) ∧ w.cell? ⟨b, off + i * 10 + 2, none⟩ = some (.int .i64 y.beg) ∧
    w.cell? ⟨b, off + i * 10 + 3, none⟩ = some (.int .i64 y.fin) ∧ w.cell? ⟨b, off + i * 10 + 4, none⟩ = some (.slice y.la y.lines.length y.lc) ∧ w.cell? ⟨b, off + i * 10 + 5, none⟩ = some (.int .i64 y.time) ∧
    w.cell? ⟨b, off + i * 10 + 6, none⟩ = some (.int .i64 y.weight) ∧ w.cell? ⟨b, off + i * 10 + 7, none⟩ = some (.string y.trace) ∧ w.cell? ⟨b, off + i * 10 + 8, none⟩ = some (.string y.stream) ∧ w.cell? ⟨b, off + i * 10 + 9, none⟩ = some (.slice y.fa y.fields.length y.fc) := by
  obtain ⟨hi, hyi⟩ := List.getElem?_eq_some_iff.1 hy
  obtain ⟨b, off, rfl, _, hlt, _⟩ := h (by rw [flat_len _ 10 Ev.cells_len]; omega)
  exact ⟨b, off, rfl, hlt, Evs.load10 h hi hyi⟩
theorem contS_mono {a b : List ByteArray} (h : ∀ s, s ∈ a → s ∈ b) (s : ByteArray) (hs : Lib.containsS a s = true) : Lib.containsS b s = true := by
  rw [Lib.containsS_iff] at hs ⊢
  exact h s hs
theorem scratch_len : ∀ (e : Ev), EvT e → (rawT e).length ≤ 20000 := by
  intro e he
  have h1 := rawW_len (bts (textOf e.lines))
  rw [bts_length] at h1
  have := he.2.2.1
  have := he.2.2.2.1
  unfold rawT
  rw [List.length_append, List.length_map]
  omega
set_option maxHeartbeats 4000000 in
set_option maxRecDepth 100000 in
theorem law_mono (A : Option Addr) (l : List Int) (c : Nat) (w : World) (h : Rd (fun _ => True) w A (l.map (.int .u8))) (hc : l.length ≤ c) (hcm : c ≤ maxLen) (hx : ∀ x ∈ l, 0 ≤ x ∧ x ≤ 255) :
    Calls Tryz.prog 5 #[.slice A l.length c] w (BoolP w true) := by
  have HS : Hid (∀ w', w.grownBy w' none → Calls Tryz.prog 10 #[.slice A l.length c] w' (ScenePost w')) := fun w' hg => scene_any A l c w' (h.grown hg (by simp)) hc hcm hx
  clear h hc hcm hx
  go_enter Tryz.func5, Tryz.ntmps5
  go_wp2_with fail
  refine (awake_any _).mono ?_
  rintro e w1 ⟨rfl, hg1⟩
  have G1 := Lib.hid hg1
  clear hg1
  go_wp2_with fail
  refine (HS.out _ G1.out).mono ?_
  rintro e w2 ⟨t, A2, c2, es, g, k2, l2, rfl, hok, hsub, hc2, hm2, hl2, hev, hst, hgd, h2, hgw, hg2⟩
  have HOK := Lib.hid hok
  have HGD : Hid (∀ e ∈ es, EvT e) := fun e he => (hgd e he).evT
  have hcl : t.cells.toArray = #[.int .i64 t.op, .string t.nm, .string t.tx, .int .i64 t.num, .slice t.ka t.kids.length t.kc] := rfl
  rw [hcl]
  clear hcl hst hgd hok
  have G2 := Lib.hid (only_trans G1.out hg2)
  have hgl := h2.lt
  have hwg : w.heap.size ≤ g := Nat.le_trans G1.out.size hgw
  have HSUB := Lib.hid hsub
  have HEV := Lib.hid hev
  have HC := Lib.hid h2
  clear hsub hev h2 hg2 G1 HS
  go_upto_region 4 with fail
  obtain ⟨N, hN⟩ : ∃ N, N = w2.heap.size := ⟨_, rfl⟩
  obtain ⟨W, hW⟩ : ∃ W, W = w2.alloc (.cells #[.int .i64 t.op, .string t.nm, .string t.tx, .int .i64 t.num, .slice t.ka t.kids.length t.kc] 26) := ⟨_, rfl⟩
  have hB := Blk.new w2 26 #[.int .i64 t.op, .string t.nm, .string t.tx, .int .i64 t.num, .slice t.ka t.kids.length t.kc]
  have hGW : w2.grownBy W none := by rw [hW]; exact only_alloc (only_refl _ _) _
  rw [← hW, ← hN] at hB
  rw [← hW, ← hN]
  have SUBW := Lib.hid (HSUB.out.grown hGW (by simp))
  have EVW := Lib.hid (HEV.out.grown hGW (by simp))
  have HCW : Hid (CodesAt W g l2 k2) := Lib.hid (by rw [hW]; exact HC.out.alloc _)
  have GW := Lib.hid (only_trans G2.out hGW)
  have BW := Lib.hid hB
  have hNW := hB.lt
  have hgN : g < N := by omega
  clear hB hGW hW hN HSUB HEV HC G2 hgw hgl
  go_wp2_with fail
  go_loopw [6, 7] (fun vt i wr => ∃ (k q c6 : Nat) (A6 : Option Addr) (ts : List ByteArray), i = .int .i64 k ∧ vt = .slice A6 ts.length c6 ∧ k ≤ es.length ∧ ts.length ≤ c6 ∧ c6 ≤ maxLen ∧ ts.length ≤ k * 20000 ∧ Rd (N < ·) wr A6 (ts.map .string) ∧ CodesAt wr g l2 q ∧ W.grownBy wr (some g)) (fun _ i _ => es.length - (intOf i).toNat)
  case atStart => exact ⟨0, k2, 0, none, [], rfl, rfl, Nat.zero_le _, Nat.zero_le _, Nat.zero_le _, Nat.zero_le _, Rd.nil, HCW.out, only_refl _ _⟩
  case round =>
    obtain ⟨k, q, c6, A6, ts, rfl, rfl, hk, hc6, hm6, hts, hrd, hcd, hG⟩ := hrel
    have RD := Lib.hid hrd
    have CD := Lib.hid hcd
    have G := Lib.hid hG
    have hsz := hG.size
    have hgw0 := hcd.lt
    have GR : Hid (w.grownBy wr none) := Lib.hid (only_fresh GW.out hG hwg)
    have B := Lib.hid (BW.out.grown hG (by intro e; injection e; omega))
    have SUB := Lib.hid (SUBW.out.grown hG (fun b hb e => by injection e; exact hb.2 (by assumption)))
    have EV := Lib.hid (EVW.out.grown hG (fun b hb e => by injection e; exact hb.2 (by assumption)))
    clear hrd hcd hG HCW
    by_cases hlt : k < es.length
    · obtain ⟨y, hy⟩ : ∃ y, es[k]? = some y := ⟨_, List.getElem?_eq_getElem hlt⟩
      obtain ⟨kb, ko, rfl, hkw, z0, z1, z2, z3, z4, z5, z6, z7, z8, z9⟩ := ev_in EV.out.1 hy
      have hty := HGD.out y (List.mem_of_getElem? hy)
      have hrl := scratch_len y hty
      have HT := Lib.hid (terms_own y wr (EV.out.2 y (List.mem_of_getElem? hy)) hty)
      clear hty hy
      have hycl : y.cells.toArray = #[.int .i64 y.host, .int .i64 y.file, .int .i64 y.beg, .int .i64 y.fin, .slice y.la y.lines.length y.lc, .int .i64 y.time, .int .i64 y.weight, .string y.trace, .string y.stream, .slice y.fa y.fields.length y.fc] := rfl
      rw [hycl] at HT
      clear hycl
      go_wp2_with fail
      refine HT.out.mono ?_
      rintro e w3 ⟨A3, c3, ms, rfl, m1, m2, m3, m4, m5, m6, hg3⟩
      have RM := Lib.hid (rd_own m6 (by decide))
      have G3 := Lib.hid (only_trans G.out (only_of_none hg3 (some g)))
      have RD3 := Lib.hid (RD.out.grown hg3 (by simp))
      have CD3 := Lib.hid (CD.out.grown hg3 (by simp))
      have B3 := Lib.hid (B.out.grown hg3 (by simp))
      have SUB3 := Lib.hid (SUB.out.grown hg3 (by simp))
      have hz3 := hg3.size
      have hml : ms.length ≤ 20000 := by omega
      unfold maxLen at m2
      clear m3 m4 m5 m6 hg3 HT RD CD B SUB G EV z0 z1 z2 z3 z4 z5 z6 z7 z8 z9
      go_wp2_with fail
      refine (next_some g l2 q (ms.length + 1) w3 CD3.out (by omega) (by omega)).mono ?_
      rintro e w4 ⟨v, q4, rfl, ⟨hv0, hv1⟩, h4, hg4⟩
      obtain ⟨m, rfl⟩ : ∃ m : Nat, v = m := ⟨v.toNat, by omega⟩
      have G4 := Lib.hid (only_trans G3.out hg4)
      have RD4 := Lib.hid (RD3.out.grown hg4 (fun b hb e => by have hb' : N < b := hb; injection e; omega))
      have RM4 := Lib.hid ((RM.out.grown hg4 (fun b hb e => by have hb' : wr.heap.size ≤ b := hb; injection e; omega)).take m)
      have B4 := Lib.hid (B3.out.grown hg4 (by intro e; injection e; omega))
      have SUB4 := Lib.hid (SUB3.out.grown hg4 (fun b hb e => by injection e; exact hb.2 (by assumption)))
      have CD4 := Lib.hid h4
      have hz4 := hg4.size
      rw [← List.map_take] at RM4
      have hmt : (ms.take m).length = m := by rw [List.length_take]; omega
      obtain ⟨mt, hmtd⟩ : ∃ mt, mt = ms.take m := ⟨_, rfl⟩
      rw [← hmtd] at RM4 hmt
      have HMT := Lib.hid hmt
      clear h4 hg4 RD3 RM B3 SUB3 CD3 G3 hmt hmtd
      have i1 : (m : Int) ≤ (ms.length : Int) := by omega
      have i2 : (m : Int) ≤ (c3 : Int) := by omega
      have HR1 : Hid (Rd (N < ·) w4.drew A6 (ts.map .string)) := RD4
      have HR2 : Hid (Rd (wr.heap.size ≤ ·) w4.drew A3 (mt.map .string)) := RM4
      have hl1 : ts.length ≤ 600000 := by omega
      have hwd : w4.heap.size ≤ w4.drew.heap.size := Nat.le_refl _
      have hmN : m ≤ 20000 := by omega
      go_wp2_with fail
      go_region_law (first
        | (have htok := hown8; go_simp; go_at_call 19; go_must (with_reducible (refine (KD.out).mono ?_)); rintro e w9 ⟨A9, c9, ds, rfl, n1, n2, n3, n4, n5, n6, hg9⟩)
        | (have htok := hown7; go_must (refine step_appendN rfl _ _ 40 rfl w4.heap.size Tryz.underlying40 strInfo rfl (by decide) (v := _) (by rfl) hown7 A3 m c3 (by rfl) HR7.out (by rw [List.length_map, HMT.out]; omega) (by simp [Value.oneCell']) (by decide) (by omega) (by omega) ?_); intro v8 w8 hown8 hg8 hob8; have hown9 : w8.ownsRow w4.heap.size 9 1 v8 (ts ++ mt).length ((ts ++ mt).map .string) := (by rw [List.length_append, HMT.out, List.map_append]; exact hown8); obtain ⟨A8, c8, hv8, hc8, hm8, -, hr8⟩ := Rd.of_own hown9 (by decide); rw [show (ts ++ mt).length = ts.length + m from by rw [List.length_append, HMT.out]] at hv8 hc8; subst hv8; have hz8 : w7.heap.size ≤ w8.heap.size := hg8.size; have KD := Lib.hid (distinct_own_any (ts.length + m) A8 (ts ++ mt) (ts.length + m) c8 w8 (Nat.le_refl _) (by rw [List.length_append, HMT.out]) (hr8.mono (fun _ _ _ => trivial)) (by omega) hc8 hm8))
        | (go_must (refine step_appendN rfl _ _ 40 rfl w4.heap.size Tryz.underlying40 strInfo rfl (by decide) (v := .slice none 0 0) (by rfl) (World.ownsRow_nil _ _ _ _) A6 ts.length c6 (by rfl) HR1.out (by simp) (by simp [Value.oneCell']) (by decide) (by omega) (by omega) ?_); intro v7 w7 hown7 hg7 hob7; simp only [Nat.zero_add, List.nil_append] at hown7; have HR7 : Hid (Rd (wr.heap.size ≤ ·) w7 A3 (mt.map .string)) := Lib.hid (HR2.out.grown hg7 (by simp [Value.ownBlock])); have hz7 : w4.heap.size ≤ w7.heap.size := hg7.size))
      all_goals
        have g49 : w4.grownBy w9 none := only_trans (only_own (only_trans (only_drew (only_refl w4 none)) (by simpa [Value.ownBlock] using hg7)) hg8 hown7 (Nat.le_refl _)) hg9
        have G9 := Lib.hid (only_trans G4.out (only_of_none g49 (some g)))
        have RD9 := Lib.hid (RD4.out.grown g49 (by simp))
        have RN9 : Hid (Rd (N < ·) w9 A9 (ds.map .string)) := Lib.hid ((rd_own n6 (by decide)).mono (fun b hb _ => by have hb' : w8.heap.size ≤ b := hb; have hh : w4.heap.size ≤ w7.heap.size := hz7; show N < b; omega))
        have B9 := Lib.hid (B4.out.grown g49 (by simp))
        have SUB9 := Lib.hid (SUB4.out.grown g49 (by simp))
        have CD9 := Lib.hid (CD4.out.grown g49 (by simp))
        have hdl : ds.length ≤ (k + 1) * 20000 := by
          have := n5; rw [List.length_append, HMT.out] at this
          rw [Nat.add_mul]; omega
        have hdl2 : ds.length ≤ 1000000 := by omega
        have HM : Hid (poss (Lib.containsS ts) 4 t = true → poss (Lib.containsS ds) 4 t = true) := Lib.hid (poss_mono (contS_mono (fun s hs => (n4 s).2 (List.mem_append_left _ hs))) 4 t)
        have PA : Hid (∀ w', w9.grownBy w' none → Calls Tryz.prog 20 #[.agg #[.int .i64 t.op, .string t.nm, .string t.tx, .int .i64 t.num, .slice t.ka t.kids.length t.kc], .slice A6 ts.length c6] w' (BoolP w' (poss (Lib.containsS ts) 4 t))) := fun w' hg => poss_any 4 t _ _ w' A6 ts c6 HOK.out (SUB9.out.grown hg (by simp)) (RD9.out.grown hg (by simp)) (by omega)
        have PB : Hid (∀ w', w9.grownBy w' none → Calls Tryz.prog 20 #[.agg #[.int .i64 t.op, .string t.nm, .string t.tx, .int .i64 t.num, .slice t.ka t.kids.length t.kc], .slice A9 ds.length c9] w' (BoolP w' (poss (Lib.containsS ds) 4 t))) := fun w' hg => poss_any 4 t _ _ w' A9 ds c9 HOK.out (SUB9.out.grown hg (by simp)) (RN9.out.grown hg (by simp)) hdl2
        have e0 := B9.out.cell 0; have e1 := B9.out.cell 1; have e2 := B9.out.cell 2; have e3 := B9.out.cell 3; have e4 := B9.out.cell 4
        simp at e0 e1 e2 e3 e4
        have BB := B9
        have hc9' : ds.length ≤ c9 := n1
        have hm9' : c9 ≤ maxLen := n2
        have HFIN : Hid (∀ w', w9.grownBy w' none → Rd (N < ·) w' A9 (ds.map .string) ∧ CodesAt w' g l2 q4 ∧ W.grownBy w' (some g)) := fun w' hg => ⟨RN9.out.grown hg (by simp), CD9.out.grown hg (by simp), only_trans G9.out (only_of_none hg _)⟩
        clear hown7 hown8 hown9 hg7 hg8 hg9 hr8 n3 n4 n5 n6 g49 KD HR7 RD4 RM4 B4 SUB4 CD4 G4 HR1 HR2 RD9 B9 SUB9 CD9 RN9 G9 HMT
        cases hp : poss (Lib.containsS ts) 4 t with
        | true =>
          rw [hp] at PA
          rw [HM.out hp] at PB
          clear hp HM
          go_wp2_with fail
          refine (PA.out _ (only_refl _ _)).mono ?_
          rintro e w10 ⟨rfl, hg10⟩
          have e0 := (BB.out.grown hg10 (by simp)).cell 0; have e1 := (BB.out.grown hg10 (by simp)).cell 1; have e2 := (BB.out.grown hg10 (by simp)).cell 2; have e3 := (BB.out.grown hg10 (by simp)).cell 3; have e4 := (BB.out.grown hg10 (by simp)).cell 4
          simp at e0 e1 e2 e3 e4
          have G10 := Lib.hid hg10
          clear hg10
          go_wp2_with fail
          refine (PB.out _ G10.out).mono ?_
          rintro e w11 ⟨rfl, hg11⟩
          obtain ⟨f1, f2, f3⟩ := HFIN.out _ (only_trans G10.out hg11)
          have F1 := Lib.hid f1; have F2 := Lib.hid f2; have F3 := Lib.hid f3
          clear f1 f2 f3 hg11 e0 e1 e2 e3 e4
          go_wp2_with fail
          go_roundw
          case rel => exact ⟨k + 1, q4, c9, A9, ds, by go_num, rfl, by omega, hc9', hm9', hdl, F1.out, F2.out, F3.out⟩
          case measure => simp [intOf]; omega
        | false =>
          rw [hp] at PA
          clear hp HM PB
          go_wp2_with fail
          refine (PA.out _ (only_refl _ _)).mono ?_
          rintro e w10 ⟨rfl, hg10⟩
          obtain ⟨f1, f2, f3⟩ := HFIN.out _ hg10
          have F1 := Lib.hid f1; have F2 := Lib.hid f2; have F3 := Lib.hid f3
          clear f1 f2 f3 hg10 e0 e1 e2 e3 e4
          go_wp2_with fail
          go_roundw
          case rel => exact ⟨k + 1, q4, c9, A9, ds, by go_num, rfl, by omega, hc9', hm9', hdl, F1.out, F2.out, F3.out⟩
          case measure => simp [intOf]; omega
    · go_wp2_with fail
      go_ret
      exact ⟨rfl, GR.out⟩
end Go.Proofs.YtceebhgbebkafaaGreatDoor
