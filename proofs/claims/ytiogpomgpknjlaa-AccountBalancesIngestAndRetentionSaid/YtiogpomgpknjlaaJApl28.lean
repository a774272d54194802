/- Apply of the reference of chapter 28 at good items (printed by mk42f.py). Conditions: good items. -/
import Derived.Test.YtiogpomgpknjlaaJAplR
import Derived.Deep.DeepCutAuto
namespace Go.Proofs.Ytiogpomgpknjlaa
open Go.RowKit
set_option linter.unusedVariables false
set_option linter.unusedSimpArgs false

theorem Blk.put11 {w : World} {r t : Nat} {u0 u1 u2 u3 u4 u5 u6 u7 u8 u9 u10 : Value} (h : Blk w r t #[u0, u1, u2, u3, u4, u5, u6, u7, u8, u9, u10]) (v0 v1 v2 v3 v4 v5 v6 v7 v8 v9 v10 : Value) : Blk (((((((((((w.setCell ⟨r, 0, none⟩ (v0)).setCell ⟨r, 1, none⟩ (v1)).setCell ⟨r, 2, none⟩ (v2)).setCell ⟨r, 3, none⟩ (v3)).setCell ⟨r, 4, none⟩ (v4)).setCell ⟨r, 5, none⟩ (v5)).setCell ⟨r, 6, none⟩ (v6)).setCell ⟨r, 7, none⟩ (v7)).setCell ⟨r, 8, none⟩ (v8)).setCell ⟨r, 9, none⟩ (v9)).setCell ⟨r, 10, none⟩ (v10)) r t #[v0, v1, v2, v3, v4, v5, v6, v7, v8, v9, v10] := by
  have := (((((((((((h.set_ 0 v0).set_ 1 v1).set_ 2 v2).set_ 3 v3).set_ 4 v4).set_ 5 v5).set_ 6 v6).set_ 7 v7).set_ 8 v8).set_ 9 v9).set_ 10 v10)
  simpa using this
set_option maxHeartbeats 8000000 in
set_option maxRecDepth 100000 in
theorem apply28_any {S : Nat → Prop} (host num : Int) (A B : Option Addr) (ms : List MarkD) (c : Nat) (ts : List Tal) (d n m T : Nat) (AX : Option Addr) (xs : List It) (cx : Nat) (w : World) (hi : Ink S w n m T A ms c B ts d) (hx : Its S w host AX xs) (hl : xs.length ≤ 40) (hn : n ≤ 1000) (hm : m ≤ 800) (hT : T ≤ 90000) (hS : ∀ b, w.heap.size ≤ b → S b) :
    Calls Try.prog 27 #[.agg #[.slice A ms.length c, .slice B ts.length d], .agg #[.int .i64 host, .int .i64 num, .slice AX xs.length cx]] w (AplP S host n m T xs.length ts w) := by
  obtain ⟨pb, hpb⟩ : ∃ b, b = w.heap.size := ⟨_, rfl⟩
  obtain ⟨bb, hbb⟩ : ∃ b, b = w.heap.size + 1 := ⟨_, rfl⟩
  obtain ⟨rb, hrb⟩ : ∃ b, b = w.heap.size + 2 := ⟨_, rfl⟩
  obtain ⟨W1, hW1⟩ : ∃ W, W = ((w.alloc (.cells #[.slice A ms.length c, .slice B ts.length d] 39)).alloc (.cells #[.int .i64 host, .int .i64 num, .slice AX xs.length cx] 56)).alloc (.cells #[.slice none 0 0, .slice none 0 0] 39) := ⟨_, rfl⟩
  have G1 : Hid (w.grownBy W1 none) := Lib.hid (by rw [hW1]; exact only_alloc (only_alloc (only_alloc (only_refl _ _) _) _) _)
  have P1 : Hid (Blk W1 pb 39 #[.slice A ms.length c, .slice B ts.length d]) := Lib.hid (by rw [hW1, hpb]; exact ((Blk.new w _ _).alloc _).alloc _)
  have B1 : Hid (Blk W1 bb 56 #[.int .i64 host, .int .i64 num, .slice AX xs.length cx]) := Lib.hid (by rw [hW1, hbb]; have := (Blk.new (w.alloc (.cells #[.slice A ms.length c, .slice B ts.length d] 39)) 56 #[.int .i64 host, .int .i64 num, .slice AX xs.length cx]).alloc (.cells #[.slice none 0 0, .slice none 0 0] 39); simpa using this)
  have R1 : Hid (Blk W1 rb 39 #[.slice none 0 0, .slice none 0 0]) := Lib.hid (by rw [hW1, hrb]; have := Blk.new ((w.alloc (.cells #[.slice A ms.length c, .slice B ts.length d] 39)).alloc (.cells #[.int .i64 host, .int .i64 num, .slice AX xs.length cx] 56)) 39 #[.slice none 0 0, .slice none 0 0]; simpa using this)
  have hrw : w.heap.size ≤ rb := by omega
  have hrp : rb ≠ pb := by omega
  have hrB : rb ≠ bb := by omega
  have hpr : pb ≠ rb := by omega
  have hBr : bb ≠ rb := by omega
  have hsw : w.heap.size ≤ W1.heap.size := G1.out.size
  have hpl : pb < W1.heap.size := P1.out.lt
  have hbl : bb < W1.heap.size := B1.out.lt
  have hrl : rb < W1.heap.size := R1.out.lt
  have HI := Lib.hid (hi.mono (S' := fun b => S b ∧ b < w.heap.size) (fun b hb hlt => ⟨hb, hlt⟩))
  have HX := Lib.hid (hx.mono (S' := fun b => S b ∧ b < w.heap.size) (fun b hb hlt => ⟨hb, hlt⟩))
  have HS := Lib.hid hS
  have HERR : Hid (∀ (r : Int) (W : World), w.grownBy W none → AplP S host n m T xs.length ts w (.returned (.tuple #[.agg #[.slice A ms.length c, .slice B ts.length d], .slice none 0 0, .int .i64 r])) W) := Lib.hid (fun r W hg =>
    ⟨A, ms, c, B, ts, d, none, [], 0, r, rfl, (hi.grown hg (by simp)).wide (by omega) (by omega) (by omega), Rd.nil, by simp, by simp, by unfold maxLen; omega, by simp, by simp [cntE], hg⟩)
  have KC := Lib.hid (check28_any host num AX xs cx W1 (HX.out.grown G1.out (by simp)) hl)
  have b0 := (B1.out).cell 0; have b1 := (B1.out).cell 1; have b2 := (B1.out).cell 2; simp at b0 b1 b2
  have HW := Lib.hid hW1.symm
  have HPB := Lib.hid hpb
  have HBB := Lib.hid hbb
  have HRB := Lib.hid hrb
  clear hW1 hpb hbb hrb hi hx hS
  go_enter Try.func27, Try.ntmps27
  go_upto_region 1 with fail
  rw [HW.out, ← HRB.out, ← HBB.out, ← HPB.out]
  clear HW
  go_wp2_with fail
  refine KC.out.mono ?_
  rintro e w2 ⟨r, rfl, hg2⟩
  have G2 := Lib.hid (only_trans G1.out hg2)
  have P2 := Lib.hid (P1.out.grown hg2 (by simp))
  have B2 := Lib.hid (B1.out.grown hg2 (by simp))
  have R2 := Lib.hid (R1.out.grown hg2 (by simp))
  have hs2 := hg2.size
  clear b0 b1 b2 hg2
  by_cases hr : r = 0
  · have e1 : (r != 0) = false := by simp [hr]
    clear hr
    obtain ⟨tb, htb⟩ : ∃ b, b = w2.heap.size := ⟨_, rfl⟩
    obtain ⟨V, hV⟩ : ∃ W, W = w2.alloc (.cells #[.slice A ms.length c, .slice B ts.length d] 39) := ⟨_, rfl⟩
    have gV : w2.grownBy V none := by rw [hV]; exact only_alloc (only_refl _ _) _
    have T0 : Hid (Blk V tb 39 #[.slice A ms.length c, .slice B ts.length d]) := Lib.hid (by rw [hV, htb]; exact Blk.new w2 _ _)
    have GV := Lib.hid (only_trans G2.out gV)
    have PV := Lib.hid (P2.out.grown gV (by simp))
    have BV := Lib.hid (B2.out.grown gV (by simp))
    have RV := Lib.hid (R2.out.grown gV (by simp))
    have hsV := gV.size
    have hpt : pb ≠ tb := by omega
    have hbt : bb ≠ tb := by omega
    have hrt : rb ≠ tb := by omega
    have htr : tb ≠ rb := by omega
    have htw : w.heap.size ≤ tb := by omega
    obtain ⟨S1, hS1⟩ : ∃ S1 : Nat → Prop, S1 = fun b => S b ∧ b ≠ rb := ⟨_, rfl⟩
    have HS1 : Hid (∀ b, S1 b ↔ S b ∧ b ≠ rb) := Lib.hid (fun b => by rw [hS1])
    clear hS1
    have IV : Hid (ApR S1 V tb host (n + 0) (m + 2 * 0) (T + 12 * 0) 0 (.slice none 0 0) V A ms c B ts d []) := Lib.hid ⟨only_refl _ _, T0.out.lt, fun b hb => (HS1.out b).2 ⟨HS.out b (by omega), by omega⟩, T0.out, (HI.out.grown GV.out (by simp)).mono (fun b hb _ => ⟨(HS1.out b).2 ⟨hb.1, by have := hb.2; omega⟩, by have := hb.2; omega, by simp [Value.ownBlock]⟩), World.ownsRow_nil _ _ _ _, by simp, by simp⟩
    have XV := Lib.hid (HX.out.grown GV.out (by simp))
    have hwV : w.heap.size ≤ V.heap.size := by omega
    have HV := Lib.hid hV.symm
    have HTB := Lib.hid htb
    clear hV htb gV hsV
    have b0 := (P2.out).cell 0; have b1 := (P2.out).cell 1; simp at b0 b1
    go_upto_region 5 with fail
    rw [HV.out, ← HTB.out]
    clear HV b0 b1
    go_wp2_with fail
    go_loopw [9, 10] (fun vo vi wr => ∃ (k : Nat) (A' : Option Addr) (ms' : List MarkD) (c' : Nat) (B' : Option Addr) (us : List Tal) (d' : Nat) (out : List Ev), vi = .int .i64 k ∧ k ≤ xs.length ∧ ApR S1 V tb host (n + k) (m + 2 * k) (T + 12 * k) k vo wr A' ms' c' B' us d' out ∧ ∀ h, sumP p2 h us = sumP p2 h ts + cntE h out) (fun _ vi _ => xs.length - (intOf vi).toNat)
    case atStart => exact ⟨0, A, ms, c, B, ts, d, [], rfl, Nat.zero_le _, IV.out, by simp [cntE]⟩
    case round =>
      obtain ⟨k, A', ms', c', B', us, d', out, rfl, hk, hR, hSM⟩ := hrel
      have R := Lib.hid hR
      have SM := Lib.hid hSM
      have BR := Lib.hid (BV.out.grown hR.fr (by simpa using hbt))
      clear hR hSM
      have b0 := (BR.out).cell 0; have b1 := (BR.out).cell 1; have b2 := (BR.out).cell 2; simp at b0 b1 b2
      by_cases hlt : k < xs.length
      · obtain ⟨x, hx⟩ : ∃ x, xs[k]? = some x := ⟨_, List.getElem?_eq_getElem hlt⟩
        have hm := XV.out.2 x (List.mem_of_getElem? hx)
        have hir := XV.out.1.grown R.out.fr (fun b hb => by have := hb.2; simp; omega)
        obtain ⟨b, o, hAX, -, hbl9, -⟩ := hir (by rw [flat_len _ 11 It.cells_len]; omega)
        rw [hAX] at hir b2
        have HAX := Lib.hid hAX
        obtain ⟨d0, d1, d2, d3, d4, d5, d6, d7, d8, d9, d10⟩ := Fl.load11 hir hx
        have i1 : (k : Int) < (xs.length : Int) := by omega
        have i2 : (0 : Int) ≤ (k : Int) := by omega
        have XG := Lib.hid hm.1
        obtain ⟨W2, hW2⟩ : ∃ W, W = wr.alloc (.cells #[.string x.rule, .int .i64 x.ev.host, .int .i64 x.ev.file, .int .i64 x.ev.beg, .int .i64 x.ev.fin, .slice x.ev.la x.ev.lines.length x.ev.lc, .int .i64 x.ev.time, .int .i64 x.ev.weight, .string x.ev.trace, .string x.ev.stream, .slice x.ev.fa x.ev.fields.length x.ev.fc] 77) := ⟨_, rfl⟩
        obtain ⟨xb, hxb⟩ : ∃ b, b = wr.heap.size := ⟨_, rfl⟩
        have g2 : wr.grownBy W2 none := by rw [hW2]; exact only_alloc (only_refl _ _) _
        have X2 : Hid (Blk W2 xb 77 #[.string x.rule, .int .i64 x.ev.host, .int .i64 x.ev.file, .int .i64 x.ev.beg, .int .i64 x.ev.fin, .slice x.ev.la x.ev.lines.length x.ev.lc, .int .i64 x.ev.time, .int .i64 x.ev.weight, .string x.ev.trace, .string x.ev.stream, .slice x.ev.fa x.ev.fields.length x.ev.fc]) := Lib.hid (by rw [hW2, hxb]; exact Blk.new wr _ _)
        have R2' := Lib.hid (R.out.grown g2)
        have hxt : xb ≠ tb := by have := R.out.tw; omega
        have hxB : xb ≠ bb := by have := BR.out.lt; omega
        have htx : tb ≠ xb := fun e => hxt e.symm
        have hBx : bb ≠ xb := fun e => hxB e.symm
        have B2' := Lib.hid (BR.out.grown g2 (by simp))
        have hxlt : V.heap.size ≤ xb := by rw [hxb]; exact R.out.fr.size
        have hxw : wr.heap.size ≤ xb := by omega
        have S2 : Hid (x.ev.Sub (fun b => Qs S1 tb u9 b ∧ b ≠ xb) W2) := Lib.hid (((hm.2.grown R.out.fr (fun b hb => by have := hb.2; simp; omega)).mono (S' := fun b => Qs S1 tb u9 b ∧ b ≠ xb) (fun b hb _ => ⟨⟨(HS1.out b).2 ⟨hb.1, by have := hb.2; omega⟩, by have := hb.2; omega, fun e => by have := (R.out.own.lt b e).1; have := hb.2; omega⟩, by have := hb.2; omega⟩)).grown g2 (by simp))
        have GW2 := Lib.hid g2
        have KM : Hid (Calls Try.prog 54 #[.agg #[.slice A' ms'.length c', .slice B' us.length d'], .int .i64 x.ev.host, .int .i64 x.ev.file] W2 (AnyI W2)) := Lib.hid (mark28_any A' ms' c' (.slice B' us.length d') x.ev.host x.ev.file W2 R2'.out.ink.rm (by have := R2'.out.ink.lm; omega))
        have HW2 := Lib.hid hW2.symm
        have HXB := Lib.hid hxb
        clear hx hm hir hW2 hxb hbl9 g2 hAX
        go_upto_region 10 with fail
        rw [HW2.out, ← HXB.out]
        clear HW2 d0 d1 d2 d3 d4 d5 d6 d7 d8 d9 d10 b0 b1 b2
        have x0 := (X2.out).cell 0; have x1 := (X2.out).cell 1; have x2 := (X2.out).cell 2; have x3 := (X2.out).cell 3; have x4 := (X2.out).cell 4; have x5 := (X2.out).cell 5; have x6 := (X2.out).cell 6; have x7 := (X2.out).cell 7; have x8 := (X2.out).cell 8; have x9 := (X2.out).cell 9; have x10 := (X2.out).cell 10; simp at x0 x1 x2 x3 x4 x5 x6 x7 x8 x9 x10
        have t0 := (R2'.out.tk).cell 0; have t1 := (R2'.out.tk).cell 1; simp at t0 t1
        go_wp2_with fail
        refine KM.out.mono ?_
        rintro e w3 ⟨mk, rfl, hg3⟩
        have X3 := Lib.hid (X2.out.grown hg3 (by simp))
        have R3 := Lib.hid (R2'.out.grown hg3)
        have B3 := Lib.hid (B2'.out.grown hg3 (by simp))
        have S3 := Lib.hid (S2.out.grown hg3 (by simp))
        have GW3 := Lib.hid (only_trans GW2.out hg3)
        clear x0 x1 x2 x3 x4 x5 x6 x7 x8 x9 x10 t0 t1 hg3 KM X2 R2' B2' S2
        have l0 := XG.out.pl.l0
        have l6 := XG.out.l6
        have x0 := (X3.out).cell 0; have x1 := (X3.out).cell 1; have x2 := (X3.out).cell 2; have x3 := (X3.out).cell 3; have x4 := (X3.out).cell 4; have x5 := (X3.out).cell 5; have x6 := (X3.out).cell 6; have x7 := (X3.out).cell 7; have x8 := (X3.out).cell 8; have x9 := (X3.out).cell 9; have x10 := (X3.out).cell 10; simp at x0 x1 x2 x3 x4 x5 x6 x7 x8 x9 x10
        have t0 := (R3.out.tk).cell 0; have t1 := (R3.out.tk).cell 1; simp at t0 t1
        have b0 := (B3.out).cell 0; have b1 := (B3.out).cell 1; have b2 := (B3.out).cell 2; simp at b0 b1 b2
        go_upto_region 12 with fail
        by_cases h1 : x.ev.fin ≤ mk
        · have f1 := R3.out.tk.frozen 1
          have KA : Hid (Calls Try.prog 31 #[.slice B' us.length d', .int .i64 host, .string ⟨#[42]⟩, .int .i64 x.ev.lines.length] w3 (TalsPost w3 (mrg us [⟨host, ⟨#[42]⟩, x.ev.lines.length⟩]))) := Lib.hid (add28_any R3.out.ink ⟨host, ⟨#[42]⟩, x.ev.lines.length⟩ ⟨by show 1 ≤ (x.ev.lines.length : Int); omega, by show (x.ev.lines.length : Int) ≤ 6; omega⟩ (by omega) (by omega))
          go_wp2_with fail
          refine KA.out.mono ?_
          rintro e w4 ⟨B4, d4, rfl, hd4, hm4, hr4, hg4⟩
          clear x0 x1 x2 x3 x4 x5 x6 x7 x8 x9 x10 t0 t1 b0 b1 b2 f1
          have f1 := (R3.out.tk.grown hg4 (by simp)).frozen 1
          have t1 := (R3.out.tk.grown hg4 (by simp)).cell 1
          simp at t1
          have RN := Lib.hid (R3.out.tal ⟨host, ⟨#[42]⟩, x.ev.lines.length⟩ ⟨by show 1 ≤ (x.ev.lines.length : Int); omega, by show (x.ev.lines.length : Int) ≤ 6; omega⟩ hg4 hd4 hm4 hr4)
          clear hr4 hg4
          go_wp2_with fail
          go_roundw
          case rel => exact ⟨k + 1, A', ms', c', B4, mrg us [⟨host, ⟨#[42]⟩, x.ev.lines.length⟩], d4, out, by go_num, by omega, RN.out.wide (by omega) (by omega) (by omega) (by omega), fun h => by rw [sumP_mrg, SM.out h]; simp [sumP, p2_pos (s := ⟨#[42]⟩) (by decide)]⟩
          case measure => simp [intOf]; omega
        · go_upto_if 63 with fail
          go_cut [] (fun wx => ∃ (y : It) (B5 : Option Addr) (us5 : List Tal) (d5 : Nat), ItG host y ∧ Blk wx xb 77 #[.string y.rule, .int .i64 y.ev.host, .int .i64 y.ev.file, .int .i64 y.ev.beg, .int .i64 y.ev.fin, .slice y.ev.la y.ev.lines.length y.ev.lc, .int .i64 y.ev.time, .int .i64 y.ev.weight, .string y.ev.trace, .string y.ev.stream, .slice y.ev.fa y.ev.fields.length y.ev.fc] ∧ y.ev.Sub (fun b => Qs S1 tb u9 b ∧ b ≠ xb) wx ∧ ApR S1 V tb host (n + k) (m + 2 * k + 1) (T + 12 * k + 6) k u9 wx A' ms' c' B5 us5 d5 out ∧ ∀ h, sumP p2 h us5 = sumP p2 h ts + cntE h out)
          case first =>
            by_cases h2 : x.ev.beg < mk
            · have KT : Hid (Calls Try.prog 55 #[.agg #[.string x.rule, .int .i64 x.ev.host, .int .i64 x.ev.file, .int .i64 x.ev.beg, .int .i64 x.ev.fin, .slice x.ev.la x.ev.lines.length x.ev.lc, .int .i64 x.ev.time, .int .i64 x.ev.weight, .string x.ev.trace, .string x.ev.stream, .slice x.ev.fa x.ev.fields.length x.ev.fc], .int .i64 mk] w3 (CutP (fun b => Qs S1 tb u9 b ∧ b ≠ xb) host x w3)) := Lib.hid (by
                have h0 := cut28_any host mk x w3 XG.out S3.out (fun b hb => ⟨R3.out.new hb, by have := X3.out.lt; omega⟩)
                rw [itAgg] at h0; exact h0)
              go_wp2_with fail
              refine KT.out.mono ?_
              rintro e w5 ⟨hg5, ⟨y, rfl, hyr, hyg, hyl, hys⟩ | rfl⟩
              · rw [itAgg]
                have G5 := Lib.hid (only_trans GW3.out hg5)
                have X5 := Lib.hid (X3.out.grown hg5 (by simp))
                have B5 := Lib.hid (B3.out.grown hg5 (by simp))
                have YS := Lib.hid hys
                have YG := Lib.hid hyg
                have yl0 := hyg.pl.l0
                clear x0 x1 x2 x3 x4 x5 x6 x7 x8 x9 x10 t0 t1 b0 b1 b2 hg5 hys hyg hyr
                obtain ⟨W6, hW6⟩ : ∃ W, W = w5.alloc (.cells #[.string y.rule, .int .i64 y.ev.host, .int .i64 y.ev.file, .int .i64 y.ev.beg, .int .i64 y.ev.fin, .slice y.ev.la y.ev.lines.length y.ev.lc, .int .i64 y.ev.time, .int .i64 y.ev.weight, .string y.ev.trace, .string y.ev.stream, .slice y.ev.fa y.ev.fields.length y.ev.fc] 77) := ⟨_, rfl⟩
                obtain ⟨yb, hyb⟩ : ∃ b, b = w5.heap.size := ⟨_, rfl⟩
                have g6 : w5.grownBy W6 none := by rw [hW6]; exact only_alloc (only_refl _ _) _
                have Y6 : Hid (Blk W6 yb 77 #[.string y.rule, .int .i64 y.ev.host, .int .i64 y.ev.file, .int .i64 y.ev.beg, .int .i64 y.ev.fin, .slice y.ev.la y.ev.lines.length y.ev.lc, .int .i64 y.ev.time, .int .i64 y.ev.weight, .string y.ev.trace, .string y.ev.stream, .slice y.ev.fa y.ev.fields.length y.ev.fc]) := Lib.hid (by rw [hW6, hyb]; exact Blk.new w5 _ _)
                have G6 := Lib.hid (only_trans G5.out g6)
                have X6 := Lib.hid (X5.out.grown g6 (by simp))
                have B6 := Lib.hid (B5.out.grown g6 (by simp))
                have S6 := Lib.hid (YS.out.grown g6 (by simp))
                have HW6 := Lib.hid hW6.symm
                have HYB := Lib.hid hyb
                clear hW6 hyb g6 X5 B5 YS
                go_upto_region 16 with fail
                rw [HW6.out, ← HYB.out]
                clear HW6
                have y0 := (Y6.out).cell 0; have y1 := (Y6.out).cell 1; have y2 := (Y6.out).cell 2; have y3 := (Y6.out).cell 3; have y4 := (Y6.out).cell 4; have y5 := (Y6.out).cell 5; have y6 := (Y6.out).cell 6; have y7 := (Y6.out).cell 7; have y8 := (Y6.out).cell 8; have y9 := (Y6.out).cell 9; have y10 := (Y6.out).cell 10; simp at y0 y1 y2 y3 y4 y5 y6 y7 y8 y9 y10
                have f0 := (X6.out).frozen 0; have f1 := (X6.out).frozen 1; have f2 := (X6.out).frozen 2; have f3 := (X6.out).frozen 3; have f4 := (X6.out).frozen 4; have f5 := (X6.out).frozen 5; have f6 := (X6.out).frozen 6; have f7 := (X6.out).frozen 7; have f8 := (X6.out).frozen 8; have f9 := (X6.out).frozen 9; have f10 := (X6.out).frozen 10
                have x0 := (X6.out).cell 0; have x1 := (X6.out).cell 1; have x2 := (X6.out).cell 2; have x3 := (X6.out).cell 3; have x4 := (X6.out).cell 4; have x5 := (X6.out).cell 5; have x6 := (X6.out).cell 6; have x7 := (X6.out).cell 7; have x8 := (X6.out).cell 8; have x9 := (X6.out).cell 9; have x10 := (X6.out).cell 10; simp at x0 x1 x2 x3 x4 x5 x6 x7 x8 x9 x10
                have hW7 : ∃ W7, W7 = ((((((((((W6.setCell ⟨xb, 0, none⟩ (.string y.rule)).setCell ⟨xb, 1, none⟩ (.int .i64 y.ev.host)).setCell ⟨xb, 2, none⟩ (.int .i64 y.ev.file)).setCell ⟨xb, 3, none⟩ (.int .i64 y.ev.beg)).setCell ⟨xb, 4, none⟩ (.int .i64 y.ev.fin)).setCell ⟨xb, 5, none⟩ (.slice y.ev.la y.ev.lines.length y.ev.lc)).setCell ⟨xb, 6, none⟩ (.int .i64 y.ev.time)).setCell ⟨xb, 7, none⟩ (.int .i64 y.ev.weight)).setCell ⟨xb, 8, none⟩ (.string y.ev.trace)).setCell ⟨xb, 9, none⟩ (.string y.ev.stream)).setCell ⟨xb, 10, none⟩ (.slice y.ev.fa y.ev.fields.length y.ev.fc) := ⟨_, rfl⟩
                go_upto_region 19 with fail
                obtain ⟨W7, hW7⟩ := hW7
                have g7 : W6.grownBy W7 (some xb) := by rw [hW7]; exact only_set11 (only_refl _ _) (.string y.rule) (.int .i64 y.ev.host) (.int .i64 y.ev.file) (.int .i64 y.ev.beg) (.int .i64 y.ev.fin) (.slice y.ev.la y.ev.lines.length y.ev.lc) (.int .i64 y.ev.time) (.int .i64 y.ev.weight) (.string y.ev.trace) (.string y.ev.stream) (.slice y.ev.fa y.ev.fields.length y.ev.fc)
                have X7 : Hid (Blk W7 xb 77 #[.string y.rule, .int .i64 y.ev.host, .int .i64 y.ev.file, .int .i64 y.ev.beg, .int .i64 y.ev.fin, .slice y.ev.la y.ev.lines.length y.ev.lc, .int .i64 y.ev.time, .int .i64 y.ev.weight, .string y.ev.trace, .string y.ev.stream, .slice y.ev.fa y.ev.fields.length y.ev.fc]) := Lib.hid (by rw [hW7]; exact X6.out.put11 (.string y.rule) (.int .i64 y.ev.host) (.int .i64 y.ev.file) (.int .i64 y.ev.beg) (.int .i64 y.ev.fin) (.slice y.ev.la y.ev.lines.length y.ev.lc) (.int .i64 y.ev.time) (.int .i64 y.ev.weight) (.string y.ev.trace) (.string y.ev.stream) (.slice y.ev.fa y.ev.fields.length y.ev.fc))
                have R7 := Lib.hid (R.out.grown (only_fresh G6.out g7 hxw))
                have B7 := Lib.hid (B6.out.grown g7 (by simpa using hBx))
                have S7 := Lib.hid (S6.out.grown g7 (fun b hb e => hb.2 (by injection e)))
                rw [← hW7]
                clear hW7 g7 y0 y1 y2 y3 y4 y5 y6 y7 y8 y9 y10 f0 f1 f2 f3 f4 f5 f6 f7 f8 f9 f10 x0 x1 x2 x3 x4 x5 x6 x7 x8 x9 x10 X6 B6 S6 Y6
                obtain ⟨j, hj⟩ : ∃ j, j = x.ev.lines.length - y.ev.lines.length := ⟨_, rfl⟩
                have hj1 : 1 ≤ j := by omega
                have hj6 : j ≤ 6 := by omega
                have hwj : IntKind.i64.wrap ((x.ev.lines.length : Int) - (y.ev.lines.length : Int)) = (j : Int) := by rw [show (x.ev.lines.length : Int) - (y.ev.lines.length : Int) = (j : Int) by omega]; exact IntWalk.i64_in _ (by omega)
                have KA : Hid (Calls Try.prog 31 #[.slice B' us.length d', .int .i64 host, .string ⟨#[42]⟩, .int .i64 j] W7 (TalsPost W7 (mrg us [⟨host, ⟨#[42]⟩, j⟩]))) := Lib.hid (add28_any R7.out.ink ⟨host, ⟨#[42]⟩, j⟩ ⟨by show 1 ≤ (j : Int); omega, by show (j : Int) ≤ 6; omega⟩ (by omega) (by omega))
                clear hj
                have x0 := (X7.out).cell 0; have x1 := (X7.out).cell 1; have x2 := (X7.out).cell 2; have x3 := (X7.out).cell 3; have x4 := (X7.out).cell 4; have x5 := (X7.out).cell 5; have x6 := (X7.out).cell 6; have x7 := (X7.out).cell 7; have x8 := (X7.out).cell 8; have x9 := (X7.out).cell 9; have x10 := (X7.out).cell 10; simp at x0 x1 x2 x3 x4 x5 x6 x7 x8 x9 x10
                have t0 := (R7.out.tk).cell 0; have t1 := (R7.out.tk).cell 1; simp at t0 t1
                have b0 := (B7.out).cell 0; have b1 := (B7.out).cell 1; have b2 := (B7.out).cell 2; simp at b0 b1 b2
                go_wp2_with fail
                refine KA.out.mono ?_
                rintro e w8 ⟨B8, d8, rfl, hd8, hm8, hr8, hg8⟩
                clear x0 x1 x2 x3 x4 x5 x6 x7 x8 x9 x10 t0 t1 b0 b1 b2
                have f1 := (R7.out.tk.grown hg8 (by simp)).frozen 1
                have t1 := (R7.out.tk.grown hg8 (by simp)).cell 1
                simp at t1
                have RN := Lib.hid (R7.out.tal ⟨host, ⟨#[42]⟩, j⟩ ⟨by show 1 ≤ (j : Int); omega, by show (j : Int) ≤ 6; omega⟩ hg8 hd8 hm8 hr8)
                have gm : W7.grownBy (w8.setCell ⟨tb, 1, none⟩ (.slice B8 (mrg us [⟨host, ⟨#[42]⟩, j⟩]).length d8)) (some tb) := only_setCell (only_of_none hg8 _) (p := ⟨tb, 1, none⟩) (.inl rfl) _
                have XN := Lib.hid (X7.out.grown gm (by simpa using hxt))
                have SN := Lib.hid (S7.out.grown gm (fun b hb => qs_tb hb.1))
                clear hr8 hg8 gm
                go_wp2_with fail
                go_meet
                exact ⟨y, B8, mrg us [⟨host, ⟨#[42]⟩, j⟩], d8, YG.out, XN.out, SN.out, RN.out.wide (by omega) (by omega) (by omega) (by omega), fun h => by rw [sumP_mrg, SM.out h]; simp [sumP, p2_pos (s := ⟨#[42]⟩) (by decide)]⟩
              · have R5 := Lib.hid (R3.out.grown hg5)
                clear x0 x1 x2 x3 x4 x5 x6 x7 x8 x9 x10 t0 t1 b0 b1 b2 hg5
                obtain ⟨W6, hW6⟩ : ∃ W, W = w5.alloc (.cells #[.string ⟨#[]⟩, .int .i64 0, .int .i64 0, .int .i64 0, .int .i64 0, .slice none 0 0, .int .i64 0, .int .i64 0, .string ⟨#[]⟩, .string ⟨#[]⟩, .slice none 0 0] 77) := ⟨_, rfl⟩
                have g6 : w5.grownBy W6 none := by rw [hW6]; exact only_alloc (only_refl _ _) _
                have R6 := Lib.hid (R5.out.grown g6)
                have P6 := PV.out.grown R6.out.fr (by simpa using hpt)
                have Z6 := RV.out.grown R6.out.fr (by simpa using hrt)
                have HW6 := Lib.hid hW6.symm
                have G6 := Lib.hid (only_fresh GV.out R6.out.fr htw)
                clear hW6 g6 R5
                go_upto_region 16 with fail
                rw [HW6.out]
                clear HW6
                have p0 := P6.cell 0
                have p1 := P6.cell 1
                have q0 := Z6.cell 0
                have q1 := Z6.cell 1
                have f0 := Z6.frozen 0
                have f1 := Z6.frozen 1
                simp at p0 p1 q0 q1
                obtain ⟨W9, hW9⟩ : ∃ W, W = (W6.setCell ⟨rb, 0, none⟩ (.slice A ms.length c)).setCell ⟨rb, 1, none⟩ (.slice B ts.length d) := ⟨_, rfl⟩
                have P9 : Blk W9 rb 39 #[.slice A ms.length c, .slice B ts.length d] := by rw [hW9]; simpa using (Z6.set_ 0 (.slice A ms.length c)).set_ 1 (.slice B ts.length d)
                have g9 : W6.grownBy W9 (some rb) := by rw [hW9]; exact only_setCell (only_setCell (only_refl _ _) (p := ⟨rb, 0, none⟩) (.inl rfl) _) (p := ⟨rb, 1, none⟩) (.inl rfl) _
                have D9 := Lib.hid (And.intro P9 (only_fresh G6.out g9 hrw))
                have HW9 := Lib.hid hW9.symm
                clear P9 g9 hW9
                go_wp2_with fail
                rw [HW9.out]
                clear p0 p1 q0 q1 f0 f1
                have z0 := D9.out.1.cell 0
                have z1 := D9.out.1.cell 1
                simp at z0 z1
                exact bodyPost_ret (v := .tuple #[.agg #[.slice A ms.length c, .slice B ts.length d], .slice none 0 0, .int .i64 23]) (by simp [results, Try.results27, go_sem, z0, z1]) rfl (HERR.out _ _ D9.out.2)
            · go_wp2_with fail
              go_meet
              exact ⟨x, B', us, d', XG.out, X3.out, S3.out, R3.out.wide (by omega) (by omega) (by omega) (by omega), SM.out⟩
          case rest =>
            obtain ⟨y, B5, us5, d5, hyg, hX, hys, hR5, hsm⟩ := hcut
            have YG := Lib.hid hyg
            have YS := Lib.hid hys
            have X5 := Lib.hid hX
            have R5 := Lib.hid hR5
            have SM5 := Lib.hid hsm
            have b5 := BV.out.grown hR5.fr (by simpa using hbt)
            have B5' := Lib.hid b5
            have yl0 := hyg.pl.l0
            have yl6 := hyg.l6
            have hcx := hX.lt
            have hSz := hR5.fr.size
            clear hyg hX hys hR5 hsm x0 x1 x2 x3 x4 x5 x6 x7 x8 x9 x10 t0 t1 b0 b1 b2 SM R3 B3 X3 S3 XG b5
            have x0 := (X5.out).cell 0; have x1 := (X5.out).cell 1; have x2 := (X5.out).cell 2; have x3 := (X5.out).cell 3; have x4 := (X5.out).cell 4; have x5 := (X5.out).cell 5; have x6 := (X5.out).cell 6; have x7 := (X5.out).cell 7; have x8 := (X5.out).cell 8; have x9 := (X5.out).cell 9; have x10 := (X5.out).cell 10; simp at x0 x1 x2 x3 x4 x5 x6 x7 x8 x9 x10
            have t0 := (R5.out.tk).cell 0; have t1 := (R5.out.tk).cell 1; simp at t0 t1
            have b0 := (B5'.out).cell 0; have b1 := (B5'.out).cell 1; have b2 := (B5'.out).cell 2; simp at b0 b1 b2
            go_upto_region 20 with fail
            by_cases h3 : mk < y.ev.beg
            · go_upto_region 21 with fail
              have P6 := PV.out.grown R5.out.fr (by simpa using hpt)
              have Z6 := RV.out.grown R5.out.fr (by simpa using hrt)
              have G6 := Lib.hid (only_fresh GV.out R5.out.fr htw)
              clear x0 x1 x2 x3 x4 x5 x6 x7 x8 x9 x10 t0 t1 b0 b1 b2
              have p0 := P6.cell 0
              have p1 := P6.cell 1
              have q0 := Z6.cell 0
              have q1 := Z6.cell 1
              have f0 := Z6.frozen 0
              have f1 := Z6.frozen 1
              simp at p0 p1 q0 q1
              obtain ⟨W9, hW9⟩ : ∃ W, W = (wc.setCell ⟨rb, 0, none⟩ (.slice A ms.length c)).setCell ⟨rb, 1, none⟩ (.slice B ts.length d) := ⟨_, rfl⟩
              have P9 : Blk W9 rb 39 #[.slice A ms.length c, .slice B ts.length d] := by rw [hW9]; simpa using (Z6.set_ 0 (.slice A ms.length c)).set_ 1 (.slice B ts.length d)
              have g9 : wc.grownBy W9 (some rb) := by rw [hW9]; exact only_setCell (only_setCell (only_refl _ _) (p := ⟨rb, 0, none⟩) (.inl rfl) _) (p := ⟨rb, 1, none⟩) (.inl rfl) _
              have D9 := Lib.hid (And.intro P9 (only_fresh G6.out g9 hrw))
              have HW9 := Lib.hid hW9.symm
              clear P9 g9 hW9
              go_wp2_with fail
              rw [HW9.out]
              clear p0 p1 q0 q1 f0 f1
              have z0 := D9.out.1.cell 0
              have z1 := D9.out.1.cell 1
              simp at z0 z1
              exact bodyPost_ret (v := .tuple #[.agg #[.slice A ms.length c, .slice B ts.length d], .slice none 0 0, .int .i64 23]) (by simp [results, Try.results27, go_sem, z0, z1]) rfl (HERR.out _ _ D9.out.2)
            · have KS : Hid (Calls Try.prog 56 #[.slice A' ms'.length c', .agg #[.int .i64 y.ev.host, .int .i64 y.ev.file, .int .i64 y.ev.fin]] wc (SetP wc ms'.length)) := Lib.hid (set28_any A' ms' c' ⟨y.ev.host, y.ev.file, y.ev.fin⟩ wc R5.out.ink.rm (by have := R5.out.ink.lm; omega) R5.out.ink.cm R5.out.ink.mm R5.out.ink.zm)
              go_wp2_with fail
              refine KS.out.mono ?_
              rintro e w6 ⟨A6, c6, ms6, rfl, hl6, hc6, hm6, hz6, hr6, hg6⟩
              have tk6 := R5.out.tk.grown hg6 (by simp)
              have f0 := tk6.frozen 0
              have RM := Lib.hid (R5.out.mark hg6 hl6 hc6 hm6 hz6 hr6)
              have gm : wc.grownBy (w6.setCell ⟨tb, 0, none⟩ (.slice A6 ms6.length c6)) (some tb) := only_setCell (only_of_none hg6 _) (p := ⟨tb, 0, none⟩) (.inl rfl) _
              have XM := Lib.hid (X5.out.grown gm (by simpa using hxt))
              have BM := Lib.hid (B5'.out.grown gm (by simpa using hbt))
              have SM' := Lib.hid (YS.out.grown gm (fun b hb => qs_tb hb.1))
              clear hr6 hg6 x0 x1 x2 x3 x4 x5 x6 x7 x8 x9 x10 t0 t1 b0 b1 b2 KS gm X5 R5 B5' YS
              obtain ⟨W7, hW7⟩ : ∃ W, W = w6.setCell ⟨tb, 0, none⟩ (.slice A6 ms6.length c6) := ⟨_, rfl⟩
              rw [← hW7] at RM XM BM SM'
              have t0 := tk6.cell 0
              simp at t0
              go_upto_region 23 with fail
              rw [← hW7]
              clear hW7 f0 t0 tk6
              have x0 := (XM.out).cell 0; have x1 := (XM.out).cell 1; have x2 := (XM.out).cell 2; have x3 := (XM.out).cell 3; have x4 := (XM.out).cell 4; have x5 := (XM.out).cell 5; have x6 := (XM.out).cell 6; have x7 := (XM.out).cell 7; have x8 := (XM.out).cell 8; have x9 := (XM.out).cell 9; have x10 := (XM.out).cell 10; simp at x0 x1 x2 x3 x4 x5 x6 x7 x8 x9 x10
              have t0 := (RM.out.tk).cell 0; have t1 := (RM.out.tk).cell 1; simp at t0 t1
              have b0 := (BM.out).cell 0; have b1 := (BM.out).cell 1; have b2 := (BM.out).cell 2; simp at b0 b1 b2
              have KA : Hid (Calls Try.prog 31 #[.slice B5 us5.length d5, .int .i64 host, .string y.rule, .int .i64 y.ev.lines.length] W7 (TalsPost W7 (mrg us5 [⟨host, y.rule, y.ev.lines.length⟩]))) := Lib.hid (add28_any RM.out.ink ⟨host, y.rule, y.ev.lines.length⟩ ⟨by show 1 ≤ (y.ev.lines.length : Int); omega, by show (y.ev.lines.length : Int) ≤ 6; omega⟩ (by omega) (by omega))
              go_wp2_with fail
              refine KA.out.mono ?_
              rintro e w8 ⟨B8, d8, rfl, hd8, hm8, hr8, hg8⟩
              clear x0 x1 x2 x3 x4 x5 x6 x7 x8 x9 x10 t0 t1 b0 b1 b2
              have f1 := (RM.out.tk.grown hg8 (by simp)).frozen 1
              have t1 := (RM.out.tk.grown hg8 (by simp)).cell 1
              simp at t1
              have RN := Lib.hid (RM.out.tal ⟨host, y.rule, y.ev.lines.length⟩ ⟨by show 1 ≤ (y.ev.lines.length : Int); omega, by show (y.ev.lines.length : Int) ≤ 6; omega⟩ hg8 hd8 hm8 hr8)
              have gm : W7.grownBy (w8.setCell ⟨tb, 1, none⟩ (.slice B8 (mrg us5 [⟨host, y.rule, y.ev.lines.length⟩]).length d8)) (some tb) := only_setCell (only_of_none hg8 _) (p := ⟨tb, 1, none⟩) (.inl rfl) _
              have XN := Lib.hid (XM.out.grown gm (by simpa using hxt))
              have SN := Lib.hid (SM'.out.grown gm (fun b hb => qs_tb hb.1))
              clear hr8 hg8 gm KA RM XM BM SM'
              obtain ⟨W9, hW9⟩ : ∃ W, W = w8.setCell ⟨tb, 1, none⟩ (.slice B8 (mrg us5 [⟨host, y.rule, y.ev.lines.length⟩]).length d8) := ⟨_, rfl⟩
              rw [← hW9] at RN XN SN
              go_upto_region 24 with fail
              rw [← hW9]
              clear hW9 f1 t1
              have hszN : V.heap.size ≤ W9.heap.size := RN.out.fr.size
              have holN : out.length ≤ 1000 := by have := RN.out.ol; omega
              have x0 := (XN.out).cell 0; have x1 := (XN.out).cell 1; have x2 := (XN.out).cell 2; have x3 := (XN.out).cell 3; have x4 := (XN.out).cell 4; have x5 := (XN.out).cell 5; have x6 := (XN.out).cell 6; have x7 := (XN.out).cell 7; have x8 := (XN.out).cell 8; have x9 := (XN.out).cell 9; have x10 := (XN.out).cell 10; simp at x0 x1 x2 x3 x4 x5 x6 x7 x8 x9 x10
              rcases YG.out.kind with ⟨hrule, hEC⟩ | ⟨hr1, -, -⟩
              · have e0 : y.rule.toList.isEmpty = true := by rw [hrule, ByteArray.toList_eq]; rfl
                have HRU := Lib.hid hrule
                have HEC := Lib.hid hEC
                clear hrule hEC
                go_wp2_with (at_builtin; go_must (refine wpList_append1 rfl _ _ 31 rfl V.heap.size Try.underlying31 eventInfo rfl (by decide) (v := u9) (by rfl) (w0 := W9) (cs := y.ev.cells.toArray) RN.out.own (by rfl) rfl (by simpa using Ev.one y.ev) (by decide) (by omega) (by omega) ?_); intro v7 w7 hown7 hg7 hob7)
                have RF := Lib.hid (RN.out.app ⟨YG.out.ho, HEC.out, yl6, SN.out.mono (fun b hb _ => hb.1)⟩ hown7 hg7 hob7)
                clear hown7 hg7 hob7 x0 x1 x2 x3 x4 x5 x6 x7 x8 x9 x10 e0
                go_wp2_with fail
                go_roundw
                case rel => exact ⟨k + 1, A6, ms6, c6, B8, mrg us5 [⟨host, y.rule, y.ev.lines.length⟩], d8, out ++ [y.ev], by go_num, by omega, RF.out.wide (by omega) (by omega) (by omega) (by omega), fun h => by rw [sumP_mrg, SM5.out h, cntE_app, HRU.out]; simp [sumP, cntE, p2_nil, YG.out.ho]; omega⟩
                case measure => simp [intOf]; omega
              · have e0 := rule_ne hr1
                have HR1 := Lib.hid hr1
                clear hr1
                go_wp2_with fail
                go_roundw
                case rel => exact ⟨k + 1, A6, ms6, c6, B8, mrg us5 [⟨host, y.rule, y.ev.lines.length⟩], d8, out, by go_num, by omega, RN.out.wide (by omega) (by omega) (by omega) (by omega), fun h => by rw [sumP_mrg, SM5.out h]; simp [sumP, p2_pos HR1.out]⟩
                case measure => simp [intOf]; omega
      · have i1 : ¬ ((k : Int) < (xs.length : Int)) := by omega
        obtain ⟨O9, c9, e9, hc9, hm9, -, hr9⟩ := Rd.of_own R.out.own (by decide)
        subst e9
        have HR9 := Lib.hid hr9
        clear hr9
        obtain rfl : k = xs.length := by omega
        go_upto_region 26 with fail
        clear b0 b1 b2
        have Z6 := RV.out.grown R.out.fr (by simpa using hrt)
        have t0 := (R.out.tk).cell 0; have t1 := (R.out.tk).cell 1; simp at t0 t1
        have q0 := Z6.cell 0
        have q1 := Z6.cell 1
        have f0 := Z6.frozen 0
        have f1 := Z6.frozen 1
        simp at q0 q1
        obtain ⟨W9, hW9⟩ : ∃ W, W = (wr.setCell ⟨rb, 0, none⟩ (.slice A' ms'.length c')).setCell ⟨rb, 1, none⟩ (.slice B' us.length d') := ⟨_, rfl⟩
        have P9 : Blk W9 rb 39 #[.slice A' ms'.length c', .slice B' us.length d'] := by rw [hW9]; simpa using (Z6.set_ 0 (.slice A' ms'.length c')).set_ 1 (.slice B' us.length d')
        have g9 : wr.grownBy W9 (some rb) := by rw [hW9]; exact only_setCell (only_setCell (only_refl _ _) (p := ⟨rb, 0, none⟩) (.inl rfl) _) (p := ⟨rb, 1, none⟩) (.inl rfl) _
        have hrV : rb < V.heap.size := RV.out.lt
        have D9 := Lib.hid (And.intro P9 (only_fresh (only_fresh GV.out R.out.fr htw) g9 hrw))
        have HF : Hid (AplP S host n m T xs.length ts w (.returned (.tuple #[.agg #[.slice A' ms'.length c', .slice B' us.length d'], .slice O9 out.length c9, .int .i64 0])) W9) := Lib.hid ⟨A', ms', c', B', us, d', O9, out, c9, 0, rfl,
          (R.out.ink.grown g9 (fun b hb e => ((HS1.out b).1 hb.1).2 (by injection e))).mono (fun b hb _ => ((HS1.out b).1 hb.1).1),
          (HR9.out.grown g9 (fun b hb e => by have h0 : V.heap.size ≤ b := hb; injection e with e; omega)).mono (fun b hb _ => HS.out b (Nat.le_trans hwV hb)), R.out.ol, hc9, hm9,
          fun e he => ⟨(R.out.oe e he).1, (R.out.oe e he).2.1, (R.out.oe e he).2.2.1, ((R.out.oe e he).2.2.2.grown g9 (fun b hb e => ((HS1.out b).1 hb.1).2 (by injection e))).mono (fun b hb _ => ((HS1.out b).1 hb.1).1)⟩, SM.out, D9.out.2⟩
        have HW9 := Lib.hid hW9.symm
        clear P9 g9 hW9
        go_wp2_with fail
        rw [HW9.out]
        clear t0 t1 q0 q1 f0 f1
        have z0 := D9.out.1.cell 0
        have z1 := D9.out.1.cell 1
        simp at z0 z1
        exact bodyPost_ret (v := .tuple #[.agg #[.slice A' ms'.length c', .slice B' us.length d'], .slice O9 out.length c9, .int .i64 0]) (by simp [results, Try.results27, go_sem, z0, z1]) rfl HF.out
  · have e1 : (r != 0) = true := by simp [hr]
    clear hr
    go_upto_region 3 with fail
    have p0 := P2.out.cell 0
    have p1 := P2.out.cell 1
    have q0 := R2.out.cell 0
    have q1 := R2.out.cell 1
    have f0 := R2.out.frozen 0
    have f1 := R2.out.frozen 1
    simp at p0 p1 q0 q1
    obtain ⟨W9, hW9⟩ : ∃ W, W = (w2.setCell ⟨rb, 0, none⟩ (.slice A ms.length c)).setCell ⟨rb, 1, none⟩ (.slice B ts.length d) := ⟨_, rfl⟩
    have P9 : Blk W9 rb 39 #[.slice A ms.length c, .slice B ts.length d] := by rw [hW9]; simpa using (R2.out.set_ 0 (.slice A ms.length c)).set_ 1 (.slice B ts.length d)
    have g9 : w2.grownBy W9 (some rb) := by rw [hW9]; exact only_setCell (only_setCell (only_refl _ _) (p := ⟨rb, 0, none⟩) (.inl rfl) _) (p := ⟨rb, 1, none⟩) (.inl rfl) _
    have D9 := Lib.hid (And.intro P9 (only_fresh G2.out g9 hrw))
    have HW9 := Lib.hid hW9.symm
    clear P9 g9 hW9
    go_wp2_with fail
    rw [HW9.out]
    clear p0 p1 q0 q1 f0 f1
    have z0 := D9.out.1.cell 0
    have z1 := D9.out.1.cell 1
    simp at z0 z1
    exact bodyPost_ret (v := .tuple #[.agg #[.slice A ms.length c, .slice B ts.length d], .slice none 0 0, .int .i64 r]) (by simp [results, Try.results27, go_sem, z0, z1]) rfl (HERR.out _ _ D9.out.2)
end Go.Proofs.Ytiogpomgpknjlaa
