/- event.Less. No condition. -/
import Derived.Test.YtfbkkbbpgipipaaGreatDoorJCloneFd
import Derived.StillTailTactics
import Derived.Test.YtfbkkbbpgipipaaGreatDoorJEChk0
import Derived.Test.YtfbkkbbpgipipaaGreatDoorJSortS
import Derived.Deep.RegionLaw
import Derived.WideLaws
import Derived.Lib.SliceRun
import Derived.Test.YtfbkkbbpgipipaaGreatDoorJGoodO
import Derived.Deep.DeepCutAuto
namespace Go.Proofs.YtfbkkbbpgipipaaGreatDoor
open Go.RowKit
set_option linter.unusedVariables false
set_option linter.unusedSimpArgs false

def cmpI (a b : Int) : Int := if a < b then -1 else if b < a then 1 else 0
set_option maxHeartbeats 1000000 in
theorem cmpI_any (a b : Int) (w : World) : Calls Tryz.prog 49 #[.int .i64 a, .int .i64 b] w (fun e w' => e = .returned (.int .i64 (cmpI a b)) ∧ w' = w) := by
  by_cases h1 : a < b
  · have hv : cmpI a b = -1 := by simp [cmpI, h1]
    rw [hv]
    have d1 : decide (a < b) = true := by simp; omega
    clear hv h1
    go_enter Tryz.func49, Tryz.ntmps49
    go_wp2
    go_ret
    exact ⟨rfl, rfl⟩
  · have d1 : decide (a < b) = false := by simp; omega
    by_cases h2 : b < a
    · have hv : cmpI a b = 1 := by simp [cmpI, h1, h2]
      rw [hv]
      have d2 : decide (b < a) = true := by simp; omega
      clear hv h1 h2
      go_enter Tryz.func49, Tryz.ntmps49
      go_wp2
      go_ret
      exact ⟨rfl, rfl⟩
    · have hv : cmpI a b = 0 := by simp [cmpI, h1, h2]
      rw [hv]
      have d2 : decide (b < a) = false := by simp; omega
      clear hv h1 h2
      go_enter Tryz.func49, Tryz.ntmps49
      go_wp2
      go_ret
      exact ⟨rfl, rfl⟩
/-- the first number that is not 0 -/
def fnz : List Int → Int
  | [] => 0
  | a :: l => if a = 0 then fnz l else a
theorem fnz_drop {vs : List Int} {k : Nat} (h : k < vs.length) : fnz (vs.drop k) = if vs[k] = 0 then fnz (vs.drop (k + 1)) else vs[k] := by
  rw [List.drop_eq_getElem_cons h, fnz]
set_option maxHeartbeats 1000000 in
theorem orN_any (g c : Nat) (vs : List Int) (w : World) (hB : Blk w g 3 (vs.map (.int .i64)).toArray) (hl : vs.length ≤ 100000) :
    Calls Tryz.prog 48 #[.slice (some ⟨g, 0, none⟩) vs.length c] w (fun e w' => e = .returned (.int .i64 (fnz vs)) ∧ w' = w) := by
  have HB := Lib.hid hB
  clear hB
  go_enter Tryz.func48, Tryz.ntmps48
  go_wp2
  go_loop [8] (fun i => ∃ k : Nat, k ≤ vs.length ∧ i = .int .i64 k ∧ fnz (vs.drop k) = fnz vs) (fun i => vs.length - (intOf i).toNat)
  case atStart => exact ⟨0, by omega, rfl, rfl⟩
  case round =>
    obtain ⟨k, hk, rfl, h1⟩ := hrel
    have H1 := Lib.hid h1
    clear h1
    by_cases hlt : k < vs.length
    · have kI : (k : Int) < (vs.length : Int) := by omega
      obtain ⟨x, hx⟩ : ∃ x, vs[k] = x := ⟨_, rfl⟩
      have hcell : w.cell? ⟨g, k, none⟩ = some (.int .i64 x) := by rw [HB.out.cell k]; simp [hlt, hx]
      have HF := Lib.hid (fnz_drop hlt)
      rw [hx] at HF
      clear hx
      by_cases hz : x = 0
      · have d1 : (x != 0) = false := by simp [hz]
        have HZ := Lib.hid hz
        clear hz
        go_wp2
        go_round
        case rel => exact ⟨k + 1, by omega, by go_num, by rw [← H1.out, HF.out, if_pos HZ.out]⟩
        case measure => simp [intOf]; omega
      · have d1 : (x != 0) = true := by simp [hz]
        have HZ := Lib.hid hz
        clear hz
        go_wp2
        go_ret
        exact ⟨ret_int (by rw [← H1.out, HF.out, if_neg HZ.out]), rfl⟩
    · go_wp2
      go_ret
      exact ⟨ret_int (by rw [← H1.out, List.drop_eq_nil_of_le (by omega)]; rfl), rfl⟩
theorem less_fnz (a b : Ev) : decide (fnz [cmpI a.time b.time, cmpI a.host b.host, cmpI a.file b.file, cmpI a.beg b.beg] < 0) = a.less b := by
  have h0 : ∀ {x y : Int}, cmpI x y = 0 ↔ x = y := by intro x y; unfold cmpI; split; omega; split; omega; omega
  have h1 : ∀ {x y : Int}, x ≠ y → decide (cmpI x y < 0) = decide (x < y) := by intro x y h; unfold cmpI; split; simp [*]; split; simp; omega; omega
  by_cases e1 : a.time = b.time
  · have z1 := h0.2 e1
    by_cases e2 : a.host = b.host
    · have z2 := h0.2 e2
      by_cases e3 : a.file = b.file
      · have z3 := h0.2 e3
        rw [show a.less b = decide (a.beg < b.beg) by simp [Ev.less, e1, e2, e3]]
        by_cases e4 : a.beg = b.beg
        · have z4 := h0.2 e4
          rw [show fnz [cmpI a.time b.time, cmpI a.host b.host, cmpI a.file b.file, cmpI a.beg b.beg] = 0 by simp only [fnz, z1, z2, z3, z4, if_true]]
          simp; omega
        · have z4 := mt h0.1 e4
          rw [show fnz [cmpI a.time b.time, cmpI a.host b.host, cmpI a.file b.file, cmpI a.beg b.beg] = cmpI a.beg b.beg by simp only [fnz, z1, z2, z3, z4, if_true, if_false]]
          exact h1 e4
      · have z3 := mt h0.1 e3
        rw [show a.less b = decide (a.file < b.file) by simp [Ev.less, e1, e2, e3], show fnz [cmpI a.time b.time, cmpI a.host b.host, cmpI a.file b.file, cmpI a.beg b.beg] = cmpI a.file b.file by simp only [fnz, z1, z2, z3, if_true, if_false]]
        exact h1 e3
    · have z2 := mt h0.1 e2
      rw [show a.less b = decide (a.host < b.host) by simp [Ev.less, e1, e2], show fnz [cmpI a.time b.time, cmpI a.host b.host, cmpI a.file b.file, cmpI a.beg b.beg] = cmpI a.host b.host by simp only [fnz, z1, z2, if_true, if_false]]
      exact h1 e2
  · have z1 := mt h0.1 e1
    rw [show a.less b = decide (a.time < b.time) by simp [Ev.less, e1], show fnz [cmpI a.time b.time, cmpI a.host b.host, cmpI a.file b.file, cmpI a.beg b.beg] = cmpI a.time b.time by simp only [fnz, z1, if_false]]
    exact h1 e1
theorem blk_new3 (w : World) (o1 o2 : Obj) (t : TypeId) (cs : Array Value) : Blk (((w.alloc o1).alloc o2).alloc (.cells cs t)).drew (w.heap.size + 1 + 1) t cs := by
  have h := Blk.new ((w.alloc o1).alloc o2) t cs
  rw [World.size_alloc, World.size_alloc] at h
  exact h
set_option maxHeartbeats 2000000 in
set_option maxRecDepth 100000 in
theorem eless_any (a b : Ev) (w : World) : Calls Tryz.prog 25 #[.agg a.cells.toArray, .agg b.cells.toArray] w (BoolExt (a.less b) w) := by
  have HL := Lib.hid (less_fnz a b)
  obtain ⟨c1, hc1⟩ : ∃ c, c = cmpI a.time b.time := ⟨_, rfl⟩
  obtain ⟨c2, hc2⟩ : ∃ c, c = cmpI a.host b.host := ⟨_, rfl⟩
  obtain ⟨c3, hc3⟩ : ∃ c, c = cmpI a.file b.file := ⟨_, rfl⟩
  obtain ⟨c4, hc4⟩ : ∃ c, c = cmpI a.beg b.beg := ⟨_, rfl⟩
  have K1 : Hid (∀ w1, Calls Tryz.prog 49 #[.int .i64 a.time, .int .i64 b.time] w1 (fun e w' => e = .returned (.int .i64 c1) ∧ w' = w1)) := Lib.hid (fun w1 => by rw [hc1]; exact cmpI_any _ _ _)
  have K2 : Hid (∀ w1, Calls Tryz.prog 49 #[.int .i64 a.host, .int .i64 b.host] w1 (fun e w' => e = .returned (.int .i64 c2) ∧ w' = w1)) := Lib.hid (fun w1 => by rw [hc2]; exact cmpI_any _ _ _)
  have K3 : Hid (∀ w1, Calls Tryz.prog 49 #[.int .i64 a.file, .int .i64 b.file] w1 (fun e w' => e = .returned (.int .i64 c3) ∧ w' = w1)) := Lib.hid (fun w1 => by rw [hc3]; exact cmpI_any _ _ _)
  have K4 : Hid (∀ w1, Calls Tryz.prog 49 #[.int .i64 a.beg, .int .i64 b.beg] w1 (fun e w' => e = .returned (.int .i64 c4) ∧ w' = w1)) := Lib.hid (fun w1 => by rw [hc4]; exact cmpI_any _ _ _)
  rw [← hc1, ← hc2, ← hc3, ← hc4] at HL
  obtain ⟨f, hf⟩ : ∃ f, f = fnz [c1, c2, c3, c4] := ⟨_, rfl⟩
  have HF := Lib.hid hf
  rw [← hf] at HL
  rw [← HL.out]
  have hE : w.grownBy ((w.alloc (.cells a.cells.toArray 35)).alloc (.cells b.cells.toArray 35)) none := only_alloc (only_alloc (only_refl _ _) _) _
  have HE := Lib.hid hE
  obtain ⟨W0, hW0⟩ : ∃ W0, W0 = (w.alloc (.cells a.cells.toArray 35)).alloc (.cells b.cells.toArray 35) := ⟨_, rfl⟩
  clear hE hc1 hc2 hc3 hc4 hf HL
  simp only [Ev.cells] at HE ⊢ hW0
  have HW0 := Lib.hid hW0
  have hs0 : W0.heap.size = w.heap.size + 2 := by rw [hW0]; simp
  have HS0 := Lib.hid hs0
  clear hW0 hs0
  go_enter Tryz.func25, Tryz.ntmps25
  go_wp2_with fail
  refine wp_region_still_tail 20 (by kernel_rfl) (by kernel_rfl) ?_
  change wpStill _ _ (World.drew _) (fun a' => wpList _ _ _ _ a' (World.drew _)) _ _
  simp only [List.take_succ_cons, List.take_zero, List.drop_succ_cons, List.drop_zero]
  repeat still_step
  still_call (K1.out _)
  repeat still_step
  still_call (K2.out _)
  repeat still_step
  still_call (K3.out _)
  repeat still_step
  still_call (K4.out _)
  refine wpStill_nil ?_
  go_wp2_with fail
  refine (orN_any (w.heap.size + 1 + 1) 4 [c1, c2, c3, c4] _ (blk_new3 _ _ _ _ _) (by simp)).mono ?_
  rintro e w' ⟨rfl, rfl⟩
  rw [← HF.out]
  go_wp2_with fail
  go_ret
  exact ⟨rfl, only_drew (only_alloc HE.out _)⟩
end Go.Proofs.YtfbkkbbpgipipaaGreatDoor

namespace Go.Proofs.YtfbkkbbpgipipaaGreatDoor
open Go.RowKit
set_option linter.unusedVariables false
set_option linter.unusedSimpArgs false

theorem srt_nodup {l : List ByteArray} (h : Srt l) : l.Nodup := List.Pairwise.imp (fun {a b} hab e => by rw [e, sl_irrefl] at hab; cases hab) h
theorem idx_size {g : Ev → List ByteArray} {es : List Ev} {w' : World} {b n : Nat} (h : SM w' b (b + 1) n (idxU g es es.length)) :
    ∃ ms clock, w'.heap[b]? = some (.map ms clock) ∧ ms.size = (dist (es.flatMap g)).length :=
  h.len (srt_nodup (dist_srt _)) (fun k => by rw [idxU_ne, List.take_length, dist_mem])
set_option maxHeartbeats 8000000 in
set_option maxRecDepth 100000 in
theorem scheck_any {S : Nat → Prop} (A : Option Addr) (es : List Ev) (c : Nat) (w : World) (hev : Evs S w A es) (hel : es.length ≤ 256) (ho : ∀ e ∈ es, EvO e) (ht : ∀ e ∈ es, (∀ l ∈ e.lines, l.text.size ≤ 100000) ∧ (textOf e.lines).size ≤ 400 ∧ ∀ f ∈ e.fields, f.name.size ≤ 1000) (hr : SrtE es)
    (hwl : (dist (es.flatMap wordsG)).length ≤ 32768) (hnl : (dist (es.flatMap namesG)).length ≤ 32768) (hK : Kinds w) :
    Calls Tryz.prog 16 #[.slice A es.length c] w (OkE w) := by
  have HEV := Lib.hid (hev.mono (S' := fun b => b < w.heap.size) (fun b _ h => h))
  have KC := Lib.hid (fun (e : Ev) (he : e ∈ es) (w' : World) (hg : w.grownBy w' none) => echeck_any e w' ((hev.2 e he).grown hg (by simp)) (ho e he) (hK.grown hg (by simp)))
  have KW := Lib.hid (fun (w' : World) (hg : w.grownBy w' none) => swords_idx A es c w' (hev.grown hg (by simp)) (by omega) (fun e he => ⟨by have := (ho e he).l1; omega, (ht e he).1, (ht e he).2.1⟩))
  have KN := Lib.hid (fun (w' : World) (hg : w.grownBy w' none) => snames_any A es c w' (hev.grown hg (by simp)) (by omega) (fun e he => ⟨by have := (ho e he).fl; omega, (ht e he).2.2⟩))
  have HLS : Hid (∀ (k : Nat) (x y : Ev), es[k]? = some x → es[k + 1]? = some y → x.less y = true) := Lib.hid (fun k x y hx hy => by
    obtain ⟨h1, h2⟩ := List.getElem?_eq_some_iff.1 hx
    obtain ⟨h3, h4⟩ := List.getElem?_eq_some_iff.1 hy
    have h5 := List.pairwise_iff_getElem.1 hr k (k + 1) h1 h3 (Nat.lt_succ_self k)
    rw [h2, h4] at h5
    exact h5)
  have n3 : ¬ (256 : Int) < (es.length : Int) := by omega
  clear hev ho ht hr hK
  go_enter Tryz.func16, Tryz.ntmps16
  go_wp2_with fail
  go_loopw [12] (fun vi wr => ∃ k : Nat, vi = .int .i64 k ∧ k ≤ es.length ∧ w.grownBy wr none) (fun vi _ => es.length - (intOf vi).toNat)
  case atStart => exact ⟨0, rfl, Nat.zero_le _, only_refl _ _⟩
  case round =>
    obtain ⟨k, rfl, hk, hG⟩ := hrel
    have G := Lib.hid hG
    clear hG
    by_cases hlt : k < es.length
    · obtain ⟨y, hy⟩ : ∃ y, es[k]? = some y := ⟨_, List.getElem?_eq_getElem hlt⟩
      obtain ⟨kb, ko, eE, hkw, z0, z1, z2, z3, z4, z5, z6, z7, z8, z9⟩ := ev_in (HEV.out.1.grown G.out (by simp)) hy
      subst eE
      have K1 : Hid (∀ W, w.grownBy W none → Calls Tryz.prog 24 #[.agg #[.int .i64 y.host, .int .i64 y.file, .int .i64 y.beg, .int .i64 y.fin, .slice y.la y.lines.length y.lc, .int .i64 y.time, .int .i64 y.weight, .string y.trace, .string y.stream, .slice y.fa y.fields.length y.fc]] W (OkE W)) := Lib.hid (fun W hg => KC.out y (List.mem_of_getElem? hy) W hg)
      have i1 : (k : Int) < (es.length : Int) := by omega
      have i2 : (0 : Int) ≤ (k : Int) := by omega
      clear hy
      go_wp2_with fail
      refine (K1.out _ (only_alloc G.out _)).mono ?_
      rintro en w2 ⟨rfl, hg2⟩
      have G2 := Lib.hid (only_trans (only_alloc G.out _) hg2)
      clear hg2 K1 z0 z1 z2 z3 z4 z5 z6 z7 z8 z9 G
      go_wp2_with fail
      go_roundw
      case rel => exact ⟨k + 1, by go_num, by omega, G2.out⟩
      case measure => simp [intOf]; omega
    · have i1 : ¬ (k : Int) < (es.length : Int) := by omega
      go_wp2_with fail
      obtain ⟨wo, rfl⟩ : ∃ wo : World, wo = wr := ⟨_, rfl⟩
      go_loopw [6] (fun vi wr => ∃ k : Nat, vi = .int .i64 ((k : Int) + 1) ∧ (k ≤ es.length) ∧ w.grownBy wr none) (fun vi _ => es.length + 2 - (intOf vi).toNat)
      case atStart => exact ⟨0, rfl, Nat.zero_le _, G.out⟩
      case round =>
        clear i1 hlt hk
        obtain ⟨k, rfl, hk, hG⟩ := hrel
        have G2 := Lib.hid hG
        clear hG
        by_cases hlt : k + 1 < es.length
        · obtain ⟨x, hx⟩ : ∃ x, es[k]? = some x := ⟨_, List.getElem?_eq_getElem (by omega)⟩
          obtain ⟨y, hy⟩ : ∃ y, es[k + 1]? = some y := ⟨_, List.getElem?_eq_getElem hlt⟩
          have hxy := HLS.out k x y hx hy
          obtain ⟨kb, ko, eE, hkw, z0, z1, z2, z3, z4, z5, z6, z7, z8, z9⟩ := ev_in (HEV.out.1.grown G2.out (by simp)) hx
          subst eE
          obtain ⟨kb', ko', eE, hkw', y0, y1, y2, y3, y4, y5, y6, y7, y8, y9⟩ := ev_in (HEV.out.1.grown G2.out (by simp)) hy
          injection eE with eE
          injection eE with e1 e2
          subst e1 e2
          have KL : Hid (∀ W, Calls Tryz.prog 25 #[.agg #[.int .i64 x.host, .int .i64 x.file, .int .i64 x.beg, .int .i64 x.fin, .slice x.la x.lines.length x.lc, .int .i64 x.time, .int .i64 x.weight, .string x.trace, .string x.stream, .slice x.fa x.fields.length x.fc], .agg #[.int .i64 y.host, .int .i64 y.file, .int .i64 y.beg, .int .i64 y.fin, .slice y.la y.lines.length y.lc, .int .i64 y.time, .int .i64 y.weight, .string y.trace, .string y.stream, .slice y.fa y.fields.length y.fc]] W (BoolExt true W)) := Lib.hid (fun W => by have := eless_any x y W; rw [hxy] at this; exact this)
          have i2 : (k : Int) + 1 < (es.length : Int) := by omega
          have i3 : (k : Int) < (es.length : Int) := by omega
          have i4 : (0 : Int) ≤ (k : Int) := by omega
          have hwk : IntKind.i64.wrap (k : Int) = (k : Int) := IntWalk.i64_in _ (by omega)
          clear hx hy hxy
          go_upto_region 13 with fail
          go_cut [38] (fun v wx => v = .bool false ∧ wr.grownBy wx none)
          case first =>
            go_region_with (go_at_call 25; refine (KL.out _).mono ?_; rintro en w2 ⟨rfl, hg2⟩)
            all_goals
              go_wp2_with fail
              go_meet
              exact ⟨rfl, only_trans (only_drew (only_refl _ _)) hg2⟩
          case rest =>
            obtain ⟨rfl, hgc⟩ := hcut
            have G3 := Lib.hid (only_trans G2.out hgc)
            clear hgc z0 z1 z2 z3 z4 z5 z6 z7 z8 z9 y0 y1 y2 y3 y4 y5 y6 y7 y8 y9 G2 KL
            go_wp2_with fail
            go_roundw
            case rel => exact ⟨k + 1, by go_num, by omega, G3.out⟩
            case measure => simp [intOf]; omega
        · have i2 : ¬ ((k : Int) + 1 < (es.length : Int)) := by omega
          go_wp2_with fail
          refine (KW.out wr G2.out).mono ?_
          rintro en w5 ⟨b, n, rfl, hbw, hSM, hg5⟩
          obtain ⟨ms, clock, hmb, hms⟩ := idx_size hSM
          have G5 := Lib.hid (only_trans G2.out hg5)
          have m1 : ¬ ((32768 : Int) < (ms.size : Int)) := by omega
          clear hSM hg5 hms
          have hlm := run_len_map (P := Tryz.prog) (w := w5) 60 3 b ms clock (by kernel_rfl) hmb
          go_wp2_with fail
          refine (KN.out w5 G5.out).mono ?_
          rintro en w6 ⟨b', n', rfl, hbw', hSM', hg6⟩
          obtain ⟨ms', clock', hmb', hms'⟩ := idx_size hSM'
          have G6 := Lib.hid (only_trans G5.out hg6)
          have m2 : ¬ ((32768 : Int) < (ms'.size : Int)) := by omega
          have hlm' := run_len_map (P := Tryz.prog) (w := w6) 60 3 b' ms' clock' (by kernel_rfl) hmb'
          clear hSM' hg6 hms' hmb hlm
          go_wp2_with fail
          go_ret
          exact ⟨rfl, G6.out⟩
end Go.Proofs.YtfbkkbbpgipipaaGreatDoor

namespace Go.Proofs.YtfbkkbbpgipipaaGreatDoor
open Go.RowKit
set_option linter.unusedVariables false
set_option linter.unusedSimpArgs false

def CloneEvPost (w : World) (n : Nat) (xs : List Value) (e : Ending) (w' : World) : Prop := ∃ A' c', e = .returned (.slice A' n c') ∧ w'.ownsRow w.heap.size 35 10 (.slice A' n c') n xs ∧ w.grownBy w' none
set_option maxHeartbeats 1000000 in
set_option maxRecDepth 100000 in
theorem cloneEv_any {S : Nat → Prop} (A : Option Addr) (n c : Nat) (xs : List Value) (w : World) (hr : Rd S w A xs) (hn : xs.length = n * 10) (hl : n ≤ 1000000) (h1 : ∀ u ∈ xs, u.oneCell' = true) (hA : A = none → n = 0) :
    Calls Tryz.prog 17 #[.slice A n c] w (CloneEvPost w n xs) := by
  have q22 : ∀ (w : World) (a : Option Addr) (n c n' c' : Nat), (binOp .eql 27 (.slice a n c) (.slice none n' c')).run Tryz.prog w = .ok (.bool a.isNone) w := fun w a n c n' c' => Lib.run_eql_slice_nil w _ _ a n c n' c' Tryz.underlying27
  have H1 := Lib.hid h1
  have HR := Lib.hid hr
  clear h1 hr
  cases A with
  | none =>
    obtain rfl := hA rfl
    obtain rfl : xs = [] := List.eq_nil_of_length_eq_zero (by omega)
    clear hA
    go_enter Tryz.func17, Tryz.ntmps17
    go_wp2_with fail
    go_ret
    exact ⟨none, 0, rfl, World.ownsRow_nil _ _ _ _, only_refl _ _⟩
  | some a =>
    clear hA
    go_enter Tryz.func17, Tryz.ntmps17
    go_wp2_with (at_builtin; refine wpList_appendN rfl _ _ 27 rfl w.heap.size Tryz.underlying27 eventInfo rfl (by decide) (v := .slice (some ⟨w.heap.size, 0, none⟩) 0 0) (by rfl) (World.ownsRow_made w #[] 0 (Nat.le_refl _) (Nat.zero_le _) (by simp)) (some a) n c (news := xs) (by rfl) (HR.out.alloc _) hn H1.out (by decide) (by omega) (by simp) ?_; intro v3 w3 hown3 hg3 hob3)
    have O3 : Hid (w3.ownsRow w.heap.size 35 10 v3 n xs) := Lib.hid (by simpa using hown3)
    have G3 : Hid (w.grownBy w3 none) := Lib.hid (only_fresh (only_alloc (only_refl _ _) _) (by simpa [Value.ownBlock] using hg3) (Nat.le_refl _))
    clear hown3 hg3 hob3
    obtain ⟨A3, c3, rfl, -, -, -, -⟩ := Rd.of_own O3.out (by decide)
    go_wp2_with fail
    go_ret
    exact ⟨A3, c3, rfl, O3.out, G3.out⟩
end Go.Proofs.YtfbkkbbpgipipaaGreatDoor

namespace Go.Proofs.YtfbkkbbpgipipaaGreatDoor
open Go.RowKit
set_option linter.unusedVariables false
set_option linter.unusedSimpArgs false

theorem evsInfo31 : (Tryz.prog.info? 27).map (fun i => (i.zero, i.size, i.bytes)) = some (some (.slice none 0 0), 1, 24) := by kernel_rfl
theorem rd_cut10 {S : Nat → Prop} {w : World} {b o n c : Nat} {rest : List Ev} (h : Rd S w (some ⟨b, o, none⟩) (rest.flatMap Ev.cells)) (hc : rest.length ≤ c) (hn : n ≤ rest.length) :
    Rd S w (if c = n then some ⟨b, o, none⟩ else some ⟨b, o + n * 10, none⟩) ((rest.drop n).flatMap Ev.cells) := by
  split
  · have : rest.drop n = [] := by rw [List.drop_eq_nil_iff]; omega
    rw [this]; exact Rd.nil
  · have h1 := h.drop (n * 10)
    have hadd : (⟨b, o, none⟩ : Addr).add (n * 10) = ⟨b, o + n * 10, none⟩ := by unfold Addr.add; split <;> simp_all
    rw [Option.map_some, hadd, ← flat_drop Ev.cells_len] at h1
    exact h1
set_option maxHeartbeats 4000000 in
set_option maxRecDepth 100000 in
theorem csplit_any {S : Nat → Prop} (A : Option Addr) (es : List Ev) (c : Nat) (w : World) (hr : Rd S w A (es.flatMap Ev.cells)) (hc : es.length ≤ c) (hcm : c ≤ maxLen) (hel : es.length ≤ 100000)
    (KCH : ∀ (p : List Ev) (A' : Option Addr) (c' : Nat) (W : World), p.Sublist es → 1 ≤ p.length → p.length ≤ 256 → w.grownBy W none → Rd (fun _ => True) W A' (p.flatMap Ev.cells) → Calls Tryz.prog 16 #[.slice A' p.length c'] W (OkE W)) :
    Calls Tryz.prog 8 #[.slice A es.length c] w (SplitP es w) := by
  have KH := Lib.hid KCH
  have HR := Lib.hid (hr.mono (S' := (· < w.heap.size)) (fun b _ h => h))
  unfold maxLen at hcm
  clear KCH hr
  go_enter Tryz.func8, Tryz.ntmps8
  go_wp2_with fail
  go_loopw [0, 3] (fun vl vo wr => ∃ (A' : Option Addr) (rest : List Ev) (c' : Nat) (ps : List Pc), vl = .slice A' rest.length c' ∧ rest.length ≤ c' ∧ c' ≤ c ∧ rest.length ≤ es.length ∧ rest.Sublist es ∧ Rd (· < w.heap.size) wr A' (rest.flatMap Ev.cells) ∧ ps.map Pc.evs ++ chunks rest = chunks es ∧ ps.length + rest.length ≤ es.length ∧ Pcs w vo ps wr) (fun vl _ _ => lenOf vl)
  case atStart => exact ⟨A, es, c, [], rfl, hc, Nat.le_refl _, Nat.le_refl _, List.Sublist.refl _, HR.out, by simp, by simp, Pcs.nil w⟩
  case round =>
    obtain ⟨A', rest, c', ps, rfl, hc1, hc2, hrl, hsub, hrd, heq, hpl, hP⟩ := hrel
    have P := Lib.hid hP
    have R := Lib.hid hrd
    have EQ := Lib.hid heq
    have SB := Lib.hid hsub
    clear hP hrd heq hsub HR
    by_cases h0 : rest = []
    · subst h0
      have i1 : ¬ ((0 : Int) < ((([] : List Ev).length : Nat) : Int)) := by simp
      obtain ⟨A9, c9, e9, hc9, hm9, -, -⟩ := Rd.of_own P.out.own (by decide)
      subst e9
      go_wp2_with fail
      go_ret
      exact ⟨A9, c9, ps, rfl, hc9, hm9, by have := EQ.out; simpa [chunks_nil] using this, P.out⟩
    · have hl0 : 0 < rest.length := List.length_pos_iff.2 h0
      have i1 : (0 : Int) < (rest.length : Int) := by omega
      obtain ⟨b, o, rfl, hbl, -, -⟩ := R.out (by rw [flat_len _ 10 Ev.cells_len]; omega)
      obtain ⟨n, hn⟩ : ∃ n, n = min rest.length 256 := ⟨_, rfl⟩
      have hn1 : 1 ≤ n := by omega
      have hn2 : n ≤ 256 := by omega
      have hn3 : n ≤ rest.length := by omega
      have hmn : min (rest.length : Int) 256 = (n : Int) := by omega
      have htk : rest.take n = rest.take 256 := by rw [hn]; rcases Nat.le_total rest.length 256 with h | h; (rw [Nat.min_eq_left h, List.take_length, List.take_of_length_le h]); rw [Nat.min_eq_right h]
      have hdk : rest.drop n = rest.drop 256 := by rw [hn]; rcases Nat.le_total rest.length 256 with h | h; (rw [Nat.min_eq_left h, List.drop_length, List.drop_of_length_le h]); rw [Nat.min_eq_right h]
      have HTK := Lib.hid htk
      have HDK := Lib.hid hdk
      have hlen : (rest.take n).length = n := by rw [List.length_take]; omega
      have KC : Hid (∀ W, wr.grownBy W none → Calls Tryz.prog 16 #[.slice (some ⟨b, o, none⟩) n c'] W (OkE W)) := Lib.hid (fun W hg => by
        have := KH.out (rest.take n) (some ⟨b, o, none⟩) c' W ((List.take_sublist _ _).trans SB.out) (by omega) (by omega) (only_trans P.out.fr hg) (by
          rw [flat_take Ev.cells_len]
          exact ((R.out.grown hg (by simp)).take (n * 10)).mono (fun _ _ _ => trivial))
        rwa [hlen] at this)
      have j1 : (0 : Int) ≤ (n : Int) := by omega
      have j2 : (n : Int) ≤ (c' : Int) := by omega
      have j3 : (n : Int) ≤ (rest.length : Int) := by omega
      have HLEN := Lib.hid hlen
      clear hn htk hdk hlen
      go_upto_region 3 with fail
      go_cut [4] (fun v wx => v = .int .i64 (n : Int) ∧ wx = wr)
      case first =>
        clear KC
        go_wp2_with fail
        all_goals go_meet
        all_goals exact ⟨by congr 1 <;> omega, rfl⟩
      case rest =>
        obtain ⟨rfl, hwc⟩ := hcut
        subst hwc
        clear hmn
        go_wp2_with fail
        go_loopw [4] (fun vn wr => vn = .int .i64 (n : Int) ∧ wc.grownBy wr none) (fun _ _ => 0)
        case atStart => exact ⟨rfl, only_refl _ _⟩
        case round =>
          obtain ⟨rfl, hG⟩ := hrel
          have G := Lib.hid hG
          clear hG
          by_cases h1 : 1 < n
          · have k1 : (1 : Int) < (n : Int) := by omega
            go_wp2_with fail
            refine (KC.out wr G.out).mono ?_
            rintro e w2 ⟨rfl, hg2⟩
            have G2 := Lib.hid (only_trans G.out hg2)
            clear hg2 G KC
            go_wp2_with fail
            have KL := Lib.hid (cloneEv_any (some ⟨b, o, none⟩) n c' ((rest.take n).flatMap Ev.cells) w2 (by rw [flat_take Ev.cells_len]; exact (R.out.grown G2.out (by simp)).take (n * 10)) (by rw [flat_len _ 10 Ev.cells_len, HLEN.out]) (by omega) (flat_one Ev.one _) (by simp))
            refine KL.out.mono ?_
            rintro e w3 ⟨A3, c3, rfl, ho3, hg3⟩
            have P3 := Lib.hid (P.out.grown (only_trans G2.out hg3))
            have HG3 := Lib.hid (only_trans G2.out hg3)
            obtain ⟨A4, c4, e4, hc4, hm4, -, hr4⟩ := Rd.of_own ho3 (by decide)
            injection e4 with e5 e6 e7
            subst e5 e7
            have hwz : wc.heap.size ≤ w2.heap.size := G2.out.size
            have R3 := Lib.hid hr4
            have hsz3 : w.heap.size ≤ w3.heap.size := P3.out.fr.size
            clear ho3 hg3 hr4 KL e6
            go_wp2_with (at_builtin; go_must (refine wpList_append1 rfl _ _ 36 rfl w.heap.size Tryz.underlying36 evsInfo31 rfl (by decide) (v := u3) (by rfl) (w0 := w3) (cs := #[.slice A3 n c3]) P3.out.own (by rfl) rfl (by simp [Value.oneCell']) (by decide) (by omega) (by omega) ?_); intro v8 w8 hown8 hg8 hob8; have P8 := Lib.hid (P.out.app (p := ⟨rest.take n, A3, c3⟩) HG3.out ⟨by rw [HLEN.out]; exact hc4, hm4, R3.out.mono (fun b hb _ => by have h0 : w2.heap.size ≤ b := hb; omega)⟩ (by simpa [Pc.cell, HLEN.out] using hown8) hg8 hob8); have HR8 := Lib.hid (((R.out.grown HG3.out (by simp)).mono (S' := fun b => b < w.heap.size) (fun b hb _ => hb)).grown hg8 (fun b hb e => by have := (P3.out.own.lt b e.symm).1; omega)); clear hown8 hg8 hob8)
            go_roundw
            case rel => exact ⟨_, rest.drop n, c' - n, ps ++ [⟨rest.take n, A3, c3⟩], by rw [List.length_drop], by rw [List.length_drop]; omega, by omega, by rw [List.length_drop]; omega, (List.drop_sublist _ _).trans SB.out, rd_cut10 HR8.out hc1 hn3, (by have h5 := EQ.out; rw [chunks_step h0] at h5; rw [HDK.out, List.map_append, List.append_assoc, ← h5, ← HTK.out]; rfl), by rw [List.length_drop]; simp; omega, P8.out⟩
            case measure => simp [lenOf]; omega
          · have k1 : ¬ ((1 : Int) < (n : Int)) := by omega
            clear KC
            go_wp2_with fail
            have KL := Lib.hid (cloneEv_any (some ⟨b, o, none⟩) n c' ((rest.take n).flatMap Ev.cells) wr (by rw [flat_take Ev.cells_len]; exact (R.out.grown G.out (by simp)).take (n * 10)) (by rw [flat_len _ 10 Ev.cells_len, HLEN.out]) (by omega) (flat_one Ev.one _) (by simp))
            refine KL.out.mono ?_
            rintro e w3 ⟨A3, c3, rfl, ho3, hg3⟩
            have P3 := Lib.hid (P.out.grown (only_trans G.out hg3))
            have HG3 := Lib.hid (only_trans G.out hg3)
            obtain ⟨A4, c4, e4, hc4, hm4, -, hr4⟩ := Rd.of_own ho3 (by decide)
            injection e4 with e5 e6 e7
            subst e5 e7
            have hwz : wc.heap.size ≤ wr.heap.size := G.out.size
            have R3 := Lib.hid hr4
            have hsz3 : w.heap.size ≤ w3.heap.size := P3.out.fr.size
            clear ho3 hg3 hr4 KL e6
            go_wp2_with (at_builtin; go_must (refine wpList_append1 rfl _ _ 36 rfl w.heap.size Tryz.underlying36 evsInfo31 rfl (by decide) (v := u3) (by rfl) (w0 := w3) (cs := #[.slice A3 n c3]) P3.out.own (by rfl) rfl (by simp [Value.oneCell']) (by decide) (by omega) (by omega) ?_); intro v8 w8 hown8 hg8 hob8; have P8 := Lib.hid (P.out.app (p := ⟨rest.take n, A3, c3⟩) HG3.out ⟨by rw [HLEN.out]; exact hc4, hm4, R3.out.mono (fun b hb _ => by have h0 : wr.heap.size ≤ b := hb; omega)⟩ (by simpa [Pc.cell, HLEN.out] using hown8) hg8 hob8); have HR8 := Lib.hid (((R.out.grown HG3.out (by simp)).mono (S' := fun b => b < w.heap.size) (fun b hb _ => hb)).grown hg8 (fun b hb e => by have := (P3.out.own.lt b e.symm).1; omega)); clear hown8 hg8 hob8)
            go_roundw
            case rel => exact ⟨_, rest.drop n, c' - n, ps ++ [⟨rest.take n, A3, c3⟩], by rw [List.length_drop], by rw [List.length_drop]; omega, by omega, by rw [List.length_drop]; omega, (List.drop_sublist _ _).trans SB.out, rd_cut10 HR8.out hc1 hn3, (by have h5 := EQ.out; rw [chunks_step h0] at h5; rw [HDK.out, List.map_append, List.append_assoc, ← h5, ← HTK.out]; rfl), by rw [List.length_drop]; simp; omega, P8.out⟩
            case measure => simp [lenOf]; omega
end Go.Proofs.YtfbkkbbpgipipaaGreatDoor

namespace Go.Proofs.YtfbkkbbpgipipaaGreatDoor
open Go.RowKit
set_option linter.unusedVariables false
set_option linter.unusedSimpArgs false

set_option maxHeartbeats 4000000 in
set_option maxRecDepth 100000 in
theorem rsplit_any {S : Nat → Prop} (A : Option Addr) (es : List Ev) (c : Nat) (w : World) (hr : Rd S w A (es.flatMap Ev.cells)) (hc : es.length ≤ c) (hcm : c ≤ maxLen) (hel : es.length ≤ 100000)
    (KCH : ∀ (p : List Ev) (A' : Option Addr) (c' : Nat) (W : World), p.Sublist es → 1 ≤ p.length → p.length ≤ 256 → w.grownBy W none → Rd (fun _ => True) W A' (p.flatMap Ev.cells) → Calls Tryz.prog 11 #[.slice A' p.length c'] W (OkE W)) :
    Calls Tryz.prog 9 #[.slice A es.length c] w (SplitP es w) := by
  have KH := Lib.hid KCH
  have HR := Lib.hid (hr.mono (S' := (· < w.heap.size)) (fun b _ h => h))
  unfold maxLen at hcm
  clear KCH hr
  go_enter Tryz.func9, Tryz.ntmps9
  go_wp2_with fail
  go_loopw [3, 4] (fun vo va wr => ∃ (k : Nat) (ps : List Pc), va = .int .i64 k ∧ k ≤ es.length ∧ ps.map Pc.evs ++ chunks (es.drop k) = chunks es ∧ ps.length ≤ k ∧ Pcs w vo ps wr) (fun _ va _ => es.length - (intOf va).toNat)
  case atStart => exact ⟨0, [], rfl, Nat.zero_le _, by simp, by simp, Pcs.nil w⟩
  case round =>
    obtain ⟨k, ps, rfl, hk, heq, hpl, hP⟩ := hrel
    have P := Lib.hid hP
    have R := Lib.hid (HR.out.grown hP.fr (by simp))
    have EQ := Lib.hid heq
    clear hP heq
    by_cases hlt : k < es.length
    · have i1 : (k : Int) < (es.length : Int) := by omega
      obtain ⟨b, o, rfl, hbl, -, -⟩ := R.out (by rw [flat_len _ 10 Ev.cells_len]; omega)
      obtain ⟨n, hn⟩ : ∃ n, n = min (es.length - k) 256 := ⟨_, rfl⟩
      have hn1 : 1 ≤ n := by omega
      have hn2 : n ≤ 256 := by omega
      have hn3 : k + n ≤ es.length := by omega
      have hdl : (es.drop k).length = es.length - k := List.length_drop
      have htk : (es.drop k).take n = (es.drop k).take 256 := by rw [hn, ← hdl]; rcases Nat.le_total (es.drop k).length 256 with h | h; (rw [Nat.min_eq_left h, List.take_length, List.take_of_length_le h]); rw [Nat.min_eq_right h]
      have hdk : (es.drop k).drop n = (es.drop k).drop 256 := by rw [hn, ← hdl]; rcases Nat.le_total (es.drop k).length 256 with h | h; (rw [Nat.min_eq_left h, List.drop_length, List.drop_of_length_le h]); rw [Nat.min_eq_right h]
      have HTK := Lib.hid htk
      have HDK := Lib.hid hdk
      have hlen : ((es.drop k).take n).length = n := by rw [List.length_take, hdl]; omega
      have hck : ¬ (c = k) := by omega
      have HS : Hid (∀ W, wr.grownBy W none → Rd (· < w.heap.size) W (some ⟨b, o + k * 10, none⟩) (((es.drop k).take n).flatMap Ev.cells)) := Lib.hid (fun W hg => by
        have h1 := rd_cut10 (R.out.grown hg (by simp)) hc (n := k) (by omega)
        rw [if_neg hck] at h1
        rw [flat_take Ev.cells_len]
        exact h1.take (n * 10))
      have KC : Hid (∀ W, wr.grownBy W none → Calls Tryz.prog 11 #[.slice (some ⟨b, o + k * 10, none⟩) n (c - k)] W (OkE W)) := Lib.hid (fun W hg => by
        have := KH.out ((es.drop k).take n) (some ⟨b, o + k * 10, none⟩) (c - k) W ((List.take_sublist _ _).trans (List.drop_sublist _ _)) (by omega) (by omega) (only_trans P.out.fr hg) ((HS.out W hg).mono (fun _ _ _ => trivial))
        rwa [hlen] at this)
      have j1 : (0 : Int) ≤ (n : Int) := by omega
      have j2 : (0 : Int) ≤ (k : Int) := by omega
      have j3 : (k : Int) + (n : Int) ≤ (es.length : Int) := by omega
      have j4 : (k : Int) + (n : Int) ≤ (c : Int) := by omega
      have hww : IntKind.i64.wrap ((k : Int) + (n : Int)) = ((k + n : Nat) : Int) := by rw [show (k : Int) + (n : Int) = ((k + n : Nat) : Int) by omega]; exact IntWalk.i64_in _ (by omega)
      have HLEN := Lib.hid hlen
      have hn4 : (n : Int) = min 256 ((es.length : Int) - (k : Int)) := by omega
      clear hn htk hdk hlen hdl
      go_upto_region 4 with fail
      go_cut [5] (fun v wx => v = .int .i64 (n : Int) ∧ wx = wr)
      case first =>
        clear KC HS
        go_wp2_with fail
        all_goals go_meet
        all_goals exact ⟨by congr 1 <;> omega, rfl⟩
      case rest =>
        obtain ⟨rfl, hwc⟩ := hcut
        subst hwc
        clear hn4
        go_wp2_with fail
        go_loopw [5] (fun vn wr => vn = .int .i64 (n : Int) ∧ wc.grownBy wr none) (fun _ _ => 0)
        case atStart => exact ⟨rfl, only_refl _ _⟩
        case round =>
          obtain ⟨rfl, hG⟩ := hrel
          have G := Lib.hid hG
          clear hG
          by_cases h1 : 1 < n
          · have k1 : (1 : Int) < (n : Int) := by omega
            go_wp2_with fail
            refine (KC.out wr G.out).mono ?_
            rintro e w2 ⟨rfl, hg2⟩
            have G2 := Lib.hid (only_trans G.out hg2)
            have hkn : k + n - k = n := by omega
            clear hg2 G KC
            have hwz : wc.heap.size ≤ w2.heap.size := G2.out.size
            have hwp : w.heap.size ≤ wc.heap.size := P.out.fr.size
            have R7 := Lib.hid (HS.out w2 G2.out)
            go_wp2_with (first
              | (at_builtin; have htok := hown7; go_must (refine wpList_append1 rfl _ _ 36 rfl w.heap.size Tryz.underlying36 evsInfo31 rfl (by decide) (v := u3) (by rfl) (w0 := w7) (cs := #[.slice A7 n c7]) P7.out.own (by rfl) rfl (by simp [Value.oneCell']) (by decide) (by omega) (by omega) ?_); intro v8 w8 hown8 hg8 hob8; have P8 := Lib.hid (P.out.app (p := ⟨(es.drop k).take n, A7, c7⟩) HG7.out ⟨by rw [HLEN.out]; exact hc7, hm7, R8.out.mono (fun b hb _ => by have h0 : w2.heap.size ≤ b := hb; omega)⟩ (by simpa [Pc.cell, HLEN.out] using hown8) hg8 hob8); clear hown8 hg8 hob8 hown7)
              | (at_builtin; go_must (refine wpList_appendN rfl _ _ 27 rfl w2.heap.size Tryz.underlying27 eventInfo rfl (by decide) (v := .slice none 0 0) (by rfl) (World.ownsRow_nil _ _ _ _) (some ⟨b, o + k * 10, none⟩) (k + n - k) (c - k) (by rfl) R7.out (by rw [flat_len _ 10 Ev.cells_len, HLEN.out, hkn]) (flat_one Ev.one _) (by decide) (by omega) (by omega) ?_); intro v7 w7 hown7 hg7 hob7; simp only [Nat.zero_add, List.nil_append, hkn] at hown7; obtain ⟨A7, c7, rfl, hc7, hm7, -, hr7⟩ := Rd.of_own hown7 (by decide); have hg7' : w2.grownBy w7 none := (by simpa [Value.ownBlock] using hg7); have R8 := Lib.hid hr7; have HG7 := Lib.hid (only_trans G2.out hg7'); have P7 := Lib.hid (P.out.grown HG7.out); have hsz7 : w.heap.size ≤ w7.heap.size := P7.out.fr.size; clear hg7 hg7' hob7 hr7))
            go_roundw
            case rel => exact ⟨k + n, ps ++ [⟨(es.drop k).take n, A7, c7⟩], by go_num, by omega, (by have h5 := EQ.out; rw [chunks_step (fun h => by have := congrArg List.length h; rw [List.length_drop] at this; simp at this; omega)] at h5; rw [← List.drop_drop, HDK.out, List.map_append, List.append_assoc, ← h5, ← HTK.out]; rfl), by simp; omega, P8.out⟩
            case measure => simp [intOf]; omega
          · have k1 : ¬ ((1 : Int) < (n : Int)) := by omega
            have hkn : k + n - k = n := by omega
            clear KC
            have hwz : wc.heap.size ≤ wr.heap.size := G.out.size
            have hwp : w.heap.size ≤ wc.heap.size := P.out.fr.size
            have R7 := Lib.hid (HS.out wr G.out)
            go_wp2_with (first
              | (at_builtin; have htok := hown7; go_must (refine wpList_append1 rfl _ _ 36 rfl w.heap.size Tryz.underlying36 evsInfo31 rfl (by decide) (v := u3) (by rfl) (w0 := w7) (cs := #[.slice A7 n c7]) P7.out.own (by rfl) rfl (by simp [Value.oneCell']) (by decide) (by omega) (by omega) ?_); intro v8 w8 hown8 hg8 hob8; have P8 := Lib.hid (P.out.app (p := ⟨(es.drop k).take n, A7, c7⟩) HG7.out ⟨by rw [HLEN.out]; exact hc7, hm7, R8.out.mono (fun b hb _ => by have h0 : wr.heap.size ≤ b := hb; omega)⟩ (by simpa [Pc.cell, HLEN.out] using hown8) hg8 hob8); clear hown8 hg8 hob8 hown7)
              | (at_builtin; go_must (refine wpList_appendN rfl _ _ 27 rfl wr.heap.size Tryz.underlying27 eventInfo rfl (by decide) (v := .slice none 0 0) (by rfl) (World.ownsRow_nil _ _ _ _) (some ⟨b, o + k * 10, none⟩) (k + n - k) (c - k) (by rfl) R7.out (by rw [flat_len _ 10 Ev.cells_len, HLEN.out, hkn]) (flat_one Ev.one _) (by decide) (by omega) (by omega) ?_); intro v7 w7 hown7 hg7 hob7; simp only [Nat.zero_add, List.nil_append, hkn] at hown7; obtain ⟨A7, c7, rfl, hc7, hm7, -, hr7⟩ := Rd.of_own hown7 (by decide); have hg7' : wr.grownBy w7 none := (by simpa [Value.ownBlock] using hg7); have R8 := Lib.hid hr7; have HG7 := Lib.hid (only_trans G.out hg7'); have P7 := Lib.hid (P.out.grown HG7.out); have hsz7 : w.heap.size ≤ w7.heap.size := P7.out.fr.size; clear hg7 hg7' hob7 hr7))
            go_roundw
            case rel => exact ⟨k + n, ps ++ [⟨(es.drop k).take n, A7, c7⟩], by go_num, by omega, (by have h5 := EQ.out; rw [chunks_step (fun h => by have := congrArg List.length h; rw [List.length_drop] at this; simp at this; omega)] at h5; rw [← List.drop_drop, HDK.out, List.map_append, List.append_assoc, ← h5, ← HTK.out]; rfl), by simp; omega, P8.out⟩
            case measure => simp [intOf]; omega
    · obtain rfl : k = es.length := by omega
      have i1 : ¬ ((es.length : Int) < (es.length : Int)) := by omega
      obtain ⟨A9, c9, e9, hc9, hm9, -, -⟩ := Rd.of_own P.out.own (by decide)
      subst e9
      go_wp2_with fail
      go_ret
      exact ⟨A9, c9, ps, rfl, hc9, hm9, by have := EQ.out; simpa [chunks_nil] using this, P.out⟩
end Go.Proofs.YtfbkkbbpgipipaaGreatDoor
