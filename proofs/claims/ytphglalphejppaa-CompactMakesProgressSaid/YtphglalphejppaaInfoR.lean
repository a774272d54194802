/- Info of the reference; the law of CompactInfo. No condition. -/
import Derived.Test.YtphglalphejppaaInfo
namespace Go.Proofs.Ytphglalphejppaa
open Go.RowKit
set_option linter.unusedVariables false
set_option linter.unusedSimpArgs false

theorem minT_le {l : List Ev} : ∀ e ∈ l, minT l ≤ e.time ∧ e.time ≤ maxT l := by
  cases l with
  | nil => simp
  | cons y ys =>
    have key : ∀ (zs : List Ev) (m M : Int), (zs.foldl (fun m x => min m x.time) m ≤ m ∧ M ≤ zs.foldl (fun m x => max m x.time) M) ∧ ∀ e ∈ zs, zs.foldl (fun m x => min m x.time) m ≤ e.time ∧ e.time ≤ zs.foldl (fun m x => max m x.time) M := by
      intro zs
      induction zs with
      | nil => intro m M; simp
      | cons z zs ih =>
        intro m M
        have h := ih (min m z.time) (max M z.time)
        simp only [List.foldl_cons]
        refine ⟨by omega, fun e he => ?_⟩
        rcases List.mem_cons.1 he with rfl | he
        · omega
        · exact h.2 e he
    intro e he
    have h := key ys y.time y.time
    rcases List.mem_cons.1 he with rfl | he
    · exact h.1
    · exact h.2 e he
set_option maxHeartbeats 4000000 in
set_option maxRecDepth 100000 in
theorem rinfo_any {S : Nat → Prop} (A : Option Addr) (es : List Ev) (c : Nat) (level tier size : Int) (w : World) (h : Rd S w A (es.flatMap Ev.cells)) (hl : es.length ≤ 100000) (hc : es.length ≤ c) (hcm : c ≤ maxLen) :
    Calls Try.prog 13 #[.slice A es.length c, .int .i64 level, .int .i64 tier, .int .i64 size] w (InfoPost w es level tier size) := by
  unfold maxLen at hcm
  have H := Lib.hid h
  clear h
  have HB0 : Hid (Blk ((w.alloc (.cells (siRow 0 0 0 0 0 0 0) 29)).alloc (.cells (siRow 0 level tier es.length 0 0 size) 29)) w.heap.size 29 (siRow 0 0 0 0 0 0 0)) := (Blk.new w _ _).alloc _
  have HB1 : Hid (Blk ((w.alloc (.cells (siRow 0 0 0 0 0 0 0) 29)).alloc (.cells (siRow 0 level tier es.length 0 0 size) 29)) (w.heap.size + 1) 29 (siRow 0 level tier es.length 0 0 size)) := by
    have := Blk.new (w.alloc (.cells (siRow 0 0 0 0 0 0 0) 29)) 29 (siRow 0 level tier es.length 0 0 size)
    rw [World.size_alloc] at this
    exact this
  obtain ⟨W, hW⟩ : ∃ W, W = (w.alloc (.cells (siRow 0 0 0 0 0 0 0) 29)).alloc (.cells (siRow 0 level tier es.length 0 0 size) 29) := ⟨_, rfl⟩
  have HG : Hid (w.grownBy W none) := hW ▸ only_alloc (only_alloc (only_refl _ _) _) _
  rw [← hW] at HB0 HB1
  have HW : Hid (W = (w.alloc (.cells #[.int .i64 0, .int .i64 0, .int .i64 0, .int .i64 0, .int .i64 0, .int .i64 0, .int .i64 0] 29)).alloc (.cells #[.int .i64 0, .int .i64 level, .int .i64 tier, .int .i64 es.length, .int .i64 0, .int .i64 0, .int .i64 size] 29)) := hW
  clear hW
  obtain ⟨r, hr⟩ : ∃ r, r = w.heap.size := ⟨_, rfl⟩
  go_enter Try.func13, Try.ntmps13
  go_wp2_with fail
  rw [← HW.out]
  rw [← hr] at HB0 HB1 ⊢
  have HR := Lib.hid hr
  clear hr HW
  go_loopw [10] (fun i wr => ∃ k : Nat, k ≤ es.length ∧ i = .int .i64 k ∧ Blk wr r 29 (siRow 0 0 0 0 0 0 0) ∧ Blk wr (r + 1) 29 (siRow 0 level tier es.length (minT (es.take k)) (maxT (es.take k)) size) ∧ w.grownBy wr none) (fun i _ => es.length - (intOf i).toNat)
  case atStart => exact ⟨0, Nat.zero_le _, rfl, HB0.out, HB1.out, HG.out⟩
  case round =>
    obtain ⟨k, hk, rfl, hB0, hB1, hG⟩ := hrel
    have G := Lib.hid hG
    have B0 := Lib.hid hB0
    have B1 := Lib.hid hB1
    have hlt := hB1.lt
    have c0 := hB1.cell 0
    have c1 := hB1.cell 1
    have c2 := hB1.cell 2
    have c3 := hB1.cell 3
    have c4 := hB1.cell 4
    have c5 := hB1.cell 5
    have c6 := hB1.cell 6
    have f4 := hB1.frozen 4
    have f5 := hB1.frozen 5
    simp [siRow] at c0 c1 c2 c3 c4 c5 c6
    clear hG hB0 hB1 HB0 HB1 HG
    by_cases hkl : k < es.length
    · obtain ⟨b, off, rfl, hSb, hbl, -⟩ := H.out (by rw [flat_len _ 10 Ev.cells_len]; omega)
      obtain ⟨y, hy⟩ : ∃ y, es[k] = y := ⟨_, rfl⟩
      obtain ⟨e0, e1, e2, e3, e4, e5, e6, e7, e8, e9⟩ := Evs.load10 (H.out.grown G.out (by simp)) hkl hy
      have hts : es.take (k + 1) = es.take k ++ [y] := by rw [← hy]; exact List.take_succ_eq_append_getElem hkl
      have HTS := Lib.hid hts
      have hkI : (k : Int) < (es.length : Int) := by omega
      have hkn : (0 : Int) ≤ (k : Int) := by omega
      have hne : b ≠ r + 1 := by have := HR.out; omega
      clear hts hy e0 e1 e2 e3 e4 e6 e7 e8 e9 c0 c1 c2 c3 c6
      by_cases hk0 : k = 0
      · subst hk0
        have HMN : Hid (minT (es.take (0 + 1)) = y.time) := by show _ = _; rw [HTS.out]; simp [minT]
        have HMX : Hid (maxT (es.take (0 + 1)) = y.time) := by show _ = _; rw [HTS.out]; simp [maxT]
        simp only [Nat.zero_mul, Nat.add_zero] at e5
        go_wp2_with fail
        go_quiet (fail)
        go_wp2_with fail
        go_quiet (fail)
        go_wp2_with fail
        have hf := (B1.out.set_ 4 (.int .i64 y.time)).set_ 5 (.int .i64 y.time)
        have h0 := (B0.out.grown (grown_setCell wr ⟨r + 1, 4, none⟩ (.int .i64 y.time)) (by simp)).grown (grown_setCell _ ⟨r + 1, 5, none⟩ (.int .i64 y.time)) (by simp)
        have hG9 := only_setNew (only_setNew G.out (p := ⟨r + 1, 4, none⟩) (by have := HR.out; simp; omega) (.int .i64 y.time)) (p := ⟨r + 1, 5, none⟩) (by have := HR.out; simp; omega) (.int .i64 y.time)
        simp [siRow] at hf
        go_roundw
        case rel => exact ⟨0 + 1, by omega, by go_num, h0, by rw [HMN.out, HMX.out]; exact hf, ⟨hG9.os, hG9.tape, hG9.output, hG9.size, hG9.block⟩⟩
        case measure => simp [intOf]; omega
      · have hb0 : ((k : Int) == 0) = false := by simp; omega
        have hkp : 0 < (es.take k).length := by simp; omega
        have HMN : Hid (minT (es.take (k + 1)) = min (minT (es.take k)) y.time) := by show _ = _; rw [HTS.out]; exact minT_snoc y hkp
        have HMX : Hid (maxT (es.take (k + 1)) = max (maxT (es.take k)) y.time) := by show _ = _; rw [HTS.out]; exact maxT_snoc y hkp
        clear hkp hk0
        generalize minT (es.take k) = mn at *
        generalize maxT (es.take k) = mx at *
        by_cases h1 : y.time < mn
        · have d1 : decide (y.time < mn) = true := by simp; omega
          by_cases h2 : mx < y.time
          · have d2 : decide (mx < y.time) = true := by simp; omega
            have M1 : Hid (min mn y.time = y.time) := by show _ = _; omega
            have M2 : Hid (max mx y.time = y.time) := by show _ = _; omega
            go_wp2_with fail
            go_quiet (fail)
            go_wp2_with fail
            go_quiet (fail)
            go_wp2_with fail
            have hf := (B1.out.set_ 4 (.int .i64 y.time)).set_ 5 (.int .i64 y.time)
            have h0 := (B0.out.grown (grown_setCell wr ⟨r + 1, 4, none⟩ (.int .i64 y.time)) (by simp)).grown (grown_setCell _ ⟨r + 1, 5, none⟩ (.int .i64 y.time)) (by simp)
            have hG9 := only_setNew (only_setNew G.out (p := ⟨r + 1, 4, none⟩) (by have := HR.out; simp; omega) (.int .i64 y.time)) (p := ⟨r + 1, 5, none⟩) (by have := HR.out; simp; omega) (.int .i64 y.time)
            simp [siRow] at hf
            go_roundw
            case rel => exact ⟨k + 1, by omega, by go_num, h0, by rw [HMN.out, HMX.out, M1.out, M2.out]; exact hf, ⟨hG9.os, hG9.tape, hG9.output, hG9.size, hG9.block⟩⟩
            case measure => simp [intOf]; omega
          · have d2 : decide (mx < y.time) = false := by simp; omega
            have M1 : Hid (min mn y.time = y.time) := by show _ = _; omega
            have M2 : Hid (max mx y.time = mx) := by show _ = _; omega
            go_wp2_with fail
            go_quiet (fail)
            go_wp2_with fail
            go_quiet (fail)
            go_wp2_with fail
            have hf := B1.out.set_ 4 (.int .i64 y.time)
            have h0 := B0.out.grown (grown_setCell wr ⟨r + 1, 4, none⟩ (.int .i64 y.time)) (by simp)
            have hG9 := only_setNew G.out (p := ⟨r + 1, 4, none⟩) (by have := HR.out; simp; omega) (.int .i64 y.time)
            simp [siRow] at hf
            go_roundw
            case rel => exact ⟨k + 1, by omega, by go_num, h0, by rw [HMN.out, HMX.out, M1.out, M2.out]; exact hf, ⟨hG9.os, hG9.tape, hG9.output, hG9.size, hG9.block⟩⟩
            case measure => simp [intOf]; omega
        · have d1 : decide (y.time < mn) = false := by simp; omega
          by_cases h2 : mx < y.time
          · have d2 : decide (mx < y.time) = true := by simp; omega
            have M1 : Hid (min mn y.time = mn) := by show _ = _; omega
            have M2 : Hid (max mx y.time = y.time) := by show _ = _; omega
            go_wp2_with fail
            go_quiet (fail)
            go_wp2_with fail
            go_quiet (fail)
            go_wp2_with fail
            have hf := B1.out.set_ 5 (.int .i64 y.time)
            have h0 := B0.out.grown (grown_setCell wr ⟨r + 1, 5, none⟩ (.int .i64 y.time)) (by simp)
            have hG9 := only_setNew G.out (p := ⟨r + 1, 5, none⟩) (by have := HR.out; simp; omega) (.int .i64 y.time)
            simp [siRow] at hf
            go_roundw
            case rel => exact ⟨k + 1, by omega, by go_num, h0, by rw [HMN.out, HMX.out, M1.out, M2.out]; exact hf, ⟨hG9.os, hG9.tape, hG9.output, hG9.size, hG9.block⟩⟩
            case measure => simp [intOf]; omega
          · have d2 : decide (mx < y.time) = false := by simp; omega
            have M1 : Hid (min mn y.time = mn) := by show _ = _; omega
            have M2 : Hid (max mx y.time = mx) := by show _ = _; omega
            go_wp2_with fail
            go_quiet (fail)
            go_wp2_with fail
            go_quiet (fail)
            go_wp2_with fail
            go_roundw
            case rel => exact ⟨k + 1, by omega, by go_num, B0.out, by rw [HMN.out, HMX.out, M1.out, M2.out]; exact B1.out, ⟨G.out.os, G.out.tape, G.out.output, G.out.size, G.out.block⟩⟩
            case measure => simp [intOf]; omega
    · obtain rfl : k = es.length := by omega
      have d0 := B0.out.cell 0
      have d1 := B0.out.cell 1
      have d2 := B0.out.cell 2
      have d3 := B0.out.cell 3
      have d4 := B0.out.cell 4
      have d5 := B0.out.cell 5
      have d6 := B0.out.cell 6
      have h0 := B0.out.frozen 0
      have h1 := B0.out.frozen 1
      have h2 := B0.out.frozen 2
      have h3 := B0.out.frozen 3
      have h4 := B0.out.frozen 4
      have h5 := B0.out.frozen 5
      have h6 := B0.out.frozen 6
      simp [siRow] at d0 d1 d2 d3 d4 d5 d6
      have hG2 := G.out
      rw [List.take_length] at c4 c5
      go_wp2_with fail
      have hb := ((((((B0.out.set_ 0 (.int .i64 0)).set_ 1 (.int .i64 level)).set_ 2 (.int .i64 tier)).set_ 3 (.int .i64 es.length)).set_ 4 (.int .i64 (minT es))).set_ 5 (.int .i64 (maxT es))).set_ 6 (.int .i64 size)
      have q0 := hb.cell 0; have q1 := hb.cell 1; have q2 := hb.cell 2; have q3 := hb.cell 3; have q4 := hb.cell 4; have q5 := hb.cell 5; have q6 := hb.cell 6
      simp [siRow] at q0 q1 q2 q3 q4 q5 q6
      exact bodyPost_ret (v := .agg (siRow 0 level tier es.length (minT es) (maxT es) size)) (by simp [results, Try.results13, go_sem, siRow, q0, q1, q2, q3, q4, q5, q6]) rfl ⟨rfl, only_setNew (only_setNew (only_setNew (only_setNew (only_setNew (only_setNew (only_setNew hG2 (by have := HR.out; simp; omega) _) (by have := HR.out; simp; omega) _) (by have := HR.out; simp; omega) _) (by have := HR.out; simp; omega) _) (by have := HR.out; simp; omega) _) (by have := HR.out; simp; omega) _) (by have := HR.out; simp; omega) _⟩
end Go.Proofs.Ytphglalphejppaa
