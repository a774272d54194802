/- Report of the reference of chapter 42 (printed by mkrrep.py). Condition: sizes. -/
import Derived.Test.YtiogpomgpknjlaaJRepA
import Derived.Test.YtiogpomgpknjlaaJTalM
import Derived.Test.YtiogpomgpknjlaaJTalR
import Derived.Test.YtiogpomgpknjlaaJGenC
import Derived.Deep.DeepCutAuto
namespace Go.Proofs.Ytiogpomgpknjlaa
open Go.RowKit
set_option linter.unusedVariables false
set_option linter.unusedSimpArgs false

theorem alloc_bal (ρ : Operand → Value) (w : World) {o : Oper} (ho : o.op = .alloc 85 := by rfl) : (execOp ρ o).run Try.prog w = .ok (.value (.pointer (some ⟨w.heap.size, 0, none⟩))) (w.alloc (.cells #[.int .i64 0, .int .i64 0, .int .i64 0, .int .i64 0, .int .i64 0, .int .i64 0, .int .i64 0] 85)) := by
  simp only [execOp, ho]
  kernel_rfl
theorem store_bal (w : World) (g : Nat) (a0 a1 a2 a3 a4 a5 a6 : Int) {t : TypeId} (h : Blk w g t #[.int .i64 0, .int .i64 0, .int .i64 0, .int .i64 0, .int .i64 0, .int .i64 0, .int .i64 0]) :
    ∃ w', (Instr.storeAt 85 (.pointer (some ⟨g, 0, none⟩)) (.agg #[.int .i64 a0, .int .i64 a1, .int .i64 a2, .int .i64 a3, .int .i64 a4, .int .i64 a5, .int .i64 a6])).run Try.prog w = .ok () w' ∧ Blk w' g t #[.int .i64 a0, .int .i64 a1, .int .i64 a2, .int .i64 a3, .int .i64 a4, .int .i64 a5, .int .i64 a6] ∧ w.grownBy w' (some g) := by
  have q0 := h.cell 0
  have q1 := h.cell 1
  have q2 := h.cell 2
  have q3 := h.cell 3
  have q4 := h.cell 4
  have q5 := h.cell 5
  have q6 := h.cell 6
  have p0 := h.frozen 0
  have p1 := h.frozen 1
  have p2 := h.frozen 2
  have p3 := h.frozen 3
  have p4 := h.frozen 4
  have p5 := h.frozen 5
  have p6 := h.frozen 6
  simp at q0 q1 q2 q3 q4 q5 q6
  have hu := Try.underlying85
  refine ⟨((((((w.setCell ⟨g, 0, none⟩ (.int .i64 a0)).setCell ⟨g, 1, none⟩ (.int .i64 a1)).setCell ⟨g, 2, none⟩ (.int .i64 a2)).setCell ⟨g, 3, none⟩ (.int .i64 a3)).setCell ⟨g, 4, none⟩ (.int .i64 a4)).setCell ⟨g, 5, none⟩ (.int .i64 a5)).setCell ⟨g, 6, none⟩ (.int .i64 a6), ?_, ?_, ?_⟩
  · simp [go_sem, q0, q1, q2, q3, q4, q5, q6, p0, p1, p2, p3, p4, p5, p6]
  · have := ((((((h.set_ 0 (.int .i64 a0)).set_ 1 (.int .i64 a1)).set_ 2 (.int .i64 a2)).set_ 3 (.int .i64 a3)).set_ 4 (.int .i64 a4)).set_ 5 (.int .i64 a5)).set_ 6 (.int .i64 a6)
    simpa using this
  · exact only_setCell (only_setCell (only_setCell (only_setCell (only_setCell (only_setCell (only_setCell (only_refl _ _) (p := ⟨g, 0, none⟩) (.inl rfl) _) (p := ⟨g, 1, none⟩) (.inl rfl) _) (p := ⟨g, 2, none⟩) (.inl rfl) _) (p := ⟨g, 3, none⟩) (.inl rfl) _) (p := ⟨g, 4, none⟩) (.inl rfl) _) (p := ⟨g, 5, none⟩) (.inl rfl) _) (p := ⟨g, 6, none⟩) (.inl rfl) _
theorem load_int42 (w : World) (b : Nat) {x y : Value} (hx : ∃ A n c, x = .slice A n c) (hy : ∃ A n c, y = .slice A n c) (hB : Blk w b 39 #[x, y]) :
    (Instr.loadAt 39 (.pointer (some ⟨b, 0, none⟩))).run Try.prog w = .ok (.agg #[x, y]) w := by
  obtain ⟨A, n, c, rfl⟩ := hx
  obtain ⟨A', n', c', rfl⟩ := hy
  have b0 := hB.cell 0
  have b1 := hB.cell 1
  simp at b0 b1
  have hu := Try.underlying39
  simp [go_sem, b0, b1]
/-- the hosts so far -/
def HRow (base : Nat) (L : List Int) (v : Value) (w : World) : Prop :=
  ∃ (A : Option Addr) (c : Nat), v = .slice A L.length c ∧ L.length ≤ c ∧ c ≤ maxLen ∧ (A = none → c = 0) ∧ Rd (base ≤ ·) w A (L.map (.int .i64))
theorem HRow.grown {base : Nat} {L : List Int} {v : Value} {w w' : World} (h : HRow base L v w) (hg : w.grownBy w' none) : HRow base L v w' := by
  obtain ⟨A, c, h1, h2, h3, h4, h5⟩ := h
  exact ⟨A, c, h1, h2, h3, h4, h5.grown hg (by simp)⟩
theorem host_row (base : Nat) (L : List Int) (h : Int) (w : World) (A : Option Addr) (c : Nat) (h2 : L.length ≤ c) (h3 : c ≤ maxLen) (h4 : A = none → c = 0) (h5 : Rd (base ≤ ·) w A (L.map (.int .i64))) (hb : base ≤ w.heap.size) (hl : L.length ≤ 100000) :
    Calls Try.prog 47 #[.slice A L.length c, .int .i64 h] w (fun e w' => ∃ v, e = .returned v ∧ HRow base (insH h L) v w' ∧ w.grownBy w' none) := by
  refine (host_any (S := (base ≤ ·)) A L c h w h5 (fun b hb' => Nat.le_trans hb hb') hl h2 h3 h4).mono ?_
  rintro e w' ⟨A', c', rfl, k2, k3, k4, k5, k6⟩
  exact ⟨_, rfl, ⟨A', c', rfl, k2, k3, k4, k5⟩, k6⟩
theorem tl0 : (⟨#[]⟩ : ByteArray).toList = [] := by rw [ByteArray.toList_eq]
theorem tl42 : (⟨#[42]⟩ : ByteArray).toList = [42] := by rw [ByteArray.toList_eq]
theorem p2_cnt {h : Int} {ss : List Tal} (hs : TSrt ss) : cntT h ⟨#[]⟩ ss = sumP p2 h ss := by
  rw [cnt_sum h _ hs]
  congr 1
  funext s
  rw [Bool.eq_iff_iff]
  unfold p2
  rw [decide_eq_true_iff, List.isEmpty_iff]
  constructor
  · rintro rfl; exact tl0
  · intro e; exact toList_inj (e.trans tl0.symm)
theorem p4_cnt {h : Int} {ss : List Tal} (hs : TSrt ss) : cntT h ⟨#[42]⟩ ss = sumP p4 h ss := by
  rw [cnt_sum h _ hs]
  congr 1
  funext s
  rw [Bool.eq_iff_iff]
  unfold p4
  rw [decide_eq_true_iff, beq_iff_eq]
  constructor
  · rintro rfl; exact tl42
  · intro e; exact toList_inj (e.trans tl42.symm)
theorem p1_sum (h : Int) (ss : List Tal) : sumT h ss = sumP p1 h ss + sumP p4 h ss := by
  rw [← sumP_true]
  exact sumP_split p1 p4 _ (fun s => by unfold p1 p4; cases s.toList == [42] <;> rfl) (fun s => by unfold p1 p4; cases s.toList == [42] <;> simp) h ss
theorem p3_sum (h : Int) (ss : List Tal) : sumP p1 h ss = sumP p3 h ss + sumP p2 h ss :=
  sumP_split p3 p2 p1 (fun s => by
    unfold p1 p2 p3
    cases he : s.toList.isEmpty
    · simp
    · have : s.toList = [] := List.isEmpty_iff.1 he
      rw [this]; rfl) (fun s => by unfold p2 p3; cases s.toList.isEmpty <;> simp) h ss
theorem hl_a {ss ts : List Tal} {es : List Ev} {k : Nat} {t : Tal} (h : ss[k]? = some t) : (hostL ss ts es)[0 + k]? = some t.host := by
  have hk := (List.getElem?_eq_some_iff.1 h).1
  unfold hostL
  rw [Nat.zero_add, List.append_assoc, List.getElem?_append_left (by simpa using hk), List.getElem?_map, h]; rfl
theorem hl_b {ss ts : List Tal} {es : List Ev} {k : Nat} {t : Tal} (h : ts[k]? = some t) : (hostL ss ts es)[ss.length + k]? = some t.host := by
  have hk := (List.getElem?_eq_some_iff.1 h).1
  unfold hostL
  rw [List.append_assoc, List.getElem?_append_right (by simp), List.length_map, Nat.add_sub_cancel_left, List.getElem?_append_left (by simpa using hk), List.getElem?_map, h]; rfl
theorem hl_c {ss ts : List Tal} {es : List Ev} {k : Nat} {t : Ev} (h : es[k]? = some t) : (hostL ss ts es)[ss.length + ts.length + k]? = some t.host := by
  unfold hostL
  rw [List.getElem?_append_right (by simp), List.length_append, List.length_map, List.length_map, Nat.add_sub_cancel_left, List.getElem?_map, h]; rfl
theorem hl_step {l : List Int} {n : Nat} {h : Int} (e : l[n]? = some h) : hosts (l.take (n + 1)) = insH h (hosts (l.take n)) := by
  obtain ⟨h1, h2⟩ := List.getElem?_eq_some_iff.1 e
  rw [List.take_succ_eq_append_getElem h1, hosts_snoc, h2]
set_option maxHeartbeats 8000000 in
set_option maxRecDepth 100000 in
theorem rreport_any {S S2 S3 : Nat → Prop} (Am : Option Addr) (nm cm : Nat) (A1 : Option Addr) (ss : List Tal) (c1 : Nat) (A2 : Option Addr) (ts : List Tal) (c2 : Nat) (A3 : Option Addr) (es : List Ev) (c3 : Nat) (w : World)
    (h1 : Rd S w A1 (ss.flatMap Tal.cells)) (h2 : Rd S2 w A2 (ts.flatMap Tal.cells)) (h3 : Rd S3 w A3 (es.flatMap Ev.cells)) (l1 : ss.length ≤ 1000) (l2 : ts.length ≤ 1000) (l3 : es.length ≤ 900) (hi1 : TIn 1000000 ss) (hi2 : TIn 1000000 ts) (hs : TSrt ss) (hg : ∀ e ∈ es, 1 ≤ e.lines.length ∧ e.lines.length ≤ 6) :
    Calls Try.prog 21 #[.agg #[.slice Am nm cm, .slice A1 ss.length c1], .slice A2 ts.length c2, .slice A3 es.length c3] w (BalPost w (balL ss ts es)) := by
  obtain ⟨xb, hxb⟩ : ∃ b, b = w.heap.size := ⟨_, rfl⟩
  obtain ⟨W1, hW1⟩ : ∃ W, W = w.alloc (.cells #[.slice Am nm cm, .slice A1 ss.length c1] 39) := ⟨_, rfl⟩
  have HB1 : Hid (Blk W1 xb 39 #[.slice Am nm cm, .slice A1 ss.length c1]) := Lib.hid (by rw [hW1, hxb]; exact Blk.new w _ _)
  have g1 : w.grownBy W1 none := by rw [hW1]; exact only_alloc (only_refl _ _) _
  have G1 := Lib.hid g1
  have hsz1 := g1.size
  have R1 := Lib.hid ((h1.mono (S' := (· < w.heap.size)) (fun b _ hlt => hlt)).grown g1 (by simp))
  have R2 := Lib.hid ((h2.mono (S' := (· < w.heap.size)) (fun b _ hlt => hlt)).grown g1 (by simp))
  have R3 := Lib.hid ((h3.mono (S' := (· < w.heap.size)) (fun b _ hlt => hlt)).grown g1 (by simp))
  have HI1 := Lib.hid hi1
  have HI2 := Lib.hid hi2
  have HG := Lib.hid hg
  have HSS := Lib.hid hs
  have HW1 := Lib.hid hW1.symm
  have HXE := Lib.hid hxb.symm
  clear h1 h2 h3 hi1 hi2 hg hs hW1 hxb g1
  go_enter Try.func21, Try.ntmps21
  go_upto_region 1 with fail
  rw [HW1.out, HXE.out]
  clear HW1 HXE
  go_wp2_with fail
  refine (linr_any A3 es c3 W1 R3.out (by omega) HG.out).mono ?_
  rintro e w2 ⟨A4, c4, rfl, hc4, hm4, hr4, hg4⟩
  have hlv := (linT_ok es HG.out es.length (Nat.le_refl _))
  rw [List.take_length] at hlv
  have hll : (linT es).length ≤ 900 := by have := hlv.2.2; omega
  have HLI : Hid (TIn 1000000 (linT es)) := Lib.hid (fun t ht => by have := hlv.2.1 t ht; omega)
  obtain ⟨lv, hlvd⟩ : ∃ lv, lv = linT es := ⟨_, rfl⟩
  have HLV := Lib.hid hlvd
  rw [← hlvd] at hll HLI hr4 hc4 ⊢
  have G2 := Lib.hid hg4
  have R4 := Lib.hid hr4
  have hsz2 := hg4.size
  clear hlv hlvd hg4 hr4
  go_wp2_with fail
  obtain ⟨LT, hLT⟩ : ∃ LT, LT = hostL ss ts es := ⟨_, rfl⟩
  have hLTl : LT.length ≤ 2900 := by rw [hLT]; unfold hostL; simp; omega
  have HLT := Lib.hid hLT
  clear hLT
  go_loopw [8, 9] (fun v i wr => ∃ k : Nat, k ≤ ss.length ∧ i = .int .i64 k ∧ HRow w.heap.size (hosts (LT.take (0 + k))) v wr ∧ w2.grownBy wr none) (fun _ i _ => ss.length - (intOf i).toNat)
  case atStart => exact ⟨0, Nat.zero_le _, rfl, ⟨none, 0, rfl, Nat.le_refl _, by unfold maxLen; omega, fun _ => rfl, Rd.nil⟩, only_refl _ _⟩
  case round =>
    obtain ⟨k, hk, rfl, ⟨A, c, rfl, j2, j3, j4, j5⟩, hG⟩ := hrel
    have G := Lib.hid hG
    have hsz := hG.size
    have J3 := Lib.hid j3
    have J4 := Lib.hid j4
    have J5 := Lib.hid j5
    obtain ⟨L, hL⟩ : ∃ L, L = hosts (LT.take (0 + k)) := ⟨_, rfl⟩
    have hlen : L.length ≤ 3000 := by have h1 := hosts_len (LT.take (0 + k)); rw [hL]; rw [List.length_take] at h1; omega
    rw [← hL] at j2 J5 ⊢
    have HL := Lib.hid hL
    clear hG j3 j4 j5 hL
    have x1 := (HB1.out.grown (only_trans G2.out G.out) (by simp)).cell 1
    simp at x1
    by_cases hlt : k < ss.length
    · obtain ⟨t, ht⟩ : ∃ t, ss[k]? = some t := ⟨_, List.getElem?_eq_getElem hlt⟩
      obtain ⟨b, o, rfl, y0, y1, y2⟩ := (R1.out.grown (only_trans G2.out G.out) (by simp)).tal ht
      have HT : Hid (hosts (LT.take (0 + (k + 1))) = insH t.host L) := Lib.hid (by rw [HL.out]; exact hl_step (by rw [HLT.out]; exact hl_a ht))
      have i1 : (k : Int) < (ss.length : Int) := by omega
      clear ht
      go_wp2_with fail
      refine (host_row w.heap.size L t.host _ A c j2 J3.out J4.out J5.out (by omega) (by omega)).mono ?_
      rintro e w3 ⟨v3, rfl, hr3, hg3⟩
      have R3' := Lib.hid hr3
      have G3 := Lib.hid (only_trans G.out hg3)
      clear hr3 hg3 x1 y0 y1 y2
      go_wp2_with fail
      go_roundw
      case rel => exact ⟨k + 1, by omega, by go_num, by rw [HT.out]; exact R3'.out, G3.out⟩
      case measure => simp [intOf]; omega
    · have HK : Hid (k = ss.length) := Lib.hid (by omega)
      have E1 : Hid (HRow w.heap.size (hosts (LT.take (0 + ss.length))) (.slice A L.length c) wr) := Lib.hid (by
        have e : hosts (LT.take (0 + ss.length)) = L := by rw [HL.out, ← HK.out]
        rw [e]; exact ⟨A, c, rfl, j2, J3.out, J4.out, J5.out⟩)
      have EL : Hid (L = hosts (LT.take (0 + ss.length))) := Lib.hid (by rw [HL.out, ← HK.out])
      go_wp2_with fail
      clear HL x1 J5 J4 J3 j2 HK EL
      go_loopw [8, 10] (fun v i wr => ∃ k : Nat, k ≤ ts.length ∧ i = .int .i64 k ∧ HRow w.heap.size (hosts (LT.take (ss.length + k))) v wr ∧ w2.grownBy wr none) (fun _ i _ => ts.length - (intOf i).toNat)
      case atStart => exact ⟨0, Nat.zero_le _, rfl, by simpa using E1.out, G.out⟩
      case round =>
        obtain ⟨k, hk, rfl, ⟨A, c, rfl, j2, j3, j4, j5⟩, hG⟩ := hrel
        have G := Lib.hid hG
        have hsz := hG.size
        have J3 := Lib.hid j3
        have J4 := Lib.hid j4
        have J5 := Lib.hid j5
        obtain ⟨L, hL⟩ : ∃ L, L = hosts (LT.take (ss.length + k)) := ⟨_, rfl⟩
        have hlen : L.length ≤ 3000 := by have h1 := hosts_len (LT.take (ss.length + k)); rw [hL]; rw [List.length_take] at h1; omega
        rw [← hL] at j2 J5 ⊢
        have HL := Lib.hid hL
        clear hG j3 j4 j5 hL
        have x1 := (HB1.out.grown (only_trans G2.out G.out) (by simp)).cell 1
        simp at x1
        by_cases hlt : k < ts.length
        · obtain ⟨t, ht⟩ : ∃ t, ts[k]? = some t := ⟨_, List.getElem?_eq_getElem hlt⟩
          obtain ⟨b, o, rfl, y0, y1, y2⟩ := (R2.out.grown (only_trans G2.out G.out) (by simp)).tal ht
          have HT : Hid (hosts (LT.take (ss.length + (k + 1))) = insH t.host L) := Lib.hid (by rw [HL.out]; exact hl_step (by rw [HLT.out]; exact hl_b ht))
          have i1 : (k : Int) < (ts.length : Int) := by omega
          clear ht
          go_wp2_with fail
          refine (host_row w.heap.size L t.host _ A c j2 J3.out J4.out J5.out (by omega) (by omega)).mono ?_
          rintro e w3 ⟨v3, rfl, hr3, hg3⟩
          have R3' := Lib.hid hr3
          have G3 := Lib.hid (only_trans G.out hg3)
          clear hr3 hg3 x1 y0 y1 y2
          go_wp2_with fail
          go_roundw
          case rel => exact ⟨k + 1, by omega, by go_num, by rw [HT.out]; exact R3'.out, G3.out⟩
          case measure => simp [intOf]; omega
        · have HK : Hid (k = ts.length) := Lib.hid (by omega)
          have E1 : Hid (HRow w.heap.size (hosts (LT.take (ss.length + ts.length))) (.slice A L.length c) wr) := Lib.hid (by
            have e : hosts (LT.take (ss.length + ts.length)) = L := by rw [HL.out, ← HK.out]
            rw [e]; exact ⟨A, c, rfl, j2, J3.out, J4.out, J5.out⟩)
          have EL : Hid (L = hosts (LT.take (ss.length + ts.length))) := Lib.hid (by rw [HL.out, ← HK.out])
          go_wp2_with fail
          clear HL x1 J5 J4 J3 j2 HK EL
          go_loopw [8, 11] (fun v i wr => ∃ k : Nat, k ≤ es.length ∧ i = .int .i64 k ∧ HRow w.heap.size (hosts (LT.take (ss.length + ts.length + k))) v wr ∧ w2.grownBy wr none) (fun _ i _ => es.length - (intOf i).toNat)
          case atStart => exact ⟨0, Nat.zero_le _, rfl, E1.out, G.out⟩
          case round =>
            obtain ⟨k, hk, rfl, ⟨A, c, rfl, j2, j3, j4, j5⟩, hG⟩ := hrel
            have G := Lib.hid hG
            have hsz := hG.size
            have J3 := Lib.hid j3
            have J4 := Lib.hid j4
            have J5 := Lib.hid j5
            obtain ⟨L, hL⟩ : ∃ L, L = hosts (LT.take (ss.length + ts.length + k)) := ⟨_, rfl⟩
            have hlen : L.length ≤ 3000 := by have h1 := hosts_len (LT.take (ss.length + ts.length + k)); rw [hL]; rw [List.length_take] at h1; omega
            rw [← hL] at j2 J5 ⊢
            have HL := Lib.hid hL
            clear hG j3 j4 j5 hL
            have x1 := (HB1.out.grown (only_trans G2.out G.out) (by simp)).cell 1
            simp at x1
            by_cases hlt : k < es.length
            · obtain ⟨t, ht⟩ : ∃ t, es[k]? = some t := ⟨_, List.getElem?_eq_getElem hlt⟩
              have hr3 := R3.out.grown (only_trans G2.out G.out) (by simp)
              obtain ⟨b, o, rfl, -, -, -⟩ := hr3 (by rw [flat_len _ 10 Ev.cells_len]; omega)
              have y0 : wr.cell? ⟨b, o + k * 10, none⟩ = some (.int .i64 t.host) := hr3.flatAt Ev.cells_len ht 0 (by omega)
              have HT : Hid (hosts (LT.take (ss.length + ts.length + (k + 1))) = insH t.host L) := Lib.hid (by rw [HL.out]; exact hl_step (by rw [HLT.out]; exact hl_c ht))
              clear hr3
              have i1 : (k : Int) < (es.length : Int) := by omega
              clear ht
              go_wp2_with fail
              refine (host_row w.heap.size L t.host _ A c j2 J3.out J4.out J5.out (by omega) (by omega)).mono ?_
              rintro e w3 ⟨v3, rfl, hr3, hg3⟩
              have R3' := Lib.hid hr3
              have G3 := Lib.hid (only_trans G.out hg3)
              clear hr3 hg3 x1 y0
              go_wp2_with fail
              go_roundw
              case rel => exact ⟨k + 1, by omega, by go_num, by rw [HT.out]; exact R3'.out, G3.out⟩
              case measure => simp [intOf]; omega
            · have HK : Hid (k = es.length) := Lib.hid (by omega)
              have E1 : Hid (HRow w.heap.size (hosts (LT.take (ss.length + ts.length + es.length))) (.slice A L.length c) wr) := Lib.hid (by
                have e : hosts (LT.take (ss.length + ts.length + es.length)) = L := by rw [HL.out, ← HK.out]
                rw [e]; exact ⟨A, c, rfl, j2, J3.out, J4.out, J5.out⟩)
              have EL : Hid (L = hosts (LT.take (ss.length + ts.length + es.length))) := Lib.hid (by rw [HL.out, ← HK.out])
              go_wp2_with fail
              clear HL x1 J5 J4 J3 j2 HK
              have HH : Hid (L = hosts (hostL ss ts es)) := Lib.hid (by rw [EL.out, HLT.out, List.take_of_length_le (by unfold hostL; simp; omega)])
              obtain ⟨Ah, ch, ea, j2, j3, j4, j5⟩ := E1.out
              rw [← EL.out] at ea j2 j5
              injection ea with ea1 ea2 ea3
              subst ea1 ea3
              have RH := Lib.hid j5
              clear E1 EL j3 j4 j5
              obtain ⟨Wb, rfl⟩ : ∃ W0 : World, W0 = wr := ⟨_, rfl⟩
              go_loopw [12, 13] (fun v i wx => ∃ m : Nat, m ≤ L.length ∧ i = .int .i64 m ∧ wx.ownsRow Wb.heap.size 85 7 v m (((L.take m).map (balOf ss ts lv)).flatMap BalD.cells) ∧ Wb.grownBy wx none) (fun _ i _ => L.length - (intOf i).toNat)
              case atStart => exact ⟨0, Nat.zero_le _, rfl, World.ownsRow_nil _ _ _ _, only_refl _ _⟩
              case round =>
                obtain ⟨m, hm, rfl, hO, hGx⟩ := hrel
                obtain ⟨Ab, cb, rfl, hcb, hmb, -, hrb⟩ := Rd.of_own hO (by decide)
                have OX := Lib.hid hO
                have GX := Lib.hid hGx
                have RB := Lib.hid hrb
                have hszx := hGx.size
                clear hO hGx hrb
                by_cases hlt2 : m < L.length
                · obtain ⟨h, hh⟩ : ∃ h, L[m]? = some h := ⟨_, List.getElem?_eq_getElem hlt2⟩
                  obtain ⟨bh, oh, rfl, -, -, -⟩ := RH.out (by simp; omega)
                  obtain ⟨W0, rfl⟩ : ∃ W0 : World, W0 = wr := ⟨_, rfl⟩
                  have CHW : Hid (∀ W, Wb.grownBy W none → W.cell? ⟨bh, oh + m, none⟩ = some (.int .i64 h)) := Lib.hid (fun W hW => by
                    obtain ⟨b', o', e', -, -, hc'⟩ := (RH.out.grown hW (by simp)) (by simp; omega)
                    injection e' with e'
                    injection e' with e1' e2'
                    subst e1' e2'
                    exact hc' m _ (by rw [List.getElem?_map, hh]; rfl))
                  have HT : Hid ((((L.take (m + 1)).map (balOf ss ts lv)).flatMap BalD.cells) = ((L.take m).map (balOf ss ts lv)).flatMap BalD.cells ++ (balOf ss ts lv h).cells) := Lib.hid (by
                    rw [List.take_succ_eq_append_getElem hlt2]
                    rw [List.getElem?_eq_getElem hlt2] at hh
                    injection hh with hh
                    rw [hh]; simp)
                  have GWb := Lib.hid (only_trans G2.out G.out)
                  have RS : Hid (∀ W, Wb.grownBy W none → Calls Try.prog 14 #[.slice A1 ss.length c1, .int .i64 h] W (SumPost W (sumT h ss))) := Lib.hid (fun W hW => rsum_any A1 ss c1 h W (R1.out.grown (only_trans GWb.out hW) (by simp)) (by omega) HI1.out)
                  have RT2 : Hid (∀ W, Wb.grownBy W none → Calls Try.prog 14 #[.slice A2 ts.length c2, .int .i64 h] W (SumPost W (sumT h ts))) := Lib.hid (fun W hW => rsum_any A2 ts c2 h W (R2.out.grown (only_trans GWb.out hW) (by simp)) (by omega) HI2.out)
                  have RL : Hid (∀ W, Wb.grownBy W none → Calls Try.prog 14 #[.slice A4 lv.length c4, .int .i64 h] W (SumPost W (sumT h lv))) := Lib.hid (fun W hW => rsum_any A4 lv c4 h W (R4.out.grown (only_trans G.out hW) (by simp)) (by omega) HLI.out)
                  have RC : Hid (∀ (r : ByteArray) (W : World), Wb.grownBy W none → Calls Try.prog 48 #[.agg #[.slice Am nm cm, .slice A1 ss.length c1], .int .i64 h, .string r] W (SumPost W (cntT h r ss))) := Lib.hid (fun r W hW => count_any Am nm cm A1 ss c1 h r W (R1.out.grown (only_trans GWb.out hW) (by simp)) (by omega))
                  have CH : Hid (∀ W, W0.grownBy W none → W.cell? ⟨bh, oh + m, none⟩ = some (.int .i64 h)) := Lib.hid (fun W hW => CHW.out W (only_trans GX.out hW))
                  have KA := Lib.hid (fun (W : World) (hW : W0.grownBy W none) => RL.out W (only_trans GX.out hW))
                  have KB := Lib.hid (fun (W : World) (hW : W0.grownBy W none) => RT2.out W (only_trans GX.out hW))
                  have i1 : (m : Int) < (L.length : Int) := by omega
                  clear hh
                  go_wp2_with fail
                  refine wp_region_gen 19 (JC [some (.slice (some ⟨bh, oh, none⟩) (L.length) (c)), some (.int .i64 ((m : Int))), some (.pointer (some ⟨bh, oh + m, none⟩)), some (.int .i64 (h)), some (.slice A4 lv.length c4), some (.slice (some ⟨bh, oh, none⟩) (L.length) (c)), some (.int .i64 ((m : Int))), some (.pointer (some ⟨bh, oh + m, none⟩)), some (.int .i64 (h)), some (.int .i64 (sumT h lv)), some (.slice A2 ts.length c2), some (.slice (some ⟨bh, oh, none⟩) (L.length) (c)), some (.int .i64 ((m : Int))), some (.pointer (some ⟨bh, oh + m, none⟩)), some (.int .i64 (h)), some (.int .i64 (sumT h ts)), some (.agg #[.int .i64 (h), .int .i64 (0), .int .i64 (0), .int .i64 (0), .int .i64 (0), .int .i64 (sumT h lv), .int .i64 (sumT h ts)]), none, none] (fun D u wx => W0.grownBy wx none ∧ (D 17 = true → ∃ gb, u 17 = .pointer (some ⟨gb, 0, none⟩) ∧ W0.heap.size ≤ gb ∧ Blk wx gb 85 (if D 18 = true then #[.int .i64 (h), .int .i64 (0), .int .i64 (0), .int .i64 (0), .int .i64 (0), .int .i64 (sumT h lv), .int .i64 (sumT h ts)] else #[.int .i64 0, .int .i64 0, .int .i64 0, .int .i64 0, .int .i64 0, .int .i64 0, .int .i64 0])) ∧ (D 18 = true → D 17 = true))) (by kernel_rfl) (by kernel_rfl) ?_ ?_ ?_
                  · intro u
                    exact ⟨(fun j c _ h => by cases h), ⟨only_drew (only_refl _ _), (fun h => by cases h), fun h => by cases h⟩⟩
                  · intro AA hA
                    have hasz : AA.tmps.size = 117 := by rw [hA]; kernel_rfl
                    have ea8 : AA.eval (.tmp 8) = .slice (some ⟨bh, oh, none⟩) (L.length) (c) := by rw [hA]; kernel_rfl
                    have ea13 : AA.eval (.tmp 13) = .int .i64 ((m : Int)) := by rw [hA]; kernel_rfl
                    have ea7 : AA.eval (.tmp 7) = .slice A4 lv.length c4 := by rw [hA]; kernel_rfl
                    have ea1 : AA.eval (.tmp 1) = .slice A2 ts.length c2 := by rw [hA]; kernel_rfl
                    clear hA
                    simp only [List.take_succ_cons, List.take_zero]
                    refine .cons ?_ (.cons ?_ (.cons ?_ (.cons ?_ (.cons ?_ (.cons ?_ (.cons ?_ (.cons ?_ (.cons ?_ (.cons ?_ (.cons ?_ (.cons ?_ (.cons ?_ (.cons ?_ (.cons ?_ (.cons ?_ (.cons ?_ (.cons ?_ (.cons ?_ (.nil)))))))))))))))))))
                    · exact gd_gen (by kernel_rfl) (Want.none_ rfl) rfl (fun D u w v h => by simpa [updB, upd] using h) (fun D u ρ w kn => by
                        have e0 := kn.own 8 (c := .slice (some ⟨bh, oh, none⟩) (L.length) (c)) (by kernel_rfl) ea8
                        simp [execOp, kn.rho.con, e0, go_sem])
                    · exact gd_gen (by kernel_rfl) (Want.none_ rfl) rfl (fun D u w v h => by simpa [updB, upd] using h) (fun D u ρ w kn => by
                        have e0 := kn.own 13 (c := .int .i64 ((m : Int))) (by kernel_rfl) ea13
                        simp [execOp, kn.rho.con, e0, go_sem])
                    · exact gd_gen (by kernel_rfl) (Want.none_ rfl) rfl (fun D u w v h => by simpa [updB, upd] using h) (fun D u ρ w kn => by
                        have e0 := kn.con 0 64 (c := .slice (some ⟨bh, oh, none⟩) (L.length) (c)) (by kernel_rfl) (by omega) (by kernel_rfl) rfl
                        have e1 := kn.con 1 65 (c := .int .i64 ((m : Int))) (by kernel_rfl) (by omega) (by kernel_rfl) rfl
                        simp [execOp, kn.rho.con, e0, e1, go_sem, i1])
                    · exact gd_gen (by kernel_rfl) (Want.none_ rfl) rfl (fun D u w v h => by simpa [updB, upd] using h) (fun D u ρ w kn => by
                        have e0 := kn.con 2 66 (c := .pointer (some ⟨bh, oh + m, none⟩)) (by kernel_rfl) (by omega) (by kernel_rfl) rfl
                        have f0 := (show w.cell? ⟨bh, oh + m, none⟩ = some (.int .i64 h) from CH.out w kn.ext.1)
                        simp [execOp, kn.rho.con, e0, f0, go_sem])
                    · exact gd_gen (by kernel_rfl) (Want.none_ rfl) rfl (fun D u w v h => by simpa [updB, upd] using h) (fun D u ρ w kn => by
                        have e0 := kn.own 7 (c := .slice A4 lv.length c4) (by kernel_rfl) ea7
                        simp [execOp, kn.rho.con, e0, go_sem])
                    · exact gd_gen (by kernel_rfl) (Want.none_ rfl) rfl (fun D u w v h => by simpa [updB, upd] using h) (fun D u ρ w kn => by
                        have e0 := kn.own 8 (c := .slice (some ⟨bh, oh, none⟩) (L.length) (c)) (by kernel_rfl) ea8
                        simp [execOp, kn.rho.con, e0, go_sem])
                    · exact gd_gen (by kernel_rfl) (Want.none_ rfl) rfl (fun D u w v h => by simpa [updB, upd] using h) (fun D u ρ w kn => by
                        have e0 := kn.own 13 (c := .int .i64 ((m : Int))) (by kernel_rfl) ea13
                        simp [execOp, kn.rho.con, e0, go_sem])
                    · exact gd_gen (by kernel_rfl) (Want.none_ rfl) rfl (fun D u w v h => by simpa [updB, upd] using h) (fun D u ρ w kn => by
                        have e0 := kn.con 5 69 (c := .slice (some ⟨bh, oh, none⟩) (L.length) (c)) (by kernel_rfl) (by omega) (by kernel_rfl) rfl
                        have e1 := kn.con 6 70 (c := .int .i64 ((m : Int))) (by kernel_rfl) (by omega) (by kernel_rfl) rfl
                        simp [execOp, kn.rho.con, e0, e1, go_sem, i1])
                    · exact gd_gen (by kernel_rfl) (Want.none_ rfl) rfl (fun D u w v h => by simpa [updB, upd] using h) (fun D u ρ w kn => by
                        have e0 := kn.con 7 71 (c := .pointer (some ⟨bh, oh + m, none⟩)) (by kernel_rfl) (by omega) (by kernel_rfl) rfl
                        have f0 := (show w.cell? ⟨bh, oh + m, none⟩ = some (.int .i64 h) from CH.out w kn.ext.1)
                        simp [execOp, kn.rho.con, e0, f0, go_sem])
                    · refine gd_call (by kernel_rfl) (Want.none_ rfl) 14 (fun D u ρ wx kn hD => ?_)
                      have e0 := kn.con 4 68 (c := .slice A4 lv.length c4) (by kernel_rfl) (by omega) (by kernel_rfl) rfl
                      have e1 := kn.con 8 72 (c := .int .i64 h) (by kernel_rfl) (by omega) (by kernel_rfl) rfl
                      refine ⟨#[.slice A4 lv.length c4, .int .i64 h], ?_, (KA.out wx (kn.ext.1)).mono ?_⟩
                      · simp only [execOp, resolve, Deferred.ofValue, List.map_toArray, List.map_cons, List.map_nil, e0, e1, kn.rho.con, kn.rho.fn]
                        simp [go_sem]
                      · rintro e w' ⟨rfl, hg⟩
                        exact ⟨_, rfl, (fun c h => by injection h with h; injection h), only_trans kn.ext.1 hg, (fun h => by rw [updB_ne D (show (17 : Nat) ≠ 9 by omega)] at h; rw [upd_ne u _ (show (17 : Nat) ≠ 9 by omega)]; obtain ⟨gb, q1, q2, q3⟩ := kn.ext.2.1 h; rw [updB_ne D (show (18 : Nat) ≠ 9 by omega)]; exact ⟨gb, q1, q2, q3.grown hg (by simp)⟩), (fun h => by rw [updB_ne D (show (18 : Nat) ≠ 9 by omega)] at h; rw [updB_ne D (show (17 : Nat) ≠ 9 by omega)]; exact kn.ext.2.2 h)⟩
                    · exact gd_gen (by kernel_rfl) (Want.none_ rfl) rfl (fun D u w v h => by simpa [updB, upd] using h) (fun D u ρ w kn => by
                        have e0 := kn.own 1 (c := .slice A2 ts.length c2) (by kernel_rfl) ea1
                        simp [execOp, kn.rho.con, e0, go_sem])
                    · exact gd_gen (by kernel_rfl) (Want.none_ rfl) rfl (fun D u w v h => by simpa [updB, upd] using h) (fun D u ρ w kn => by
                        have e0 := kn.own 8 (c := .slice (some ⟨bh, oh, none⟩) (L.length) (c)) (by kernel_rfl) ea8
                        simp [execOp, kn.rho.con, e0, go_sem])
                    · exact gd_gen (by kernel_rfl) (Want.none_ rfl) rfl (fun D u w v h => by simpa [updB, upd] using h) (fun D u ρ w kn => by
                        have e0 := kn.own 13 (c := .int .i64 ((m : Int))) (by kernel_rfl) ea13
                        simp [execOp, kn.rho.con, e0, go_sem])
                    · exact gd_gen (by kernel_rfl) (Want.none_ rfl) rfl (fun D u w v h => by simpa [updB, upd] using h) (fun D u ρ w kn => by
                        have e0 := kn.con 11 75 (c := .slice (some ⟨bh, oh, none⟩) (L.length) (c)) (by kernel_rfl) (by omega) (by kernel_rfl) rfl
                        have e1 := kn.con 12 76 (c := .int .i64 ((m : Int))) (by kernel_rfl) (by omega) (by kernel_rfl) rfl
                        simp [execOp, kn.rho.con, e0, e1, go_sem, i1])
                    · exact gd_gen (by kernel_rfl) (Want.none_ rfl) rfl (fun D u w v h => by simpa [updB, upd] using h) (fun D u ρ w kn => by
                        have e0 := kn.con 13 77 (c := .pointer (some ⟨bh, oh + m, none⟩)) (by kernel_rfl) (by omega) (by kernel_rfl) rfl
                        have f0 := (show w.cell? ⟨bh, oh + m, none⟩ = some (.int .i64 h) from CH.out w kn.ext.1)
                        simp [execOp, kn.rho.con, e0, f0, go_sem])
                    · refine gd_call (by kernel_rfl) (Want.none_ rfl) 14 (fun D u ρ wx kn hD => ?_)
                      have e0 := kn.con 10 74 (c := .slice A2 ts.length c2) (by kernel_rfl) (by omega) (by kernel_rfl) rfl
                      have e1 := kn.con 14 78 (c := .int .i64 h) (by kernel_rfl) (by omega) (by kernel_rfl) rfl
                      refine ⟨#[.slice A2 ts.length c2, .int .i64 h], ?_, (KB.out wx (kn.ext.1)).mono ?_⟩
                      · simp only [execOp, resolve, Deferred.ofValue, List.map_toArray, List.map_cons, List.map_nil, e0, e1, kn.rho.con, kn.rho.fn]
                        simp [go_sem]
                      · rintro e w' ⟨rfl, hg⟩
                        exact ⟨_, rfl, (fun c h => by injection h with h; injection h), only_trans kn.ext.1 hg, (fun h => by rw [updB_ne D (show (17 : Nat) ≠ 15 by omega)] at h; rw [upd_ne u _ (show (17 : Nat) ≠ 15 by omega)]; obtain ⟨gb, q1, q2, q3⟩ := kn.ext.2.1 h; rw [updB_ne D (show (18 : Nat) ≠ 15 by omega)]; exact ⟨gb, q1, q2, q3.grown hg (by simp)⟩), (fun h => by rw [updB_ne D (show (18 : Nat) ≠ 15 by omega)] at h; rw [updB_ne D (show (17 : Nat) ≠ 15 by omega)]; exact kn.ext.2.2 h)⟩
                    · exact gd_gen (by kernel_rfl) (Want.none_ rfl) rfl (fun D u w v h => by simpa [updB, upd] using h) (fun D u ρ w kn => by
                        have e0 := kn.con 3 67 (c := .int .i64 (h)) (by kernel_rfl) (by omega) (by kernel_rfl) rfl
                        have e1 := kn.con 9 73 (c := .int .i64 (sumT h lv)) (by kernel_rfl) (by omega) (by kernel_rfl) rfl
                        have e2 := kn.con 15 79 (c := .int .i64 (sumT h ts)) (by kernel_rfl) (by omega) (by kernel_rfl) rfl
                        simp [execOp, kn.rho.con, e0, e1, e2, go_sem, Try.zeroValue85])
                    · refine gd_eff (by kernel_rfl) (Want.none_ rfl) (fun D u ρ wx kn hD => ?_)
                      obtain ⟨x1, x2, x3⟩ := kn.ext
                      have h18 : D 18 = false := by cases h : D 18 with | false => rfl | true => have := x3 h; rw [hD] at this; cases this
                      exact ⟨.pointer (some ⟨wx.heap.size, 0, none⟩), wx.alloc (.cells #[.int .i64 0, .int .i64 0, .int .i64 0, .int .i64 0, .int .i64 0, .int .i64 0, .int .i64 0] 85), alloc_bal ρ wx, (fun c h => by cases h), only_alloc x1 _, (fun _ => ⟨wx.heap.size, upd_at _ _ _, x1.size, by rw [updB_ne D (show (18 : Nat) ≠ 17 by omega), h18, if_neg (by simp)]; exact Blk.new wx _ _⟩), (fun h => by rw [updB_ne D (show (18 : Nat) ≠ 17 by omega), h18] at h; cases h)⟩
                    · refine gd_skip (by kernel_rfl) (Want.none_ rfl) rfl (fun D u ρ wx kn hD => ?_)
                      have e0 := kn.slot 17 14 (by kernel_rfl) (by omega)
                      have e1 := kn.con 16 80 (c := .agg #[.int .i64 (h), .int .i64 (0), .int .i64 (0), .int .i64 (0), .int .i64 (0), .int .i64 (sumT h lv), .int .i64 (sumT h ts)]) (by kernel_rfl) (by omega) (by kernel_rfl) rfl
                      have d9 := kn.dep 17 (by kernel_rfl)
                      obtain ⟨x1, x2, x3⟩ := kn.ext
                      obtain ⟨gb, q1, q2, q3⟩ := x2 d9
                      rw [hD, if_neg (by simp)] at q3
                      obtain ⟨w', z1, z2, z3⟩ := store_bal wx gb h 0 0 0 0 (sumT h lv) (sumT h ts) q3
                      rw [q1] at e0
                      exact ⟨w', by simp only [execOp, e0, e1, Sem.run_bind, z1, Result.andThen_ok, Sem.run_pure], only_fresh x1 z3 q2, (fun _ => ⟨gb, by rw [upd_ne u _ (show (17 : Nat) ≠ 18 by omega)]; exact q1, q2, by rw [updB_at, if_pos rfl]; exact z2⟩), (fun _ => by rw [updB_ne D (show (17 : Nat) ≠ 18 by omega)]; exact d9)⟩
                  · intro D u w9 hJ hD
                    simp only [List.take_succ_cons, List.take_zero, List.drop_succ_cons, List.drop_zero, putAll]
                    have hJ2 := hJ.2
                    obtain ⟨x1, x2, -⟩ := hJ2
                    obtain ⟨gb, q1, q2, q3⟩ := x2 (hD 17 (by omega))
                    rw [hD 18 (by omega), if_pos rfl] at q3
                    rw [q1]
                    have GX9 := Lib.hid x1
                    have HGB := Lib.hid q3
                    have HQ2 := Lib.hid q2
                    clear hJ hD x1 x2 q1 q3 CH KA KB
                    have hbS := sumP_le (n := 1000000) p1 h HI1.out (by omega)
                    have hbS2 := sumP_le (n := 1000000) p2 h HI1.out (by omega)
                    have hbS3 := sumP_le (n := 1000000) p3 h HI1.out (by omega)
                    have hbS4 := sumP_le (n := 1000000) p4 h HI1.out (by omega)
                    have hsum1 := p1_sum h ss
                    have hsum3 := p3_sum h ss
                    obtain ⟨sT, hsT⟩ : ∃ x, x = sumT h ss := ⟨_, rfl⟩
                    obtain ⟨rc, hrc⟩ : ∃ x, x = sumP p1 h ss := ⟨_, rfl⟩
                    obtain ⟨st, hst⟩ : ∃ x, x = sumP p2 h ss := ⟨_, rfl⟩
                    obtain ⟨dr, hdr⟩ : ∃ x, x = sumP p3 h ss := ⟨_, rfl⟩
                    obtain ⟨dp, hdp⟩ : ∃ x, x = sumP p4 h ss := ⟨_, rfl⟩
                    have BC : Hid ((balOf ss ts lv h).cells = [.int .i64 h, .int .i64 rc, .int .i64 st, .int .i64 dr, .int .i64 dp, .int .i64 (sumT h lv), .int .i64 (sumT h ts)]) := Lib.hid (by rw [hrc, hst, hdr, hdp]; rfl)
                    have C2 : Hid (cntT h ⟨#[]⟩ ss = st) := Lib.hid (by rw [hst]; exact p2_cnt HSS.out)
                    have C4 : Hid (cntT h ⟨#[42]⟩ ss = dp) := Lib.hid (by rw [hdp]; exact p4_cnt HSS.out)
                    rw [← hrc, ← hdp, ← hsT] at hsum1
                    rw [← hrc, ← hdr, ← hst] at hsum3
                    rw [← hrc] at hbS
                    rw [← hst] at hbS2
                    rw [← hdr] at hbS3
                    rw [← hdp] at hbS4
                    have hb1 : (1000000 : Int) * (ss.length : Int) ≤ 1000000000 := by omega
                    have hrecH : Hid (IntKind.i64.wrap (sT - dp) = rc) := Lib.hid (by rw [hsum1, Int.add_sub_cancel]; exact IntWalk.i64_in _ (by omega))
                    have hdrH : Hid (IntKind.i64.wrap (rc - st) = dr) := Lib.hid (by rw [hsum3, Int.add_sub_cancel]; exact IntWalk.i64_in _ (by omega))
                    have HST := Lib.hid hsT
                    clear hbS hbS2 hbS3 hbS4 hsum1 hsum3 hrc hst hdr hdp hsT hb1
                    have GY := Lib.hid (only_trans GX.out GX9.out)
                    have CH2 : Hid (∀ W, W0.grownBy W none → W.cell? ⟨bh, oh + m, none⟩ = some (.int .i64 h)) := Lib.hid (fun W hW => CHW.out W (only_trans GX.out hW))
                    have HXB : Hid (Blk W0 xb 39 #[.slice Am nm cm, .slice A1 ss.length c1]) := Lib.hid (HB1.out.grown (only_trans GWb.out GX.out) (by simp))
                    have KE := Lib.hid (fun (W : World) (hW : W0.grownBy W none) => RC.out ⟨#[]⟩ W (only_trans GX.out hW))
                    have KF := Lib.hid (fun (W : World) (hW : W0.grownBy W none) => RC.out ⟨#[42]⟩ W (only_trans GX.out hW))
                    go_simp
                    go_upto_region 20 with fail
                    refine wp_region_gen 14 (JC [some (.agg #[.slice Am nm cm, .slice A1 ss.length c1]), some (.slice (some ⟨bh, oh, none⟩) (L.length) (c)), some (.int .i64 ((m : Int))), some (.pointer (some ⟨bh, oh + m, none⟩)), some (.int .i64 (h)), some (.int .i64 (cntT h ⟨#[]⟩ ss)), some (.agg #[.slice Am nm cm, .slice A1 ss.length c1]), some (.slice (some ⟨bh, oh, none⟩) (L.length) (c)), some (.int .i64 ((m : Int))), some (.pointer (some ⟨bh, oh + m, none⟩)), some (.int .i64 (h)), some (.int .i64 (cntT h ⟨#[42]⟩ ss)), some (.pointer (some ⟨gb, 2, none⟩)), none] (fun D u wx => W0.grownBy wx none ∧ Blk wx gb 85 (if D 13 = true then #[.int .i64 (h), .int .i64 (0), .int .i64 (cntT h ⟨#[]⟩ ss), .int .i64 (0), .int .i64 (0), .int .i64 (sumT h lv), .int .i64 (sumT h ts)] else #[.int .i64 (h), .int .i64 (0), .int .i64 (0), .int .i64 (0), .int .i64 (0), .int .i64 (sumT h lv), .int .i64 (sumT h ts)]))) (by kernel_rfl) (by kernel_rfl) ?_ ?_ ?_
                    · intro u
                      exact ⟨(fun j c _ h => by cases h), ⟨only_drew GX9.out, by simpa using HGB.out.drew⟩⟩
                    · intro AA hA
                      have hasz : AA.tmps.size = 117 := by rw [hA]; kernel_rfl
                      have ea8 : AA.eval (.tmp 8) = .slice (some ⟨bh, oh, none⟩) (L.length) (c) := by rw [hA]; kernel_rfl
                      have ea13 : AA.eval (.tmp 13) = .int .i64 ((m : Int)) := by rw [hA]; kernel_rfl
                      have ea3 : AA.eval (.tmp 3) = .pointer (some ⟨xb, 0, none⟩) := by rw [hA]; kernel_rfl
                      have ea14 : AA.eval (.tmp 14) = .pointer (some ⟨gb, 0, none⟩) := by rw [hA]; kernel_rfl
                      clear hA
                      simp only [List.take_succ_cons, List.take_zero]
                      refine .cons ?_ (.cons ?_ (.cons ?_ (.cons ?_ (.cons ?_ (.cons ?_ (.cons ?_ (.cons ?_ (.cons ?_ (.cons ?_ (.cons ?_ (.cons ?_ (.cons ?_ (.cons ?_ (.nil))))))))))))))
                      · exact gd_gen (by kernel_rfl) (Want.none_ rfl) rfl (fun D u w v h => by simpa [updB, upd] using h) (fun D u ρ w kn => by
                          have e0 := kn.own 3 (c := .pointer (some ⟨xb, 0, none⟩)) (by kernel_rfl) ea3
                          exact run_load ρ w rfl e0 (load_int42 w xb ⟨_, _, _, rfl⟩ ⟨_, _, _, rfl⟩ (HXB.out.grown kn.ext.1 (by simp))))
                      · exact gd_gen (by kernel_rfl) (Want.none_ rfl) rfl (fun D u w v h => by simpa [updB, upd] using h) (fun D u ρ w kn => by
                          have e0 := kn.own 8 (c := .slice (some ⟨bh, oh, none⟩) (L.length) (c)) (by kernel_rfl) ea8
                          simp [execOp, kn.rho.con, e0, go_sem])
                      · exact gd_gen (by kernel_rfl) (Want.none_ rfl) rfl (fun D u w v h => by simpa [updB, upd] using h) (fun D u ρ w kn => by
                          have e0 := kn.own 13 (c := .int .i64 ((m : Int))) (by kernel_rfl) ea13
                          simp [execOp, kn.rho.con, e0, go_sem])
                      · exact gd_gen (by kernel_rfl) (Want.none_ rfl) rfl (fun D u w v h => by simpa [updB, upd] using h) (fun D u ρ w kn => by
                          have e0 := kn.con 1 82 (c := .slice (some ⟨bh, oh, none⟩) (L.length) (c)) (by kernel_rfl) (by omega) (by kernel_rfl) rfl
                          have e1 := kn.con 2 83 (c := .int .i64 ((m : Int))) (by kernel_rfl) (by omega) (by kernel_rfl) rfl
                          simp [execOp, kn.rho.con, e0, e1, go_sem, i1])
                      · exact gd_gen (by kernel_rfl) (Want.none_ rfl) rfl (fun D u w v h => by simpa [updB, upd] using h) (fun D u ρ w kn => by
                          have e0 := kn.con 3 84 (c := .pointer (some ⟨bh, oh + m, none⟩)) (by kernel_rfl) (by omega) (by kernel_rfl) rfl
                          have f0 := (show w.cell? ⟨bh, oh + m, none⟩ = some (.int .i64 h) from CH2.out w kn.ext.1)
                          simp [execOp, kn.rho.con, e0, f0, go_sem])
                      · refine gd_call (by kernel_rfl) (Want.none_ rfl) 48 (fun D u ρ wx kn hD => ?_)
                        have e0 := kn.con 0 81 (c := .agg #[.slice Am nm cm, .slice A1 ss.length c1]) (by kernel_rfl) (by omega) (by kernel_rfl) rfl
                        have e1 := kn.con 4 85 (c := .int .i64 h) (by kernel_rfl) (by omega) (by kernel_rfl) rfl
                        refine ⟨#[.agg #[.slice Am nm cm, .slice A1 ss.length c1], .int .i64 h, .string ⟨#[]⟩], ?_, (KE.out wx (kn.ext.1)).mono ?_⟩
                        · simp only [execOp, resolve, Deferred.ofValue, List.map_toArray, List.map_cons, List.map_nil, e0, e1, kn.rho.con, kn.rho.fn]
                          simp [go_sem]
                        · rintro e w' ⟨rfl, hg⟩
                          exact ⟨_, rfl, (fun c h => by injection h with h; injection h), only_trans kn.ext.1 hg, by rw [updB_ne D (show (13 : Nat) ≠ 5 by omega)]; exact kn.ext.2.grown hg (by simp)⟩
                      · exact gd_gen (by kernel_rfl) (Want.none_ rfl) rfl (fun D u w v h => by simpa [updB, upd] using h) (fun D u ρ w kn => by
                          have e0 := kn.own 3 (c := .pointer (some ⟨xb, 0, none⟩)) (by kernel_rfl) ea3
                          exact run_load ρ w rfl e0 (load_int42 w xb ⟨_, _, _, rfl⟩ ⟨_, _, _, rfl⟩ (HXB.out.grown kn.ext.1 (by simp))))
                      · exact gd_gen (by kernel_rfl) (Want.none_ rfl) rfl (fun D u w v h => by simpa [updB, upd] using h) (fun D u ρ w kn => by
                          have e0 := kn.own 8 (c := .slice (some ⟨bh, oh, none⟩) (L.length) (c)) (by kernel_rfl) ea8
                          simp [execOp, kn.rho.con, e0, go_sem])
                      · exact gd_gen (by kernel_rfl) (Want.none_ rfl) rfl (fun D u w v h => by simpa [updB, upd] using h) (fun D u ρ w kn => by
                          have e0 := kn.own 13 (c := .int .i64 ((m : Int))) (by kernel_rfl) ea13
                          simp [execOp, kn.rho.con, e0, go_sem])
                      · exact gd_gen (by kernel_rfl) (Want.none_ rfl) rfl (fun D u w v h => by simpa [updB, upd] using h) (fun D u ρ w kn => by
                          have e0 := kn.con 7 88 (c := .slice (some ⟨bh, oh, none⟩) (L.length) (c)) (by kernel_rfl) (by omega) (by kernel_rfl) rfl
                          have e1 := kn.con 8 89 (c := .int .i64 ((m : Int))) (by kernel_rfl) (by omega) (by kernel_rfl) rfl
                          simp [execOp, kn.rho.con, e0, e1, go_sem, i1])
                      · exact gd_gen (by kernel_rfl) (Want.none_ rfl) rfl (fun D u w v h => by simpa [updB, upd] using h) (fun D u ρ w kn => by
                          have e0 := kn.con 9 90 (c := .pointer (some ⟨bh, oh + m, none⟩)) (by kernel_rfl) (by omega) (by kernel_rfl) rfl
                          have f0 := (show w.cell? ⟨bh, oh + m, none⟩ = some (.int .i64 h) from CH2.out w kn.ext.1)
                          simp [execOp, kn.rho.con, e0, f0, go_sem])
                      · refine gd_call (by kernel_rfl) (Want.none_ rfl) 48 (fun D u ρ wx kn hD => ?_)
                        have e0 := kn.con 6 87 (c := .agg #[.slice Am nm cm, .slice A1 ss.length c1]) (by kernel_rfl) (by omega) (by kernel_rfl) rfl
                        have e1 := kn.con 10 91 (c := .int .i64 h) (by kernel_rfl) (by omega) (by kernel_rfl) rfl
                        refine ⟨#[.agg #[.slice Am nm cm, .slice A1 ss.length c1], .int .i64 h, .string ⟨#[42]⟩], ?_, (KF.out wx (kn.ext.1)).mono ?_⟩
                        · simp only [execOp, resolve, Deferred.ofValue, List.map_toArray, List.map_cons, List.map_nil, e0, e1, kn.rho.con, kn.rho.fn]
                          simp [go_sem]
                        · rintro e w' ⟨rfl, hg⟩
                          exact ⟨_, rfl, (fun c h => by injection h with h; injection h), only_trans kn.ext.1 hg, by rw [updB_ne D (show (13 : Nat) ≠ 11 by omega)]; exact kn.ext.2.grown hg (by simp)⟩
                      · exact gd_gen (by kernel_rfl) (Want.none_ rfl) rfl (fun D u w v h => by simpa [updB, upd] using h) (fun D u ρ w kn => by
                          have e0 := kn.own 14 (c := .pointer (some ⟨gb, 0, none⟩)) (by kernel_rfl) ea14
                          simp [execOp, kn.rho.con, e0, go_sem])
                      · refine gd_skip (by kernel_rfl) (Want.none_ rfl) rfl (fun D u ρ wx kn hD => ?_)
                        have e0 := kn.con 12 93 (c := .pointer (some ⟨gb, 2, none⟩)) (by kernel_rfl) (by omega) (by kernel_rfl) rfl
                        have e1 := kn.con 5 86 (c := .int .i64 (cntT h ⟨#[]⟩ ss)) (by kernel_rfl) (by omega) (by kernel_rfl) rfl
                        obtain ⟨x1, x2⟩ := kn.ext
                        rw [hD, if_neg (by simp)] at x2
                        have z2 := x2.cell 2
                        have f2 := x2.frozen 2
                        simp at z2
                        exact ⟨wx.setCell ⟨gb, 2, none⟩ (.int .i64 (cntT h ⟨#[]⟩ ss)), by simp [execOp, e0, e1, go_sem, z2, f2], only_fresh x1 (only_setCell (only_refl _ _) (p := ⟨gb, 2, none⟩) (.inl rfl) _) HQ2.out, by rw [updB_at, if_pos rfl]; simpa using x2.set_ 2 (.int .i64 (cntT h ⟨#[]⟩ ss))⟩
                    · intro D u w9 hJ hD
                      simp only [List.take_succ_cons, List.take_zero, List.drop_succ_cons, List.drop_zero, putAll]
                      have hcn := hJ.1
                      have hJ2 := hJ.2
                      have x1 := hJ2.1
                      have hB10 := hJ2.2
                      rw [hD 13 (by omega), if_pos rfl, C2.out] at hB10
                      have e11 : u 11 = .int .i64 (cntT h ⟨#[42]⟩ ss) := hcn 11 _ rfl (hD 11 (by omega))
                      rw [e11, C4.out]
                      have z4 := hB10.cell 4
                      have f4 := hB10.frozen 4
                      simp at z4
                      obtain ⟨Z0, hZ0⟩ : ∃ Z, Z = w9.setCell ⟨gb, 4, none⟩ (.int .i64 dp) := ⟨_, rfl⟩
                      have HGZ : Hid (Blk Z0 gb 85 #[.int .i64 h, .int .i64 0, .int .i64 st, .int .i64 0, .int .i64 dp, .int .i64 (sumT h lv), .int .i64 (sumT h ts)]) := Lib.hid (by
                        have := hB10.set_ 4 (.int .i64 dp)
                        rw [hZ0]; simpa using this)
                      have GZ : Hid (W0.grownBy Z0 none) := Lib.hid (by
                        rw [hZ0]
                        exact only_fresh x1 (only_setCell (only_refl _ _) (p := ⟨gb, 4, none⟩) (.inl rfl) _) HQ2.out)
                      have HZ0 := Lib.hid hZ0.symm
                      clear hJ hJ2 hD hcn x1 e11 hB10 hZ0 CH2 HXB KE KF HGB GX9 GY
                      go_simp
                      go_upto_region 21 with fail
                      rw [HZ0.out]
                      clear z4 f4 HZ0
                      have GY := Lib.hid (only_trans GX.out GZ.out)
                      have CH3 : Hid (∀ W, Z0.grownBy W none → W.cell? ⟨bh, oh + m, none⟩ = some (.int .i64 h)) := Lib.hid (fun W hW => CHW.out W (only_trans GY.out hW))
                      have HXC : Hid (Blk Z0 xb 39 #[.slice Am nm cm, .slice A1 ss.length c1]) := Lib.hid (HB1.out.grown (only_trans GWb.out GY.out) (by simp))
                      have HGB := HGZ
                      have KG : Hid (∀ W, Z0.grownBy W none → Calls Try.prog 14 #[.slice A1 ss.length c1, .int .i64 h] W (SumPost W sT)) := Lib.hid (fun W hW => by rw [HST.out]; exact RS.out W (only_trans GY.out hW))
                      have hrec := hrecH.out
                      refine wp_region_gen 10 (JC [some (.pointer (some ⟨xb, 1, none⟩)), some (.slice A1 ss.length c1), some (.slice (some ⟨bh, oh, none⟩) (L.length) (c)), some (.int .i64 ((m : Int))), some (.pointer (some ⟨bh, oh + m, none⟩)), some (.int .i64 (h)), some (.int .i64 (sT)), some (.pointer (some ⟨gb, 4, none⟩)), some (.int .i64 (dp)), some (.int .i64 (rc))] (fun D u wx => Z0.grownBy wx none)) (by kernel_rfl) (by kernel_rfl) ?_ ?_ ?_
                      · intro u
                        exact ⟨(fun j c _ h => by cases h), only_drew (only_refl _ _)⟩
                      · intro AA hA
                        have hasz : AA.tmps.size = 117 := by rw [hA]; kernel_rfl
                        have ea8 : AA.eval (.tmp 8) = .slice (some ⟨bh, oh, none⟩) (L.length) (c) := by rw [hA]; kernel_rfl
                        have ea13 : AA.eval (.tmp 13) = .int .i64 ((m : Int)) := by rw [hA]; kernel_rfl
                        have ea3 : AA.eval (.tmp 3) = .pointer (some ⟨xb, 0, none⟩) := by rw [hA]; kernel_rfl
                        have ea14 : AA.eval (.tmp 14) = .pointer (some ⟨gb, 0, none⟩) := by rw [hA]; kernel_rfl
                        clear hA
                        simp only [List.take_succ_cons, List.take_zero]
                        refine .cons ?_ (.cons ?_ (.cons ?_ (.cons ?_ (.cons ?_ (.cons ?_ (.cons ?_ (.cons ?_ (.cons ?_ (.cons ?_ (.nil))))))))))
                        · exact gd_gen (by kernel_rfl) (Want.none_ rfl) rfl (fun D u w v h => by simpa [updB, upd] using h) (fun D u ρ w kn => by
                            have e0 := kn.own 3 (c := .pointer (some ⟨xb, 0, none⟩)) (by kernel_rfl) ea3
                            simp [execOp, kn.rho.con, e0, go_sem])
                        · exact gd_gen (by kernel_rfl) (Want.none_ rfl) rfl (fun D u w v h => by simpa [updB, upd] using h) (fun D u ρ w kn => by
                            have e0 := kn.con 0 95 (c := .pointer (some ⟨xb, 1, none⟩)) (by kernel_rfl) (by omega) (by kernel_rfl) rfl
                            have f0 := (show w.cell? ⟨xb, 1, none⟩ = some (.slice A1 ss.length c1) from (HXC.out.grown kn.ext (by simp)).cell 1)
                            simp [execOp, kn.rho.con, e0, f0, go_sem])
                        · exact gd_gen (by kernel_rfl) (Want.none_ rfl) rfl (fun D u w v h => by simpa [updB, upd] using h) (fun D u ρ w kn => by
                            have e0 := kn.own 8 (c := .slice (some ⟨bh, oh, none⟩) (L.length) (c)) (by kernel_rfl) ea8
                            simp [execOp, kn.rho.con, e0, go_sem])
                        · exact gd_gen (by kernel_rfl) (Want.none_ rfl) rfl (fun D u w v h => by simpa [updB, upd] using h) (fun D u ρ w kn => by
                            have e0 := kn.own 13 (c := .int .i64 ((m : Int))) (by kernel_rfl) ea13
                            simp [execOp, kn.rho.con, e0, go_sem])
                        · exact gd_gen (by kernel_rfl) (Want.none_ rfl) rfl (fun D u w v h => by simpa [updB, upd] using h) (fun D u ρ w kn => by
                            have e0 := kn.con 2 97 (c := .slice (some ⟨bh, oh, none⟩) (L.length) (c)) (by kernel_rfl) (by omega) (by kernel_rfl) rfl
                            have e1 := kn.con 3 98 (c := .int .i64 ((m : Int))) (by kernel_rfl) (by omega) (by kernel_rfl) rfl
                            simp [execOp, kn.rho.con, e0, e1, go_sem, i1])
                        · exact gd_gen (by kernel_rfl) (Want.none_ rfl) rfl (fun D u w v h => by simpa [updB, upd] using h) (fun D u ρ w kn => by
                            have e0 := kn.con 4 99 (c := .pointer (some ⟨bh, oh + m, none⟩)) (by kernel_rfl) (by omega) (by kernel_rfl) rfl
                            have f0 := (show w.cell? ⟨bh, oh + m, none⟩ = some (.int .i64 h) from CH3.out w kn.ext)
                            simp [execOp, kn.rho.con, e0, f0, go_sem])
                        · refine gd_call (by kernel_rfl) (Want.none_ rfl) 14 (fun D u ρ wx kn hD => ?_)
                          have e0 := kn.con 1 96 (c := .slice A1 ss.length c1) (by kernel_rfl) (by omega) (by kernel_rfl) rfl
                          have e1 := kn.con 5 100 (c := .int .i64 h) (by kernel_rfl) (by omega) (by kernel_rfl) rfl
                          refine ⟨#[.slice A1 ss.length c1, .int .i64 h], ?_, (KG.out wx (kn.ext)).mono ?_⟩
                          · simp only [execOp, resolve, Deferred.ofValue, List.map_toArray, List.map_cons, List.map_nil, e0, e1, kn.rho.con, kn.rho.fn]
                            simp [go_sem]
                          · rintro e w' ⟨rfl, hg⟩
                            exact ⟨_, rfl, (fun c h => by injection h with h; injection h), only_trans kn.ext hg⟩
                        · exact gd_gen (by kernel_rfl) (Want.none_ rfl) rfl (fun D u w v h => by simpa [updB, upd] using h) (fun D u ρ w kn => by
                            have e0 := kn.own 14 (c := .pointer (some ⟨gb, 0, none⟩)) (by kernel_rfl) ea14
                            simp [execOp, kn.rho.con, e0, go_sem])
                        · exact gd_gen (by kernel_rfl) (Want.none_ rfl) rfl (fun D u w v h => by simpa [updB, upd] using h) (fun D u ρ w kn => by
                            have e0 := kn.con 7 102 (c := .pointer (some ⟨gb, 4, none⟩)) (by kernel_rfl) (by omega) (by kernel_rfl) rfl
                            have f0 := (show w.cell? ⟨gb, 4, none⟩ = some (.int .i64 dp) from (HGB.out.grown kn.ext (by simp)).cell 4)
                            simp [execOp, kn.rho.con, e0, f0, go_sem])
                        · exact gd_gen (by kernel_rfl) (Want.none_ rfl) rfl (fun D u w v h => by simpa [updB, upd] using h) (fun D u ρ w kn => by
                            have e0 := kn.con 6 101 (c := .int .i64 (sT)) (by kernel_rfl) (by omega) (by kernel_rfl) rfl
                            have e1 := kn.con 8 103 (c := .int .i64 (dp)) (by kernel_rfl) (by omega) (by kernel_rfl) rfl
                            simp [execOp, kn.rho.con, e0, e1, go_sem, hrec])
                      · intro D u w9 hJ hD
                        simp only [List.take_succ_cons, List.take_zero, List.drop_succ_cons, List.drop_zero, putAll]
                        have hcn := hJ.1
                        have x1 := hJ.2
                        have e9 : u 9 = .int .i64 rc := hcn 9 _ rfl (hD 9 (by omega))
                        rw [e9]
                        have hB9 := HGB.out.grown x1 (by simp)
                        have gz := only_trans GZ.out x1
                        have z1 := hB9.cell 1
                        have f1 := hB9.frozen 1
                        simp at z1
                        obtain ⟨V1, hV1⟩ : ∃ Z, Z = w9.setCell ⟨gb, 1, none⟩ (.int .i64 rc) := ⟨_, rfl⟩
                        have HG1 : Hid (Blk V1 gb 85 #[.int .i64 h, .int .i64 rc, .int .i64 st, .int .i64 0, .int .i64 dp, .int .i64 (sumT h lv), .int .i64 (sumT h ts)]) := Lib.hid (by
                          have := hB9.set_ 1 (.int .i64 rc)
                          rw [hV1]; simpa using this)
                        have GV1 : Hid (W0.grownBy V1 none) := Lib.hid (by
                          rw [hV1]
                          exact only_fresh gz (only_setCell (only_refl _ _) (p := ⟨gb, 1, none⟩) (.inl rfl) _) HQ2.out)
                        have HV1 := Lib.hid hV1.symm
                        clear hJ hD hcn x1 e9 hB9 gz hV1 CH3 HXC KG HGB HGZ hrec GY
                        go_simp
                        go_upto_region 22 with fail
                        rw [HV1.out]
                        clear z1 f1 HV1
                        have z1 := HG1.out.cell 1
                        have z2 := HG1.out.cell 2
                        have z3 := HG1.out.cell 3
                        have f3 := HG1.out.frozen 3
                        simp at z1 z2 z3
                        have hdw := hdrH.out
                        obtain ⟨V2, hV2⟩ : ∃ Z, Z = V1.setCell ⟨gb, 3, none⟩ (.int .i64 dr) := ⟨_, rfl⟩
                        have HG2 : Hid (Blk V2 gb 85 #[.int .i64 h, .int .i64 rc, .int .i64 st, .int .i64 dr, .int .i64 dp, .int .i64 (sumT h lv), .int .i64 (sumT h ts)]) := Lib.hid (by
                          have := HG1.out.set_ 3 (.int .i64 dr)
                          rw [hV2]; simpa using this)
                        have GV2 : Hid (W0.grownBy V2 none) := Lib.hid (by
                          rw [hV2]
                          exact only_fresh GV1.out (only_setCell (only_refl _ _) (p := ⟨gb, 3, none⟩) (.inl rfl) _) HQ2.out)
                        have HV2 := Lib.hid hV2.symm
                        clear hV2 HG1 GV1
                        go_upto_region 23 with fail
                        rw [HV2.out]
                        clear z1 z2 z3 f3 hdw HV2
                        have z0 := HG2.out.cell 0
                        have z1 := HG2.out.cell 1
                        have z2 := HG2.out.cell 2
                        have z3 := HG2.out.cell 3
                        have z4 := HG2.out.cell 4
                        have z5 := HG2.out.cell 5
                        have z6 := HG2.out.cell 6
                        simp at z0 z1 z2 z3 z4 z5 z6
                        have O7 := Lib.hid (own_ext OX.out GV2.out)
                        have hz7 := GV2.out.size
                        go_wp2_with (at_builtin; refine wpList_append1 rfl _ _ 42 rfl Wb.heap.size Try.underlying42 balInfo rfl (by decide) (v := .slice Ab m cb) (by rfl) (w0 := V2) (cs := #[.int .i64 h, .int .i64 rc, .int .i64 st, .int .i64 dr, .int .i64 dp, .int .i64 (sumT h lv), .int .i64 (sumT h ts)]) O7.out (by rfl) rfl (by simp [Value.oneCell']) (by decide) (by omega) (by omega) ?_; intro v9 w8 hown9 hg9 hob9)
                        have O9 : Hid (w8.ownsRow Wb.heap.size 85 7 v9 (m + 1) (((L.take (m + 1)).map (balOf ss ts lv)).flatMap BalD.cells)) := Lib.hid (by rw [HT.out, BC.out]; exact hown9)
                        have G9' : Hid (Wb.grownBy w8 none) := Lib.hid (only_own (only_trans GX.out GV2.out) hg9 O7.out (Nat.le_refl _))
                        clear hown9 hg9 hob9 z0 z1 z2 z3 z4 z5 z6
                        go_wp2_with fail
                        go_roundw
                        case rel => exact ⟨m + 1, by omega, by go_num, O9.out, G9'.out⟩
                        case measure => simp [intOf]; omega
                · have hme : m = L.length := by omega
                  have HB : Hid (balL ss ts es = L.map (balOf ss ts lv)) := Lib.hid (by unfold balL; rw [← HH.out, HLV.out])
                  have HME := Lib.hid hme
                  clear hme
                  go_wp2_with fail
                  go_ret
                  have r := RB.out
                  have e : (L.map (balOf ss ts lv)).length = L.length := List.length_map ..
                  rw [HME.out, List.take_length] at r
                  have hq2 := G2.out.size
                  have hq3 := G.out.size
                  have r2 := r.mono (S' := fun b => w.heap.size ≤ b) (fun b hb _ => by
                    have h3 : Wb.heap.size ≤ b := hb
                    show w.heap.size ≤ b
                    omega)
                  exact ⟨Ab, cb, by rw [HB.out, e, HME.out]; rfl, by rw [HB.out, e, ← HME.out]; exact hcb, hmb, by rw [HB.out]; exact r2, only_trans (only_trans G1.out (only_trans G2.out G.out)) GX.out⟩
end Go.Proofs.Ytiogpomgpknjlaa
