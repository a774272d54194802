/- law42: AccountBalancesIngestAndRetention: the walk of the law itself (printed by mk42o.py). For every input. -/
import Derived.Test.YtiogpomgpknjlaaJPrg32
import Derived.Test.YtiogpomgpknjlaaJBat42
import Derived.Test.YtiogpomgpknjlaaJRowK
import Derived.Test.YtiogpomgpknjlaaJCloneT
import Derived.Test.YtiogpomgpknjlaaJGenC
import Derived.Test.YtiogpomgpknjlaaJEv
import Derived.Deep.RegionLaw
import Derived.Deep.DeepMust
import Derived.Deep.DeepCutAuto
import Derived.Deep.CutBlock
namespace Go.Proofs.Ytiogpomgpknjlaa
open Go.RowKit
set_option linter.unusedVariables false
set_option linter.unusedSimpArgs false

theorem load_ink (w : World) (b : Nat) (v0 v1 : Value) (h : Blk w b 39 #[v0, v1]) (h0 : v0.oneCell' = true) (h1 : v1.oneCell' = true) :
    (Instr.loadAt 39 (.pointer (some ⟨b, 0, none⟩))).run Try.prog w = .ok (.agg #[v0, v1]) w := by
  have a0 := h.cell 0
  have a1 := h.cell 1
  simp at a0 a1
  have hu := Try.underlying39
  simp [go_sem, a0, a1]
theorem intakeInfoB : (Try.prog.info? 39).map (fun i => (i.zero, i.size)) = some (some (.agg #[.slice none 0 0, .slice none 0 0]), 2) := by kernel_rfl
/-- a batch has been applied, the law has taken what it gave -/
def ApdP (W0 : World) (sb : Nat) (v : Value) (wr : World) (n m T k : Nat) (ts : List Tal) (v12 v13 : Value) (wx : World) : Prop :=
  ∃ (tb : Nat) (A' : Option Addr) (ms' : List MarkD) (c' : Nat) (B' : Option Addr) (ts' : List Tal) (d' : Nat) (O : Option Addr) (out : List Ev) (oc : Nat), v12 = .pointer (some ⟨tb, 0, none⟩) ∧ v13 = .slice O out.length oc ∧ Qn W0 sb v tb ∧ Blk wx tb 39 #[.slice A' ms'.length c', .slice B' ts'.length d'] ∧ Ink (Qn W0 sb v) wx (n + k) (m + 2 * k) (T + 12 * k) A' ms' c' B' ts' d' ∧
    Rd (Qn W0 sb v) wx O (out.flatMap Ev.cells) ∧ out.length ≤ k ∧ out.length ≤ oc ∧ oc ≤ maxLen ∧ (∀ e ∈ out, EvC e ∧ e.lines.length ≤ 6 ∧ e.Sub (Qn W0 sb v) wx) ∧ (∀ h, sumP p2 h ts' = sumP p2 h ts + cntE h out) ∧ wr.grownBy wx none
theorem apd_of {W0 : World} {sb tb tb0 : Nat} {v : Value} {wr wa wx : World} {n m T k : Nat} {ts : List Tal} {A' : Option Addr} {ms' : List MarkD} {c' : Nat} {B' : Option Addr} {ts' : List Tal} {d' : Nat} {O : Option Addr} {out : List Ev} {oc : Nat} {host : Int} {row : Option Nat}
    (hI : Ink (fun b => Qn W0 sb v b ∧ b ≠ tb0) wa (n + k) (m + 2 * k) (T + 12 * k) A' ms' c' B' ts' d') (hR : Rd (fun b => Qn W0 sb v b ∧ b ≠ tb0) wa O (out.flatMap Ev.cells)) (hl : out.length ≤ k) (ho : out.length ≤ oc) (hm : oc ≤ maxLen) (he : ∀ e ∈ out, e.host = host ∧ EvC e ∧ e.lines.length ≤ 6 ∧ e.Sub (fun b => Qn W0 sb v b ∧ b ≠ tb0) wa) (hs : ∀ h, sumP p2 h ts' = sumP p2 h ts + cntE h out)
    (hax : wa.grownBy wx row) (hr : ∀ b, Qn W0 sb v b ∧ b ≠ tb0 → some b ≠ row) (hB : Blk wx tb 39 #[.slice A' ms'.length c', .slice B' ts'.length d']) (hQ : Qn W0 sb v tb) (hgx : wr.grownBy wx none) :
    ApdP W0 sb v wr n m T k ts (.pointer (some ⟨tb, 0, none⟩)) (.slice O out.length oc) wx :=
  ⟨tb, A', ms', c', B', ts', d', O, out, oc, rfl, rfl, hQ, hB, (hI.grown hax hr).mono (fun b hb _ => hb.1), (hR.grown hax hr).mono (fun b hb _ => hb.1), hl, ho, hm, fun e h => ⟨(he e h).2.1, (he e h).2.2.1, ((he e h).2.2.2.grown hax hr).mono (fun b hb _ => hb.1)⟩, hs, hgx⟩
theorem bal_len (x y : List Tal) (es : List Ev) (h1 : x.length ≤ 400) (h2 : y.length ≤ 200) (h3 : es.length ≤ 200) (hg : ∀ e ∈ es, 1 ≤ e.lines.length ∧ e.lines.length ≤ 6) : (balL x y es).length ≤ 100000 := by
  have h1 := hosts_len (hostL x y es)
  have h4 := (linT_ok es hg es.length (Nat.le_refl _)).2.2
  rw [List.take_length] at h4
  unfold balL
  rw [List.length_map]
  unfold hostL at h1
  simp only [List.length_append, List.length_map] at h1
  unfold hostL
  omega
theorem bal_call {W0 w : World} {g sb : Nat} {l : List Int} {Ap : Option Addr} {ps : List PolD} {Ah : Option Addr} {hs : List HoldD} {q : Nat} {v : Value} {live es : List Ev} {A : Option Addr} {ms : List MarkD} {c : Nat} {B : Option Addr} {ts : List Tal} {d : Nat} {X : Option Addr} {ex : List Tal} {cx E : Nat} {S : Nat → Prop} {A2 : Option Addr} {c2 : Nat}
    (h : LwS W0 g sb l Ap ps Ah hs q w v live A ms c B ts d X ex cx E) (hr : Rd S w A2 (es.flatMap Ev.cells)) (hq : q ≤ 48) (hes : ∀ e ∈ es, e ∈ live := by simp) (hel : es.length ≤ live.length := by simp) :
    Calls Try.prog 22 #[.agg #[.slice A ms.length c, .slice B ts.length d], .slice X ex.length cx, .slice A2 es.length c2] w (BoolP (okL (balL ts ex es)) w) := by
  have h1 := h.nl
  have h2 := h.lx
  have h3 := h.ink.lt
  have hg : ∀ e ∈ es, 1 ≤ e.lines.length ∧ e.lines.length ≤ 6 := fun e he => ⟨(h.le e (hes e he)).1.l0, (h.le e (hes e he)).2.1⟩
  exact balanced_any A ms.length c B ts d X ex cx A2 es c2 w h.ink.rt h.rx hr (by omega) (by omega) (by omega) (fun t ht => by have := h.ink.it t ht; omega) (fun t ht => by have := h.tx t ht; omega) hg (bal_in6 (fun t ht => by have := h.ink.it t ht; omega) (by omega) (fun t ht => by have := h.tx t ht; omega) (by omega) (by omega) hg) (bal_len ts ex es (by omega) (by omega) (by omega) hg)
set_option maxHeartbeats 16000000 in
set_option maxRecDepth 100000 in
theorem law_balances (A0 : Option Addr) (l0 : List Int) (d0 : Nat) (w : World) (h : Rd (fun _ => True) w A0 (l0.map (.int .u8))) (hc : l0.length ≤ d0) (hcm : d0 ≤ maxLen) (hx : ∀ x ∈ l0, 0 ≤ x ∧ x ≤ 255) :
    Calls Try.prog 6 #[.slice A0 l0.length d0] w (TrueExt w) := by
  have HX := Lib.hid hx
  have HL := Lib.hid h
  clear hx h
  go_enter Try.func6, Try.ntmps6
  go_wp2_with (go_at_call 7; refine (awake_any _).mono ?_; rintro e w1 ⟨rfl, hg1⟩)
  refine (new_any A0 l0 d0 400 _ (HL.out.grown hg1 (by simp)) hc hcm (by omega) HX.out).mono ?_
  rintro e w2 ⟨rfl, h2, hg2, hlt2⟩
  have G2 : Hid (w.grownBy w2 none) := Lib.hid (only_trans hg1 hg2)
  have hs1 := hg1.size
  generalize w1.heap.size = g at *
  obtain ⟨l, hl⟩ : ∃ l, l = l0.take 400 := ⟨_, rfl⟩
  rw [← hl] at h2
  clear HL HX hg1 hg2 hl
  go_wp2_with fail
  refine (policies_some g l _ w2 h2).mono ?_
  rintro e w3 ⟨Ap, cp, ps, k3, rfl, hp3, hcp, hmp, hrp, h3, hg3⟩
  have RP := Lib.hid hrp
  have G3 := Lib.hid hg3
  clear h2 hrp hg3
  go_wp2_with fail
  refine (holds_some g l _ w3 h3).mono ?_
  rintro e w4 ⟨Ah, ch, hs, k4, rfl, hh2, hch, hmh, hrh, h4, hg4⟩
  obtain ⟨sb, hsb⟩ : ∃ b, b = w4.heap.size := ⟨_, rfl⟩
  obtain ⟨W5, hW5⟩ : ∃ W, W = w4.alloc (.cells #[.slice none 0 0, .slice none 0 0] 39) := ⟨_, rfl⟩
  have g5 : w4.grownBy W5 none := by rw [hW5]; exact only_alloc (only_refl _ _) _
  have S5 : Hid (LwS w2 g sb l Ap ps Ah hs 0 W5 (.slice none 0 0) [] none [] 0 none [] 0 none [] 0 0) := Lib.hid (by
    have hz3 := G3.out.size
    have hz4 := hg4.size
    refine ⟨only_trans (only_trans G3.out hg4) (only_of_none g5 _), hlt2, by omega, ⟨k4, h4.grown g5 (by simp)⟩, ?_, ?_, by rw [hW5, hsb]; exact Blk.new w4 _ _, ⟨Rd.nil, by simp, by simp, by unfold maxLen; omega, fun _ => rfl, Rd.nil, by simp, by simp, by unfold maxLen; omega, fun _ => ⟨rfl, rfl⟩, List.Pairwise.nil, fun t ht => by simp at ht⟩, World.ownsRow_nil _ _ _ _, by simp, Rd.nil, by simp, by unfold maxLen; omega, fun t ht => by simp at ht, by simp, by simp, by simp [sumP, cntE, sumT]⟩
    · exact ((RP.out.mono (S' := fun b => w2.heap.size ≤ b ∧ b < sb) (fun b hb hl => ⟨hb, by omega⟩)).grown hg4 (fun b hb e => by have := hb.1; injection e; omega)).grown g5 (by simp)
    · exact (hrh.mono (S' := fun b => w2.heap.size ≤ b ∧ b < sb) (fun b hb hl => ⟨by have h0 : w3.heap.size ≤ b := hb; omega, by omega⟩)).grown g5 (by simp))
  have HW5 := Lib.hid hW5.symm
  have HSB := Lib.hid hsb.symm
  have hz5 := g5.size
  clear h3 h4 hg4 hrh hW5 hsb g5 RP G3
  go_upto_region 6 with fail
  rw [HW5.out, HSB.out]
  clear HW5 HSB
  go_wp2_with fail
  go_loopw [7, 8, 9] (fun vl vx vh wr => ∃ (hn q : Nat) (live : List Ev) (A : Option Addr) (ms : List MarkD) (c : Nat) (B : Option Addr) (ts : List Tal) (d : Nat) (X : Option Addr) (ex : List Tal) (cx E : Nat), vh = .int .i64 hn ∧ 1 ≤ hn ∧ hn ≤ 3 ∧ q + 24 ≤ 24 * hn ∧ vx = .slice X ex.length cx ∧ LwS w2 g sb l Ap ps Ah hs q wr vl live A ms c B ts d X ex cx E) (fun _ _ vh _ => 3 - (intOf vh).toNat)
  case atStart => exact ⟨1, 0, [], none, [], 0, none, [], 0, none, [], 0, 0, rfl, by omega, by omega, by omega, rfl, S5.out⟩
  case round =>
    clear S5
    obtain ⟨hn, q0, live0, A, ms, c, B, ts, d, X, ex, cx, E, rfl, hn1, hn3, hq0, rfl, hS⟩ := hrel
    have S6 := Lib.hid hS
    clear hS
    by_cases hlt : hn ≤ 2
    · have i2 : (hn : Int) ≤ 2 := by omega
      obtain ⟨k6, hk6⟩ := S6.out.cd
      go_wp2_with fail
      refine (batches_some g l k6 hn _ hk6 (by omega)).mono ?_
      rintro e w7 ⟨Ab, cb, bs, k7, rfl, hb24, hcb, hmb, hrb, hbi, hC7, hg7⟩
      have S7 := Lib.hid (S6.out.next hg7 hC7)
      have B7 : Hid (Bts (Qn w2 sb u7) w7 hn Ab bs) := Lib.hid (by
        have hb0 : Bts (wr.heap.size ≤ ·) w7 hn Ab bs := ⟨hrb, hbi⟩
        exact hb0.mono (fun b hb _ => S6.out.new hb))
      clear hk6 hrb hbi hC7 hg7 S6
      go_wp2_with fail
      obtain ⟨wo, rfl⟩ : ∃ x, x = wr := ⟨_, rfl⟩
      go_loopw [7, 8, 11] (fun vl vx vi wr => ∃ (i : Nat) (live : List Ev) (A : Option Addr) (ms : List MarkD) (c : Nat) (B : Option Addr) (ts : List Tal) (d : Nat) (X : Option Addr) (ex : List Tal) (cx E : Nat), vi = .int .i64 i ∧ i ≤ bs.length ∧ vx = .slice X ex.length cx ∧ LwS w2 g sb l Ap ps Ah hs (q0 + i) wr vl live A ms c B ts d X ex cx E ∧ Bts (Qn w2 sb vl) wr hn Ab bs) (fun _ _ vi _ => bs.length - (intOf vi).toNat)
      case atStart => exact ⟨0, live0, A, ms, c, B, ts, d, X, ex, cx, E, rfl, Nat.zero_le _, rfl, S7.out, B7.out⟩
      case round =>
        clear S7 B7
        obtain ⟨i, live, A, ms, c, B, ts, d, X, ex, cx, E, rfl, hi, rfl, hS, hB⟩ := hrel
        have S8 := Lib.hid hS
        have B8 := Lib.hid hB
        clear hS hB
        by_cases hlt2 : i < bs.length
        · have j1 : (i : Int) < (bs.length : Int) := by omega
          have j2 : (0 : Int) ≤ (i : Int) := by omega
          obtain ⟨y, hy⟩ : ∃ y, bs[i]? = some y := ⟨_, List.getElem?_eq_getElem hlt2⟩
          have hbr := B8.out.1
          obtain ⟨lb, lo, rfl, hlq, hlb, -⟩ := hbr (by rw [flat_len _ 3 BatD.cells_len]; omega)
          obtain ⟨hyh, hyl, hyi⟩ := B8.out.2 y (List.mem_of_getElem? hy)
          have d0 : wr.cell? ⟨lb, lo + i * 3, none⟩ = some (.int .i64 (hn : Int)) := (hbr.flatAt BatD.cells_len hy 0 (by omega)).trans (by simp [BatD.cells, hyh])
          have d1 : wr.cell? ⟨lb, lo + i * 3 + 1, none⟩ = some (.int .i64 y.num) := hbr.flatAt BatD.cells_len hy 1 (by omega)
          have d2 : wr.cell? ⟨lb, lo + i * 3 + 2, none⟩ = some (.slice y.a y.items.length y.c) := hbr.flatAt BatD.cells_len hy 2 (by omega)
          have HY := Lib.hid hyi
          have KA : Hid (∀ (W : World) (tb0 : Nat), wr.grownBy W none → (∀ b, Qn w2 sb u7 b → b < wr.heap.size ∨ W.heap.size ≤ b → b ≠ tb0) → Calls Try.prog 27 #[.agg #[.slice A ms.length c, .slice B ts.length d], .agg #[.int .i64 (hn : Int), .int .i64 y.num, .slice y.a y.items.length y.c]] W (AplP (fun b => Qn w2 sb u7 b ∧ b ≠ tb0) hn (3 * (q0 + i)) (6 * (q0 + i)) (36 * (q0 + i)) y.items.length ts W)) := Lib.hid (fun W tb0 hg hT => apply28_any hn y.num A B ms c ts d _ _ _ y.a y.items y.c W ((S8.out.ink.mono (S' := fun b => Qn w2 sb u7 b ∧ b ≠ tb0) (fun b hb hl => ⟨hb, hT b hb (.inl hl)⟩)).grown hg (by simp)) ((HY.out.mono (S' := fun b => Qn w2 sb u7 b ∧ b ≠ tb0) (fun b hb hl => ⟨hb, hT b hb (.inl hl)⟩)).grown hg (by simp)) (by omega) (by omega) (by omega) (by omega) (fun b hb => ⟨S8.out.new (Nat.le_trans hg.size hb), hT b (S8.out.new (Nat.le_trans hg.size hb)) (.inr hb)⟩))
          have s0 := S8.out.sk.cell 0
          have s1 := S8.out.sk.cell 1
          simp at s0 s1
          have n1 := S8.out.sk.lt
          have n2 : sb ≠ wr.heap.size := by omega
          have n3 : lb ≠ wr.heap.size := by omega
          clear hbr hyi hy
          go_upto_region 15 with fail
          go_cut [12, 13] (fun v12 v13 wx => ApdP w2 sb u7 wr (3 * (q0 + i)) (6 * (q0 + i)) (36 * (q0 + i)) y.items.length ts v12 v13 wx)
          case first =>
            go_region_law (first
              | (go_simp; go_at_call 27; refine (KA.out wr.drew sb (only_drew (only_refl _ _)) (fun b hb _ => hb.2.1)).mono ?_; rintro e wa ⟨A', ms', c', B', ts', d', O, out, oc, r, rfl, hIa, hRa, hla, hoa, hma, hea, hsa, hga⟩; have hgr : wr.grownBy wa none := only_trans (only_drew (only_refl wr none)) hga; have hax : wa.grownBy (wa.alloc (.cells #[.slice A' ms'.length c', .slice B' ts'.length d'] 39)) none := only_alloc (only_refl _ _) _; have HE := Lib.hid (apd_of hIa hRa hla hoa hma hea hsa hax (by simp) (Blk.new wa 39 #[.slice A' ms'.length c', .slice B' ts'.length d']) (S8.out.new hgr.size) (only_trans hgr hax)); clear hIa hRa hla hoa hma hea hsa hga hgr hax)
              | (go_simp; go_at_call 27; refine (KA.out (wr.alloc (.cells #[.slice none 0 0, .slice none 0 0] 39)).drew wr.heap.size (only_drew (only_alloc (only_refl _ _) _)) (fun b hb h => Or.elim h (fun h => by omega) (fun h => by have h0 : wr.heap.size + 1 ≤ b := (by simpa using h); omega))).mono ?_; rintro e wa ⟨A', ms', c', B', ts', d', O, out, oc, r, rfl, hIa, hRa, hla, hoa, hma, hea, hsa, hga⟩; have hgr : wr.grownBy wa none := only_trans (only_drew (only_alloc (only_refl wr none) (.cells #[.slice none 0 0, .slice none 0 0] 39))) hga; have hBa := (Blk.new wr 39 #[.slice none 0 0, .slice none 0 0]).drew.grown hga (by simp); have x0 := hBa.cell 0; have x1 := hBa.cell 1; have f0 := hBa.frozen 0; have f1 := hBa.frozen 1; simp at x0 x1; have hax : wa.grownBy ((wa.setCell ⟨wr.heap.size, 0, none⟩ (.slice A' ms'.length c')).setCell ⟨wr.heap.size, 1, none⟩ (.slice B' ts'.length d')) (some wr.heap.size) := only_setCell (only_setCell (only_refl _ _) (p := ⟨wr.heap.size, 0, none⟩) (.inl rfl) _) (p := ⟨wr.heap.size, 1, none⟩) (.inl rfl) _; have HE := Lib.hid (apd_of hIa hRa hla hoa hma hea hsa hax (fun b hb e => hb.2 (by injection e)) (by simpa using (hBa.set_ 0 (.slice A' ms'.length c')).set_ 1 (.slice B' ts'.length d')) (S8.out.new (Nat.le_refl _)) (only_fresh hgr hax (Nat.le_refl _))); clear hIa hRa hla hoa hma hea hsa hga hgr hax hBa))
            all_goals go_simp
            all_goals go_wp2_with fail
            all_goals go_meet
            all_goals exact HE.out
          case rest =>
            obtain ⟨tb, A', ms', c', B', ts', d', O, out, oc, rfl, rfl, hQ, hTB, hI9, hR9, hl9, ho9, hm9, he9, hs9, hg9⟩ := hcut
            have TB := Lib.hid hTB
            have R9 := Lib.hid hR9
            have TQ := Lib.hid hQ
            have S9 := Lib.hid (S8.out.quiet hg9)
            have HSTEP : Hid (∀ (wy wz : World) (v' : Value), Tr w2 sb u7 v' wc wy wz → wy.ownsRow (sb + 1) 75 10 v' (live.length + out.length) (live.flatMap Ev.cells ++ out.flatMap Ev.cells) → Blk wz sb 39 #[.slice A' ms'.length c', .slice B' ts'.length d'] → LwS w2 g sb l Ap ps Ah hs (q0 + i + 1) wz v' (live ++ out) A' ms' c' B' ts' d' X ex cx E ∧ Bts (Qn w2 sb v') wz hn (some ⟨lb, lo, none⟩) bs) := Lib.hid (fun wy wz v' t ho hB => ⟨S8.out.step hg9 hyl hI9 hl9 he9 hs9 t ho hB, t.bts (B8.out.grown hg9 (by simp))⟩)
            have hnl := S8.out.nl
            have t0 := hTB.cell 0
            have t1 := hTB.cell 1
            simp at t0 t1
            clear hQ hTB hI9 hR9 he9 hs9 hg9 S8 B8 KA HY s0 s1 n1 n2 n3 d0 d1 d2
            go_upto_region 16 with fail
            go_cut [7] (fun v7 wx => ∃ wy, Tr w2 sb u7 v7 wc wy wx ∧ wy.ownsRow (sb + 1) 75 10 v7 (live.length + out.length) (live.flatMap Ev.cells ++ out.flatMap Ev.cells) ∧ Blk wx sb 39 #[.slice A' ms'.length c', .slice B' ts'.length d'])
            case first =>
              have tok1 : True := trivial
              have q1 : sb + 1 ≤ wc.drew.heap.size := Nat.succ_le_of_lt S9.out.sk.lt
              have q2 : live.length + out.length ≤ 10000000 := by omega
              have q3 : Hid ((out.flatMap Ev.cells).length = out.length * 10) := Lib.hid (by rw [flat_len _ 10 Ev.cells_len])
              have q4 : Hid (Rd (Qn w2 sb u7) wc.drew O (out.flatMap Ev.cells)) := Lib.hid (fun h => R9.out h)
              have q5 : Hid (wc.drew.ownsRow (sb + 1) 75 10 u7 live.length (live.flatMap Ev.cells)) := Lib.hid (own_drew S9.out.own)
              go_region_law (refine step_appendN rfl _ _ 31 rfl (sb + 1) Try.underlying31 eventInfo rfl (by decide) (v := u7) (by rfl) q5.out O out.length oc (by rfl) q4.out q3.out (flat_one Ev.one _) (by decide) q2 q1 ?_; intro v8 w8 hown8 hg8' hob8; have hg8 : wc.grownBy w8 u7.ownBlock := only_trans (only_drew (only_refl wc _)) hg8'; have hs8 := S9.out.sk.grown hg8 (fun e => S9.out.nsb e.symm); have s0 := hs8.cell 0; have s1 := hs8.cell 1; have f0 := hs8.frozen 0; have f1 := hs8.frozen 1; simp at s0 s1; have ht8 := TB.out.grown hg8 (fun e => TQ.out.2.2 e.symm); have t0' := ht8.cell 0; have t1' := ht8.cell 1; simp at t0' t1'; clear ht8)
              all_goals
                have HE : Hid (Tr w2 sb u7 v8 wc w8 ((w8.setCell ⟨sb, 0, none⟩ (.slice A' ms'.length c')).setCell ⟨sb, 1, none⟩ (.slice B' ts'.length d')) ∧ w8.ownsRow (sb + 1) 75 10 v8 (live.length + out.length) (live.flatMap Ev.cells ++ out.flatMap Ev.cells) ∧ Blk ((w8.setCell ⟨sb, 0, none⟩ (.slice A' ms'.length c')).setCell ⟨sb, 1, none⟩ (.slice B' ts'.length d')) sb 39 #[.slice A' ms'.length c', .slice B' ts'.length d']) := Lib.hid ⟨⟨hg8, only_setCell (only_setCell (only_refl _ _) (p := ⟨sb, 0, none⟩) (.inl rfl) _) (p := ⟨sb, 1, none⟩) (.inl rfl) _, fun b hb => by
                  rcases hob8 with h | h
                  · exact .inl (by rw [← h]; exact hb)
                  · rw [h] at hb; injection hb with hb; exact .inr (by rw [← hb]; exact Nat.le_refl _)⟩, by simpa using hown8, by simpa using (hs8.set_ 0 (.slice A' ms'.length c')).set_ 1 (.slice B' ts'.length d')⟩
                clear hown8 hg8 hg8' hob8 hs8 s0 s1 f0 f1 q1 q2
                go_simp
                go_wp2_with fail
                go_meet
                exact ⟨w8, HE.out⟩
            case rest =>
              obtain ⟨wy, htr, how, hBz⟩ := hcut
              have h10 := HSTEP.out _ _ _ htr how hBz
              have S10 := Lib.hid h10.1
              have B10 := Lib.hid h10.2
              have hll : (live ++ out).length ≤ 144 := by have := h10.1.nl; omega
              obtain ⟨lv, hlv⟩ : ∃ x, x = live ++ out := ⟨_, rfl⟩
              rw [← hlv] at S10 hll
              obtain ⟨A9, c9, e9, hc9, hm9, -, -⟩ := Rd.of_own S10.out.own (by decide)
              subst e9
              obtain ⟨k10, hk10⟩ := S10.out.cd
              clear htr how hBz h10 hlv HSTEP S9 R9 TB TQ t0 t1
              go_wp2_with fail
              refine (next_some g l k10 6 _ hk10 (by omega) (by omega)).mono ?_
              rintro e w11 ⟨v11, k11, rfl, hv11, hC11, hg11⟩
              have S11 := Lib.hid (S10.out.next hg11 hC11)
              have B11 := Lib.hid (B10.out.grown hg11 (fun b hb e => by have := hb.1; injection e; omega))
              clear hk10 hC11 hg11 S10 B10
              go_upto_if 54 with fail
              go_cut [7, 8] (fun vl vx wx => ∃ (live : List Ev) (X : Option Addr) (ex : List Tal) (cx E : Nat), vx = .slice X ex.length cx ∧ LwS w2 g sb l Ap ps Ah hs (q0 + i + 1) wx vl live A' ms' c' B' ts' d' X ex cx E ∧ Bts (Qn w2 sb vl) wx hn (some ⟨lb, lo, none⟩) bs)
              case first =>
                by_cases h5 : v11 = 5
                · subst h5
                  obtain ⟨k12, hk12⟩ := S11.out.cd
                  go_wp2_with fail
                  refine (time_some g l k12 _ hk12).mono ?_
                  rintro e w12 ⟨v12, k13, rfl, hv12, hC12, hg12⟩
                  have S12 := Lib.hid (S11.out.next hg12 hC12)
                  have B12 := Lib.hid (B11.out.grown hg12 (fun b hb e => by have := hb.1; injection e; omega))
                  have KP : Hid (Calls Try.prog 29 #[.slice Ap ps.length cp, .slice Ah hs.length ch, .int .i64 v12, .slice A9 lv.length c9] w12 (PurgeP lv w12)) := Lib.hid (by
                    obtain ⟨A', c', e', -, -, -, hr⟩ := Rd.of_own S12.out.own (by decide)
                    injection e' with e1 e2 e3
                    subst e1
                    exact purge32_any (S2 := fun _ => True) Ap ps cp Ah hs ch v12 A9 lv c9 w12 S12.out.rp (by omega) S12.out.rh (by omega) hr.tru (by omega) (fun e he => ⟨(S12.out.le e he).1, (S12.out.le e he).2.1, (S12.out.le e he).2.2.mono (fun _ _ _ => trivial)⟩))
                  clear hk12 hC12 hg12 S11 B11
                  go_wp2_with fail
                  refine KP.out.mono ?_
                  rintro e w13 ⟨A13, kept, c13, B13, us, d13, gn, rfl, hP⟩
                  have hl1 := S12.out.lx
                  have hl2 := hP.ink.lt
                  have hl3 := hP.kg
                  have hl4 := S12.out.nl
                  have KM : Hid (Calls Try.prog 11 #[.slice X ex.length cx, .slice B13 us.length d13] w13 (TalsPost w13 (mrg ex us))) := Lib.hid (merge_any X B13 ex us cx d13 w13 (S12.out.rx.grown hP.fr (by simp)).tru hP.ink.rt.tru (by omega) (by omega) S12.out.xc S12.out.xm hP.ink.ct hP.ink.mt (fun t ht => by have := S12.out.tx t ht; omega) (fun t ht => by have := hP.ink.it t ht; omega))
                  have HP := Lib.hid hP
                  clear hP KP
                  go_wp2_with fail
                  refine KM.out.mono ?_
                  rintro e w14 ⟨X14, cx14, rfl, hc14, hm14, hr14, hg14⟩
                  have S14 := Lib.hid (S12.out.purge HP.out hg14 hc14 hm14 hr14)
                  have B14 := Lib.hid ((B12.out.mono (Q' := Qn w2 sb (.slice A13 kept.length c13)) (fun b hb hl => ⟨hb.1, hb.2.1, fun e => by have := (HP.out.own.lt b e).1; omega⟩)).grown HP.out.fr (by simp) |>.grown hg14 (by simp))
                  clear KM HP S12 B12 hg14 hr14
                  go_wp2_with fail
                  go_meet
                  exact ⟨kept, X14, _, cx14, _, rfl, S14.out, B14.out⟩
                · have h5' : (v11 == 5) = false := by simp [h5]
                  go_wp2_with fail
                  go_meet
                  exact ⟨lv, X, ex, cx, E, rfl, S11.out, B11.out⟩
              case rest =>
                obtain ⟨ln, X, ex, cx, E, rfl, hS20, hB20⟩ := hcut
                have S20 := Lib.hid hS20
                have B20 := Lib.hid hB20
                have hnl2 := hS20.nl
                obtain ⟨A21, c21, e21, hc21, hm21, -, hr21⟩ := Rd.of_own hS20.own (by decide)
                subst e21
                have R21 := Lib.hid hr21
                have s0 := hS20.sk.cell 0
                have s1 := hS20.sk.cell 1
                simp at s0 s1
                have KB : Hid (Calls Try.prog 22 #[.agg #[.slice A' ms'.length c', .slice B' ts'.length d'], .slice X ex.length cx, .slice A21 ln.length c21] wc (BoolP (okL (balL ts' ex ln)) wc)) := Lib.hid (bal_call S20.out R21.out (by omega))
                have HOK : Hid (okL (balL ts' ex ln) = true) := Lib.hid (bal_true S20.out.bal)
                rw [HOK.out] at KB
                clear hS20 hB20 hr21 S11 B11
                go_wp2_with fail
                refine KB.out.mono ?_
                rintro e w22 ⟨rfl, hg22⟩
                have S22 := Lib.hid (S20.out.quiet hg22)
                have B22 := Lib.hid (B20.out.grown hg22 (by simp))
                clear KB HOK S20 B20 hg22 s0 s1 R21
                go_wp2_with fail
                go_roundw
                case rel => exact ⟨i + 1, ln, A', ms', c', B', ts', d', X, ex, cx, E, by go_num, by omega, rfl, by rw [← Nat.add_assoc]; exact S22.out, B22.out⟩
                case measure => simp [intOf]; omega
        · obtain rfl : i = bs.length := by omega
          have i1 : ¬ ((bs.length : Int) < (bs.length : Int)) := by omega
          go_wp2_with fail
          go_roundw
          case rel => exact ⟨hn + 1, q0 + bs.length, live, A, ms, c, B, ts, d, X, ex, cx, E, by go_num, by omega, by omega, by omega, rfl, S8.out⟩
          case measure => simp [intOf]; omega
    · obtain rfl : hn = 3 := by omega
      have GF := Lib.hid (only_fresh G2.out S6.out.fr hs1)
      obtain ⟨A9, c9, e9, hc9, hm9, -, hr9⟩ := Rd.of_own S6.out.own (by decide)
      subst e9
      cases live0 with
      | nil =>
        clear hr9 S6
        go_upto_region 22 with fail
        refine wp_region_gen 12 (JC [some (.slice A9 0 c9), some (.int .i64 (0)), some (.bool true), some (.bool true), some (undef), some (undef), some (undef), some (undef), some (undef), some (undef), some (.bool true), some (.bool true)] (fun D u wx => wr.grownBy wx none)) (by kernel_rfl) (by kernel_rfl) ?_ ?_ ?_
        · intro u
          exact ⟨(fun j c _ h => by cases h), only_drew (only_refl _ _)⟩
        · intro AA hA
          have hasz : AA.tmps.size = 84 := by rw [hA]; kernel_rfl
          have ea6 : AA.eval (.tmp 6) = .pointer (some ⟨sb, 0, none⟩) := by rw [hA]; kernel_rfl
          have ea7 : AA.eval (.tmp 7) = .slice A9 0 c9 := by rw [hA]; kernel_rfl
          have ea8 : AA.eval (.tmp 8) = .slice X ex.length cx := by rw [hA]; kernel_rfl
          clear hA
          simp only [List.take_succ_cons, List.take_zero]
          refine .cons ?_ (.cons ?_ (.cons ?_ (.cons ?_ (.cons ?_ (.cons ?_ (.cons ?_ (.cons ?_ (.cons ?_ (.cons ?_ (.cons ?_ (.cons ?_ (.nil))))))))))))
          · exact gd_gen (by kernel_rfl) (Want.none_ rfl) rfl (fun D u w v h => by simpa [updB, upd] using h) (fun D u ρ w kn => by
              have e0 := kn.own 7 (c := .slice A9 0 c9) (by kernel_rfl) ea7
              simp [execOp, kn.rho.con, e0, go_sem])
          · exact gd_gen (by kernel_rfl) (Want.none_ rfl) rfl (fun D u w v h => by simpa [updB, upd] using h) (fun D u ρ w kn => by
              have e0 := kn.con 0 73 (c := .slice A9 0 c9) (by kernel_rfl) (by omega) (by kernel_rfl) rfl
              simp [execOp, kn.rho.con, e0, go_sem])
          · exact gd_gen (by kernel_rfl) (Want.none_ rfl) rfl (fun D u w v h => by simpa [updB, upd] using h) (fun D u ρ w kn => by
              have e0 := kn.con 1 74 (c := .int .i64 (0)) (by kernel_rfl) (by omega) (by kernel_rfl) rfl
              simp [execOp, kn.rho.con, e0, go_sem])
          · exact gd_gen (by kernel_rfl) (Want.none_ rfl) rfl (fun D u w v h => by simpa [updB, upd] using h) (fun D u ρ w kn => by
              have e0 := kn.con 2 75 (c := .bool true) (by kernel_rfl) (by omega) (by kernel_rfl) rfl
              simp [execOp, kn.rho.con, e0, go_sem])
          · exact gd_off (by kernel_rfl) (Want.some_ (g := 3) (v := true) rfl rfl (by kernel_rfl) (by omega) rfl rfl (by kernel_rfl)) (.inr rfl) (fun D u w v h => by simpa [updB, upd] using h)
          · exact gd_off (by kernel_rfl) (Want.some_ (g := 3) (v := true) rfl rfl (by kernel_rfl) (by omega) rfl rfl (by kernel_rfl)) (.inr rfl) (fun D u w v h => by simpa [updB, upd] using h)
          · exact gd_off (by kernel_rfl) (Want.some_ (g := 3) (v := true) rfl rfl (by kernel_rfl) (by omega) rfl rfl (by kernel_rfl)) (.inr rfl) (fun D u w v h => by simpa [updB, upd] using h)
          · exact gd_off (by kernel_rfl) (Want.some_ (g := 3) (v := true) rfl rfl (by kernel_rfl) (by omega) rfl rfl (by kernel_rfl)) (.inr rfl) (fun D u w v h => by simpa [updB, upd] using h)
          · exact gd_off (by kernel_rfl) (Want.some_ (g := 3) (v := true) rfl rfl (by kernel_rfl) (by omega) rfl rfl (by kernel_rfl)) (.inr rfl) (fun D u w v h => by simpa [updB, upd] using h)
          · exact gd_off (by kernel_rfl) (Want.some_ (g := 3) (v := true) rfl rfl (by kernel_rfl) (by omega) rfl rfl (by kernel_rfl)) (.inr rfl) (fun D u w v h => by simpa [updB, upd] using h)
          · exact gd_gen (by kernel_rfl) (Want.none_ rfl) rfl (fun D u w v h => by simpa [updB, upd] using h) (fun D u ρ w kn => by
              have e0 := kn.con 3 76 (c := .bool true) (by kernel_rfl) (by omega) (by kernel_rfl) rfl
              have e1 := kn.con 9 82 (c := undef) (by kernel_rfl) (by omega) (by kernel_rfl) rfl
              simp [execOp, kn.rho.con, e0, e1, go_sem])
          · exact gd_gen (by kernel_rfl) (Want.none_ rfl) rfl (fun D u w v h => by simpa [updB, upd] using h) (fun D u ρ w kn => by
              have e0 := kn.con 10 83 (c := .bool true) (by kernel_rfl) (by omega) (by kernel_rfl) rfl
              simp [execOp, kn.rho.con, e0, go_sem])
        · intro D u w9 hJ hD
          simp only [List.take_succ_cons, List.take_zero, List.drop_succ_cons, List.drop_zero, putAll]
          have hcn := hJ.1
          have x1 := hJ.2
          have e11 : u 11 = .bool true := hcn 11 _ rfl (hD 11 (by omega))
          rw [e11]
          have G9 := Lib.hid (only_trans GF.out x1)
          clear hJ hcn x1 e11 hD
          go_simp
          go_wp2_with fail
          go_ret
          exact ⟨by simp, G9.out⟩
      | cons x es =>
        obtain ⟨b9, o9, rfl, -, hb9, -⟩ := hr9 (by rw [flat_len _ 10 Ev.cells_len]; simp)
        have hx := (S6.out.le x (by simp)).1.l0
        have HF : Hid (okL (balL ts ex es) = false) := Lib.hid (bal_cut S6.out.bal hx S6.out.tx)
        have s0 := S6.out.sk.cell 0
        have s1 := S6.out.sk.cell 1
        simp at s0 s1
        have hc9' : es.length + 1 ≤ c9 := hc9
        have e0 : (0 : Int) ≤ (c9 : Int) - 1 := by omega
        have e1 : (1 : Int) ≤ (c9 : Int) := by omega
        have e2 : (es.length : Int) + 1 ≤ (c9 : Int) := by omega
        have e3 : (1 : Int) ≤ (es.length : Int) + 1 := by omega
        have e4 : ¬ ((es.length : Int) + 1 = 0) := by omega
        obtain ⟨o1, ho1⟩ : ∃ o, o = tailG o9 10 c9 := ⟨_, rfl⟩
        have R9 : Hid (∀ W, wr.grownBy W none → Rd (fun _ => True) W (some ⟨b9, o1, none⟩) (es.flatMap Ev.cells)) := Lib.hid (fun W hg => by
          have h0 : Rd (fun _ => True) wr (some ⟨b9, o9, none⟩) (x.cells ++ es.flatMap Ev.cells) := by
            have := hr9.tru
            simpa using this
          have := h0.tailG_ (z := 10) (n := es.length) (c := c9) rfl (by rw [flat_len _ 10 Ev.cells_len]) hc9'
          rw [ho1]
          exact this.grown hg (by simp))
        have HO1 := Lib.hid ho1.symm
        have SKB := Lib.hid S6.out.sk
        have KB : Hid (∀ W, wr.grownBy W none → Calls Try.prog 22 #[.agg #[.slice A ms.length c, .slice B ts.length d], .slice X ex.length cx, .slice (some ⟨b9, o1, none⟩) es.length (c9 - 1)] W (BoolP false W)) := Lib.hid (fun W hg => by
          have := bal_call (A2 := some ⟨b9, o1, none⟩) (c2 := c9 - 1) (S6.out.quiet hg) (R9.out W hg) (by omega) (fun e he => by simp [he]) (by simp)
          rw [HF.out] at this
          exact this)
        clear hr9 S6 HF R9 hx
        clear ho1 e0 e1 e2 e3
        go_upto_region 22 with fail
        refine wp_region_gen 12 (JC [some (.slice (some ⟨b9, o9, none⟩) (es.length + 1) c9), some (.int .i64 ((es.length : Int) + 1)), some (.bool false), some (.bool false), some (.agg #[.slice A ms.length c, .slice B ts.length d]), some (.slice X ex.length cx), some (.slice (some ⟨b9, o9, none⟩) (es.length + 1) c9), some (.slice (some ⟨b9, o1, none⟩) es.length (c9 - 1)), some (.bool false), some (.bool true), some (.bool true), some (.bool true)] (fun D u wx => wr.grownBy wx none)) (by kernel_rfl) (by kernel_rfl) ?_ ?_ ?_
        · intro u
          exact ⟨(fun j c _ h => by cases h), only_drew (only_refl _ _)⟩
        · intro AA hA
          have hasz : AA.tmps.size = 84 := by rw [hA]; kernel_rfl
          have ea6 : AA.eval (.tmp 6) = .pointer (some ⟨sb, 0, none⟩) := by rw [hA]; kernel_rfl
          have ea7 : AA.eval (.tmp 7) = .slice (some ⟨b9, o9, none⟩) (es.length + 1) c9 := by rw [hA]; kernel_rfl
          have ea8 : AA.eval (.tmp 8) = .slice X ex.length cx := by rw [hA]; kernel_rfl
          clear hA
          simp only [List.take_succ_cons, List.take_zero]
          refine .cons ?_ (.cons ?_ (.cons ?_ (.cons ?_ (.cons ?_ (.cons ?_ (.cons ?_ (.cons ?_ (.cons ?_ (.cons ?_ (.cons ?_ (.cons ?_ (.nil))))))))))))
          · exact gd_gen (by kernel_rfl) (Want.none_ rfl) rfl (fun D u w v h => by simpa [updB, upd] using h) (fun D u ρ w kn => by
              have e0 := kn.own 7 (c := .slice (some ⟨b9, o9, none⟩) (es.length + 1) c9) (by kernel_rfl) ea7
              simp [execOp, kn.rho.con, e0, go_sem])
          · exact gd_gen (by kernel_rfl) (Want.none_ rfl) rfl (fun D u w v h => by simpa [updB, upd] using h) (fun D u ρ w kn => by
              have e0 := kn.con 0 73 (c := .slice (some ⟨b9, o9, none⟩) (es.length + 1) c9) (by kernel_rfl) (by omega) (by kernel_rfl) rfl
              simp [execOp, kn.rho.con, e0, go_sem])
          · exact gd_gen (by kernel_rfl) (Want.none_ rfl) rfl (fun D u w v h => by simpa [updB, upd] using h) (fun D u ρ w kn => by
              have e0 := kn.con 1 74 (c := .int .i64 ((es.length : Int) + 1)) (by kernel_rfl) (by omega) (by kernel_rfl) rfl
              simp [execOp, kn.rho.con, e0, go_sem, e4])
          · exact gd_gen (by kernel_rfl) (Want.none_ rfl) rfl (fun D u w v h => by simpa [updB, upd] using h) (fun D u ρ w kn => by
              have e0 := kn.con 2 75 (c := .bool false) (by kernel_rfl) (by omega) (by kernel_rfl) rfl
              simp [execOp, kn.rho.con, e0, go_sem])
          · exact gd_gen (by kernel_rfl) (Want.some_ (g := 3) (v := false) rfl rfl (by kernel_rfl) (by omega) rfl rfl (by kernel_rfl)) rfl (fun D u w v h => by simpa [updB, upd] using h) (fun D u ρ w kn => by
              have e0 := kn.own 6 (c := .pointer (some ⟨sb, 0, none⟩)) (by kernel_rfl) ea6
              exact run_load ρ w rfl e0 (load_ink w sb _ _ (SKB.out.grown kn.ext (by simp)) rfl rfl))
          · exact gd_gen (by kernel_rfl) (Want.some_ (g := 3) (v := false) rfl rfl (by kernel_rfl) (by omega) rfl rfl (by kernel_rfl)) rfl (fun D u w v h => by simpa [updB, upd] using h) (fun D u ρ w kn => by
              have e0 := kn.own 8 (c := .slice X ex.length cx) (by kernel_rfl) ea8
              simp [execOp, kn.rho.con, e0, go_sem])
          · exact gd_gen (by kernel_rfl) (Want.some_ (g := 3) (v := false) rfl rfl (by kernel_rfl) (by omega) rfl rfl (by kernel_rfl)) rfl (fun D u w v h => by simpa [updB, upd] using h) (fun D u ρ w kn => by
              have e0 := kn.own 7 (c := .slice (some ⟨b9, o9, none⟩) (es.length + 1) c9) (by kernel_rfl) ea7
              simp [execOp, kn.rho.con, e0, go_sem])
          · exact gd_gen (by kernel_rfl) (Want.some_ (g := 3) (v := false) rfl rfl (by kernel_rfl) (by omega) rfl rfl (by kernel_rfl)) rfl (fun D u w v h => by simpa [updB, upd] using h) (fun D u ρ w kn => by
              have e0 := kn.con 6 79 (c := .slice (some ⟨b9, o9, none⟩) (es.length + 1) c9) (by kernel_rfl) (by omega) (by kernel_rfl) rfl
              rw [← HO1.out]
              exact run_tailG ρ w rfl Try.underlying31 (by kernel_rfl) (fun v => kn.rho.con v) e0 hc9')
          · refine gd_call (by kernel_rfl) (Want.some_ (g := 3) (v := false) rfl rfl (by kernel_rfl) (by omega) rfl rfl (by kernel_rfl)) 22 (fun D u ρ wx kn hD => ?_)
            have e0 := kn.con 4 77 (c := .agg #[.slice A ms.length c, .slice B ts.length d]) (by kernel_rfl) (by omega) (by kernel_rfl) rfl
            have e1 := kn.con 5 78 (c := .slice X ex.length cx) (by kernel_rfl) (by omega) (by kernel_rfl) rfl
            have e2 := kn.con 7 80 (c := .slice (some ⟨b9, o1, none⟩) es.length (c9 - 1)) (by kernel_rfl) (by omega) (by kernel_rfl) rfl
            refine ⟨#[.agg #[.slice A ms.length c, .slice B ts.length d], .slice X ex.length cx, .slice (some ⟨b9, o1, none⟩) es.length (c9 - 1)], ?_, (KB.out wx kn.ext).mono ?_⟩
            · simp only [execOp, resolve, Deferred.ofValue, List.map_toArray, List.map_cons, List.map_nil, e0, e1, e2, kn.rho.con, kn.rho.fn]
              simp [go_sem]
            · rintro e w' ⟨rfl, hg⟩
              exact ⟨_, rfl, (fun c h => by injection h with h; injection h), only_trans kn.ext hg⟩
          · exact gd_gen (by kernel_rfl) (Want.some_ (g := 3) (v := false) rfl rfl (by kernel_rfl) (by omega) rfl rfl (by kernel_rfl)) rfl (fun D u w v h => by simpa [updB, upd] using h) (fun D u ρ w kn => by
              have e0 := kn.con 8 81 (c := .bool false) (by kernel_rfl) (by omega) (by kernel_rfl) rfl
              simp [execOp, kn.rho.con, e0, go_sem])
          · exact gd_gen (by kernel_rfl) (Want.none_ rfl) rfl (fun D u w v h => by simpa [updB, upd] using h) (fun D u ρ w kn => by
              have e0 := kn.con 3 76 (c := .bool false) (by kernel_rfl) (by omega) (by kernel_rfl) rfl
              have e1 := kn.con 9 82 (c := .bool true) (by kernel_rfl) (by omega) (by kernel_rfl) rfl
              simp [execOp, kn.rho.con, e0, e1, go_sem])
          · exact gd_gen (by kernel_rfl) (Want.none_ rfl) rfl (fun D u w v h => by simpa [updB, upd] using h) (fun D u ρ w kn => by
              have e0 := kn.con 10 83 (c := .bool true) (by kernel_rfl) (by omega) (by kernel_rfl) rfl
              simp [execOp, kn.rho.con, e0, go_sem])
        · intro D u w9 hJ hD
          simp only [List.take_succ_cons, List.take_zero, List.drop_succ_cons, List.drop_zero, putAll]
          have hcn := hJ.1
          have x1 := hJ.2
          have e11 : u 11 = .bool true := hcn 11 _ rfl (hD 11 (by omega))
          rw [e11]
          have G9 := Lib.hid (only_trans GF.out x1)
          clear hJ hcn x1 e11 hD
          go_simp
          go_wp2_with fail
          go_ret
          exact ⟨by simp, G9.out⟩
end Go.Proofs.Ytiogpomgpknjlaa
