/- Encode: the reference of chapter 27, at good events. Conditions: good events. -/
import Derived.Test.YtpaiideboodaeaaGreatDoorJChkA
import Derived.Lib.SlBytesConst
import Derived.Test.YtpaiideboodaeaaGreatDoorJRIdx
import Derived.Lib.SliceRun
import Derived.Lib.AppendZeros
import Derived.Deep.DeepCutAuto
import Derived.Test.YtpaiideboodaeaaGreatDoorJGenC
namespace Go.Proofs.YtpaiideboodaeaaGreatDoor
open Go.RowKit
set_option linter.unusedVariables false
set_option linter.unusedSimpArgs false

/-- the bytes of a section -/
noncomputable def secX (es : List Ev) (j : Nat) : List Int :=
  if j ≤ 6 then colX (numsX es j) else if j ≤ 8 then idxX (txtsX es j) else if j = 9 then linesX es else if j = 10 then fieldsX es else if j = 11 then indexX es else filX es
def firstT (es : List Ev) : Nat := ((es.head?.map Ev.time).getD 0).toNat
def lastT (es : List Ev) : Nat := ((es.getLast?.map Ev.time).getD 0).toNat
noncomputable def headTo (es : List Ev) : Nat → List Int
  | 0 => [76, 84, 83, 49] ++ beB 4 es.length ++ beB 8 (firstT es) ++ beB 8 (lastT es)
  | k + 1 => headTo es k ++ beB 4 (secX es (k + 1)).length ++ beB 4 (crcN (secX es (k + 1)))
noncomputable def bodyTo (es : List Ev) : Nat → List Int
  | 0 => []
  | k + 1 => bodyTo es k ++ secX es (k + 1)
noncomputable def encX (es : List Ev) : List Int := headTo es 12 ++ beB 4 (crcN (headTo es 12)) ++ bodyTo es 12
theorem headTo_len (es : List Ev) : ∀ k, (headTo es k).length = 24 + 8 * k
  | 0 => by simp [headTo, beB_len]
  | k + 1 => by
    have := headTo_len es k
    simp only [headTo, List.length_append, beB_len]
    omega
/-- good events: what Encode asks -/
structure EvE (e : Ev) : Prop where
  s : EvS e
  c : EvC e
theorem EvE.num {e : Ev} (h : EvE e) (j : Nat) : I64 (numX e j) := by
  obtain ⟨-, h⟩ := h
  have h0 := h.h0; have h1 := h.h1; have f0 := h.f0; have f1 := h.f1; have b0 := h.b0; have bf := h.bf; have f2 := h.f2; have t0 := h.t0; have t1 := h.t1
  have hw := h.wt
  unfold IsWeight at hw
  unfold I64 numX
  split
  · omega
  · split
    · omega
    · split
      · omega
      · split
        · omega
        · split
          · omega
          · split <;> omega
theorem chain_i64 : ∀ {xs : List LineD} {a b : Int}, Chain a xs b → 0 ≤ a → b ≤ 60000 → ∀ x ∈ xs, I64 x.off ∧ I64 x.len
  | [], _, _, _, _, _, x, hx => by cases hx
  | y :: ys, a, b, h, h0, h1, x, hx => by
    obtain ⟨e1, e2, e3, e4⟩ := h
    have hle := e4.le
    rcases List.mem_cons.1 hx with rfl | hx
    · unfold I64; omega
    · exact chain_i64 e4 (by omega) h1 x hx
theorem EvE.l {e : Ev} (h : EvE e) : EvL e := ⟨h.s, chain_i64 h.c.ch h.c.b0 h.c.f2⟩
theorem secX_len {es : List Ev} (hs : ∀ e ∈ es, EvE e) (hl : es.length ≤ 40) (j : Nat) : (secX es j).length ≤ (if j ≤ 6 then 411 else if j ≤ 8 then 11000 else if j = 9 then 20000 else if j = 10 then 1914000 else if j = 11 then 6921500 else 8195) := by
  have hS : ∀ e ∈ es, EvS e := fun e he => (hs e he).s
  unfold secX
  split
  · have h := colX_len (vs := numsX es j) (fun x hx => by obtain ⟨e, he, rfl⟩ := List.mem_map.1 hx; exact (hs e he).num j) (by unfold numsX; rw [List.length_map]; omega)
    unfold numsX at h ⊢
    rw [List.length_map] at h
    omega
  · split
    · exact idxX_len (fun x hx => by
        obtain ⟨e, he, rfl⟩ := List.mem_map.1 hx
        have h1 := (hS e he).2.2.2.2.2
        split <;> omega) (by unfold txtsX; rw [List.length_map]; exact hl)
    · split
      · have h0 := lnsL_len (fun e he => (hs e he).l) hl
        have hm := lnsL_mem (fun e he => (hs e he).l)
        have h1 := colX_len (vs := cntL es) (fun x hx => by obtain ⟨e, he, rfl⟩ := List.mem_map.1 hx; have := (hS e he).1; exact i64_small (by omega)) (by unfold cntL; rw [List.length_map]; omega)
        have h2 := colX_len (vs := (lnsL es).map (·.off)) (fun x hx => by obtain ⟨e, he, rfl⟩ := List.mem_map.1 hx; exact (hm e he).2.1) (by rw [List.length_map]; omega)
        have h3 := colX_len (vs := (lnsL es).map (·.len)) (fun x hx => by obtain ⟨e, he, rfl⟩ := List.mem_map.1 hx; exact (hm e he).2.2) (by rw [List.length_map]; omega)
        have h4 := colX_len (vs := (lnsL es).map (fun x => (x.text.size : Int))) (fun x hx => by obtain ⟨e, he, rfl⟩ := List.mem_map.1 hx; have := (hm e he).1; exact i64_small (by omega)) (by rw [List.length_map]; omega)
        have h5 := txtL_len (lnsL es) (fun x hx => (hm x hx).1)
        have hc : (cntL es).length = es.length := by unfold cntL; rw [List.length_map]
        rw [List.length_map] at h2 h3 h4
        have g1 := blkP_len (b := colX (cntL es)) (by omega)
        have g2 := blkP_len (b := colX ((lnsL es).map (·.off))) (by omega)
        have g3 := blkP_len (b := colX ((lnsL es).map (·.len))) (by omega)
        have g4 := blkP_len (b := colX ((lnsL es).map (fun x => (x.text.size : Int)))) (by omega)
        unfold linesX
        simp only [List.length_append]
        omega
      · split
        · have hn := namesX_len hS hl
          have h := fieldsTo_len hS hl (namesX_sz hS) hn (namesX es).length
          unfold fieldsX
          omega
        · split
          · have hn := wordsX_len hS hl
            have h := idxTo_len hl (fun x hx => by have := wordsX_sz es x hx; omega : ∀ x ∈ wordsX es, x.size ≤ 250) hn (wordsX es).length
            unfold indexX
            omega
          · exact filX_len es
theorem bodyTo_step (es : List Ev) (k : Nat) : (bodyTo es (k + 1)).length = (bodyTo es k).length + (secX es (k + 1)).length := by rw [bodyTo, List.length_append]
def secB (k : Nat) : Nat := if k ≤ 6 then 411 * k else if k ≤ 8 then 2466 + 11000 * (k - 6) else if k = 9 then 44466 else if k = 10 then 1958466 else if k = 11 then 8879966 else 8888161
theorem bodyTo_len' {es : List Ev} (hs : ∀ e ∈ es, EvE e) (hl : es.length ≤ 40) : ∀ k, k ≤ 12 → (bodyTo es k).length ≤ secB k
  | 0, _ => by simp [bodyTo]
  | k + 1, hk => by
    have ih := bodyTo_len' hs hl k (by omega)
    have h := secX_len hs hl (k + 1)
    rw [bodyTo_step]
    generalize (bodyTo es k).length = a at *
    generalize (secX es (k + 1)).length = b at *
    unfold secB at *
    have hc : k = 0 ∨ k = 1 ∨ k = 2 ∨ k = 3 ∨ k = 4 ∨ k = 5 ∨ k = 6 ∨ k = 7 ∨ k = 8 ∨ k = 9 ∨ k = 10 ∨ k = 11 := by omega
    clear hs hl hk
    rcases hc with rfl | rfl | rfl | rfl | rfl | rfl | rfl | rfl | rfl | rfl | rfl | rfl <;> simp at ih h ⊢ <;> omega
theorem bodyTo_len {es : List Ev} (hs : ∀ e ∈ es, EvE e) (hl : es.length ≤ 40) {k : Nat} (hk : k ≤ 12) : (bodyTo es k).length ≤ 8900000 := by
  have h := bodyTo_len' hs hl k hk
  have hb : secB k ≤ 8900000 := by unfold secB; split; omega; split; omega; split; omega; split; omega; split <;> omega
  omega
theorem section_any {S : Nat → Prop} (A : Option Addr) (es : List Ev) (c j : Nat) (w : World) (hev : Evs S w A es) (hel : es.length ≤ 40) (hs : ∀ e ∈ es, EvE e) (h1 : 1 ≤ j) (h2 : j ≤ 12) :
    Calls Tryz.prog 50 #[.slice A es.length c, .int .i64 j] w (NewB w (secX es j)) := by
  have hS : ∀ e ∈ es, EvS e := fun e he => (hs e he).s
  unfold secX
  split
  · exact section_num A es c j w hev (by omega) h1 (by assumption) (fun e he => (hs e he).num j)
  · split
    · exact section_txt A es c j w hev (by omega) (by omega) (by assumption) hS
    · have hj : j = 9 ∨ j = 10 ∨ j = 11 ∨ j = 12 := by omega
      rcases hj with rfl | rfl | rfl | rfl
      · rw [if_pos rfl]; exact section_lin A es c w hev hel (fun e he => (hs e he).l)
      · rw [if_neg (by decide), if_pos rfl]; exact section_fld A es c w hev hel hS
      · rw [if_neg (by decide), if_neg (by decide), if_pos rfl]; exact section_wds A es c w hev hel hS
      · rw [if_neg (by decide), if_neg (by decide), if_neg (by decide)]; exact section_fil A es c w hev hel hS
def EncP (w : World) (xs : List Int) (e : Ending) (w' : World) : Prop := ∃ v, e = .returned (.tuple #[v, .int .i64 0]) ∧ Byts w.heap.size w' v xs ∧ w.grownBy w' none
theorem firstT_cons (x : Ev) (xs : List Ev) : firstT (x :: xs) = x.time.toNat := rfl
theorem firstT_at {es : List Ev} {x : Ev} (hx : es[0]? = some x) : firstT es = x.time.toNat := by
  cases es with
  | nil => simp at hx
  | cons y ys =>
    simp at hx
    rw [firstT_cons, hx]
theorem lastT_at {es : List Ev} {m : Nat} {y : Ev} (hm : es.length = m + 1) (hy : es[m]? = some y) : lastT es = y.time.toNat := by
  unfold lastT
  rw [List.getLast?_eq_getElem?, hm, Nat.add_sub_cancel, hy]
  rfl
set_option maxHeartbeats 16000000 in
set_option maxRecDepth 100000 in
theorem rencode27_any {S : Nat → Prop} (A : Option Addr) (es : List Ev) (c : Nat) (w : World) (hev : Evs S w A es) (hel : es.length ≤ 40) (hs : ∀ e ∈ es, EvE e) (hr : SrtE es) :
    Calls Tryz.prog 20 #[.slice A es.length c] w (EncP w (encX es)) := by
  have HEV := Lib.hid (hev.mono (S' := fun b => b < w.heap.size) (fun b _ h => h))
  have KC := Lib.hid (check27_any A es c w hev hel (fun e he => (hs e he).s) (fun e he => (hs e he).c) hr)
  have KS := Lib.hid (fun (j : Nat) (h1 : 1 ≤ j) (h2 : j ≤ 12) (w' : World) (hg : w.grownBy w' none) => section_any A es c j w' (hev.grown hg (by simp)) hel hs h1 h2)
  have HSL : Hid (∀ j, 1 ≤ j → j ≤ 12 → (secX es j).length ≤ 7000000) := Lib.hid (fun j h1 h2 => by
    have h := secX_len hs hel j
    split at h
    · omega
    · split at h
      · omega
      · split at h
        · omega
        · split at h
          · omega
          · split at h <;> omega)
  have HBL : Hid (∀ k, k ≤ 12 → (bodyTo es k).length ≤ 8900000) := Lib.hid (fun k hk => bodyTo_len hs hel hk)
  have HHL := Lib.hid (headTo_len es)
  have HCN := Lib.hid crcN_lt
  have HT : Hid (∀ e ∈ es, 0 ≤ e.time ∧ e.time ≤ 253402300799999) := Lib.hid (fun e he => ⟨(hs e he).c.t0, (hs e he).c.t1⟩)
  have HH0 : Hid (headTo es 0 = [76, 84, 83, 49] ++ beB 4 es.length ++ beB 8 (firstT es) ++ beB 8 (lastT es)) := Lib.hid rfl
  have HH1 : Hid (∀ k, headTo es (k + 1) = headTo es k ++ beB 4 (secX es (k + 1)).length ++ beB 4 (crcN (secX es (k + 1)))) := Lib.hid (fun k => rfl)
  have HB1 : Hid (∀ k, bodyTo es (k + 1) = bodyTo es k ++ secX es (k + 1)) := Lib.hid (fun k => rfl)
  have HX : Hid (encX es = headTo es 12 ++ beB 4 (crcN (headTo es 12)) ++ bodyTo es 12) := Lib.hid rfl
  have HFL : Hid (firstT es < 18446744073709551616 ∧ lastT es < 18446744073709551616) := Lib.hid (by
    constructor
    · cases es with
      | nil => have h0 : firstT ([] : List Ev) = 0 := rfl; omega
      | cons x xs => rw [firstT_cons]; have := HT.out x (List.mem_cons_self ..); omega
    · rcases Nat.eq_zero_or_pos es.length with h | h
      · have h0 : lastT ([] : List Ev) = 0 := rfl
        rw [List.eq_nil_of_length_eq_zero h]; omega
      · rw [lastT_at (m := es.length - 1) (by omega) (List.getElem?_eq_getElem (by omega))]
        have := HT.out _ (List.getElem_mem (show es.length - 1 < es.length by omega))
        omega)
  have HF0 : Hid (∀ x, es[0]? = some x → firstT es = x.time.toNat) := Lib.hid (fun x hx => firstT_at hx)
  have HFZ : Hid (es.length = 0 → firstT es = 0 ∧ lastT es = 0) := Lib.hid (fun h => by rw [List.eq_nil_of_length_eq_zero h]; exact ⟨rfl, rfl⟩)
  have HLT : Hid (∀ m y, es.length = m + 1 → es[m]? = some y → lastT es = y.time.toNat) := Lib.hid (fun m y hm hy => lastT_at hm hy)
  obtain ⟨tf, htf⟩ : ∃ t, t = firstT es := ⟨_, rfl⟩
  obtain ⟨tl, htl⟩ : ∃ t, t = lastT es := ⟨_, rfl⟩
  rw [← htf] at HFL HF0 HFZ HH0
  rw [← htl] at HFL HFZ HLT HH0
  obtain ⟨R, hR⟩ : ∃ r, r = encX es := ⟨_, rfl⟩
  rw [← hR] at HX ⊢
  clear hev hs hr htf htl hR
  go_enter Tryz.func20, Tryz.ntmps20
  go_wp2_with fail
  refine KC.out.mono ?_
  rintro en w1 ⟨rfl, hg1⟩
  have G1 := Lib.hid hg1
  clear hg1 KC
  go_upto_if 18 with fail
  go_cut [5, 6] (fun va vb wx => va = .int .i64 (tf : Nat) ∧ vb = .int .i64 (tl : Nat) ∧ ∃ q, wx = w1.drewN q)
  case first =>
    by_cases h0 : es.length = 0
    · obtain ⟨z1, z2⟩ := HFZ.out h0
      have i1 : ¬ (0 : Int) < (es.length : Int) := by omega
      clear h0
      go_wp2_with fail
      go_meet
      exact ⟨by rw [z1]; rfl, by rw [z2]; rfl, 0, rfl⟩
    · obtain ⟨m, hm⟩ : ∃ m, es.length = m + 1 := ⟨es.length - 1, by omega⟩
      obtain ⟨x, hx⟩ : ∃ x, es[0]? = some x := ⟨_, List.getElem?_eq_getElem (by omega)⟩
      obtain ⟨y, hy⟩ : ∃ y, es[m]? = some y := ⟨_, List.getElem?_eq_getElem (by omega)⟩
      have hxt := HF0.out x hx
      have hyt := HLT.out m y hm hy
      obtain ⟨kb, ko, eE, -, -, -, -, -, -, x5, -, -, -, -⟩ := ev_in (HEV.out.1.grown G1.out (by simp)) hx
      subst eE
      obtain ⟨kb', ko', eE, -, -, -, -, -, -, y5, -, -, -, -⟩ := ev_in (HEV.out.1.grown G1.out (by simp)) hy
      injection eE with eE
      injection eE with e1 e2
      subst e1 e2
      have hx0 := (HT.out x (List.mem_of_getElem? hx)).1
      have hy0 := (HT.out y (List.mem_of_getElem? hy)).1
      have ex : x.time = (tf : Int) := by omega
      have ey : y.time = (tl : Int) := by omega
      rw [ex] at x5
      rw [ey] at y5
      simp only [Nat.zero_mul, Nat.add_zero] at x5
      have i1 : (0 : Int) < (es.length : Int) := by omega
      have i2 : (es.length : Int) - 1 = (m : Int) := by omega
      have i3 : (m : Int) < (es.length : Int) := by omega
      have hwk : IntKind.i64.wrap (m : Int) = (m : Int) := IntWalk.i64_in _ (by omega)
      clear hx hy hxt hyt hx0 hy0 ex ey hm h0
      go_wp2_with fail
      go_quiet (fail)
      go_wp2_with fail
      go_meet
      exact ⟨rfl, rfl, nq, rfl⟩
  case rest =>
    obtain ⟨rfl, rfl, q, hwc⟩ := hcut
    have G2 : Hid (w.grownBy wc none) := Lib.hid (by rw [hwc]; exact only_drewN G1.out q)
    clear hwc G1
    obtain ⟨w1, rfl⟩ : ∃ w1 : World, w1 = wc := ⟨_, rfl⟩
    have kc := fun (w : World) (C : Array Value) (n c : Nat) => Lib.run_convert_bytes_const (P := Tryz.prog) w 22 5 C n c Tryz.underlying22 Tryz.underlying5
    have hfl1 := HFL.out.1
    have hfl2 := HFL.out.2
    go_wp2_with fail
    obtain ⟨W0, hW0⟩ : ∃ W, W = w1.alloc (.cells #[.int .u8 76, .int .u8 84, .int .u8 83, .int .u8 49] 5 (4, 5)) := ⟨_, rfl⟩
    have g0 : w1.grownBy W0 none := by rw [hW0]; exact only_alloc (only_refl _ _) _
    have hr0 : Rd (fun _ => True) W0 (some ⟨w1.heap.size, 0, none⟩) (([76, 84, 83, 49] : List Int).map (.int .u8)) := fun _ => ⟨w1.heap.size, 0, rfl, trivial, by rw [hW0]; simp, fun j u hu => by
      rw [Nat.zero_add, cell_of_row W0 w1.heap.size j _ _ (4, 5) (by rw [hW0]; exact heap_alloc_new w1 _)]
      simpa using hu⟩
    have KP0 := Lib.hid (sput_full (some ⟨w1.heap.size, 0, none⟩) [76, 84, 83, 49] es.length 4 W0 hr0 (by decide) (by decide) (by decide) (by decide) (by omega))
    rw [← hW0]
    clear hW0 kc hr0
    have G3 := Lib.hid g0
    have hz0 := g0.size
    clear g0
    refine KP0.out.mono ?_
    rintro en w3 ⟨v3, rfl, hB3, hG3⟩
    have B3 := Lib.hid (hB3.base hz0)
    have G4 : Hid (w1.grownBy w3 none) := Lib.hid (only_trans G3.out hG3)
    have hz3 := G4.out.size
    clear hB3 hG3 KP0 G3
    go_wp2_with fail
    refine (sput_any w1.heap.size _ _ tf 8 w3 B3.out (by simp [beB_len]) (by decide) hfl1 hz3).mono ?_
    rintro en w4 ⟨v4, rfl, hB4, hO4⟩
    have B4 := Lib.hid hB4
    have G5 : Hid (w1.grownBy w4 none) := Byts.only B3.out hO4 G4.out (Nat.le_refl _)
    have hz4 := G5.out.size
    clear hB4 hO4 B3 G4
    go_wp2_with fail
    refine (sput_any w1.heap.size _ _ tl 8 w4 B4.out (by simp [beB_len]) (by decide) hfl2 hz4).mono ?_
    rintro en w5 ⟨v5, rfl, hB5, hO5⟩
    have B5 : Hid (Byts w1.heap.size w5 v5 (headTo es 0)) := Lib.hid (by rw [HH0.out]; exact hB5)
    have G6 : Hid (w1.grownBy w5 none) := Byts.only B4.out hO5 G5.out (Nat.le_refl _)
    clear hB5 hO5 B4 G5 hfl1 hfl2
    have HY0 : Hid (bodyTo es 0 = []) := Lib.hid rfl
    go_wp2_with fail
    go_loopw [7, 8, 9] (fun vb vy vk wr => ∃ k : Nat, vk = .int .i64 ((k : Int) + 1) ∧ k ≤ 12 ∧ Byts w1.heap.size wr vb (headTo es k) ∧ Byts w1.heap.size wr vy (bodyTo es k) ∧ Apt vb vy ∧ w1.grownBy wr none) (fun _ _ vk _ => 13 - (intOf vk).toNat)
    case atStart => exact ⟨0, rfl, by omega, B5.out, by rw [HY0.out]; exact Byts.nil _ _, fun g _ h => by simp [Value.ownBlock] at h, G6.out⟩
    case round =>
      clear B5 G6 HY0 hz0 hz3 hz4
      obtain ⟨k, rfl, hk, hB, hY, hA, hG⟩ := hrel
      have BB := Lib.hid hB
      have BY := Lib.hid hY
      have AP := Lib.hid hA
      have G := Lib.hid hG
      have hbr := hG.size
      obtain ⟨vB, hvB⟩ : ∃ v, v = u7 := ⟨_, rfl⟩
      obtain ⟨vY, hvY⟩ : ∃ v, v = u8 := ⟨_, rfl⟩
      rw [← hvB] at BB AP ⊢
      rw [← hvY] at BY AP ⊢
      clear hB hY hA hG hvB hvY
      have hhl := HHL.out k
      by_cases hlt : k < 12
      · have KS1 := KS.out (k + 1) (by omega) (by omega) wr (only_trans G2.out G.out)
        rw [show ((k + 1 : Nat) : Int) = (k : Int) + 1 from by omega] at KS1
        have KS1 := Lib.hid KS1
        have hsl := HSL.out (k + 1) (by omega) (by omega)
        have hbl := HBL.out (k + 1) (by omega)
        have HN1 := Lib.hid (HH1.out k)
        have HN2 := Lib.hid (HB1.out k)
        have hcn := HCN.out (secX es (k + 1))
        obtain ⟨sx, hsx⟩ : ∃ s, s = secX es (k + 1) := ⟨_, rfl⟩
        rw [← hsx] at KS1 hsl HN1 HN2 hcn
        obtain ⟨cn, hcnd⟩ : ∃ c, c = crcN sx := ⟨_, rfl⟩
        rw [← hcnd] at HN1 hcn
        rw [HN2.out, List.length_append] at hbl
        have HCN1 := Lib.hid hcnd
        have i1 : (k : Int) + 1 ≤ 12 := by omega
        clear hsx hcnd
        go_wp2_with fail
        refine KS1.out.mono ?_
        intro en w3 hN
        obtain ⟨AS, cS, rfl, -, -, b3, hg3⟩ := hN.row
        have G3 := Lib.hid (only_trans G.out hg3)
        have BB3 : Hid (Byts w1.heap.size w3 vB (headTo es k)) := Lib.hid (own_ext BB.out hg3)
        have BY3 : Hid (Byts w1.heap.size w3 vY (bodyTo es k)) := Lib.hid (own_ext BY.out hg3)
        have RS3 := Lib.hid (b3.mono (S' := fun b => wr.heap.size ≤ b ∧ b < w3.heap.size) (fun b h1 h2 => ⟨h1, h2⟩))
        have HNB : Hid (∀ b, (wr.heap.size ≤ b ∧ b < w3.heap.size) → some b ≠ vB.ownBlock) := Lib.hid (fun b hb e => by have := BB.out.below b e.symm; omega)
        have HNY : Hid (∀ b, (wr.heap.size ≤ b ∧ b < w3.heap.size) → some b ≠ vY.ownBlock) := Lib.hid (fun b hb e => by have := BY.out.below b e.symm; omega)
        have hz3 := G3.out.size
        have hz33 := hg3.size
        clear b3 hg3 hN KS1 BB BY
        go_wp2_with fail
        refine (sput_any w1.heap.size vB (headTo es k) sx.length 4 w3 BB3.out (by omega) (by decide) (by omega) hz3).mono ?_
        rintro en w4 ⟨v4, rfl, hB4, hO4⟩
        have BB4 := Lib.hid hB4
        have BY4 : Hid (Byts w1.heap.size w4 vY (bodyTo es k)) := Lib.hid (BY3.out.keepA AP.out.symm hO4)
        have AP4 : Hid (Apt v4 vY) := Lib.hid (AP.out.symm.onto hO4 BY3.out.below).symm
        have G4 : Hid (w1.grownBy w4 none) := BB3.out.only hO4 G3.out (Nat.le_refl _)
        have RS4 := Lib.hid (RS3.out.grown hO4.1 HNB.out)
        have HNB4 : Hid (∀ b, (wr.heap.size ≤ b ∧ b < w3.heap.size) → some b ≠ v4.ownBlock) := Lib.hid (hO4.ne (fun b hb => hb.2) HNB.out)
        have hz4 := G4.out.size
        clear hB4 hO4 BB3 BY3 RS3 HNB AP
        have KC := Lib.hid (crc_any AS sx cS w4 RS4.out (by omega))
        go_wp2_with fail
        refine KC.out.mono ?_
        rintro en w5 ⟨rfl, rfl⟩
        rw [← HCN1.out]
        clear KC
        go_wp2_with fail
        refine (sput_any w1.heap.size v4 (headTo es k ++ beB 4 sx.length) cn 4 w5 BB4.out (by rw [List.length_append, beB_len]; omega) (by decide) (by omega) hz4).mono ?_
        rintro en w6 ⟨v6, rfl, hB6, hO6⟩
        have BB6 : Hid (Byts w1.heap.size w6 v6 (headTo es (k + 1))) := Lib.hid (by rw [HN1.out]; exact hB6)
        have BY6 : Hid (Byts w1.heap.size w6 vY (bodyTo es k)) := Lib.hid (BY4.out.keepA AP4.out.symm hO6)
        have AP6 : Hid (Apt v6 vY) := Lib.hid (AP4.out.symm.onto hO6 BY4.out.below).symm
        have G6 : Hid (w1.grownBy w6 none) := BB4.out.only hO6 G4.out (Nat.le_refl _)
        have RS6 := Lib.hid (RS4.out.grown hO6.1 HNB4.out)
        have hz6 := G6.out.size
        clear hB6 hO6 BB4 BY4 RS4 HNB4 AP4
        go_wp2_with (at_builtin; go_must (refine wpList_appendN rfl _ _ 22 rfl w1.heap.size Tryz.underlying22 byteInfo rfl (by decide) (v := vY) (by rfl) BY6.out AS sx.length cS (by rfl) RS6.out (by simp) (byte_ones _) (by decide) (by omega) hz6 ?_); intro v7 w7 hown7 hg7 hob7)
        have hO7 : Onto w6 vY v7 w7 := onto_apN hg7 hob7
        have BY7 : Hid (Byts w1.heap.size w7 v7 (bodyTo es (k + 1))) := Lib.hid (by
          rw [HN2.out]
          unfold Byts
          rw [List.length_append, List.map_append]
          exact hown7)
        have BB7 : Hid (Byts w1.heap.size w7 v6 (headTo es (k + 1))) := Lib.hid (BB6.out.keepA AP6.out hO7)
        have AP7 : Hid (Apt v6 v7) := Lib.hid (AP6.out.onto hO7 BB6.out.below)
        have G7 : Hid (w1.grownBy w7 none) := Lib.hid (BY6.out.only hO7 G6.out (Nat.le_refl _))
        clear hown7 hg7 hob7 hO7
        go_wp2_with fail
        go_roundw
        case rel => exact ⟨k + 1, by go_num, by omega, BB7.out, BY7.out, AP7.out, G7.out⟩
        case measure => simp [intOf]; omega
      · have hkE : k = 12 := by omega
        have HE : Hid (R = headTo es k ++ beB 4 (crcN (headTo es k)) ++ bodyTo es k) := Lib.hid (by rw [hkE]; exact HX.out)
        have hbl := HBL.out k hk
        have hcn := HCN.out (headTo es k)
        have i1 : ¬ (k : Int) + 1 ≤ 12 := by omega
        obtain ⟨hd, hhd⟩ : ∃ h, h = headTo es k := ⟨_, rfl⟩
        obtain ⟨bd, hbd⟩ : ∃ b, b = bodyTo es k := ⟨_, rfl⟩
        rw [← hhd] at hhl hcn BB
        rw [← hbd] at hbl BY
        rw [← hhd, ← hbd] at HE
        obtain ⟨cn, hcnd⟩ : ∃ c, c = crcN hd := ⟨_, rfl⟩
        rw [← hcnd] at HE hcn
        have HCN1 := Lib.hid hcnd
        obtain ⟨AB, cB, hv1, -, -, rB⟩ := BB.out.rd
        obtain ⟨AY, cY, hv2, -, -, -⟩ := BY.out.rd
        rw [hv1] at BB AP
        rw [hv2] at BY AP
        rw [hv1, hv2]
        have KC := Lib.hid (crc_any AB hd cB wr rB (by omega))
        have hhl2 : hd.length ≤ 200 := by omega
        clear hkE hhd hbd hv1 hv2 rB hcnd hhl
        go_wp2_with fail
        refine KC.out.mono ?_
        rintro en w2 ⟨rfl, rfl⟩
        rw [← HCN1.out]
        clear KC
        go_wp2_with fail
        refine (sput_any w1.heap.size _ hd cn 4 w2 BB.out (by omega) (by decide) (by omega) hbr).mono ?_
        rintro en w3 ⟨v3, rfl, hB3, hO3⟩
        have BB3 := Lib.hid hB3
        have BY3 : Hid (Byts w1.heap.size w3 (.slice AY bd.length cY) bd) := Lib.hid (BY.out.keepA AP.out.symm hO3)
        have G3 : Hid (w1.grownBy w3 none) := BB.out.only hO3 G.out (Nat.le_refl _)
        have hz3 := G3.out.size
        obtain ⟨AY', cY', e9, -, -, rY⟩ := BY3.out.rd
        injection e9 with e1 e2 e3
        subst e1 e3
        have RY := Lib.hid rY
        clear hB3 hO3 BB BY AP e2 rY
        go_wp2_with (at_builtin; go_must (refine wpList_appendN rfl _ _ 22 rfl w1.heap.size Tryz.underlying22 byteInfo rfl (by decide) (v := v3) (by rfl) BB3.out AY bd.length cY (by rfl) RY.out (by simp) (byte_ones _) (by decide) (by rw [List.length_append, beB_len]; omega) hz3 ?_); intro v7 w7 hown7 hg7 hob7)
        have B7 : Hid (Byts w1.heap.size w7 v7 R) := Lib.hid (by
          rw [HE.out]
          unfold Byts
          rw [List.length_append, List.map_append]
          exact hown7)
        have G7 : Hid (w1.grownBy w7 none) := Lib.hid (BB3.out.only (onto_apN hg7 hob7) G3.out (Nat.le_refl _))
        clear hown7 hg7 hob7
        go_wp2_with fail
        go_ret2
        exact ⟨v7, rfl, B7.out.base G2.out.size, only_trans G2.out G7.out⟩
end Go.Proofs.YtpaiideboodaeaaGreatDoor

namespace Go.Proofs.YtpaiideboodaeaaGreatDoor
open Go.RowKit
set_option linter.unusedVariables false
set_option linter.unusedSimpArgs false

theorem lowTab : ∀ s ∈ nameTab, LowName s ∧ s.size ≤ 20 := by
  intro s hs
  simp only [nameTab, List.mem_cons, List.not_mem_nil, or_false] at hs
  rcases hs with rfl | rfl | rfl | rfl <;> exact ⟨⟨by decide, by decide, by decide⟩, by decide⟩
theorem nameTab_srt : Srt nameTab := by
  simp [Srt, nameTab, sl, ByteArray.toList_eq, Op.bytesLess]
theorem EvGood.e {e : Ev} (h : EvGood e) : EvE e := by
  obtain ⟨⟨t0, t1, hw, htr, hst, hf⟩, hc, hl1, hl3, hh1, hh2, hf5, hf7, hb0, hb1⟩ := h
  have hle := hc.le
  have ht := chain_text hc
  have hsub : (e.fields.map FieldD.name).Sublist nameTab := by have := hf.1; rwa [show nameTab.take 4 = nameTab from rfl] at this
  have hnm : ∀ f ∈ e.fields, LowName f.name ∧ f.name.size ≤ 20 := fun f hf' => lowTab _ (hsub.subset (List.mem_map_of_mem (f := FieldD.name) hf'))
  have hfl : e.fields.length ≤ 4 := by have := hsub.length_le; simp [nameTab] at this; omega
  refine ⟨⟨hl3, ht, ?_, hfl, fun f hf' => ⟨(hnm f hf').2, hf.2 f hf'⟩, htr, hst⟩, ⟨by omega, by omega, by omega, by omega, hb0, by omega, by omega, t0, t1, hw, hl1, by omega, hc, by omega, by omega, by omega, fun f hf' => (hnm f hf').1, nameTab_srt.sublist hsub, fun f hf' => by have := hf.2 f hf'; omega⟩⟩
  have := textOf_le ht
  have : e.lines.length * (59 + 1) ≤ 3 * 60 := Nat.mul_le_mul hl3 (by omega)
  omega
def DrawP27 (m : Nat) (w : World) (e : Ending) (w' : World) : Prop :=
  ∃ (A : Option Addr) (c : Nat) (es : List Ev) (B : Option Addr) (d g : Nat) (l : List Int) (k : Nat), e = .returned (.tuple #[.slice A es.length c, .slice B (encX es).length d, .pointer (some ⟨g, 0, none⟩)]) ∧ es.length ≤ m ∧ es.length ≤ c ∧ c ≤ maxLen ∧ Evs (g < ·) w' A es ∧ SrtE es ∧ (∀ e ∈ es, EvE e) ∧
    (encX es).length ≤ d ∧ d ≤ maxLen ∧ w'.ownsRow (g + 1) 5 1 (.slice B (encX es).length d) (encX es).length ((encX es).map (.int .u8)) ∧ (∀ b, Value.ownBlock (.slice B (encX es).length d) = some b → ∀ b', b = b' → g < b') ∧ CodesAt w' g l k ∧ w.heap.size ≤ g ∧ w.grownBy w' none
set_option maxHeartbeats 8000000 in
set_option maxRecDepth 100000 in
theorem draw27_any (A : Option Addr) (l0 : List Int) (d : Nat) (w : World) (h : Rd (fun _ => True) w A (l0.map (.int .u8))) (hc : l0.length ≤ d) (hcm : d ≤ maxLen) (hx : ∀ x ∈ l0, 0 ≤ x ∧ x ≤ 255) :
    Calls Tryz.prog 7 #[.slice A l0.length d] w (DrawP27 36 w) := by
  have HX := Lib.hid hx
  have HL := Lib.hid h
  clear hx h
  go_enter Tryz.func7, Tryz.ntmps7
  go_wp2_with fail
  refine (new_any A l0 d 400 _ HL.out hc hcm (by omega) HX.out).mono ?_
  rintro e w2 ⟨rfl, h2, hg2, hlt2⟩
  obtain ⟨g, hgd⟩ : ∃ g, g = w.heap.size := ⟨_, rfl⟩
  have HGD := Lib.hid hgd
  have G2 := Lib.hid hg2
  rw [← hgd] at h2 hlt2 ⊢
  have hs2 := hg2.size
  obtain ⟨l, hl⟩ : ∃ l, l = l0.take 400 := ⟨_, rfl⟩
  rw [← hl] at h2
  clear HL HX hg2 hl hgd
  go_wp2_with fail
  refine (events_some g _ _ 6 _ h2 (by omega)).mono ?_
  rintro e w3 ⟨A3, c3, es, k3, rfl, hc3, hm3, hl3, hev, hsr, hgood, h3, hg3⟩
  have G3 : Hid (w.grownBy w3 none) := Lib.hid (only_fresh G2.out hg3 (by have := HGD.out; omega))
  have EV3 := Lib.hid (hev.mono (S' := (g < ·)) (fun b hb _ => by have h1 : w2.heap.size ≤ b := hb; omega))
  have HGO := Lib.hid (fun e (he : e ∈ es) => (hgood e he).e)
  have HSR := Lib.hid hsr
  have HC3 := Lib.hid h3
  have hz3 := hg3.size
  have hel : es.length ≤ 36 := by omega
  have KE := Lib.hid (rencode27_any A3 es c3 w3 hev (by omega) HGO.out hsr)
  clear h2 h3 hg3 hev hsr hgood hl3 G2
  go_wp2_with fail
  refine KE.out.mono ?_
  rintro e w4 ⟨v4, rfl, hB4, hG4⟩
  have G4 := Lib.hid (only_trans G3.out hG4)
  have EV4 := Lib.hid (EV3.out.grown hG4 (by simp))
  have HC4 : Hid (CodesAt w4 g l k3) := Lib.hid (HC3.out.grown hG4 (by simp))
  obtain ⟨B, dB, hv, hd1, hd2, -⟩ := Byts.rd hB4
  have OB : Hid (w4.ownsRow (g + 1) 5 1 v4 (encX es).length ((encX es).map (.int .u8))) := Lib.hid (Byts.base hB4 (by omega))
  rw [hv] at OB
  rw [hv]
  clear hv hB4 hG4 KE EV3 HC3
  go_wp2_with fail
  exact bodyPost_ret (v := .tuple #[.slice A3 es.length c3, .slice B (encX es).length dB, .pointer (some ⟨g, 0, none⟩)]) (by simp [results, Tryz.results7, go_sem]) rfl ⟨A3, c3, es, B, dB, g, l, k3, rfl, hel, hc3, hm3, EV4.out, HSR.out, HGO.out, hd1, hd2, OB.out, fun b hb b' e => by have := (World.ownsRow.lt OB.out b hb).1; omega, HC4.out, by rw [HGD.out]; exact Nat.le_refl _, G4.out⟩
end Go.Proofs.YtpaiideboodaeaaGreatDoor

namespace Go.Proofs.YtpaiideboodaeaaGreatDoor
open Go.RowKit
set_option linter.unusedVariables false
set_option linter.unusedSimpArgs false

def EmptyBy (w : World) (e : Ending) (w' : World) : Prop := ∃ v, e = .returned v ∧ w'.ownsRow w.heap.size 5 1 v 0 [] ∧ w.grownBy w' none
set_option maxHeartbeats 2000000 in
set_option maxRecDepth 100000 in
theorem growBy (n : Nat) (w : World) (hn : n ≤ 100000000) : Calls Tryz.prog 67 #[.slice none 0 0, .int .i64 n] w (EmptyBy w) := by
  by_cases h0 : n = 0
  · subst h0
    go_enter Tryz.func67, Tryz.ntmps67
    go_wp2_with fail
    go_ret
    exact ⟨_, rfl, World.ownsRow_nil _ _ _ _, only_refl _ _⟩
  · obtain ⟨i0, hi0, hz0, hz1, hz2⟩ := info_parts byteInfo
    obtain ⟨G, hG⟩ : ∃ G, G = grownCap w n 0 5 := ⟨_, rfl⟩
    have hGn : n ≤ G := by rw [hG]; exact grownCap_ge w _ _ _
    have hGm : G ≤ maxLen := by rw [hG]; exact grownCap_le_maxLen w _ _ _ (by unfold maxLen; omega)
    obtain ⟨ROW, hROW⟩ : ∃ ROW : Array Value, ROW = Builtin.zeroCells (.int .u8 0 : Value).cells n ++ Builtin.zeroCells (.int .u8 0 : Value).cells (G - n) := ⟨_, rfl⟩
    have hRl : ROW.size = G * 1 := by
      rw [hROW]
      simp [Builtin.zeroCells, Value.cells]
      omega
    obtain ⟨W1, hW1⟩ : ∃ W1, W1 = w.drew.alloc (.cells ROW 5) := ⟨_, rfl⟩
    obtain ⟨g1, hg1⟩ : ∃ g1, g1 = w.heap.size := ⟨_, rfl⟩
    have hr : ∀ ty, (Builtin.append_ #[22, 3] ty #[.slice none 0 0, .int .i64 n]).run Tryz.prog w = .ok (.slice (some ⟨g1, 0, none⟩) n G) W1 := fun ty => by
      have := Lib.run_append_nil_zeros w 22 3 ty 5 i0 (.int .u8 0) .i64 .i64 Tryz.underlying22 Tryz.underlying3 hi0 hz0 n (by omega) (by rw [hz1]; decide) (by omega) (by rw [hz2]; omega)
      rw [← hG] at this
      rw [hW1, hROW, hg1]; exact this
    have HF : Hid (EmptyBy w (.returned (.slice (some ⟨g1, 0, none⟩) 0 G)) W1) := Lib.hid (by
      refine ⟨_, rfl, ?_, ?_⟩
      · rw [hW1, hg1]
        have := World.ownsRow_made w.drew (base := w.heap.size) (e := 5) ROW G (Nat.le_refl _) hGm hRl
        exact this
      · rw [hW1]; exact only_alloc (only_drew (only_refl _ _)) _)
    have j0 : (0 : Int) < (n : Int) := by omega
    have j1 : (0 : Int) ≤ (n : Int) := by omega
    have hw0 : IntKind.i64.wrap (n : Int) = (n : Int) := IntWalk.i64_in _ (by omega)
    have j2 : ¬ ((n : Int) < 0) := by omega
    clear hW1 hg1 hG hROW hRl hi0 hz0 hz1 hz2 hGm h0
    go_enter Tryz.func67, Tryz.ntmps67
    go_wp2_with (at_builtin; refine Lib.wpList_append_run _ rfl _ _ _ _ rfl _ _ rfl rfl _ _ (hr _) ?_)
    go_ret
    exact HF.out
/-- a row at hand -/
structure RwBy where
  A : Option Addr
  n : Nat
  l : List Value
  c : Nat
def RwBy.v (r : RwBy) : Value := .slice r.A r.n r.c
theorem rwb_at {T : Nat → Prop} {w : World} {b o : Nat} {rs : List RwBy} {k : Nat} {r : RwBy} (h : Rd T w (some ⟨b, o, none⟩) (rs.map RwBy.v)) (hr : rs[k]? = some r) : w.cell? ⟨b, o + k, none⟩ = some (.slice r.A r.n r.c) := by
  have hm : (rs.map RwBy.v)[k]? = some r.v := by rw [List.getElem?_map, hr]; rfl
  obtain ⟨hlt, e⟩ := List.getElem?_eq_some_iff.1 hm
  obtain ⟨b', o', e', -, -, hc⟩ := h (by omega)
  injection e' with e'
  injection e' with e1 e2
  subst e1 e2
  exact hc k _ hm
def catBy (rs : List RwBy) : List Value := rs.flatMap (·.l)
def numBy (rs : List RwBy) : Nat := (rs.map (·.n)).sum
theorem catBy_snoc (rs : List RwBy) (r : RwBy) : catBy (rs ++ [r]) = catBy rs ++ r.l := by unfold catBy; rw [List.flatMap_append]; simp
theorem numBy_snoc (rs : List RwBy) (r : RwBy) : numBy (rs ++ [r]) = numBy rs + r.n := by unfold numBy; simp
theorem numBy_le {rs : List RwBy} {m : Nat} (h : ∀ r ∈ rs, r.n ≤ m) : numBy rs ≤ rs.length * m := by
  unfold numBy
  induction rs with
  | nil => simp
  | cons a t ih =>
    have h1 := h a List.mem_cons_self
    have h2 := ih (fun r hr => h r (List.mem_cons_of_mem _ hr))
    rw [List.map_cons, List.sum_cons, List.length_cons, Nat.add_mul]; omega
def CatByPost (w : World) (n : Nat) (xs : List Value) (e : Ending) (w' : World) : Prop := ∃ v, e = .returned v ∧ w'.ownsRow w.heap.size 5 1 v n xs ∧ w.grownBy w' none
set_option maxHeartbeats 4000000 in
set_option maxRecDepth 100000 in
theorem concatBy_any {S T : Nat → Prop} (vb vo cc : Nat) (rs : List RwBy) (w : World) (hB : Rd T w (some ⟨vb, vo, none⟩) (rs.map RwBy.v)) (hr : ∀ r ∈ rs, Rd S w r.A r.l) (hz : ∀ r ∈ rs, r.l.length = r.n * 1) (h1 : ∀ r ∈ rs, ∀ u ∈ r.l, u.oneCell' = true) (hn : rs.length ≤ 12) (hl : ∀ r ∈ rs, r.n ≤ 8000000) (ht : ∀ k, numBy (rs.take k) ≤ 9000000) :
    Calls Tryz.prog 32 #[.slice (some ⟨vb, vo, none⟩) rs.length cc] w (CatByPost w (numBy rs) (catBy rs)) := by
  have HB := Lib.hid hB
  have HR := Lib.hid hr
  have HL := Lib.hid hl
  have HZ := Lib.hid hz
  have H1 := Lib.hid h1
  have HTT := Lib.hid ht
  clear hB hr hl hz h1 ht
  go_enter Tryz.func32, Tryz.ntmps32
  go_wp2_with fail
  go_loop [3, 11] (fun n i => ∃ k : Nat, k ≤ rs.length ∧ i = .int .i64 k ∧ n = .int .i64 (numBy (rs.take k) : Nat)) (fun _ i => rs.length - (intOf i).toNat)
  case atStart => exact ⟨0, Nat.zero_le _, rfl, rfl⟩
  case round =>
    obtain ⟨k, hk, rfl, rfl⟩ := hrel
    have hcl : numBy (rs.take k) ≤ 9000000 := HTT.out k
    obtain ⟨n, hn0⟩ : ∃ n, n = numBy (rs.take k) := ⟨_, rfl⟩
    rw [← hn0] at hcl ⊢
    have HN := Lib.hid hn0
    clear hn0
    by_cases hlt : k < rs.length
    · obtain ⟨r, hrk⟩ : ∃ r, rs[k]? = some r := ⟨_, List.getElem?_eq_getElem hlt⟩
      have c0 := rwb_at HB.out hrk
      have hrl := HL.out r (List.mem_of_getElem? hrk)
      have HT : Hid (numBy (rs.take (k + 1)) = n + r.n) := Lib.hid (by
        have e : rs.take (k + 1) = rs.take k ++ [r] := by
          rw [List.take_succ_eq_append_getElem hlt]
          rw [List.getElem?_eq_getElem hlt] at hrk
          injection hrk with hrk
          rw [hrk]
        rw [e, numBy_snoc, HN.out])
      have i1 : (k : Int) < (rs.length : Int) := by omega
      have i2 : ¬ ((n : Int) + (r.n : Int) < 0) := by omega
      have hw0 : IntKind.i64.wrap ((n : Int) + (r.n : Int)) = (n : Int) + (r.n : Int) := IntWalk.i64_in _ (by omega)
      clear hrk
      go_wp2_with fail
      go_round
      case rel => exact ⟨k + 1, by omega, by go_num, by rw [HT.out]; push_cast; rfl⟩
      case measure => simp [intOf]; omega
    · have HE : Hid (rs.take k = rs) := Lib.hid (List.take_of_length_le (by omega))
      have KG := Lib.hid (growBy n w (by omega))
      go_wp2_with fail
      refine KG.out.mono ?_
      rintro e w1 ⟨v1, rfl, ho1, hg1⟩
      have O1 := Lib.hid ho1
      have G1 := Lib.hid hg1
      clear ho1 hg1 KG
      go_wp2_with fail
      go_loopw [6, 27] (fun v i wr => ∃ k : Nat, k ≤ rs.length ∧ i = .int .i64 k ∧ wr.ownsRow w.heap.size 5 1 v (numBy (rs.take k)) (catBy (rs.take k)) ∧ w.grownBy wr none) (fun _ i _ => rs.length - (intOf i).toNat)
      case atStart => exact ⟨0, Nat.zero_le _, rfl, O1.out, G1.out⟩
      case round =>
        clear O1 G1
        obtain ⟨k, hk, rfl, hO, hG⟩ := hrel
        have O := Lib.hid hO
        have G := Lib.hid hG
        have hsz := hG.size
        clear hO hG
        have hcl2 : numBy (rs.take k) ≤ 9000000 := HTT.out k
        have hcl3 : numBy (rs.take (k + 1)) ≤ 9000000 := HTT.out (k + 1)
        by_cases hlt : k < rs.length
        · obtain ⟨r, hrk⟩ : ∃ r, rs[k]? = some r := ⟨_, List.getElem?_eq_getElem hlt⟩
          have c0 := rwb_at (HB.out.grown G.out (by simp)) hrk
          have hrl := HL.out r (List.mem_of_getElem? hrk)
          have RR := Lib.hid ((HR.out r (List.mem_of_getElem? hrk)).grown G.out (by simp))
          have RZ := Lib.hid (HZ.out r (List.mem_of_getElem? hrk))
          have R1 := Lib.hid (H1.out r (List.mem_of_getElem? hrk))
          have HT : Hid (catBy (rs.take (k + 1)) = catBy (rs.take k) ++ r.l ∧ numBy (rs.take (k + 1)) = numBy (rs.take k) + r.n) := Lib.hid (by
            have e : rs.take (k + 1) = rs.take k ++ [r] := by
              rw [List.take_succ_eq_append_getElem hlt]
              rw [List.getElem?_eq_getElem hlt] at hrk
              injection hrk with hrk
              rw [hrk]
            exact ⟨by rw [e, catBy_snoc], by rw [e, numBy_snoc]⟩)
          have i1 : (k : Int) < (rs.length : Int) := by omega
          obtain ⟨L, hL⟩ : ∃ L, L = catBy (rs.take k) := ⟨_, rfl⟩
          obtain ⟨M, hM⟩ : ∃ M, M = numBy (rs.take k) := ⟨_, rfl⟩
          have O2 : Hid (wr.ownsRow w.heap.size 5 1 u6 M L) := Lib.hid (by rw [hL, hM]; exact O.out)
          rw [← hM] at hcl2
          rw [HT.out.2, ← hM] at hcl3
          rw [← hL, ← hM] at HT
          clear hrk hL hM O
          go_wp2_with (at_builtin; refine wpList_appendN rfl _ _ 22 rfl w.heap.size Tryz.underlying22 byteInfo rfl (by decide) (v := _) (by rfl) O2.out r.A r.n r.c (news := r.l) (by rfl) RR.out RZ.out R1.out (by decide) (by omega) (by omega) ?_; intro v7 w7 hown7 hg7 hob7)
          have O7 : Hid (w7.ownsRow w.heap.size 5 1 v7 (numBy (rs.take (k + 1))) (catBy (rs.take (k + 1)))) := Lib.hid (by rw [HT.out.1, HT.out.2]; exact hown7)
          have G7 : Hid (w.grownBy w7 none) := Lib.hid (only_own G.out hg7 O2.out (Nat.le_refl _))
          clear hown7 hg7 hob7 c0
          go_wp2_with fail
          go_roundw
          case rel => exact ⟨k + 1, by omega, by go_num, O7.out, G7.out⟩
          case measure => simp [intOf]; omega
        · have HE2 : Hid (rs.take k = rs) := Lib.hid (List.take_of_length_le (by omega))
          go_wp2_with fail
          go_ret
          have := O.out
          rw [HE2.out] at this
          exact ⟨_, rfl, this, G.out⟩
end Go.Proofs.YtpaiideboodaeaaGreatDoor

namespace Go.Proofs.YtpaiideboodaeaaGreatDoor
open Go.RowKit
set_option linter.unusedVariables false
set_option linter.unusedSimpArgs false

theorem bytesInfoS : (Tryz.prog.info? 22).map (fun i => (i.zero, i.size, i.bytes)) = some (some (.slice none 0 0), 1, 24) := by kernel_rfl
/-- rows of the call's own of different elements lie apart -/
theorem own_norow {w : World} {b1 b2 e1 e2 z1 z2 n1 n2 : Nat} {v u : Value} {xs ys : List Value} (h : w.ownsRow b1 e1 z1 v n1 xs) (k : w.ownsRow b2 e2 z2 u n2 ys) (he : e1 ≠ e2) : v.ownBlock = none ∨ v.ownBlock ≠ u.ownBlock := by
  cases hv : v.ownBlock with
  | none => exact .inl rfl
  | some g =>
    refine .inr (fun e => ?_)
    rcases h.2 with ⟨rfl, -⟩ | ⟨g1, c1, cur1, rfl, -, h1, -⟩
    · simp [Value.ownBlock] at hv
    · rcases k.2 with ⟨rfl, -⟩ | ⟨g2, c2, cur2, rfl, -, h2, -⟩
      · simp [Value.ownBlock] at e
      · simp [Value.ownBlock] at hv e
        subst hv e
        rw [h1] at h2
        injection h2 with h2
        injection h2 with _ h3 _
        exact he h3
/-- the first k sections -/
def SecS (es : List Ev) (base : Nat) (w : World) (v : Value) (k : Nat) : Prop :=
  ∃ rows : List Value, rows.length = k ∧ w.ownsRow base 22 1 v k rows ∧ ∀ j u, rows[j]? = some u → Byts base w u (secX es (j + 1))
theorem SecS.nil (es : List Ev) (base : Nat) (w : World) : SecS es base w (.slice none 0 0) 0 := ⟨[], rfl, World.ownsRow_nil _ _ _ _, fun j u h => by simp at h⟩
theorem SecS.quiet {es : List Ev} {base k : Nat} {w w' : World} {v : Value} (h : SecS es base w v k) (hg : w.grownBy w' none) : SecS es base w' v k := by
  obtain ⟨rows, h1, h2, h3⟩ := h
  exact ⟨rows, h1, own_ext h2 hg, fun j u hu => own_ext (h3 j u hu) hg⟩
/-- more sections -/
theorem SecS.puts {es : List Ev} {base k : Nat} {w w' : World} {v v' : Value} {us rows : List Value} (hl : rows.length = k) (ho : w.ownsRow base 22 1 v k rows) (hr : ∀ j u, rows[j]? = some u → Byts base w u (secX es (j + 1)))
    (hu : ∀ i u, us[i]? = some u → Byts base w u (secX es (k + i + 1))) (hg : w.grownBy w' v.ownBlock) (ho' : w'.ownsRow base 22 1 v' (k + us.length) (rows ++ us)) : SecS es base w' v' (k + us.length) := by
  refine ⟨rows ++ us, by simp [hl], ho', fun j x hx => ?_⟩
  have keep : ∀ {y : Value} {ys : List Int}, Byts base w y ys → Byts base w' y ys := fun {y ys} hy => World.ownsRow.kept hy hg (own_norow hy ho (by decide))
  rcases Nat.lt_or_ge j rows.length with h | h
  · rw [List.getElem?_append_left h] at hx
    exact keep (hr j x hx)
  · rw [List.getElem?_append_right h] at hx
    have h1 := keep (hu _ x hx)
    rwa [show k + (j - rows.length) + 1 = j + 1 from by omega] at h1
/-- a section in memory -/
theorem SecS.at_ {es : List Ev} {base k j : Nat} {w : World} {v : Value} (h : SecS es base w v k) (hj : j < k) : ∃ b A c cp, v = .slice (some ⟨b, 0, none⟩) k cp ∧ base ≤ b ∧ w.cell? ⟨b, j, none⟩ = some (.slice A (secX es (j + 1)).length c) ∧ Rd (base ≤ ·) w A ((secX es (j + 1)).map (.int .u8)) ∧ Byts base w (.slice A (secX es (j + 1)).length c) (secX es (j + 1)) := by
  obtain ⟨rows, h1, h2, h3⟩ := h
  obtain ⟨u, hu⟩ : ∃ u, rows[j]? = some u := ⟨_, List.getElem?_eq_getElem (by omega)⟩
  obtain ⟨A, c, rfl, -, -, hrd⟩ := (h3 j u hu).rd
  rcases h2.2 with ⟨-, hn⟩ | ⟨g, cap, cur, rfl, hg, hh, hc, hm, hcs, ht⟩
  · omega
  · refine ⟨g, A, c, cap, rfl, hg, ?_, hrd.mono (fun b hb _ => hb), h3 j _ hu⟩
    rw [cell_of_row w g j cur _ (0, 0) hh]
    rw [← ht, List.getElem?_take] at hu
    split at hu
    · simpa using hu
    · cases hu
theorem SecS.look {es : List Ev} {base : Nat} {w : World} {v : Value} (h : SecS es base w v 12) : ∃ sb cp, v = .slice (some ⟨sb, 0, none⟩) 12 cp ∧
    ∀ k, k < 12 → ∃ A c, ∀ w', w.grownBy w' none → w'.cell? ⟨sb, k, none⟩ = some (.slice A (secX es (k + 1)).length c) ∧ Rd (fun _ => True) w' A ((secX es (k + 1)).map (.int .u8)) := by
  obtain ⟨sb, -, -, cp, hv, -, -, -, -⟩ := h.at_ (j := 0) (by omega)
  obtain ⟨rows, -, h2, -⟩ := id h
  have hlt : sb < w.heap.size := (h2.lt sb (by rw [hv]; rfl)).2
  refine ⟨sb, cp, hv, fun k hk => ?_⟩
  obtain ⟨b, A, c, cp', e, -, hc, hr, -⟩ := h.at_ hk
  rw [hv] at e
  injection e with e1 e2 e3
  injection e1 with e1
  injection e1 with e1
  subst e1
  exact ⟨A, c, fun w' hg => ⟨(hg.cell_far ⟨sb, k, none⟩ hlt (by simp)).trans hc, (hr.mono (fun _ _ _ => trivial)).grown hg (by simp)⟩⟩
/-- the rows that Concat joins -/
theorem SecS.rows {es : List Ev} {base k : Nat} {w : World} {v : Value} (h : SecS es base w v k) : ∃ rs : List RwBy, rs.length = k ∧ w.ownsRow base 22 1 v k (rs.map RwBy.v) ∧ (∀ r ∈ rs, Rd (base ≤ ·) w r.A r.l) ∧ (∀ r ∈ rs, r.l.length = r.n * 1) ∧ (∀ r ∈ rs, ∀ u ∈ r.l, u.oneCell' = true) ∧
    (∀ j r, rs[j]? = some r → r.n = (secX es (j + 1)).length ∧ r.l = (secX es (j + 1)).map (.int .u8)) := by
  obtain ⟨rows, h1, h2, h3⟩ := h
  have key : ∀ (j : Nat) (hj : j < rows.length), ∃ r : RwBy, r.v = rows[j] ∧ Rd (base ≤ ·) w r.A r.l ∧ r.n = (secX es (j + 1)).length ∧ r.l = (secX es (j + 1)).map (.int .u8) := fun j hj => by
    obtain ⟨A, c, e, -, -, hrd⟩ := (h3 j _ (List.getElem?_eq_getElem hj)).rd
    exact ⟨⟨A, (secX es (j + 1)).length, (secX es (j + 1)).map (.int .u8), c⟩, by rw [e]; rfl, hrd.mono (fun b hb _ => hb), rfl, rfl⟩
  have hlen : ((List.finRange rows.length).map (fun i => Classical.choose (key i.1 i.2))).length = rows.length := by simp
  have hat : ∀ (j : Nat) r, ((List.finRange rows.length).map (fun i => Classical.choose (key i.1 i.2)))[j]? = some r → ∃ hj : j < rows.length, r = Classical.choose (key j hj) := fun j r hr => by
    rw [List.getElem?_map] at hr
    cases hf : (List.finRange rows.length)[j]? with
    | none => rw [hf] at hr; cases hr
    | some i =>
      rw [hf] at hr
      obtain ⟨hj, e⟩ := List.getElem?_eq_some_iff.1 hf
      have hj2 : j < rows.length := by simpa using hj
      have hi : i = ⟨j, hj2⟩ := by rw [← e]; simp
      injection hr with hr
      exact ⟨hj2, by rw [← hr, hi]⟩
  have all : ∀ r ∈ ((List.finRange rows.length).map (fun i => Classical.choose (key i.1 i.2))), ∃ j, ∃ hj : j < rows.length, r = Classical.choose (key j hj) := fun r hr => by
    obtain ⟨j, hj⟩ := List.getElem?_of_mem hr
    exact ⟨j, hat j r hj⟩
  refine ⟨(List.finRange rows.length).map (fun i => Classical.choose (key i.1 i.2)), hlen.trans h1, ?_, fun r hr => ?_, fun r hr => ?_, fun r hr => ?_, fun j r hr => ?_⟩
  · have : ((List.finRange rows.length).map (fun i => Classical.choose (key i.1 i.2))).map RwBy.v = rows := by
      apply List.ext_getElem
      · simp
      · intro j h4 h5
        rw [List.getElem_map]
        obtain ⟨hj, e⟩ := hat j _ (List.getElem?_eq_getElem (by simpa using h4))
        rw [e]
        exact (Classical.choose_spec (key j hj)).1
    rw [this]; exact h2
  · obtain ⟨j, hj, rfl⟩ := all r hr; exact (Classical.choose_spec (key j hj)).2.1
  · obtain ⟨j, hj, rfl⟩ := all r hr
    have h4 := (Classical.choose_spec (key j hj)).2.2
    rw [h4.1, h4.2, List.length_map, Nat.mul_one]
  · obtain ⟨j, hj, rfl⟩ := all r hr
    have h4 := (Classical.choose_spec (key j hj)).2.2
    rw [h4.2]
    intro u hu
    obtain ⟨x, -, rfl⟩ := List.mem_map.1 hu
    rfl
  · obtain ⟨hj, rfl⟩ := hat j r hr
    exact (Classical.choose_spec (key j hj)).2.2
theorem cat_secs {es : List Ev} : ∀ {k : Nat} {rs : List RwBy}, rs.length = k → (∀ j r, rs[j]? = some r → r.n = (secX es (j + 1)).length ∧ r.l = (secX es (j + 1)).map (.int .u8)) → catBy rs = (bodyTo es k).map (.int .u8) ∧ numBy rs = (bodyTo es k).length
  | 0, rs, h, _ => by rw [List.eq_nil_of_length_eq_zero h]; exact ⟨rfl, rfl⟩
  | k + 1, rs, h, hr => by
    obtain ⟨r, hrk⟩ : ∃ r, rs[k]? = some r := ⟨_, List.getElem?_eq_getElem (by omega)⟩
    have e : rs = rs.take k ++ [r] := by
      obtain ⟨h1, h2⟩ := List.getElem?_eq_some_iff.1 hrk
      rw [← h2, ← List.take_succ_eq_append_getElem h1, List.take_of_length_le (by omega)]
    have ih := cat_secs (es := es) (k := k) (rs := rs.take k) (by rw [List.length_take]; omega) (fun j x hx => hr j x (by
      rw [List.getElem?_take] at hx
      split at hx
      · exact hx
      · cases hx))
    have h4 := hr k r hrk
    rw [e, catBy_snoc, numBy_snoc, ih.1, ih.2, h4.1, h4.2, bodyTo, List.map_append, List.length_append]
    exact ⟨rfl, rfl⟩
end Go.Proofs.YtpaiideboodaeaaGreatDoor
