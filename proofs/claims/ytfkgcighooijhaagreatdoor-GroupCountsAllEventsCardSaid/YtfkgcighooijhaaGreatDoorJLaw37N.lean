/- The law of part 37 about counts (printed by mklaw37n.py). Condition: the table of powers of ten. -/
import Derived.Test.YtfkgcighooijhaaGreatDoorJGRows
import Derived.Test.YtfkgcighooijhaaGreatDoorKey
import Derived.Test.YtfkgcighooijhaaGreatDoorEvIn
namespace Go.Proofs.YtfkgcighooijhaaGreatDoor
open Go.RowKit
set_option linter.unusedVariables false
set_option linter.unusedSimpArgs false

theorem EvGood.evV37 {e : Ev} (h : EvGood e) : EvV e := by
  obtain ⟨hf, -⟩ := id h
  refine ⟨h.evI0, ?_, ?_, fun f hfm => ?_⟩
  · have := hf.2.2.2.1; omega
  · have := hf.2.2.2.2.1; omega
  · have := hf.2.2.2.2.2.2 f hfm; omega
theorem EvGood.wt {e : Ev} (h : EvGood e) : 0 ≤ e.weight ∧ e.weight ≤ 5040 := by
  have := h.1.2.2.1
  unfold IsWeight at this
  omega
theorem wSum_le : ∀ {l : List Ev}, (∀ e ∈ l, EvGood e) → 0 ≤ wSum l ∧ wSum l ≤ l.length * 5040
  | [], _ => by simp [wSum]
  | e :: l, h => by
    have h1 := (h e (List.mem_cons_self ..)).wt
    have h2 := wSum_le (l := l) (fun y hy => h y (List.mem_cons_of_mem _ hy))
    have : wSum (e :: l) = e.weight + wSum l := by simp [wSum]
    rw [List.length_cons]
    omega
theorem wSum_snoc (l : List Ev) {k : Nat} {y : Ev} (hy : l[k]? = some y) : wSum (l.take (k + 1)) = wSum (l.take k) + y.weight := by
  obtain ⟨h1, e⟩ := List.getElem?_eq_some_iff.1 hy
  unfold wSum
  rw [List.take_succ_eq_append_getElem h1, e]
  simp
theorem sumT_snoc (l : List PP) {k : Nat} {y : PP} (hy : l[k]? = some y) : sumT (l.take (k + 1)) = sumT (l.take k) + hdT y.cs := by
  obtain ⟨h1, e⟩ := List.getElem?_eq_some_iff.1 hy
  unfold sumT
  rw [List.take_succ_eq_append_getElem h1, e]
  simp
theorem nOf_snoc (ns : List ByteArray) (l : List Ev) (q : List ByteArray) {k : Nat} {y : Ev} (hy : l[k]? = some y) : nOf ns (l.take (k + 1)) q = nOf ns (l.take k) q + (if cmpK (keyOf_ ns y) q = 0 then 1 else 0) := by
  obtain ⟨h1, e⟩ := List.getElem?_eq_some_iff.1 hy
  unfold nOf
  rw [List.take_succ_eq_append_getElem h1, e, List.filter_append, List.length_append]
  by_cases h : cmpK (keyOf_ ns y) q = 0 <;> simp [h]
theorem load_evAt (w : World) (b o : Nat) (y : Ev) (h : w.cell? ⟨b, o, none⟩ = some (.int .i64 y.host) ∧ w.cell? ⟨b, o + 1, none⟩ = some (.int .i64 y.file) ∧ w.cell? ⟨b, o + 2, none⟩ = some (.int .i64 y.beg) ∧ w.cell? ⟨b, o + 3, none⟩ = some (.int .i64 y.fin) ∧ w.cell? ⟨b, o + 4, none⟩ = some (.slice y.la y.lines.length y.lc) ∧ w.cell? ⟨b, o + 5, none⟩ = some (.int .i64 y.time) ∧
    w.cell? ⟨b, o + 6, none⟩ = some (.int .i64 y.weight) ∧ w.cell? ⟨b, o + 7, none⟩ = some (.string y.trace) ∧ w.cell? ⟨b, o + 8, none⟩ = some (.string y.stream) ∧ w.cell? ⟨b, o + 9, none⟩ = some (.slice y.fa y.fields.length y.fc)) :
    (Instr.loadAt 35 (.pointer (some ⟨b, o, none⟩))).run Tryz.prog w = .ok (.agg y.cells.toArray) w := by
  obtain ⟨h0, h1, h2, h3, h4, h5, h6, h7, h8, h9⟩ := h
  have hu := Tryz.underlying35
  simp [go_sem, h0, h1, h2, h3, h4, h5, h6, h7, h8, h9, Ev.cells]
theorem rw_in {S : Nat → Prop} {w : World} {A : Option Addr} {ps : List RwD} (h : Rd S w A (ps.flatMap RwD.cells)) {i : Nat} {y : RwD} (hy : ps[i]? = some y) :
    ∃ b off, A = some ⟨b, off, none⟩ ∧ b < w.heap.size ∧ w.cell? ⟨b, off + i * 3, none⟩ = some (.slice y.key.a y.key.l.length y.key.c) ∧ w.cell? ⟨b, off + i * 3 + 1, none⟩ = some (.slice y.na y.nl.length y.nc) := by
  obtain ⟨hi, hyi⟩ := List.getElem?_eq_some_iff.1 hy
  obtain ⟨b, off, rfl, _, hlt, hc⟩ := h (by rw [flat_len _ 3 RwD.cells_len]; omega)
  have key : ∀ j, j < 3 → w.cell? ⟨b, off + i * 3 + j, none⟩ = y.cells[j]? := by
    intro j hj
    have h1 := flat_at RwD.cells 3 RwD.cells_len ps i j hi hj
    rw [hyi] at h1
    have hlt : j < y.cells.length := by rw [RwD.cells_len]; exact hj
    rw [List.getElem?_eq_getElem hlt] at h1 ⊢
    rw [Nat.add_assoc]
    exact hc _ _ h1
  exact ⟨b, off, rfl, hlt, key 0 (by omega), key 1 (by omega)⟩
theorem cnt_row {w : World} {b t : Nat} (h : Blk w b t #[.int .i64 0, .string ⟨#[]⟩, .int .i64 4, .string ⟨#[117, 115, 101, 114]⟩, .int .i64 2, .string ⟨#[109, 115]⟩, .int .i64 3, .string ⟨#[109, 115]⟩]) : Rd (fun _ => True) w (some ⟨b, 0, none⟩) (cntAgs.flatMap AggD.cells) := fun _ => ⟨b, 0, rfl, trivial, h.lt, fun j u hu => by
  rw [Nat.zero_add, h.cell j]
  simpa [cntAgs, AggD.cells] using hu⟩
theorem cnt_ok : ∀ a ∈ cntAgs, AggOk a := by
  intro a ha
  simp only [cntAgs, List.mem_cons, List.not_mem_nil, or_false] at ha
  rcases ha with rfl | rfl | rfl | rfl <;> exact ⟨by decide, by decide, by decide⟩
/-- what holds of a row of the answer -/
structure RowC (S : Nat → Prop) (w : World) (r : RwD) (q : List ByteArray) (n : Nat) (t : Int) where
  ex : ∃ (nb no : Nat) (t1 t2 t3 : Int), r.key.l = q ∧ r.na = some ⟨nb, no, none⟩ ∧ r.nl.length = 4 ∧ nb < w.heap.size ∧ w.cell? ⟨nb, no, none⟩ = some (.int .i64 t) ∧ w.cell? ⟨nb, no + 1, none⟩ = some (.int .i64 t1) ∧ w.cell? ⟨nb, no + 2, none⟩ = some (.int .i64 t2) ∧ w.cell? ⟨nb, no + 3, none⟩ = some (.int .i64 t3) ∧
    t1 ≤ n ∧ t2 ≤ t3 ∧ 0 ≤ t ∧ 4 ≤ r.nc ∧ r.nc ≤ maxLen
theorem rowC_of {S : Nat → Prop} {w : World} {r : RwD} {z : PP} {n : Nat} (hs : r.Sub S w) (he : r.pl = rowP z) (hi : InvC n z.cs) : RowC S w r z.key n (hdT z.cs) := by
  obtain ⟨c0, c1, c2, c3, hz, h1, h2, h3, h4, h5, h6⟩ := hi
  have e1 : r.key.l = z.key := congrArg Prod.fst he
  have e2 : r.nl = z.cs.map (·.t) := congrArg Prod.snd he
  rw [hz] at e2
  obtain ⟨-, hr, h7, h8⟩ := hs
  rw [e2] at hr h7
  obtain ⟨b, o, ea, -, hlt, hc⟩ := hr (by simp)
  refine ⟨b, o, c1.t, c2.t, c3.t, e1, ea, by rw [e2]; rfl, hlt, ?_, ?_, ?_, ?_, by omega, h6, by rw [hz]; exact h2, h7, h8⟩
  · rw [hz]; exact hc 0 _ rfl
  · exact hc 1 _ rfl
  · exact hc 2 _ rfl
  · exact hc 3 _ rfl
theorem map_at {α β γ : Type} {f : α → γ} {g : β → γ} {xs : List α} {ys : List β} (h : xs.map f = ys.map g) {i : Nat} (hi : i < xs.length) : ∃ x y, xs[i]? = some x ∧ ys[i]? = some y ∧ f x = g y := by
  have hl : xs.length = ys.length := by simpa using congrArg List.length h
  refine ⟨xs[i], ys[i]'(by omega), List.getElem?_eq_getElem hi, List.getElem?_eq_getElem (by omega), ?_⟩
  have := congrArg (fun l => l[i]?) h
  simp only [List.getElem?_map, List.getElem?_eq_getElem hi, List.getElem?_eq_getElem (show i < ys.length by omega), Option.map_some] at this
  exact Option.some.inj this
theorem srt_at {zs : List PP} (h : SrtK zs) {i : Nat} {x y : PP} (hx : zs[i]? = some x) (hy : zs[i + 1]? = some y) : cmpK x.key y.key = -1 := by
  obtain ⟨h1, e1⟩ := List.getElem?_eq_some_iff.1 hx
  obtain ⟨h2, e2⟩ := List.getElem?_eq_some_iff.1 hy
  have := List.pairwise_iff_getElem.1 h i (i + 1) h1 h2 (by omega)
  rw [e1, e2] at this
  exact this
set_option maxHeartbeats 16000000 in
set_option maxRecDepth 100000 in
theorem law_counts (A : Option Addr) (l : List Int) (c : Nat) (w : World) (hPow : Pow10 w)
    (h : Rd (fun _ => True) w A (l.map (.int .u8))) (hc : l.length ≤ c) (hcm : c ≤ maxLen) (hx : ∀ x ∈ l, 0 ≤ x ∧ x ≤ 255) :
    Calls Tryz.prog 4 #[.slice A l.length c] w (fun e w' => e = .returned (.bool true) ∧ w.grownBy w' none) := by
  have HS : Hid (∀ w', w.grownBy w' none → Calls Tryz.prog 8 #[.slice A l.length c] w' (ScenePost w')) := fun w' hg => scene_any A l c w' (h.grown hg (by simp)) hc hcm hx
  have HP : Hid (∀ w', w.grownBy w' none → Pow10 w') := Lib.hid (fun w' hg => hPow.grown hg)
  clear h hc hcm hx hPow
  go_enter Tryz.func4, Tryz.ntmps4
  go_wp2_with fail
  refine (awake_any _).mono ?_
  rintro e w1 ⟨rfl, hg1⟩
  have G1 := Lib.hid hg1
  clear hg1
  go_wp2_with fail
  refine (HS.out _ G1.out).mono ?_
  rintro e w2 ⟨A1, A2, A3, c1, c2, c3, ns, ags, es, g, k0, l0, rfl, n1, n2, n3, n4, hns, hrn, -, -, -, -, -, -, e1, e2, e3, hev, -, hgd, -, -, hg2⟩
  have G2 := Lib.hid (only_trans G1.out hg2)
  have HNS : Hid (∀ n ∈ ns, n.size ≤ 1000) := Lib.hid (fun n hn => by have := hns n hn; omega)
  have RN := Lib.hid hrn
  have EV := Lib.hid hev
  have HGD := Lib.hid hgd
  have PT := Lib.hid (HP.out _ G2.out)
  have HNV : Hid (∀ e ∈ es, EvV e) := Lib.hid (fun e he => (hgd e he).evV37)
  have HWT := Lib.hid (wSum_le hgd)
  have HE1 := Lib.hid e1
  clear HS hns hrn hev hgd hg2 G1 HP n1 n2 e1 e2
  go_wp2_with fail
  obtain ⟨WA, hWA⟩ : ∃ W, W = w2.alloc (.cells #[.int .i64 0, .string ⟨#[]⟩, .int .i64 4, .string ⟨#[117, 115, 101, 114]⟩, .int .i64 2, .string ⟨#[109, 115]⟩, .int .i64 3, .string ⟨#[109, 115]⟩] 42) := ⟨_, rfl⟩
  have hBA : Blk WA w2.heap.size 42 #[.int .i64 0, .string ⟨#[]⟩, .int .i64 4, .string ⟨#[117, 115, 101, 114]⟩, .int .i64 2, .string ⟨#[109, 115]⟩, .int .i64 3, .string ⟨#[109, 115]⟩] := by rw [hWA]; exact Blk.new _ _ _
  have GA : Hid (w2.grownBy WA none) := Lib.hid (by rw [hWA]; exact only_alloc (only_refl w2 none) _)
  rw [← hWA]
  refine (gcoll_any A1 ns c1 (some ⟨w2.heap.size, 0, none⟩) cntAgs 4 WA (RN.out.grown GA.out (by simp)) (by omega) HNS.out (cnt_row hBA) (by decide) cnt_ok (PT.out.grown GA.out) 50 (g < ·) A3 es c3 WA (by omega) (only_refl _ _) (EV.out.grown GA.out (by simp)) HE1.out (by omega) HNV.out).mono ?_
  rintro e w3 ⟨AP, cP, ps, rfl, hps, hpc, hpm, hPD, hg3⟩
  have hok := coll_okP hps (by omega) (by omega)
  have G3 := Lib.hid (only_trans GA.out hg3)
  have HPS := Lib.hid hps
  have HOK := Lib.hid hok.1
  have hpl : ps.length ≤ 30 := by have := hok.2; omega
  have HPD := Lib.hid hPD
  clear hps hPD hg3 hok hWA hBA hpc hpm
  go_wp2_with fail
  refine (grows_any _ 4 4 AP ps cP w3 HPD.out (by omega) (fun p hp => by have := HOK.out p hp; exact ⟨by rw [this.1]; decide, by have := this.2.1; omega⟩)).mono ?_
  rintro e w4 ⟨AR, cR, rs, rfl, hrs, hrc, hrm, hRW, hg4⟩
  have G4 := Lib.hid (only_trans G3.out hg4)
  obtain ⟨zs, hzs⟩ : ∃ z, z = collF ns cntAgs es := ⟨_, rfl⟩
  have hrz : rs.map RwD.pl = zs.map rowP := by rw [hrs, HPS.out, ← hzs]
  have hci := coll_inv ns es (fun e he => (HGD.out e he).wt.1) (by have := HWT.out; omega)
  rw [← hzs] at hci
  have HRZ := Lib.hid hrz
  have HCI := Lib.hid hci.1
  have HTZ := Lib.hid hci.2
  have HKL : Hid (∀ z ∈ zs, z.key.length ≤ 2) := Lib.hid (fun z hz => by
    rw [hzs] at hz
    have := ((collF_ok ns cntAgs es).1 z hz).2.1
    omega)
  have HSRT : Hid (SrtK zs) := Lib.hid (by rw [hzs]; exact collF_srt _ _ _)
  have hrl : rs.length ≤ 30 := by
    have h1 := congrArg List.length hrs
    rw [List.length_map, List.length_map, List.length_map] at h1
    omega
  have RW := Lib.hid (hRW.mono (S' := fun _ => True) (fun b _ _ => trivial))
  have RN4 := Lib.hid (RN.out.grown G4.out (by simp))
  have EV4 := Lib.hid (EV.out.grown G4.out (by simp))
  have PT4 := Lib.hid (PT.out.grown G4.out)
  have GW4 := Lib.hid (only_trans G2.out G4.out)
  clear hrs hrc hrm hRW hg4 hzs hrz hci HPS HOK HPD hpl G3 G4 GA RN EV PT G2
  obtain ⟨T1, hT1⟩ : ∃ T : Nat → Int, T = fun k => wSum (es.take k) := ⟨_, rfl⟩
  have HT0 : Hid (T1 0 = 0) := Lib.hid (by rw [hT1]; simp [wSum])
  have HTS : Hid (∀ k y, es[k]? = some y → T1 (k + 1) = T1 k + y.weight) := Lib.hid (fun k y hy => by rw [hT1]; exact wSum_snoc es hy)
  have HTB : Hid (∀ k, 0 ≤ T1 k ∧ T1 k ≤ 200000) := Lib.hid (fun k => by
    rw [hT1]
    have := wSum_le (l := es.take k) (fun e he => HGD.out e (List.mem_of_mem_take he))
    have hl : (es.take k).length ≤ es.length := by rw [List.length_take]; omega
    show 0 ≤ wSum (es.take k) ∧ wSum (es.take k) ≤ 200000
    omega)
  have HTE : Hid (T1 es.length = wSum es) := Lib.hid (by rw [hT1]; simp)
  obtain ⟨T2, hT2⟩ : ∃ T : Nat → Int, T = fun k => sumT (zs.take k) := ⟨_, rfl⟩
  have HU0 : Hid (T2 0 = 0) := Lib.hid (by rw [hT2]; simp [sumT])
  have HUS : Hid (∀ k y, zs[k]? = some y → T2 (k + 1) = T2 k + hdT y.cs) := Lib.hid (fun k y hy => by rw [hT2]; exact sumT_snoc zs hy)
  have HUE : Hid (T2 rs.length = wSum es) := Lib.hid (by
    have h1 := congrArg List.length HRZ.out
    rw [List.length_map, List.length_map] at h1
    rw [hT2]; simp only; rw [h1, List.take_length, HTZ.out])
  have HUB : Hid (∀ k, 0 ≤ T2 k ∧ T2 k ≤ 200000) := Lib.hid (fun k => by
    rw [hT2]
    show 0 ≤ sumT (zs.take k) ∧ sumT (zs.take k) ≤ 200000
    have h1 := sumT_pos (f := nOf ns es) (zs := zs.take k) (fun z hz => HCI.out z (List.mem_of_mem_take hz))
    have h2 := sumT_pos (f := nOf ns es) (zs := zs.drop k) (fun z hz => HCI.out z (List.mem_of_mem_drop hz))
    have h3 : sumT zs = sumT (zs.take k) + sumT (zs.drop k) := by unfold sumT; rw [← List.sum_append, ← List.map_append, List.take_append_drop]
    have h4 := HTZ.out
    have h5 := HWT.out
    omega)
  clear hT1 hT2
  go_wp2_with fail
  go_loopw [11, 9] (fun v1 v2 wr => ∃ k : Nat, v1 = .int .i64 k ∧ v2 = .int .i64 (T1 k) ∧ k ≤ es.length ∧ w4.grownBy wr none) (fun v1 _ _ => es.length - (intOf v1).toNat)
  case atStart => exact ⟨0, rfl, by rw [HT0.out], Nat.zero_le _, only_refl _ _⟩
  case round =>
    obtain ⟨k, rfl, rfl, hk, hG⟩ := hrel
    have G := Lib.hid hG
    clear hG
    by_cases hlt : k < es.length
    · obtain ⟨y, hy⟩ : ∃ y, es[k]? = some y := ⟨_, List.getElem?_eq_getElem hlt⟩
      obtain ⟨kb, ko, rfl, hkw, -, -, -, -, -, -, z6, -⟩ := ev_in (EV4.out.1.grown G.out (by simp)) hy
      have hwt := (HGD.out y (List.mem_of_getElem? hy)).wt
      have hst := HTS.out k y hy
      have HST := Lib.hid hst
      have htb := HTB.out k
      obtain ⟨t, ht⟩ : ∃ t, t = T1 k := ⟨_, rfl⟩
      obtain ⟨yw, hyw⟩ : ∃ t, t = y.weight := ⟨_, rfl⟩
      rw [← ht] at HST htb ⊢
      rw [← hyw] at HST hwt z6
      have j1 : (k : Int) < (es.length : Int) := by omega
      clear hst hy ht hyw
      go_wp2_with fail
      go_roundw
      case rel => exact ⟨k + 1, by go_num, by rw [HST.out], by omega, G.out⟩
      case measure => simp [intOf]; omega
    · have j1 : ¬ (k : Int) < (es.length : Int) := by omega
      have hke : k = es.length := by omega
      subst hke
      rw [HTE.out]
      obtain ⟨TOT, hTOT⟩ : ∃ t, t = wSum es := ⟨_, rfl⟩
      have HUE2 : Hid (T2 rs.length = TOT) := Lib.hid (by rw [hTOT]; exact HUE.out)
      rw [← hTOT]
      clear hTOT HUE HTE HTS HTB HT0 HTZ HWT hk hlt
      go_wp2_with fail
      go_loopw [12, 10] (fun v1 v2 wr => ∃ i : Nat, v1 = .int .i64 i ∧ v2 = .int .i64 (T2 i) ∧ i ≤ rs.length ∧ w4.grownBy wr none) (fun v1 _ _ => rs.length - (intOf v1).toNat)
      case atStart => exact ⟨0, rfl, by rw [HU0.out], Nat.zero_le _, G.out⟩
      case round =>
        obtain ⟨i, rfl, rfl, hi, hG⟩ := hrel
        have GI := Lib.hid hG
        clear hG G
        by_cases hil : i < rs.length
        · obtain ⟨r, z, hr, hz, hrp⟩ := map_at HRZ.out hil
          have hzi := HCI.out z (List.mem_of_getElem? hz)
          have hrs := (RW.out.2 r (List.mem_of_getElem? hr))
          obtain ⟨nb, no, t1, t2, t3, hq, hna, hnl, hnb, q0, q1, q2, q3, b1, b2, b3, b4, b5⟩ := (rowC_of hrs hrp hzi.1).ex
          obtain ⟨rb, ro, rfl, hrbw, r0, r1⟩ := rw_in RW.out.1 hr
          have HPV : Hid (∀ j, i = j + 1 → ∃ (pa : Option Addr) (pc : Nat) (p : List ByteArray), w4.cell? ⟨rb, ro + j * 3, none⟩ = some (.slice pa p.length pc) ∧ Rd (fun _ => True) w4 pa (p.map .string) ∧ p.length ≤ 1000 ∧ cmpK p z.key = -1) := Lib.hid (fun j hj => by
            obtain ⟨r', z', hr', hz', hrp'⟩ := map_at HRZ.out (i := j) (by omega)
            obtain ⟨b', o', e', -, s0, -⟩ := rw_in RW.out.1 hr'
            injection e' with e'
            injection e' with e1 e2
            subst e1 e2
            have e3 : r'.key.l = z'.key := congrArg Prod.fst hrp'
            exact ⟨_, _, _, s0, (RW.out.2 r' (List.mem_of_getElem? hr')).1.1, by rw [e3]; have := HKL.out z' (List.mem_of_getElem? hz'); omega, by rw [e3]; exact srt_at HSRT.out hz' (by rw [← hj]; exact hz)⟩)
          have hus := HUS.out i z hz
          have hub := HUB.out i
          have hub' := HUB.out (i + 1)
          have KR := Lib.hid hrs.1.1
          rw [hq] at KR r0
          rw [hna, hnl] at r1
          have HN1 := Lib.hid hzi.2
          obtain ⟨q, hqd⟩ : ∃ q, q = z.key := ⟨_, rfl⟩
          obtain ⟨t, htd⟩ : ∃ t, t = hdT z.cs := ⟨_, rfl⟩
          obtain ⟨ka, hka⟩ : ∃ x, x = r.key.a := ⟨_, rfl⟩
          obtain ⟨kc, hkc⟩ : ∃ x, x = r.key.c := ⟨_, rfl⟩
          obtain ⟨nc, hnc⟩ : ∃ x, x = r.nc := ⟨_, rfl⟩
          rw [← hqd] at KR r0 HPV HN1 b1
          rw [← htd] at q0 b3 hus
          rw [← hka] at KR r0
          rw [← hkc] at r0
          rw [← hnc] at r1 b4 b5
          have HUS1 := Lib.hid hus
          have HB1 := Lib.hid b1
          have HB2 := Lib.hid b2
          have hql : q.length ≤ 1000000 := by rw [hqd]; have := HKL.out z (List.mem_of_getElem? hz); omega
          obtain ⟨F, hF⟩ : ∃ F : Nat → Int, F = fun k => (nOf ns (es.take k) q : Int) := ⟨_, rfl⟩
          have HF0 : Hid (F 0 = 0) := Lib.hid (by rw [hF]; simp [nOf])
          have HFS : Hid (∀ k y, es[k]? = some y → F (k + 1) = F k + (if cmpK (keyOf_ ns y) q = 0 then 1 else 0)) := Lib.hid (fun k y hy => by
            rw [hF]
            simp only
            rw [nOf_snoc ns es q hy]
            split <;> simp)
          have HFB : Hid (∀ k, 0 ≤ F k ∧ F k ≤ 30) := Lib.hid (fun k => by
            rw [hF]
            have h1 : nOf ns (es.take k) q ≤ (es.take k).length := List.length_filter_le _ _
            have h2 : (es.take k).length ≤ es.length := by rw [List.length_take]; omega
            show (0 : Int) ≤ (nOf ns (es.take k) q : Int) ∧ (nOf ns (es.take k) q : Int) ≤ 30
            omega)
          have HFE : Hid (F es.length = (nOf ns es q : Int)) := Lib.hid (by rw [hF]; simp)
          have j2 : (i : Int) < (rs.length : Int) := by omega
          clear hF hr hz hrp hzi hrs hq hna hnl hqd htd hka hkc hnc b1 b2 hus
          go_wp2_with fail
          go_loopw [14, 13] (fun v1 v2 wr => ∃ k : Nat, v1 = .int .i64 k ∧ v2 = .int .i64 (F k) ∧ k ≤ es.length ∧ w4.grownBy wr none) (fun v1 _ _ => es.length - (intOf v1).toNat)
          case atStart => exact ⟨0, rfl, by rw [HF0.out], Nat.zero_le _, GI.out⟩
          case round =>
            obtain ⟨k, rfl, rfl, hk, hG⟩ := hrel
            have G := Lib.hid hG
            clear hG
            by_cases hlt : k < es.length
            · obtain ⟨y, hy⟩ : ∃ y, es[k]? = some y := ⟨_, List.getElem?_eq_getElem hlt⟩
              have hys := EV4.out.2 y (List.mem_of_getElem? hy)
              have gd := HGD.out y (List.mem_of_getElem? hy)
              have K1 : Hid (∀ w', w4.grownBy w' none → Calls Tryz.prog 16 #[.slice A1 ns.length c1, .agg y.cells.toArray] w' (StrsP w' (keyOf_ ns y))) := Lib.hid (fun w' hg => key_any A1 ns c1 y w' (RN4.out.grown hg (by simp)) (by omega) HNS.out (hys.grown hg (by simp)) gd.evI0 (PT4.out.grown hg))
              obtain ⟨kb, ko, hA3, hkw, -⟩ := ev_in EV4.out.1 hy
              subst hA3
              have LE : Hid (∀ w', w4.grownBy w' none → (Instr.loadAt 35 (.pointer (some ⟨kb, ko + k * 10, none⟩))).run Tryz.prog w' = .ok (.agg y.cells.toArray) w') := Lib.hid (fun w' hg => load_evAt w' kb (ko + k * 10) y (by
                obtain ⟨kb', ko', e, _, z⟩ := ev_in (EV4.out.1.grown hg (by simp)) hy
                injection e with e
                injection e with e1 e2
                subst e1 e2
                exact z))
              have hfs := HFS.out k y hy
              have hfb := HFB.out k
              obtain ⟨YC, hYC⟩ : ∃ a, a = y.cells.toArray := ⟨_, rfl⟩
              rw [← hYC] at K1 LE
              obtain ⟨ks, hks⟩ : ∃ a, a = keyOf_ ns y := ⟨_, rfl⟩
              rw [← hks] at K1 hfs
              have hkl : ks.length ≤ 1000000 := by rw [hks]; unfold keyOf_; rw [List.length_map]; omega
              obtain ⟨d, hdd⟩ : ∃ d, d = cmpK ks q := ⟨_, rfl⟩
              have KD : Hid (∀ (Ak : Option Addr) (ck : Nat) (w' : World), w4.grownBy w' none → ∀ S : Nat → Prop, Rd S w' Ak (ks.map .string) → Calls Tryz.prog 15 #[.slice Ak ks.length ck, .slice ka q.length kc] w' (IntP d w')) := Lib.hid (fun Ak ck w' hg S hr => by
                rw [hdd]
                exact pcmp_any Ak ka ks q ck kc w' (hr.mono (S' := fun _ => True) (fun _ _ _ => trivial)) (KR.out.grown hg (by simp)) (by omega) (by omega))
              rw [← hdd] at hfs
              have HFS1 := Lib.hid hfs
              obtain ⟨f, hf⟩ : ∃ f, f = F k := ⟨_, rfl⟩
              rw [← hf] at HFS1 hfb ⊢
              have j1 : (k : Int) < (es.length : Int) := by omega
              clear hy hys gd hfs hYC hks hdd hf
              go_upto_region 18 with fail
              refine wp_region_gen 12 (JC [some (.slice A1 ns.length c1), some (.slice (some ⟨kb, ko, none⟩) (es.length) (c3)), some (.int .i64 (k)), some (.pointer (some ⟨kb, ko + k * 10, none⟩)), some (.agg YC), none, some (.slice (some ⟨rb, ro, none⟩) (rs.length) (cR)), some (.int .i64 (i)), some (.pointer (some ⟨rb, ro + i * 3, none⟩)), some (.pointer (some ⟨rb, ro + i * 3, none⟩)), some (.slice ka q.length kc), some (.int .i64 (d))] (fun D u w => wr.grownBy w none ∧ (D 5 = true → FreshS wr.heap.size (ks.map .string) ks.length 9 w (u 5)))) (by kernel_rfl) (by kernel_rfl) ?_ ?_ ?_
              · intro u
                exact ⟨(fun j c _ h => by cases h), only_drew (only_refl _ _), fun h => by cases h⟩
              · intro AA hA
                have hasz : AA.tmps.size = 145 := by rw [hA]; kernel_rfl
                have ea3 : AA.eval (.tmp 3) = .slice A1 ns.length c1 := by rw [hA]; kernel_rfl
                have ea5 : AA.eval (.tmp 5) = .slice (some ⟨kb, ko, none⟩) (es.length) (c3) := by rw [hA]; kernel_rfl
                have ea8 : AA.eval (.tmp 8) = .slice (some ⟨rb, ro, none⟩) (rs.length) (cR) := by rw [hA]; kernel_rfl
                have ea12 : AA.eval (.tmp 12) = .int .i64 (i) := by rw [hA]; kernel_rfl
                have ea14 : AA.eval (.tmp 14) = .int .i64 (k) := by rw [hA]; kernel_rfl
                clear hA
                simp only [List.take_succ_cons, List.take_zero]
                refine .cons ?_ (.cons ?_ (.cons ?_ (.cons ?_ (.cons ?_ (.cons ?_ (.cons ?_ (.cons ?_ (.cons ?_ (.cons ?_ (.cons ?_ (.cons ?_ (.nil))))))))))))
                · exact gd_gen (by kernel_rfl) (Want.none_ rfl) rfl (fun D u w v h => by simpa [updB, upd] using h) (fun D u ρ w kn => by
                    have e0 := kn.own 3 (c := .slice A1 ns.length c1) (by kernel_rfl) ea3
                    simp [execOp, kn.rho.con, e0, go_sem])
                · exact gd_gen (by kernel_rfl) (Want.none_ rfl) rfl (fun D u w v h => by simpa [updB, upd] using h) (fun D u ρ w kn => by
                    have e0 := kn.own 5 (c := .slice (some ⟨kb, ko, none⟩) (es.length) (c3)) (by kernel_rfl) ea5
                    simp [execOp, kn.rho.con, e0, go_sem])
                · exact gd_gen (by kernel_rfl) (Want.none_ rfl) rfl (fun D u w v h => by simpa [updB, upd] using h) (fun D u ρ w kn => by
                    have e0 := kn.own 14 (c := .int .i64 (k)) (by kernel_rfl) ea14
                    simp [execOp, kn.rho.con, e0, go_sem])
                · exact gd_gen (by kernel_rfl) (Want.none_ rfl) rfl (fun D u w v h => by simpa [updB, upd] using h) (fun D u ρ w kn => by
                    have e0 := kn.con 1 61 (c := .slice (some ⟨kb, ko, none⟩) (es.length) (c3)) (by kernel_rfl) (by omega) (by kernel_rfl) rfl
                    have e1 := kn.con 2 62 (c := .int .i64 (k)) (by kernel_rfl) (by omega) (by kernel_rfl) rfl
                    simp [execOp, kn.rho.con, e0, e1, go_sem, j1])
                · exact gd_gen (by kernel_rfl) (Want.none_ rfl) rfl (fun D u w v h => by simpa [updB, upd] using h) (fun D u ρ w kn => by
                    have e0 := kn.con 3 63 (c := .pointer (some ⟨kb, ko + k * 10, none⟩)) (by kernel_rfl) (by omega) (by kernel_rfl) rfl
                    exact run_load ρ w rfl e0 (LE.out w (only_trans G.out kn.ext.1)))
                · refine gd_call (by kernel_rfl) (Want.none_ rfl) 16 (fun D u ρ w kn hD => ?_)
                  have e0 := kn.con 0 60 (c := .slice A1 ns.length c1) (by kernel_rfl) (by omega) (by kernel_rfl) rfl
                  have e1 := kn.con 4 64 (c := .agg YC) (by kernel_rfl) (by omega) (by kernel_rfl) rfl
                  refine ⟨#[.slice A1 ns.length c1, .agg YC], ?_, (K1.out w (only_trans G.out kn.ext.1)).mono ?_⟩
                  · simp only [execOp, resolve, Deferred.ofValue, List.map_toArray, List.map_cons, List.map_nil, e0, e1, kn.rho.con, kn.rho.fn]
                    simp [go_sem]
                  · rintro e w' ⟨A5, c5, rfl, hk5, hk6, hk7, hg⟩
                    obtain ⟨x1, x2⟩ := kn.ext
                    exact ⟨_, rfl, (fun c h => by injection h with h; cases h), only_trans x1 hg, fun _ => by rw [upd_at]; exact FreshS.of hk7 x1.size⟩
                · exact gd_gen (by kernel_rfl) (Want.none_ rfl) rfl (fun D u w v h => by simpa [updB, upd] using h) (fun D u ρ w kn => by
                    have e0 := kn.own 8 (c := .slice (some ⟨rb, ro, none⟩) (rs.length) (cR)) (by kernel_rfl) ea8
                    simp [execOp, kn.rho.con, e0, go_sem])
                · exact gd_gen (by kernel_rfl) (Want.none_ rfl) rfl (fun D u w v h => by simpa [updB, upd] using h) (fun D u ρ w kn => by
                    have e0 := kn.own 12 (c := .int .i64 (i)) (by kernel_rfl) ea12
                    simp [execOp, kn.rho.con, e0, go_sem])
                · exact gd_gen (by kernel_rfl) (Want.none_ rfl) rfl (fun D u w v h => by simpa [updB, upd] using h) (fun D u ρ w kn => by
                    have e0 := kn.con 6 66 (c := .slice (some ⟨rb, ro, none⟩) (rs.length) (cR)) (by kernel_rfl) (by omega) (by kernel_rfl) rfl
                    have e1 := kn.con 7 67 (c := .int .i64 (i)) (by kernel_rfl) (by omega) (by kernel_rfl) rfl
                    simp [execOp, kn.rho.con, e0, e1, go_sem, j2])
                · exact gd_gen (by kernel_rfl) (Want.none_ rfl) rfl (fun D u w v h => by simpa [updB, upd] using h) (fun D u ρ w kn => by
                    have e0 := kn.con 8 68 (c := .pointer (some ⟨rb, ro + i * 3, none⟩)) (by kernel_rfl) (by omega) (by kernel_rfl) rfl
                    simp [execOp, kn.rho.con, e0, go_sem])
                · exact gd_gen (by kernel_rfl) (Want.none_ rfl) rfl (fun D u w v h => by simpa [updB, upd] using h) (fun D u ρ w kn => by
                    have e0 := kn.con 9 69 (c := .pointer (some ⟨rb, ro + i * 3, none⟩)) (by kernel_rfl) (by omega) (by kernel_rfl) rfl
                    have f0 := (cellG (only_trans G.out kn.ext.1) hrbw).trans r0
                    simp [execOp, kn.rho.con, e0, f0, go_sem])
                · refine gd_call (by kernel_rfl) (Want.none_ rfl) 15 (fun D u ρ w kn hD => ?_)
                  have e0 := kn.slot 5 65 (by kernel_rfl) (by omega)
                  have e1 := kn.con 10 70 (c := .slice ka q.length kc) (by kernel_rfl) (by omega) (by kernel_rfl) rfl
                  have d5 := kn.dep 5 (by kernel_rfl)
                  obtain ⟨x1, x2⟩ := kn.ext
                  obtain ⟨Ak, ck, y5, -, -, hO⟩ := x2 d5
                  rw [y5] at e0
                  refine ⟨#[.slice Ak ks.length ck, .slice ka q.length kc], ?_, (KD.out Ak ck w (only_trans G.out x1) _ (rd_ownG hO)).mono ?_⟩
                  · simp only [execOp, resolve, Deferred.ofValue, List.map_toArray, List.map_cons, List.map_nil, e0, e1, kn.rho.con, kn.rho.fn]
                    simp [go_sem]
                  · rintro e w' ⟨rfl, rfl⟩
                    exact ⟨_, rfl, (fun c h => by injection h with h; injection h), x1, fun h => by rw [updB_ne D (by omega)] at h; rw [upd_ne u _ (by omega)]; exact x2 h⟩
              · intro D u w5 hJ hD
                obtain ⟨hc, x1, x2⟩ := hJ
                have e11 : u 11 = .int .i64 d := hc 11 _ rfl (hD 11 (by omega))
                obtain ⟨Ak, ck, e5, -, -, -⟩ := x2 (hD 5 (by omega))
                simp only [List.take_succ_cons, List.take_zero, List.drop_succ_cons, List.drop_zero, putAll]
                rw [e11]
                have G5 := Lib.hid (only_trans G.out x1)
                clear hc x1 x2 e11 hD K1 KD LE
                by_cases hd : d = 0
                · have HFS2 : Hid (F (k + 1) = f + 1) := Lib.hid (by rw [HFS1.out, if_pos hd])
                  subst hd
                  clear HFS1
                  go_wp2_with fail
                  go_roundw
                  case rel => exact ⟨k + 1, by go_num, by rw [HFS2.out], by omega, G5.out⟩
                  case measure => simp [intOf]; omega
                · have HFS2 : Hid (F (k + 1) = f) := Lib.hid (by rw [HFS1.out, if_neg hd]; omega)
                  clear HFS1
                  go_wp2_with fail
                  go_roundw
                  case rel => exact ⟨k + 1, by go_num, by rw [HFS2.out], by omega, G5.out⟩
                  case measure => simp [intOf]; omega
            · have j1 : ¬ (k : Int) < (es.length : Int) := by omega
              have hke : k = es.length := by omega
              subst hke
              obtain ⟨cn, hcn⟩ : ∃ c, c = F es.length := ⟨_, rfl⟩
              have hn0 : ¬ cn = 0 := by have := HN1.out; rw [hcn, HFE.out]; omega
              have hb1 : ¬ cn < t1 := by have := HB1.out; rw [hcn, HFE.out]; omega
              have hb2 : ¬ t3 < t2 := by have := HB2.out; omega
              rw [← hcn]
              obtain ⟨s, hs⟩ : ∃ s, s = T2 i := ⟨_, rfl⟩
              rw [← hs] at HUS1 hub ⊢
              rw [HUS1.out] at hub'
              clear hcn hs hk hlt
              go_upto_region 20 with fail
              have HEND : Hid (T2 (i + 1) = s + t) := HUS1
              by_cases hip : 0 < i
              · obtain ⟨j, hj⟩ : ∃ j, i = j + 1 := ⟨i - 1, by omega⟩
                obtain ⟨pa, pc, p, p0, hp1, hpl, hp2⟩ := HPV.out j hj
                have KP : Hid (∀ w', w4.grownBy w' none → Calls Tryz.prog 15 #[.slice pa p.length pc, .slice ka q.length kc] w' (IntP (-1) w')) := Lib.hid (fun w' hg => by
                  rw [← hp2]
                  exact pcmp_any pa ka p q pc kc w' (hp1.grown hg (by simp)) (KR.out.grown hg (by simp)) (by omega) (by omega))
                have hi1 : (0 : Int) < (i : Int) := by omega
                have hi1n : 0 < i := hip
                have HSUB : Hid ((i : Int) - 1 = (j : Int)) := Lib.hid (by omega)
                have j3 : (j : Int) < (rs.length : Int) := by omega
                clear hj hp1 hp2 hpl
                refine wp_region_gen 57 (JC (some (.slice (some ⟨rb, ro, none⟩) (rs.length) (cR)) :: some (.int .i64 (i)) :: some (.pointer (some ⟨rb, ro + i * 3, none⟩)) :: some (.pointer (some ⟨rb, ro + i * 3 + 1, none⟩)) :: some (.slice (some ⟨nb, no, none⟩) (4) (nc)) :: some (.int .i64 4) :: some (.bool false) :: some (.bool false) :: some (.int .i64 (cn)) :: some (.bool false) :: some (.bool false) :: some (.bool false) :: some (.slice (some ⟨rb, ro, none⟩) (rs.length) (cR)) :: some (.int .i64 (i)) :: some (.pointer (some ⟨rb, ro + i * 3, none⟩)) :: some (.pointer (some ⟨rb, ro + i * 3 + 1, none⟩)) :: some (.slice (some ⟨nb, no, none⟩) (4) (nc)) :: some (.pointer (some ⟨nb, no + 1, none⟩)) :: some (.int .i64 (t1)) :: some (.int .i64 (cn)) :: some (.bool false) :: some (.bool false) :: some (.bool false) :: some (.slice (some ⟨rb, ro, none⟩) (rs.length) (cR)) :: some (.int .i64 (i)) :: some (.pointer (some ⟨rb, ro + i * 3, none⟩)) :: some (.pointer (some ⟨rb, ro + i * 3 + 1, none⟩)) :: some (.slice (some ⟨nb, no, none⟩) (4) (nc)) :: some (.pointer (some ⟨nb, no + 2, none⟩)) :: some (.int .i64 (t2)) :: some (.slice (some ⟨rb, ro, none⟩) (rs.length) (cR)) :: some (.int .i64 (i)) :: some (.pointer (some ⟨rb, ro + i * 3, none⟩)) :: some (.pointer (some ⟨rb, ro + i * 3 + 1, none⟩)) :: some (.slice (some ⟨nb, no, none⟩) (4) (nc)) :: some (.pointer (some ⟨nb, no + 3, none⟩)) :: some (.int .i64 (t3)) :: some (.bool false) :: some (.bool false) :: some (.bool false) :: some (.int .i64 (i)) :: some (.bool true) :: some (.bool true) :: some (.slice (some ⟨rb, ro, none⟩) (rs.length) (cR)) :: some (.int .i64 (i)) :: some (.int .i64 (j)) :: some (.pointer (some ⟨rb, ro + j * 3, none⟩)) :: some (.pointer (some ⟨rb, ro + j * 3, none⟩)) :: some (.slice pa p.length pc) :: some (.slice (some ⟨rb, ro, none⟩) (rs.length) (cR)) :: some (.int .i64 (i)) :: some (.pointer (some ⟨rb, ro + i * 3, none⟩)) :: some (.pointer (some ⟨rb, ro + i * 3, none⟩)) :: some (.slice ka q.length kc) :: some (.int .i64 (-1)) :: some (.bool false) :: some (.bool false) :: []) (fun D u w => wr.grownBy w none)) (by kernel_rfl) (by kernel_rfl) ?_ ?_ ?_
                · intro u
                  exact ⟨(fun j c _ h => by cases h), only_drew (only_refl _ _)⟩
                · intro AA hA
                  have hasz : AA.tmps.size = 145 := by rw [hA]; kernel_rfl
                  have ea8 : AA.eval (.tmp 8) = .slice (some ⟨rb, ro, none⟩) (rs.length) (cR) := by rw [hA]; kernel_rfl
                  have ea12 : AA.eval (.tmp 12) = .int .i64 (i) := by rw [hA]; kernel_rfl
                  have ea13 : AA.eval (.tmp 13) = .int .i64 (cn) := by rw [hA]; kernel_rfl
                  clear hA
                  simp only [List.take_succ_cons, List.take_zero]
                  refine .cons ?_ (.cons ?_ (.cons ?_ (.cons ?_ (.cons ?_ (.cons ?_ (.cons ?_ (.cons ?_ (.cons ?_ (.cons ?_ (.cons ?_ (.cons ?_ (.cons ?_ (.cons ?_ (.cons ?_ (.cons ?_ (.cons ?_ (.cons ?_ (.cons ?_ (.cons ?_ (.cons ?_ (.cons ?_ (.cons ?_ (.cons ?_ (.cons ?_ (.cons ?_ (.cons ?_ (.cons ?_ (.cons ?_ (.cons ?_ (.cons ?_ (.cons ?_ (.cons ?_ (.cons ?_ (.cons ?_ (.cons ?_ (.cons ?_ (.cons ?_ (.cons ?_ (.cons ?_ (.cons ?_ (.cons ?_ (.cons ?_ (.cons ?_ (.cons ?_ (.cons ?_ (.cons ?_ (.cons ?_ (.cons ?_ (.cons ?_ (.cons ?_ (.cons ?_ (.cons ?_ (.cons ?_ (.cons ?_ (.cons ?_ (.cons ?_ (.nil)))))))))))))))))))))))))))))))))))))))))))))))))))))))))
                  · exact gd_gen (by kernel_rfl) (Want.none_ rfl) rfl (fun D u w v h => h) (fun D u ρ w kn => by
                      have e0 := kn.own 8 (c := .slice (some ⟨rb, ro, none⟩) (rs.length) (cR)) (by kernel_rfl) ea8
                      simp [execOp, kn.rho.con, e0, go_sem])
                  · exact gd_gen (by kernel_rfl) (Want.none_ rfl) rfl (fun D u w v h => h) (fun D u ρ w kn => by
                      have e0 := kn.own 12 (c := .int .i64 (i)) (by kernel_rfl) ea12
                      simp [execOp, kn.rho.con, e0, go_sem])
                  · exact gd_gen (by kernel_rfl) (Want.none_ rfl) rfl (fun D u w v h => h) (fun D u ρ w kn => by
                      have e0 := kn.con 0 75 (c := .slice (some ⟨rb, ro, none⟩) (rs.length) (cR)) (by kernel_rfl) (by omega) (by kernel_rfl) rfl
                      have e1 := kn.con 1 76 (c := .int .i64 (i)) (by kernel_rfl) (by omega) (by kernel_rfl) rfl
                      simp [execOp, kn.rho.con, e0, e1, go_sem, j2])
                  · exact gd_gen (by kernel_rfl) (Want.none_ rfl) rfl (fun D u w v h => h) (fun D u ρ w kn => by
                      have e0 := kn.con 2 77 (c := .pointer (some ⟨rb, ro + i * 3, none⟩)) (by kernel_rfl) (by omega) (by kernel_rfl) rfl
                      simp [execOp, kn.rho.con, e0, go_sem])
                  · exact gd_gen (by kernel_rfl) (Want.none_ rfl) rfl (fun D u w v h => h) (fun D u ρ w kn => by
                      have e0 := kn.con 3 78 (c := .pointer (some ⟨rb, ro + i * 3 + 1, none⟩)) (by kernel_rfl) (by omega) (by kernel_rfl) rfl
                      have f0 := (cellG (only_trans G.out kn.ext) hrbw).trans r1
                      simp [execOp, kn.rho.con, e0, f0, go_sem])
                  · refine gd_gen (by kernel_rfl) (Want.none_ rfl) rfl (fun D u w v h => h) (fun D u ρ w kn => by
                      have e0 := kn.con 4 79 (c := .slice (some ⟨nb, no, none⟩) 4 nc) (by kernel_rfl) (by omega) (by kernel_rfl) rfl
                      simp [execOp, resolve, Deferred.ofValue, kn.rho.con, e0, go_sem])
                  · exact gd_gen (by kernel_rfl) (Want.none_ rfl) rfl (fun D u w v h => h) (fun D u ρ w kn => by
                      have e0 := kn.con 5 80 (c := .int .i64 4) (by kernel_rfl) (by omega) (by kernel_rfl) rfl
                      simp [execOp, kn.rho.con, e0, go_sem])
                  · exact gd_gen (by kernel_rfl) (Want.none_ rfl) rfl (fun D u w v h => h) (fun D u ρ w kn => by
                      have e0 := kn.con 6 81 (c := .bool false) (by kernel_rfl) (by omega) (by kernel_rfl) rfl
                      simp [execOp, kn.rho.con, e0, go_sem])
                  · exact gd_gen (by kernel_rfl) (Want.some_ (g := 7) (v := false) rfl rfl (by kernel_rfl) (by omega) rfl rfl (by kernel_rfl)) rfl (fun D u w v h => h) (fun D u ρ w kn => by
                      have e0 := kn.own 13 (c := .int .i64 (cn)) (by kernel_rfl) ea13
                      simp [execOp, kn.rho.con, e0, go_sem])
                  · exact gd_gen (by kernel_rfl) (Want.some_ (g := 7) (v := false) rfl rfl (by kernel_rfl) (by omega) rfl rfl (by kernel_rfl)) rfl (fun D u w v h => h) (fun D u ρ w kn => by
                      have e0 := kn.con 8 83 (c := .int .i64 (cn)) (by kernel_rfl) (by omega) (by kernel_rfl) rfl
                      simp [execOp, kn.rho.con, e0, go_sem, hn0])
                  · exact gd_gen (by kernel_rfl) (Want.none_ rfl) rfl (fun D u w v h => h) (fun D u ρ w kn => by
                      have e0 := kn.con 7 82 (c := .bool false) (by kernel_rfl) (by omega) (by kernel_rfl) rfl
                      have e1 := kn.con 9 84 (c := .bool false) (by kernel_rfl) (by omega) (by kernel_rfl) rfl
                      simp [execOp, kn.rho.con, e0, e1, go_sem])
                  · exact gd_gen (by kernel_rfl) (Want.none_ rfl) rfl (fun D u w v h => h) (fun D u ρ w kn => by
                      have e0 := kn.con 10 85 (c := .bool false) (by kernel_rfl) (by omega) (by kernel_rfl) rfl
                      simp [execOp, kn.rho.con, e0, go_sem])
                  · exact gd_gen (by kernel_rfl) (Want.some_ (g := 11) (v := false) rfl rfl (by kernel_rfl) (by omega) rfl rfl (by kernel_rfl)) rfl (fun D u w v h => h) (fun D u ρ w kn => by
                      have e0 := kn.own 8 (c := .slice (some ⟨rb, ro, none⟩) (rs.length) (cR)) (by kernel_rfl) ea8
                      simp [execOp, kn.rho.con, e0, go_sem])
                  · exact gd_gen (by kernel_rfl) (Want.some_ (g := 11) (v := false) rfl rfl (by kernel_rfl) (by omega) rfl rfl (by kernel_rfl)) rfl (fun D u w v h => h) (fun D u ρ w kn => by
                      have e0 := kn.own 12 (c := .int .i64 (i)) (by kernel_rfl) ea12
                      simp [execOp, kn.rho.con, e0, go_sem])
                  · exact gd_gen (by kernel_rfl) (Want.some_ (g := 11) (v := false) rfl rfl (by kernel_rfl) (by omega) rfl rfl (by kernel_rfl)) rfl (fun D u w v h => h) (fun D u ρ w kn => by
                      have e0 := kn.con 12 87 (c := .slice (some ⟨rb, ro, none⟩) (rs.length) (cR)) (by kernel_rfl) (by omega) (by kernel_rfl) rfl
                      have e1 := kn.con 13 88 (c := .int .i64 (i)) (by kernel_rfl) (by omega) (by kernel_rfl) rfl
                      simp [execOp, kn.rho.con, e0, e1, go_sem, j2])
                  · exact gd_gen (by kernel_rfl) (Want.some_ (g := 11) (v := false) rfl rfl (by kernel_rfl) (by omega) rfl rfl (by kernel_rfl)) rfl (fun D u w v h => h) (fun D u ρ w kn => by
                      have e0 := kn.con 14 89 (c := .pointer (some ⟨rb, ro + i * 3, none⟩)) (by kernel_rfl) (by omega) (by kernel_rfl) rfl
                      simp [execOp, kn.rho.con, e0, go_sem])
                  · exact gd_gen (by kernel_rfl) (Want.some_ (g := 11) (v := false) rfl rfl (by kernel_rfl) (by omega) rfl rfl (by kernel_rfl)) rfl (fun D u w v h => h) (fun D u ρ w kn => by
                      have e0 := kn.con 15 90 (c := .pointer (some ⟨rb, ro + i * 3 + 1, none⟩)) (by kernel_rfl) (by omega) (by kernel_rfl) rfl
                      have f0 := (cellG (only_trans G.out kn.ext) hrbw).trans r1
                      simp [execOp, kn.rho.con, e0, f0, go_sem])
                  · exact gd_gen (by kernel_rfl) (Want.some_ (g := 11) (v := false) rfl rfl (by kernel_rfl) (by omega) rfl rfl (by kernel_rfl)) rfl (fun D u w v h => h) (fun D u ρ w kn => by
                      have e0 := kn.con 16 91 (c := .slice (some ⟨nb, no, none⟩) (4) (nc)) (by kernel_rfl) (by omega) (by kernel_rfl) rfl
                      simp [execOp, kn.rho.con, e0, go_sem])
                  · exact gd_gen (by kernel_rfl) (Want.some_ (g := 11) (v := false) rfl rfl (by kernel_rfl) (by omega) rfl rfl (by kernel_rfl)) rfl (fun D u w v h => h) (fun D u ρ w kn => by
                      have e0 := kn.con 17 92 (c := .pointer (some ⟨nb, no + 1, none⟩)) (by kernel_rfl) (by omega) (by kernel_rfl) rfl
                      have f0 := (cellG (only_trans G.out kn.ext) hnb).trans q1
                      simp [execOp, kn.rho.con, e0, f0, go_sem])
                  · exact gd_gen (by kernel_rfl) (Want.some_ (g := 11) (v := false) rfl rfl (by kernel_rfl) (by omega) rfl rfl (by kernel_rfl)) rfl (fun D u w v h => h) (fun D u ρ w kn => by
                      have e0 := kn.own 13 (c := .int .i64 (cn)) (by kernel_rfl) ea13
                      simp [execOp, kn.rho.con, e0, go_sem])
                  · exact gd_gen (by kernel_rfl) (Want.some_ (g := 11) (v := false) rfl rfl (by kernel_rfl) (by omega) rfl rfl (by kernel_rfl)) rfl (fun D u w v h => h) (fun D u ρ w kn => by
                      have e0 := kn.con 18 93 (c := .int .i64 (t1)) (by kernel_rfl) (by omega) (by kernel_rfl) rfl
                      have e1 := kn.con 19 94 (c := .int .i64 (cn)) (by kernel_rfl) (by omega) (by kernel_rfl) rfl
                      simp [execOp, kn.rho.con, e0, e1, go_sem, hb1])
                  · exact gd_gen (by kernel_rfl) (Want.none_ rfl) rfl (fun D u w v h => h) (fun D u ρ w kn => by
                      have e0 := kn.con 11 86 (c := .bool false) (by kernel_rfl) (by omega) (by kernel_rfl) rfl
                      have e1 := kn.con 20 95 (c := .bool false) (by kernel_rfl) (by omega) (by kernel_rfl) rfl
                      simp [execOp, kn.rho.con, e0, e1, go_sem])
                  · exact gd_gen (by kernel_rfl) (Want.none_ rfl) rfl (fun D u w v h => h) (fun D u ρ w kn => by
                      have e0 := kn.con 21 96 (c := .bool false) (by kernel_rfl) (by omega) (by kernel_rfl) rfl
                      simp [execOp, kn.rho.con, e0, go_sem])
                  · exact gd_gen (by kernel_rfl) (Want.some_ (g := 22) (v := false) rfl rfl (by kernel_rfl) (by omega) rfl rfl (by kernel_rfl)) rfl (fun D u w v h => h) (fun D u ρ w kn => by
                      have e0 := kn.own 8 (c := .slice (some ⟨rb, ro, none⟩) (rs.length) (cR)) (by kernel_rfl) ea8
                      simp [execOp, kn.rho.con, e0, go_sem])
                  · exact gd_gen (by kernel_rfl) (Want.some_ (g := 22) (v := false) rfl rfl (by kernel_rfl) (by omega) rfl rfl (by kernel_rfl)) rfl (fun D u w v h => h) (fun D u ρ w kn => by
                      have e0 := kn.own 12 (c := .int .i64 (i)) (by kernel_rfl) ea12
                      simp [execOp, kn.rho.con, e0, go_sem])
                  · exact gd_gen (by kernel_rfl) (Want.some_ (g := 22) (v := false) rfl rfl (by kernel_rfl) (by omega) rfl rfl (by kernel_rfl)) rfl (fun D u w v h => h) (fun D u ρ w kn => by
                      have e0 := kn.con 23 98 (c := .slice (some ⟨rb, ro, none⟩) (rs.length) (cR)) (by kernel_rfl) (by omega) (by kernel_rfl) rfl
                      have e1 := kn.con 24 99 (c := .int .i64 (i)) (by kernel_rfl) (by omega) (by kernel_rfl) rfl
                      simp [execOp, kn.rho.con, e0, e1, go_sem, j2])
                  · exact gd_gen (by kernel_rfl) (Want.some_ (g := 22) (v := false) rfl rfl (by kernel_rfl) (by omega) rfl rfl (by kernel_rfl)) rfl (fun D u w v h => h) (fun D u ρ w kn => by
                      have e0 := kn.con 25 100 (c := .pointer (some ⟨rb, ro + i * 3, none⟩)) (by kernel_rfl) (by omega) (by kernel_rfl) rfl
                      simp [execOp, kn.rho.con, e0, go_sem])
                  · exact gd_gen (by kernel_rfl) (Want.some_ (g := 22) (v := false) rfl rfl (by kernel_rfl) (by omega) rfl rfl (by kernel_rfl)) rfl (fun D u w v h => h) (fun D u ρ w kn => by
                      have e0 := kn.con 26 101 (c := .pointer (some ⟨rb, ro + i * 3 + 1, none⟩)) (by kernel_rfl) (by omega) (by kernel_rfl) rfl
                      have f0 := (cellG (only_trans G.out kn.ext) hrbw).trans r1
                      simp [execOp, kn.rho.con, e0, f0, go_sem])
                  · exact gd_gen (by kernel_rfl) (Want.some_ (g := 22) (v := false) rfl rfl (by kernel_rfl) (by omega) rfl rfl (by kernel_rfl)) rfl (fun D u w v h => h) (fun D u ρ w kn => by
                      have e0 := kn.con 27 102 (c := .slice (some ⟨nb, no, none⟩) (4) (nc)) (by kernel_rfl) (by omega) (by kernel_rfl) rfl
                      simp [execOp, kn.rho.con, e0, go_sem])
                  · exact gd_gen (by kernel_rfl) (Want.some_ (g := 22) (v := false) rfl rfl (by kernel_rfl) (by omega) rfl rfl (by kernel_rfl)) rfl (fun D u w v h => h) (fun D u ρ w kn => by
                      have e0 := kn.con 28 103 (c := .pointer (some ⟨nb, no + 2, none⟩)) (by kernel_rfl) (by omega) (by kernel_rfl) rfl
                      have f0 := (cellG (only_trans G.out kn.ext) hnb).trans q2
                      simp [execOp, kn.rho.con, e0, f0, go_sem])
                  · exact gd_gen (by kernel_rfl) (Want.some_ (g := 22) (v := false) rfl rfl (by kernel_rfl) (by omega) rfl rfl (by kernel_rfl)) rfl (fun D u w v h => h) (fun D u ρ w kn => by
                      have e0 := kn.own 8 (c := .slice (some ⟨rb, ro, none⟩) (rs.length) (cR)) (by kernel_rfl) ea8
                      simp [execOp, kn.rho.con, e0, go_sem])
                  · exact gd_gen (by kernel_rfl) (Want.some_ (g := 22) (v := false) rfl rfl (by kernel_rfl) (by omega) rfl rfl (by kernel_rfl)) rfl (fun D u w v h => h) (fun D u ρ w kn => by
                      have e0 := kn.own 12 (c := .int .i64 (i)) (by kernel_rfl) ea12
                      simp [execOp, kn.rho.con, e0, go_sem])
                  · exact gd_gen (by kernel_rfl) (Want.some_ (g := 22) (v := false) rfl rfl (by kernel_rfl) (by omega) rfl rfl (by kernel_rfl)) rfl (fun D u w v h => h) (fun D u ρ w kn => by
                      have e0 := kn.con 30 105 (c := .slice (some ⟨rb, ro, none⟩) (rs.length) (cR)) (by kernel_rfl) (by omega) (by kernel_rfl) rfl
                      have e1 := kn.con 31 106 (c := .int .i64 (i)) (by kernel_rfl) (by omega) (by kernel_rfl) rfl
                      simp [execOp, kn.rho.con, e0, e1, go_sem, j2])
                  · exact gd_gen (by kernel_rfl) (Want.some_ (g := 22) (v := false) rfl rfl (by kernel_rfl) (by omega) rfl rfl (by kernel_rfl)) rfl (fun D u w v h => h) (fun D u ρ w kn => by
                      have e0 := kn.con 32 107 (c := .pointer (some ⟨rb, ro + i * 3, none⟩)) (by kernel_rfl) (by omega) (by kernel_rfl) rfl
                      simp [execOp, kn.rho.con, e0, go_sem])
                  · exact gd_gen (by kernel_rfl) (Want.some_ (g := 22) (v := false) rfl rfl (by kernel_rfl) (by omega) rfl rfl (by kernel_rfl)) rfl (fun D u w v h => h) (fun D u ρ w kn => by
                      have e0 := kn.con 33 108 (c := .pointer (some ⟨rb, ro + i * 3 + 1, none⟩)) (by kernel_rfl) (by omega) (by kernel_rfl) rfl
                      have f0 := (cellG (only_trans G.out kn.ext) hrbw).trans r1
                      simp [execOp, kn.rho.con, e0, f0, go_sem])
                  · exact gd_gen (by kernel_rfl) (Want.some_ (g := 22) (v := false) rfl rfl (by kernel_rfl) (by omega) rfl rfl (by kernel_rfl)) rfl (fun D u w v h => h) (fun D u ρ w kn => by
                      have e0 := kn.con 34 109 (c := .slice (some ⟨nb, no, none⟩) (4) (nc)) (by kernel_rfl) (by omega) (by kernel_rfl) rfl
                      simp [execOp, kn.rho.con, e0, go_sem])
                  · exact gd_gen (by kernel_rfl) (Want.some_ (g := 22) (v := false) rfl rfl (by kernel_rfl) (by omega) rfl rfl (by kernel_rfl)) rfl (fun D u w v h => h) (fun D u ρ w kn => by
                      have e0 := kn.con 35 110 (c := .pointer (some ⟨nb, no + 3, none⟩)) (by kernel_rfl) (by omega) (by kernel_rfl) rfl
                      have f0 := (cellG (only_trans G.out kn.ext) hnb).trans q3
                      simp [execOp, kn.rho.con, e0, f0, go_sem])
                  · exact gd_gen (by kernel_rfl) (Want.some_ (g := 22) (v := false) rfl rfl (by kernel_rfl) (by omega) rfl rfl (by kernel_rfl)) rfl (fun D u w v h => h) (fun D u ρ w kn => by
                      have e0 := kn.con 29 104 (c := .int .i64 (t2)) (by kernel_rfl) (by omega) (by kernel_rfl) rfl
                      have e1 := kn.con 36 111 (c := .int .i64 (t3)) (by kernel_rfl) (by omega) (by kernel_rfl) rfl
                      simp [execOp, kn.rho.con, e0, e1, go_sem, hb2])
                  · exact gd_gen (by kernel_rfl) (Want.none_ rfl) rfl (fun D u w v h => h) (fun D u ρ w kn => by
                      have e0 := kn.con 22 97 (c := .bool false) (by kernel_rfl) (by omega) (by kernel_rfl) rfl
                      have e1 := kn.con 37 112 (c := .bool false) (by kernel_rfl) (by omega) (by kernel_rfl) rfl
                      simp [execOp, kn.rho.con, e0, e1, go_sem])
                  · exact gd_gen (by kernel_rfl) (Want.none_ rfl) rfl (fun D u w v h => h) (fun D u ρ w kn => by
                      have e0 := kn.con 38 113 (c := .bool false) (by kernel_rfl) (by omega) (by kernel_rfl) rfl
                      simp [execOp, kn.rho.con, e0, go_sem])
                  · exact gd_gen (by kernel_rfl) (Want.some_ (g := 39) (v := false) rfl rfl (by kernel_rfl) (by omega) rfl rfl (by kernel_rfl)) rfl (fun D u w v h => h) (fun D u ρ w kn => by
                      have e0 := kn.own 12 (c := .int .i64 (i)) (by kernel_rfl) ea12
                      simp [execOp, kn.rho.con, e0, go_sem])
                  · exact gd_gen (by kernel_rfl) (Want.some_ (g := 39) (v := false) rfl rfl (by kernel_rfl) (by omega) rfl rfl (by kernel_rfl)) rfl (fun D u w v h => h) (fun D u ρ w kn => by
                      have e0 := kn.con 40 115 (c := .int .i64 (i)) (by kernel_rfl) (by omega) (by kernel_rfl) rfl
                      simp [execOp, kn.rho.con, e0, go_sem, hi1, hi1n])
                  · exact gd_gen (by kernel_rfl) (Want.some_ (g := 39) (v := false) rfl rfl (by kernel_rfl) (by omega) rfl rfl (by kernel_rfl)) rfl (fun D u w v h => h) (fun D u ρ w kn => by
                      have e0 := kn.con 41 116 (c := .bool true) (by kernel_rfl) (by omega) (by kernel_rfl) rfl
                      simp [execOp, kn.rho.con, e0, go_sem])
                  · exact gd_gen (by kernel_rfl) (Want.some_ (g := 42) (v := true) rfl rfl (by kernel_rfl) (by omega) rfl rfl (by kernel_rfl)) rfl (fun D u w v h => h) (fun D u ρ w kn => by
                      have e0 := kn.own 8 (c := .slice (some ⟨rb, ro, none⟩) (rs.length) (cR)) (by kernel_rfl) ea8
                      simp [execOp, kn.rho.con, e0, go_sem])
                  · exact gd_gen (by kernel_rfl) (Want.some_ (g := 42) (v := true) rfl rfl (by kernel_rfl) (by omega) rfl rfl (by kernel_rfl)) rfl (fun D u w v h => h) (fun D u ρ w kn => by
                      have e0 := kn.own 12 (c := .int .i64 (i)) (by kernel_rfl) ea12
                      simp [execOp, kn.rho.con, e0, go_sem])
                  · refine gd_gen (by kernel_rfl) (Want.some_ (g := 42) (v := true) rfl rfl (by kernel_rfl) (by omega) rfl rfl (by kernel_rfl)) rfl (fun D u w v h => h) (fun D u ρ w kn => by
                      have e0 := kn.con 44 119 (c := .int .i64 i) (by kernel_rfl) (by omega) (by kernel_rfl) rfl
                      have := HSUB.out
                      simp [execOp, kn.rho.con, e0, go_sem]
                      rw [this]
                      have hj30 : (j : Int) ≤ 1000 := by omega
                      have hj0 : (0 : Int) ≤ (j : Int) := by omega
                      simp only [IntKind.wrap]
                      first | omega | (simp; omega) | (simp [IntKind.bits, IntKind.signed]; omega))
                  · exact gd_gen (by kernel_rfl) (Want.some_ (g := 42) (v := true) rfl rfl (by kernel_rfl) (by omega) rfl rfl (by kernel_rfl)) rfl (fun D u w v h => h) (fun D u ρ w kn => by
                      have e0 := kn.con 43 118 (c := .slice (some ⟨rb, ro, none⟩) (rs.length) (cR)) (by kernel_rfl) (by omega) (by kernel_rfl) rfl
                      have e1 := kn.con 45 120 (c := .int .i64 (j)) (by kernel_rfl) (by omega) (by kernel_rfl) rfl
                      simp [execOp, kn.rho.con, e0, e1, go_sem, j3])
                  · exact gd_gen (by kernel_rfl) (Want.some_ (g := 42) (v := true) rfl rfl (by kernel_rfl) (by omega) rfl rfl (by kernel_rfl)) rfl (fun D u w v h => h) (fun D u ρ w kn => by
                      have e0 := kn.con 46 121 (c := .pointer (some ⟨rb, ro + j * 3, none⟩)) (by kernel_rfl) (by omega) (by kernel_rfl) rfl
                      simp [execOp, kn.rho.con, e0, go_sem])
                  · exact gd_gen (by kernel_rfl) (Want.some_ (g := 42) (v := true) rfl rfl (by kernel_rfl) (by omega) rfl rfl (by kernel_rfl)) rfl (fun D u w v h => h) (fun D u ρ w kn => by
                      have e0 := kn.con 47 122 (c := .pointer (some ⟨rb, ro + j * 3, none⟩)) (by kernel_rfl) (by omega) (by kernel_rfl) rfl
                      have f0 := (cellG (only_trans G.out kn.ext) hrbw).trans p0
                      simp [execOp, kn.rho.con, e0, f0, go_sem])
                  · exact gd_gen (by kernel_rfl) (Want.some_ (g := 42) (v := true) rfl rfl (by kernel_rfl) (by omega) rfl rfl (by kernel_rfl)) rfl (fun D u w v h => h) (fun D u ρ w kn => by
                      have e0 := kn.own 8 (c := .slice (some ⟨rb, ro, none⟩) (rs.length) (cR)) (by kernel_rfl) ea8
                      simp [execOp, kn.rho.con, e0, go_sem])
                  · exact gd_gen (by kernel_rfl) (Want.some_ (g := 42) (v := true) rfl rfl (by kernel_rfl) (by omega) rfl rfl (by kernel_rfl)) rfl (fun D u w v h => h) (fun D u ρ w kn => by
                      have e0 := kn.own 12 (c := .int .i64 (i)) (by kernel_rfl) ea12
                      simp [execOp, kn.rho.con, e0, go_sem])
                  · exact gd_gen (by kernel_rfl) (Want.some_ (g := 42) (v := true) rfl rfl (by kernel_rfl) (by omega) rfl rfl (by kernel_rfl)) rfl (fun D u w v h => h) (fun D u ρ w kn => by
                      have e0 := kn.con 49 124 (c := .slice (some ⟨rb, ro, none⟩) (rs.length) (cR)) (by kernel_rfl) (by omega) (by kernel_rfl) rfl
                      have e1 := kn.con 50 125 (c := .int .i64 (i)) (by kernel_rfl) (by omega) (by kernel_rfl) rfl
                      simp [execOp, kn.rho.con, e0, e1, go_sem, j2])
                  · exact gd_gen (by kernel_rfl) (Want.some_ (g := 42) (v := true) rfl rfl (by kernel_rfl) (by omega) rfl rfl (by kernel_rfl)) rfl (fun D u w v h => h) (fun D u ρ w kn => by
                      have e0 := kn.con 51 126 (c := .pointer (some ⟨rb, ro + i * 3, none⟩)) (by kernel_rfl) (by omega) (by kernel_rfl) rfl
                      simp [execOp, kn.rho.con, e0, go_sem])
                  · exact gd_gen (by kernel_rfl) (Want.some_ (g := 42) (v := true) rfl rfl (by kernel_rfl) (by omega) rfl rfl (by kernel_rfl)) rfl (fun D u w v h => h) (fun D u ρ w kn => by
                      have e0 := kn.con 52 127 (c := .pointer (some ⟨rb, ro + i * 3, none⟩)) (by kernel_rfl) (by omega) (by kernel_rfl) rfl
                      have f0 := (cellG (only_trans G.out kn.ext) hrbw).trans r0
                      simp [execOp, kn.rho.con, e0, f0, go_sem])
                  · refine gd_call (by kernel_rfl) (Want.some_ (g := 42) (v := true) rfl rfl (by kernel_rfl) (by omega) rfl rfl (by kernel_rfl)) 15 (fun D u ρ w kn hD => ?_)
                    have e0 := kn.con 48 123 (c := .slice pa p.length pc) (by kernel_rfl) (by omega) (by kernel_rfl) rfl
                    have e1 := kn.con 53 128 (c := .slice ka q.length kc) (by kernel_rfl) (by omega) (by kernel_rfl) rfl
                    refine ⟨#[.slice pa p.length pc, .slice ka q.length kc], ?_, (KP.out w (only_trans G.out kn.ext)).mono ?_⟩
                    · simp only [execOp, resolve, Deferred.ofValue, List.map_toArray, List.map_cons, List.map_nil, e0, e1, kn.rho.con, kn.rho.fn]
                      simp [go_sem]
                    · rintro e w' ⟨rfl, rfl⟩
                      exact ⟨_, rfl, (fun c h => by injection h with h; injection h), kn.ext⟩
                  · exact gd_gen (by kernel_rfl) (Want.some_ (g := 42) (v := true) rfl rfl (by kernel_rfl) (by omega) rfl rfl (by kernel_rfl)) rfl (fun D u w v h => h) (fun D u ρ w kn => by
                      have e0 := kn.con 54 129 (c := .int .i64 (-1)) (by kernel_rfl) (by omega) (by kernel_rfl) rfl
                      simp [execOp, kn.rho.con, e0, go_sem])
                  · exact gd_gen (by kernel_rfl) (Want.some_ (g := 39) (v := false) rfl rfl (by kernel_rfl) (by omega) rfl rfl (by kernel_rfl)) rfl (fun D u w v h => h) (fun D u ρ w kn => by
                      have e0 := kn.con 42 117 (c := .bool true) (by kernel_rfl) (by omega) (by kernel_rfl) rfl
                      have e1 := kn.con 55 130 (c := .bool false) (by kernel_rfl) (by omega) (by kernel_rfl) rfl
                      simp [execOp, kn.rho.con, e0, e1, go_sem])
                · intro D u w5 hJ hD
                  obtain ⟨hc, x1⟩ := hJ
                  have e39 : u 39 = .bool false := hc 39 _ rfl (hD 39 (by omega))
                  have e56 : u 56 = .bool false := hc 56 _ rfl (hD 56 (by omega))
                  simp only [List.take_succ_cons, List.take_zero, List.drop_succ_cons, List.drop_zero, putAll]
                  rw [e39, e56]
                  have G5 := Lib.hid (only_trans G.out x1)
                  have r1' := (cellG (only_trans G.out x1) hrbw).trans r1
                  have q0' := (cellG (only_trans G.out x1) hnb).trans q0
                  clear hc x1 e39 e56 hD KP
                  go_wp2_with fail
                  go_roundw
                  case rel => exact ⟨i + 1, by go_num, by rw [HEND.out], by omega, G5.out⟩
                  case measure => simp [intOf]; omega
              · have hi0 : ¬ (0 : Int) < (i : Int) := by omega
                have hi0n : ¬ 0 < i := hip
                refine wp_region_gen 57 (JC (some (.slice (some ⟨rb, ro, none⟩) (rs.length) (cR)) :: some (.int .i64 (i)) :: some (.pointer (some ⟨rb, ro + i * 3, none⟩)) :: some (.pointer (some ⟨rb, ro + i * 3 + 1, none⟩)) :: some (.slice (some ⟨nb, no, none⟩) (4) (nc)) :: some (.int .i64 4) :: some (.bool false) :: some (.bool false) :: some (.int .i64 (cn)) :: some (.bool false) :: some (.bool false) :: some (.bool false) :: some (.slice (some ⟨rb, ro, none⟩) (rs.length) (cR)) :: some (.int .i64 (i)) :: some (.pointer (some ⟨rb, ro + i * 3, none⟩)) :: some (.pointer (some ⟨rb, ro + i * 3 + 1, none⟩)) :: some (.slice (some ⟨nb, no, none⟩) (4) (nc)) :: some (.pointer (some ⟨nb, no + 1, none⟩)) :: some (.int .i64 (t1)) :: some (.int .i64 (cn)) :: some (.bool false) :: some (.bool false) :: some (.bool false) :: some (.slice (some ⟨rb, ro, none⟩) (rs.length) (cR)) :: some (.int .i64 (i)) :: some (.pointer (some ⟨rb, ro + i * 3, none⟩)) :: some (.pointer (some ⟨rb, ro + i * 3 + 1, none⟩)) :: some (.slice (some ⟨nb, no, none⟩) (4) (nc)) :: some (.pointer (some ⟨nb, no + 2, none⟩)) :: some (.int .i64 (t2)) :: some (.slice (some ⟨rb, ro, none⟩) (rs.length) (cR)) :: some (.int .i64 (i)) :: some (.pointer (some ⟨rb, ro + i * 3, none⟩)) :: some (.pointer (some ⟨rb, ro + i * 3 + 1, none⟩)) :: some (.slice (some ⟨nb, no, none⟩) (4) (nc)) :: some (.pointer (some ⟨nb, no + 3, none⟩)) :: some (.int .i64 (t3)) :: some (.bool false) :: some (.bool false) :: some (.bool false) :: some (.int .i64 (i)) :: some (.bool false) :: some (.bool false) :: some (undef) :: some (undef) :: some (undef) :: some (undef) :: some (undef) :: some (undef) :: some (undef) :: some (undef) :: some (undef) :: some (undef) :: some (undef) :: some (undef) :: some (undef) :: some (.bool false) :: []) (fun D u w => wr.grownBy w none)) (by kernel_rfl) (by kernel_rfl) ?_ ?_ ?_
                · intro u
                  exact ⟨(fun j c _ h => by cases h), only_drew (only_refl _ _)⟩
                · intro AA hA
                  have hasz : AA.tmps.size = 145 := by rw [hA]; kernel_rfl
                  have ea8 : AA.eval (.tmp 8) = .slice (some ⟨rb, ro, none⟩) (rs.length) (cR) := by rw [hA]; kernel_rfl
                  have ea12 : AA.eval (.tmp 12) = .int .i64 (i) := by rw [hA]; kernel_rfl
                  have ea13 : AA.eval (.tmp 13) = .int .i64 (cn) := by rw [hA]; kernel_rfl
                  clear hA
                  simp only [List.take_succ_cons, List.take_zero]
                  refine .cons ?_ (.cons ?_ (.cons ?_ (.cons ?_ (.cons ?_ (.cons ?_ (.cons ?_ (.cons ?_ (.cons ?_ (.cons ?_ (.cons ?_ (.cons ?_ (.cons ?_ (.cons ?_ (.cons ?_ (.cons ?_ (.cons ?_ (.cons ?_ (.cons ?_ (.cons ?_ (.cons ?_ (.cons ?_ (.cons ?_ (.cons ?_ (.cons ?_ (.cons ?_ (.cons ?_ (.cons ?_ (.cons ?_ (.cons ?_ (.cons ?_ (.cons ?_ (.cons ?_ (.cons ?_ (.cons ?_ (.cons ?_ (.cons ?_ (.cons ?_ (.cons ?_ (.cons ?_ (.cons ?_ (.cons ?_ (.cons ?_ (.cons ?_ (.cons ?_ (.cons ?_ (.cons ?_ (.cons ?_ (.cons ?_ (.cons ?_ (.cons ?_ (.cons ?_ (.cons ?_ (.cons ?_ (.cons ?_ (.cons ?_ (.cons ?_ (.nil)))))))))))))))))))))))))))))))))))))))))))))))))))))))))
                  · exact gd_gen (by kernel_rfl) (Want.none_ rfl) rfl (fun D u w v h => h) (fun D u ρ w kn => by
                      have e0 := kn.own 8 (c := .slice (some ⟨rb, ro, none⟩) (rs.length) (cR)) (by kernel_rfl) ea8
                      simp [execOp, kn.rho.con, e0, go_sem])
                  · exact gd_gen (by kernel_rfl) (Want.none_ rfl) rfl (fun D u w v h => h) (fun D u ρ w kn => by
                      have e0 := kn.own 12 (c := .int .i64 (i)) (by kernel_rfl) ea12
                      simp [execOp, kn.rho.con, e0, go_sem])
                  · exact gd_gen (by kernel_rfl) (Want.none_ rfl) rfl (fun D u w v h => h) (fun D u ρ w kn => by
                      have e0 := kn.con 0 75 (c := .slice (some ⟨rb, ro, none⟩) (rs.length) (cR)) (by kernel_rfl) (by omega) (by kernel_rfl) rfl
                      have e1 := kn.con 1 76 (c := .int .i64 (i)) (by kernel_rfl) (by omega) (by kernel_rfl) rfl
                      simp [execOp, kn.rho.con, e0, e1, go_sem, j2])
                  · exact gd_gen (by kernel_rfl) (Want.none_ rfl) rfl (fun D u w v h => h) (fun D u ρ w kn => by
                      have e0 := kn.con 2 77 (c := .pointer (some ⟨rb, ro + i * 3, none⟩)) (by kernel_rfl) (by omega) (by kernel_rfl) rfl
                      simp [execOp, kn.rho.con, e0, go_sem])
                  · exact gd_gen (by kernel_rfl) (Want.none_ rfl) rfl (fun D u w v h => h) (fun D u ρ w kn => by
                      have e0 := kn.con 3 78 (c := .pointer (some ⟨rb, ro + i * 3 + 1, none⟩)) (by kernel_rfl) (by omega) (by kernel_rfl) rfl
                      have f0 := (cellG (only_trans G.out kn.ext) hrbw).trans r1
                      simp [execOp, kn.rho.con, e0, f0, go_sem])
                  · refine gd_gen (by kernel_rfl) (Want.none_ rfl) rfl (fun D u w v h => h) (fun D u ρ w kn => by
                      have e0 := kn.con 4 79 (c := .slice (some ⟨nb, no, none⟩) 4 nc) (by kernel_rfl) (by omega) (by kernel_rfl) rfl
                      simp [execOp, resolve, Deferred.ofValue, kn.rho.con, e0, go_sem])
                  · exact gd_gen (by kernel_rfl) (Want.none_ rfl) rfl (fun D u w v h => h) (fun D u ρ w kn => by
                      have e0 := kn.con 5 80 (c := .int .i64 4) (by kernel_rfl) (by omega) (by kernel_rfl) rfl
                      simp [execOp, kn.rho.con, e0, go_sem])
                  · exact gd_gen (by kernel_rfl) (Want.none_ rfl) rfl (fun D u w v h => h) (fun D u ρ w kn => by
                      have e0 := kn.con 6 81 (c := .bool false) (by kernel_rfl) (by omega) (by kernel_rfl) rfl
                      simp [execOp, kn.rho.con, e0, go_sem])
                  · exact gd_gen (by kernel_rfl) (Want.some_ (g := 7) (v := false) rfl rfl (by kernel_rfl) (by omega) rfl rfl (by kernel_rfl)) rfl (fun D u w v h => h) (fun D u ρ w kn => by
                      have e0 := kn.own 13 (c := .int .i64 (cn)) (by kernel_rfl) ea13
                      simp [execOp, kn.rho.con, e0, go_sem])
                  · exact gd_gen (by kernel_rfl) (Want.some_ (g := 7) (v := false) rfl rfl (by kernel_rfl) (by omega) rfl rfl (by kernel_rfl)) rfl (fun D u w v h => h) (fun D u ρ w kn => by
                      have e0 := kn.con 8 83 (c := .int .i64 (cn)) (by kernel_rfl) (by omega) (by kernel_rfl) rfl
                      simp [execOp, kn.rho.con, e0, go_sem, hn0])
                  · exact gd_gen (by kernel_rfl) (Want.none_ rfl) rfl (fun D u w v h => h) (fun D u ρ w kn => by
                      have e0 := kn.con 7 82 (c := .bool false) (by kernel_rfl) (by omega) (by kernel_rfl) rfl
                      have e1 := kn.con 9 84 (c := .bool false) (by kernel_rfl) (by omega) (by kernel_rfl) rfl
                      simp [execOp, kn.rho.con, e0, e1, go_sem])
                  · exact gd_gen (by kernel_rfl) (Want.none_ rfl) rfl (fun D u w v h => h) (fun D u ρ w kn => by
                      have e0 := kn.con 10 85 (c := .bool false) (by kernel_rfl) (by omega) (by kernel_rfl) rfl
                      simp [execOp, kn.rho.con, e0, go_sem])
                  · exact gd_gen (by kernel_rfl) (Want.some_ (g := 11) (v := false) rfl rfl (by kernel_rfl) (by omega) rfl rfl (by kernel_rfl)) rfl (fun D u w v h => h) (fun D u ρ w kn => by
                      have e0 := kn.own 8 (c := .slice (some ⟨rb, ro, none⟩) (rs.length) (cR)) (by kernel_rfl) ea8
                      simp [execOp, kn.rho.con, e0, go_sem])
                  · exact gd_gen (by kernel_rfl) (Want.some_ (g := 11) (v := false) rfl rfl (by kernel_rfl) (by omega) rfl rfl (by kernel_rfl)) rfl (fun D u w v h => h) (fun D u ρ w kn => by
                      have e0 := kn.own 12 (c := .int .i64 (i)) (by kernel_rfl) ea12
                      simp [execOp, kn.rho.con, e0, go_sem])
                  · exact gd_gen (by kernel_rfl) (Want.some_ (g := 11) (v := false) rfl rfl (by kernel_rfl) (by omega) rfl rfl (by kernel_rfl)) rfl (fun D u w v h => h) (fun D u ρ w kn => by
                      have e0 := kn.con 12 87 (c := .slice (some ⟨rb, ro, none⟩) (rs.length) (cR)) (by kernel_rfl) (by omega) (by kernel_rfl) rfl
                      have e1 := kn.con 13 88 (c := .int .i64 (i)) (by kernel_rfl) (by omega) (by kernel_rfl) rfl
                      simp [execOp, kn.rho.con, e0, e1, go_sem, j2])
                  · exact gd_gen (by kernel_rfl) (Want.some_ (g := 11) (v := false) rfl rfl (by kernel_rfl) (by omega) rfl rfl (by kernel_rfl)) rfl (fun D u w v h => h) (fun D u ρ w kn => by
                      have e0 := kn.con 14 89 (c := .pointer (some ⟨rb, ro + i * 3, none⟩)) (by kernel_rfl) (by omega) (by kernel_rfl) rfl
                      simp [execOp, kn.rho.con, e0, go_sem])
                  · exact gd_gen (by kernel_rfl) (Want.some_ (g := 11) (v := false) rfl rfl (by kernel_rfl) (by omega) rfl rfl (by kernel_rfl)) rfl (fun D u w v h => h) (fun D u ρ w kn => by
                      have e0 := kn.con 15 90 (c := .pointer (some ⟨rb, ro + i * 3 + 1, none⟩)) (by kernel_rfl) (by omega) (by kernel_rfl) rfl
                      have f0 := (cellG (only_trans G.out kn.ext) hrbw).trans r1
                      simp [execOp, kn.rho.con, e0, f0, go_sem])
                  · exact gd_gen (by kernel_rfl) (Want.some_ (g := 11) (v := false) rfl rfl (by kernel_rfl) (by omega) rfl rfl (by kernel_rfl)) rfl (fun D u w v h => h) (fun D u ρ w kn => by
                      have e0 := kn.con 16 91 (c := .slice (some ⟨nb, no, none⟩) (4) (nc)) (by kernel_rfl) (by omega) (by kernel_rfl) rfl
                      simp [execOp, kn.rho.con, e0, go_sem])
                  · exact gd_gen (by kernel_rfl) (Want.some_ (g := 11) (v := false) rfl rfl (by kernel_rfl) (by omega) rfl rfl (by kernel_rfl)) rfl (fun D u w v h => h) (fun D u ρ w kn => by
                      have e0 := kn.con 17 92 (c := .pointer (some ⟨nb, no + 1, none⟩)) (by kernel_rfl) (by omega) (by kernel_rfl) rfl
                      have f0 := (cellG (only_trans G.out kn.ext) hnb).trans q1
                      simp [execOp, kn.rho.con, e0, f0, go_sem])
                  · exact gd_gen (by kernel_rfl) (Want.some_ (g := 11) (v := false) rfl rfl (by kernel_rfl) (by omega) rfl rfl (by kernel_rfl)) rfl (fun D u w v h => h) (fun D u ρ w kn => by
                      have e0 := kn.own 13 (c := .int .i64 (cn)) (by kernel_rfl) ea13
                      simp [execOp, kn.rho.con, e0, go_sem])
                  · exact gd_gen (by kernel_rfl) (Want.some_ (g := 11) (v := false) rfl rfl (by kernel_rfl) (by omega) rfl rfl (by kernel_rfl)) rfl (fun D u w v h => h) (fun D u ρ w kn => by
                      have e0 := kn.con 18 93 (c := .int .i64 (t1)) (by kernel_rfl) (by omega) (by kernel_rfl) rfl
                      have e1 := kn.con 19 94 (c := .int .i64 (cn)) (by kernel_rfl) (by omega) (by kernel_rfl) rfl
                      simp [execOp, kn.rho.con, e0, e1, go_sem, hb1])
                  · exact gd_gen (by kernel_rfl) (Want.none_ rfl) rfl (fun D u w v h => h) (fun D u ρ w kn => by
                      have e0 := kn.con 11 86 (c := .bool false) (by kernel_rfl) (by omega) (by kernel_rfl) rfl
                      have e1 := kn.con 20 95 (c := .bool false) (by kernel_rfl) (by omega) (by kernel_rfl) rfl
                      simp [execOp, kn.rho.con, e0, e1, go_sem])
                  · exact gd_gen (by kernel_rfl) (Want.none_ rfl) rfl (fun D u w v h => h) (fun D u ρ w kn => by
                      have e0 := kn.con 21 96 (c := .bool false) (by kernel_rfl) (by omega) (by kernel_rfl) rfl
                      simp [execOp, kn.rho.con, e0, go_sem])
                  · exact gd_gen (by kernel_rfl) (Want.some_ (g := 22) (v := false) rfl rfl (by kernel_rfl) (by omega) rfl rfl (by kernel_rfl)) rfl (fun D u w v h => h) (fun D u ρ w kn => by
                      have e0 := kn.own 8 (c := .slice (some ⟨rb, ro, none⟩) (rs.length) (cR)) (by kernel_rfl) ea8
                      simp [execOp, kn.rho.con, e0, go_sem])
                  · exact gd_gen (by kernel_rfl) (Want.some_ (g := 22) (v := false) rfl rfl (by kernel_rfl) (by omega) rfl rfl (by kernel_rfl)) rfl (fun D u w v h => h) (fun D u ρ w kn => by
                      have e0 := kn.own 12 (c := .int .i64 (i)) (by kernel_rfl) ea12
                      simp [execOp, kn.rho.con, e0, go_sem])
                  · exact gd_gen (by kernel_rfl) (Want.some_ (g := 22) (v := false) rfl rfl (by kernel_rfl) (by omega) rfl rfl (by kernel_rfl)) rfl (fun D u w v h => h) (fun D u ρ w kn => by
                      have e0 := kn.con 23 98 (c := .slice (some ⟨rb, ro, none⟩) (rs.length) (cR)) (by kernel_rfl) (by omega) (by kernel_rfl) rfl
                      have e1 := kn.con 24 99 (c := .int .i64 (i)) (by kernel_rfl) (by omega) (by kernel_rfl) rfl
                      simp [execOp, kn.rho.con, e0, e1, go_sem, j2])
                  · exact gd_gen (by kernel_rfl) (Want.some_ (g := 22) (v := false) rfl rfl (by kernel_rfl) (by omega) rfl rfl (by kernel_rfl)) rfl (fun D u w v h => h) (fun D u ρ w kn => by
                      have e0 := kn.con 25 100 (c := .pointer (some ⟨rb, ro + i * 3, none⟩)) (by kernel_rfl) (by omega) (by kernel_rfl) rfl
                      simp [execOp, kn.rho.con, e0, go_sem])
                  · exact gd_gen (by kernel_rfl) (Want.some_ (g := 22) (v := false) rfl rfl (by kernel_rfl) (by omega) rfl rfl (by kernel_rfl)) rfl (fun D u w v h => h) (fun D u ρ w kn => by
                      have e0 := kn.con 26 101 (c := .pointer (some ⟨rb, ro + i * 3 + 1, none⟩)) (by kernel_rfl) (by omega) (by kernel_rfl) rfl
                      have f0 := (cellG (only_trans G.out kn.ext) hrbw).trans r1
                      simp [execOp, kn.rho.con, e0, f0, go_sem])
                  · exact gd_gen (by kernel_rfl) (Want.some_ (g := 22) (v := false) rfl rfl (by kernel_rfl) (by omega) rfl rfl (by kernel_rfl)) rfl (fun D u w v h => h) (fun D u ρ w kn => by
                      have e0 := kn.con 27 102 (c := .slice (some ⟨nb, no, none⟩) (4) (nc)) (by kernel_rfl) (by omega) (by kernel_rfl) rfl
                      simp [execOp, kn.rho.con, e0, go_sem])
                  · exact gd_gen (by kernel_rfl) (Want.some_ (g := 22) (v := false) rfl rfl (by kernel_rfl) (by omega) rfl rfl (by kernel_rfl)) rfl (fun D u w v h => h) (fun D u ρ w kn => by
                      have e0 := kn.con 28 103 (c := .pointer (some ⟨nb, no + 2, none⟩)) (by kernel_rfl) (by omega) (by kernel_rfl) rfl
                      have f0 := (cellG (only_trans G.out kn.ext) hnb).trans q2
                      simp [execOp, kn.rho.con, e0, f0, go_sem])
                  · exact gd_gen (by kernel_rfl) (Want.some_ (g := 22) (v := false) rfl rfl (by kernel_rfl) (by omega) rfl rfl (by kernel_rfl)) rfl (fun D u w v h => h) (fun D u ρ w kn => by
                      have e0 := kn.own 8 (c := .slice (some ⟨rb, ro, none⟩) (rs.length) (cR)) (by kernel_rfl) ea8
                      simp [execOp, kn.rho.con, e0, go_sem])
                  · exact gd_gen (by kernel_rfl) (Want.some_ (g := 22) (v := false) rfl rfl (by kernel_rfl) (by omega) rfl rfl (by kernel_rfl)) rfl (fun D u w v h => h) (fun D u ρ w kn => by
                      have e0 := kn.own 12 (c := .int .i64 (i)) (by kernel_rfl) ea12
                      simp [execOp, kn.rho.con, e0, go_sem])
                  · exact gd_gen (by kernel_rfl) (Want.some_ (g := 22) (v := false) rfl rfl (by kernel_rfl) (by omega) rfl rfl (by kernel_rfl)) rfl (fun D u w v h => h) (fun D u ρ w kn => by
                      have e0 := kn.con 30 105 (c := .slice (some ⟨rb, ro, none⟩) (rs.length) (cR)) (by kernel_rfl) (by omega) (by kernel_rfl) rfl
                      have e1 := kn.con 31 106 (c := .int .i64 (i)) (by kernel_rfl) (by omega) (by kernel_rfl) rfl
                      simp [execOp, kn.rho.con, e0, e1, go_sem, j2])
                  · exact gd_gen (by kernel_rfl) (Want.some_ (g := 22) (v := false) rfl rfl (by kernel_rfl) (by omega) rfl rfl (by kernel_rfl)) rfl (fun D u w v h => h) (fun D u ρ w kn => by
                      have e0 := kn.con 32 107 (c := .pointer (some ⟨rb, ro + i * 3, none⟩)) (by kernel_rfl) (by omega) (by kernel_rfl) rfl
                      simp [execOp, kn.rho.con, e0, go_sem])
                  · exact gd_gen (by kernel_rfl) (Want.some_ (g := 22) (v := false) rfl rfl (by kernel_rfl) (by omega) rfl rfl (by kernel_rfl)) rfl (fun D u w v h => h) (fun D u ρ w kn => by
                      have e0 := kn.con 33 108 (c := .pointer (some ⟨rb, ro + i * 3 + 1, none⟩)) (by kernel_rfl) (by omega) (by kernel_rfl) rfl
                      have f0 := (cellG (only_trans G.out kn.ext) hrbw).trans r1
                      simp [execOp, kn.rho.con, e0, f0, go_sem])
                  · exact gd_gen (by kernel_rfl) (Want.some_ (g := 22) (v := false) rfl rfl (by kernel_rfl) (by omega) rfl rfl (by kernel_rfl)) rfl (fun D u w v h => h) (fun D u ρ w kn => by
                      have e0 := kn.con 34 109 (c := .slice (some ⟨nb, no, none⟩) (4) (nc)) (by kernel_rfl) (by omega) (by kernel_rfl) rfl
                      simp [execOp, kn.rho.con, e0, go_sem])
                  · exact gd_gen (by kernel_rfl) (Want.some_ (g := 22) (v := false) rfl rfl (by kernel_rfl) (by omega) rfl rfl (by kernel_rfl)) rfl (fun D u w v h => h) (fun D u ρ w kn => by
                      have e0 := kn.con 35 110 (c := .pointer (some ⟨nb, no + 3, none⟩)) (by kernel_rfl) (by omega) (by kernel_rfl) rfl
                      have f0 := (cellG (only_trans G.out kn.ext) hnb).trans q3
                      simp [execOp, kn.rho.con, e0, f0, go_sem])
                  · exact gd_gen (by kernel_rfl) (Want.some_ (g := 22) (v := false) rfl rfl (by kernel_rfl) (by omega) rfl rfl (by kernel_rfl)) rfl (fun D u w v h => h) (fun D u ρ w kn => by
                      have e0 := kn.con 29 104 (c := .int .i64 (t2)) (by kernel_rfl) (by omega) (by kernel_rfl) rfl
                      have e1 := kn.con 36 111 (c := .int .i64 (t3)) (by kernel_rfl) (by omega) (by kernel_rfl) rfl
                      simp [execOp, kn.rho.con, e0, e1, go_sem, hb2])
                  · exact gd_gen (by kernel_rfl) (Want.none_ rfl) rfl (fun D u w v h => h) (fun D u ρ w kn => by
                      have e0 := kn.con 22 97 (c := .bool false) (by kernel_rfl) (by omega) (by kernel_rfl) rfl
                      have e1 := kn.con 37 112 (c := .bool false) (by kernel_rfl) (by omega) (by kernel_rfl) rfl
                      simp [execOp, kn.rho.con, e0, e1, go_sem])
                  · exact gd_gen (by kernel_rfl) (Want.none_ rfl) rfl (fun D u w v h => h) (fun D u ρ w kn => by
                      have e0 := kn.con 38 113 (c := .bool false) (by kernel_rfl) (by omega) (by kernel_rfl) rfl
                      simp [execOp, kn.rho.con, e0, go_sem])
                  · exact gd_gen (by kernel_rfl) (Want.some_ (g := 39) (v := false) rfl rfl (by kernel_rfl) (by omega) rfl rfl (by kernel_rfl)) rfl (fun D u w v h => h) (fun D u ρ w kn => by
                      have e0 := kn.own 12 (c := .int .i64 (i)) (by kernel_rfl) ea12
                      simp [execOp, kn.rho.con, e0, go_sem])
                  · exact gd_gen (by kernel_rfl) (Want.some_ (g := 39) (v := false) rfl rfl (by kernel_rfl) (by omega) rfl rfl (by kernel_rfl)) rfl (fun D u w v h => h) (fun D u ρ w kn => by
                      have e0 := kn.con 40 115 (c := .int .i64 (i)) (by kernel_rfl) (by omega) (by kernel_rfl) rfl
                      simp [execOp, kn.rho.con, e0, go_sem, hi0, hi0n])
                  · exact gd_gen (by kernel_rfl) (Want.some_ (g := 39) (v := false) rfl rfl (by kernel_rfl) (by omega) rfl rfl (by kernel_rfl)) rfl (fun D u w v h => h) (fun D u ρ w kn => by
                      have e0 := kn.con 41 116 (c := .bool false) (by kernel_rfl) (by omega) (by kernel_rfl) rfl
                      simp [execOp, kn.rho.con, e0, go_sem])
                  · exact gd_off (by kernel_rfl) (Want.some_ (g := 42) (v := false) rfl rfl (by kernel_rfl) (by omega) rfl rfl (by kernel_rfl)) (.inr rfl) (fun D u w v h => h)
                  · exact gd_off (by kernel_rfl) (Want.some_ (g := 42) (v := false) rfl rfl (by kernel_rfl) (by omega) rfl rfl (by kernel_rfl)) (.inr rfl) (fun D u w v h => h)
                  · exact gd_off (by kernel_rfl) (Want.some_ (g := 42) (v := false) rfl rfl (by kernel_rfl) (by omega) rfl rfl (by kernel_rfl)) (.inr rfl) (fun D u w v h => h)
                  · exact gd_off (by kernel_rfl) (Want.some_ (g := 42) (v := false) rfl rfl (by kernel_rfl) (by omega) rfl rfl (by kernel_rfl)) (.inr rfl) (fun D u w v h => h)
                  · exact gd_off (by kernel_rfl) (Want.some_ (g := 42) (v := false) rfl rfl (by kernel_rfl) (by omega) rfl rfl (by kernel_rfl)) (.inr rfl) (fun D u w v h => h)
                  · exact gd_off (by kernel_rfl) (Want.some_ (g := 42) (v := false) rfl rfl (by kernel_rfl) (by omega) rfl rfl (by kernel_rfl)) (.inr rfl) (fun D u w v h => h)
                  · exact gd_off (by kernel_rfl) (Want.some_ (g := 42) (v := false) rfl rfl (by kernel_rfl) (by omega) rfl rfl (by kernel_rfl)) (.inr rfl) (fun D u w v h => h)
                  · exact gd_off (by kernel_rfl) (Want.some_ (g := 42) (v := false) rfl rfl (by kernel_rfl) (by omega) rfl rfl (by kernel_rfl)) (.inr rfl) (fun D u w v h => h)
                  · exact gd_off (by kernel_rfl) (Want.some_ (g := 42) (v := false) rfl rfl (by kernel_rfl) (by omega) rfl rfl (by kernel_rfl)) (.inr rfl) (fun D u w v h => h)
                  · exact gd_off (by kernel_rfl) (Want.some_ (g := 42) (v := false) rfl rfl (by kernel_rfl) (by omega) rfl rfl (by kernel_rfl)) (.inr rfl) (fun D u w v h => h)
                  · exact gd_off (by kernel_rfl) (Want.some_ (g := 42) (v := false) rfl rfl (by kernel_rfl) (by omega) rfl rfl (by kernel_rfl)) (.inr rfl) (fun D u w v h => h)
                  · exact gd_off (by kernel_rfl) (Want.some_ (g := 42) (v := false) rfl rfl (by kernel_rfl) (by omega) rfl rfl (by kernel_rfl)) (.inr rfl) (fun D u w v h => h)
                  · exact gd_off (by kernel_rfl) (Want.some_ (g := 42) (v := false) rfl rfl (by kernel_rfl) (by omega) rfl rfl (by kernel_rfl)) (.inr rfl) (fun D u w v h => h)
                  · exact gd_gen (by kernel_rfl) (Want.some_ (g := 39) (v := false) rfl rfl (by kernel_rfl) (by omega) rfl rfl (by kernel_rfl)) rfl (fun D u w v h => h) (fun D u ρ w kn => by
                      have e0 := kn.con 42 117 (c := .bool false) (by kernel_rfl) (by omega) (by kernel_rfl) rfl
                      have e1 := kn.con 55 130 (c := undef) (by kernel_rfl) (by omega) (by kernel_rfl) rfl
                      simp [execOp, kn.rho.con, e0, e1, go_sem])
                · intro D u w5 hJ hD
                  obtain ⟨hc, x1⟩ := hJ
                  have e39 : u 39 = .bool false := hc 39 _ rfl (hD 39 (by omega))
                  have e56 : u 56 = .bool false := hc 56 _ rfl (hD 56 (by omega))
                  simp only [List.take_succ_cons, List.take_zero, List.drop_succ_cons, List.drop_zero, putAll]
                  rw [e39, e56]
                  have G5 := Lib.hid (only_trans G.out x1)
                  have r1' := (cellG (only_trans G.out x1) hrbw).trans r1
                  have q0' := (cellG (only_trans G.out x1) hnb).trans q0
                  clear hc x1 e39 e56 hD
                  go_wp2_with fail
                  go_roundw
                  case rel => exact ⟨i + 1, by go_num, by rw [HEND.out], by omega, G5.out⟩
                  case measure => simp [intOf]; omega
        · have j2 : ¬ (i : Int) < (rs.length : Int) := by omega
          have hie : i = rs.length := by omega
          subst hie
          rw [HUE2.out]
          go_wp2_with fail
          go_ret
          exact ⟨rfl, only_trans GW4.out GI.out⟩
end Go.Proofs.YtfkgcighooijhaaGreatDoor
