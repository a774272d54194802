/- parts of the statements of chapter 31 (printed by mkparts.py). No condition. -/
import Derived.Test.YtphglalphejppaaPRow
import Derived.Test.YtphglalphejppaaSameEv
namespace Go.Proofs.Ytphglalphejppaa
open Go.RowKit
set_option linter.unusedVariables false
set_option linter.unusedSimpArgs false

theorem cell_of_g {w w' : World} {r : Option Nat} (h : w.grownBy w' r) {b o : Nat} (hb : b < w.heap.size) (hne : some b ≠ r) : w'.cell? ⟨b, o, none⟩ = w.cell? ⟨b, o, none⟩ := World.cell?_of_block (a := ⟨b, o, none⟩) (h.block b hb hne)
/-- what an append has made -/
def AppE (base : Nat) (w : World) (v : Value) (l : List Ev) (e : Ev) (v' : Value) (wx : World) : Prop :=
  wx.ownsRow base 34 10 v' (l.length + 1) (l.flatMap Ev.cells ++ e.cells) ∧ w.grownBy wx v.ownBlock ∧ (v'.ownBlock = v.ownBlock ∨ v'.ownBlock = some (w.heap.size + 1))
theorem evsInfo : (Try.prog.info? 26).map (fun i => (i.zero, i.size, i.bytes)) = some (some (.slice none 0 0), 1, 24) := by kernel_rfl
theorem lit_ev (ρ : Operand → Value) (w : World) {o : Oper} {x : Nat} {e : Ev} (ho : o.op = .buildSlice 26 1 #[(0, .tmp x)]) (hx : ρ (.tmp x) = .agg e.cells.toArray) : (execOp ρ o).run Try.prog w = .ok (.value (.slice (some ⟨w.heap.size, 0, none⟩) 1 1)) (w.alloc (.cells e.cells.toArray 34)) := by
  simp [execOp, ho, hx, go_sem, Ev.cells]
theorem PR.start {base go m : Nat} {w : World} (hb : base ≤ go) (hB : Blk w go 26 (Array.replicate m (.slice none 0 0))) (hm : m ≤ 10) : PR base w (.slice (some ⟨go, 0, none⟩) m m) (List.replicate m ⟨[], none, 0⟩) := by
  have hcell : (List.replicate m (⟨[], none, 0⟩ : Pl)).map Pl.cell = List.replicate m (.slice none 0 0) := by rw [List.map_replicate]; rfl
  refine ⟨⟨by simp, .inr ⟨go, m, _, by simp, hb, hB, by simp, by unfold maxLen; omega, by simp, ?_⟩⟩, fun p hp => ?_, fun i j p q g _ hp _ hg => ?_⟩
  · rw [hcell]; simp
  · rw [List.eq_of_mem_replicate hp]; exact World.ownsRow_nil _ _ _ _
  · rw [List.eq_of_mem_replicate (List.mem_of_getElem? hp)] at hg
    simp [Pl.cell, Value.ownBlock] at hg
theorem PP.start (es : List Ev) (m : Nat) : PP es 0 0 (List.replicate m ⟨[], none, 0⟩) 0 := by
  refine ⟨fun p hp => ?_, by simp, ?_⟩
  · rw [List.eq_of_mem_replicate hp]; exact ⟨List.Pairwise.nil, by simp⟩
  · rw [List.map_replicate]; simp
theorem PR.at_ {base go m k : Nat} {w : World} {ps : List Pl} (h : PR base w (.slice (some ⟨go, 0, none⟩) m m) ps) (hm : ps.length = m) (hk : k < m) :
    ∃ p, ps[k]? = some p ∧ p ∈ ps ∧ w.cell? ⟨go, k, none⟩ = some p.cell ∧ w.ownsRow base 34 10 p.cell p.evs.length (p.evs.flatMap Ev.cells) ∧ p.cell.ownBlock ≠ some go ∧ go < w.heap.size := by
  have hkl : k < ps.length := by omega
  obtain ⟨p, hp⟩ : ∃ p, ps[k]? = some p := ⟨_, List.getElem?_eq_getElem hkl⟩
  have hpm := List.mem_of_getElem? hp
  have h1 := h.1
  rw [hm] at h1
  refine ⟨p, hp, hpm, ?_, h.2.1 p hpm, own_types h.1 (h.2.1 p hpm) (by decide) rfl, (h.1.lt go rfl).2⟩
  rw [(own_cellk h1 (k := k) (by omega)).1]; simp [hp]
/-- the head of a round -/
def PS (w : World) (g : Nat) (l : List Int) (es : List Ev) (go m a N : Nat) (wr : World) (ps : List Pl) : Prop :=
  ps.length = m ∧ PR w.heap.size wr (.slice (some ⟨go, 0, none⟩) m m) ps ∧ PP es a a ps N ∧ (∃ k, CodesAt wr g l k) ∧ w.grownBy wr (some g)
def PartsPost (w : World) (g : Nat) (l : List Int) (es : List Ev) (e : Ending) (w' : World) : Prop :=
  ∃ (go m : Nat) (ps : List Pl), e = .returned (.slice (some ⟨go, 0, none⟩) m m) ∧ 1 ≤ m ∧ m ≤ 4 ∧ PS w g l es go m es.length (2 * es.length) w' ps
theorem PS.le {w : World} {g : Nat} {l : List Int} {es : List Ev} {go m a N N' : Nat} {wr : World} {ps : List Pl} (h : PS w g l es go m a N wr ps) (hN : N ≤ N') : PS w g l es go m a N' wr ps := ⟨h.1, h.2.1, ⟨h.2.2.1.1, h.2.2.1.2.1, Nat.le_trans h.2.2.1.2.2 hN⟩, h.2.2.2⟩
theorem PS.row {w : World} {g : Nat} {l : List Int} {es : List Ev} {go m a N : Nat} {wr : World} {ps : List Pl} (h : PS w g l es go m a N wr ps) {p : Pl} (hp : p ∈ ps) : p.evs.length ≤ N := by
  have h1 := h.2.2.1.2.2
  obtain ⟨i, hi⟩ := List.getElem?_of_mem hp
  have h2 := flat_mono (ps := ps) (i := i + 1)
  rw [take_succ_map hi, List.flatten_append, List.length_append] at h2
  simp only [List.flatten_cons, List.flatten_nil, List.append_nil] at h2
  omega
theorem PS.next {w : World} {g : Nat} {l : List Int} {es : List Ev} {go m a N : Nat} {wr w2 : World} {ps : List Pl} {k2 : Nat} (h : PS w g l es go m a N wr ps) (hc : CodesAt w2 g l k2) (hg : wr.grownBy w2 (some g)) (hlt : g < w.heap.size) : PS w g l es go m a N w2 ps :=
  ⟨h.1, h.2.1.grown hg hlt, h.2.2.1, ⟨_, hc⟩, only_trans h.2.2.2.2 hg⟩
theorem PS.put {w : World} {g : Nat} {l : List Int} {es : List Ev} {go m a i N k : Nat} {wr w3 : World} {ps : List Pl} {p : Pl} {e : Ev} {A' : Option Addr} {c' : Nat} (h : PS w g l es go m a N wr ps) (hs : Srt es) (ha : a ≤ i + 1) (hb : i ≤ a) (he : es[i]? = some e) (hk : ps[k]? = some p) (hlt : g < w.heap.size)
    (ho : w3.ownsRow w.heap.size 34 10 (.slice A' (p.evs.length + 1) c') (p.evs.length + 1) (p.evs.flatMap Ev.cells ++ e.cells)) (hg : wr.grownBy w3 p.cell.ownBlock) (hbl : (Value.slice A' (p.evs.length + 1) c').ownBlock = p.cell.ownBlock ∨ ∃ b, (Value.slice A' (p.evs.length + 1) c').ownBlock = some b ∧ wr.heap.size ≤ b) :
    PS w g l es go m (i + 1) (N + 1) (w3.setCell ⟨go, k, none⟩ (.slice A' (p.evs.length + 1) c')) (ps.set k ⟨p.evs ++ [e], A', c'⟩) := by
  obtain ⟨h1, h2, h3, ⟨k4, h4⟩, h5⟩ := h
  have hgo : w.heap.size ≤ go := (h2.1.lt go rfl).1
  have hgs : w3.grownBy (w3.setCell ⟨go, k, none⟩ (.slice A' (p.evs.length + 1) c')) (some go) := only_setCell (only_refl _ _) (p := ⟨go, k, none⟩) (.inl rfl) _
  refine ⟨by rw [List.length_set]; exact h1, h2.put h1 hk ho hg hbl, h3.put hs ha hb he hk, ⟨k4, ?_⟩, ?_⟩
  · have h6 := h4.grown hg (fun b hb e1 => by have := (h2.2.1 p (List.mem_of_getElem? hk)).lt b e1.symm; omega)
    exact h6.grown hgs (fun b hb e1 => by injection e1; omega)
  · exact only_fresh (only_own h5 hg (h2.2.1 p (List.mem_of_getElem? hk)) (Nat.le_refl _)) hgs hgo
set_option maxHeartbeats 4000000 in
set_option maxRecDepth 100000 in
theorem parts_any (g : Nat) (l : List Int) (k : Nat) (A : Option Addr) (es : List Ev) (cE : Nat) (w : World) (h : CodesAt w g l k) (hE : Rd (· ≠ g) w A (es.flatMap Ev.cells)) (hs : Srt es) (hl : es.length ≤ 1000) :
    Calls Try.prog 14 #[.slice A es.length cE, .pointer (some ⟨g, 0, none⟩)] w (PartsPost w g l es) := by
  have hlt0 := h.lt
  have HC := Lib.hid h
  have H := Lib.hid hE
  have SRT := Lib.hid hs
  clear h hE hs
  go_enter Try.func14, Try.ntmps14
  go_wp2_with fail
  refine (next_some g l k 4 _ HC.out (by omega) (by omega)).mono ?_
  rintro e w2 ⟨v2, k2, rfl, hv2, h2, hg2⟩
  obtain ⟨m, hm⟩ : ∃ m : Nat, (1 + v2 : Int) = m := ⟨(1 + v2).toNat, by omega⟩
  have hmk := make_row (P := Try.prog) Try.underlying36 evsInfo rfl (by decide) m (by omega) w2
  have hm1 : 1 ≤ m := by omega
  have hm4 : m ≤ 4 := by omega
  have hsz2 := hg2.size
  have HG2 := Lib.hid hg2
  have H2 := Lib.hid h2
  clear hg2 h2 HC
  obtain ⟨W2, hW2⟩ : ∃ W2, W2 = w2.alloc (.cells (Array.replicate m (.slice none 0 0)) 26) := ⟨_, rfl⟩
  obtain ⟨go, hgo⟩ : ∃ go, go = w2.heap.size := ⟨_, rfl⟩
  have PS0 : Hid (PS w g l es go m 0 (2 * 0) W2 (List.replicate m ⟨[], none, 0⟩)) := Lib.hid (by
    have hg3 : w2.grownBy W2 (some g) := by rw [hW2]; exact only_alloc (only_refl _ _) _
    exact ⟨by simp, PR.start (by omega) (by rw [hW2, hgo]; exact Blk.new _ _ _) (by omega), PP.start es m, ⟨k2, by rw [hW2]; exact H2.out.alloc _⟩, only_trans HG2.out hg3⟩)
  rw [← hW2, ← hgo] at hmk
  clear hW2
  have HGO := Lib.hid hgo
  clear hgo HG2 H2
  go_wp2_with fail
  clear hmk hm hv2
  go_loopw [6] (fun vi wr => ∃ (i : Nat) (ps : List Pl), vi = .int .i64 i ∧ i ≤ es.length ∧ PS w g l es go m i (2 * i) wr ps) (fun vi _ => es.length - (intOf vi).toNat)
  case atStart => exact ⟨0, _, rfl, Nat.zero_le _, PS0.out⟩
  case round =>
    obtain ⟨i, ps, rfl, hi, hP⟩ := hrel
    have P := Lib.hid hP
    clear hP PS0
    by_cases hil : i < es.length
    · have hil1 : (i : Int) < (es.length : Int) := by omega
      obtain ⟨bE, oE, rfl, hbg, hbw, -⟩ := H.out (by rw [flat_len _ 10 Ev.cells_len]; omega)
      obtain ⟨e, he⟩ : ∃ e, es[i] = e := ⟨_, rfl⟩
      have HE0 : Hid (es[i]? = some e) := Lib.hid (by rw [← he]; exact List.getElem?_eq_getElem _)
      have HEW : Hid (∀ W, w.grownBy W (some g) → ∀ m, m < 10 → W.cell? ⟨bE, oE + i * 10 + m, none⟩ = e.cells[m]?) := Lib.hid (fun W hW m hm => by rw [← he]; exact Evs.cells_at (H.out.grown hW (fun b hb e => hb (by injection e))) hil m hm)
      clear he
      go_upto_region 5 with fail
      obtain ⟨k5, h5⟩ := P.out.2.2.2.1
      go_wp2_with fail
      refine (next_some g l k5 m _ h5 (by omega) (by omega)).mono ?_
      rintro e5 w5 ⟨v5, k6, rfl, hv5, h6, hg5⟩
      obtain ⟨kk, rfl⟩ := Int.eq_ofNat_of_zero_le hv5.1
      have P5 := Lib.hid (P.out.next h6 hg5 hlt0)
      clear h6 hg5 h5 P
      have hkm : kk < m := by omega
      obtain ⟨W0, rfl⟩ : ∃ W0 : World, W0 = w5 := ⟨_, rfl⟩
      have PQ := P5
      obtain ⟨p, hp, hpm, c0, hpo, hgne, hgo⟩ := PQ.out.2.1.at_ PQ.out.1 hkm
      have hpl := PQ.out.row hpm
      obtain ⟨pk, ak, ck⟩ := p
      simp only [Pl.cell] at c0 hpo hgne hpl
      have hbE : bE < W0.heap.size := Nat.lt_of_lt_of_le hbw PQ.out.2.2.2.2.size
      have hbne : (Value.slice ak pk.length ck).ownBlock ≠ some bE := fun e => by have := (hpo.lt bE e).1; omega
      have HE := Lib.hid (HEW.out W0 PQ.out.2.2.2.2)
      have HO := Lib.hid hpo
      have hbase : w.heap.size ≤ W0.heap.size := PQ.out.2.2.2.2.size
      have HPK := Lib.hid hp
      have HPM := Lib.hid hpm
      clear hp hpm hpo P5
      go_wp2_with fail
      refine wp_region_gen 13 (JC [some (.slice (some ⟨go, 0, none⟩) m m), some (.int .i64 ((kk : Int))), some (.slice (some ⟨go, 0, none⟩) m m), some (.int .i64 ((kk : Int))), some (.pointer (some ⟨go, kk, none⟩)), some (.slice ak pk.length ck), some (.slice (some ⟨bE, oE, none⟩) (es.length) (cE)), some (.int .i64 ((i : Int))), some (.pointer (some ⟨bE, oE + i * 10, none⟩)), some (.agg e.cells.toArray), none, none, some (.pointer (some ⟨go, kk, none⟩))] (fun D u wx => W0.grownBy wx (Value.slice ak pk.length ck).ownBlock ∧ (D 11 = true → D 10 = true) ∧ (D 10 = false → wx = W0.drew) ∧ (D 10 = true → D 11 = false → wx = W0.drew.alloc (.cells e.cells.toArray 34) ∧ u 10 = .slice (some ⟨W0.heap.size, 0, none⟩) 1 1) ∧ (D 11 = true → AppE w.heap.size W0 (.slice ak pk.length ck) pk e (u 11) wx))) (by kernel_rfl) (by kernel_rfl) ?_ ?_ ?_
      · intro u
        exact ⟨(fun j c _ h => by cases h), ⟨only_drew (only_refl _ _), (fun h => by cases h), (fun _ => rfl), (fun h => by cases h), fun h => by cases h⟩⟩
      · intro AA hA
        have hasz : AA.tmps.size = 56 := by rw [hA]; kernel_rfl
        have ea0 : AA.eval (.tmp 0) = .slice (some ⟨bE, oE, none⟩) (es.length) (cE) := by rw [hA]; kernel_rfl
        have ea5 : AA.eval (.tmp 5) = .slice (some ⟨go, 0, none⟩) m m := by rw [hA]; kernel_rfl
        have ea6 : AA.eval (.tmp 6) = .int .i64 ((i : Int)) := by rw [hA]; kernel_rfl
        have ea7 : AA.eval (.tmp 7) = .int .i64 ((kk : Int)) := by rw [hA]; kernel_rfl
        clear hA
        simp only [List.take_succ_cons, List.take_zero]
        refine .cons ?_ (.cons ?_ (.cons ?_ (.cons ?_ (.cons ?_ (.cons ?_ (.cons ?_ (.cons ?_ (.cons ?_ (.cons ?_ (.cons ?_ (.cons ?_ (.cons ?_ (.nil)))))))))))))
        · exact gd_gen (by kernel_rfl) (Want.none_ rfl) rfl (fun D u w v h => by simpa [updB, upd] using h) (fun D u ρ w kn => by
            have e0 := kn.own 5 (c := .slice (some ⟨go, 0, none⟩) m m) (by kernel_rfl) ea5
            simp [execOp, kn.rho.con, e0, go_sem])
        · exact gd_gen (by kernel_rfl) (Want.none_ rfl) rfl (fun D u w v h => by simpa [updB, upd] using h) (fun D u ρ w kn => by
            have e0 := kn.own 7 (c := .int .i64 ((kk : Int))) (by kernel_rfl) ea7
            simp [execOp, kn.rho.con, e0, go_sem])
        · exact gd_gen (by kernel_rfl) (Want.none_ rfl) rfl (fun D u w v h => by simpa [updB, upd] using h) (fun D u ρ w kn => by
            have e0 := kn.own 5 (c := .slice (some ⟨go, 0, none⟩) m m) (by kernel_rfl) ea5
            simp [execOp, kn.rho.con, e0, go_sem])
        · exact gd_gen (by kernel_rfl) (Want.none_ rfl) rfl (fun D u w v h => by simpa [updB, upd] using h) (fun D u ρ w kn => by
            have e0 := kn.own 7 (c := .int .i64 ((kk : Int))) (by kernel_rfl) ea7
            simp [execOp, kn.rho.con, e0, go_sem])
        · exact gd_gen (by kernel_rfl) (Want.none_ rfl) rfl (fun D u w v h => by simpa [updB, upd] using h) (fun D u ρ w kn => by
            have e0 := kn.con 2 24 (c := .slice (some ⟨go, 0, none⟩) m m) (by kernel_rfl) (by omega) (by kernel_rfl) rfl
            have e1 := kn.con 3 25 (c := .int .i64 ((kk : Int))) (by kernel_rfl) (by omega) (by kernel_rfl) rfl
            simp [execOp, kn.rho.con, e0, e1, go_sem, hkm])
        · exact gd_gen (by kernel_rfl) (Want.none_ rfl) rfl (fun D u w v h => by simpa [updB, upd] using h) (fun D u ρ w kn => by
            have e0 := kn.con 4 26 (c := .pointer (some ⟨go, kk, none⟩)) (by kernel_rfl) (by omega) (by kernel_rfl) rfl
            have f0 := (cell_of_g kn.ext.1 hgo (fun e => hgne e.symm)).trans c0
            simp [execOp, kn.rho.con, e0, f0, go_sem])
        · exact gd_gen (by kernel_rfl) (Want.none_ rfl) rfl (fun D u w v h => by simpa [updB, upd] using h) (fun D u ρ w kn => by
            have e0 := kn.own 0 (c := .slice (some ⟨bE, oE, none⟩) (es.length) (cE)) (by kernel_rfl) ea0
            simp [execOp, kn.rho.con, e0, go_sem])
        · exact gd_gen (by kernel_rfl) (Want.none_ rfl) rfl (fun D u w v h => by simpa [updB, upd] using h) (fun D u ρ w kn => by
            have e0 := kn.own 6 (c := .int .i64 ((i : Int))) (by kernel_rfl) ea6
            simp [execOp, kn.rho.con, e0, go_sem])
        · exact gd_gen (by kernel_rfl) (Want.none_ rfl) rfl (fun D u w v h => by simpa [updB, upd] using h) (fun D u ρ w kn => by
            have e0 := kn.con 6 28 (c := .slice (some ⟨bE, oE, none⟩) (es.length) (cE)) (by kernel_rfl) (by omega) (by kernel_rfl) rfl
            have e1 := kn.con 7 29 (c := .int .i64 ((i : Int))) (by kernel_rfl) (by omega) (by kernel_rfl) rfl
            simp [execOp, kn.rho.con, e0, e1, go_sem, hil])
        · exact gd_gen (by kernel_rfl) (Want.none_ rfl) rfl (fun D u w v h => by simpa [updB, upd] using h) (fun D u ρ w kn => by
            have e0 := kn.con 8 30 (c := .pointer (some ⟨bE, oE + i * 10, none⟩)) (by kernel_rfl) (by omega) (by kernel_rfl) rfl
            exact run_load ρ w rfl e0 (load_evAt w bE (oE + i * 10) e (fun m hm => (cell_of_g kn.ext.1 hbE (fun e => hbne e.symm)).trans (HE.out m hm))))
        · refine gd_eff (by kernel_rfl) (Want.none_ rfl) (fun D u ρ wx kn hD => ?_)
          have e0 := kn.con 9 31 (c := .agg e.cells.toArray) (by kernel_rfl) (by omega) (by kernel_rfl) rfl
          obtain ⟨x0, x1, x2, x3, x4⟩ := kn.ext
          have h11 : D 11 = false := by cases h : D 11 with | false => rfl | true => have := x1 h; rw [hD] at this; cases this
          have hw := x2 hD
          subst hw
          refine ⟨.slice (some ⟨W0.heap.size, 0, none⟩) 1 1, W0.drew.alloc (.cells e.cells.toArray 34), lit_ev ρ _ rfl e0, (fun c h => by cases h), only_alloc x0 _, ?_, ?_, ?_, ?_⟩
          · intro h; rw [updB_ne D (show (11 : Nat) ≠ 10 by omega), h11] at h; cases h
          · intro h; rw [updB_at] at h; cases h
          · exact fun _ _ => ⟨rfl, upd_at _ _ _⟩
          · intro h; rw [updB_ne D (show (11 : Nat) ≠ 10 by omega), h11] at h; cases h
        · refine gd_eff (by kernel_rfl) (Want.none_ rfl) (fun D u ρ wx kn hD => ?_)
          have e0 := kn.con 5 27 (c := .slice ak pk.length ck) (by kernel_rfl) (by omega) (by kernel_rfl) rfl
          have e1 := kn.slot 10 32 (by kernel_rfl) (by omega)
          have d10 := kn.dep 10 (by kernel_rfl)
          have d5 := kn.dep 5 (by kernel_rfl)
          obtain ⟨x0, x1, x2, x3, x4⟩ := kn.ext
          obtain ⟨hw, hu⟩ := x3 d10 hD
          subst hw
          rw [hu] at e1
          obtain ⟨v', w', hr, h1, h2, h3⟩ := run_append1 (P := Try.prog) w.heap.size 26 26 Try.underlying26 eventInfo rfl (by decide) (v := .slice ak pk.length ck) (n := pk.length) (xs := pk.flatMap Ev.cells) (w0 := W0.drew) (w := W0.drew.alloc (.cells e.cells.toArray 34)) (cs := e.cells.toArray) rfl rfl rfl rfl HO.out rfl (by simpa using Ev.one e) (by decide) (by omega) hbase
          have h2' : W0.grownBy w' (Value.slice ak pk.length ck).ownBlock := only_trans (only_drew (only_refl W0 _)) h2
          refine ⟨v', w', ?_, (fun c h => by cases h), h2', ?_, ?_, ?_, ?_⟩
          rotate_left
          · intro _; rw [updB_ne D (show (10 : Nat) ≠ 11 by omega)]; exact d10
          · intro h; rw [updB_ne D (show (10 : Nat) ≠ 11 by omega), d10] at h; cases h
          · intro _ h; rw [updB_at] at h; cases h
          · intro _; rw [upd_at]; exact ⟨(by simpa using h1), h2', h3⟩
          · simp only [execOp, resolve, invoke, builtin, Sem.run_bind, Sem.run_pure, Result.andThen_ok, List.map_toArray, List.map_cons, List.map_nil, e0, e1]
            rw [show (W0.drew).heap.size = W0.heap.size from rfl] at hr
            simp [hr]
        · exact gd_gen (by kernel_rfl) (Want.none_ rfl) rfl (fun D u w v h => by simpa [updB, upd] using h) (fun D u ρ w kn => by
            have e0 := kn.con 0 22 (c := .slice (some ⟨go, 0, none⟩) m m) (by kernel_rfl) (by omega) (by kernel_rfl) rfl
            have e1 := kn.con 1 23 (c := .int .i64 ((kk : Int))) (by kernel_rfl) (by omega) (by kernel_rfl) rfl
            simp [execOp, kn.rho.con, e0, e1, go_sem, hkm])
      · intro D u w3 hJ hD
        obtain ⟨hc, x0, -, -, -, x4⟩ := hJ
        obtain ⟨h1, h2, h3⟩ := x4 (hD 11 (by omega))
        have e12 : u 12 = .pointer (some ⟨go, kk, none⟩) := hc 12 _ rfl (hD 12 (by omega))
        obtain ⟨A7, c7, e7, -, -, -, -⟩ := Rd.of_own h1 (by decide)
        rw [e7] at h1 h3
        simp only [List.take_succ_cons, List.take_zero, List.drop_succ_cons, List.drop_zero, putAll]
        rw [e7, e12]
        have hrow := own_block_eq (w' := w3) PQ.out.2.1.1 fun g hg' => h2.block g (PQ.out.2.1.1.lt g hg').2 (fun e => own_types PQ.out.2.1.1 (PQ.out.2.1.2.1 _ HPM.out) (by decide) hg' e.symm)
        rw [PQ.out.1] at hrow
        obtain ⟨c9, f9⟩ := own_cellk (k := kk) hrow (by omega)
        have c9' : w3.cell? ⟨go, kk, none⟩ = some (.slice ak pk.length ck) := by rw [c9]; simp [HPK.out, Pl.cell]
        have P7 := Lib.hid (PQ.out.put (i := i) (e := e) SRT.out (by omega) (by omega) HE0.out HPK.out hlt0 h1 h2 (h3.imp id fun h => ⟨_, h, by simp⟩))
        clear hc x0 x4 h1 h2 h3 e7 e12 hD hrow c9 c0
        go_upto_region 7 with fail
        obtain ⟨W7, hW7⟩ : ∃ W7, W7 = w3.setCell ⟨go, kk, none⟩ (.slice A7 (pk.length + 1) c7) := ⟨_, rfl⟩
        rw [← hW7]
        rw [← hW7] at P7
        clear hW7 c9' f9
        obtain ⟨k7, h7⟩ := P7.out.2.2.2.1
        clear HO HPK HPM PQ HE
        generalize ps.set kk ⟨pk ++ [e], A7, c7⟩ = qs at P7
        go_wp2_with fail
        refine (next_some g l k7 5 _ h7 (by omega) (by omega)).mono ?_
        rintro e8 w8 ⟨v8, k8, rfl, hv8, h8, hg8⟩
        have P8 := Lib.hid (P7.out.next h8 hg8 hlt0)
        clear h8 hg8 h7 P7 hgo hgne hbE hbne hbase
        by_cases h54 : v8 = 4
        · subst h54
          obtain ⟨k9, h9⟩ := P8.out.2.2.2.1
          go_wp2_with fail
          refine (next_some g l k9 m _ h9 (by omega) (by omega)).mono ?_
          rintro e10 w10 ⟨v10, k10, rfl, hv10, h10, hg10⟩
          obtain ⟨kk, rfl⟩ := Int.eq_ofNat_of_zero_le hv10.1
          have P10 := Lib.hid (P8.out.next h10 hg10 hlt0)
          clear h10 hg10 h9 P8
          have hkm : kk < m := by omega
          obtain ⟨W0, rfl⟩ : ∃ W0 : World, W0 = w10 := ⟨_, rfl⟩
          have PQ := P10
          obtain ⟨p, hp, hpm, c0, hpo, hgne, hgo⟩ := PQ.out.2.1.at_ PQ.out.1 hkm
          have hpl := PQ.out.row hpm
          obtain ⟨pk, ak, ck⟩ := p
          simp only [Pl.cell] at c0 hpo hgne hpl
          have hbE : bE < W0.heap.size := Nat.lt_of_lt_of_le hbw PQ.out.2.2.2.2.size
          have hbne : (Value.slice ak pk.length ck).ownBlock ≠ some bE := fun e => by have := (hpo.lt bE e).1; omega
          have HE := Lib.hid (HEW.out W0 PQ.out.2.2.2.2)
          have HO := Lib.hid hpo
          have hbase : w.heap.size ≤ W0.heap.size := PQ.out.2.2.2.2.size
          have HPK := Lib.hid hp
          have HPM := Lib.hid hpm
          clear hp hpm hpo P10
          go_wp2_with fail
          refine wp_region_gen 13 (JC [some (.slice (some ⟨go, 0, none⟩) m m), some (.int .i64 ((kk : Int))), some (.slice (some ⟨go, 0, none⟩) m m), some (.int .i64 ((kk : Int))), some (.pointer (some ⟨go, kk, none⟩)), some (.slice ak pk.length ck), some (.slice (some ⟨bE, oE, none⟩) (es.length) (cE)), some (.int .i64 ((i : Int))), some (.pointer (some ⟨bE, oE + i * 10, none⟩)), some (.agg e.cells.toArray), none, none, some (.pointer (some ⟨go, kk, none⟩))] (fun D u wx => W0.grownBy wx (Value.slice ak pk.length ck).ownBlock ∧ (D 11 = true → D 10 = true) ∧ (D 10 = false → wx = W0.drew) ∧ (D 10 = true → D 11 = false → wx = W0.drew.alloc (.cells e.cells.toArray 34) ∧ u 10 = .slice (some ⟨W0.heap.size, 0, none⟩) 1 1) ∧ (D 11 = true → AppE w.heap.size W0 (.slice ak pk.length ck) pk e (u 11) wx))) (by kernel_rfl) (by kernel_rfl) ?_ ?_ ?_
          · intro u
            exact ⟨(fun j c _ h => by cases h), ⟨only_drew (only_refl _ _), (fun h => by cases h), (fun _ => rfl), (fun h => by cases h), fun h => by cases h⟩⟩
          · intro AA hA
            have hasz : AA.tmps.size = 56 := by rw [hA]; kernel_rfl
            have ea0 : AA.eval (.tmp 0) = .slice (some ⟨bE, oE, none⟩) (es.length) (cE) := by rw [hA]; kernel_rfl
            have ea5 : AA.eval (.tmp 5) = .slice (some ⟨go, 0, none⟩) m m := by rw [hA]; kernel_rfl
            have ea6 : AA.eval (.tmp 6) = .int .i64 ((i : Int)) := by rw [hA]; kernel_rfl
            have ea7 : AA.eval (.tmp 7) = .int .i64 ((kk : Int)) := by rw [hA]; kernel_rfl
            clear hA
            simp only [List.take_succ_cons, List.take_zero]
            refine .cons ?_ (.cons ?_ (.cons ?_ (.cons ?_ (.cons ?_ (.cons ?_ (.cons ?_ (.cons ?_ (.cons ?_ (.cons ?_ (.cons ?_ (.cons ?_ (.cons ?_ (.nil)))))))))))))
            · exact gd_gen (by kernel_rfl) (Want.none_ rfl) rfl (fun D u w v h => by simpa [updB, upd] using h) (fun D u ρ w kn => by
                have e0 := kn.own 5 (c := .slice (some ⟨go, 0, none⟩) m m) (by kernel_rfl) ea5
                simp [execOp, kn.rho.con, e0, go_sem])
            · exact gd_gen (by kernel_rfl) (Want.none_ rfl) rfl (fun D u w v h => by simpa [updB, upd] using h) (fun D u ρ w kn => by
                have e0 := kn.own 7 (c := .int .i64 ((kk : Int))) (by kernel_rfl) ea7
                simp [execOp, kn.rho.con, e0, go_sem])
            · exact gd_gen (by kernel_rfl) (Want.none_ rfl) rfl (fun D u w v h => by simpa [updB, upd] using h) (fun D u ρ w kn => by
                have e0 := kn.own 5 (c := .slice (some ⟨go, 0, none⟩) m m) (by kernel_rfl) ea5
                simp [execOp, kn.rho.con, e0, go_sem])
            · exact gd_gen (by kernel_rfl) (Want.none_ rfl) rfl (fun D u w v h => by simpa [updB, upd] using h) (fun D u ρ w kn => by
                have e0 := kn.own 7 (c := .int .i64 ((kk : Int))) (by kernel_rfl) ea7
                simp [execOp, kn.rho.con, e0, go_sem])
            · exact gd_gen (by kernel_rfl) (Want.none_ rfl) rfl (fun D u w v h => by simpa [updB, upd] using h) (fun D u ρ w kn => by
                have e0 := kn.con 2 44 (c := .slice (some ⟨go, 0, none⟩) m m) (by kernel_rfl) (by omega) (by kernel_rfl) rfl
                have e1 := kn.con 3 45 (c := .int .i64 ((kk : Int))) (by kernel_rfl) (by omega) (by kernel_rfl) rfl
                simp [execOp, kn.rho.con, e0, e1, go_sem, hkm])
            · exact gd_gen (by kernel_rfl) (Want.none_ rfl) rfl (fun D u w v h => by simpa [updB, upd] using h) (fun D u ρ w kn => by
                have e0 := kn.con 4 46 (c := .pointer (some ⟨go, kk, none⟩)) (by kernel_rfl) (by omega) (by kernel_rfl) rfl
                have f0 := (cell_of_g kn.ext.1 hgo (fun e => hgne e.symm)).trans c0
                simp [execOp, kn.rho.con, e0, f0, go_sem])
            · exact gd_gen (by kernel_rfl) (Want.none_ rfl) rfl (fun D u w v h => by simpa [updB, upd] using h) (fun D u ρ w kn => by
                have e0 := kn.own 0 (c := .slice (some ⟨bE, oE, none⟩) (es.length) (cE)) (by kernel_rfl) ea0
                simp [execOp, kn.rho.con, e0, go_sem])
            · exact gd_gen (by kernel_rfl) (Want.none_ rfl) rfl (fun D u w v h => by simpa [updB, upd] using h) (fun D u ρ w kn => by
                have e0 := kn.own 6 (c := .int .i64 ((i : Int))) (by kernel_rfl) ea6
                simp [execOp, kn.rho.con, e0, go_sem])
            · exact gd_gen (by kernel_rfl) (Want.none_ rfl) rfl (fun D u w v h => by simpa [updB, upd] using h) (fun D u ρ w kn => by
                have e0 := kn.con 6 48 (c := .slice (some ⟨bE, oE, none⟩) (es.length) (cE)) (by kernel_rfl) (by omega) (by kernel_rfl) rfl
                have e1 := kn.con 7 49 (c := .int .i64 ((i : Int))) (by kernel_rfl) (by omega) (by kernel_rfl) rfl
                simp [execOp, kn.rho.con, e0, e1, go_sem, hil])
            · exact gd_gen (by kernel_rfl) (Want.none_ rfl) rfl (fun D u w v h => by simpa [updB, upd] using h) (fun D u ρ w kn => by
                have e0 := kn.con 8 50 (c := .pointer (some ⟨bE, oE + i * 10, none⟩)) (by kernel_rfl) (by omega) (by kernel_rfl) rfl
                exact run_load ρ w rfl e0 (load_evAt w bE (oE + i * 10) e (fun m hm => (cell_of_g kn.ext.1 hbE (fun e => hbne e.symm)).trans (HE.out m hm))))
            · refine gd_eff (by kernel_rfl) (Want.none_ rfl) (fun D u ρ wx kn hD => ?_)
              have e0 := kn.con 9 51 (c := .agg e.cells.toArray) (by kernel_rfl) (by omega) (by kernel_rfl) rfl
              obtain ⟨x0, x1, x2, x3, x4⟩ := kn.ext
              have h11 : D 11 = false := by cases h : D 11 with | false => rfl | true => have := x1 h; rw [hD] at this; cases this
              have hw := x2 hD
              subst hw
              refine ⟨.slice (some ⟨W0.heap.size, 0, none⟩) 1 1, W0.drew.alloc (.cells e.cells.toArray 34), lit_ev ρ _ rfl e0, (fun c h => by cases h), only_alloc x0 _, ?_, ?_, ?_, ?_⟩
              · intro h; rw [updB_ne D (show (11 : Nat) ≠ 10 by omega), h11] at h; cases h
              · intro h; rw [updB_at] at h; cases h
              · exact fun _ _ => ⟨rfl, upd_at _ _ _⟩
              · intro h; rw [updB_ne D (show (11 : Nat) ≠ 10 by omega), h11] at h; cases h
            · refine gd_eff (by kernel_rfl) (Want.none_ rfl) (fun D u ρ wx kn hD => ?_)
              have e0 := kn.con 5 47 (c := .slice ak pk.length ck) (by kernel_rfl) (by omega) (by kernel_rfl) rfl
              have e1 := kn.slot 10 52 (by kernel_rfl) (by omega)
              have d10 := kn.dep 10 (by kernel_rfl)
              have d5 := kn.dep 5 (by kernel_rfl)
              obtain ⟨x0, x1, x2, x3, x4⟩ := kn.ext
              obtain ⟨hw, hu⟩ := x3 d10 hD
              subst hw
              rw [hu] at e1
              obtain ⟨v', w', hr, h1, h2, h3⟩ := run_append1 (P := Try.prog) w.heap.size 26 26 Try.underlying26 eventInfo rfl (by decide) (v := .slice ak pk.length ck) (n := pk.length) (xs := pk.flatMap Ev.cells) (w0 := W0.drew) (w := W0.drew.alloc (.cells e.cells.toArray 34)) (cs := e.cells.toArray) rfl rfl rfl rfl HO.out rfl (by simpa using Ev.one e) (by decide) (by omega) hbase
              have h2' : W0.grownBy w' (Value.slice ak pk.length ck).ownBlock := only_trans (only_drew (only_refl W0 _)) h2
              refine ⟨v', w', ?_, (fun c h => by cases h), h2', ?_, ?_, ?_, ?_⟩
              rotate_left
              · intro _; rw [updB_ne D (show (10 : Nat) ≠ 11 by omega)]; exact d10
              · intro h; rw [updB_ne D (show (10 : Nat) ≠ 11 by omega), d10] at h; cases h
              · intro _ h; rw [updB_at] at h; cases h
              · intro _; rw [upd_at]; exact ⟨(by simpa using h1), h2', h3⟩
              · simp only [execOp, resolve, invoke, builtin, Sem.run_bind, Sem.run_pure, Result.andThen_ok, List.map_toArray, List.map_cons, List.map_nil, e0, e1]
                rw [show (W0.drew).heap.size = W0.heap.size from rfl] at hr
                simp [hr]
            · exact gd_gen (by kernel_rfl) (Want.none_ rfl) rfl (fun D u w v h => by simpa [updB, upd] using h) (fun D u ρ w kn => by
                have e0 := kn.con 0 42 (c := .slice (some ⟨go, 0, none⟩) m m) (by kernel_rfl) (by omega) (by kernel_rfl) rfl
                have e1 := kn.con 1 43 (c := .int .i64 ((kk : Int))) (by kernel_rfl) (by omega) (by kernel_rfl) rfl
                simp [execOp, kn.rho.con, e0, e1, go_sem, hkm])
          · intro D u w3 hJ hD
            obtain ⟨hc, x0, -, -, -, x4⟩ := hJ
            obtain ⟨h1, h2, h3⟩ := x4 (hD 11 (by omega))
            have e12 : u 12 = .pointer (some ⟨go, kk, none⟩) := hc 12 _ rfl (hD 12 (by omega))
            obtain ⟨A7, c7, e7, -, -, -, -⟩ := Rd.of_own h1 (by decide)
            rw [e7] at h1 h3
            simp only [List.take_succ_cons, List.take_zero, List.drop_succ_cons, List.drop_zero, putAll]
            rw [e7, e12]
            have hrow := own_block_eq (w' := w3) PQ.out.2.1.1 fun g hg' => h2.block g (PQ.out.2.1.1.lt g hg').2 (fun e => own_types PQ.out.2.1.1 (PQ.out.2.1.2.1 _ HPM.out) (by decide) hg' e.symm)
            rw [PQ.out.1] at hrow
            obtain ⟨c9, f9⟩ := own_cellk (k := kk) hrow (by omega)
            have c9' : w3.cell? ⟨go, kk, none⟩ = some (.slice ak pk.length ck) := by rw [c9]; simp [HPK.out, Pl.cell]
            have P7 := Lib.hid (PQ.out.put (i := i) (e := e) SRT.out (by omega) (by omega) HE0.out HPK.out hlt0 h1 h2 (h3.imp id fun h => ⟨_, h, by simp⟩))
            clear hc x0 x4 h1 h2 h3 e7 e12 hD hrow c9 c0
            go_wp2_with fail
            have P11 := Lib.hid P7.out
            clear P7
            go_roundw
            case rel => exact ⟨i + 1, _, by go_num, by omega, P11.out.le (N' := 2 * (i + 1)) (by omega)⟩
            case measure => simp [intOf]; omega
        · have h55 : (v8 == 4) = false := by simp [h54]
          go_wp2_with fail
          go_roundw
          case rel => exact ⟨i + 1, qs, by go_num, by omega, P8.out.le (N' := 2 * (i + 1)) (by omega)⟩
          case measure => simp [intOf]; omega
    · have hil1 : ¬ ((i : Int) < (es.length : Int)) := by omega
      have hii : i = es.length := by omega
      have P9 : Hid (PS w g l es go m es.length (2 * es.length) wr ps) := Lib.hid (by rw [← hii]; exact P.out)
      clear P hii
      go_wp2_with fail
      go_ret
      exact ⟨go, m, ps, rfl, hm1, hm4, P9.out⟩
end Go.Proofs.Ytphglalphejppaa
