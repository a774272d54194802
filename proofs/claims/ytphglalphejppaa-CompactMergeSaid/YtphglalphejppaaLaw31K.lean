/- law31: CompactMergeKeepsAllEvents (printed by mkkeep.py): the walk of the law itself. For every input. -/
import Derived.Test.YtphglalphejppaaLaw31O
namespace Go.Proofs.Ytphglalphejppaa
open Go.RowKit
set_option linter.unusedVariables false
set_option linter.unusedSimpArgs false

/-- a row of slices of the call's own -/
def VR (base : Nat) (w : World) (go m : Nat) (vs : List Value) : Prop := vs.length = m ∧ w.ownsRow base 26 1 (.slice (some ⟨go, 0, none⟩) m m) m vs
theorem VR.cell {base : Nat} {w : World} {go m i : Nat} {vs : List Value} (h : VR base w go m vs) {v : Value} (hv : vs[i]? = some v) : w.cell? ⟨go, i, none⟩ = some v := by
  have hi : i < m := by rw [← h.1]; exact (List.getElem?_eq_some_iff.1 hv).1
  exact (own_cellk h.2 (k := i) (by omega)).1.trans hv
theorem VR.old {base : Nat} {w : World} {go m i : Nat} {vs : List Value} (h : VR base w go m vs) (hi : i < m) : ∃ v, w.cell? ⟨go, i, none⟩ = some v ∧ w.frozen? ⟨go, i, none⟩ = false := by
  obtain ⟨h1, h2⟩ := own_cellk h.2 (k := i) (by omega)
  exact ⟨_, h1.trans (List.getElem?_eq_getElem (by rw [h.1]; exact hi)), h2⟩
theorem VR.set {base : Nat} {w : World} {go m i : Nat} {vs : List Value} (h : VR base w go m vs) (hi : i < m) (v : Value) : VR base (w.setCell ⟨go, i, none⟩ v) go m (vs.set i v) :=
  ⟨by simpa using h.1, own_setk h.2 (k := i) (by omega)⟩
theorem load_sl (w : World) (b o : Nat) (A : Option Addr) (n c : Nat) (h : w.cell? ⟨b, o, none⟩ = some (.slice A n c)) : (Instr.loadAt 26 (.pointer (some ⟨b, o, none⟩))).run Try.prog w = .ok (.slice A n c) w := by
  have hu := Try.underlying26
  simp [go_sem, h]
theorem store_sl (w : World) (b o : Nat) (A : Option Addr) (n c : Nat) {v : Value} (h : w.cell? ⟨b, o, none⟩ = some v) (hf : w.frozen? ⟨b, o, none⟩ = false) : (Instr.storeAt 26 (.pointer (some ⟨b, o, none⟩)) (.slice A n c)).run Try.prog w = .ok () (w.setCell ⟨b, o, none⟩ (.slice A n c)) := by
  have hu := Try.underlying26
  simp [go_sem, h, hf]
theorem bdd_good {es : List Ev} (h : ∀ e ∈ es, EvGood e) : Bdd es := fun e he => by
  have hg := h e he
  have h1 := hg.2.2.2.1
  have h2 := hg.1.2.2.2.2.2.1.length_le
  simp at h2
  exact ⟨by omega, by omega⟩
/-- the rows as they are shuffled -/
def SH (base g : Nat) (l : List Int) (go m : Nat) (ps qs : List Pl) (wr : World) : Prop :=
  qs.Perm ps ∧ VR base wr go m (qs.map Pl.cell) ∧ (∀ p ∈ ps, p.Ok (fun b => base ≤ b ∧ b ≠ go) wr) ∧ (∃ k, CodesAt wr g l k)
theorem SH.next {base g : Nat} {l : List Int} {go m k : Nat} {ps qs : List Pl} {wr w2 : World} (h : SH base g l go m ps qs wr) (hc : CodesAt w2 g l k) (hg : wr.grownBy w2 (some g)) (hlt : g < base) : SH base g l go m ps qs w2 :=
  ⟨h.1, ⟨h.2.1.1, own_only h.2.1.2 hg hlt⟩, fun p hp => (h.2.2.1 p hp).grown hg (fun b hb e => by injection e; omega), ⟨k, hc⟩⟩
theorem SH.ext {base g : Nat} {l : List Int} {go m : Nat} {ps qs : List Pl} {wr w2 : World} (h : SH base g l go m ps qs wr) (hg : wr.grownBy w2 none) : SH base g l go m ps qs w2 :=
  ⟨h.1, ⟨h.2.1.1, own_ext h.2.1.2 hg⟩, fun p hp => (h.2.2.1 p hp).grown hg (by simp), by obtain ⟨k, hk⟩ := h.2.2.2; exact ⟨k, hk.grown hg (by simp)⟩⟩
theorem SH.swap {base g : Nat} {l : List Int} {go m i j : Nat} {ps qs : List Pl} {wr w2 : World} {a b : Pl} (h : SH base g l go m ps qs wr) (ha : qs[i]? = some a) (hb : qs[j]? = some b) (hv : VR base w2 go m (((qs.map Pl.cell).set i b.cell).set j a.cell)) (hg : wr.grownBy w2 (some go)) (hgo : g < go) : SH base g l go m ps ((qs.set i b).set j a) w2 := by
  obtain ⟨h1, h2, h3, ⟨k, h4⟩⟩ := h
  obtain ⟨hi, ea⟩ := List.getElem?_eq_some_iff.1 ha
  obtain ⟨hj, eb⟩ := List.getElem?_eq_some_iff.1 hb
  refine ⟨?_, by rw [List.map_set, List.map_set]; exact hv, fun p hp => (h3 p hp).grown hg (fun b hb e => by injection e; exact hb.2 (by assumption)), ⟨k, h4.grown hg (fun b hb e => by injection e; omega)⟩⟩
  rw [← ea, ← eb]
  exact (List.set_set_perm hi hj).trans h1
theorem flat_perm {ps qs : List Pl} (h : qs.Perm ps) : ((qs.map (·.evs)).flatten).Perm ((ps.map (·.evs)).flatten) := (h.map _).flatten
theorem PP.all {es : List Ev} {N : Nat} {ps qs : List Pl} (h : PP es es.length es.length ps N) (hs : Srt es) (hq : qs.Perm ps) {out : List Ev} (hm : IsMerge (qs.map (·.evs)).flatten out) : out = es := by
  obtain ⟨h1, h2, _⟩ := h
  rw [List.take_length] at h1 h2
  refine merge_uniq hm (merge_parts hs (fun e he => ?_) (fun e he => ?_))
  · obtain ⟨l, hl, hel⟩ := List.mem_flatten.1 he
    obtain ⟨p, hp, rfl⟩ := List.mem_map.1 hl
    exact (h1 p (hq.mem_iff.1 hp)).2 e hel
  · obtain ⟨p, hp, hep⟩ := h2 e he
    exact List.mem_flatten.2 ⟨p.evs, List.mem_map.2 ⟨p, hq.mem_iff.2 hp, rfl⟩, hep⟩
set_option maxHeartbeats 4000000 in
set_option maxRecDepth 100000 in
theorem law_keeps (A : Option Addr) (l : List Int) (d : Nat) (w : World) (h : Rd (fun _ => True) w A (l.map (.int .u8))) (hc : l.length ≤ d) (hcm : d ≤ maxLen) (hx : ∀ x ∈ l, 0 ≤ x ∧ x ≤ 255) :
    Calls Try.prog 5 #[.slice A l.length d] w (TrueExt w) := by
  have HX := Lib.hid hx
  have HL := Lib.hid h
  clear hx h
  go_enter Try.func5, Try.ntmps5
  go_wp2_with (go_at_call 9; refine (awake_any _).mono ?_; rintro e w1 ⟨rfl, hg1⟩)
  refine (new_any A l d 500 _ (HL.out.grown hg1 (by simp)) hc hcm (by omega) HX.out).mono ?_
  rintro e w2 ⟨rfl, h2, hg2, hlt2⟩
  have G2 : Hid (w.grownBy w2 none) := only_trans hg1 hg2
  have hs2 := G2.out.size
  have hs1 := hg1.size
  generalize w1.heap.size = g at *
  clear HL HX hg1 hg2
  go_wp2_with fail
  refine (events_some g _ _ 6 _ h2 (by omega)).mono ?_
  rintro e w3 ⟨A3, c3, es, k3, rfl, hc3, hm3, hl3, hev, hsrt, hgood, h3, hg3⟩
  have G3 : Hid (w.grownBy w3 none) := only_fresh G2.out hg3 (by omega)
  have hs3 := hg3.size
  obtain ⟨base, hbs⟩ : ∃ b, b = w3.heap.size := ⟨_, rfl⟩
  have KP := Lib.hid (parts_any g _ k3 A3 es c3 w3 h3 (hev.1.mono (fun b hb _ => by show b ≠ g; omega)) hsrt (by omega))
  have SRT := Lib.hid hsrt
  have BDD := Lib.hid (bdd_good hgood)
  have EV3 : Hid (Evs (fun b => g < b ∧ b < base) w3 A3 es) := Lib.hid (hev.mono (fun b hb hlt => ⟨by omega, by omega⟩))
  clear hev hsrt hgood h3 hg3 h2 G2
  go_wp2_with fail
  refine KP.out.mono ?_
  rintro e w4 ⟨go, m, ps, rfl, hm1, hm4, hPS⟩
  have hgo3 := (hPS.2.1.1.lt go rfl).1
  have hgo4 := (hPS.2.1.1.lt go rfl).2
  have hs4 := hPS.2.2.2.2.size
  have PPS := Lib.hid hPS.2.2.1
  have HASC : Hid (∀ p ∈ ps, Asc p.evs) := Lib.hid (fun p hp => (hPS.2.2.1.1 p hp).1)
  have HTOT : Hid ((ps.map (·.evs)).flatten.length ≤ 72) := Lib.hid (by have := hPS.2.2.1.2.2; omega)
  have hpl := hPS.1
  have EV4 : Hid (Evs (fun b => g < b ∧ b < base) w4 A3 es) := Lib.hid (EV3.out.grown hPS.2.2.2.2 (fun b hb e => by injection e; omega))
  have G4 : Hid (w.grownBy w4 none) := Lib.hid (only_fresh G3.out hPS.2.2.2.2 (by omega))
  have SH4 : Hid (SH base g (l.take 500) go m ps ps w4) := Lib.hid (by
    have hPR := hPS.2.1
    refine ⟨List.Perm.refl _, ⟨by simp [hpl], ?_⟩, fun p hp => ?_, hPS.2.2.2.1⟩
    · have := hPR.1; rw [hpl] at this; rw [hbs]; exact this
    · obtain ⟨A2, c2, e2, k1, k2, -, k3⟩ := Rd.of_own (hPR.2.1 p hp) (by decide)
      unfold Pl.cell at e2
      injection e2 with a1 a2 a3
      subst a1 a3
      refine ⟨fun hn => ?_, k1, k2⟩
      obtain ⟨b, off, e1, q1, q2, q3⟩ := k3 hn
      refine ⟨b, off, e1, ⟨by omega, ?_⟩, q2, q3⟩
      have h7 := own_types hPR.1 (hPR.2.1 p hp) (by decide) rfl
      intro e; subst e
      exact h7 (by unfold Pl.cell; rw [e1]; rfl))
  have KM : Hid (∀ (qs : List Pl) wr, SH base g (l.take 500) go m ps qs wr → Calls Try.prog 16 #[.slice (some ⟨go, 0, none⟩) m m] wr (MergePost wr (qs.map (·.evs)))) := Lib.hid (fun qs wr hS => by
    have hql : qs.length = m := by have := hS.2.1.1; simpa using this
    obtain ⟨A8, c8, e8, -, -, -, h8⟩ := Rd.of_own hS.2.1.2 (by decide)
    injection e8 with b1 b2 b3
    subst b1 b3
    have := qmerge_any (S := fun _ => True) (some ⟨go, 0, none⟩) qs m wr (h8.mono fun _ _ _ => trivial) (fun p hp => (hS.2.2.1 p (hS.1.mem_iff.1 hp)).mono fun _ _ _ => trivial) (by omega) (by have h1 := (flat_perm hS.1).length_eq; have h2 := HTOT.out; omega)
    rw [hql] at this
    exact this)
  clear hPS EV3 G3 KP
  go_wp2_with fail
  refine (KM.out ps w4 SH4.out).mono ?_
  rintro e w6 ⟨hg6, ⟨-, A6, c6, o6, rfl, hmg6, -, hoc6, hom6, hro6⟩ | ⟨⟨l9, hl9, hn9⟩, -⟩⟩
  rotate_left
  · obtain ⟨p, hp, rfl⟩ := List.mem_map.1 hl9
    exact absurd (HASC.out p hp) hn9
  obtain rfl := PPS.out.all SRT.out (List.Perm.refl _) hmg6
  have EV6 : Hid (Evs (fun b => g < b ∧ b < base) w6 A3 o6) := Lib.hid (EV4.out.grown hg6 (by simp))
  have G6 : Hid (w.grownBy w6 none) := Lib.hid (only_trans G4.out hg6)
  have SH6 : Hid (SH base g (l.take 500) go m ps ps w6) := Lib.hid (SH4.out.ext hg6)
  have RA6 : Hid (Rd (fun b => g < b ∧ b ≠ go) w6 A6 (o6.flatMap Ev.cells)) := Lib.hid (hro6.mono (fun b hb _ => ⟨by omega, by omega⟩))
  clear hg6 hmg6 hro6 EV4 G4 SH4
  have hgb : g < base := by omega
  have hgo5 : g < go := by omega
  have hgw : w.heap.size ≤ g := by omega
  have hl6 : o6.length ≤ 36 := by omega
  unfold maxLen at hom6 hm3
  clear hs2 hs1 hs4 hlt2 hgo4 hs3
  go_wp2_with fail
  go_loopw [8] (fun vi wr => ∃ (i : Nat) (qs : List Pl), vi = .int .i64 ((i : Int) - 1) ∧ i ≤ m ∧ SH base g (l.take 500) go m ps qs wr ∧ Evs (fun b => g < b ∧ b < base) wr A3 o6 ∧ Rd (fun b => g < b ∧ b ≠ go) wr A6 (o6.flatMap Ev.cells) ∧ w.grownBy wr none) (fun vi _ => (intOf vi).toNat)
  case atStart => exact ⟨m, ps, rfl, Nat.le_refl _, SH6.out, EV6.out, RA6.out, G6.out⟩
  case round =>
    obtain ⟨i, qs, rfl, hi, hS, hE, hR, hG⟩ := hrel
    have SS := Lib.hid hS
    have EE := Lib.hid hE
    have RR := Lib.hid hR
    have GG := Lib.hid hG
    clear hS hE hR hG SH6 EV6 RA6 G6
    by_cases hi1 : 2 ≤ i
    · obtain ⟨i, rfl⟩ : ∃ i', i = i' + 1 := ⟨i - 1, by omega⟩
      have hii : ((i + 1 : Nat) : Int) - 1 = (i : Int) := by omega
      rw [hii]
      have hi0 : (0 : Int) < (i : Int) := by omega
      clear hii
      obtain ⟨k7, h7⟩ := SS.out.2.2.2
      go_wp2_with fail
      refine (next_some g _ k7 ((i : Int) + 1) _ h7 (by omega) (by omega)).mono ?_
      rintro e8 w8 ⟨v8, k8, rfl, hv8, h8, hg8⟩
      obtain ⟨j, rfl⟩ := Int.eq_ofNat_of_zero_le hv8.1
      have S8 := Lib.hid (SS.out.next h8 hg8 hgb)
      have E8 : Hid (Evs (fun b => g < b ∧ b < base) w8 A3 o6) := Lib.hid (EE.out.grown hg8 (fun b hb e => by injection e; omega))
      have R8 : Hid (Rd (fun b => g < b ∧ b ≠ go) w8 A6 (o6.flatMap Ev.cells)) := Lib.hid (RR.out.grown hg8 (fun b hb e => by injection e; omega))
      have G8 : Hid (w.grownBy w8 none) := Lib.hid (only_fresh GG.out hg8 hgw)
      clear h8 hg8 h7 SS EE RR GG
      have him : i < m := by omega
      have hjm : j < m := by omega
      obtain ⟨W0, rfl⟩ : ∃ W0 : World, W0 = w8 := ⟨_, rfl⟩
      have hql : qs.length = m := by have := S8.out.2.1.1; simpa using this
      obtain ⟨pa, ha⟩ : ∃ a, qs[i]? = some a := ⟨_, List.getElem?_eq_getElem (by omega)⟩
      obtain ⟨pb, hb⟩ : ∃ b, qs[j]? = some b := ⟨_, List.getElem?_eq_getElem (by omega)⟩
      obtain ⟨vs, hvs⟩ : ∃ vs, vs = qs.map Pl.cell := ⟨_, rfl⟩
      have HV : Hid (VR base W0 go m vs) := Lib.hid (by rw [hvs]; exact S8.out.2.1)
      obtain ⟨ae, aA, ac⟩ := pa
      obtain ⟨be, bA, bc⟩ := pb
      obtain ⟨an, han⟩ : ∃ n, n = ae.length := ⟨_, rfl⟩
      obtain ⟨bn, hbn⟩ : ∃ n, n = be.length := ⟨_, rfl⟩
      have HA : Hid (vs[i]? = some (.slice aA an ac)) := Lib.hid (by rw [hvs, han]; simp [ha, Pl.cell])
      have HB : Hid (vs[j]? = some (.slice bA bn bc)) := Lib.hid (by rw [hvs, hbn]; simp [hb, Pl.cell])
      have QA := Lib.hid ha
      have QB := Lib.hid hb
      have HVS := Lib.hid hvs
      have HAN := Lib.hid han
      have HBN := Lib.hid hbn
      clear ha hb hvs han hbn
      go_wp2_with fail
      refine wp_region_gen 16 (JC [some (.slice (some ⟨go, 0, none⟩) m m), some (.int .i64 ((i : Int))), some (.slice (some ⟨go, 0, none⟩) m m), some (.int .i64 ((j : Int))), some (.slice (some ⟨go, 0, none⟩) m m), some (.int .i64 ((j : Int))), some (.pointer (some ⟨go, j, none⟩)), some (.slice bA bn bc), some (.slice (some ⟨go, 0, none⟩) m m), some (.int .i64 ((i : Int))), some (.pointer (some ⟨go, i, none⟩)), some (.slice aA an ac), some (.pointer (some ⟨go, i, none⟩)), none, some (.pointer (some ⟨go, j, none⟩)), none] (fun D u wx => W0.grownBy wx (some go) ∧ (D 13 = true → D 7 = true ∧ D 11 = true) ∧ (D 15 = true → D 13 = true) ∧ VR base wx go m (if D 15 = true then (vs.set i (.slice bA bn bc)).set j (.slice aA an ac) else if D 13 = true then vs.set i (.slice bA bn bc) else vs))) (by kernel_rfl) (by kernel_rfl) ?_ ?_ ?_
      · intro u
        exact ⟨(fun j c _ h => by cases h), ⟨only_drew (only_refl _ _), (fun h => by cases h), (fun h => by cases h), HV.out⟩⟩
      · intro AA hA
        have hasz : AA.tmps.size = 90 := by rw [hA]; kernel_rfl
        have ea5 : AA.eval (.tmp 5) = .slice (some ⟨go, 0, none⟩) m m := by rw [hA]; kernel_rfl
        have ea8 : AA.eval (.tmp 8) = .int .i64 ((i : Int)) := by rw [hA]; kernel_rfl
        have ea9 : AA.eval (.tmp 9) = .int .i64 ((j : Int)) := by rw [hA]; kernel_rfl
        clear hA
        simp only [List.take_succ_cons, List.take_zero]
        refine .cons ?_ (.cons ?_ (.cons ?_ (.cons ?_ (.cons ?_ (.cons ?_ (.cons ?_ (.cons ?_ (.cons ?_ (.cons ?_ (.cons ?_ (.cons ?_ (.cons ?_ (.cons ?_ (.cons ?_ (.cons ?_ (.nil))))))))))))))))
        · exact gd_gen (by kernel_rfl) (Want.none_ rfl) rfl (fun D u w v h => by simpa [updB, upd] using h) (fun D u ρ w kn => by
            have e0 := kn.own 5 (c := .slice (some ⟨go, 0, none⟩) m m) (by kernel_rfl) ea5
            simp [execOp, kn.rho.con, e0, go_sem])
        · exact gd_gen (by kernel_rfl) (Want.none_ rfl) rfl (fun D u w v h => by simpa [updB, upd] using h) (fun D u ρ w kn => by
            have e0 := kn.own 8 (c := .int .i64 ((i : Int))) (by kernel_rfl) ea8
            simp [execOp, kn.rho.con, e0, go_sem])
        · exact gd_gen (by kernel_rfl) (Want.none_ rfl) rfl (fun D u w v h => by simpa [updB, upd] using h) (fun D u ρ w kn => by
            have e0 := kn.own 5 (c := .slice (some ⟨go, 0, none⟩) m m) (by kernel_rfl) ea5
            simp [execOp, kn.rho.con, e0, go_sem])
        · exact gd_gen (by kernel_rfl) (Want.none_ rfl) rfl (fun D u w v h => by simpa [updB, upd] using h) (fun D u ρ w kn => by
            have e0 := kn.own 9 (c := .int .i64 ((j : Int))) (by kernel_rfl) ea9
            simp [execOp, kn.rho.con, e0, go_sem])
        · exact gd_gen (by kernel_rfl) (Want.none_ rfl) rfl (fun D u w v h => by simpa [updB, upd] using h) (fun D u ρ w kn => by
            have e0 := kn.own 5 (c := .slice (some ⟨go, 0, none⟩) m m) (by kernel_rfl) ea5
            simp [execOp, kn.rho.con, e0, go_sem])
        · exact gd_gen (by kernel_rfl) (Want.none_ rfl) rfl (fun D u w v h => by simpa [updB, upd] using h) (fun D u ρ w kn => by
            have e0 := kn.own 9 (c := .int .i64 ((j : Int))) (by kernel_rfl) ea9
            simp [execOp, kn.rho.con, e0, go_sem])
        · exact gd_gen (by kernel_rfl) (Want.none_ rfl) rfl (fun D u w v h => by simpa [updB, upd] using h) (fun D u ρ w kn => by
            have e0 := kn.con 4 43 (c := .slice (some ⟨go, 0, none⟩) m m) (by kernel_rfl) (by omega) (by kernel_rfl) rfl
            have e1 := kn.con 5 44 (c := .int .i64 ((j : Int))) (by kernel_rfl) (by omega) (by kernel_rfl) rfl
            simp [execOp, kn.rho.con, e0, e1, go_sem, hjm])
        · refine gd_eff (by kernel_rfl) (Want.none_ rfl) (fun D u ρ wx kn hD => ?_)
          have e0 := kn.con 6 45 (c := .pointer (some ⟨go, j, none⟩)) (by kernel_rfl) (by omega) (by kernel_rfl) rfl
          obtain ⟨x1, x2, x3, x4⟩ := kn.ext
          have h13 : D 13 = false := by cases h : D 13 with | false => rfl | true => have := x2 h; rw [hD] at this; simp at this
          have h15 : D 15 = false := by cases h : D 15 with | false => rfl | true => rw [x3 h] at h13; cases h13
          have hS : VR base wx go m vs := by rw [h13, h15] at x4; exact x4
          refine ⟨.slice bA bn bc, wx, run_load ρ wx rfl e0 (load_sl wx go j _ _ _ (hS.cell HB.out)), (fun c h => by injection h with h; injection h), by simpa [updB, h13, h15] using And.intro x1 hS⟩
        · exact gd_gen (by kernel_rfl) (Want.none_ rfl) rfl (fun D u w v h => by simpa [updB, upd] using h) (fun D u ρ w kn => by
            have e0 := kn.own 5 (c := .slice (some ⟨go, 0, none⟩) m m) (by kernel_rfl) ea5
            simp [execOp, kn.rho.con, e0, go_sem])
        · exact gd_gen (by kernel_rfl) (Want.none_ rfl) rfl (fun D u w v h => by simpa [updB, upd] using h) (fun D u ρ w kn => by
            have e0 := kn.own 8 (c := .int .i64 ((i : Int))) (by kernel_rfl) ea8
            simp [execOp, kn.rho.con, e0, go_sem])
        · exact gd_gen (by kernel_rfl) (Want.none_ rfl) rfl (fun D u w v h => by simpa [updB, upd] using h) (fun D u ρ w kn => by
            have e0 := kn.con 8 47 (c := .slice (some ⟨go, 0, none⟩) m m) (by kernel_rfl) (by omega) (by kernel_rfl) rfl
            have e1 := kn.con 9 48 (c := .int .i64 ((i : Int))) (by kernel_rfl) (by omega) (by kernel_rfl) rfl
            simp [execOp, kn.rho.con, e0, e1, go_sem, him])
        · refine gd_eff (by kernel_rfl) (Want.none_ rfl) (fun D u ρ wx kn hD => ?_)
          have e0 := kn.con 10 49 (c := .pointer (some ⟨go, i, none⟩)) (by kernel_rfl) (by omega) (by kernel_rfl) rfl
          obtain ⟨x1, x2, x3, x4⟩ := kn.ext
          have h13 : D 13 = false := by cases h : D 13 with | false => rfl | true => have := x2 h; rw [hD] at this; simp at this
          have h15 : D 15 = false := by cases h : D 15 with | false => rfl | true => rw [x3 h] at h13; cases h13
          have hS : VR base wx go m vs := by rw [h13, h15] at x4; exact x4
          refine ⟨.slice aA an ac, wx, run_load ρ wx rfl e0 (load_sl wx go i _ _ _ (hS.cell HA.out)), (fun c h => by injection h with h; injection h), by simpa [updB, h13, h15] using And.intro x1 hS⟩
        · exact gd_gen (by kernel_rfl) (Want.none_ rfl) rfl (fun D u w v h => by simpa [updB, upd] using h) (fun D u ρ w kn => by
            have e0 := kn.con 0 39 (c := .slice (some ⟨go, 0, none⟩) m m) (by kernel_rfl) (by omega) (by kernel_rfl) rfl
            have e1 := kn.con 1 40 (c := .int .i64 ((i : Int))) (by kernel_rfl) (by omega) (by kernel_rfl) rfl
            simp [execOp, kn.rho.con, e0, e1, go_sem, him])
        · refine gd_skip (by kernel_rfl) (Want.none_ rfl) rfl (fun D u ρ wx kn hD => ?_)
          have e0 := kn.con 12 51 (c := .pointer (some ⟨go, i, none⟩)) (by kernel_rfl) (by omega) (by kernel_rfl) rfl
          have e1 := kn.con 7 46 (c := .slice bA bn bc) (by kernel_rfl) (by omega) (by kernel_rfl) rfl
          have d7 := kn.dep 7 (by kernel_rfl)
          have d11 := kn.dep 11 (by kernel_rfl)
          obtain ⟨x1, x2, x3, x4⟩ := kn.ext
          have h15 : D 15 = false := by cases h : D 15 with | false => rfl | true => have := x3 h; rw [hD] at this; cases this
          have hS : VR base wx go m vs := by rw [hD, h15] at x4; exact x4
          have hg : wx.grownBy (wx.setCell ⟨go, i, none⟩ (.slice bA bn bc)) (some go) := only_setCell (only_refl _ _) (p := ⟨go, i, none⟩) (.inl rfl) _
          obtain ⟨v0, f0, f1⟩ := hS.old (i := i) him
          refine ⟨_, by simp only [execOp, e0, e1, Sem.run_bind, store_sl wx go i _ _ _ f0 f1, Result.andThen_ok, Sem.run_pure], only_trans x1 hg, ?_, ?_, ?_⟩
          · intro _
            exact ⟨by rw [updB_ne D (by omega)]; exact d7, by rw [updB_ne D (by omega)]; exact d11⟩
          · intro _
            exact updB_at D 13
          · rw [updB_at, updB_ne D (show (15 : Nat) ≠ 13 by omega), h15]
            exact hS.set him _
        · exact gd_gen (by kernel_rfl) (Want.none_ rfl) rfl (fun D u w v h => by simpa [updB, upd] using h) (fun D u ρ w kn => by
            have e0 := kn.con 2 41 (c := .slice (some ⟨go, 0, none⟩) m m) (by kernel_rfl) (by omega) (by kernel_rfl) rfl
            have e1 := kn.con 3 42 (c := .int .i64 ((j : Int))) (by kernel_rfl) (by omega) (by kernel_rfl) rfl
            simp [execOp, kn.rho.con, e0, e1, go_sem, hjm])
        · refine gd_skip (by kernel_rfl) (Want.none_ rfl) rfl (fun D u ρ wx kn hD => ?_)
          have e0 := kn.con 14 52 (c := .pointer (some ⟨go, j, none⟩)) (by kernel_rfl) (by omega) (by kernel_rfl) rfl
          have e1 := kn.con 11 50 (c := .slice aA an ac) (by kernel_rfl) (by omega) (by kernel_rfl) rfl
          have d7 := kn.dep 13 (by kernel_rfl)
          have d11 := kn.dep 13 (by kernel_rfl)
          obtain ⟨x1, x2, x3, x4⟩ := kn.ext
          have hS : VR base wx go m (vs.set i (.slice bA bn bc)) := by rw [hD, d7] at x4; exact x4
          have hg : wx.grownBy (wx.setCell ⟨go, j, none⟩ (.slice aA an ac)) (some go) := only_setCell (only_refl _ _) (p := ⟨go, j, none⟩) (.inl rfl) _
          obtain ⟨v0, f0, f1⟩ := hS.old (i := j) hjm
          refine ⟨_, by simp only [execOp, e0, e1, Sem.run_bind, store_sl wx go j _ _ _ f0 f1, Result.andThen_ok, Sem.run_pure], only_trans x1 hg, ?_, ?_, ?_⟩
          · intro _
            have := x2 d7
            exact ⟨by rw [updB_ne D (by omega)]; exact this.1, by rw [updB_ne D (by omega)]; exact this.2⟩
          · intro _
            rw [updB_ne D (show (13 : Nat) ≠ 15 by omega)]
            exact d7
          · rw [updB_at]
            exact hS.set hjm _
      · intro D u w3 hJ hD
        obtain ⟨-, x1, -, -, x4⟩ := hJ
        rw [hD 15 (by omega), if_pos rfl] at x4
        simp only [List.take_succ_cons, List.take_zero, List.drop_succ_cons, List.drop_zero, putAll]
        have S9 := Lib.hid (S8.out.swap QA.out QB.out (by rw [HVS.out, HAN.out, HBN.out] at x4; exact x4) x1 hgo5)
        have E9 : Hid (Evs (fun b => g < b ∧ b < base) w3 A3 o6) := Lib.hid (E8.out.grown x1 (fun b hb e => by injection e; omega))
        have R9 : Hid (Rd (fun b => g < b ∧ b ≠ go) w3 A6 (o6.flatMap Ev.cells)) := Lib.hid (R8.out.grown x1 (fun b hb e => by injection e; omega))
        have G9 : Hid (w.grownBy w3 none) := Lib.hid (only_fresh G8.out x1 (by omega))
        clear x1 x4 hD S8 E8 R8 G8 HV HA HB QA QB HVS HAN HBN
        go_wp2_with fail
        go_roundw
        case rel => exact ⟨i, _, rfl, by omega, S9.out, E9.out, R9.out, G9.out⟩
        case measure => simp [intOf]; omega
    · have hi2 : ¬ ((0 : Int) < (i : Int) - 1) := by omega
      go_wp2_with fail
      refine (KM.out qs wr SS.out).mono ?_
      rintro e w8 ⟨hg8, ⟨-, A8, c8, o8, rfl, hmg8, -, -, hom8, hro8⟩ | ⟨⟨l9, hl9, hn9⟩, -⟩⟩
      rotate_left
      · obtain ⟨p, hp, rfl⟩ := List.mem_map.1 hl9
        exact absurd (HASC.out p (SS.out.1.mem_iff.1 hp)) hn9
      obtain rfl := PPS.out.all SRT.out SS.out.1 hmg8
      have E8 : Hid (Evs (fun _ => True) w8 A3 o8) := Lib.hid ((EE.out.grown hg8 (by simp)).mono fun _ _ _ => trivial)
      have RA8 : Hid (Rd (fun _ => True) w8 A6 (o8.flatMap Ev.cells)) := Lib.hid ((RR.out.grown hg8 (by simp)).mono fun _ _ _ => trivial)
      have RB8 : Hid (Rd (fun _ => True) w8 A8 (o8.flatMap Ev.cells)) := Lib.hid (hro8.mono fun _ _ _ => trivial)
      have G8 : Hid (w.grownBy w8 none) := Lib.hid (only_trans GG.out hg8)
      clear hg8 hmg8 hro8 EE RR GG SS KM HASC PPS HTOT
      unfold maxLen at hom8
      obtain ⟨W9, hW9⟩ : ∃ W9, W9 = w8.alloc (.cells #[.slice A6 o8.length c6, .slice A3 o8.length c3, .slice none 0 0] 26) := ⟨_, rfl⟩
      have H9 : Hid (w8.grownBy W9 none) := Lib.hid (by rw [hW9]; exact only_alloc (only_refl _ _) _)
      have B9 := (Blk.new w8 26 #[.slice A6 o8.length c6, .slice A3 o8.length c3, .slice none 0 0]).rdl
      rw [← hW9] at B9
      have hkd := qmerge_any (some ⟨w8.heap.size, 0, none⟩) [⟨o8, A6, c6⟩, ⟨o8, A3, c3⟩, ⟨[], none, 0⟩] 3 W9 B9 (fun p hp => by
        simp only [List.mem_cons, List.not_mem_nil, or_false] at hp
        rcases hp with rfl | rfl | rfl
        · exact ⟨RA8.out.grown H9.out (by simp), hoc6, by unfold maxLen; exact hom6⟩
        · exact ⟨E8.out.1.grown H9.out (by simp), hc3, by unfold maxLen; exact hm3⟩
        · exact ⟨Rd.nil, Nat.le_refl _, Nat.zero_le _⟩) (by simp) (by simp; omega)
      have KD : Hid (Calls Try.prog 16 #[.slice (some ⟨w8.heap.size, 0, none⟩) 3 3] W9 (MergePost W9 [o8, o8, []])) := Lib.hid hkd
      have HW9 : Hid (w8.alloc (.cells #[.slice A6 o8.length c6, .slice A3 o8.length c3, .slice none 0 0] 26) = W9) := Lib.hid hW9.symm
      clear hkd B9 hW9
      go_wp2_with fail
      rw [HW9.out]
      refine KD.out.mono ?_
      rintro e w10 ⟨hg10, ⟨-, A10, c10, o10, rfl, hmg10, -, -, hom10, hro10⟩ | ⟨⟨l9, hl9, hn9⟩, -⟩⟩
      rotate_left
      · simp only [List.mem_cons, List.not_mem_nil, or_false] at hl9
        rcases hl9 with rfl | rfl | rfl
        · exact absurd SRT.out.asc hn9
        · exact absurd SRT.out.asc hn9
        · exact absurd List.Pairwise.nil hn9
      obtain rfl : o10 = o8 := merge_uniq hmg10 (merge_parts SRT.out (fun e he => by simpa using he) (fun e he => by simp [he]))
      have G10 : Hid (w8.grownBy w10 none) := Lib.hid (only_trans H9.out hg10)
      have KS : Hid (∀ (A : Option Addr) (c : Nat) w', w10.grownBy w' none → Rd (fun _ => True) w10 A (o10.flatMap Ev.cells) → Calls Try.prog 18 #[.slice A o10.length c, .slice A3 o10.length c3] w' (BoolExt true w')) := Lib.hid (fun A c w' hw hr => by
        have e1 : Evs (fun _ => True) w' A3 o10 := (E8.out.grown G10.out (by simp)).grown hw (by simp)
        exact sameevents_true A A3 o10 o10 c c3 w' ⟨hr.grown hw (by simp), e1.2⟩ e1 (EvsEq.refl _) BDD.out (by omega))
      have RA : Hid (Rd (fun _ => True) w10 A6 (o10.flatMap Ev.cells)) := Lib.hid (RA8.out.grown G10.out (by simp))
      have RB : Hid (Rd (fun _ => True) w10 A8 (o10.flatMap Ev.cells)) := Lib.hid (RB8.out.grown G10.out (by simp))
      have RC : Hid (Rd (fun _ => True) w10 A10 (o10.flatMap Ev.cells)) := Lib.hid (hro10.mono fun _ _ _ => trivial)
      have GW : Hid (w.grownBy w10 none) := Lib.hid (only_trans G8.out G10.out)
      clear hmg10 hro10 hg10 KD HW9 H9 E8 RA8 RB8 G8 G10 SRT BDD
      unfold maxLen at hom10
      go_wp2_with fail
      refine (KS.out _ _ w10 (only_refl _ _) RA.out).mono ?_
      rintro e w11 ⟨rfl, hg11⟩
      go_wp2_with fail
      refine (KS.out _ _ w11 hg11 RB.out).mono ?_
      rintro e w12 ⟨rfl, hg12⟩
      go_wp2_with fail
      refine (KS.out _ _ w12 (only_trans hg11 hg12) RC.out).mono ?_
      rintro e w13 ⟨rfl, hg13⟩
      go_wp2_with fail
      go_ret
      exact ⟨rfl, only_trans GW.out (only_trans (only_trans hg11 hg12) hg13)⟩
end Go.Proofs.Ytphglalphejppaa
