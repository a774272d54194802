/- law31: CompactOrdersEvents: the walk of the law itself. For every input. -/
import Derived.Test.YtphglalphejppaaLaw31A
import Derived.Test.YtphglalphejppaaParts
namespace Go.Proofs.Ytphglalphejppaa
open Go.RowKit
set_option linter.unusedVariables false
set_option linter.unusedSimpArgs false

theorem PR.apart {base go m co : Nat} {w w2 : World} {ps : List Pl} (h : PR base w (.slice (some ⟨go, 0, none⟩) m co) ps) (hg : w.grownBy w2 (some go)) : ∀ p ∈ ps, p.Ok (base ≤ ·) w2 := fun p hp => by
  have h1 := own_apart (h.2.1 p hp) hg (own_types h.1 (h.2.1 p hp) (by decide) rfl)
  obtain ⟨A2, c2, e2, k1, k2, -, k3⟩ := Rd.of_own h1 (by decide)
  unfold Pl.cell at e2
  injection e2 with a1 a2 a3
  subst a1 a3
  exact ⟨k3, k1, k2⟩
set_option maxHeartbeats 4000000 in
set_option maxRecDepth 100000 in
theorem law_orders (A : Option Addr) (l : List Int) (d : Nat) (w : World) (h : Rd (fun _ => True) w A (l.map (.int .u8))) (hc : l.length ≤ d) (hcm : d ≤ maxLen) (hx : ∀ x ∈ l, 0 ≤ x ∧ x ≤ 255) :
    Calls Try.prog 6 #[.slice A l.length d] w (TrueExt w) := by
  have HX := Lib.hid hx
  have HL := Lib.hid h
  clear hx h
  go_enter Try.func6, Try.ntmps6
  go_wp2_with (go_at_call 9; refine (awake_any _).mono ?_; rintro e w1 ⟨rfl, hg1⟩)
  refine (new_any A l d 500 _ (HL.out.grown hg1 (by simp)) hc hcm (by omega) HX.out).mono ?_
  rintro e w2 ⟨rfl, h2, hg2, hlt2⟩
  have G2 : Hid (w.grownBy w2 none) := only_trans hg1 hg2
  have hs2 := G2.out.size
  have hs1 := hg1.size
  generalize w1.heap.size = g at *
  clear HL HX hg1 hg2
  go_wp2_with fail
  refine (events_some g _ _ 5 _ h2 (by omega)).mono ?_
  rintro e w3 ⟨A3, c3, es, k3, rfl, hc3, hm3, hl3, hev, hsrt, hgood, h3, hg3⟩
  have G3 : Hid (w.grownBy w3 none) := only_fresh G2.out hg3 (by omega)
  have hs3 := hg3.size
  have KP := Lib.hid (parts_any g _ k3 A3 es c3 w3 h3 (hev.1.mono (fun b hb _ => by show b ≠ g; omega)) hsrt (by omega))
  clear hev hsrt hgood h3 hg3 h2 G2
  go_wp2_with fail
  refine KP.out.mono ?_
  rintro e w4 ⟨go, m, ps, rfl, hm1, hm4, hPS⟩
  have P4 := Lib.hid hPS
  obtain ⟨k4, h4⟩ := hPS.2.2.2.1
  have hs4 := hPS.2.2.2.2.size
  clear hPS KP
  go_wp2_with fail
  refine (events_some g _ _ 3 _ h4 (by omega)).mono ?_
  rintro e w5 ⟨A5, c5, fs, k5, rfl, hc5, hm5, hl5, hev5, hsrt5, -, h5, hg5⟩
  have P5 := Lib.hid (P4.out.next h5 hg5 (by omega))
  have hgo4 := (P4.out.2.1.1.lt go rfl).2
  have hgo3 := (P4.out.2.1.1.lt go rfl).1
  have hs5 := hg5.size
  have EV5 := Lib.hid hev5.1
  have SR5 := Lib.hid hsrt5
  have G5 : Hid (w.grownBy w5 none) := Lib.hid (only_fresh (only_fresh G3.out P4.out.2.2.2.2 (by omega)) hg5 (by omega))
  clear hev5 hsrt5 h5 hg5 h4 P4 G3
  have hrow := P5.out.2.1.1
  rw [P5.out.1] at hrow
  have HROW := Lib.hid hrow
  clear hrow
  go_wp2_with (at_builtin; refine wpList_append1 rfl _ _ 36 rfl w3.heap.size Try.underlying36 evsInfo rfl (by decide) (v := .slice (some ⟨go, 0, none⟩) m m) (by rfl) (w0 := w5) (cs := #[.slice A5 fs.length c5]) HROW.out (by rfl) rfl (by simp [Value.oneCell']) (by decide) (by omega) (by omega) ?_; intro v7 w7 hown7 hg7 hob7)
  have hg7' : w5.grownBy w7 (some go) := hg7
  obtain ⟨qs, hqs⟩ : ∃ qs : List Pl, qs = ps ++ [⟨fs, A5, c5⟩] := ⟨_, rfl⟩
  have hql : qs.length = m + 1 := by rw [hqs, List.length_append, P5.out.1]; rfl
  have hown8 : w7.ownsRow w3.heap.size 26 1 v7 (m + 1) (qs.map Pl.cell) := by
    rw [hqs, List.map_append]; exact hown7
  obtain ⟨A7, c7, rfl, hc7, hm7, -, hr7⟩ := Rd.of_own hown8 (by decide)
  have hok : ∀ p ∈ qs, p.Ok (fun _ => True) w7 := fun p hp => by
    rw [hqs] at hp
    rcases List.mem_append.1 hp with hp | hp
    · exact (P5.out.2.1.apart hg7' p hp).mono fun _ _ _ => trivial
    · rw [List.mem_singleton.1 hp]
      exact ⟨(EV5.out.grown hg7' (fun b hb e => by injection e; omega)).mono fun _ _ _ => trivial, hc5, hm5⟩
  have htot : (qs.map (·.evs)).flatten.length ≤ 90000 := by
    have h1 := P5.out.2.2.1.2.2
    rw [hqs, List.map_append, List.flatten_append, List.length_append]
    simp only [List.map_cons, List.map_nil, List.flatten_cons, List.flatten_nil, List.append_nil]
    omega
  have hkm := qmerge_any (S := fun _ => True) A7 qs c7 w7 (hr7.mono fun _ _ _ => trivial) hok (by omega) htot
  rw [hql] at hkm
  have KM := Lib.hid hkm
  have HASC : Hid (∀ l ∈ qs.map (·.evs), Asc l) := Lib.hid (fun l hl => by
    obtain ⟨p, hp, rfl⟩ := List.mem_map.1 hl
    rw [hqs] at hp
    rcases List.mem_append.1 hp with hp | hp
    · exact (P5.out.2.2.1.1 p hp).1
    · rw [List.mem_singleton.1 hp]; exact SR5.out.asc)
  have HTOT := Lib.hid htot
  have G7 : Hid (w.grownBy w7 none) := Lib.hid (only_fresh G5.out hg7' (by omega))
  clear hown7 hown8 hg7 hg7' hob7 hr7 HROW EV5 SR5 G5 P5 hkm hok htot hql hqs
  unfold maxLen at hm7 hm3 hm5
  refine KM.out.mono ?_
  rintro e w8 ⟨hg8, ⟨-, A8, c8, out, rfl, hmg, hol, hoc, hom, hro⟩ | ⟨⟨l9, hl9, hn9⟩, -⟩⟩
  · have G8 : Hid (w.grownBy w8 none) := Lib.hid (only_trans G7.out hg8)
    have RO := Lib.hid hro
    have SR := Lib.hid hmg.1
    have hol9 : out.length ≤ 90000 := Nat.le_trans hol HTOT.out
    unfold maxLen at hom
    clear hg8 hro hmg hol KM HASC HTOT G7
    go_wp2_with fail
    go_loopw [6] (fun i wr => ∃ k : Nat, i = .int .i64 ((k : Int) + 1) ∧ k ≤ out.length ∧ w8.grownBy wr none) (fun i _ => out.length + 1 - (intOf i).toNat)
    case atStart => exact ⟨0, rfl, Nat.zero_le _, only_refl _ _⟩
    case round =>
      obtain ⟨k, rfl, hk, hG⟩ := hrel
      have G := Lib.hid hG
      clear hG
      by_cases hlt : k + 1 < out.length
      · obtain ⟨b, off, rfl, -, -, -⟩ := RO.out (by rw [flat_len _ 10 Ev.cells_len]; omega)
        have hr := RO.out.grown G.out (by simp)
        obtain ⟨x, hx⟩ : ∃ x, out[k]'(by omega) = x := ⟨_, rfl⟩
        obtain ⟨y, hy⟩ : ∃ y, out[k + 1] = y := ⟨_, rfl⟩
        obtain ⟨d0, d1, d2, d3, d4, d5, d6, d7, d8, d9⟩ := Evs.load10 hr (by omega) hx
        obtain ⟨e0, e1, e2, e3, e4, e5, e6, e7, e8, e9⟩ := Evs.load10 hr hlt hy
        have hless : x.less y = true := by
          have := List.pairwise_iff_getElem.1 SR.out k (k + 1) (by omega) hlt (by omega)
          rw [hx, hy] at this; exact this
        have K : Hid (Calls Try.prog 19 #[.agg x.cells.toArray, .agg y.cells.toArray] wr.drew (BoolExt true wr.drew)) := Lib.hid (hless ▸ rless_any x y wr.drew)
        clear hr hx hy hless
        have i1 : (k : Int) + 1 < (out.length : Int) := by omega
        have i2 : (k : Int) < (out.length : Int) := by omega
        have w1 : IntKind.i64.wrap (k : Int) = (k : Int) := IntWalk.i64_in _ (by omega)
        have w2 : IntKind.i64.wrap ((k : Int) + 1 - 1) = (k : Int) := by rw [show (k : Int) + 1 - 1 = k by omega]; exact w1
        have n1 : (0 : Int) ≤ (k : Int) + 1 := by omega
        have n2 : ((k : Int) + 1).toNat = k + 1 := by omega
        have n3 : (0 : Int) ≤ (k : Int) := by omega
        go_upto_region 8 with fail
        go_still_tail 9, (by kernel_rfl)
        change wpList _ _ _ _ _ wr.drew
        clear d0 d1 d2 d3 d4 d5 d6 d7 d8 d9 e0 e1 e2 e3 e4 e5 e6 e7 e8 e9 w1 w2 n1 n2
        go_wp2_with (go_at_call 19; refine K.out.mono ?_; rintro e w2 ⟨rfl, hg2⟩)
        have G9 : Hid (w8.grownBy w2 none) := Lib.hid (only_trans (only_drew G.out) hg2)
        clear hg2
        go_roundw
        case rel => exact ⟨k + 1, by go_num, by omega, G9.out⟩
        case measure => simp [intOf]; omega
      · have i1 : ¬ ((k : Int) + 1 < (out.length : Int)) := by omega
        go_wp2_with fail
        go_ret
        exact ⟨rfl, only_trans G8.out G.out⟩
  · exact absurd (HASC.out l9 hl9) hn9
end Go.Proofs.Ytphglalphejppaa
