/- law31: CompactSplit: the walk of the law itself (printed by mk31t.py). Conditions: the table of kinds. -/
import Derived.Test.YtfbkkbbpgipipaaGreatDoorJSplL
import Derived.Test.YtfbkkbbpgipipaaGreatDoorJAwk31
import Derived.Test.YtfbkkbbpgipipaaGreatDoorJGenC
import Derived.Deep.DeepMust
import Derived.Deep.DeepCutAuto
namespace Go.Proofs.YtfbkkbbpgipipaaGreatDoor
open Go.RowKit
set_option linter.unusedVariables false
set_option linter.unusedSimpArgs false

theorem Rd.cellAt {S : Nat → Prop} {w : World} {b o : Nat} {xs : List Value} {v : Value} {k : Nat} (h : Rd S w (some ⟨b, o, none⟩) xs) (hk : xs[k]? = some v) : w.cell? ⟨b, o + k, none⟩ = some v := by
  obtain ⟨hlt, e⟩ := List.getElem?_eq_some_iff.1 hk
  obtain ⟨b', o', e', -, -, hc⟩ := h (by omega)
  injection e' with e'
  injection e' with e1 e2
  subst e1 e2
  exact hc k v hk
/-- what a Split gives, the number of pieces as a letter -/
def SplitQ (m : Nat) (es : List Ev) (w : World) (e : Ending) (w' : World) : Prop :=
  ∃ (A : Option Addr) (c : Nat) (ps : List Pc), e = .returned (.slice A m c) ∧ m ≤ c ∧ c ≤ maxLen ∧ ps.length = m ∧ (∀ (i : Nat) (p : List Ev), (chunks es)[i]? = some p → ∃ x : Pc, ps[i]? = some x ∧ x.evs = p) ∧ w.grownBy w' none ∧ Rd (fun _ => True) w' A (ps.map Pc.cell) ∧ ∀ p ∈ ps, Rd (fun _ => True) w' p.a (p.evs.flatMap Ev.cells)
theorem SplitP.q {es : List Ev} {w w' : World} {e : Ending} (h : SplitP es w e w') {m : Nat} (hm : m = (chunks es).length) : SplitQ m es w e w' := by
  obtain ⟨A, c, ps, rfl, h1, h2, h3, h4⟩ := h
  have hl : ps.length = m := by rw [hm, ← h3, List.length_map]
  obtain ⟨A', c', e', -, -, -, hr⟩ := Rd.of_own h4.own (by decide)
  injection e' with e1 e2 e3
  subst e1 e3
  refine ⟨A, c, ps, by rw [hl], by omega, h2, hl, fun i p hp => ?_, h4.fr, hr.mono (fun _ _ _ => trivial), fun p hp => (h4.pc p hp).2.2.mono (fun _ _ _ => trivial)⟩
  rw [← h3, List.getElem?_map] at hp
  obtain ⟨x, hx, e⟩ := Option.map_eq_some_iff.1 hp
  exact ⟨x, hx, e⟩
theorem flat_part (ls : List (List Ev)) (i : Nat) : (ls.take i).flatten.length ≤ ls.flatten.length := by
  have h : ls.flatten = (ls.take i).flatten ++ (ls.drop i).flatten := by rw [← List.flatten_append, List.take_append_drop]
  rw [h, List.length_append]; omega
theorem flat_next {ls : List (List Ev)} {i : Nat} {p : List Ev} (h : ls[i]? = some p) : (ls.take (i + 1)).flatten = (ls.take i).flatten ++ p := by
  obtain ⟨hlt, e⟩ := List.getElem?_eq_some_iff.1 h
  rw [List.take_succ_eq_append_getElem hlt, e, List.flatten_append]
  simp
theorem Mix.bdd {B : Int} {es : List Ev} (h : Mix B es) : Bdd es := fun e he => ⟨by have := (h.sc e he).1.1; omega, by have := (h.sc e he).1.2.2.2.1; omega⟩
set_option maxHeartbeats 16000000 in
set_option maxRecDepth 100000 in
theorem law_split (A0 : Option Addr) (l0 : List Int) (d0 : Nat) (mn : Int) (w : World) (hK : Kinds w) (h : Rd (fun _ => True) w A0 (l0.map (.int .u8))) (hc : l0.length ≤ d0) (hcm : d0 ≤ maxLen) (hx : ∀ x ∈ l0, 0 ≤ x ∧ x ≤ 255) (hm0 : 0 ≤ mn) (hm1 : mn ≤ 65535) :
    Calls Tryz.prog 3 #[.slice A0 l0.length d0, .int .u16 mn] w (TrueExt w) := by
  have HX := Lib.hid hx
  have HL := Lib.hid h
  have HK := Lib.hid hK
  obtain ⟨mm, rfl⟩ := Int.eq_ofNat_of_zero_le hm0
  have hm2 : mm ≤ 65535 := by omega
  obtain ⟨q, hq⟩ : ∃ q, q = mm % 600 := ⟨_, rfl⟩
  have hq1 : q ≤ 599 := by omega
  have HQ := Lib.hid hq
  clear hx h hK hm0 hm1 hq
  go_enter Tryz.func3, Tryz.ntmps3
  go_wp2_with (go_at_call 4; refine (awake_any _).mono ?_; rintro e w1 ⟨rfl, hg1⟩)
  refine (new_any A0 l0 d0 300 _ (HL.out.grown hg1 (by simp)) hc hcm (by omega) HX.out).mono ?_
  rintro e w2 ⟨rfl, h2, hg2, hlt2⟩
  have G2 : Hid (w.grownBy w2 none) := Lib.hid (only_trans hg1 hg2)
  have hs1 := hg1.size
  obtain ⟨g, hgg⟩ : ∃ g, g = w1.heap.size := ⟨_, rfl⟩
  rw [← hgg] at h2 hlt2 hs1 ⊢
  obtain ⟨l, hl⟩ : ∃ l, l = l0.take 300 := ⟨_, rfl⟩
  rw [← hl] at h2
  clear HL HX hg1 hg2 hl hgg
  go_wp2_with fail
  refine (events_own g l _ 6 _ h2 (by omega)).mono ?_
  rintro e w3 ⟨A3, c3, es3, k3, rfl, hc3, hm3, hl3, hev, hsrt, hgood, h3, hg3, N0, hN0, hown3, hsub3⟩
  have hl36 : es3.length ≤ 36 := by omega
  have I3 : Hid (LI w g l w2.heap.size (1000 + 3 * (es3.length : Int)) w3 A3 c3 es3) := Lib.hid (by
    refine ⟨⟨own_base hown3 hN0, fun e he => (hsub3 e he).mono (fun b hb _ => ⟨hb.1, fun e => by have := (hown3.lt b e).1; have := hb.2; omega⟩), (Mix.good hsrt hl36 hgood).up (Int.le_refl _)⟩, ⟨k3, h3⟩, only_fresh G2.out hg3 hs1, hg3.size⟩)
  obtain ⟨n0, hn0⟩ : ∃ n, n = w2.heap.size := ⟨_, rfl⟩
  rw [← hn0] at I3 hlt2
  clear hc3 hm3 hl3 hev hsrt hgood h3 hg3 hown3 hsub3 hN0 G2 h2 hn0
  go_upto_region 5 with fail
  go_cut [7] (fun v wx => v = .int .i64 (q : Int) ∧ wx = w3)
  case first =>
    clear I3
    go_wp2_with fail
    all_goals go_meet
    all_goals exact ⟨by have := HQ.out; congr 1 <;> omega, rfl⟩
  case rest =>
  obtain ⟨rfl, hwc⟩ := hcut
  subst hwc
  go_wp2_with fail
  go_loopw [6, 7] (fun vl vn wr => ∃ (A : Option Addr) (c : Nat) (es : List Ev) (n : Nat), vl = .slice A es.length c ∧ vn = .int .i64 (n : Int) ∧ es.length + n ≤ 635 ∧ LI w g l n0 (1000 + 3 * (es.length : Int)) wr A c es) (fun _ vn _ => (intOf vn).toNat)
  case atStart => exact ⟨A3, c3, es3, q, rfl, rfl, by omega, I3.out⟩
  case round =>
    obtain ⟨A, c, es, n, rfl, rfl, hn, hI⟩ := hrel
    have I := Lib.hid hI
    clear hI I3
    by_cases hz : n = 0
    · subst hz
      have z1 : ¬ ((0 : Int) < ((0 : Nat) : Int)) := by omega
      go_wp2_with fail
      have hq9 : es.length ≤ 635 := by omega
      go_wp2_with fail
      go_loopw [6, 9] (fun vl vn wx => ∃ (A : Option Addr) (c : Nat) (es : List Ev) (n : Nat), vl = .slice A es.length c ∧ vn = .int .i64 (n : Int) ∧ es.length + n ≤ 1234 ∧ LI w g l n0 (10000 + 3 * (es.length : Int)) wx A c es) (fun _ vn _ => (intOf vn).toNat)
      case atStart => exact ⟨A, c, es, q, rfl, (by have := HQ.out; congr 1 <;> omega), by omega, I.out.up (by omega)⟩
      case round =>
        obtain ⟨A5, c5, es5, n5, rfl, rfl, hn5, hI5⟩ := hrel
        have I5 := Lib.hid hI5
        clear hI5 I
        by_cases hz5 : n5 = 0
        · subst hz5
          have z5 : ¬ ((0 : Int) < ((0 : Nat) : Int)) := by omega
          obtain ⟨hev, hcc, hcm5⟩ := I5.out.1.evs
          have hmix := I5.out.1.2.2
          have hl5 : es5.length ≤ 1234 := by omega
          obtain ⟨W5, hW5⟩ : ∃ W, W = wr := ⟨_, rfl⟩
          have hsub : ∀ e ∈ es5, e.Sub (fun _ => True) wr := fun e he => (I5.out.1.2.1 e he).mono (fun _ _ _ => trivial)
          have hKr : Kinds wr := HK.out.grown I5.out.2.2.1 (by simp)
          obtain ⟨m, hm⟩ : ∃ m, m = (chunks es5).length := ⟨_, rfl⟩
          have KSP : Hid (Calls Tryz.prog 8 #[.slice A5 es5.length c5] wr (SplitQ m es5 wr)) := Lib.hid ((csplit_any A5 es5 c5 _ hev.1 hcc hcm5 (by omega) (fun p A' c' W hp h1 h2 hg hr => mix_scheck hmix hsub hKr p A' c' W hp h1 h2 hg hr)).mono (fun e w' h => h.q hm))
          have KRS : Hid (∀ W, (wr).grownBy W none → Calls Tryz.prog 9 #[.slice A5 es5.length c5] W (SplitQ m es5 W)) := Lib.hid (fun W hg => (rsplit_any A5 es5 c5 W (hev.1.grown hg (by simp)) hcc hcm5 (by omega) (fun p A' c' W' hp h1 h2 hg' hr => mix_rcheck hmix (fun e he => (hsub e he).grown hg (by simp)) p A' c' W' hp h1 h2 hg' hr)).mono (fun e w' h => h.q hm))
          have KRC : Hid (∀ (p : List Ev) (A' : Option Addr) (c' : Nat) (W : World), p.Sublist es5 → 1 ≤ p.length → p.length ≤ 256 → (wr).grownBy W none → Rd (fun _ => True) W A' (p.flatMap Ev.cells) → Calls Tryz.prog 11 #[.slice A' p.length c'] W (OkE W)) := Lib.hid (fun p A' c' W hp h1 h2 hg hr => mix_rcheck hmix hsub p A' c' W hp h1 h2 hg hr)
          have EVS : Hid (∀ W, (wr).grownBy W none → Evs (fun _ => True) W A5 es5) := Lib.hid (fun W hg => ⟨(hev.1.mono (fun _ _ _ => trivial)).grown hg (by simp), fun e he => (hsub e he).grown hg (by simp)⟩)
          have BD : Hid (Bdd es5) := Lib.hid hmix.bdd
          have GW : Hid (w.grownBy wr none) := Lib.hid I5.out.2.2.1
          have HM := Lib.hid hm
          unfold maxLen at hcm5
          clear hev hmix hsub hKr hm hW5 I5 W5
          go_wp2_with fail
          refine KSP.out.mono ?_
          rintro e w6 ⟨Ap, pc, ps, rfl, hpc, hpm, hpl, hpe, hpg, hpr, hpp⟩
          have RS6 := Lib.hid (KRS.out w6 hpg)
          have G56 := Lib.hid hpg
          have PSM := Lib.hid hpe
          have PR6 := Lib.hid hpr
          have PP6 := Lib.hid hpp
          clear hpe hpg hpr hpp KSP KRS
          go_wp2_with fail
          refine RS6.out.mono ?_
          rintro e w7 ⟨Ar, rc, rs, rfl, hrc, hrm, hrl, hre, hrg, hrr, hrp⟩
          have G57 := Lib.hid (only_trans G56.out hrg)
          have RSM := Lib.hid hre
          have PR : Hid (∀ W, w7.grownBy W none → Rd (fun _ => True) W Ap (ps.map Pc.cell)) := Lib.hid (fun W hg => (PR6.out.grown hrg (by simp)).grown hg (by simp))
          have PP : Hid (∀ W, w7.grownBy W none → ∀ p ∈ ps, Rd (fun _ => True) W p.a (p.evs.flatMap Ev.cells)) := Lib.hid (fun W hg p hp => ((PP6.out p hp).grown hrg (by simp)).grown hg (by simp))
          have RR : Hid (∀ W, w7.grownBy W none → Rd (fun _ => True) W Ar (rs.map Pc.cell)) := Lib.hid (fun W hg => hrr.grown hg (by simp))
          have RP : Hid (∀ W, w7.grownBy W none → ∀ p ∈ rs, Rd (fun _ => True) W p.a (p.evs.flatMap Ev.cells)) := Lib.hid (fun W hg p hp => (hrp p hp).grown hg (by simp))
          have HPL := Lib.hid hpl
          have HRL := Lib.hid hrl
          unfold maxLen at hpm hrm
          clear hre hrg hrr hrp RS6 PR6 PP6 G56 hpl hrl
          go_wp2_with fail
          go_loopw [13, 14] (fun va vi wx => ∃ (i : Nat) (xs : List Ev), vi = .int .i64 (i : Int) ∧ i ≤ m ∧ xs = ((chunks es5).take i).flatten ∧ wx.ownsRow w7.heap.size 35 10 va xs.length (xs.flatMap Ev.cells) ∧ w7.grownBy wx none) (fun _ vi _ => m - (intOf vi).toNat)
          case atStart => exact ⟨0, [], rfl, Nat.zero_le _, by simp, World.ownsRow_nil _ _ _ _, only_refl _ _⟩
          case round =>
            obtain ⟨i, xs, rfl, him, hxs, hA, hG⟩ := hrel
            obtain ⟨A8, c8, e8, hc8, hm8, -, hr8⟩ := Rd.of_own hA (by decide)
            subst e8
            have hxl : xs.length ≤ es5.length := by
              have h1 := flat_part (chunks es5) i
              rw [chunks_all, ← hxs] at h1
              exact h1
            have AL := Lib.hid hA
            have G6 := Lib.hid hG
            have XS := Lib.hid hxs
            have R8 := Lib.hid hr8
            unfold maxLen at hm8
            clear hA hG hxs hr8
            by_cases hlt : i < m
            · obtain ⟨p, hp⟩ : ∃ p, (chunks es5)[i]? = some p := ⟨_, List.getElem?_eq_getElem (by have := HM.out; omega)⟩
              obtain ⟨hn1, hn256, hsl⟩ := chunks_mem (List.mem_of_getElem? hp)
              obtain ⟨x, hx, hxe⟩ := PSM.out i p hp
              obtain ⟨y, hy, hye⟩ := RSM.out i p hp
              obtain ⟨xe, a1, c1⟩ := x
              obtain ⟨ye, a2, c2⟩ := y
              simp only at hxe hye
              subst hxe hye
              obtain ⟨pb, po, hAp, -⟩ := PR.out _ G6.out (by have := HPL.out; rw [List.length_map]; omega)
              obtain ⟨rb, ro, hAr, -⟩ := RR.out _ G6.out (by have := HRL.out; rw [List.length_map]; omega)
              subst hAp hAr
              obtain ⟨n, hn⟩ : ∃ n, n = ye.length := ⟨_, rfl⟩
              have j1 : (i : Int) < (m : Int) := by omega
              have j2 : (0 : Int) ≤ (i : Int) := by omega
              have hnlt : ¬ m ≤ i := by omega
              have SL := Lib.hid hsl
              have KPA : Hid (∀ W, wr.grownBy W none → W.cell? ⟨pb, po + i, none⟩ = some (.slice a1 n c1)) := Lib.hid (fun W hg => by rw [hn]; exact (PR.out W (only_trans G6.out hg)).cellAt (k := i) (by rw [List.getElem?_map, hx]; rfl))
              have KPB : Hid (∀ W, wr.grownBy W none → W.cell? ⟨rb, ro + i, none⟩ = some (.slice a2 n c2)) := Lib.hid (fun W hg => by rw [hn]; exact (RR.out W (only_trans G6.out hg)).cellAt (k := i) (by rw [List.getElem?_map, hy]; rfl))
              have RPC : Hid (∀ W, wr.grownBy W none → Rd (fun _ => True) W a1 (ye.flatMap Ev.cells)) := Lib.hid (fun W hg => PP.out W (only_trans G6.out hg) _ (List.mem_of_getElem? hx))
              have KS : Hid (∀ W, wr.grownBy W none → Calls Tryz.prog 10 #[.slice a1 n c1, .slice a2 n c2] W (BoolExt true W)) := Lib.hid (fun W hg => by
                have hev := EVS.out W (only_trans G57.out (only_trans G6.out hg))
                have := sameevents_true a1 a2 ye ye c1 c2 W ⟨RPC.out W hg, fun e he => hev.2 e (SL.out.subset he)⟩ ⟨RP.out W (only_trans G6.out hg) _ (List.mem_of_getElem? hy), fun e he => hev.2 e (SL.out.subset he)⟩ (EvsEq.refl ye) (fun e he => BD.out e (SL.out.subset he)) (by omega)
                rw [hn]; exact this)
              have KR : Hid (∀ W, wr.grownBy W none → Calls Tryz.prog 11 #[.slice a1 n c1] W (OkE W)) := Lib.hid (fun W hg => by
                rw [hn]
                exact KRC.out ye a1 c1 W SL.out hn1 hn256 (only_trans G57.out (only_trans G6.out hg)) (RPC.out W hg))
              have nz : ¬ n = 0 := by omega
              have n256 : ¬ 256 < n := by omega
              have n256b : (n : Int) ≤ 256 := by omega
              have HN := Lib.hid hn
              have HP := Lib.hid hp
              have hb5 : n ≤ 256 := by omega
              clear hn hp hx hy hsl hn1 hn256
              go_wp2_with fail
              refine wp_region_gen 34 (JC (some (.slice (some ⟨pb, po, none⟩) (m) (pc)) :: some (.int .i64 ((i : Int))) :: some (.pointer (some ⟨pb, po + i, none⟩)) :: some (.slice a1 n c1) :: some (.slice (some ⟨rb, ro, none⟩) (m) (rc)) :: some (.int .i64 ((i : Int))) :: some (.pointer (some ⟨rb, ro + i, none⟩)) :: some (.slice a2 n c2) :: some (.bool true) :: some (.bool false) :: some (.bool false) :: some (.slice (some ⟨pb, po, none⟩) (m) (pc)) :: some (.int .i64 ((i : Int))) :: some (.pointer (some ⟨pb, po + i, none⟩)) :: some (.slice a1 n c1) :: some (.int .i64 ((n : Int))) :: some (.bool false) :: some (.bool false) :: some (.bool false) :: some (.slice (some ⟨pb, po, none⟩) (m) (pc)) :: some (.int .i64 ((i : Int))) :: some (.pointer (some ⟨pb, po + i, none⟩)) :: some (.slice a1 n c1) :: some (.int .i64 ((n : Int))) :: some (.bool false) :: some (.bool false) :: some (.bool false) :: some (.slice (some ⟨pb, po, none⟩) (m) (pc)) :: some (.int .i64 ((i : Int))) :: some (.pointer (some ⟨pb, po + i, none⟩)) :: some (.slice a1 n c1) :: some (.int .i64 (0)) :: some (.bool false) :: some (.bool false) :: []) (fun D u wx => wr.grownBy wx none)) (by kernel_rfl) (by kernel_rfl) ?_ ?_ ?_
              · intro u
                exact ⟨(fun j c _ h => by cases h), only_drew (only_refl _ _)⟩
              · intro AA hA
                have hasz : AA.tmps.size = 126 := by rw [hA]; kernel_rfl
                have ea11 : AA.eval (.tmp 11) = .slice (some ⟨pb, po, none⟩) (m) (pc) := by rw [hA]; kernel_rfl
                have ea12 : AA.eval (.tmp 12) = .slice (some ⟨rb, ro, none⟩) (m) (rc) := by rw [hA]; kernel_rfl
                have ea14 : AA.eval (.tmp 14) = .int .i64 ((i : Int)) := by rw [hA]; kernel_rfl
                clear hA
                simp only [List.take_succ_cons, List.take_zero]
                refine .cons ?_ (.cons ?_ (.cons ?_ (.cons ?_ (.cons ?_ (.cons ?_ (.cons ?_ (.cons ?_ (.cons ?_ (.cons ?_ (.cons ?_ (.cons ?_ (.cons ?_ (.cons ?_ (.cons ?_ (.cons ?_ (.cons ?_ (.cons ?_ (.cons ?_ (.cons ?_ (.cons ?_ (.cons ?_ (.cons ?_ (.cons ?_ (.cons ?_ (.cons ?_ (.cons ?_ (.cons ?_ (.cons ?_ (.cons ?_ (.cons ?_ (.cons ?_ (.cons ?_ (.cons ?_ (.nil))))))))))))))))))))))))))))))))))
                · exact gd_gen (by kernel_rfl) (Want.none_ rfl) rfl (fun D u w v h => by simpa [updB, upd] using h) (fun D u ρ w kn => by
                    have e0 := kn.own 11 (c := .slice (some ⟨pb, po, none⟩) (m) (pc)) (by kernel_rfl) ea11
                    simp [execOp, kn.rho.con, e0, go_sem])
                · exact gd_gen (by kernel_rfl) (Want.none_ rfl) rfl (fun D u w v h => by simpa [updB, upd] using h) (fun D u ρ w kn => by
                    have e0 := kn.own 14 (c := .int .i64 ((i : Int))) (by kernel_rfl) ea14
                    simp [execOp, kn.rho.con, e0, go_sem])
                · exact gd_gen (by kernel_rfl) (Want.none_ rfl) rfl (fun D u w v h => by simpa [updB, upd] using h) (fun D u ρ w kn => by
                    have e0 := kn.con 0 83 (c := .slice (some ⟨pb, po, none⟩) (m) (pc)) (by kernel_rfl) (by omega) (by kernel_rfl) rfl
                    have e1 := kn.con 1 84 (c := .int .i64 ((i : Int))) (by kernel_rfl) (by omega) (by kernel_rfl) rfl
                    simp [execOp, kn.rho.con, e0, e1, go_sem, hnlt])
                · exact gd_gen (by kernel_rfl) (Want.none_ rfl) rfl (fun D u w v h => by simpa [updB, upd] using h) (fun D u ρ w kn => by
                    have e0 := kn.con 2 85 (c := .pointer (some ⟨pb, po + i, none⟩)) (by kernel_rfl) (by omega) (by kernel_rfl) rfl
                    have f0 := KPA.out w kn.ext
                    simp [execOp, kn.rho.con, e0, f0, go_sem])
                · exact gd_gen (by kernel_rfl) (Want.none_ rfl) rfl (fun D u w v h => by simpa [updB, upd] using h) (fun D u ρ w kn => by
                    have e0 := kn.own 12 (c := .slice (some ⟨rb, ro, none⟩) (m) (rc)) (by kernel_rfl) ea12
                    simp [execOp, kn.rho.con, e0, go_sem])
                · exact gd_gen (by kernel_rfl) (Want.none_ rfl) rfl (fun D u w v h => by simpa [updB, upd] using h) (fun D u ρ w kn => by
                    have e0 := kn.own 14 (c := .int .i64 ((i : Int))) (by kernel_rfl) ea14
                    simp [execOp, kn.rho.con, e0, go_sem])
                · exact gd_gen (by kernel_rfl) (Want.none_ rfl) rfl (fun D u w v h => by simpa [updB, upd] using h) (fun D u ρ w kn => by
                    have e0 := kn.con 4 87 (c := .slice (some ⟨rb, ro, none⟩) (m) (rc)) (by kernel_rfl) (by omega) (by kernel_rfl) rfl
                    have e1 := kn.con 5 88 (c := .int .i64 ((i : Int))) (by kernel_rfl) (by omega) (by kernel_rfl) rfl
                    simp [execOp, kn.rho.con, e0, e1, go_sem, hnlt])
                · exact gd_gen (by kernel_rfl) (Want.none_ rfl) rfl (fun D u w v h => by simpa [updB, upd] using h) (fun D u ρ w kn => by
                    have e0 := kn.con 6 89 (c := .pointer (some ⟨rb, ro + i, none⟩)) (by kernel_rfl) (by omega) (by kernel_rfl) rfl
                    have f0 := KPB.out w kn.ext
                    simp [execOp, kn.rho.con, e0, f0, go_sem])
                · refine gd_call (by kernel_rfl) (Want.none_ rfl) 10 (fun D u ρ wx kn hD => ?_)
                  have e0 := kn.con 3 86 (c := .slice a1 n c1) (by kernel_rfl) (by omega) (by kernel_rfl) rfl
                  have e1 := kn.con 7 90 (c := .slice a2 n c2) (by kernel_rfl) (by omega) (by kernel_rfl) rfl
                  refine ⟨#[.slice a1 n c1, .slice a2 n c2], ?_, (KS.out wx kn.ext).mono ?_⟩
                  · simp only [execOp, resolve, Deferred.ofValue, List.map_toArray, List.map_cons, List.map_nil, e0, e1, kn.rho.con, kn.rho.fn]
                    simp [go_sem]
                  · rintro e w' ⟨rfl, hg⟩
                    exact ⟨_, rfl, (fun c h => by injection h with h; injection h), only_trans kn.ext hg⟩
                · exact gd_gen (by kernel_rfl) (Want.none_ rfl) rfl (fun D u w v h => by simpa [updB, upd] using h) (fun D u ρ w kn => by
                    have e0 := kn.con 8 91 (c := .bool true) (by kernel_rfl) (by omega) (by kernel_rfl) rfl
                    simp [execOp, kn.rho.con, e0, go_sem])
                · exact gd_gen (by kernel_rfl) (Want.none_ rfl) rfl (fun D u w v h => by simpa [updB, upd] using h) (fun D u ρ w kn => by
                    have e0 := kn.con 9 92 (c := .bool false) (by kernel_rfl) (by omega) (by kernel_rfl) rfl
                    simp [execOp, kn.rho.con, e0, go_sem])
                · exact gd_gen (by kernel_rfl) (Want.some_ (g := 10) (v := false) rfl rfl (by kernel_rfl) (by omega) rfl rfl (by kernel_rfl)) rfl (fun D u w v h => by simpa [updB, upd] using h) (fun D u ρ w kn => by
                    have e0 := kn.own 11 (c := .slice (some ⟨pb, po, none⟩) (m) (pc)) (by kernel_rfl) ea11
                    simp [execOp, kn.rho.con, e0, go_sem])
                · exact gd_gen (by kernel_rfl) (Want.some_ (g := 10) (v := false) rfl rfl (by kernel_rfl) (by omega) rfl rfl (by kernel_rfl)) rfl (fun D u w v h => by simpa [updB, upd] using h) (fun D u ρ w kn => by
                    have e0 := kn.own 14 (c := .int .i64 ((i : Int))) (by kernel_rfl) ea14
                    simp [execOp, kn.rho.con, e0, go_sem])
                · exact gd_gen (by kernel_rfl) (Want.some_ (g := 10) (v := false) rfl rfl (by kernel_rfl) (by omega) rfl rfl (by kernel_rfl)) rfl (fun D u w v h => by simpa [updB, upd] using h) (fun D u ρ w kn => by
                    have e0 := kn.con 11 94 (c := .slice (some ⟨pb, po, none⟩) (m) (pc)) (by kernel_rfl) (by omega) (by kernel_rfl) rfl
                    have e1 := kn.con 12 95 (c := .int .i64 ((i : Int))) (by kernel_rfl) (by omega) (by kernel_rfl) rfl
                    simp [execOp, kn.rho.con, e0, e1, go_sem, hnlt])
                · exact gd_gen (by kernel_rfl) (Want.some_ (g := 10) (v := false) rfl rfl (by kernel_rfl) (by omega) rfl rfl (by kernel_rfl)) rfl (fun D u w v h => by simpa [updB, upd] using h) (fun D u ρ w kn => by
                    have e0 := kn.con 13 96 (c := .pointer (some ⟨pb, po + i, none⟩)) (by kernel_rfl) (by omega) (by kernel_rfl) rfl
                    have f0 := KPA.out w kn.ext
                    simp [execOp, kn.rho.con, e0, f0, go_sem])
                · exact gd_gen (by kernel_rfl) (Want.some_ (g := 10) (v := false) rfl rfl (by kernel_rfl) (by omega) rfl rfl (by kernel_rfl)) rfl (fun D u w v h => by simpa [updB, upd] using h) (fun D u ρ w kn => by
                    have e0 := kn.con 14 97 (c := .slice a1 n c1) (by kernel_rfl) (by omega) (by kernel_rfl) rfl
                    simp [execOp, kn.rho.con, e0, go_sem])
                · exact gd_gen (by kernel_rfl) (Want.some_ (g := 10) (v := false) rfl rfl (by kernel_rfl) (by omega) rfl rfl (by kernel_rfl)) rfl (fun D u w v h => by simpa [updB, upd] using h) (fun D u ρ w kn => by
                    have e0 := kn.con 15 98 (c := .int .i64 ((n : Int))) (by kernel_rfl) (by omega) (by kernel_rfl) rfl
                    simp [execOp, kn.rho.con, e0, go_sem, nz])
                · exact gd_gen (by kernel_rfl) (Want.none_ rfl) rfl (fun D u w v h => by simpa [updB, upd] using h) (fun D u ρ w kn => by
                    have e0 := kn.con 10 93 (c := .bool false) (by kernel_rfl) (by omega) (by kernel_rfl) rfl
                    have e1 := kn.con 16 99 (c := .bool false) (by kernel_rfl) (by omega) (by kernel_rfl) rfl
                    simp [execOp, kn.rho.con, e0, e1, go_sem])
                · exact gd_gen (by kernel_rfl) (Want.none_ rfl) rfl (fun D u w v h => by simpa [updB, upd] using h) (fun D u ρ w kn => by
                    have e0 := kn.con 17 100 (c := .bool false) (by kernel_rfl) (by omega) (by kernel_rfl) rfl
                    simp [execOp, kn.rho.con, e0, go_sem])
                · exact gd_gen (by kernel_rfl) (Want.some_ (g := 18) (v := false) rfl rfl (by kernel_rfl) (by omega) rfl rfl (by kernel_rfl)) rfl (fun D u w v h => by simpa [updB, upd] using h) (fun D u ρ w kn => by
                    have e0 := kn.own 11 (c := .slice (some ⟨pb, po, none⟩) (m) (pc)) (by kernel_rfl) ea11
                    simp [execOp, kn.rho.con, e0, go_sem])
                · exact gd_gen (by kernel_rfl) (Want.some_ (g := 18) (v := false) rfl rfl (by kernel_rfl) (by omega) rfl rfl (by kernel_rfl)) rfl (fun D u w v h => by simpa [updB, upd] using h) (fun D u ρ w kn => by
                    have e0 := kn.own 14 (c := .int .i64 ((i : Int))) (by kernel_rfl) ea14
                    simp [execOp, kn.rho.con, e0, go_sem])
                · exact gd_gen (by kernel_rfl) (Want.some_ (g := 18) (v := false) rfl rfl (by kernel_rfl) (by omega) rfl rfl (by kernel_rfl)) rfl (fun D u w v h => by simpa [updB, upd] using h) (fun D u ρ w kn => by
                    have e0 := kn.con 19 102 (c := .slice (some ⟨pb, po, none⟩) (m) (pc)) (by kernel_rfl) (by omega) (by kernel_rfl) rfl
                    have e1 := kn.con 20 103 (c := .int .i64 ((i : Int))) (by kernel_rfl) (by omega) (by kernel_rfl) rfl
                    simp [execOp, kn.rho.con, e0, e1, go_sem, hnlt])
                · exact gd_gen (by kernel_rfl) (Want.some_ (g := 18) (v := false) rfl rfl (by kernel_rfl) (by omega) rfl rfl (by kernel_rfl)) rfl (fun D u w v h => by simpa [updB, upd] using h) (fun D u ρ w kn => by
                    have e0 := kn.con 21 104 (c := .pointer (some ⟨pb, po + i, none⟩)) (by kernel_rfl) (by omega) (by kernel_rfl) rfl
                    have f0 := KPA.out w kn.ext
                    simp [execOp, kn.rho.con, e0, f0, go_sem])
                · exact gd_gen (by kernel_rfl) (Want.some_ (g := 18) (v := false) rfl rfl (by kernel_rfl) (by omega) rfl rfl (by kernel_rfl)) rfl (fun D u w v h => by simpa [updB, upd] using h) (fun D u ρ w kn => by
                    have e0 := kn.con 22 105 (c := .slice a1 n c1) (by kernel_rfl) (by omega) (by kernel_rfl) rfl
                    simp [execOp, kn.rho.con, e0, go_sem])
                · exact gd_gen (by kernel_rfl) (Want.some_ (g := 18) (v := false) rfl rfl (by kernel_rfl) (by omega) rfl rfl (by kernel_rfl)) rfl (fun D u w v h => by simpa [updB, upd] using h) (fun D u ρ w kn => by
                    have e0 := kn.con 23 106 (c := .int .i64 ((n : Int))) (by kernel_rfl) (by omega) (by kernel_rfl) rfl
                    simp [execOp, kn.rho.con, e0, go_sem, n256b])
                · exact gd_gen (by kernel_rfl) (Want.none_ rfl) rfl (fun D u w v h => by simpa [updB, upd] using h) (fun D u ρ w kn => by
                    have e0 := kn.con 18 101 (c := .bool false) (by kernel_rfl) (by omega) (by kernel_rfl) rfl
                    have e1 := kn.con 24 107 (c := .bool false) (by kernel_rfl) (by omega) (by kernel_rfl) rfl
                    simp [execOp, kn.rho.con, e0, e1, go_sem])
                · exact gd_gen (by kernel_rfl) (Want.none_ rfl) rfl (fun D u w v h => by simpa [updB, upd] using h) (fun D u ρ w kn => by
                    have e0 := kn.con 25 108 (c := .bool false) (by kernel_rfl) (by omega) (by kernel_rfl) rfl
                    simp [execOp, kn.rho.con, e0, go_sem])
                · exact gd_gen (by kernel_rfl) (Want.some_ (g := 26) (v := false) rfl rfl (by kernel_rfl) (by omega) rfl rfl (by kernel_rfl)) rfl (fun D u w v h => by simpa [updB, upd] using h) (fun D u ρ w kn => by
                    have e0 := kn.own 11 (c := .slice (some ⟨pb, po, none⟩) (m) (pc)) (by kernel_rfl) ea11
                    simp [execOp, kn.rho.con, e0, go_sem])
                · exact gd_gen (by kernel_rfl) (Want.some_ (g := 26) (v := false) rfl rfl (by kernel_rfl) (by omega) rfl rfl (by kernel_rfl)) rfl (fun D u w v h => by simpa [updB, upd] using h) (fun D u ρ w kn => by
                    have e0 := kn.own 14 (c := .int .i64 ((i : Int))) (by kernel_rfl) ea14
                    simp [execOp, kn.rho.con, e0, go_sem])
                · exact gd_gen (by kernel_rfl) (Want.some_ (g := 26) (v := false) rfl rfl (by kernel_rfl) (by omega) rfl rfl (by kernel_rfl)) rfl (fun D u w v h => by simpa [updB, upd] using h) (fun D u ρ w kn => by
                    have e0 := kn.con 27 110 (c := .slice (some ⟨pb, po, none⟩) (m) (pc)) (by kernel_rfl) (by omega) (by kernel_rfl) rfl
                    have e1 := kn.con 28 111 (c := .int .i64 ((i : Int))) (by kernel_rfl) (by omega) (by kernel_rfl) rfl
                    simp [execOp, kn.rho.con, e0, e1, go_sem, hnlt])
                · exact gd_gen (by kernel_rfl) (Want.some_ (g := 26) (v := false) rfl rfl (by kernel_rfl) (by omega) rfl rfl (by kernel_rfl)) rfl (fun D u w v h => by simpa [updB, upd] using h) (fun D u ρ w kn => by
                    have e0 := kn.con 29 112 (c := .pointer (some ⟨pb, po + i, none⟩)) (by kernel_rfl) (by omega) (by kernel_rfl) rfl
                    have f0 := KPA.out w kn.ext
                    simp [execOp, kn.rho.con, e0, f0, go_sem])
                · refine gd_call (by kernel_rfl) (Want.some_ (g := 26) (v := false) rfl rfl (by kernel_rfl) (by omega) rfl rfl (by kernel_rfl)) 11 (fun D u ρ wx kn hD => ?_)
                  have e0 := kn.con 30 113 (c := .slice a1 n c1) (by kernel_rfl) (by omega) (by kernel_rfl) rfl
                  refine ⟨#[.slice a1 n c1], ?_, (KR.out wx kn.ext).mono ?_⟩
                  · simp only [execOp, resolve, Deferred.ofValue, List.map_toArray, List.map_cons, List.map_nil, e0, kn.rho.con, kn.rho.fn]
                    simp [go_sem]
                  · rintro e w' ⟨rfl, hg⟩
                    exact ⟨_, rfl, (fun c h => by injection h with h; injection h), only_trans kn.ext hg⟩
                · exact gd_gen (by kernel_rfl) (Want.some_ (g := 26) (v := false) rfl rfl (by kernel_rfl) (by omega) rfl rfl (by kernel_rfl)) rfl (fun D u w v h => by simpa [updB, upd] using h) (fun D u ρ w kn => by
                    have e0 := kn.con 31 114 (c := .int .i64 (0)) (by kernel_rfl) (by omega) (by kernel_rfl) rfl
                    simp [execOp, kn.rho.con, e0, go_sem])
                · exact gd_gen (by kernel_rfl) (Want.none_ rfl) rfl (fun D u w v h => by simpa [updB, upd] using h) (fun D u ρ w kn => by
                    have e0 := kn.con 26 109 (c := .bool false) (by kernel_rfl) (by omega) (by kernel_rfl) rfl
                    have e1 := kn.con 32 115 (c := .bool false) (by kernel_rfl) (by omega) (by kernel_rfl) rfl
                    simp [execOp, kn.rho.con, e0, e1, go_sem])
              · intro D u w9 hJ hD
                simp only [List.take_succ_cons, List.take_zero, List.drop_succ_cons, List.drop_zero, putAll]
                have hcn := hJ.1
                have x1 := hJ.2
                have e33 : u 33 = .bool false := hcn 33 _ rfl (hD 33 (by omega))
                rw [e33]
                have A9 : Hid _ := Lib.hid (own_ext AL.out x1)
                have G9 := Lib.hid (only_trans G6.out x1)
                have c9 := KPA.out w9 x1
                have G9s := G9.out.size
                have X9 := Lib.hid (RPC.out w9 x1)
                clear hJ hcn x1 e33 hD AL G6 KS KR KPB
                go_simp
                go_wp2_with (at_builtin; go_must (refine wpList_appendN rfl _ _ 27 rfl w7.heap.size Tryz.underlying27 eventInfo rfl (by decide) (v := .slice A8 xs.length c8) (by rfl) A9.out a1 n c1 (by rfl) X9.out (by rw [flat_len _ 10 Ev.cells_len, HN.out]) (flat_one Ev.one _) (by decide) (by omega) (by have := G9s; omega) ?_); intro v10 w10 hown10 hg10 hob10; have O10 : Hid (w10.ownsRow w7.heap.size 35 10 v10 (xs ++ ye).length ((xs ++ ye).flatMap Ev.cells)) := Lib.hid (by rw [List.length_append, List.flatMap_append, ← HN.out]; exact hown10); have G10 := Lib.hid (only_own G9.out hg10 A9.out (Nat.le_refl _)); clear hown10 hg10 hob10)
                clear A9 G9 X9 c9
                go_roundw
                case rel => exact ⟨i + 1, xs ++ ye, by go_num, by omega, by rw [XS.out]; exact (flat_next HP.out).symm, O10.out, G10.out⟩
                case measure => simp [intOf]; omega
            · obtain rfl : i = m := by omega
              have he5 : xs = es5 := by rw [XS.out, List.take_of_length_le (by have := HM.out; omega), chunks_all]
              have j1 : ¬ ((i : Int) < (i : Int)) := by omega
              have KF : Hid (Calls Tryz.prog 10 #[.slice A8 xs.length c8, .slice A5 es5.length c5] wr (BoolExt true wr)) := Lib.hid (by
                have hev := EVS.out wr (only_trans G57.out G6.out)
                refine sameevents_true (S := fun _ => True) A8 A5 xs es5 c8 c5 wr ⟨R8.out.mono (fun _ _ _ => trivial), ?_⟩ hev (by rw [he5]; exact EvsEq.refl _) (by rw [he5]; exact BD.out) (by omega)
                rw [he5]
                exact hev.2)
              clear he5
              go_wp2_with fail
              refine KF.out.mono ?_
              rintro e w12 ⟨rfl, hg12⟩
              have G12 := Lib.hid (only_trans GW.out (only_trans G57.out (only_trans G6.out hg12)))
              clear hg12
              go_wp2_with fail
              go_ret
              exact ⟨rfl, G12.out⟩
        · obtain ⟨n5, rfl⟩ : ∃ n', n5 = n' + 1 := ⟨n5 - 1, by omega⟩
          have z5 : (0 : Int) < ((n5 + 1 : Nat) : Int) := by omega
          obtain ⟨at_, hat⟩ : ∃ a : Int, a = 10000 + (es5.length : Int) * 3 := ⟨_, rfl⟩
          have HAT := Lib.hid hat
          have k9 := I5.out.2.2.2
          have O5 := Lib.hid I5.out.1.1
          have hat0 : 0 ≤ at_ := by omega
          have hat1 : at_ ≤ 50000 := by omega
          clear hat
          go_upto_region 14 with fail
          rw [← HAT.out]
          go_wp2_with (at_builtin; go_must (refine wpList_append1h rfl _ _ 27 rfl n0 Tryz.underlying27 eventInfo rfl (by decide) (v := .slice A5 es5.length c5) (by rfl) (w0 := wr.alloc (.cells #[.int .i64 at_, .int .i64 2, .string ⟨#[120]⟩] 31)) (cs := (shortE at_ (some ⟨wr.heap.size, 0, none⟩) 1).cells.toArray) (O5.out.alloc _) (wr.heap.size + 1) (by simp) (by rfl) rfl (by simpa using Ev.one (shortE at_ (some ⟨wr.heap.size, 0, none⟩) 1)) (by decide) (by omega) (by omega) ?_); intro v8 w8 hown8 hg8 hob8; obtain ⟨A8, c8, rfl, I8⟩ := I5.out.app hlt2 hs1 (by have := HAT.out; omega) hat0 hat1 (by simpa using hown8) hg8 hob8; have J8 := Lib.hid I8; clear hown8 hg8 hob8 I8)
          clear I5 O5 k9
          go_roundw
          case rel => exact ⟨A8, c8, es5 ++ [shortE at_ (some ⟨wr.heap.size, 0, none⟩) 1], n5, by simp, by go_num, by simp; omega, J8.out.up (by have := HAT.out; simp; omega)⟩
          case measure => simp [intOf]
    · obtain ⟨n, rfl⟩ : ∃ n', n = n' + 1 := ⟨n - 1, by omega⟩
      have z1 : (0 : Int) < ((n + 1 : Nat) : Int) := by omega
      obtain ⟨k1, h1⟩ := I.out.2.1
      go_wp2_with fail
      refine (next_some g l k1 2 _ h1 (by omega) (by omega)).mono ?_
      rintro e w4 ⟨v4, k4, rfl, hv4, h4, hg4⟩
      have I4 := Lib.hid (I.out.next hg4 h4 hlt2 hs1)
      clear h1 h4 hg4 I
      by_cases hv1 : v4 = 1
      · subst hv1
        obtain ⟨at_, hat⟩ : ∃ a : Int, a = 1000 + (es.length : Int) * 3 := ⟨_, rfl⟩
        have HAT := Lib.hid hat
        have k9 := I4.out.2.2.2
        have O4 := Lib.hid I4.out.1.1
        have hat0 : 0 ≤ at_ := by omega
        have hat1 : at_ ≤ 50000 := by omega
        clear hat
        go_upto_region 9 with fail
        rw [← HAT.out]
        go_wp2_with (at_builtin; go_must (refine wpList_append1h rfl _ _ 27 rfl n0 Tryz.underlying27 eventInfo rfl (by decide) (v := .slice A es.length c) (by rfl) (w0 := w4.alloc (.cells #[.int .i64 at_, .int .i64 2, .string ⟨#[120]⟩] 31)) (cs := (shortE at_ (some ⟨w4.heap.size, 0, none⟩) 1).cells.toArray) (O4.out.alloc _) (w4.heap.size + 1) (by simp) (by rfl) rfl (by simpa using Ev.one (shortE at_ (some ⟨w4.heap.size, 0, none⟩) 1)) (by decide) (by omega) (by omega) ?_); intro v8 w8 hown8 hg8 hob8; obtain ⟨A8, c8, rfl, I8⟩ := I4.out.app hlt2 hs1 (by have := HAT.out; omega) hat0 hat1 (by simpa using hown8) hg8 hob8; have J8 := Lib.hid I8; clear hown8 hg8 hob8 I8)
        clear I4 O4 k9
        go_roundw
        case rel => exact ⟨A8, c8, es ++ [shortE at_ (some ⟨w4.heap.size, 0, none⟩) 1], n, by simp, by go_num, by simp; omega, J8.out.up (by have := HAT.out; simp; omega)⟩
        case measure => simp [intOf]
      · obtain rfl : v4 = 0 := by omega
        clear hv1
        go_wp2_with fail
        have hq9 : es.length ≤ 635 := by omega
        go_wp2_with fail
        go_loopw [6, 9] (fun vl vn wx => ∃ (A : Option Addr) (c : Nat) (es : List Ev) (n : Nat), vl = .slice A es.length c ∧ vn = .int .i64 (n : Int) ∧ es.length + n ≤ 1234 ∧ LI w g l n0 (10000 + 3 * (es.length : Int)) wx A c es) (fun _ vn _ => (intOf vn).toNat)
        case atStart => exact ⟨A, c, es, q, rfl, (by have := HQ.out; congr 1 <;> omega), by omega, I4.out.up (by omega)⟩
        case round =>
          obtain ⟨A5, c5, es5, n5, rfl, rfl, hn5, hI5⟩ := hrel
          have I5 := Lib.hid hI5
          clear hI5 I4
          by_cases hz5 : n5 = 0
          · subst hz5
            have z5 : ¬ ((0 : Int) < ((0 : Nat) : Int)) := by omega
            obtain ⟨hev, hcc, hcm5⟩ := I5.out.1.evs
            have hmix := I5.out.1.2.2
            have hl5 : es5.length ≤ 1234 := by omega
            obtain ⟨W5, hW5⟩ : ∃ W, W = wr := ⟨_, rfl⟩
            have hsub : ∀ e ∈ es5, e.Sub (fun _ => True) wr := fun e he => (I5.out.1.2.1 e he).mono (fun _ _ _ => trivial)
            have hKr : Kinds wr := HK.out.grown I5.out.2.2.1 (by simp)
            obtain ⟨m, hm⟩ : ∃ m, m = (chunks es5).length := ⟨_, rfl⟩
            have KSP : Hid (Calls Tryz.prog 8 #[.slice A5 es5.length c5] wr (SplitQ m es5 wr)) := Lib.hid ((csplit_any A5 es5 c5 _ hev.1 hcc hcm5 (by omega) (fun p A' c' W hp h1 h2 hg hr => mix_scheck hmix hsub hKr p A' c' W hp h1 h2 hg hr)).mono (fun e w' h => h.q hm))
            have KRS : Hid (∀ W, (wr).grownBy W none → Calls Tryz.prog 9 #[.slice A5 es5.length c5] W (SplitQ m es5 W)) := Lib.hid (fun W hg => (rsplit_any A5 es5 c5 W (hev.1.grown hg (by simp)) hcc hcm5 (by omega) (fun p A' c' W' hp h1 h2 hg' hr => mix_rcheck hmix (fun e he => (hsub e he).grown hg (by simp)) p A' c' W' hp h1 h2 hg' hr)).mono (fun e w' h => h.q hm))
            have KRC : Hid (∀ (p : List Ev) (A' : Option Addr) (c' : Nat) (W : World), p.Sublist es5 → 1 ≤ p.length → p.length ≤ 256 → (wr).grownBy W none → Rd (fun _ => True) W A' (p.flatMap Ev.cells) → Calls Tryz.prog 11 #[.slice A' p.length c'] W (OkE W)) := Lib.hid (fun p A' c' W hp h1 h2 hg hr => mix_rcheck hmix hsub p A' c' W hp h1 h2 hg hr)
            have EVS : Hid (∀ W, (wr).grownBy W none → Evs (fun _ => True) W A5 es5) := Lib.hid (fun W hg => ⟨(hev.1.mono (fun _ _ _ => trivial)).grown hg (by simp), fun e he => (hsub e he).grown hg (by simp)⟩)
            have BD : Hid (Bdd es5) := Lib.hid hmix.bdd
            have GW : Hid (w.grownBy wr none) := Lib.hid I5.out.2.2.1
            have HM := Lib.hid hm
            unfold maxLen at hcm5
            clear hev hmix hsub hKr hm hW5 I5 W5
            go_wp2_with fail
            refine KSP.out.mono ?_
            rintro e w6 ⟨Ap, pc, ps, rfl, hpc, hpm, hpl, hpe, hpg, hpr, hpp⟩
            have RS6 := Lib.hid (KRS.out w6 hpg)
            have G56 := Lib.hid hpg
            have PSM := Lib.hid hpe
            have PR6 := Lib.hid hpr
            have PP6 := Lib.hid hpp
            clear hpe hpg hpr hpp KSP KRS
            go_wp2_with fail
            refine RS6.out.mono ?_
            rintro e w7 ⟨Ar, rc, rs, rfl, hrc, hrm, hrl, hre, hrg, hrr, hrp⟩
            have G57 := Lib.hid (only_trans G56.out hrg)
            have RSM := Lib.hid hre
            have PR : Hid (∀ W, w7.grownBy W none → Rd (fun _ => True) W Ap (ps.map Pc.cell)) := Lib.hid (fun W hg => (PR6.out.grown hrg (by simp)).grown hg (by simp))
            have PP : Hid (∀ W, w7.grownBy W none → ∀ p ∈ ps, Rd (fun _ => True) W p.a (p.evs.flatMap Ev.cells)) := Lib.hid (fun W hg p hp => ((PP6.out p hp).grown hrg (by simp)).grown hg (by simp))
            have RR : Hid (∀ W, w7.grownBy W none → Rd (fun _ => True) W Ar (rs.map Pc.cell)) := Lib.hid (fun W hg => hrr.grown hg (by simp))
            have RP : Hid (∀ W, w7.grownBy W none → ∀ p ∈ rs, Rd (fun _ => True) W p.a (p.evs.flatMap Ev.cells)) := Lib.hid (fun W hg p hp => (hrp p hp).grown hg (by simp))
            have HPL := Lib.hid hpl
            have HRL := Lib.hid hrl
            unfold maxLen at hpm hrm
            clear hre hrg hrr hrp RS6 PR6 PP6 G56 hpl hrl
            go_wp2_with fail
            go_loopw [13, 14] (fun va vi wx => ∃ (i : Nat) (xs : List Ev), vi = .int .i64 (i : Int) ∧ i ≤ m ∧ xs = ((chunks es5).take i).flatten ∧ wx.ownsRow w7.heap.size 35 10 va xs.length (xs.flatMap Ev.cells) ∧ w7.grownBy wx none) (fun _ vi _ => m - (intOf vi).toNat)
            case atStart => exact ⟨0, [], rfl, Nat.zero_le _, by simp, World.ownsRow_nil _ _ _ _, only_refl _ _⟩
            case round =>
              obtain ⟨i, xs, rfl, him, hxs, hA, hG⟩ := hrel
              obtain ⟨A8, c8, e8, hc8, hm8, -, hr8⟩ := Rd.of_own hA (by decide)
              subst e8
              have hxl : xs.length ≤ es5.length := by
                have h1 := flat_part (chunks es5) i
                rw [chunks_all, ← hxs] at h1
                exact h1
              have AL := Lib.hid hA
              have G6 := Lib.hid hG
              have XS := Lib.hid hxs
              have R8 := Lib.hid hr8
              unfold maxLen at hm8
              clear hA hG hxs hr8
              by_cases hlt : i < m
              · obtain ⟨p, hp⟩ : ∃ p, (chunks es5)[i]? = some p := ⟨_, List.getElem?_eq_getElem (by have := HM.out; omega)⟩
                obtain ⟨hn1, hn256, hsl⟩ := chunks_mem (List.mem_of_getElem? hp)
                obtain ⟨x, hx, hxe⟩ := PSM.out i p hp
                obtain ⟨y, hy, hye⟩ := RSM.out i p hp
                obtain ⟨xe, a1, c1⟩ := x
                obtain ⟨ye, a2, c2⟩ := y
                simp only at hxe hye
                subst hxe hye
                obtain ⟨pb, po, hAp, -⟩ := PR.out _ G6.out (by have := HPL.out; rw [List.length_map]; omega)
                obtain ⟨rb, ro, hAr, -⟩ := RR.out _ G6.out (by have := HRL.out; rw [List.length_map]; omega)
                subst hAp hAr
                obtain ⟨n, hn⟩ : ∃ n, n = ye.length := ⟨_, rfl⟩
                have j1 : (i : Int) < (m : Int) := by omega
                have j2 : (0 : Int) ≤ (i : Int) := by omega
                have hnlt : ¬ m ≤ i := by omega
                have SL := Lib.hid hsl
                have KPA : Hid (∀ W, wr.grownBy W none → W.cell? ⟨pb, po + i, none⟩ = some (.slice a1 n c1)) := Lib.hid (fun W hg => by rw [hn]; exact (PR.out W (only_trans G6.out hg)).cellAt (k := i) (by rw [List.getElem?_map, hx]; rfl))
                have KPB : Hid (∀ W, wr.grownBy W none → W.cell? ⟨rb, ro + i, none⟩ = some (.slice a2 n c2)) := Lib.hid (fun W hg => by rw [hn]; exact (RR.out W (only_trans G6.out hg)).cellAt (k := i) (by rw [List.getElem?_map, hy]; rfl))
                have RPC : Hid (∀ W, wr.grownBy W none → Rd (fun _ => True) W a1 (ye.flatMap Ev.cells)) := Lib.hid (fun W hg => PP.out W (only_trans G6.out hg) _ (List.mem_of_getElem? hx))
                have KS : Hid (∀ W, wr.grownBy W none → Calls Tryz.prog 10 #[.slice a1 n c1, .slice a2 n c2] W (BoolExt true W)) := Lib.hid (fun W hg => by
                  have hev := EVS.out W (only_trans G57.out (only_trans G6.out hg))
                  have := sameevents_true a1 a2 ye ye c1 c2 W ⟨RPC.out W hg, fun e he => hev.2 e (SL.out.subset he)⟩ ⟨RP.out W (only_trans G6.out hg) _ (List.mem_of_getElem? hy), fun e he => hev.2 e (SL.out.subset he)⟩ (EvsEq.refl ye) (fun e he => BD.out e (SL.out.subset he)) (by omega)
                  rw [hn]; exact this)
                have KR : Hid (∀ W, wr.grownBy W none → Calls Tryz.prog 11 #[.slice a1 n c1] W (OkE W)) := Lib.hid (fun W hg => by
                  rw [hn]
                  exact KRC.out ye a1 c1 W SL.out hn1 hn256 (only_trans G57.out (only_trans G6.out hg)) (RPC.out W hg))
                have nz : ¬ n = 0 := by omega
                have n256 : ¬ 256 < n := by omega
                have n256b : (n : Int) ≤ 256 := by omega
                have HN := Lib.hid hn
                have HP := Lib.hid hp
                have hb5 : n ≤ 256 := by omega
                clear hn hp hx hy hsl hn1 hn256
                go_wp2_with fail
                refine wp_region_gen 34 (JC (some (.slice (some ⟨pb, po, none⟩) (m) (pc)) :: some (.int .i64 ((i : Int))) :: some (.pointer (some ⟨pb, po + i, none⟩)) :: some (.slice a1 n c1) :: some (.slice (some ⟨rb, ro, none⟩) (m) (rc)) :: some (.int .i64 ((i : Int))) :: some (.pointer (some ⟨rb, ro + i, none⟩)) :: some (.slice a2 n c2) :: some (.bool true) :: some (.bool false) :: some (.bool false) :: some (.slice (some ⟨pb, po, none⟩) (m) (pc)) :: some (.int .i64 ((i : Int))) :: some (.pointer (some ⟨pb, po + i, none⟩)) :: some (.slice a1 n c1) :: some (.int .i64 ((n : Int))) :: some (.bool false) :: some (.bool false) :: some (.bool false) :: some (.slice (some ⟨pb, po, none⟩) (m) (pc)) :: some (.int .i64 ((i : Int))) :: some (.pointer (some ⟨pb, po + i, none⟩)) :: some (.slice a1 n c1) :: some (.int .i64 ((n : Int))) :: some (.bool false) :: some (.bool false) :: some (.bool false) :: some (.slice (some ⟨pb, po, none⟩) (m) (pc)) :: some (.int .i64 ((i : Int))) :: some (.pointer (some ⟨pb, po + i, none⟩)) :: some (.slice a1 n c1) :: some (.int .i64 (0)) :: some (.bool false) :: some (.bool false) :: []) (fun D u wx => wr.grownBy wx none)) (by kernel_rfl) (by kernel_rfl) ?_ ?_ ?_
                · intro u
                  exact ⟨(fun j c _ h => by cases h), only_drew (only_refl _ _)⟩
                · intro AA hA
                  have hasz : AA.tmps.size = 126 := by rw [hA]; kernel_rfl
                  have ea11 : AA.eval (.tmp 11) = .slice (some ⟨pb, po, none⟩) (m) (pc) := by rw [hA]; kernel_rfl
                  have ea12 : AA.eval (.tmp 12) = .slice (some ⟨rb, ro, none⟩) (m) (rc) := by rw [hA]; kernel_rfl
                  have ea14 : AA.eval (.tmp 14) = .int .i64 ((i : Int)) := by rw [hA]; kernel_rfl
                  clear hA
                  simp only [List.take_succ_cons, List.take_zero]
                  refine .cons ?_ (.cons ?_ (.cons ?_ (.cons ?_ (.cons ?_ (.cons ?_ (.cons ?_ (.cons ?_ (.cons ?_ (.cons ?_ (.cons ?_ (.cons ?_ (.cons ?_ (.cons ?_ (.cons ?_ (.cons ?_ (.cons ?_ (.cons ?_ (.cons ?_ (.cons ?_ (.cons ?_ (.cons ?_ (.cons ?_ (.cons ?_ (.cons ?_ (.cons ?_ (.cons ?_ (.cons ?_ (.cons ?_ (.cons ?_ (.cons ?_ (.cons ?_ (.cons ?_ (.cons ?_ (.nil))))))))))))))))))))))))))))))))))
                  · exact gd_gen (by kernel_rfl) (Want.none_ rfl) rfl (fun D u w v h => by simpa [updB, upd] using h) (fun D u ρ w kn => by
                      have e0 := kn.own 11 (c := .slice (some ⟨pb, po, none⟩) (m) (pc)) (by kernel_rfl) ea11
                      simp [execOp, kn.rho.con, e0, go_sem])
                  · exact gd_gen (by kernel_rfl) (Want.none_ rfl) rfl (fun D u w v h => by simpa [updB, upd] using h) (fun D u ρ w kn => by
                      have e0 := kn.own 14 (c := .int .i64 ((i : Int))) (by kernel_rfl) ea14
                      simp [execOp, kn.rho.con, e0, go_sem])
                  · exact gd_gen (by kernel_rfl) (Want.none_ rfl) rfl (fun D u w v h => by simpa [updB, upd] using h) (fun D u ρ w kn => by
                      have e0 := kn.con 0 83 (c := .slice (some ⟨pb, po, none⟩) (m) (pc)) (by kernel_rfl) (by omega) (by kernel_rfl) rfl
                      have e1 := kn.con 1 84 (c := .int .i64 ((i : Int))) (by kernel_rfl) (by omega) (by kernel_rfl) rfl
                      simp [execOp, kn.rho.con, e0, e1, go_sem, hnlt])
                  · exact gd_gen (by kernel_rfl) (Want.none_ rfl) rfl (fun D u w v h => by simpa [updB, upd] using h) (fun D u ρ w kn => by
                      have e0 := kn.con 2 85 (c := .pointer (some ⟨pb, po + i, none⟩)) (by kernel_rfl) (by omega) (by kernel_rfl) rfl
                      have f0 := KPA.out w kn.ext
                      simp [execOp, kn.rho.con, e0, f0, go_sem])
                  · exact gd_gen (by kernel_rfl) (Want.none_ rfl) rfl (fun D u w v h => by simpa [updB, upd] using h) (fun D u ρ w kn => by
                      have e0 := kn.own 12 (c := .slice (some ⟨rb, ro, none⟩) (m) (rc)) (by kernel_rfl) ea12
                      simp [execOp, kn.rho.con, e0, go_sem])
                  · exact gd_gen (by kernel_rfl) (Want.none_ rfl) rfl (fun D u w v h => by simpa [updB, upd] using h) (fun D u ρ w kn => by
                      have e0 := kn.own 14 (c := .int .i64 ((i : Int))) (by kernel_rfl) ea14
                      simp [execOp, kn.rho.con, e0, go_sem])
                  · exact gd_gen (by kernel_rfl) (Want.none_ rfl) rfl (fun D u w v h => by simpa [updB, upd] using h) (fun D u ρ w kn => by
                      have e0 := kn.con 4 87 (c := .slice (some ⟨rb, ro, none⟩) (m) (rc)) (by kernel_rfl) (by omega) (by kernel_rfl) rfl
                      have e1 := kn.con 5 88 (c := .int .i64 ((i : Int))) (by kernel_rfl) (by omega) (by kernel_rfl) rfl
                      simp [execOp, kn.rho.con, e0, e1, go_sem, hnlt])
                  · exact gd_gen (by kernel_rfl) (Want.none_ rfl) rfl (fun D u w v h => by simpa [updB, upd] using h) (fun D u ρ w kn => by
                      have e0 := kn.con 6 89 (c := .pointer (some ⟨rb, ro + i, none⟩)) (by kernel_rfl) (by omega) (by kernel_rfl) rfl
                      have f0 := KPB.out w kn.ext
                      simp [execOp, kn.rho.con, e0, f0, go_sem])
                  · refine gd_call (by kernel_rfl) (Want.none_ rfl) 10 (fun D u ρ wx kn hD => ?_)
                    have e0 := kn.con 3 86 (c := .slice a1 n c1) (by kernel_rfl) (by omega) (by kernel_rfl) rfl
                    have e1 := kn.con 7 90 (c := .slice a2 n c2) (by kernel_rfl) (by omega) (by kernel_rfl) rfl
                    refine ⟨#[.slice a1 n c1, .slice a2 n c2], ?_, (KS.out wx kn.ext).mono ?_⟩
                    · simp only [execOp, resolve, Deferred.ofValue, List.map_toArray, List.map_cons, List.map_nil, e0, e1, kn.rho.con, kn.rho.fn]
                      simp [go_sem]
                    · rintro e w' ⟨rfl, hg⟩
                      exact ⟨_, rfl, (fun c h => by injection h with h; injection h), only_trans kn.ext hg⟩
                  · exact gd_gen (by kernel_rfl) (Want.none_ rfl) rfl (fun D u w v h => by simpa [updB, upd] using h) (fun D u ρ w kn => by
                      have e0 := kn.con 8 91 (c := .bool true) (by kernel_rfl) (by omega) (by kernel_rfl) rfl
                      simp [execOp, kn.rho.con, e0, go_sem])
                  · exact gd_gen (by kernel_rfl) (Want.none_ rfl) rfl (fun D u w v h => by simpa [updB, upd] using h) (fun D u ρ w kn => by
                      have e0 := kn.con 9 92 (c := .bool false) (by kernel_rfl) (by omega) (by kernel_rfl) rfl
                      simp [execOp, kn.rho.con, e0, go_sem])
                  · exact gd_gen (by kernel_rfl) (Want.some_ (g := 10) (v := false) rfl rfl (by kernel_rfl) (by omega) rfl rfl (by kernel_rfl)) rfl (fun D u w v h => by simpa [updB, upd] using h) (fun D u ρ w kn => by
                      have e0 := kn.own 11 (c := .slice (some ⟨pb, po, none⟩) (m) (pc)) (by kernel_rfl) ea11
                      simp [execOp, kn.rho.con, e0, go_sem])
                  · exact gd_gen (by kernel_rfl) (Want.some_ (g := 10) (v := false) rfl rfl (by kernel_rfl) (by omega) rfl rfl (by kernel_rfl)) rfl (fun D u w v h => by simpa [updB, upd] using h) (fun D u ρ w kn => by
                      have e0 := kn.own 14 (c := .int .i64 ((i : Int))) (by kernel_rfl) ea14
                      simp [execOp, kn.rho.con, e0, go_sem])
                  · exact gd_gen (by kernel_rfl) (Want.some_ (g := 10) (v := false) rfl rfl (by kernel_rfl) (by omega) rfl rfl (by kernel_rfl)) rfl (fun D u w v h => by simpa [updB, upd] using h) (fun D u ρ w kn => by
                      have e0 := kn.con 11 94 (c := .slice (some ⟨pb, po, none⟩) (m) (pc)) (by kernel_rfl) (by omega) (by kernel_rfl) rfl
                      have e1 := kn.con 12 95 (c := .int .i64 ((i : Int))) (by kernel_rfl) (by omega) (by kernel_rfl) rfl
                      simp [execOp, kn.rho.con, e0, e1, go_sem, hnlt])
                  · exact gd_gen (by kernel_rfl) (Want.some_ (g := 10) (v := false) rfl rfl (by kernel_rfl) (by omega) rfl rfl (by kernel_rfl)) rfl (fun D u w v h => by simpa [updB, upd] using h) (fun D u ρ w kn => by
                      have e0 := kn.con 13 96 (c := .pointer (some ⟨pb, po + i, none⟩)) (by kernel_rfl) (by omega) (by kernel_rfl) rfl
                      have f0 := KPA.out w kn.ext
                      simp [execOp, kn.rho.con, e0, f0, go_sem])
                  · exact gd_gen (by kernel_rfl) (Want.some_ (g := 10) (v := false) rfl rfl (by kernel_rfl) (by omega) rfl rfl (by kernel_rfl)) rfl (fun D u w v h => by simpa [updB, upd] using h) (fun D u ρ w kn => by
                      have e0 := kn.con 14 97 (c := .slice a1 n c1) (by kernel_rfl) (by omega) (by kernel_rfl) rfl
                      simp [execOp, kn.rho.con, e0, go_sem])
                  · exact gd_gen (by kernel_rfl) (Want.some_ (g := 10) (v := false) rfl rfl (by kernel_rfl) (by omega) rfl rfl (by kernel_rfl)) rfl (fun D u w v h => by simpa [updB, upd] using h) (fun D u ρ w kn => by
                      have e0 := kn.con 15 98 (c := .int .i64 ((n : Int))) (by kernel_rfl) (by omega) (by kernel_rfl) rfl
                      simp [execOp, kn.rho.con, e0, go_sem, nz])
                  · exact gd_gen (by kernel_rfl) (Want.none_ rfl) rfl (fun D u w v h => by simpa [updB, upd] using h) (fun D u ρ w kn => by
                      have e0 := kn.con 10 93 (c := .bool false) (by kernel_rfl) (by omega) (by kernel_rfl) rfl
                      have e1 := kn.con 16 99 (c := .bool false) (by kernel_rfl) (by omega) (by kernel_rfl) rfl
                      simp [execOp, kn.rho.con, e0, e1, go_sem])
                  · exact gd_gen (by kernel_rfl) (Want.none_ rfl) rfl (fun D u w v h => by simpa [updB, upd] using h) (fun D u ρ w kn => by
                      have e0 := kn.con 17 100 (c := .bool false) (by kernel_rfl) (by omega) (by kernel_rfl) rfl
                      simp [execOp, kn.rho.con, e0, go_sem])
                  · exact gd_gen (by kernel_rfl) (Want.some_ (g := 18) (v := false) rfl rfl (by kernel_rfl) (by omega) rfl rfl (by kernel_rfl)) rfl (fun D u w v h => by simpa [updB, upd] using h) (fun D u ρ w kn => by
                      have e0 := kn.own 11 (c := .slice (some ⟨pb, po, none⟩) (m) (pc)) (by kernel_rfl) ea11
                      simp [execOp, kn.rho.con, e0, go_sem])
                  · exact gd_gen (by kernel_rfl) (Want.some_ (g := 18) (v := false) rfl rfl (by kernel_rfl) (by omega) rfl rfl (by kernel_rfl)) rfl (fun D u w v h => by simpa [updB, upd] using h) (fun D u ρ w kn => by
                      have e0 := kn.own 14 (c := .int .i64 ((i : Int))) (by kernel_rfl) ea14
                      simp [execOp, kn.rho.con, e0, go_sem])
                  · exact gd_gen (by kernel_rfl) (Want.some_ (g := 18) (v := false) rfl rfl (by kernel_rfl) (by omega) rfl rfl (by kernel_rfl)) rfl (fun D u w v h => by simpa [updB, upd] using h) (fun D u ρ w kn => by
                      have e0 := kn.con 19 102 (c := .slice (some ⟨pb, po, none⟩) (m) (pc)) (by kernel_rfl) (by omega) (by kernel_rfl) rfl
                      have e1 := kn.con 20 103 (c := .int .i64 ((i : Int))) (by kernel_rfl) (by omega) (by kernel_rfl) rfl
                      simp [execOp, kn.rho.con, e0, e1, go_sem, hnlt])
                  · exact gd_gen (by kernel_rfl) (Want.some_ (g := 18) (v := false) rfl rfl (by kernel_rfl) (by omega) rfl rfl (by kernel_rfl)) rfl (fun D u w v h => by simpa [updB, upd] using h) (fun D u ρ w kn => by
                      have e0 := kn.con 21 104 (c := .pointer (some ⟨pb, po + i, none⟩)) (by kernel_rfl) (by omega) (by kernel_rfl) rfl
                      have f0 := KPA.out w kn.ext
                      simp [execOp, kn.rho.con, e0, f0, go_sem])
                  · exact gd_gen (by kernel_rfl) (Want.some_ (g := 18) (v := false) rfl rfl (by kernel_rfl) (by omega) rfl rfl (by kernel_rfl)) rfl (fun D u w v h => by simpa [updB, upd] using h) (fun D u ρ w kn => by
                      have e0 := kn.con 22 105 (c := .slice a1 n c1) (by kernel_rfl) (by omega) (by kernel_rfl) rfl
                      simp [execOp, kn.rho.con, e0, go_sem])
                  · exact gd_gen (by kernel_rfl) (Want.some_ (g := 18) (v := false) rfl rfl (by kernel_rfl) (by omega) rfl rfl (by kernel_rfl)) rfl (fun D u w v h => by simpa [updB, upd] using h) (fun D u ρ w kn => by
                      have e0 := kn.con 23 106 (c := .int .i64 ((n : Int))) (by kernel_rfl) (by omega) (by kernel_rfl) rfl
                      simp [execOp, kn.rho.con, e0, go_sem, n256b])
                  · exact gd_gen (by kernel_rfl) (Want.none_ rfl) rfl (fun D u w v h => by simpa [updB, upd] using h) (fun D u ρ w kn => by
                      have e0 := kn.con 18 101 (c := .bool false) (by kernel_rfl) (by omega) (by kernel_rfl) rfl
                      have e1 := kn.con 24 107 (c := .bool false) (by kernel_rfl) (by omega) (by kernel_rfl) rfl
                      simp [execOp, kn.rho.con, e0, e1, go_sem])
                  · exact gd_gen (by kernel_rfl) (Want.none_ rfl) rfl (fun D u w v h => by simpa [updB, upd] using h) (fun D u ρ w kn => by
                      have e0 := kn.con 25 108 (c := .bool false) (by kernel_rfl) (by omega) (by kernel_rfl) rfl
                      simp [execOp, kn.rho.con, e0, go_sem])
                  · exact gd_gen (by kernel_rfl) (Want.some_ (g := 26) (v := false) rfl rfl (by kernel_rfl) (by omega) rfl rfl (by kernel_rfl)) rfl (fun D u w v h => by simpa [updB, upd] using h) (fun D u ρ w kn => by
                      have e0 := kn.own 11 (c := .slice (some ⟨pb, po, none⟩) (m) (pc)) (by kernel_rfl) ea11
                      simp [execOp, kn.rho.con, e0, go_sem])
                  · exact gd_gen (by kernel_rfl) (Want.some_ (g := 26) (v := false) rfl rfl (by kernel_rfl) (by omega) rfl rfl (by kernel_rfl)) rfl (fun D u w v h => by simpa [updB, upd] using h) (fun D u ρ w kn => by
                      have e0 := kn.own 14 (c := .int .i64 ((i : Int))) (by kernel_rfl) ea14
                      simp [execOp, kn.rho.con, e0, go_sem])
                  · exact gd_gen (by kernel_rfl) (Want.some_ (g := 26) (v := false) rfl rfl (by kernel_rfl) (by omega) rfl rfl (by kernel_rfl)) rfl (fun D u w v h => by simpa [updB, upd] using h) (fun D u ρ w kn => by
                      have e0 := kn.con 27 110 (c := .slice (some ⟨pb, po, none⟩) (m) (pc)) (by kernel_rfl) (by omega) (by kernel_rfl) rfl
                      have e1 := kn.con 28 111 (c := .int .i64 ((i : Int))) (by kernel_rfl) (by omega) (by kernel_rfl) rfl
                      simp [execOp, kn.rho.con, e0, e1, go_sem, hnlt])
                  · exact gd_gen (by kernel_rfl) (Want.some_ (g := 26) (v := false) rfl rfl (by kernel_rfl) (by omega) rfl rfl (by kernel_rfl)) rfl (fun D u w v h => by simpa [updB, upd] using h) (fun D u ρ w kn => by
                      have e0 := kn.con 29 112 (c := .pointer (some ⟨pb, po + i, none⟩)) (by kernel_rfl) (by omega) (by kernel_rfl) rfl
                      have f0 := KPA.out w kn.ext
                      simp [execOp, kn.rho.con, e0, f0, go_sem])
                  · refine gd_call (by kernel_rfl) (Want.some_ (g := 26) (v := false) rfl rfl (by kernel_rfl) (by omega) rfl rfl (by kernel_rfl)) 11 (fun D u ρ wx kn hD => ?_)
                    have e0 := kn.con 30 113 (c := .slice a1 n c1) (by kernel_rfl) (by omega) (by kernel_rfl) rfl
                    refine ⟨#[.slice a1 n c1], ?_, (KR.out wx kn.ext).mono ?_⟩
                    · simp only [execOp, resolve, Deferred.ofValue, List.map_toArray, List.map_cons, List.map_nil, e0, kn.rho.con, kn.rho.fn]
                      simp [go_sem]
                    · rintro e w' ⟨rfl, hg⟩
                      exact ⟨_, rfl, (fun c h => by injection h with h; injection h), only_trans kn.ext hg⟩
                  · exact gd_gen (by kernel_rfl) (Want.some_ (g := 26) (v := false) rfl rfl (by kernel_rfl) (by omega) rfl rfl (by kernel_rfl)) rfl (fun D u w v h => by simpa [updB, upd] using h) (fun D u ρ w kn => by
                      have e0 := kn.con 31 114 (c := .int .i64 (0)) (by kernel_rfl) (by omega) (by kernel_rfl) rfl
                      simp [execOp, kn.rho.con, e0, go_sem])
                  · exact gd_gen (by kernel_rfl) (Want.none_ rfl) rfl (fun D u w v h => by simpa [updB, upd] using h) (fun D u ρ w kn => by
                      have e0 := kn.con 26 109 (c := .bool false) (by kernel_rfl) (by omega) (by kernel_rfl) rfl
                      have e1 := kn.con 32 115 (c := .bool false) (by kernel_rfl) (by omega) (by kernel_rfl) rfl
                      simp [execOp, kn.rho.con, e0, e1, go_sem])
                · intro D u w9 hJ hD
                  simp only [List.take_succ_cons, List.take_zero, List.drop_succ_cons, List.drop_zero, putAll]
                  have hcn := hJ.1
                  have x1 := hJ.2
                  have e33 : u 33 = .bool false := hcn 33 _ rfl (hD 33 (by omega))
                  rw [e33]
                  have A9 : Hid _ := Lib.hid (own_ext AL.out x1)
                  have G9 := Lib.hid (only_trans G6.out x1)
                  have c9 := KPA.out w9 x1
                  have G9s := G9.out.size
                  have X9 := Lib.hid (RPC.out w9 x1)
                  clear hJ hcn x1 e33 hD AL G6 KS KR KPB
                  go_simp
                  go_wp2_with (at_builtin; go_must (refine wpList_appendN rfl _ _ 27 rfl w7.heap.size Tryz.underlying27 eventInfo rfl (by decide) (v := .slice A8 xs.length c8) (by rfl) A9.out a1 n c1 (by rfl) X9.out (by rw [flat_len _ 10 Ev.cells_len, HN.out]) (flat_one Ev.one _) (by decide) (by omega) (by have := G9s; omega) ?_); intro v10 w10 hown10 hg10 hob10; have O10 : Hid (w10.ownsRow w7.heap.size 35 10 v10 (xs ++ ye).length ((xs ++ ye).flatMap Ev.cells)) := Lib.hid (by rw [List.length_append, List.flatMap_append, ← HN.out]; exact hown10); have G10 := Lib.hid (only_own G9.out hg10 A9.out (Nat.le_refl _)); clear hown10 hg10 hob10)
                  clear A9 G9 X9 c9
                  go_roundw
                  case rel => exact ⟨i + 1, xs ++ ye, by go_num, by omega, by rw [XS.out]; exact (flat_next HP.out).symm, O10.out, G10.out⟩
                  case measure => simp [intOf]; omega
              · obtain rfl : i = m := by omega
                have he5 : xs = es5 := by rw [XS.out, List.take_of_length_le (by have := HM.out; omega), chunks_all]
                have j1 : ¬ ((i : Int) < (i : Int)) := by omega
                have KF : Hid (Calls Tryz.prog 10 #[.slice A8 xs.length c8, .slice A5 es5.length c5] wr (BoolExt true wr)) := Lib.hid (by
                  have hev := EVS.out wr (only_trans G57.out G6.out)
                  refine sameevents_true (S := fun _ => True) A8 A5 xs es5 c8 c5 wr ⟨R8.out.mono (fun _ _ _ => trivial), ?_⟩ hev (by rw [he5]; exact EvsEq.refl _) (by rw [he5]; exact BD.out) (by omega)
                  rw [he5]
                  exact hev.2)
                clear he5
                go_wp2_with fail
                refine KF.out.mono ?_
                rintro e w12 ⟨rfl, hg12⟩
                have G12 := Lib.hid (only_trans GW.out (only_trans G57.out (only_trans G6.out hg12)))
                clear hg12
                go_wp2_with fail
                go_ret
                exact ⟨rfl, G12.out⟩
          · obtain ⟨n5, rfl⟩ : ∃ n', n5 = n' + 1 := ⟨n5 - 1, by omega⟩
            have z5 : (0 : Int) < ((n5 + 1 : Nat) : Int) := by omega
            obtain ⟨at_, hat⟩ : ∃ a : Int, a = 10000 + (es5.length : Int) * 3 := ⟨_, rfl⟩
            have HAT := Lib.hid hat
            have k9 := I5.out.2.2.2
            have O5 := Lib.hid I5.out.1.1
            have hat0 : 0 ≤ at_ := by omega
            have hat1 : at_ ≤ 50000 := by omega
            clear hat
            go_upto_region 14 with fail
            rw [← HAT.out]
            go_wp2_with (at_builtin; go_must (refine wpList_append1h rfl _ _ 27 rfl n0 Tryz.underlying27 eventInfo rfl (by decide) (v := .slice A5 es5.length c5) (by rfl) (w0 := wr.alloc (.cells #[.int .i64 at_, .int .i64 2, .string ⟨#[120]⟩] 31)) (cs := (shortE at_ (some ⟨wr.heap.size, 0, none⟩) 1).cells.toArray) (O5.out.alloc _) (wr.heap.size + 1) (by simp) (by rfl) rfl (by simpa using Ev.one (shortE at_ (some ⟨wr.heap.size, 0, none⟩) 1)) (by decide) (by omega) (by omega) ?_); intro v8 w8 hown8 hg8 hob8; obtain ⟨A8, c8, rfl, I8⟩ := I5.out.app hlt2 hs1 (by have := HAT.out; omega) hat0 hat1 (by simpa using hown8) hg8 hob8; have J8 := Lib.hid I8; clear hown8 hg8 hob8 I8)
            clear I5 O5 k9
            go_roundw
            case rel => exact ⟨A8, c8, es5 ++ [shortE at_ (some ⟨wr.heap.size, 0, none⟩) 1], n5, by simp, by go_num, by simp; omega, J8.out.up (by have := HAT.out; simp; omega)⟩
            case measure => simp [intOf]
end Go.Proofs.YtfbkkbbpgipipaaGreatDoor
