/- law27: SegmentWords: the walk of the law itself (printed by mklaw27w.py). For every input. -/
import Derived.Test.YtodaabofpkafjaaGreatJCrcW
import Derived.Test.YtodaabofpkafjaaGreatJPutF
import Derived.Deep.DeepCutAuto
import Derived.Lib.ConvBytes
namespace Go.Proofs.YtodaabofpkafjaaGreat
open Go.RowKit
set_option linter.unusedVariables false
set_option linter.unusedSimpArgs false

theorem bytes_only (w : World) (e : TypeId) (s : ByteArray) : w.grownBy (Lib.bytesWorld w e s) none :=
  ⟨by simp [Lib.bytesWorld, World.freeze]; rfl, by simp [Lib.bytesWorld, World.freeze], by simp [Lib.bytesWorld, World.freeze]; rfl, by rw [Lib.bytesWorld_size]; omega, fun j hj _ => Lib.bytesWorld_at_old w e s j hj⟩
theorem bytes_rd (w : World) (e : TypeId) (s : ByteArray) : Rd (fun _ => True) (Lib.bytesWorld w e s) (some ⟨w.heap.size, 0, none⟩) ((bts s).map (.int .u8)) := fun hn => by
  refine ⟨w.heap.size, 0, rfl, trivial, by rw [Lib.bytesWorld_size]; omega, fun j u hu => ?_⟩
  have hj : j < s.size := by
    have := (List.getElem?_eq_some_iff.1 hu).1
    rw [List.length_map, bts_length] at this
    exact this
  rw [Nat.zero_add, Lib.bytesWorld_cell w e s j hj]
  rw [List.getElem?_map, bts_at s hj] at hu
  injection hu with hu
  rw [← hu]
  congr 2
  have hl : j < s.data.toList.length := by simpa using hj
  rw [getD_lt _ _ hl]
  rfl
set_option maxHeartbeats 16000000 in
set_option maxRecDepth 100000 in
theorem law_words (s : ByteArray) (A : Option Addr) (l0 : List Int) (d : Nat) (w : World) (hs : s.size ≤ maxLen) (h : Rd (fun _ => True) w A (l0.map (.int .u8))) (hc : l0.length ≤ d) (hcm : d ≤ maxLen) (hx : ∀ x ∈ l0, 0 ≤ x ∧ x ≤ 255) :
    Calls Tryz.prog 3 #[.string s, .slice A l0.length d] w (BoolExt true w) := by
  have HL := Lib.hid h
  have KD := Lib.hid (fun (w' : World) (hg : w.grownBy w' none) => draw27_any A l0 d w' (h.grown hg (by simp)) hc hcm hx)
  clear h hc hcm hx hs
  go_enter Tryz.func3, Tryz.ntmps3
  go_wp2_with fail
  refine (awake27_any w).mono ?_
  rintro e w1 ⟨rfl, hg1⟩
  have G1 := Lib.hid hg1
  clear hg1
  by_cases hbig : 500 < s.size
  · have i1 : (500 : Int) < (s.size : Int) := by omega
    go_wp2_with fail
    go_ret
    exact ⟨rfl, G1.out⟩
  · have i1 : ¬ (500 : Int) < (s.size : Int) := by omega
    have KW1 := Lib.hid (fun w' => swords_new s w' (by omega))
    have KW2 := Lib.hid (fun w' => rwords_new s w' (by omega))
    go_wp2_with fail
    refine (KD.out w1 G1.out).mono ?_
    rintro e w2 ⟨A3, c3, es, B, dB, g, l, k0, rfl, hel, hec, hcm, hev, -, hgood, -, -, -, -, -, -, hg2⟩
    have G2 := Lib.hid (only_trans G1.out hg2)
    have EV := Lib.hid (hev.mono (S' := fun _ => True) (fun _ _ _ => trivial))
    have HGO := Lib.hid (fun e (he : e ∈ es) => (hgood e he).s)
    clear hev hgood hg2 KD G1
    go_wp2_with fail
    go_loopw [8] (fun vi wr => ∃ k : Nat, vi = .int .i64 k ∧ k ≤ es.length ∧ w2.grownBy wr none) (fun vi _ => es.length - (intOf vi).toNat)
    case atStart => exact ⟨0, rfl, Nat.zero_le _, only_refl _ _⟩
    case round =>
      obtain ⟨k, rfl, hk, hG⟩ := hrel
      have G := Lib.hid hG
      clear hG
      by_cases hlt : k < es.length
      · obtain ⟨y, hy⟩ : ∃ y, es[k]? = some y := ⟨_, List.getElem?_eq_getElem hlt⟩
        have HY := Lib.hid hy
        obtain ⟨kb, ko, eE, -⟩ := ev_in (EV.out.1.grown G.out (by simp)) hy
        subst eE
        have EVR := Lib.hid (EV.out.1.grown G.out (by simp))
        have hys := HGO.out y (List.mem_of_getElem? hy)
        have KT1 := Lib.hid (fun (w' : World) (hg : wr.grownBy w' none) => sterms_new y w' ((EV.out.2 y (List.mem_of_getElem? hy)).grown (only_trans G.out hg) (by simp)) hys)
        have KT2 := Lib.hid (fun (w' : World) (hg : wr.grownBy w' none) => terms_new y w' ((EV.out.2 y (List.mem_of_getElem? hy)).grown (only_trans G.out hg) (by simp)) hys)
        have htl := termsE_len hys
        obtain ⟨ts, hts⟩ : ∃ ts, ts = termsE y := ⟨_, rfl⟩
        rw [← hts] at KT1 KT2 htl
        have i2 : (k : Int) < (es.length : Int) := by omega
        clear hy hts hys
        go_upto_region 7 with fail
        go_cut [42] (fun v wx => v = .bool false ∧ wr.grownBy wx none)
        case first =>
          refine wp_region_gen 12 (JC [some (.slice (some ⟨kb, ko, none⟩) (es.length) (c3)), some (.int .i64 (k)), some (.pointer (some ⟨kb, ko + k * 10, none⟩)), some (.agg y.cells.toArray), none, some (.slice (some ⟨kb, ko, none⟩) (es.length) (c3)), some (.int .i64 (k)), some (.pointer (some ⟨kb, ko + k * 10, none⟩)), some (.agg y.cells.toArray), none, some (.bool true), some (.bool false)] (fun D u w => wr.grownBy w none ∧ (D 4 = true → StrV ts w (u 4)) ∧ (D 9 = true → StrV ts w (u 9)))) (by kernel_rfl) (by kernel_rfl) ?_ ?_ ?_
          · intro u
            exact ⟨(fun j c _ h => by cases h), only_drew (only_refl _ _), (fun h => by cases h), (fun h => by cases h)⟩
          · intro AA hA
            have hasz : AA.tmps.size = 57 := by rw [hA]; kernel_rfl
            have ea5 : AA.eval (.tmp 5) = .slice (some ⟨kb, ko, none⟩) (es.length) (c3) := by rw [hA]; kernel_rfl
            have ea8 : AA.eval (.tmp 8) = .int .i64 (k) := by rw [hA]; kernel_rfl
            clear hA
            simp only [List.take_succ_cons, List.take_zero]
            refine .cons ?_ (.cons ?_ (.cons ?_ (.cons ?_ (.cons ?_ (.cons ?_ (.cons ?_ (.cons ?_ (.cons ?_ (.cons ?_ (.cons ?_ (.cons ?_ (.nil))))))))))))
            · exact gd_gen (by kernel_rfl) (Want.none_ rfl) rfl (fun D u w v h => by simpa [updB, upd] using h) (fun D u ρ w kn => by
                have e0 := kn.own 5 (c := .slice (some ⟨kb, ko, none⟩) (es.length) (c3)) (by kernel_rfl) ea5
                simp [execOp, kn.rho.con, e0, go_sem])
            · exact gd_gen (by kernel_rfl) (Want.none_ rfl) rfl (fun D u w v h => by simpa [updB, upd] using h) (fun D u ρ w kn => by
                have e0 := kn.own 8 (c := .int .i64 (k)) (by kernel_rfl) ea8
                simp [execOp, kn.rho.con, e0, go_sem])
            · exact gd_gen (by kernel_rfl) (Want.none_ rfl) rfl (fun D u w v h => by simpa [updB, upd] using h) (fun D u ρ w kn => by
                have e0 := kn.con 0 31 (c := .slice (some ⟨kb, ko, none⟩) (es.length) (c3)) (by kernel_rfl) (by omega) (by kernel_rfl) rfl
                have e1 := kn.con 1 32 (c := .int .i64 (k)) (by kernel_rfl) (by omega) (by kernel_rfl) rfl
                simp [execOp, kn.rho.con, e0, e1, go_sem, hlt, i2])
            · exact gd_gen (by kernel_rfl) (Want.none_ rfl) rfl (fun D u w v h => by simpa [updB, upd] using h) (fun D u ρ w kn => by
                have e0 := kn.con 2 33 (c := .pointer (some ⟨kb, ko + k * 10, none⟩)) (by kernel_rfl) (by omega) (by kernel_rfl) rfl
                exact run_load ρ w rfl e0 (load_evR w kb ko k es y (EVR.out.grown kn.ext.1 (by simp)) HY.out))
            · refine gd_call (by kernel_rfl) (Want.none_ rfl) 8 (fun D u ρ w kn hD => ?_)
              have e0 := kn.con 3 34 (c := .agg y.cells.toArray) (by kernel_rfl) (by omega) (by kernel_rfl) rfl
              refine ⟨#[.agg y.cells.toArray], ?_, (KT1.out w kn.ext.1).mono ?_⟩
              · simp only [execOp, resolve, Deferred.ofValue, List.map_toArray, List.map_cons, List.map_nil, e0, kn.rho.con, kn.rho.fn]
                simp [go_sem]
              · rintro e w' ⟨AT, cT, rfl, -, -, ht, hg⟩
                obtain ⟨x1, x2, x3⟩ := kn.ext
                exact ⟨_, rfl, (fun c h => by injection h with h; cases h), only_trans x1 hg, fun _ => by rw [upd_at]; exact ⟨AT, cT, rfl, ht.mono (fun _ _ _ => trivial)⟩, fun h => by rw [updB_ne D (by omega)] at h; rw [upd_ne u _ (by omega)]; exact (x3 h).grown hg⟩
            · exact gd_gen (by kernel_rfl) (Want.none_ rfl) rfl (fun D u w v h => by simpa [updB, upd] using h) (fun D u ρ w kn => by
                have e0 := kn.own 5 (c := .slice (some ⟨kb, ko, none⟩) (es.length) (c3)) (by kernel_rfl) ea5
                simp [execOp, kn.rho.con, e0, go_sem])
            · exact gd_gen (by kernel_rfl) (Want.none_ rfl) rfl (fun D u w v h => by simpa [updB, upd] using h) (fun D u ρ w kn => by
                have e0 := kn.own 8 (c := .int .i64 (k)) (by kernel_rfl) ea8
                simp [execOp, kn.rho.con, e0, go_sem])
            · exact gd_gen (by kernel_rfl) (Want.none_ rfl) rfl (fun D u w v h => by simpa [updB, upd] using h) (fun D u ρ w kn => by
                have e0 := kn.con 5 36 (c := .slice (some ⟨kb, ko, none⟩) (es.length) (c3)) (by kernel_rfl) (by omega) (by kernel_rfl) rfl
                have e1 := kn.con 6 37 (c := .int .i64 (k)) (by kernel_rfl) (by omega) (by kernel_rfl) rfl
                simp [execOp, kn.rho.con, e0, e1, go_sem, hlt, i2])
            · exact gd_gen (by kernel_rfl) (Want.none_ rfl) rfl (fun D u w v h => by simpa [updB, upd] using h) (fun D u ρ w kn => by
                have e0 := kn.con 7 38 (c := .pointer (some ⟨kb, ko + k * 10, none⟩)) (by kernel_rfl) (by omega) (by kernel_rfl) rfl
                exact run_load ρ w rfl e0 (load_evR w kb ko k es y (EVR.out.grown kn.ext.1 (by simp)) HY.out))
            · refine gd_call (by kernel_rfl) (Want.none_ rfl) 9 (fun D u ρ w kn hD => ?_)
              have e0 := kn.con 8 39 (c := .agg y.cells.toArray) (by kernel_rfl) (by omega) (by kernel_rfl) rfl
              refine ⟨#[.agg y.cells.toArray], ?_, (KT2.out w kn.ext.1).mono ?_⟩
              · simp only [execOp, resolve, Deferred.ofValue, List.map_toArray, List.map_cons, List.map_nil, e0, kn.rho.con, kn.rho.fn]
                simp [go_sem]
              · rintro e w' ⟨AT, cT, rfl, -, -, ht, hg⟩
                obtain ⟨x1, x2, x3⟩ := kn.ext
                exact ⟨_, rfl, (fun c h => by injection h with h; cases h), only_trans x1 hg, fun h => by rw [updB_ne D (by omega)] at h; rw [upd_ne u _ (by omega)]; exact (x2 h).grown hg, fun _ => by rw [upd_at]; exact ⟨AT, cT, rfl, ht.mono (fun _ _ _ => trivial)⟩⟩
            · refine gd_call (by kernel_rfl) (Want.none_ rfl) 7 (fun D u ρ w kn hD => ?_)
              have e0 := kn.slot 4 35 (by kernel_rfl) (by omega)
              have e1 := kn.slot 9 40 (by kernel_rfl) (by omega)
              have d0 := kn.dep 4 (by kernel_rfl)
              have d1 := kn.dep 9 (by kernel_rfl)
              obtain ⟨x1, x2, x3⟩ := kn.ext
              obtain ⟨A, c, ha, hra⟩ := x2 d0
              obtain ⟨B, d, hb, hrb⟩ := x3 d1
              have hua := ha
              have hub := hb
              rw [ha] at e0
              rw [hb] at e1
              refine ⟨#[.slice A ts.length c, .slice B ts.length d], ?_, (same_any A B ts ts c d w hra hrb (by omega) (by omega) true (by simp)).mono ?_⟩
              · simp only [execOp, resolve, Deferred.ofValue, List.map_toArray, List.map_cons, List.map_nil, e0, e1, kn.rho.con, kn.rho.fn]
                simp [go_sem]
              · rintro e w' ⟨rfl, q, rfl⟩
                exact ⟨_, rfl, (fun c h => by injection h with h; injection h), only_drewN x1 q, fun h => by rw [updB_ne D (by omega)] at h; rw [upd_ne u _ (by omega)]; exact ⟨A, c, hua, hra⟩, fun h => by rw [updB_ne D (by omega)] at h; rw [upd_ne u _ (by omega)]; exact ⟨B, d, hub, hrb⟩⟩
            · exact gd_gen (by kernel_rfl) (Want.none_ rfl) rfl (fun D u w v h => by simpa [updB, upd] using h) (fun D u ρ w kn => by
                have e0 := kn.con 10 41 (c := .bool true) (by kernel_rfl) (by omega) (by kernel_rfl) rfl
                simp [execOp, kn.rho.con, e0, go_sem])
          · intro D u w3 hJ hD
            obtain ⟨hc, x1, -, -⟩ := hJ
            have h11 := hc 11 _ rfl (hD 11 (by omega))
            simp only [List.take_succ_cons, List.take_zero, List.drop_succ_cons, List.drop_zero, putAll]
            rw [h11]
            clear hc hD
            go_simp
            go_wp2_with fail
            go_meet
            exact ⟨rfl, x1⟩
        case rest =>
          obtain ⟨rfl, hgc⟩ := hcut
          have G3 := Lib.hid (only_trans G.out hgc)
          clear hgc KT1 KT2 EVR
          go_wp2_with fail
          go_roundw
          case rel => exact ⟨k + 1, by go_num, by omega, G3.out⟩
          case measure => simp [intOf]; omega
      · have i2 : ¬ (k : Int) < (es.length : Int) := by omega
        have G3 := Lib.hid (only_trans G2.out G.out)
        go_wp2_with fail
        refine (KW1.out wr).mono ?_
        rintro e w3 ⟨A5, c5, rfl, -, -, h5, hg5⟩
        have G5 := Lib.hid (only_trans G3.out hg5)
        have R5 := Lib.hid h5
        clear h5 hg5 KW1
        go_wp2_with fail
        refine (KW2.out w3).mono ?_
        rintro e w4 ⟨A6, c6, rfl, -, -, h6, hg6⟩
        have G6 := Lib.hid (only_trans G5.out hg6)
        have hwl : (dist (rawW (bts s))).length ≤ 501 := by
          have h1 := dist_len' (rawW (bts s))
          have h2 := rawW_len (bts s)
          rw [bts_length] at h2
          omega
        obtain ⟨ws, hws⟩ : ∃ ws, ws = dist (rawW (bts s)) := ⟨_, rfl⟩
        have R55 := R5.out.grown hg6 (by
          intro b hb
          simp)
        rw [← hws] at hwl h6 R55
        rw [← hws]
        have KS := Lib.hid (same_any A5 A6 ws ws c5 c6 w4 R55 h6 (by omega) (by omega) true (by simp))
        clear h6 hg6 KW2 R55 R5 G5 hws
        go_wp2_with fail
        refine KS.out.mono ?_
        rintro e w5 ⟨rfl, q, hw5⟩
        have G7 : Hid (w.grownBy w5 none) := Lib.hid (by rw [hw5]; exact only_drewN G6.out q)
        clear hw5 KS G6
        have kc := fun (w : World) => Lib.run_convert_string_bytes (P := Tryz.prog) w 9 22 5 s Tryz.underlying9 Tryz.underlying22 Tryz.underlying5
        have KC1 : Hid (∀ c, Calls Tryz.prog 12 #[.slice (some ⟨w5.heap.size, 0, none⟩) s.size c] (Lib.bytesWorld w5 5 s) (fun e w' => e = .returned (.int .u32 (crcN (bts s) : Nat)) ∧ w' = Lib.bytesWorld w5 5 s)) := Lib.hid (fun c => by
          have h := scrc_any (some ⟨w5.heap.size, 0, none⟩) (bts s) c (Lib.bytesWorld w5 5 s) (bytes_rd w5 5 s) (by rw [bts_length]; omega)
          rw [bts_length] at h
          exact h)
        go_wp2_with fail
        refine (KC1.out _).mono ?_
        rintro e w6 ⟨rfl, hw6⟩
        have G8 : Hid (w.grownBy w6 none) := Lib.hid (by rw [hw6]; exact only_trans G7.out (bytes_only _ _ _))
        clear hw6 KC1 G7
        have KC2 : Hid (∀ c, Calls Tryz.prog 13 #[.slice (some ⟨w6.heap.size, 0, none⟩) s.size c] (Lib.bytesWorld w6 5 s) (fun e w' => e = .returned (.int .u32 (crcN (bts s) : Nat)) ∧ w' = Lib.bytesWorld w6 5 s)) := Lib.hid (fun c => by
          have h := crc_any (some ⟨w6.heap.size, 0, none⟩) (bts s) c (Lib.bytesWorld w6 5 s) (bytes_rd w6 5 s) (by rw [bts_length]; omega)
          rw [bts_length] at h
          exact h)
        obtain ⟨cn, hcn⟩ : ∃ cn, cn = crcN (bts s) := ⟨_, rfl⟩
        rw [← hcn] at KC2
        rw [← hcn]
        clear hcn
        go_wp2_with fail
        refine (KC2.out _).mono ?_
        rintro e w7 ⟨rfl, hw7⟩
        have G9 : Hid (w.grownBy w7 none) := Lib.hid (by rw [hw7]; exact only_trans G8.out (bytes_only _ _ _))
        clear hw7 KC2 G8 kc
        go_wp2_with fail
        go_ret
        exact ⟨by simp, G9.out⟩
end Go.Proofs.YtodaabofpkafjaaGreat
