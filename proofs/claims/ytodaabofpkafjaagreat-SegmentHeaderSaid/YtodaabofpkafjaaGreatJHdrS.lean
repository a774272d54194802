/- Summary: the reference of chapter 27. Conditions: sizes, bytes. -/
import Derived.Test.YtodaabofpkafjaaGreatJHdrP
import Derived.Test.YtodaabofpkafjaaGreatJNatB
import Derived.Deep.RegionLaw
import Derived.Test.YtodaabofpkafjaaGreatJGen
import Derived.Test.YtodaabofpkafjaaGreatJSegT
import Derived.Deep.QuietTactic
import Derived.BigQuiet
namespace Go.Proofs.YtodaabofpkafjaaGreat
open Go.RowKit
set_option linter.unusedVariables false
set_option linter.unusedSimpArgs false

def sumV (bs : List Int) : Array Value := if errS bs = 0 then #[.int .i64 (cutN bs 4 4 : Nat), .int .i64 (IntKind.i64.wrap (cutN bs 8 8 : Nat)), .int .i64 (IntKind.i64.wrap (cutN bs 16 8 : Nat))] else #[.int .i64 0, .int .i64 0, .int .i64 0]
def SumP (w : World) (bs : List Int) (e : Ending) (w' : World) : Prop := e = .returned (.tuple #[.agg (sumV bs), .int .i64 (errS bs : Nat)]) ∧ w.grownBy w' none
theorem sumV_no {bs : List Int} {n : Nat} (h : errS bs = n) (hn : n ≠ 0) : sumV bs = #[.int .i64 0, .int .i64 0, .int .i64 0] := by unfold sumV; rw [if_neg (by omega)]
theorem errS_short {bs : List Int} (h : bs.length < 124) : errS bs = 14 := by unfold errS; rw [if_pos h]
theorem errS_syn {bs : List Int} (h : 124 ≤ bs.length) (h1 : magicB bs = false) : errS bs = 1 := by unfold errS; rw [if_neg (by omega), if_pos h1]
theorem errS_crc {bs : List Int} (h : 124 ≤ bs.length) (h1 : magicB bs = true) (h2 : cutN bs 120 4 ≠ crcN (bs.take 120)) : errS bs = 15 := by unfold errS; rw [if_neg (by omega), if_neg (by simp [h1]), if_pos h2]
theorem errS_end {bs : List Int} (h : 124 ≤ bs.length) (h1 : magicB bs = true) (h2 : cutN bs 120 4 = crcN (bs.take 120)) : errS bs = if bs.length ≠ offH bs 12 then 14 else 0 := by unfold errS; rw [if_neg (by omega), if_neg (by simp [h1]), if_neg (by simp [h2])]
theorem errS_ok {bs : List Int} (h : errS bs = 0) : 124 ≤ bs.length ∧ magicB bs = true ∧ cutN bs 120 4 = crcN (bs.take 120) ∧ bs.length = offH bs 12 := by
  unfold errS at h
  split at h
  · cases h
  · split at h
    · cases h
    · split at h
      · cases h
      · split at h
        · cases h
        · rename_i h1 h2 h3 h4
          exact ⟨by omega, by simpa using h2, by simpa using h3, by simpa using h4⟩
theorem mgl : (⟨#[76, 84, 83, 49]⟩ : ByteArray).toList = ([76, 84, 83, 49] : List UInt8) := by rw [ByteArray.toList_eq]
theorem fin17 {w W : World} {rb : Nat} {tm : Array Value} {x0 x1 x2 V0 V1 V2 : Value} {E : Nat} (hrb : rb = w.heap.size) (hB : Blk W rb 43 #[x0, x1, x2]) (hG : w.grownBy W none) (h2 : tm[2]?.getD undef = .pointer (some ⟨rb, 0, none⟩)) (h3 : tm[3]?.getD undef = .int .i64 E) :
    bodyPost Tryz.prog Tryz.f17 (fun e w' => e = .returned (.tuple #[.agg #[V0, V1, V2], .int .i64 (E : Nat)]) ∧ w.grownBy w' none) .ret ⟨tm, []⟩ (((W.setCell ⟨rb, 0, none⟩ V0).setCell ⟨rb, 1, none⟩ V1).setCell ⟨rb, 2, none⟩ V2) := by
  have hB2 := ((hB.set_ 0 V0).set_ 1 V1).set_ 2 V2
  have q0 := hB2.cell 0; have q1 := hB2.cell 1; have q2 := hB2.cell 2
  simp at q0 q1 q2
  refine bodyPost_ret (v := .tuple #[.agg #[V0, V1, V2], .int .i64 (E : Nat)]) ?_ rfl ⟨rfl, only_setN (only_setN (only_setN hG (by simp [hrb]) _) (by simp [hrb]) _) (by simp [hrb]) _⟩
  simp [results, Tryz.results17, go_sem, h2, h3, q0, q1, q2]
set_option maxHeartbeats 8000000 in
set_option maxRecDepth 100000 in
theorem rsummary_any {S : Nat → Prop} (A : Option Addr) (bs : List Int) (c : Nat) (w : World) (hr : Rd S w A (bs.map (.int .u8))) (hi : InH bs) (hl : bs.length ≤ 10000000) (hc : bs.length ≤ c) (hm : c ≤ 9223372036854775807) :
    Calls Tryz.prog 17 #[.slice A bs.length c] w (SumP w bs) := by
  have HR := Lib.hid hr
  have HI := Lib.hid hi
  obtain ⟨E, hE⟩ : ∃ E, E = errS bs := ⟨_, rfl⟩
  obtain ⟨V, hV⟩ : ∃ V, V = sumV bs := ⟨_, rfl⟩
  have HP : Hid (∀ e w', (e = .returned (.tuple #[.agg V, .int .i64 (E : Nat)]) ∧ w.grownBy w' none) → SumP w bs e w') := Lib.hid (fun e w' h => by rw [hV, hE] at h; exact h)
  refine Calls.mono (R := fun e w' => e = .returned (.tuple #[.agg V, .int .i64 (E : Nat)]) ∧ w.grownBy w' none) ?_ HP.out
  clear HP
  have HVN : Hid (∀ n, errS bs = n → n ≠ 0 → V = #[.int .i64 0, .int .i64 0, .int .i64 0] ∧ E = n) := Lib.hid (fun n h hn => ⟨by rw [hV]; exact sumV_no h hn, by rw [hE]; exact h⟩)
  have HVY : Hid (errS bs = 0 → V = #[.int .i64 (cutN bs 4 4 : Nat), .int .i64 (IntKind.i64.wrap (cutN bs 8 8 : Nat)), .int .i64 (IntKind.i64.wrap (cutN bs 16 8 : Nat))] ∧ E = 0) := Lib.hid (fun h => ⟨by rw [hV]; unfold sumV; rw [if_pos h], by rw [hE]; exact h⟩)
  clear hV hE
  go_enter Tryz.func17, Tryz.ntmps17
  go_upto_region 1 with fail
  obtain ⟨rb, hrb⟩ : ∃ b, b = w.heap.size := ⟨_, rfl⟩
  obtain ⟨W, hW⟩ : ∃ W, W = w.alloc (.cells #[.int .i64 0, .int .i64 0, .int .i64 0] 43) := ⟨_, rfl⟩
  have hBR : Blk W rb 43 #[.int .i64 0, .int .i64 0, .int .i64 0] := by rw [hW, hrb]; exact Blk.new _ _ _
  have hG0 : w.grownBy W none := by rw [hW]; exact only_alloc (only_refl _ _) _
  have HRB := Lib.hid hrb
  have G0 := Lib.hid hG0
  have BR := Lib.hid hBR
  have hrW := hBR.lt
  rw [← hW, ← hrb]
  have q0 := hBR.cell 0; have q1 := hBR.cell 1; have q2 := hBR.cell 2
  have z0 := hBR.frozen 0; have z1 := hBR.frozen 1; have z2 := hBR.frozen 2
  simp at q0 q1 q2
  clear hW hrb hBR
  by_cases hs : bs.length < 124
  · obtain ⟨rfl, rfl⟩ := HVN.out 14 (errS_short hs) (by decide)
    have i1 : (bs.length : Int) < 124 := by omega
    clear hr hi HVN HVY hs
    go_wp2_with fail
    exact fin17 HRB.out BR.out G0.out rfl rfl
  · have hl124 : 124 ≤ bs.length := by omega
    have i1 : ¬ (bs.length : Int) < 124 := by omega
    obtain ⟨b, off, rfl, hSb, hbw, -⟩ := hr (by rw [List.length_map]; omega)
    have HRW := Lib.hid (HR.out.grown G0.out (by simp))
    have h4 : (bs.take 4).length = 4 := by rw [List.length_take]; omega
    have hbi := bytesin_rd (S := S) (w := W) (A := some ⟨b, off, none⟩) (bs := bs.take 4) (by rw [List.map_take]; exact HRW.out.take 4)
    rw [h4] at hbi
    have hcv := Lib.BytesIn.convert (P := Tryz.prog) (w := W) (p := some ⟨b, off, none⟩) (n := 4) (xs := bs.take 4) hbi h4 c 22 5 9 Tryz.underlying22 Tryz.underlying5 Tryz.underlying9
    have j1 : (4 : Int) ≤ (c : Int) := by omega
    clear hbi h4 hr hs
    by_cases hmg : magicB bs = false
    · obtain ⟨rfl, rfl⟩ := HVN.out 1 (errS_syn hl124 hmg) (by decide)
      have hb : ((strOfNums (bs.take 4)).toList == ([76, 84, 83, 49] : List UInt8)) = false := by have h := hmg; unfold magicB at h; rw [mgl] at h; exact h
      clear HVN HVY hmg
      go_wp2_with fail
      exact fin17 HRB.out BR.out G0.out rfl rfl
    · have hmg2 : magicB bs = true := by simpa using hmg
      have hE4 : strOfNums (bs.take 4) = (⟨#[76, 84, 83, 49]⟩ : ByteArray) := toList_inj (by have h := hmg2; unfold magicB at h; exact eq_of_beq h)
      rw [hE4] at hcv
      have KG := Lib.hid (fun (n : Nat) (a k c : Nat) (h1 : a + k ≤ 124) (h2 : k ≤ 8) => rget_cut (w := W.drewN n) ((HR.out.grown G0.out (by simp)).grown (only_drewN (only_refl W none) n) (by simp)) HI.out a k c h1 (by omega) h2)
      have KC := Lib.hid (fun (n : Nat) (c : Nat) => crc_any (S := S) (some ⟨b, off, none⟩) (bs.take 120) c (W.drewN n) (by rw [List.map_take]; exact ((HR.out.grown G0.out (by simp)).grown (only_drewN (only_refl W none) n) (by simp)).take 120) (by rw [List.length_take]; omega))
      obtain ⟨gc, hgc⟩ : ∃ g, g = cutN bs 120 4 := ⟨_, rfl⟩
      obtain ⟨cc, hcc⟩ : ∃ g, g = crcN (bs.take 120) := ⟨_, rfl⟩
      have hg4 : gc < 4294967296 := by rw [hgc]; exact cutN_lt4 HI.out (by omega) (by omega)
      have hc4 : cc < 4294967296 := by rw [hcc]; exact crcN_lt _
      have l120 : (bs.take 120).length = 120 := by rw [List.length_take]; omega
      have KC2 := Lib.hid (fun (n c : Nat) => by have h := KC.out n c; rw [l120, ← hcc] at h; exact h)
      have KG2 := Lib.hid (fun (n c : Nat) => by have h := KG.out n 120 4 c (by omega) (by omega); rw [← hgc] at h; exact h)
      have HGC := Lib.hid hgc
      have HCC := Lib.hid hcc
      clear l120 KC hmg hgc hcc
      have j2 : (124 : Int) ≤ (c : Int) := by omega
      have j3 : (120 : Int) ≤ (c : Int) := by omega
      have cw : IntKind.u64.wrap (cc : Int) = (cc : Int) := IntWalk.u64_in _ (by omega)
      by_cases heq : gc = cc
      · have HEQ := Lib.hid heq
        have e1 : ((gc : Int) == (cc : Int)) = true := by simp [heq]
        clear heq
        go_upto_region 5 with fail
        go_quiet (first | (go_at_call 36; exact Calls.quiet_of_same (KG2.out _ _)) | (go_at_call 13; exact Calls.quiet_of_same (KC2.out _ _)))
        obtain ⟨wq, hwq⟩ : ∃ wq, wq = W.drewN nq := ⟨_, rfl⟩
        have GQ0 : Hid (W.grownBy wq none) := Lib.hid (by rw [hwq]; exact only_drewN (only_refl W none) nq)
        have GQ := Lib.hid (only_trans G0.out GQ0.out)
        have BQ := Lib.hid (BR.out.grown GQ0.out (by simp))
        have hrW := BQ.out.lt
        have q0 := BQ.out.cell 0; have q1 := BQ.out.cell 1; have q2 := BQ.out.cell 2
        have z0 := BQ.out.frozen 0; have z1 := BQ.out.frozen 1; have z2 := BQ.out.frozen 2
        simp at q0 q1 q2
        rw [← hwq]
        clear hwq
        have HRQ := Lib.hid (HR.out.grown GQ.out (by simp))
        have KP := Lib.hid (place_at b off c bs 12 wq HRQ.out HI.out hl124 hc hm (by decide) (by decide))
        have HOL : Hid (offH bs 11 + lenH bs 12 = offH bs 12) := Lib.hid rfl
        have hol := offH_le HI.out hl124 11 (by decide)
        have hll := lenH_lt HI.out (k := 12) (by decide) hl124
        obtain ⟨on, hon⟩ : ∃ g, g = offH bs 11 := ⟨_, rfl⟩
        obtain ⟨ln, hln⟩ : ∃ g, g = lenH bs 12 := ⟨_, rfl⟩
        rw [show 12 - 1 = 11 from rfl, ← hon, ← hln] at KP
        rw [← hon] at hol
        rw [← hln] at hll
        rw [← hon, ← hln] at HOL
        have HE := Lib.hid (errS_end hl124 hmg2 (by rw [← HGC.out, ← HCC.out]; exact HEQ.out))
        clear hon hln
        by_cases hlen : bs.length = on + ln
        · have hv := HVY.out (by rw [HE.out, if_neg (by rw [← HOL.out]; omega)])
          have e2 : ((bs.length : Int) == (on : Int) + (ln : Int)) = true := by simp [hlen]
          clear hlen
          have KW := Lib.hid (fun (w' : World) (hg : wq.grownBy w' none) (a k c : Nat) (h1 : a + k ≤ 124) (h2 : k ≤ 8) => rget_cut (w := w') (HRQ.out.grown hg (by simp)) HI.out a k c h1 (by omega) h2)
          have l4 := cutN_lt4 HI.out (a := 4) (by decide) (by omega)
          have l8 := cutN_lt8 HI.out (a := 8) (by decide) (by omega)
          have l16 := cutN_lt8 HI.out (a := 16) (by decide) (by omega)
          have K4 := Lib.hid (fun (w' : World) (hg : wq.grownBy w' none) (c : Nat) => KW.out w' hg 4 4 c (by decide) (by decide))
          have K8 := Lib.hid (fun (w' : World) (hg : wq.grownBy w' none) (c : Nat) => KW.out w' hg 8 8 c (by decide) (by decide))
          have K16 := Lib.hid (fun (w' : World) (hg : wq.grownBy w' none) (c : Nat) => KW.out w' hg 16 8 c (by decide) (by decide))
          obtain ⟨n4, hn4⟩ : ∃ g, g = cutN bs 4 4 := ⟨_, rfl⟩
          obtain ⟨n8, hn8⟩ : ∃ g, g = cutN bs 8 8 := ⟨_, rfl⟩
          obtain ⟨n16, hn16⟩ : ∃ g, g = cutN bs 16 8 := ⟨_, rfl⟩
          rw [← hn4] at l4 K4
          rw [← hn8] at l8 K8
          rw [← hn16] at l16 K16
          rw [← hn4, ← hn8, ← hn16] at hv
          obtain ⟨m8, hm8⟩ : ∃ m : Int, m = IntKind.i64.wrap (n8 : Int) := ⟨_, rfl⟩
          obtain ⟨m16, hm16⟩ : ∃ m : Int, m = IntKind.i64.wrap (n16 : Int) := ⟨_, rfl⟩
          rw [← hm8, ← hm16] at hv
          have HM8 := Lib.hid hm8
          have HM16 := Lib.hid hm16
          clear hm8 hm16
          obtain ⟨rfl, rfl⟩ := hv
          have j4 : (8 : Int) ≤ (c : Int) := by omega
          have j5 : (16 : Int) ≤ (c : Int) := by omega
          have j6 : (24 : Int) ≤ (c : Int) := by omega
          clear hn4 hn8 hn16 KW
          have cw4 : IntKind.i64.wrap (n4 : Int) = (n4 : Int) := IntWalk.i64_in _ (by omega)
          go_wp2_with (go_at_call 37; refine KP.out.mono ?_; rintro e w2 ⟨rfl, hw2⟩; obtain rfl := hw2.symm)
          refine wp_region_gen 13 (JC [some (.slice (some ⟨b, off, none⟩) bs.length c), some (.slice (some ⟨b, off + 4, none⟩) 4 (c - 4)), some (.int .u64 (n4 : Nat)), some (.int .i64 (n4)), some (.slice (some ⟨b, off, none⟩) bs.length c), some (.slice (some ⟨b, off + 8, none⟩) 8 (c - 8)), some (.int .u64 (n8 : Nat)), some (.int .i64 (m8)), some (.slice (some ⟨b, off, none⟩) bs.length c), some (.slice (some ⟨b, off + 16, none⟩) 8 (c - 16)), some (.int .u64 (n16 : Nat)), some (.int .i64 (m16)), some (.agg #[.int .i64 (n4), .int .i64 (m8), .int .i64 (m16)])] (fun D u wx => wq.grownBy wx none)) (by kernel_rfl) (by kernel_rfl) ?_ ?_ ?_
          · intro u
            exact ⟨(fun j c _ h => by cases h), only_drew (only_refl _ _)⟩
          · intro AA hA
            have hasz : AA.tmps.size = 49 := by rw [hA]; kernel_rfl
            have ea0 : AA.eval (.tmp 0) = .slice (some ⟨b, off, none⟩) bs.length c := by rw [hA]; kernel_rfl
            have ea2 : AA.eval (.tmp 2) = .pointer (some ⟨rb, 0, none⟩) := by rw [hA]; kernel_rfl
            clear hA
            simp only [List.take_succ_cons, List.take_zero]
            refine .cons ?_ (.cons ?_ (.cons ?_ (.cons ?_ (.cons ?_ (.cons ?_ (.cons ?_ (.cons ?_ (.cons ?_ (.cons ?_ (.cons ?_ (.cons ?_ (.cons ?_ (.nil)))))))))))))
            · exact gd_gen (by kernel_rfl) (Want.none_ rfl) rfl (fun D u w v h => by simpa [updB, upd] using h) (fun D u ρ w kn => by
                have e0 := kn.own 0 (c := .slice (some ⟨b, off, none⟩) bs.length c) (by kernel_rfl) ea0
                simp [execOp, kn.rho.con, e0, go_sem])
            · exact gd_gen (by kernel_rfl) (Want.none_ rfl) rfl (fun D u w v h => by simpa [updB, upd] using h) (fun D u ρ w kn => by
                have e0 := kn.con 0 36 (c := .slice (some ⟨b, off, none⟩) bs.length c) (by kernel_rfl) (by omega) (by kernel_rfl) rfl
                simp [execOp, kn.rho.con, e0, go_sem, j4, Addr.add, show c ≠ 4 by omega])
            · refine gd_call (by kernel_rfl) (Want.none_ rfl) 36 (fun D u ρ wx kn hD => ?_)
              have e0 := kn.con 1 37 (c := .slice (some ⟨b, off + 4, none⟩) 4 (c - 4)) (by kernel_rfl) (by omega) (by kernel_rfl) rfl
              refine ⟨#[.slice (some ⟨b, off + 4, none⟩) 4 (c - 4)], ?_, (K4.out wx kn.ext (c - 4)).mono ?_⟩
              · simp only [execOp, resolve, Deferred.ofValue, List.map_toArray, List.map_cons, List.map_nil, e0, kn.rho.con, kn.rho.fn]
                simp [go_sem]
              · rintro e w' ⟨rfl, rfl⟩
                exact ⟨_, rfl, (fun c h => by injection h with h; injection h), kn.ext⟩
            · exact gd_gen (by kernel_rfl) (Want.none_ rfl) rfl (fun D u w v h => by simpa [updB, upd] using h) (fun D u ρ w kn => by
                have e0 := kn.con 2 38 (c := .int .u64 (n4 : Nat)) (by kernel_rfl) (by omega) (by kernel_rfl) rfl
                simp [execOp, kn.rho.con, e0, go_sem, cw4])
            · exact gd_gen (by kernel_rfl) (Want.none_ rfl) rfl (fun D u w v h => by simpa [updB, upd] using h) (fun D u ρ w kn => by
                have e0 := kn.own 0 (c := .slice (some ⟨b, off, none⟩) bs.length c) (by kernel_rfl) ea0
                simp [execOp, kn.rho.con, e0, go_sem])
            · exact gd_gen (by kernel_rfl) (Want.none_ rfl) rfl (fun D u w v h => by simpa [updB, upd] using h) (fun D u ρ w kn => by
                have e0 := kn.con 4 40 (c := .slice (some ⟨b, off, none⟩) bs.length c) (by kernel_rfl) (by omega) (by kernel_rfl) rfl
                simp [execOp, kn.rho.con, e0, go_sem, j5, Addr.add, show c ≠ 8 by omega])
            · refine gd_call (by kernel_rfl) (Want.none_ rfl) 36 (fun D u ρ wx kn hD => ?_)
              have e0 := kn.con 5 41 (c := .slice (some ⟨b, off + 8, none⟩) 8 (c - 8)) (by kernel_rfl) (by omega) (by kernel_rfl) rfl
              refine ⟨#[.slice (some ⟨b, off + 8, none⟩) 8 (c - 8)], ?_, (K8.out wx kn.ext (c - 8)).mono ?_⟩
              · simp only [execOp, resolve, Deferred.ofValue, List.map_toArray, List.map_cons, List.map_nil, e0, kn.rho.con, kn.rho.fn]
                simp [go_sem]
              · rintro e w' ⟨rfl, rfl⟩
                exact ⟨_, rfl, (fun c h => by injection h with h; injection h), kn.ext⟩
            · exact gd_gen (by kernel_rfl) (Want.none_ rfl) rfl (fun D u w v h => by simpa [updB, upd] using h) (fun D u ρ w kn => by
                have e0 := kn.con 6 42 (c := .int .u64 (n8 : Nat)) (by kernel_rfl) (by omega) (by kernel_rfl) rfl
                simp [execOp, kn.rho.con, e0, go_sem, HM8.out])
            · exact gd_gen (by kernel_rfl) (Want.none_ rfl) rfl (fun D u w v h => by simpa [updB, upd] using h) (fun D u ρ w kn => by
                have e0 := kn.own 0 (c := .slice (some ⟨b, off, none⟩) bs.length c) (by kernel_rfl) ea0
                simp [execOp, kn.rho.con, e0, go_sem])
            · exact gd_gen (by kernel_rfl) (Want.none_ rfl) rfl (fun D u w v h => by simpa [updB, upd] using h) (fun D u ρ w kn => by
                have e0 := kn.con 8 44 (c := .slice (some ⟨b, off, none⟩) bs.length c) (by kernel_rfl) (by omega) (by kernel_rfl) rfl
                simp [execOp, kn.rho.con, e0, go_sem, j6, Addr.add, show c ≠ 16 by omega])
            · refine gd_call (by kernel_rfl) (Want.none_ rfl) 36 (fun D u ρ wx kn hD => ?_)
              have e0 := kn.con 9 45 (c := .slice (some ⟨b, off + 16, none⟩) 8 (c - 16)) (by kernel_rfl) (by omega) (by kernel_rfl) rfl
              refine ⟨#[.slice (some ⟨b, off + 16, none⟩) 8 (c - 16)], ?_, (K16.out wx kn.ext (c - 16)).mono ?_⟩
              · simp only [execOp, resolve, Deferred.ofValue, List.map_toArray, List.map_cons, List.map_nil, e0, kn.rho.con, kn.rho.fn]
                simp [go_sem]
              · rintro e w' ⟨rfl, rfl⟩
                exact ⟨_, rfl, (fun c h => by injection h with h; injection h), kn.ext⟩
            · exact gd_gen (by kernel_rfl) (Want.none_ rfl) rfl (fun D u w v h => by simpa [updB, upd] using h) (fun D u ρ w kn => by
                have e0 := kn.con 10 46 (c := .int .u64 (n16 : Nat)) (by kernel_rfl) (by omega) (by kernel_rfl) rfl
                simp [execOp, kn.rho.con, e0, go_sem, HM16.out])
            · exact gd_gen (by kernel_rfl) (Want.none_ rfl) rfl (fun D u w v h => by simpa [updB, upd] using h) (fun D u ρ w kn => by
                have e0 := kn.con 3 39 (c := .int .i64 (n4)) (by kernel_rfl) (by omega) (by kernel_rfl) rfl
                have e1 := kn.con 7 43 (c := .int .i64 (m8)) (by kernel_rfl) (by omega) (by kernel_rfl) rfl
                have e2 := kn.con 11 47 (c := .int .i64 (m16)) (by kernel_rfl) (by omega) (by kernel_rfl) rfl
                simp [execOp, kn.rho.con, e0, e1, e2, go_sem])
          · intro D u w3 hJ hD
            have hg3 := hJ.2
            simp only [List.take_succ_cons, List.take_zero, List.drop_succ_cons, List.drop_zero, putAll]
            rw [show u 12 = .agg #[.int .i64 n4, .int .i64 m8, .int .i64 m16] from hJ.1 12 _ rfl (hD 12 (by decide))]
            have G3 := Lib.hid (only_trans GQ.out hg3)
            have B3 := Lib.hid (BQ.out.grown hg3 (by simp))
            clear hJ hD hg3
            have hrW := B3.out.lt
            have q0 := B3.out.cell 0; have q1 := B3.out.cell 1; have q2 := B3.out.cell 2
            have z0 := B3.out.frozen 0; have z1 := B3.out.frozen 1; have z2 := B3.out.frozen 2
            simp at q0 q1 q2
            go_wp2_with fail
            refine fin17 (E := 0) HRB.out B3.out G3.out ?_ ?_
            · rfl
            · rfl
        · obtain ⟨rfl, rfl⟩ := HVN.out 14 (by rw [HE.out, if_pos (by rw [← HOL.out]; exact hlen)]) (by decide)
          have e2 : ((bs.length : Int) == (on : Int) + (ln : Int)) = false := by rw [beq_eq_false_iff_ne]; omega
          clear hlen
          go_wp2_with (go_at_call 37; refine KP.out.mono ?_; rintro e w2 ⟨rfl, hw2⟩; obtain rfl := hw2.symm)
          exact fin17 HRB.out BQ.out GQ.out rfl rfl
      · obtain ⟨rfl, rfl⟩ := HVN.out 15 (errS_crc hl124 hmg2 (by rw [← HGC.out, ← HCC.out]; exact heq)) (by decide)
        have e1 : ((gc : Int) == (cc : Int)) = false := by rw [beq_eq_false_iff_ne]; omega
        clear heq
        go_upto_region 5 with fail
        go_quiet (first | (go_at_call 36; exact Calls.quiet_of_same (KG2.out _ _)) | (go_at_call 13; exact Calls.quiet_of_same (KC2.out _ _)))
        go_wp2_with fail
        exact fin17 HRB.out (BR.out.drewN nq) (only_drewN G0.out nq) rfl rfl
end Go.Proofs.YtodaabofpkafjaaGreat
