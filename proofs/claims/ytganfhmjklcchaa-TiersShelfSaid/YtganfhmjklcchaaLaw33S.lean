/- law33: TiersShelf: the walk of the law itself. For every input. -/
import Derived.Test.YtganfhmjklcchaaRGet33
import Derived.Test.YtganfhmjklcchaaPutB
import Derived.Test.YtganfhmjklcchaaSam33
import Derived.Deep.RegionLaw
import Derived.Deep.DeepCutAuto
import Derived.Deep.LoopGhost
namespace Go.Proofs.Ytganfhmjklcchaa
open Go.RowKit
set_option linter.unusedVariables false
set_option linter.unusedSimpArgs false

set_option maxHeartbeats 8000000 in
set_option maxRecDepth 100000 in
theorem law_shelf (A0 : Option Addr) (l0 : List Int) (d0 : Nat) (w : World) (h : Rd (fun _ => True) w A0 (l0.map (.int .u8))) (hc : l0.length ≤ d0) (hcm : d0 ≤ maxLen) (hx : ∀ x ∈ l0, 0 ≤ x ∧ x ≤ 255) :
    Calls Try.prog 3 #[.slice A0 l0.length d0] w (TrueExt w) := by
  have HX := Lib.hid hx
  have HL := Lib.hid h
  clear hx h
  go_enter Try.func3, Try.ntmps3
  go_wp2_with (go_at_call 5; refine (awake33_any _).mono ?_; rintro e w1 ⟨rfl, hg1⟩)
  refine (new_any A0 l0 d0 200 _ (HL.out.grown hg1 (by simp)) hc hcm (by omega) HX.out).mono ?_
  rintro e w2 ⟨rfl, h2, hg2, hlt2⟩
  have G2 : Hid (w.grownBy w2 none) := Lib.hid (only_trans hg1 hg2)
  have hs1 := hg1.size
  have hs2 := hg2.size
  generalize w1.heap.size = g at *
  obtain ⟨l, hl⟩ : ∃ l, l = l0.take 200 := ⟨_, rfl⟩
  rw [← hl] at h2
  have hll : l.length ≤ 200 := by rw [hl]; simp; omega
  have H2 := Lib.hid h2
  obtain ⟨n0, hn0⟩ : ∃ n, n = w2.heap.size := ⟨_, rfl⟩
  have HN0 := Lib.hid hn0
  have hgn : g < n0 := by omega
  clear HL HX hg1 hg2 hl h2 hn0
  go_wp2_with fail
  go_loopg [4, 5] l.length (fun gk va vb wr => ∃ (A B : Option Addr) (al bl : List BlobD) (c d k : Nat), va = .slice A al.length c ∧ vb = .slice B bl.length d ∧ gk = l.length - k ∧ al.length ≤ k ∧ Shf n0 wr A al c ∧ Shf n0 wr B bl d ∧ Alike al bl ∧ BSrt al ∧ CodesAt wr g l k ∧ w2.grownBy wr (some g))
  case atStart => exact ⟨none, none, [], [], 0, 0, 0, rfl, rfl, rfl, Nat.le_refl _, ⟨Rd.nil, by simp, Nat.le_refl _, by unfold maxLen; omega, fun _ => rfl⟩, ⟨Rd.nil, by simp, Nat.le_refl _, by unfold maxLen; omega, fun _ => rfl⟩, rfl, List.Pairwise.nil, H2.out, only_refl _ _⟩
  case round =>
    obtain ⟨A, B, al, bl, c, d, k, rfl, rfl, hgk, hlk, hA, hB, hal, hst, hcd, hG⟩ := hrel
    have GK := Lib.hid hgk
    have SA := Lib.hid hA
    have SB := Lib.hid hB
    have AL := Lib.hid hal
    have ST := Lib.hid hst
    have G := Lib.hid hG
    have hkl : k ≤ l.length := by obtain ⟨_, _, _, _, h, _⟩ := hcd; exact h
    have CD := Lib.hid hcd
    clear hgk hA hB hal hst hG hcd
    go_wp2_with fail
    refine (left_any g l k wr CD.out).mono ?_
    rintro e w' ⟨rfl, q, rfl⟩
    by_cases hlt : k < l.length
    · have hdec : decide (k < l.length) = true := by simp [hlt]
      rw [hdec]
      obtain ⟨W, hW⟩ : ∃ W, W = wr.drewN q := ⟨_, rfl⟩
      have hgq : wr.grownBy W (some g) := by rw [hW]; exact only_drewN (only_refl _ _) q
      have CD1 := Lib.hid (show CodesAt W g l k from by rw [hW]; exact CodesAt.drewN CD.out q)
      rw [← hW]
      have hne : ∀ b, n0 ≤ b → some b ≠ some g := fun b hb e => by injection e with e; omega
      have HNE := Lib.hid hne
      have SA1 := Lib.hid (SA.out.grown hgq hne)
      have SB1 := Lib.hid (SB.out.grown hgq hne)
      have G1 := Lib.hid (only_trans G.out hgq)
      clear hdec hW hgq hne SA SB G CD
      go_wp2_with fail
      refine (next_up g l k 5 _ CD1.out (by omega) (by omega)).mono ?_
      rintro e w3 ⟨id, k3, rfl, hi1, hi2, hk3, hk3', hkl3, h3, hg3⟩
      go_wp2_with fail
      refine (next_up g l k3 3 _ h3 (by omega) (by omega)).mono ?_
      rintro e w4 ⟨ti, k4, rfl, ht1, ht2, hk4, -, hkl4, h4, hg4⟩
      go_wp2_with fail
      refine (next_up g l k4 3 _ h4 (by omega) (by omega)).mono ?_
      rintro e w5 ⟨ch, k5, rfl, hc1, hc2, hk5, -, hkl5, h5, hg5⟩
      have hg35 := only_trans (only_trans hg3 hg4) hg5
      have SA5 := Lib.hid (SA1.out.grown hg35 HNE.out)
      have SB5 := Lib.hid (SB1.out.grown hg35 HNE.out)
      have G5 := Lib.hid (only_trans G1.out hg35)
      have CD5 := Lib.hid h5
      have hz5 : n0 ≤ w5.heap.size := by have := G5.out.size; have := HN0.out; omega
      have hk35 := hk3' hlt
      have hbl : bl.length ≤ al.length := by have := AL.out.len; omega
      clear h3 h4 h5 hg3 hg4 hg5 hg35 CD1 SA1 SB1 G1 hk3'
      go_upto_if 25 with fail
      go_cut [4, 5] (fun va vb wx => ∃ (A B : Option Addr) (al bl : List BlobD) (c d : Nat), va = .slice A al.length c ∧ vb = .slice B bl.length d ∧ al.length ≤ k + 1 ∧ Shf n0 wx A al c ∧ Shf n0 wx B bl d ∧ Alike al bl ∧ BSrt al ∧ (∃ k', k5 ≤ k' ∧ k' ≤ l.length ∧ CodesAt wx g l k') ∧ w2.grownBy wx (some g))
      case first =>
        by_cases hch : ch = 2
        · subst hch
          go_wp2_with fail
          refine (del_any (S := (n0 ≤ ·)) A al c id ti w5 SA5.out.1 SA5.out.2.1 (fun b hb => Nat.le_trans hz5 hb) (by omega) ST.out).mono ?_
          rintro e w6 ⟨A6, c6, al6, rfl, rfl, x1, x2, x3, x4, x5, hg6⟩
          have SB6 := SB5.out.grown hg6 (by simp)
          have SA6 := Lib.hid (show Shf n0 w6 A6 (delB al id ti) c6 from ⟨x4, x5, x1, x2, x3⟩)
          have HSB6 := Lib.hid SB6
          have G6 := Lib.hid (only_trans G5.out (only_of_none hg6 _))
          have CD6 := Lib.hid (CD5.out.grown hg6 (by simp))
          have hz6 : n0 ≤ w6.heap.size := by have := hg6.size; omega
          clear x1 x2 x3 x4 x5 hg6 SB6
          go_wp2_with fail
          have hbl2 : bl.length ≤ 1000 := by omega
          have KR := Lib.hid (rdel_any (S := (n0 ≤ ·)) B bl d id ti w6 HSB6.out.1 HSB6.out.2.1 (fun b hb => Nat.le_trans hz6 hb) hbl2 HSB6.out.2.2.1 HSB6.out.2.2.2.1 HSB6.out.2.2.2.2)
          refine KR.out.mono ?_
          rintro e w7 ⟨B7, d7, bl7, rfl, rfl, x1, x2, x3, x4, x5, hg7⟩
          have SB7 := Lib.hid (show Shf n0 w7 B7 (delB bl id ti) d7 from ⟨x4, x5, x1, x2, x3⟩)
          have SA7 := Lib.hid (SA6.out.grown hg7 (by simp))
          have G7 := Lib.hid (only_trans G6.out (only_of_none hg7 _))
          have CD7 := Lib.hid (CD6.out.grown hg7 (by simp))
          have hdl := delB_len al id ti
          clear x1 x2 x3 x4 x5 hg7
          go_wp2_with fail
          go_meet
          exact ⟨A6, B7, delB al id ti, delB bl id ti, c6, d7, rfl, rfl, by omega, SA7.out, SB7.out, AL.out.del id ti, ST.out.del id ti, ⟨k5, Nat.le_refl _, hkl5, CD7.out⟩, G7.out⟩
        · have hne2 : (ch == 2) = false := by simp [hch]
          clear hch
          go_wp2_with fail
          refine (next_up g l k5 256 _ CD5.out (by omega) (by omega)).mono ?_
          rintro e w6 ⟨v, k6, rfl, hv1, hv2, hk6, -, hkl6, h6, hg6⟩
          have hwu : IntKind.u8.wrap v = v := IntWalk.u8_in _ (by omega)
          have SA6 := Lib.hid (SA5.out.grown hg6 HNE.out)
          have SB6 := Lib.hid (SB5.out.grown hg6 HNE.out)
          have G6 := Lib.hid (only_trans G5.out hg6)
          have CD6 := Lib.hid h6
          have hz6 : n0 ≤ w6.heap.size := by have := hg6.size; omega
          clear hg6 h6 hne2
          obtain ⟨db, hdb⟩ : ∃ b, b = w6.heap.size := ⟨_, rfl⟩
          obtain ⟨xb, hxb⟩ : ∃ b, b = w6.heap.size + 1 := ⟨_, rfl⟩
          obtain ⟨x, hx⟩ : ∃ x : BlobD, x = ⟨id, ti, [v], some ⟨db, 0, none⟩, 1⟩ := ⟨_, rfl⟩
          obtain ⟨W8, hW8⟩ : ∃ W, W = (w6.alloc (.cells #[.int .u8 v] 5)).alloc (.cells #[.int .i64 id, .int .i64 ti, .slice (some ⟨w6.heap.size, 0, none⟩) 1 1] 30) := ⟨_, rfl⟩
          have g8 : w6.grownBy W8 none := by rw [hW8]; exact only_alloc (only_alloc (only_refl _ _) _) _
          have HXB : Hid (Blk W8 xb 30 #[.int .i64 id, .int .i64 ti, .slice (some ⟨db, 0, none⟩) 1 1]) := Lib.hid (by rw [hW8, hxb, hdb]; have := Blk.new (w6.alloc (.cells #[.int .u8 v] 5)) 30 #[.int .i64 id, .int .i64 ti, .slice (some ⟨w6.heap.size, 0, none⟩) 1 1]; simpa using this)
          have hBD : Blk W8 db 5 #[.int .u8 v] := by rw [hW8, hdb]; exact (Blk.new w6 _ _).alloc _
          have HXS : Hid (x.Sub (n0 ≤ ·) W8) := Lib.hid (by
            rw [hx]
            refine ⟨fun _ => ⟨db, 0, rfl, by show n0 ≤ db; omega, hBD.lt, fun j u hu => by rw [Nat.zero_add, hBD.cell j]; simpa using hu⟩, by simp, by unfold maxLen; show 1 ≤ _; omega, by simp⟩)
          have SA8 := Lib.hid (SA6.out.grown g8 (by simp))
          have SB8 := Lib.hid (SB6.out.grown g8 (by simp))
          have G8 := Lib.hid (only_trans G6.out (only_of_none g8 _))
          have CD8 := Lib.hid (CD6.out.grown g8 (by simp))
          have hz8 : n0 ≤ W8.heap.size := by have := g8.size; omega
          have hal1 : al.length ≤ 1000 := by omega
          have hbl1 : bl.length ≤ 1000 := by omega
          have KP : Hid (∀ W, W8.grownBy W none → Calls Try.prog 11 #[.slice A al.length c, .agg #[.int .i64 id, .int .i64 ti, .slice (some ⟨db, 0, none⟩) 1 1]] W (ShPost (n0 ≤ ·) W (fun bs' => ∃ x' : BlobD, x'.key = (id, ti, [v]) ∧ bs' = putB al id ti x'))) := Lib.hid (fun W hW => by
            have sa := SA8.out.grown hW (by simp)
            have := put_any (S := (n0 ≤ ·)) A al c x W sa.1 sa.2.1 (HXS.out.grown hW (by simp)) (fun b hb => Nat.le_trans hz8 (Nat.le_trans hW.size hb)) hal1 sa.2.2.1 sa.2.2.2.1 sa.2.2.2.2 ST.out
            rw [hx] at this
            exact this)
          have KR : Hid (∀ W, W8.grownBy W none → Calls Try.prog 12 #[.slice B bl.length d, .agg #[.int .i64 id, .int .i64 ti, .slice (some ⟨db, 0, none⟩) 1 1]] W (ShPost (n0 ≤ ·) W (fun bs' => ∃ x' : BlobD, x'.key = (id, ti, [v]) ∧ bs' = putB bl id ti x'))) := Lib.hid (fun W hW => by
            have sb := SB8.out.grown hW (by simp)
            have := rput_any (S := (n0 ≤ ·)) B bl d x W sb.1 sb.2.1 (HXS.out.grown hW (by simp)) (fun b hb => Nat.le_trans hz8 (Nat.le_trans hW.size hb)) hbl1 sb.2.2.1 sb.2.2.2.1 sb.2.2.2.2
            rw [hx] at this
            exact this)
          have HW8 := Lib.hid hW8.symm
          have HXE := Lib.hid hxb.symm
          have HDE := Lib.hid hdb.symm
          clear hW8 hxb hdb hx g8 hBD HXS SA6 SB6 G6 CD6 SA5 SB5 G5 CD5
          go_upto_region 10 with fail
          rw [HW8.out, HXE.out, HDE.out]
          clear HW8 HXE HDE
          have b0 := HXB.out.cell 0
          have b1 := HXB.out.cell 1
          have b2 := HXB.out.cell 2
          simp at b0 b1 b2
          go_region_law (first
            | (have htok := hk9; go_simp; go_at_call 12; go_must (refine Calls.mono (KR.out w9 G9.out) ?_); go_must (rintro e w10 ⟨B10, d10, bl10, rfl, ⟨x10, hk10, hq10⟩, z1, z2, z3, z4, z5, hg10⟩); have HQ10 := Lib.hid hq10; clear hq10)
            | (go_simp; go_at_call 11; go_must (refine Calls.mono (KP.out W8.drew (only_drew (only_refl _ _))) ?_); go_must (rintro e w9 ⟨A9, c9, al9, rfl, ⟨x9, hk9, hq9⟩, y1, y2, y3, y4, y5, hg9⟩); have HQ9 := Lib.hid hq9; have G9 : Hid (W8.grownBy w9 none) := Lib.hid (only_trans (only_drew (only_refl _ _)) hg9); have hB9 := HXB.out.grown G9.out (by simp); have d0 := hB9.cell 0; have d1 := hB9.cell 1; have d2 := hB9.cell 2; simp at d0 d1 d2; clear hq9))
          all_goals
            have SA10 := Lib.hid ((show Shf n0 w9 A9 al9 c9 from ⟨y4, y5, y1, y2, y3⟩).grown hg10 (by simp))
            have SB10 := Lib.hid (show Shf n0 w10 B10 bl10 d10 from ⟨z4, z5, z1, z2, z3⟩)
            have G10 := Lib.hid (only_trans G9.out hg10)
            have HK := Lib.hid (show x9.key = x10.key from hk9.trans hk10.symm)
            have e1 : x9.id = id := congrArg (·.1) hk9
            have e2 : x9.tier = ti := congrArg (·.2.1) hk9
            have HS10 : Hid (BSrt al9) := Lib.hid (by
              have := ST.out.put x9
              rw [e1, e2] at this
              rw [HQ9.out]; exact this)
            have HA10 : Hid (Alike al9 bl10) := Lib.hid (by rw [HQ9.out, HQ10.out]; exact AL.out.put id ti HK.out)
            have hpl : al9.length ≤ al.length + 1 := by have := putB_len al id ti x9; have := HQ9.out; rw [this]; omega
            clear y1 y2 y3 y4 y5 z1 z2 z3 z4 z5 hg9 hg10 hB9 d0 d1 d2 b0 b1 b2 hk9 hk10 e1 e2
            go_simp
            go_wp2_with fail
            go_meet
            exact ⟨A9, B10, al9, bl10, c9, d10, rfl, rfl, by omega, SA10.out, SB10.out, HA10.out, HS10.out, ⟨k6, hk6, hkl6, CD8.out.grown G10.out (by simp)⟩, only_trans G8.out (only_of_none G10.out _)⟩
      case rest =>
        clear SA5 SB5 G5 CD5 AL ST hbl hlk
        obtain ⟨A, B, al, bl, c, d, rfl, rfl, hlk, hA, hB, hal, hst, ⟨k6, hk56, hkl6, hcd⟩, hG⟩ := hcut
        have SA := Lib.hid hA
        have SB := Lib.hid hB
        have AL := Lib.hid hal
        have ST := Lib.hid hst
        have G := Lib.hid hG
        have CD := Lib.hid hcd
        have hbl : bl.length ≤ al.length := by have := hal.len; omega
        clear hA hB hal hst hG hcd
        go_wp2_with fail
        refine (next_up g l k6 5 _ CD.out (by omega) (by omega)).mono ?_
        rintro e w3 ⟨id2, k7, rfl, hi3, hi4, hk7, -, hkl7, h3, hg3⟩
        go_wp2_with fail
        refine (next_up g l k7 3 _ h3 (by omega) (by omega)).mono ?_
        rintro e w4 ⟨ti2, k8, rfl, ht3, ht4, hk8, -, hkl8, h4, hg4⟩
        have hg34 := only_trans hg3 hg4
        have SA4 := Lib.hid (SA.out.grown hg34 HNE.out)
        have SB4 := Lib.hid (SB.out.grown hg34 HNE.out)
        have G4 := Lib.hid (only_trans G.out hg34)
        have CD4 := Lib.hid h4
        clear h3 h4 hg3 hg4 hg34 CD SA SB G
        have hal1 : al.length ≤ 100000 := by omega
        have hbl1 : bl.length ≤ 100000 := by omega
        have KS : Hid (∀ W, w4.grownBy W none → Calls Try.prog 15 #[.slice A al.length c, .slice B bl.length d] W (TrueExt W)) := Lib.hid (fun W hW => by
          have sa := SA4.out.grown hW (by simp)
          have sb := SB4.out.grown hW (by simp)
          have e : bl.length = al.length := AL.out.len.symm
          rw [e]
          exact rsame33_true A B al bl al.length c d W rfl e sa.1 sb.1 sa.2.1 sb.2.1 AL.out hal1)
        obtain ⟨r, hr⟩ : ∃ r, r = getB al id2 ti2 := ⟨_, rfl⟩
        have KA : Hid (Calls Try.prog 13 #[.slice A al.length c, .int .i64 id2, .int .i64 ti2] w4 (GetPost w4 r)) := Lib.hid (by
          rw [hr]; exact get_any A al c id2 ti2 w4 SA4.out.1 SA4.out.2.1 hal1 ST.out)
        have KB : Hid (∀ W, w4.grownBy W none → Calls Try.prog 14 #[.slice B bl.length d, .int .i64 id2, .int .i64 ti2] W (GetPost W r)) := Lib.hid (fun W hW => by
          have sb := SB4.out.grown hW (by simp)
          rw [hr, AL.out.get]; exact rget_any B bl d id2 ti2 W sb.1 sb.2.1 hbl1)
        have HRL : Hid (∀ dd, r = some dd → dd.length ≤ 1000000) := Lib.hid (fun dd hdd => by
          rw [hr] at hdd
          unfold getB at hdd
          split at hdd
          · cases hx : al[lowC (cfBlob id2 ti2) al]? with
            | none => rw [hx] at hdd; cases hdd
            | some x =>
              rw [hx] at hdd
              injection hdd with hdd
              rw [← hdd]
              exact (SA4.out.2.1 x (List.mem_of_getElem? hx)).2.2.2
          · cases hdd)
        have GKF : Hid (l.length - k8 < gk) := Lib.hid (by rw [GK.out]; omega)
        clear hr
        go_wp2_with fail
        refine KA.out.mono ?_
        cases r with
        | none =>
          rintro e w5 ⟨hg5, rfl⟩
          have G5 := Lib.hid hg5
          clear hg5
          go_wp2_with fail
          refine (KB.out w5 G5.out).mono ?_
          rintro e w6 ⟨hg6, rfl⟩
          have G6 := Lib.hid (only_trans G5.out hg6)
          clear hg6
          go_wp2_with fail
          refine (KS.out w6 G6.out).mono ?_
          rintro e w7 ⟨rfl, hg7⟩
          have G7 := Lib.hid (only_trans G6.out hg7)
          clear hg7
          go_wp2_with fail
          refine (samebytes_any (S := fun _ => True) (S' := fun _ => True) none none [] [] 0 0 w7 Rd.nil Rd.nil (by simp) (by simp) true (by simp)).mono ?_
          rintro e w8 ⟨rfl, q8, rfl⟩
          have G8 := Lib.hid (only_drewN G7.out q8)
          go_wp2_with fail
          go_roundg (l.length - k8)
          case measure => exact GKF.out
          case rel => exact ⟨A, B, al, bl, c, d, k8, rfl, rfl, rfl, by omega, SA4.out.grown G8.out (by simp), SB4.out.grown G8.out (by simp), AL.out, ST.out, CD4.out.grown G8.out (by simp), only_trans G4.out (only_of_none G8.out _)⟩
        | some dd =>
          have hdd := HRL.out dd rfl
          rintro e w5 ⟨hg5, A5, c5, rfl, p1, p2, p3⟩
          have G5 := Lib.hid hg5
          have P5 := Lib.hid p3
          clear hg5 p3
          go_wp2_with fail
          refine (KB.out w5 G5.out).mono ?_
          rintro e w6 ⟨hg6, B6, d6, rfl, p4, p5, p6⟩
          have G6 := Lib.hid (only_trans G5.out hg6)
          have P5' := Lib.hid (P5.out.grown hg6 (by simp))
          have P6 := Lib.hid p6
          clear hg6 p6
          go_wp2_with fail
          refine (KS.out w6 G6.out).mono ?_
          rintro e w7 ⟨rfl, hg7⟩
          have G7 := Lib.hid (only_trans G6.out hg7)
          have KY := Lib.hid (samebytes_any A5 B6 dd dd c5 d6 w7 (P5'.out.grown hg7 (by simp)) (P6.out.grown hg7 (by simp)) (by omega) (by omega) true (by simp))
          clear hg7
          go_wp2_with fail
          refine KY.out.mono ?_
          rintro e w8 ⟨rfl, q8, rfl⟩
          have G8 := Lib.hid (only_drewN G7.out q8)
          go_wp2_with fail
          go_roundg (l.length - k8)
          case measure => exact GKF.out
          case rel => exact ⟨A, B, al, bl, c, d, k8, rfl, rfl, rfl, by omega, SA4.out.grown G8.out (by simp), SB4.out.grown G8.out (by simp), AL.out, ST.out, CD4.out.grown G8.out (by simp), only_trans G4.out (only_of_none G8.out _)⟩
    · have hdec : decide (k < l.length) = false := by simp [hlt]
      rw [hdec]
      have GF := Lib.hid (only_drewN G.out q)
      clear hdec
      go_wp2_with fail
      go_ret
      exact ⟨rfl, only_fresh G2.out GF.out (by omega)⟩
end Go.Proofs.Ytganfhmjklcchaa
