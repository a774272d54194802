/- compact.Choose. Condition: sizes. -/
import Derived.Test.YtphglalphejppaaMapH
import Derived.Test.YtphglalphejppaaSortI
import Derived.Test.YtphglalphejppaaRChoose
import Derived.Deep.DeepCutAuto
namespace Go.Proofs.Ytphglalphejppaa
open Go.RowKit
set_option linter.unusedVariables false
set_option linter.unusedSimpArgs false

/-- what the loop over the groups holds: found, and the best key's block -/
def PCur (bb : Nat) (wr : World) (vf : Value) : Option Kp → Prop
  | none => vf = .bool false ∧ Blk wr bb 85 #[.int .i64 0, .int .i64 0]
  | some k => KOk k ∧ vf = .bool true ∧ Blk wr bb 85 #[.int .i64 k.1, .int .i64 k.2]
theorem PCur.kept {bb : Nat} {w w' : World} {vf : Value} {acc : Option Kp} {row : Option Nat} (h : PCur bb w vf acc) (hg : w.grownBy w' row) (hne : some bb ≠ row) : PCur bb w' vf acc := by
  cases acc with
  | none => exact ⟨h.1, h.2.grown hg hne⟩
  | some k => exact ⟨h.1, h.2.1, h.2.2.grown hg hne⟩
theorem rd_one {w : World} {g t : Nat} {v : Value} (h : Blk w g t #[v]) : Rd (fun _ => True) w (some ⟨g, 0, none⟩) [v] := fun _ => ⟨g, 0, rfl, trivial, h.lt, fun j u hu => by rw [Nat.zero_add, h.cell j]; rcases j with _ | j <;> simp_all⟩
theorem only_anys {a w w' : World} {g : Nat} {base e z n : Nat} {v : Value} {xs : List Value} (h : a.grownBy w (some g)) (hg : w.grownBy w' v.ownBlock) (ho : w.ownsRow base e z v n xs) (hb : a.heap.size ≤ base) : a.grownBy w' (some g) := only_own h hg ho hb
def PRel1 (ss : List SegD) (B : Nat) (W1 : World) (vi : Value) (wr : World) : Prop :=
  ∃ k : Nat, vi = .int .i64 k ∧ k ≤ ss.length ∧ GM wr B W1.heap.size k (ofK (ss.take k)) ∧ W1.grownBy wr (some B)
def PRel2 (w : World) (ss : List SegD) (n gb bb r base : Nat) (vf : Value) (wr : World) : Prop :=
  ∃ (D : Kp → Prop) (acc : Option Kp), GW wr gb r base n (ofK ss) D ∧ BestOn (ofK ss) D acc ∧ PCur bb wr vf acc ∧ GM wr gb base n (ofK ss) ∧ w.grownBy wr none
section
variable {w wx w2 : World} {ss : List SegD} {n gb bb r base : Nat} {D : Kp → Prop} {kk : Kp}
theorem gleft_quiet {f : Kp → List Int} {w w' : World} (h : GW w gb r base n f D) (hg : w.grownBy w' none) : gleft gb r w' = gleft gb r w := by
  obtain ⟨es, clock, seen, c0, hb, hS, hr, rest⟩ := h
  exact gleft_eq (hg.block gb (Array.getElem?_eq_some_iff.1 hb).1 (by simp)) (hg.block r (Array.getElem?_eq_some_iff.1 hr).1 (by simp))
theorem gleft_few (h : GStep wx gb r base n (ofK ss) D kk w2) (o : Obj) : gleft gb r (w2.alloc o) < gleft gb r wx := by
  rw [gleft_quiet h.2.1 (World.grownBy_alloc w2 o none)]; exact h.2.2.2.2
theorem set2_grown (W : World) (bb : Nat) (u v : Value) : W.grownBy ((W.setCell ⟨bb, 0, none⟩ u).setCell ⟨bb, 1, none⟩ v) (some bb) := only_setCell (only_setCell (only_refl _ _) (p := ⟨bb, 0, none⟩) (.inl rfl) _) (p := ⟨bb, 1, none⟩) (.inl rfl) _
theorem gleft_take (h : GStep wx gb r base n (ofK ss) D kk w2) (o : Obj) (u v : Value) (h1 : bb ≠ gb) (h2 : bb ≠ r) : gleft gb r (((w2.setCell ⟨bb, 0, none⟩ u).setCell ⟨bb, 1, none⟩ v).alloc o) < gleft gb r wx := by
  rw [gleft_quiet (h.2.1.kept (set2_grown w2 bb u v) h1 h2) (World.grownBy_alloc _ o none), gleft_kept h.2.1 (set2_grown w2 bb u v) h1 h2]
  exact h.2.2.2.2
theorem prel_few {acc : Option Kp} {vf : Value} (hst : GStep wx gb r base n (ofK ss) D kk w2) (hw : GW wx gb r base n (ofK ss) D) (hbe : BestOn (ofK ss) (fun x => D x ∨ x = kk) acc) (hcur : PCur bb wx vf acc) (hM : GM wx gb base n (ofK ss)) (hG : w.grownBy wx none) (hne : bb ≠ r) (hr : w.heap.size ≤ r) (o : Obj) :
    PRel2 w ss n gb bb r base vf (w2.alloc o) := by
  obtain ⟨hk, h1, h2, h3, h4⟩ := hst
  have ha := World.grownBy_alloc w2 o none
  obtain ⟨m, s, seen, c0, hrr⟩ := hw.at
  exact ⟨_, acc, h1.quiet ha, hbe, (hcur.kept h2 (by intro e; injection e; exact hne (by assumption))).kept ha (by simp), (hM.iter hrr h2).quiet ha, only_alloc (only_fresh hG h2 hr) _⟩
theorem prel_take {acc : Option Kp} {vf : Value} (hst : GStep wx gb r base n (ofK ss) D kk w2) (hw : GW wx gb r base n (ofK ss) D) (hbe : BestOn (ofK ss) (fun x => D x ∨ x = kk) (some kk)) (hcur : PCur bb wx vf acc) (hM : GM wx gb base n (ofK ss)) (hG : w.grownBy wx none) (hne : bb ≠ r) (hng : bb ≠ gb) (hbl : bb < base) (hbw : w.heap.size ≤ bb) (hr : w.heap.size ≤ r) (o : Obj) :
    PRel2 w ss n gb bb r base (.bool true) (((w2.setCell ⟨bb, 0, none⟩ (.int .i64 kk.1)).setCell ⟨bb, 1, none⟩ (.int .i64 kk.2)).alloc o) := by
  obtain ⟨hk, h1, h2, h3, h4⟩ := hst
  have hs := set2_grown w2 bb (.int .i64 kk.1) (.int .i64 kk.2)
  have ha := World.grownBy_alloc ((w2.setCell ⟨bb, 0, none⟩ (.int .i64 kk.1)).setCell ⟨bb, 1, none⟩ (.int .i64 kk.2)) o none
  obtain ⟨m, s, seen, c0, hrr⟩ := hw.at
  obtain ⟨x, y, hB⟩ : ∃ x y, Blk wx bb 85 #[x, y] := by
    cases acc with
    | none => exact ⟨_, _, hcur.2⟩
    | some k => exact ⟨_, _, hcur.2.2⟩
  have hB2 := hB.grown h2 (by intro e; injection e; exact hne (by assumption))
  refine ⟨_, some kk, (h1.kept hs hng hne).quiet ha, hbe, ⟨hk, rfl, ?_⟩, ((hM.iter hrr h2).grown hs hng hbl).quiet ha, only_alloc (only_fresh (only_fresh hG h2 hr) hs hbw) _⟩
  have := ((hB2.set_ 0 (.int .i64 kk.1)).set_ 1 (.int .i64 kk.2)).alloc o
  simpa using this
end
set_option maxHeartbeats 8000000 in
set_option maxRecDepth 100000 in
theorem pchoose_any {S : Nat → Prop} (num nid jn : Int) (A : Option Addr) (ss : List SegD) (c : Nat) (B : Option Addr) (nb d : Nat) (C : Option Addr) (nc f : Nat) (E : Option Addr) (ne h : Nat) (w : World) (hr : Rd S w A (ss.flatMap SegD.cells)) (hl : ss.length ≤ 100000) (hb : ∀ s ∈ ss, 0 ≤ s.level ∧ s.level ≤ 1000 ∧ 0 ≤ s.tier ∧ s.tier ≤ 1000) (hasc : ∀ k, (ofK ss k).Pairwise (· ≤ ·)) :
    Calls Try.prog 21 #[.agg #[.int .i64 num, .int .i64 nid, .int .i64 jn, .slice A ss.length c, .slice B nb d, .slice C nc f, .slice E ne h]] w (ChPost w ss) := by
  obtain ⟨W0, hW0⟩ : ∃ W0, W0 = w.alloc (.cells #[.int .i64 num, .int .i64 nid, .int .i64 jn, .slice A ss.length c, .slice B nb d, .slice C nc f, .slice E ne h] 52) := ⟨_, rfl⟩
  obtain ⟨W1, hW1⟩ : ∃ W1, W1 = (W0.alloc (.map #[] 0)).alloc (.cells #[.int .i64 0, .int .i64 0] 85) := ⟨_, rfl⟩
  have G0 : Hid (w.grownBy W0 none) := Lib.hid (by rw [hW0]; exact only_alloc (only_refl _ _) _)
  have G01 : Hid (W0.grownBy W1 none) := Lib.hid (by rw [hW1]; exact only_alloc (only_alloc (only_refl _ _) _) _)
  have G1 : Hid (w.grownBy W1 none) := Lib.hid (only_trans G0.out G01.out)
  have hs0 : W0.heap.size = w.heap.size + 1 := by rw [hW0]; simp
  have hs1 : W1.heap.size = w.heap.size + 3 := by rw [hW1]; simp; omega
  obtain ⟨mb, hmb⟩ : ∃ b, b = w.heap.size := ⟨_, rfl⟩
  obtain ⟨gb, hgb⟩ : ∃ b, b = w.heap.size + 1 := ⟨_, rfl⟩
  obtain ⟨bb, hbb⟩ : ∃ b, b = w.heap.size + 2 := ⟨_, rfl⟩
  have B1 : Hid (Blk W1 mb 52 #[.int .i64 num, .int .i64 nid, .int .i64 jn, .slice A ss.length c, .slice B nb d, .slice C nc f, .slice E ne h]) := Lib.hid ((show Blk W0 mb _ _ by rw [hW0, hmb]; exact Blk.new w _ _).grown G01.out (by simp))
  have M1 : Hid (GM W1 gb W1.heap.size 0 (ofK (ss.take 0))) := Lib.hid (by
    have h0 := GM.made W0 (base := W1.heap.size) (by omega)
    rw [hs0, ← hgb] at h0
    have h1 := h0.quiet (w' := W1) (by rw [hW1]; exact only_alloc (only_refl _ _) _)
    exact h1)
  have BB1 : Hid (Blk W1 bb 85 #[.int .i64 0, .int .i64 0]) := Lib.hid (by
    have h0 := Blk.new (W0.alloc (.map #[] 0)) 85 #[.int .i64 0, .int .i64 0]
    rw [World.size_alloc, hs0] at h0
    rw [hW1, hbb]; exact h0)
  have HR := Lib.hid ((hr.mono (S' := (· < w.heap.size)) (fun b _ hb => hb)).grown G1.out (by simp))
  have HB := Lib.hid hb
  have HASC := Lib.hid hasc
  have HW0 := Lib.hid hW0.symm
  have HW1 := Lib.hid hW1.symm
  have HMB := Lib.hid hmb
  have HGB := Lib.hid hgb
  have HBB := Lib.hid hbb
  have HS0 := Lib.hid hs0
  have HS1 := Lib.hid hs1
  have hmm := @run_makeMap Try.prog
  clear hW0 hW1 hmb hgb hbb hr hb hasc hs0 hs1
  go_enter Try.func21, Try.ntmps21
  go_upto_region 1 with fail
  rw [HW0.out, ← HMB.out]
  go_upto_region 3 with fail
  have e1 : W0.heap.size = gb := by rw [HS0.out, HGB.out]
  have e2 : gb + 1 = bb := by rw [HBB.out, HGB.out]
  have hgl : gb < W1.heap.size := M1.out.lt
  have hbl : bb < W1.heap.size := BB1.out.lt
  have hml : mb < W1.heap.size := B1.out.lt
  have hmg : mb ≠ gb := by rw [HMB.out, HGB.out]; omega
  have hbg : bb ≠ gb := by omega
  have hwl : w.heap.size ≤ gb := by rw [HGB.out]; omega
  rw [HW1.out, e1, e2]
  clear e1 e2 HW0 HW1 hmm G0 G01
  have b3 := B1.out.cell 3
  simp at b3
  go_wp2_with fail
  clear b3
  go_loopw [15] (fun vi wr => PRel1 ss gb W1 vi wr) (fun vi _ => ss.length - (intOf vi).toNat)
  case atStart => exact ⟨0, rfl, Nat.zero_le _, M1.out, only_refl _ _⟩
  case round =>
    obtain ⟨k, rfl, hk, hM, hG⟩ := hrel
    have M := Lib.hid hM
    have G := Lib.hid hG
    have hszr := hG.size
    clear hM hG
    by_cases hkl : k < ss.length
    · obtain ⟨b, o, rfl, hbw, hbo, hcl⟩ := HR.out (by rw [flat_len _ 7 SegD.cells_len]; omega)
      obtain ⟨s, hs⟩ : ∃ s, ss[k]? = some s := ⟨_, List.getElem?_eq_getElem hkl⟩
      have hrr := HR.out.grown G.out (fun b hb e => by injection e; omega)
      have d0 : wr.cell? ⟨b, o + k * 7, none⟩ = some (.int .i64 s.id) := hrr.flatAt SegD.cells_len hs 0 (by omega)
      have d1 : wr.cell? ⟨b, o + k * 7 + 1, none⟩ = some (.int .i64 s.level) := hrr.flatAt SegD.cells_len hs 1 (by omega)
      have d2 : wr.cell? ⟨b, o + k * 7 + 2, none⟩ = some (.int .i64 s.tier) := hrr.flatAt SegD.cells_len hs 2 (by omega)
      have d3 : wr.cell? ⟨b, o + k * 7 + 3, none⟩ = some (.int .i64 s.count) := hrr.flatAt SegD.cells_len hs 3 (by omega)
      have d4 : wr.cell? ⟨b, o + k * 7 + 4, none⟩ = some (.int .i64 s.min) := hrr.flatAt SegD.cells_len hs 4 (by omega)
      have d5 : wr.cell? ⟨b, o + k * 7 + 5, none⟩ = some (.int .i64 s.max) := hrr.flatAt SegD.cells_len hs 5 (by omega)
      have d6 : wr.cell? ⟨b, o + k * 7 + 6, none⟩ = some (.int .i64 s.size) := hrr.flatAt SegD.cells_len hs 6 (by omega)
      have hbd := HB.out s (List.mem_of_getElem? hs)
      have HT : Hid (ofK (ss.take (k + 1)) = more (ofK (ss.take k)) (s.level, s.tier) s.id) := Lib.hid (by
        obtain ⟨q1, q2⟩ := List.getElem?_eq_some_iff.1 hs
        rw [List.take_succ_eq_append_getElem q1, q2, ofK_more])
      have hfl := ofK_len (ss.take k) (s.level, s.tier)
      have htl := List.length_take_le k ss
      have i1 : (k : Int) < (ss.length : Int) := by omega
      have i2 : (0 : Int) ≤ (k : Int) := by omega
      obtain ⟨W4, hW4⟩ : ∃ W4, W4 = ((wr.alloc (.cells #[.int .i64 s.id, .int .i64 s.level, .int .i64 s.tier, .int .i64 s.count, .int .i64 s.min, .int .i64 s.max, .int .i64 s.size] 29)).alloc (.cells #[.int .i64 s.level, .int .i64 s.tier] 85)).alloc (.cells #[.int .i64 s.id] 3) := ⟨_, rfl⟩
      have g4 : wr.grownBy W4 none := by rw [hW4]; exact only_alloc (only_alloc (only_alloc (only_refl _ _) _) _) _
      have B4 : Hid (Blk W4 (wr.heap.size + 1 + 1) 3 #[.int .i64 s.id]) := Lib.hid (by
        have h0 := Blk.new ((wr.alloc (.cells #[.int .i64 s.id, .int .i64 s.level, .int .i64 s.tier, .int .i64 s.count, .int .i64 s.min, .int .i64 s.max, .int .i64 s.size] 29)).alloc (.cells #[.int .i64 s.level, .int .i64 s.tier] 85)) 3 #[.int .i64 s.id]
        rw [World.size_alloc, World.size_alloc] at h0
        rw [hW4]; exact h0)
      have M4 := Lib.hid (M.out.quiet g4)
      have G4 := Lib.hid (only_trans G.out (only_of_none g4 _))
      have hs4 : W1.heap.size ≤ W4.heap.size := Nat.le_trans hszr g4.size
      have hs4' : wr.heap.size + 3 = W4.heap.size := by rw [hW4]; simp
      have HW4 := Lib.hid hW4.symm
      have HKO : Hid (KOk (s.level, s.tier)) := Lib.hid hbd
      clear hrr hs hcl hW4 g4
      go_wp2_with (first | (refine wpList_entry rfl _ _ rfl rfl (s.level, s.tier) rfl (by rw [HW4.out]; exact M4.out) HKO.out (by rw [HW4.out]; exact hs4) ?_; rw [HW4.out]; intro Av cv st w2 ho2 hg2 hback; have HO2 := Lib.hid ho2; have HG2 := Lib.hid hg2; have BK := Lib.hid hback; clear ho2 hg2 hback) | (refine wpList_appendN rfl _ _ 45 rfl W1.heap.size Try.underlying45 intInfoM rfl (by decide) (v := .slice Av (ofK (ss.take k) (s.level, s.tier)).length cv) (by rfl) HO2.out (S := fun _ => True) (some ⟨wr.heap.size + 1 + 1, 0, none⟩) 1 1 (news := [.int .i64 s.id]) (by rfl) (rd_one (B4.out.grown HG2.out (by intro e; injection e; omega))) rfl (by simp [Value.oneCell']) (by decide) (by omega) (by have := HG2.out.size; omega) ?_; intro v7 w7 hown7 hg7 hob7; have HO7 := Lib.hid hown7; have HG7 := Lib.hid hg7; have HB7 := Lib.hid hob7; clear hown7 hg7 hob7) | (refine wpList_estore rfl _ _ _ rfl rfl rfl rfl BK.out s.id HG7.out HO7.out (HB7.out.imp id (fun h => ⟨_, h, Nat.le_refl _⟩)) ?_; intro w8 hM8 hg8; have M8 := Lib.hid hM8; have HG8 := Lib.hid hg8; clear hM8 hg8))
      go_roundw
      case rel => exact ⟨k + 1, by go_num, by omega, by rw [HT.out]; exact M8.out, only_trans (only_anys (only_trans G4.out HG2.out) HG7.out HO2.out (Nat.le_refl _)) HG8.out⟩
      case measure => simp [intOf]; omega
    · have i1 : ¬ ((k : Int) < (ss.length : Int)) := by omega
      have hkk : ss.take k = ss := List.take_of_length_le (by omega)
      have M2 : Hid (GM wr gb W1.heap.size k (ofK ss)) := Lib.hid (by have := M.out; rw [hkk] at this; exact this)
      have BB2 := Lib.hid (BB1.out.grown G.out (by intro e; injection e; omega))
      have G2 : Hid (w.grownBy wr none) := Lib.hid (only_fresh G1.out G.out (by omega))
      clear hkk M
      go_wp2_with (refine wpList_range_GM rfl _ rfl rfl M2.out ?_; intro w2 hgw2 hg2 hs2; have GW2 := Lib.hid hgw2; have HG2 := Lib.hid hg2; have HS2 := Lib.hid hs2; clear hgw2 hg2 hs2; go_frame)
      obtain ⟨r, hr⟩ : ∃ r, r = wr.heap.size := ⟨_, rfl⟩
      rw [← hr] at GW2 ⊢
      have hrl : W1.heap.size ≤ r := by omega
      have HRR := Lib.hid hr
      clear hr
      go_loopw [8] (fun vf wx => PRel2 w ss k gb bb r W1.heap.size vf wx) (fun _ wx => gleft gb r wx)
      case atStart => exact ⟨_, none, GW2.out, (fun k hk => hk.elim), ⟨rfl, BB2.out.grown HG2.out (by simp)⟩, M2.out.quiet HG2.out, only_trans G2.out HG2.out⟩
      case round =>
        obtain ⟨D, acc, hgw, hbe, hcur, hMx, hGx⟩ := hrel
        have GX := Lib.hid hgw
        have BE := Lib.hid hbe
        have CU := Lib.hid hcur
        have MX := Lib.hid hMx
        have GG := Lib.hid hGx
        have hbr : bb ≠ r := by omega
        have hwr : w.heap.size ≤ r := by omega
        have hwb : w.heap.size ≤ bb := by rw [HBB.out]; omega
        clear hgw hbe hMx hGx GW2 HG2 HS2 BB2
        cases acc with
        | none =>
          obtain ⟨rfl, hbb⟩ := hcur
          have BX := Lib.hid hbb
          clear hbb
          go_upto_region 12 with (refine wpList_next_none rfl _ rfl rfl GX.out (fun hdone => ?_) (fun kk A2 c2 w2 hst hfew hen => ?_) (fun kk A2 c2 w2 hst hmany hen => ?_))
          · have BO : Hid (bestO ss none) := Lib.hid ⟨D, BE.out, fun c hc => hdone.out c (by intro e; rw [e] at hc; simp at hc)⟩
            go_wp2_with fail
            go_ret
            exact ⟨none, 0, none, BO.out, rfl, Nat.le_refl _, Nat.zero_le _, Rd.nil, GG.out⟩
          · have BE' := Lib.hid (BE.out.few (c := kk) (by omega))
            have hB2 := BX.out.grown hst.out.2.2.1 (by intro e; injection e; exact hbr (by assumption))
            have c0 := hB2.cell 0
            have c1 := hB2.cell 1
            have f0 := hB2.frozen 0
            have f1 := hB2.frozen 1
            simp at c0 c1
            have hl2 := hB2.lt
            have hn2 : bb ≠ w2.heap.size := by omega
            clear hB2
            go_wp2_with fail
            go_roundw
            case rel => exact prel_few hst.out GX.out BE'.out CU.out MX.out GG.out hbr hwr _
            case measure => exact gleft_few hst.out _
          · have BE' := Lib.hid (BE.out.first (c := kk) (by omega))
            have hB2 := BX.out.grown hst.out.2.2.1 (by intro e; injection e; exact hbr (by assumption))
            have c0 := hB2.cell 0
            have c1 := hB2.cell 1
            have f0 := hB2.frozen 0
            have f1 := hB2.frozen 1
            simp at c0 c1
            have hl2 := hB2.lt
            have hn2 : bb ≠ w2.heap.size := by omega
            clear hB2
            go_wp2_with fail
            go_roundw
            case rel => exact prel_take hst.out GX.out BE'.out CU.out MX.out GG.out hbr hbg hbl hwb hwr _
            case measure => exact gleft_take hst.out _ _ _ hbg hbr
        | some a =>
          obtain ⟨hka, rfl, hbb⟩ := hcur
          have BX := Lib.hid hbb
          have HKA := Lib.hid hka
          have cc0 := hbb.cell 0
          have cc1 := hbb.cell 1
          simp at cc0 cc1
          clear hbb hka
          go_upto_region 12 with (first | (refine wpList_next_some a.1 a.2 rfl _ rfl rfl GX.out (fun hdone => ?_) (fun kk A2 c2 w2 hst hfew hen => ?_) (fun kk A2 c2 w2 hst hmany q1 hen => ?_) (fun kk A2 c2 w2 hst hmany q1 q2 hen => ?_) (fun kk A2 c2 w2 hst hmany q1 q2 q3 hen => ?_) (fun kk A2 c2 w2 hst hmany q1 q2 q3 hen => ?_)) | (refine wpList_look rfl _ _ rfl rfl a rfl MX.out HKA.out ?_; intro Av cv hov; have HOV := Lib.hid hov; clear hov))
          · have BO : Hid (bestO ss (some a)) := Lib.hid ⟨D, BE.out, fun c hc => hdone.out c (by intro e; rw [e] at hc; simp at hc)⟩
            have h4 : 4 ≤ (ofK ss a).length := BE.out.2.1
            have hal := ofK_len ss a
            refine (values_any Av (ofK ss a).length cv _).mono ?_
            rintro e w5 ⟨rfl, hw5⟩
            have B5 : Hid (Blk w5 wr.heap.size 45 #[.slice Av (ofK ss a).length cv]) := Lib.hid (by rw [hw5]; exact Blk.new wr _ _)
            obtain ⟨Av', cv', hve, -, -, -, hrv⟩ := Rd.of_own HOV.out (by decide)
            injection hve with hve1 hve2 hve3
            subst hve1
            have g5 : wr.grownBy w5 none := by rw [hw5]; exact World.grownBy_alloc wr _ none
            have KS := Lib.hid (sorted_any Av (ofK ss a) cv wr.heap.size w5 (hrv.grown g5 (by simp)) B5.out (by omega) (HASC.out a))
            have G5 := Lib.hid (only_trans GG.out g5)
            have hs5 := G5.out.size
            clear hrv g5 hw5
            go_wp2_with fail
            refine KS.out.mono ?_
            rintro e w6 ⟨v6, rfl, ho6, hg6⟩
            have hwx := GG.out.size
            have G6 := Lib.hid (only_fresh G5.out hg6 hwx)
            obtain ⟨A6, c6, rfl, hc6, hm6, -, hr6⟩ := Rd.of_own ho6 (by decide)
            have R6 := Lib.hid hr6
            obtain ⟨b6, o6, rfl, -, -, -⟩ := hr6 (by simp; omega)
            have hc64 : 4 ≤ c6 := by omega
            clear ho6 hg6 hr6 KS
            go_wp2_with fail
            go_ret
            have hla : (chL (ofK ss) (some a)).length = 4 := chL_len h4
            refine ⟨_, c6, some a, BO.out, ret_slice hla.symm, by rw [hla]; exact hc64, hm6, ?_, G6.out⟩
            intro hp
            obtain ⟨b', o', e', x1, x2, x3⟩ := R6.out (by simp; omega)
            refine ⟨b', o', e', Nat.le_trans hs5 x1, x2, fun j u hu => x3 j u ?_⟩
            unfold chL at hu
            rw [List.getElem?_map, List.getElem?_take] at hu
            rw [List.getElem?_map]
            split at hu
            · exact hu
            · cases hu
          · have BE' := Lib.hid (BE.out.few (c := kk) (by omega))
            have hB2 := BX.out.grown hst.out.2.2.1 (by intro e; injection e; exact hbr (by assumption))
            have c0 := hB2.cell 0
            have c1 := hB2.cell 1
            have f0 := hB2.frozen 0
            have f1 := hB2.frozen 1
            simp at c0 c1
            have hl2 := hB2.lt
            have hn2 : bb ≠ w2.heap.size := by omega
            clear hB2
            go_wp2_with fail
            go_roundw
            case rel => exact prel_few hst.out GX.out BE'.out CU.out MX.out GG.out hbr hwr _
            case measure => exact gleft_few hst.out _
          · have BE' := Lib.hid (BE.out.better (c := kk) (by omega) (.inl q1))
            have hB2 := BX.out.grown hst.out.2.2.1 (by intro e; injection e; exact hbr (by assumption))
            have c0 := hB2.cell 0
            have c1 := hB2.cell 1
            have f0 := hB2.frozen 0
            have f1 := hB2.frozen 1
            simp at c0 c1
            have hl2 := hB2.lt
            have hn2 : bb ≠ w2.heap.size := by omega
            clear hB2
            go_wp2_with fail
            go_roundw
            case rel => exact prel_take hst.out GX.out BE'.out CU.out MX.out GG.out hbr hbg hbl hwb hwr _
            case measure => exact gleft_take hst.out _ _ _ hbg hbr
          · have BE' := Lib.hid (BE.out.later (c := kk) (by unfold Klt; simp only [beq_eq_false_iff_ne] at q2; omega))
            have hB2 := BX.out.grown hst.out.2.2.1 (by intro e; injection e; exact hbr (by assumption))
            have c0 := hB2.cell 0
            have c1 := hB2.cell 1
            have f0 := hB2.frozen 0
            have f1 := hB2.frozen 1
            simp at c0 c1
            have hl2 := hB2.lt
            have hn2 : bb ≠ w2.heap.size := by omega
            clear hB2
            go_wp2_with fail
            go_roundw
            case rel => exact prel_few hst.out GX.out BE'.out CU.out MX.out GG.out hbr hwr _
            case measure => exact gleft_few hst.out _
          · have BE' := Lib.hid (BE.out.better (c := kk) (by omega) (.inr ⟨by simpa using q2, q3⟩))
            have hB2 := BX.out.grown hst.out.2.2.1 (by intro e; injection e; exact hbr (by assumption))
            have c0 := hB2.cell 0
            have c1 := hB2.cell 1
            have f0 := hB2.frozen 0
            have f1 := hB2.frozen 1
            simp at c0 c1
            have hl2 := hB2.lt
            have hn2 : bb ≠ w2.heap.size := by omega
            clear hB2
            go_wp2_with fail
            go_roundw
            case rel => exact prel_take hst.out GX.out BE'.out CU.out MX.out GG.out hbr hbg hbl hwb hwr _
            case measure => exact gleft_take hst.out _ _ _ hbg hbr
          · have BE' := Lib.hid (BE.out.later (c := kk) (by unfold Klt; simp only [beq_iff_eq] at q2; omega))
            have hB2 := BX.out.grown hst.out.2.2.1 (by intro e; injection e; exact hbr (by assumption))
            have c0 := hB2.cell 0
            have c1 := hB2.cell 1
            have f0 := hB2.frozen 0
            have f1 := hB2.frozen 1
            simp at c0 c1
            have hl2 := hB2.lt
            have hn2 : bb ≠ w2.heap.size := by omega
            clear hB2
            go_wp2_with fail
            go_roundw
            case rel => exact prel_few hst.out GX.out BE'.out CU.out MX.out GG.out hbr hwr _
            case measure => exact gleft_few hst.out _
end Go.Proofs.Ytphglalphejppaa
