/- law33: TiersCopySwitch: the walk of the law itself (printed by mk33q.py). For every input. -/
import Derived.Test.YtganfhmjklcchaaGreatJSameBytes
namespace Go.Proofs.YtganfhmjklcchaaGreat
open Go.RowKit
set_option linter.unusedVariables false
set_option linter.unusedSimpArgs false

theorem alloc_mani (ρ : Operand → Value) (w : World) {o : Oper} (ho : o.op = .alloc 31 := by rfl) : (execOp ρ o).run Tryz.prog w = .ok (.value (.pointer (some ⟨w.heap.size, 0, none⟩))) (w.alloc (.cells #[.int .i64 0, .int .i64 0, .int .i64 0, .slice none 0 0, .slice none 0 0, .slice none 0 0, .slice none 0 0] 31)) := by
  simp only [execOp, ho]
  kernel_rfl
theorem store_mani (w : World) (g : Nat) (a0 a1 a2 : Int) (A' : Option Addr) (n' c' : Nat) {t : TypeId} (h : Blk w g t #[.int .i64 0, .int .i64 0, .int .i64 0, .slice none 0 0, .slice none 0 0, .slice none 0 0, .slice none 0 0]) :
    ∃ w', (Instr.storeAt 31 (.pointer (some ⟨g, 0, none⟩)) (.agg #[.int .i64 a0, .int .i64 a1, .int .i64 a2, .slice A' n' c', .slice none 0 0, .slice none 0 0, .slice none 0 0])).run Tryz.prog w = .ok () w' ∧ Blk w' g t #[.int .i64 a0, .int .i64 a1, .int .i64 a2, .slice A' n' c', .slice none 0 0, .slice none 0 0, .slice none 0 0] ∧ w.grownBy w' (some g) := by
  have q0 := h.cell 0
  have q1 := h.cell 1
  have q2 := h.cell 2
  have q3 := h.cell 3
  have q4 := h.cell 4
  have q5 := h.cell 5
  have q6 := h.cell 6
  simp at q0 q1 q2 q3 q4 q5 q6
  have p0 := h.frozen 0
  have p1 := h.frozen 1
  have p2 := h.frozen 2
  have p3 := h.frozen 3
  have p4 := h.frozen 4
  have p5 := h.frozen 5
  have p6 := h.frozen 6
  have hu := Tryz.underlying31
  refine ⟨((((((w.setCell ⟨g, 0, none⟩ (.int .i64 a0)).setCell ⟨g, 1, none⟩ (.int .i64 a1)).setCell ⟨g, 2, none⟩ (.int .i64 a2)).setCell ⟨g, 3, none⟩ (.slice A' n' c')).setCell ⟨g, 4, none⟩ (.slice none 0 0)).setCell ⟨g, 5, none⟩ (.slice none 0 0)).setCell ⟨g, 6, none⟩ (.slice none 0 0), ?_, ?_, ?_⟩
  · simp [go_sem, q0, q1, q2, q3, q4, q5, q6, p0, p1, p2, p3, p4, p5, p6]
  · exact blk_put7 h _ _ _ _ _ _ _
  · exact only_set7 (only_refl _ _) _ _ _ _ _ _ _
/-- what a switched manifest's entries are -/
def SwF (S : Nat → Prop) (num nid : Int) (ss' : List SegD) (E a0 a1 a2 : Int) (A' : Option Addr) (n' c' : Nat) (w : World) : Prop :=
  E = 0 → a0 = num + 1 ∧ a1 = nid ∧ a2 = 0 ∧ n' = ss'.length ∧ n' ≤ c' ∧ c' ≤ maxLen ∧ Rd S w A' (ss'.flatMap SegD.cells)
def CpF (bs : List BlobD) (x y : Int) (p : Int × List Int) (A' : Option Addr) (n' c' : Nat) (w : World) : Prop :=
  p.1 = 0 → ∃ (x' : BlobD) (bs' : List BlobD), x'.key = (x, y, p.2) ∧ bs' = putB bs x y x' ∧ n' = bs'.length ∧ n' ≤ c' ∧ c' ≤ maxLen ∧ (A' = none → c' = 0) ∧ Rd (fun _ => True) w A' (bs'.flatMap BlobD.cells) ∧ ∀ x ∈ bs', x.Sub (fun _ => True) w
def Sx (W0 : World) (d : Bool) (v : Value) (b : Nat) : Prop := W0.heap.size ≤ b ∧ (d = true → v ≠ .pointer (some ⟨b, 0, none⟩))
theorem SwF.quiet {S S' : Nat → Prop} {num nid : Int} {ss' : List SegD} {E a0 a1 a2 : Int} {A' : Option Addr} {n' c' : Nat} {w w' : World} (h : SwF S num nid ss' E a0 a1 a2 A' n' c' w) {row : Option Nat} (hg : w.grownBy w' row) (hr : ∀ b, S b → some b ≠ row) (hS : ∀ b, S b → b < w.heap.size → S' b) : SwF S' num nid ss' E a0 a1 a2 A' n' c' w' := fun e => by
  obtain ⟨h1, h2, h3, h4, h5, h6, h7⟩ := h e
  exact ⟨h1, h2, h3, h4, h5, h6, (h7.mono (S' := fun b => S b ∧ S' b) (fun b hb hlt => ⟨hb, hS b hb hlt⟩)).grown hg (fun b hb => hr b hb.1) |>.mono (fun b hb _ => hb.2)⟩
set_option maxHeartbeats 16000000 in
set_option maxRecDepth 100000 in
theorem law_copyswitch (A : Option Addr) (l0 : List Int) (d : Nat) (id tier : Int) (w : World) (h : Rd (fun _ => True) w A (l0.map (.int .u8))) (hc : l0.length ≤ d) (hcm : d ≤ maxLen) (hx : ∀ x ∈ l0, 0 ≤ x ∧ x ≤ 255) :
    Calls Tryz.prog 4 #[.slice A l0.length d, .int .i64 id, .int .i64 tier] w (TrueExt w) := by
  obtain ⟨g0, hg0⟩ : ∃ g, g = w.heap.size := ⟨_, rfl⟩
  have HX := Lib.hid hx
  have HL := Lib.hid h
  clear hx h hg0
  go_enter Tryz.func4, Tryz.ntmps4
  go_wp2_with fail
  refine (awake33_any w).mono ?_
  rintro e w1 ⟨rfl, hg1⟩
  have KS := Lib.hid (scene_any true A l0 d w1 (HL.out.grown hg1 (by simp)) hc hcm HX.out)
  have G1 := Lib.hid hg1
  clear hg1 HL HX
  go_wp2_with fail
  refine KS.out.mono ?_
  rintro e w2 ⟨A0, bs, c, num, nid, A2, ss, c2, g, l, k, rfl, hcd, hsh, hrd, hl2, hm2, hok, hn3, hs3, hb6, hsrt, hinh, hgd, hwg, hg2⟩
  obtain ⟨mb, hmb⟩ : ∃ b, b = w2.heap.size := ⟨_, rfl⟩
  obtain ⟨W3, hW3⟩ : ∃ W, W = w2.alloc (.cells #[.int .i64 num, .int .i64 nid, .int .i64 0, .slice A2 ss.length c2, .slice none 0 0, .slice none 0 0, .slice none 0 0] 31) := ⟨_, rfl⟩
  have g3 : w2.grownBy W3 none := by rw [hW3]; exact only_alloc (only_refl _ _) _
  have L3 : Hid (L33 g l mb A0 bs c num nid A2 ss c2 W3) := Lib.hid { mB := by rw [hW3, hmb]; exact Blk.new w2 _ _, cd := ⟨k, hcd.grown g3 (by simp)⟩, sh := hsh.grown g3 (by simp), rd := hrd.grown g3 (by simp) }
  have G3 := Lib.hid (only_trans (only_trans G1.out hg2) g3)
  have hgm : g < mb := by have := hcd.lt; omega
  have hwg2 : w.heap.size ≤ g := by have := G1.out.size; omega
  have hmg : mb ≠ g := by omega
  have SH2 : Hid (Rd (fun b => g < b ∧ b ≠ mb) W3 A0 (bs.flatMap BlobD.cells) ∧ (∀ x ∈ bs, x.Sub (fun b => g < b ∧ b ≠ mb) W3) ∧ Rd (fun b => g < b ∧ b ≠ mb) W3 A2 (ss.flatMap SegD.cells) ∧ bs.length ≤ c ∧ c ≤ maxLen ∧ (A0 = none → c = 0)) := Lib.hid ⟨(hsh.1.mono (S' := fun b => g < b ∧ b ≠ mb) (fun b hb hlt => (by have h0 : g + 1 ≤ b := hb; omega))).grown g3 (by simp), fun x hx => ((hsh.2.1 x hx).mono (S' := fun b => g < b ∧ b ≠ mb) (fun b hb hlt => (by have h0 : g + 1 ≤ b := hb; omega))).grown g3 (by simp), (hrd.mono (S' := fun b => g < b ∧ b ≠ mb) (fun b hb hlt => (by have h0 : g + 1 ≤ b := hb; omega))).grown g3 (by simp), hsh.2.2⟩
  have PU := Lib.hid (And.intro hl2 (And.intro hm2 (And.intro hok (And.intro hsrt (And.intro hinh hgd)))))
  have HW3 := Lib.hid hW3.symm
  have HMB := Lib.hid hmb
  clear hW3 hmb hcd hsh hrd hm2 hok hsrt hinh hgd hg2 g3 KS G1
  clear SH2
  obtain ⟨k3, hk3⟩ := L3.out.cd
  go_upto_region 4 with fail
  rw [HW3.out, ← HMB.out]
  clear HW3
  go_wp2_with fail
  refine (next_some g l k3 5 W3 hk3 (by omega) (by omega)).mono ?_
  rintro e w5 ⟨v5, k5, rfl, hv5, h5, hg5⟩
  go_wp2_with fail
  refine (next_some g l k5 3 w5 h5 (by omega) (by omega)).mono ?_
  rintro e w6 ⟨v6, k6, rfl, hv6, h6, hg6⟩
  go_wp2_with fail
  refine (next_some g l k6 4 w6 h6 (by omega) (by omega)).mono ?_
  rintro e w7 ⟨v7, k7, rfl, hv7, h7, hg7⟩
  have hg57 := only_trans (only_trans hg5 hg6) hg7
  have L7 := Lib.hid (L3.out.code hg57 h7 hmg)
  have G7 := Lib.hid (only_fresh G3.out hg57 hwg2)
  clear hk3 hg5 hg6 hg7 hg57 h5 h6 h7 hv5 hv6 hv7 L3 G3
  go_wp2_with fail
  refine (mod_is tier 5 w7 (by omega) (by omega)).mono ?_
  rintro e w8 ⟨rfl, rfl⟩
  obtain ⟨m8, hm8⟩ : ∃ m, m = modV tier 5 := ⟨_, rfl⟩
  have hm8l : m8 < 5 := by rw [hm8]; exact modV_lt tier (by omega)
  rw [← hm8]
  have hwm8 : IntKind.i64.wrap ((m8 : Int) - 1) = (m8 : Int) - 1 := IntWalk.i64_in _ (by omega)
  clear hm8
  obtain ⟨lb, hlb⟩ : ∃ b, b = w8.heap.size := ⟨_, rfl⟩
  obtain ⟨W9, hW9⟩ : ∃ W, W = w8.alloc (.cells #[.int .i64 id, .int .i64 tier, .int .i64 v5, .int .i64 v6, .int .i64 v7, .int .i64 ((m8 : Int) - 1)] 44) := ⟨_, rfl⟩
  have g9 : w8.grownBy W9 none := by rw [hW9]; exact only_alloc (only_refl _ _) _
  have B9 : Hid (Blk W9 lb 44 #[.int .i64 id, .int .i64 tier, .int .i64 v5, .int .i64 v6, .int .i64 v7, .int .i64 ((m8 : Int) - 1)]) := Lib.hid (by rw [hW9, hlb]; exact Blk.new w8 _ _)
  have L9 := Lib.hid (L7.out.quiet g9)
  have GW := Lib.hid (only_trans G7.out g9)
  have HW9 := Lib.hid hW9.symm
  have HLB := Lib.hid hlb
  clear hW9 hlb g9 L7 G7
  go_upto_region 5 with fail
  rw [HW9.out, ← HLB.out]
  clear HW9 hwm8
  go_wp2_with fail
  go_loopw [11] (fun vi wr => ∃ k : Nat, vi = .int .i64 k ∧ k ≤ 3 ∧ W9.grownBy wr none) (fun vi _ => 3 - (intOf vi).toNat)
  case atStart => exact ⟨0, rfl, by omega, only_refl _ _⟩
  case round =>
    obtain ⟨k, rfl, hk, hG⟩ := hrel
    have GR := Lib.hid hG
    clear hG
    by_cases hk3 : k < 3
    · obtain ⟨x, y, hx0, hy0⟩ : ∃ x y : Int, (#[.int .i64 id, .int .i64 tier, .int .i64 v5, .int .i64 v6, .int .i64 v7, .int .i64 ((m8 : Int) - 1)] : Array Value)[k * 2]? = some (.int .i64 x) ∧ (#[.int .i64 id, .int .i64 tier, .int .i64 v5, .int .i64 v6, .int .i64 v7, .int .i64 ((m8 : Int) - 1)] : Array Value)[k * 2 + 1]? = some (.int .i64 y) := by
        have : k = 0 ∨ k = 1 ∨ k = 2 := by omega
        rcases this with rfl | rfl | rfl <;> exact ⟨_, _, rfl, rfl⟩
      have DC : Hid (∀ W, W9.grownBy W none → W.cell? ⟨lb, k * 2, none⟩ = some (.int .i64 x) ∧ W.cell? ⟨lb, k * 2 + 1, none⟩ = some (.int .i64 y)) := Lib.hid (fun W hW => ⟨((B9.out.grown hW (by simp)).cell _).trans hx0, ((B9.out.grown hW (by simp)).cell _).trans hy0⟩)
      have hkl : (k : Int) < 3 := by omega
      have hk0 : (0 : Int) ≤ (k : Int) := by omega
      obtain ⟨p, hp⟩ : ∃ p, p = copyO ss bs x y := ⟨_, rfl⟩
      have KP := Lib.hid (fun (W : World) (hW : W9.grownBy W none) => pcopy_any (S := fun _ => True) A0 bs c num nid 0 A2 ss c2 x y W ((L9.out.sh.1.grown hW (by simp)).mono (fun _ _ _ => trivial)) (fun z hz => ((L9.out.sh.2.1 z hz).grown hW (by simp)).mono (fun _ _ _ => trivial)) (fun _ _ => trivial) (by omega) L9.out.sh.2.2.1 L9.out.sh.2.2.2.1 L9.out.sh.2.2.2.2 PU.out.2.2.2.1 PU.out.2.2.2.2.1 (L9.out.rd.grown hW (by simp)) (by omega))
      have KR := Lib.hid (fun (W : World) (hW : W9.grownBy W none) => rcopy_any (S := fun _ => True) A0 bs c num nid 0 A2 ss c2 x y W ((L9.out.sh.1.grown hW (by simp)).mono (fun _ _ _ => trivial)) (fun z hz => ((L9.out.sh.2.1 z hz).grown hW (by simp)).mono (fun _ _ _ => trivial)) (fun _ _ => trivial) (by omega) L9.out.sh.2.2.1 L9.out.sh.2.2.2.1 L9.out.sh.2.2.2.2 PU.out.2.2.2.1 PU.out.2.2.2.2.1 (L9.out.rd.grown hW (by simp)) (by omega))
      rw [← hp] at KP KR
      obtain ⟨E, hE⟩ : ∃ E, E = switchE ss bs x y := ⟨_, rfl⟩
      have hnum : 0 ≤ num ∧ num ≤ 1000000 := ⟨PU.out.2.2.1.hnum.1, by omega⟩
      have KX := Lib.hid (fun (W : World) (hW : W9.grownBy W none) => pswitch_any A0 bs c num nid 0 A2 ss c2 x y W (L9.out.sh.1.grown hW (by simp)) (fun z hz => (L9.out.sh.2.1 z hz).grown hW (by simp)) (by omega) PU.out.2.2.2.1 PU.out.2.2.2.2.1 (L9.out.rd.grown hW (by simp)) (by omega) PU.out.1 PU.out.2.1 PU.out.2.2.1.asc hnum)
      have KY := Lib.hid (fun (W : World) (hW : W9.grownBy W none) => rswitch_any A0 bs c num nid 0 A2 ss c2 x y W (L9.out.sh.1.grown hW (by simp)) (fun z hz => (L9.out.sh.2.1 z hz).grown hW (by simp)) (by omega) PU.out.2.2.2.1 PU.out.2.2.2.2.1 (L9.out.rd.grown hW (by simp)) (by omega) PU.out.1 PU.out.2.1 PU.out.2.2.1.asc hnum)
      rw [← hE] at KX KY
      clear hx0 hy0 hp hE hnum
      obtain ⟨W0, rfl⟩ : ∃ W0 : World, W0 = wr := ⟨_, rfl⟩
      obtain ⟨d0, d1⟩ := DC.out W0 GR.out
      have HBM := Lib.hid (L9.out.mB.grown GR.out (by simp))
      have hlbo : lb < W0.heap.size := (B9.out.grown GR.out (by simp)).lt
      have KP1 := Lib.hid (fun (W : World) (hW : W0.grownBy W none) => KP.out W (only_trans GR.out hW))
      obtain ⟨Ec, hEc⟩ : ∃ E, E = p.1 := ⟨_, rfl⟩
      have HEC := Lib.hid hEc
      clear hEc
      go_upto_region 8 with fail
      refine wp_region_gen 17 (JC [some (.slice A0 bs.length c), some (.agg #[.int .i64 num, .int .i64 nid, .int .i64 0, .slice A2 ss.length c2, .slice none 0 0, .slice none 0 0, .slice none 0 0]), some (.slice (some ⟨lb, 0, none⟩) 3 3), some (.int .i64 ((k : Int))), some (.pointer (some ⟨lb, k * 2, none⟩)), some (.pointer (some ⟨lb, k * 2, none⟩)), some (.int .i64 (x)), some (.slice (some ⟨lb, 0, none⟩) 3 3), some (.int .i64 ((k : Int))), some (.pointer (some ⟨lb, k * 2, none⟩)), some (.pointer (some ⟨lb, k * 2 + 1, none⟩)), some (.int .i64 (y)), none, none, none, none, none] (fun D u wx => W0.grownBy wx none ∧ ∃ (A' : Option Addr) (n' c' : Nat), (D 12 = true → u 12 = (.tuple #[.slice A' n' c', .int .i64 Ec] : Value) ∧ CpF bs x y p A' n' c' wx) ∧ (D 13 = true → D 12 = true ∧ u 13 = (.tuple #[.slice A' n' c', .int .i64 Ec] : Value)) ∧ (D 14 = true → D 12 = true ∧ u 14 = .slice A' n' c') ∧ (D 15 = true → D 12 = true ∧ u 15 = .int .i64 Ec) ∧ (D 16 = true → D 12 = true ∧ u 16 = .slice A' n' c'))) (by kernel_rfl) (by kernel_rfl) ?_ ?_ ?_
      · intro u
        exact ⟨(fun j c _ h => by cases h), only_drew (only_refl _ _), none, 0, 0, (fun h => by cases h), (fun h => by cases h), (fun h => by cases h), (fun h => by cases h), (fun h => by cases h)⟩
      · intro AA hA
        have hasz : AA.tmps.size = 139 := by rw [hA]; kernel_rfl
        have ea7 : AA.eval (.tmp 7) = .slice A0 bs.length c := by rw [hA]; kernel_rfl
        have ea8 : AA.eval (.tmp 8) = .pointer (some ⟨mb, 0, none⟩) := by rw [hA]; kernel_rfl
        have ea10 : AA.eval (.tmp 10) = .slice (some ⟨lb, 0, none⟩) 3 3 := by rw [hA]; kernel_rfl
        have ea11 : AA.eval (.tmp 11) = .int .i64 ((k : Int)) := by rw [hA]; kernel_rfl
        clear hA
        simp only [List.take_succ_cons, List.take_zero]
        refine .cons ?_ (.cons ?_ (.cons ?_ (.cons ?_ (.cons ?_ (.cons ?_ (.cons ?_ (.cons ?_ (.cons ?_ (.cons ?_ (.cons ?_ (.cons ?_ (.cons ?_ (.cons ?_ (.cons ?_ (.cons ?_ (.cons ?_ (.nil)))))))))))))))))
        · exact gd_gen (by kernel_rfl) (Want.none_ rfl) rfl (fun D u w v h => by simpa [updB, upd] using h) (fun D u ρ w kn => by
            have e0 := kn.own 7 (c := .slice A0 bs.length c) (by kernel_rfl) ea7
            simp [execOp, kn.rho.con, e0, go_sem])
        · exact gd_gen (by kernel_rfl) (Want.none_ rfl) rfl (fun D u w v h => by simpa [updB, upd] using h) (fun D u ρ w kn => by
            have e0 := kn.own 8 (c := .pointer (some ⟨mb, 0, none⟩)) (by kernel_rfl) ea8
            exact run_load ρ w rfl e0 (load_mani w mb (HBM.out.grown kn.ext.1 (by simp))))
        · exact gd_gen (by kernel_rfl) (Want.none_ rfl) rfl (fun D u w v h => by simpa [updB, upd] using h) (fun D u ρ w kn => by
            have e0 := kn.own 10 (c := .slice (some ⟨lb, 0, none⟩) 3 3) (by kernel_rfl) ea10
            simp [execOp, kn.rho.con, e0, go_sem])
        · exact gd_gen (by kernel_rfl) (Want.none_ rfl) rfl (fun D u w v h => by simpa [updB, upd] using h) (fun D u ρ w kn => by
            have e0 := kn.own 11 (c := .int .i64 ((k : Int))) (by kernel_rfl) ea11
            simp [execOp, kn.rho.con, e0, go_sem])
        · exact gd_gen (by kernel_rfl) (Want.none_ rfl) rfl (fun D u w v h => by simpa [updB, upd] using h) (fun D u ρ w kn => by
            have e0 := kn.con 2 52 (c := .slice (some ⟨lb, 0, none⟩) 3 3) (by kernel_rfl) (by omega) (by kernel_rfl) rfl
            have e1 := kn.con 3 53 (c := .int .i64 ((k : Int))) (by kernel_rfl) (by omega) (by kernel_rfl) rfl
            simp [execOp, kn.rho.con, e0, e1, go_sem, hkl, hk0])
        · exact gd_gen (by kernel_rfl) (Want.none_ rfl) rfl (fun D u w v h => by simpa [updB, upd] using h) (fun D u ρ w kn => by
            have e0 := kn.con 4 54 (c := .pointer (some ⟨lb, k * 2, none⟩)) (by kernel_rfl) (by omega) (by kernel_rfl) rfl
            simp [execOp, kn.rho.con, e0, go_sem])
        · exact gd_gen (by kernel_rfl) (Want.none_ rfl) rfl (fun D u w v h => by simpa [updB, upd] using h) (fun D u ρ w kn => by
            have e0 := kn.con 5 55 (c := .pointer (some ⟨lb, k * 2, none⟩)) (by kernel_rfl) (by omega) (by kernel_rfl) rfl
            have f0 := (World.cell?_of_block (w := W0) (a := ⟨lb, k * 2, none⟩) (kn.ext.1.block lb hlbo (by simp))).trans d0
            simp [execOp, kn.rho.con, e0, f0, go_sem])
        · exact gd_gen (by kernel_rfl) (Want.none_ rfl) rfl (fun D u w v h => by simpa [updB, upd] using h) (fun D u ρ w kn => by
            have e0 := kn.own 10 (c := .slice (some ⟨lb, 0, none⟩) 3 3) (by kernel_rfl) ea10
            simp [execOp, kn.rho.con, e0, go_sem])
        · exact gd_gen (by kernel_rfl) (Want.none_ rfl) rfl (fun D u w v h => by simpa [updB, upd] using h) (fun D u ρ w kn => by
            have e0 := kn.own 11 (c := .int .i64 ((k : Int))) (by kernel_rfl) ea11
            simp [execOp, kn.rho.con, e0, go_sem])
        · exact gd_gen (by kernel_rfl) (Want.none_ rfl) rfl (fun D u w v h => by simpa [updB, upd] using h) (fun D u ρ w kn => by
            have e0 := kn.con 7 57 (c := .slice (some ⟨lb, 0, none⟩) 3 3) (by kernel_rfl) (by omega) (by kernel_rfl) rfl
            have e1 := kn.con 8 58 (c := .int .i64 ((k : Int))) (by kernel_rfl) (by omega) (by kernel_rfl) rfl
            simp [execOp, kn.rho.con, e0, e1, go_sem, hkl, hk0])
        · exact gd_gen (by kernel_rfl) (Want.none_ rfl) rfl (fun D u w v h => by simpa [updB, upd] using h) (fun D u ρ w kn => by
            have e0 := kn.con 9 59 (c := .pointer (some ⟨lb, k * 2, none⟩)) (by kernel_rfl) (by omega) (by kernel_rfl) rfl
            simp [execOp, kn.rho.con, e0, go_sem])
        · exact gd_gen (by kernel_rfl) (Want.none_ rfl) rfl (fun D u w v h => by simpa [updB, upd] using h) (fun D u ρ w kn => by
            have e0 := kn.con 10 60 (c := .pointer (some ⟨lb, k * 2 + 1, none⟩)) (by kernel_rfl) (by omega) (by kernel_rfl) rfl
            have f0 := (World.cell?_of_block (w := W0) (a := ⟨lb, k * 2 + 1, none⟩) (kn.ext.1.block lb hlbo (by simp))).trans d1
            simp [execOp, kn.rho.con, e0, f0, go_sem])
        · refine gd_call (by kernel_rfl) (Want.none_ rfl) 16 (fun D u ρ wx kn hD => ?_)
          have e0 := kn.con 0 50 (c := .slice A0 bs.length c) (by kernel_rfl) (by omega) (by kernel_rfl) rfl
          have e1 := kn.con 1 51 (c := .agg #[.int .i64 num, .int .i64 nid, .int .i64 0, .slice A2 ss.length c2, .slice none 0 0, .slice none 0 0, .slice none 0 0]) (by kernel_rfl) (by omega) (by kernel_rfl) rfl
          have e2 := kn.con 6 56 (c := .int .i64 x) (by kernel_rfl) (by omega) (by kernel_rfl) rfl
          have e3 := kn.con 11 61 (c := .int .i64 y) (by kernel_rfl) (by omega) (by kernel_rfl) rfl
          obtain ⟨x1, A', n', c', x2, x3, x4, x5, x6⟩ := kn.ext
          have h13 : D 13 = false := by cases h : D 13 with | false => rfl | true => have := (x3 h).1; rw [hD] at this; cases this
          have h14 : D 14 = false := by cases h : D 14 with | false => rfl | true => have := (x4 h).1; rw [hD] at this; cases this
          have h15 : D 15 = false := by cases h : D 15 with | false => rfl | true => have := (x5 h).1; rw [hD] at this; cases this
          have h16 : D 16 = false := by cases h : D 16 with | false => rfl | true => have := (x6 h).1; rw [hD] at this; cases this
          refine ⟨#[.slice A0 bs.length c, .agg #[.int .i64 num, .int .i64 nid, .int .i64 0, .slice A2 ss.length c2, .slice none 0 0, .slice none 0 0, .slice none 0 0], .int .i64 x, .int .i64 y], ?_, (KP1.out wx x1).mono ?_⟩
          · simp only [execOp, resolve, Deferred.ofValue, List.map_toArray, List.map_cons, List.map_nil, e0, e1, e2, e3, kn.rho.con, kn.rho.fn]
            simp [go_sem]
          · rintro e w' ⟨hg, B', m', d', rfl, hz⟩
            exact ⟨_, rfl, (fun c h => by cases h), only_trans x1 hg, B', m', d', (fun _ => ⟨(upd_at _ _ _).trans (by rw [HEC.out]), hz⟩), (fun h => by rw [updB_ne D (show (13 : Nat) ≠ 12 by omega), h13] at h; cases h), (fun h => by rw [updB_ne D (show (14 : Nat) ≠ 12 by omega), h14] at h; cases h), (fun h => by rw [updB_ne D (show (15 : Nat) ≠ 12 by omega), h15] at h; cases h), (fun h => by rw [updB_ne D (show (16 : Nat) ≠ 12 by omega), h16] at h; cases h)⟩
        · refine gd_eff (by kernel_rfl) (Want.none_ rfl) (fun D u ρ wx kn hD => ?_)
          have e0 := kn.slot 12 62 (by kernel_rfl) (by omega)
          have dd := kn.dep 12 (by kernel_rfl)
          obtain ⟨x1, A', n', c', x2, x3, x4, x5, x6⟩ := kn.ext
          have dc : D 12 = true := dd
          have hu := (x2 dd).1
          rw [hu] at e0
          refine ⟨(.tuple #[.slice A' n' c', .int .i64 Ec] : Value), wx, by simp [execOp, kn.rho.con, e0, go_sem], (fun c h => by cases h), x1, A', n', c', ?_, ?_, ?_, ?_, ?_⟩
          · intro h; rw [upd_ne u _ (show (12 : Nat) ≠ 13 by omega)]; exact x2 dc
          · intro h; rw [updB_ne D (show (12 : Nat) ≠ 13 by omega)]; exact ⟨dc, upd_at _ _ _⟩
          · intro h; rw [updB_ne D (show (14 : Nat) ≠ 13 by omega)] at h; rw [updB_ne D (show (12 : Nat) ≠ 13 by omega), upd_ne u _ (show (14 : Nat) ≠ 13 by omega)]; exact x4 h
          · intro h; rw [updB_ne D (show (15 : Nat) ≠ 13 by omega)] at h; rw [updB_ne D (show (12 : Nat) ≠ 13 by omega), upd_ne u _ (show (15 : Nat) ≠ 13 by omega)]; exact x5 h
          · intro h; rw [updB_ne D (show (16 : Nat) ≠ 13 by omega)] at h; rw [updB_ne D (show (12 : Nat) ≠ 13 by omega), upd_ne u _ (show (16 : Nat) ≠ 13 by omega)]; exact x6 h
        
        · refine gd_eff (by kernel_rfl) (Want.none_ rfl) (fun D u ρ wx kn hD => ?_)
          have e0 := kn.slot 13 49 (by kernel_rfl) (by omega)
          have dd := kn.dep 13 (by kernel_rfl)
          obtain ⟨x1, A', n', c', x2, x3, x4, x5, x6⟩ := kn.ext
          have dc : D 12 = true := (x3 dd).1
          have hu := (x3 dd).2
          rw [hu] at e0
          refine ⟨.slice A' n' c', wx, by simp [execOp, kn.rho.con, e0, go_sem], (fun c h => by cases h), x1, A', n', c', ?_, ?_, ?_, ?_, ?_⟩
          · intro h; rw [upd_ne u _ (show (12 : Nat) ≠ 14 by omega)]; exact x2 dc
          · intro h; rw [updB_ne D (show (13 : Nat) ≠ 14 by omega)] at h; rw [updB_ne D (show (12 : Nat) ≠ 14 by omega), upd_ne u _ (show (13 : Nat) ≠ 14 by omega)]; exact x3 h
          · intro h; rw [updB_ne D (show (12 : Nat) ≠ 14 by omega)]; exact ⟨dc, upd_at _ _ _⟩
          · intro h; rw [updB_ne D (show (15 : Nat) ≠ 14 by omega)] at h; rw [updB_ne D (show (12 : Nat) ≠ 14 by omega), upd_ne u _ (show (15 : Nat) ≠ 14 by omega)]; exact x5 h
          · intro h; rw [updB_ne D (show (16 : Nat) ≠ 14 by omega)] at h; rw [updB_ne D (show (12 : Nat) ≠ 14 by omega), upd_ne u _ (show (16 : Nat) ≠ 14 by omega)]; exact x6 h
        
        · refine gd_eff (by kernel_rfl) (Want.none_ rfl) (fun D u ρ wx kn hD => ?_)
          have e0 := kn.slot 13 49 (by kernel_rfl) (by omega)
          have dd := kn.dep 13 (by kernel_rfl)
          obtain ⟨x1, A', n', c', x2, x3, x4, x5, x6⟩ := kn.ext
          have dc : D 12 = true := (x3 dd).1
          have hu := (x3 dd).2
          rw [hu] at e0
          refine ⟨.int .i64 Ec, wx, by simp [execOp, kn.rho.con, e0, go_sem], (fun c h => by cases h), x1, A', n', c', ?_, ?_, ?_, ?_, ?_⟩
          · intro h; rw [upd_ne u _ (show (12 : Nat) ≠ 15 by omega)]; exact x2 dc
          · intro h; rw [updB_ne D (show (13 : Nat) ≠ 15 by omega)] at h; rw [updB_ne D (show (12 : Nat) ≠ 15 by omega), upd_ne u _ (show (13 : Nat) ≠ 15 by omega)]; exact x3 h
          · intro h; rw [updB_ne D (show (14 : Nat) ≠ 15 by omega)] at h; rw [updB_ne D (show (12 : Nat) ≠ 15 by omega), upd_ne u _ (show (14 : Nat) ≠ 15 by omega)]; exact x4 h
          · intro h; rw [updB_ne D (show (12 : Nat) ≠ 15 by omega)]; exact ⟨dc, upd_at _ _ _⟩
          · intro h; rw [updB_ne D (show (16 : Nat) ≠ 15 by omega)] at h; rw [updB_ne D (show (12 : Nat) ≠ 15 by omega), upd_ne u _ (show (16 : Nat) ≠ 15 by omega)]; exact x6 h
        
        · refine gd_eff (by kernel_rfl) (Want.none_ rfl) (fun D u ρ wx kn hD => ?_)
          have e0 := kn.slot 14 63 (by kernel_rfl) (by omega)
          have dd := kn.dep 14 (by kernel_rfl)
          obtain ⟨x1, A', n', c', x2, x3, x4, x5, x6⟩ := kn.ext
          have dc : D 12 = true := (x4 dd).1
          have hu := (x4 dd).2
          rw [hu] at e0
          refine ⟨.slice A' n' c', wx, by simp [execOp, kn.rho.con, e0, go_sem], (fun c h => by cases h), x1, A', n', c', ?_, ?_, ?_, ?_, ?_⟩
          · intro h; rw [upd_ne u _ (show (12 : Nat) ≠ 16 by omega)]; exact x2 dc
          · intro h; rw [updB_ne D (show (13 : Nat) ≠ 16 by omega)] at h; rw [updB_ne D (show (12 : Nat) ≠ 16 by omega), upd_ne u _ (show (13 : Nat) ≠ 16 by omega)]; exact x3 h
          · intro h; rw [updB_ne D (show (14 : Nat) ≠ 16 by omega)] at h; rw [updB_ne D (show (12 : Nat) ≠ 16 by omega), upd_ne u _ (show (14 : Nat) ≠ 16 by omega)]; exact x4 h
          · intro h; rw [updB_ne D (show (15 : Nat) ≠ 16 by omega)] at h; rw [updB_ne D (show (12 : Nat) ≠ 16 by omega), upd_ne u _ (show (15 : Nat) ≠ 16 by omega)]; exact x5 h
          · intro h; rw [updB_ne D (show (12 : Nat) ≠ 16 by omega)]; exact ⟨dc, upd_at _ _ _⟩
        
      · intro D u w10 hJ hD
        obtain ⟨hcn, x1, rA, rn, rc, x2, x3, x4, x5, x6⟩ := hJ
        have e14 := (x6 (hD 16 (by omega))).2
        have e15 := (x5 (hD 15 (by omega))).2
        simp only [List.take_succ_cons, List.take_zero, List.drop_succ_cons, List.drop_zero, putAll]
        rw [e14, e15]
        have rG := Lib.hid x1
        have rF := Lib.hid (x2 (hD 12 (by omega))).2
        clear hcn x1 x2 x3 x4 x5 x6 e14 e15 hD d0 d1
        go_simp
        have GB := Lib.hid (only_trans GR.out rG.out)
        clear hlbo HBM KP KP1 GR
        obtain ⟨W0, rfl⟩ : ∃ W0 : World, W0 = w10 := ⟨_, rfl⟩
        obtain ⟨d0, d1⟩ := DC.out W0 GB.out
        have HBM := Lib.hid (L9.out.mB.grown GB.out (by simp))
        have hlbo : lb < W0.heap.size := (B9.out.grown GB.out (by simp)).lt
        have KR1 := Lib.hid (fun (W : World) (hW : W0.grownBy W none) => KR.out W (only_trans GB.out hW))
        go_upto_region 9 with fail
        refine wp_region_gen 17 (JC [some (.slice A0 bs.length c), some (.agg #[.int .i64 num, .int .i64 nid, .int .i64 0, .slice A2 ss.length c2, .slice none 0 0, .slice none 0 0, .slice none 0 0]), some (.slice (some ⟨lb, 0, none⟩) 3 3), some (.int .i64 ((k : Int))), some (.pointer (some ⟨lb, k * 2, none⟩)), some (.pointer (some ⟨lb, k * 2, none⟩)), some (.int .i64 (x)), some (.slice (some ⟨lb, 0, none⟩) 3 3), some (.int .i64 ((k : Int))), some (.pointer (some ⟨lb, k * 2, none⟩)), some (.pointer (some ⟨lb, k * 2 + 1, none⟩)), some (.int .i64 (y)), none, none, none, none, none] (fun D u wx => W0.grownBy wx none ∧ ∃ (A' : Option Addr) (n' c' : Nat), (D 12 = true → u 12 = (.tuple #[.slice A' n' c', .int .i64 Ec] : Value) ∧ CpF bs x y p A' n' c' wx) ∧ (D 13 = true → D 12 = true ∧ u 13 = (.tuple #[.slice A' n' c', .int .i64 Ec] : Value)) ∧ (D 14 = true → D 12 = true ∧ u 14 = .slice A' n' c') ∧ (D 15 = true → D 12 = true ∧ u 15 = .int .i64 Ec) ∧ (D 16 = true → D 12 = true ∧ u 16 = .slice A' n' c'))) (by kernel_rfl) (by kernel_rfl) ?_ ?_ ?_
        · intro u
          exact ⟨(fun j c _ h => by cases h), only_drew (only_refl _ _), none, 0, 0, (fun h => by cases h), (fun h => by cases h), (fun h => by cases h), (fun h => by cases h), (fun h => by cases h)⟩
        · intro AA hA
          have hasz : AA.tmps.size = 139 := by rw [hA]; kernel_rfl
          have ea7 : AA.eval (.tmp 7) = .slice A0 bs.length c := by rw [hA]; kernel_rfl
          have ea8 : AA.eval (.tmp 8) = .pointer (some ⟨mb, 0, none⟩) := by rw [hA]; kernel_rfl
          have ea10 : AA.eval (.tmp 10) = .slice (some ⟨lb, 0, none⟩) 3 3 := by rw [hA]; kernel_rfl
          have ea11 : AA.eval (.tmp 11) = .int .i64 ((k : Int)) := by rw [hA]; kernel_rfl
          clear hA
          simp only [List.take_succ_cons, List.take_zero]
          refine .cons ?_ (.cons ?_ (.cons ?_ (.cons ?_ (.cons ?_ (.cons ?_ (.cons ?_ (.cons ?_ (.cons ?_ (.cons ?_ (.cons ?_ (.cons ?_ (.cons ?_ (.cons ?_ (.cons ?_ (.cons ?_ (.cons ?_ (.nil)))))))))))))))))
          · exact gd_gen (by kernel_rfl) (Want.none_ rfl) rfl (fun D u w v h => by simpa [updB, upd] using h) (fun D u ρ w kn => by
              have e0 := kn.own 7 (c := .slice A0 bs.length c) (by kernel_rfl) ea7
              simp [execOp, kn.rho.con, e0, go_sem])
          · exact gd_gen (by kernel_rfl) (Want.none_ rfl) rfl (fun D u w v h => by simpa [updB, upd] using h) (fun D u ρ w kn => by
              have e0 := kn.own 8 (c := .pointer (some ⟨mb, 0, none⟩)) (by kernel_rfl) ea8
              exact run_load ρ w rfl e0 (load_mani w mb (HBM.out.grown kn.ext.1 (by simp))))
          · exact gd_gen (by kernel_rfl) (Want.none_ rfl) rfl (fun D u w v h => by simpa [updB, upd] using h) (fun D u ρ w kn => by
              have e0 := kn.own 10 (c := .slice (some ⟨lb, 0, none⟩) 3 3) (by kernel_rfl) ea10
              simp [execOp, kn.rho.con, e0, go_sem])
          · exact gd_gen (by kernel_rfl) (Want.none_ rfl) rfl (fun D u w v h => by simpa [updB, upd] using h) (fun D u ρ w kn => by
              have e0 := kn.own 11 (c := .int .i64 ((k : Int))) (by kernel_rfl) ea11
              simp [execOp, kn.rho.con, e0, go_sem])
          · exact gd_gen (by kernel_rfl) (Want.none_ rfl) rfl (fun D u w v h => by simpa [updB, upd] using h) (fun D u ρ w kn => by
              have e0 := kn.con 2 68 (c := .slice (some ⟨lb, 0, none⟩) 3 3) (by kernel_rfl) (by omega) (by kernel_rfl) rfl
              have e1 := kn.con 3 69 (c := .int .i64 ((k : Int))) (by kernel_rfl) (by omega) (by kernel_rfl) rfl
              simp [execOp, kn.rho.con, e0, e1, go_sem, hkl, hk0])
          · exact gd_gen (by kernel_rfl) (Want.none_ rfl) rfl (fun D u w v h => by simpa [updB, upd] using h) (fun D u ρ w kn => by
              have e0 := kn.con 4 70 (c := .pointer (some ⟨lb, k * 2, none⟩)) (by kernel_rfl) (by omega) (by kernel_rfl) rfl
              simp [execOp, kn.rho.con, e0, go_sem])
          · exact gd_gen (by kernel_rfl) (Want.none_ rfl) rfl (fun D u w v h => by simpa [updB, upd] using h) (fun D u ρ w kn => by
              have e0 := kn.con 5 71 (c := .pointer (some ⟨lb, k * 2, none⟩)) (by kernel_rfl) (by omega) (by kernel_rfl) rfl
              have f0 := (World.cell?_of_block (w := W0) (a := ⟨lb, k * 2, none⟩) (kn.ext.1.block lb hlbo (by simp))).trans d0
              simp [execOp, kn.rho.con, e0, f0, go_sem])
          · exact gd_gen (by kernel_rfl) (Want.none_ rfl) rfl (fun D u w v h => by simpa [updB, upd] using h) (fun D u ρ w kn => by
              have e0 := kn.own 10 (c := .slice (some ⟨lb, 0, none⟩) 3 3) (by kernel_rfl) ea10
              simp [execOp, kn.rho.con, e0, go_sem])
          · exact gd_gen (by kernel_rfl) (Want.none_ rfl) rfl (fun D u w v h => by simpa [updB, upd] using h) (fun D u ρ w kn => by
              have e0 := kn.own 11 (c := .int .i64 ((k : Int))) (by kernel_rfl) ea11
              simp [execOp, kn.rho.con, e0, go_sem])
          · exact gd_gen (by kernel_rfl) (Want.none_ rfl) rfl (fun D u w v h => by simpa [updB, upd] using h) (fun D u ρ w kn => by
              have e0 := kn.con 7 73 (c := .slice (some ⟨lb, 0, none⟩) 3 3) (by kernel_rfl) (by omega) (by kernel_rfl) rfl
              have e1 := kn.con 8 74 (c := .int .i64 ((k : Int))) (by kernel_rfl) (by omega) (by kernel_rfl) rfl
              simp [execOp, kn.rho.con, e0, e1, go_sem, hkl, hk0])
          · exact gd_gen (by kernel_rfl) (Want.none_ rfl) rfl (fun D u w v h => by simpa [updB, upd] using h) (fun D u ρ w kn => by
              have e0 := kn.con 9 75 (c := .pointer (some ⟨lb, k * 2, none⟩)) (by kernel_rfl) (by omega) (by kernel_rfl) rfl
              simp [execOp, kn.rho.con, e0, go_sem])
          · exact gd_gen (by kernel_rfl) (Want.none_ rfl) rfl (fun D u w v h => by simpa [updB, upd] using h) (fun D u ρ w kn => by
              have e0 := kn.con 10 76 (c := .pointer (some ⟨lb, k * 2 + 1, none⟩)) (by kernel_rfl) (by omega) (by kernel_rfl) rfl
              have f0 := (World.cell?_of_block (w := W0) (a := ⟨lb, k * 2 + 1, none⟩) (kn.ext.1.block lb hlbo (by simp))).trans d1
              simp [execOp, kn.rho.con, e0, f0, go_sem])
          · refine gd_call (by kernel_rfl) (Want.none_ rfl) 17 (fun D u ρ wx kn hD => ?_)
            have e0 := kn.con 0 66 (c := .slice A0 bs.length c) (by kernel_rfl) (by omega) (by kernel_rfl) rfl
            have e1 := kn.con 1 67 (c := .agg #[.int .i64 num, .int .i64 nid, .int .i64 0, .slice A2 ss.length c2, .slice none 0 0, .slice none 0 0, .slice none 0 0]) (by kernel_rfl) (by omega) (by kernel_rfl) rfl
            have e2 := kn.con 6 72 (c := .int .i64 x) (by kernel_rfl) (by omega) (by kernel_rfl) rfl
            have e3 := kn.con 11 77 (c := .int .i64 y) (by kernel_rfl) (by omega) (by kernel_rfl) rfl
            obtain ⟨x1, A', n', c', x2, x3, x4, x5, x6⟩ := kn.ext
            have h13 : D 13 = false := by cases h : D 13 with | false => rfl | true => have := (x3 h).1; rw [hD] at this; cases this
            have h14 : D 14 = false := by cases h : D 14 with | false => rfl | true => have := (x4 h).1; rw [hD] at this; cases this
            have h15 : D 15 = false := by cases h : D 15 with | false => rfl | true => have := (x5 h).1; rw [hD] at this; cases this
            have h16 : D 16 = false := by cases h : D 16 with | false => rfl | true => have := (x6 h).1; rw [hD] at this; cases this
            refine ⟨#[.slice A0 bs.length c, .agg #[.int .i64 num, .int .i64 nid, .int .i64 0, .slice A2 ss.length c2, .slice none 0 0, .slice none 0 0, .slice none 0 0], .int .i64 x, .int .i64 y], ?_, (KR1.out wx x1).mono ?_⟩
            · simp only [execOp, resolve, Deferred.ofValue, List.map_toArray, List.map_cons, List.map_nil, e0, e1, e2, e3, kn.rho.con, kn.rho.fn]
              simp [go_sem]
            · rintro e w' ⟨hg, B', m', d', rfl, hz⟩
              exact ⟨_, rfl, (fun c h => by cases h), only_trans x1 hg, B', m', d', (fun _ => ⟨(upd_at _ _ _).trans (by rw [HEC.out]), hz⟩), (fun h => by rw [updB_ne D (show (13 : Nat) ≠ 12 by omega), h13] at h; cases h), (fun h => by rw [updB_ne D (show (14 : Nat) ≠ 12 by omega), h14] at h; cases h), (fun h => by rw [updB_ne D (show (15 : Nat) ≠ 12 by omega), h15] at h; cases h), (fun h => by rw [updB_ne D (show (16 : Nat) ≠ 12 by omega), h16] at h; cases h)⟩
          · refine gd_eff (by kernel_rfl) (Want.none_ rfl) (fun D u ρ wx kn hD => ?_)
            have e0 := kn.slot 12 78 (by kernel_rfl) (by omega)
            have dd := kn.dep 12 (by kernel_rfl)
            obtain ⟨x1, A', n', c', x2, x3, x4, x5, x6⟩ := kn.ext
            have dc : D 12 = true := dd
            have hu := (x2 dd).1
            rw [hu] at e0
            refine ⟨(.tuple #[.slice A' n' c', .int .i64 Ec] : Value), wx, by simp [execOp, kn.rho.con, e0, go_sem], (fun c h => by cases h), x1, A', n', c', ?_, ?_, ?_, ?_, ?_⟩
            · intro h; rw [upd_ne u _ (show (12 : Nat) ≠ 13 by omega)]; exact x2 dc
            · intro h; rw [updB_ne D (show (12 : Nat) ≠ 13 by omega)]; exact ⟨dc, upd_at _ _ _⟩
            · intro h; rw [updB_ne D (show (14 : Nat) ≠ 13 by omega)] at h; rw [updB_ne D (show (12 : Nat) ≠ 13 by omega), upd_ne u _ (show (14 : Nat) ≠ 13 by omega)]; exact x4 h
            · intro h; rw [updB_ne D (show (15 : Nat) ≠ 13 by omega)] at h; rw [updB_ne D (show (12 : Nat) ≠ 13 by omega), upd_ne u _ (show (15 : Nat) ≠ 13 by omega)]; exact x5 h
            · intro h; rw [updB_ne D (show (16 : Nat) ≠ 13 by omega)] at h; rw [updB_ne D (show (12 : Nat) ≠ 13 by omega), upd_ne u _ (show (16 : Nat) ≠ 13 by omega)]; exact x6 h
          
          · refine gd_eff (by kernel_rfl) (Want.none_ rfl) (fun D u ρ wx kn hD => ?_)
            have e0 := kn.slot 13 65 (by kernel_rfl) (by omega)
            have dd := kn.dep 13 (by kernel_rfl)
            obtain ⟨x1, A', n', c', x2, x3, x4, x5, x6⟩ := kn.ext
            have dc : D 12 = true := (x3 dd).1
            have hu := (x3 dd).2
            rw [hu] at e0
            refine ⟨.slice A' n' c', wx, by simp [execOp, kn.rho.con, e0, go_sem], (fun c h => by cases h), x1, A', n', c', ?_, ?_, ?_, ?_, ?_⟩
            · intro h; rw [upd_ne u _ (show (12 : Nat) ≠ 14 by omega)]; exact x2 dc
            · intro h; rw [updB_ne D (show (13 : Nat) ≠ 14 by omega)] at h; rw [updB_ne D (show (12 : Nat) ≠ 14 by omega), upd_ne u _ (show (13 : Nat) ≠ 14 by omega)]; exact x3 h
            · intro h; rw [updB_ne D (show (12 : Nat) ≠ 14 by omega)]; exact ⟨dc, upd_at _ _ _⟩
            · intro h; rw [updB_ne D (show (15 : Nat) ≠ 14 by omega)] at h; rw [updB_ne D (show (12 : Nat) ≠ 14 by omega), upd_ne u _ (show (15 : Nat) ≠ 14 by omega)]; exact x5 h
            · intro h; rw [updB_ne D (show (16 : Nat) ≠ 14 by omega)] at h; rw [updB_ne D (show (12 : Nat) ≠ 14 by omega), upd_ne u _ (show (16 : Nat) ≠ 14 by omega)]; exact x6 h
          
          · refine gd_eff (by kernel_rfl) (Want.none_ rfl) (fun D u ρ wx kn hD => ?_)
            have e0 := kn.slot 13 65 (by kernel_rfl) (by omega)
            have dd := kn.dep 13 (by kernel_rfl)
            obtain ⟨x1, A', n', c', x2, x3, x4, x5, x6⟩ := kn.ext
            have dc : D 12 = true := (x3 dd).1
            have hu := (x3 dd).2
            rw [hu] at e0
            refine ⟨.int .i64 Ec, wx, by simp [execOp, kn.rho.con, e0, go_sem], (fun c h => by cases h), x1, A', n', c', ?_, ?_, ?_, ?_, ?_⟩
            · intro h; rw [upd_ne u _ (show (12 : Nat) ≠ 15 by omega)]; exact x2 dc
            · intro h; rw [updB_ne D (show (13 : Nat) ≠ 15 by omega)] at h; rw [updB_ne D (show (12 : Nat) ≠ 15 by omega), upd_ne u _ (show (13 : Nat) ≠ 15 by omega)]; exact x3 h
            · intro h; rw [updB_ne D (show (14 : Nat) ≠ 15 by omega)] at h; rw [updB_ne D (show (12 : Nat) ≠ 15 by omega), upd_ne u _ (show (14 : Nat) ≠ 15 by omega)]; exact x4 h
            · intro h; rw [updB_ne D (show (12 : Nat) ≠ 15 by omega)]; exact ⟨dc, upd_at _ _ _⟩
            · intro h; rw [updB_ne D (show (16 : Nat) ≠ 15 by omega)] at h; rw [updB_ne D (show (12 : Nat) ≠ 15 by omega), upd_ne u _ (show (16 : Nat) ≠ 15 by omega)]; exact x6 h
          
          · refine gd_eff (by kernel_rfl) (Want.none_ rfl) (fun D u ρ wx kn hD => ?_)
            have e0 := kn.slot 14 79 (by kernel_rfl) (by omega)
            have dd := kn.dep 14 (by kernel_rfl)
            obtain ⟨x1, A', n', c', x2, x3, x4, x5, x6⟩ := kn.ext
            have dc : D 12 = true := (x4 dd).1
            have hu := (x4 dd).2
            rw [hu] at e0
            refine ⟨.slice A' n' c', wx, by simp [execOp, kn.rho.con, e0, go_sem], (fun c h => by cases h), x1, A', n', c', ?_, ?_, ?_, ?_, ?_⟩
            · intro h; rw [upd_ne u _ (show (12 : Nat) ≠ 16 by omega)]; exact x2 dc
            · intro h; rw [updB_ne D (show (13 : Nat) ≠ 16 by omega)] at h; rw [updB_ne D (show (12 : Nat) ≠ 16 by omega), upd_ne u _ (show (13 : Nat) ≠ 16 by omega)]; exact x3 h
            · intro h; rw [updB_ne D (show (14 : Nat) ≠ 16 by omega)] at h; rw [updB_ne D (show (12 : Nat) ≠ 16 by omega), upd_ne u _ (show (14 : Nat) ≠ 16 by omega)]; exact x4 h
            · intro h; rw [updB_ne D (show (15 : Nat) ≠ 16 by omega)] at h; rw [updB_ne D (show (12 : Nat) ≠ 16 by omega), upd_ne u _ (show (15 : Nat) ≠ 16 by omega)]; exact x5 h
            · intro h; rw [updB_ne D (show (12 : Nat) ≠ 16 by omega)]; exact ⟨dc, upd_at _ _ _⟩
          
        · intro D u w12 hJ hD
          obtain ⟨hcn, x1, sA, sn, sc, x2, x3, x4, x5, x6⟩ := hJ
          have e14 := (x6 (hD 16 (by omega))).2
          have e15 := (x5 (hD 15 (by omega))).2
          simp only [List.take_succ_cons, List.take_zero, List.drop_succ_cons, List.drop_zero, putAll]
          rw [e14, e15]
          have sG := Lib.hid x1
          have sF := Lib.hid (x2 (hD 12 (by omega))).2
          clear hcn x1 x2 x3 x4 x5 x6 e14 e15 hD d0 d1
          go_simp
          have GD := Lib.hid (only_trans GB.out sG.out)
          clear hlbo HBM KR KR1
          go_upto_region 10 with fail
          go_cut [93] (fun vb wx => vb = .bool false ∧ w12.grownBy wx none)
          case first =>
            by_cases h0 : Ec = 0
            · obtain ⟨x1, bs1, hk1, hb1, hn1, -, -, -, hr1, hs1⟩ := rF.out (HEC.out.symm.trans h0)
              obtain ⟨x2, bs2, hk2, hb2, hn2, -, -, -, hr2, hs2⟩ := sF.out (HEC.out.symm.trans h0)
              have hal : Alike bs1 bs2 := by rw [hb1, hb2]; exact (alike_refl bs).put x y (hk1.trans hk2.symm)
              have hnn : sn = rn := by rw [hn1, hn2]; exact hal.len.symm
              have KS : Hid (Calls Tryz.prog 8 #[.slice rA rn rc, .slice sA sn sc] w12 (TrueExt w12)) := Lib.hid (by
                rw [hnn]
                exact rsame33_true rA sA bs1 bs2 rn rc sc w12 hn1.symm (hal.len.symm.trans hn1.symm) (hr1.grown sG.out (by simp)) hr2 (fun z hz => (hs1 z hz).grown sG.out (by simp)) hs2 hal (by rw [hn1, hb1]; have := putB_len bs x y x1; omega))
              have e1 : (Ec == 0) = true := by simp [h0]
              clear hk1 hb1 hn1 hr1 hs1 hk2 hb2 hn2 hr2 hs2 hal hnn h0
              go_wp2_with fail
              refine KS.out.mono ?_
              rintro e w13 ⟨rfl, hg13⟩
              go_wp2_with fail
              go_meet
              exact ⟨rfl, hg13⟩
            · have e1 : (Ec == 0) = false := by simp [h0]
              clear h0
              go_wp2_with fail
              go_meet
              exact ⟨rfl, only_refl _ _⟩
          case rest =>
            obtain ⟨rfl, hwc⟩ := hcut
            have GE := Lib.hid (only_trans GD.out hwc)
            clear hwc GD rF sF rG sG HEC GB
            obtain ⟨W0, rfl⟩ : ∃ W0 : World, W0 = wc := ⟨_, rfl⟩
            obtain ⟨d0, d1⟩ := DC.out W0 GE.out
            have HBM := Lib.hid (L9.out.mB.grown GE.out (by simp))
            have hlbo : lb < W0.heap.size := (B9.out.grown GE.out (by simp)).lt
            have KQ := Lib.hid (fun (W : World) (hW : W0.grownBy W none) => KX.out W (only_trans GE.out hW))
            go_upto_region 12 with fail
            refine wp_region_gen 18 (JC [some (.slice A0 bs.length c), some (.agg #[.int .i64 num, .int .i64 nid, .int .i64 0, .slice A2 ss.length c2, .slice none 0 0, .slice none 0 0, .slice none 0 0]), some (.slice (some ⟨lb, 0, none⟩) 3 3), some (.int .i64 ((k : Int))), some (.pointer (some ⟨lb, k * 2, none⟩)), some (.pointer (some ⟨lb, k * 2, none⟩)), some (.int .i64 (x)), some (.slice (some ⟨lb, 0, none⟩) 3 3), some (.int .i64 ((k : Int))), some (.pointer (some ⟨lb, k * 2, none⟩)), some (.pointer (some ⟨lb, k * 2 + 1, none⟩)), some (.int .i64 (y)), none, none, none, none, none, none] (fun D u wx => W0.grownBy wx none ∧ ∃ (a0 a1 a2 : Int) (A' : Option Addr) (n' c' : Nat), (D 12 = true → u 12 = .tuple #[.agg #[.int .i64 a0, .int .i64 a1, .int .i64 a2, .slice A' n' c', .slice none 0 0, .slice none 0 0, .slice none 0 0], .int .i64 E] ∧ SwF (Sx W0 (D 16) (u 16)) num nid (setT ss x y) E a0 a1 a2 A' n' c' wx) ∧ (D 13 = true → D 12 = true ∧ u 13 = .tuple #[.agg #[.int .i64 a0, .int .i64 a1, .int .i64 a2, .slice A' n' c', .slice none 0 0, .slice none 0 0, .slice none 0 0], .int .i64 E]) ∧ (D 14 = true → D 12 = true ∧ u 14 = .agg #[.int .i64 a0, .int .i64 a1, .int .i64 a2, .slice A' n' c', .slice none 0 0, .slice none 0 0, .slice none 0 0]) ∧ (D 15 = true → D 12 = true ∧ u 15 = .int .i64 E) ∧ (D 16 = true → ∃ nb, u 16 = .pointer (some ⟨nb, 0, none⟩) ∧ W0.heap.size ≤ nb ∧ Blk wx nb 31 (if D 17 = true then #[.int .i64 a0, .int .i64 a1, .int .i64 a2, .slice A' n' c', .slice none 0 0, .slice none 0 0, .slice none 0 0] else #[.int .i64 0, .int .i64 0, .int .i64 0, .slice none 0 0, .slice none 0 0, .slice none 0 0, .slice none 0 0])) ∧ (D 17 = true → D 16 = true ∧ D 12 = true))) (by kernel_rfl) (by kernel_rfl) ?_ ?_ ?_
            · intro u
              exact ⟨(fun j c _ h => by cases h), only_drew (only_refl _ _), 0, 0, 0, none, 0, 0, (fun h => by cases h), (fun h => by cases h), (fun h => by cases h), (fun h => by cases h), (fun h => by cases h), (fun h => by cases h)⟩
            · intro AA hA
              have hasz : AA.tmps.size = 139 := by rw [hA]; kernel_rfl
              have ea7 : AA.eval (.tmp 7) = .slice A0 bs.length c := by rw [hA]; kernel_rfl
              have ea8 : AA.eval (.tmp 8) = .pointer (some ⟨mb, 0, none⟩) := by rw [hA]; kernel_rfl
              have ea10 : AA.eval (.tmp 10) = .slice (some ⟨lb, 0, none⟩) 3 3 := by rw [hA]; kernel_rfl
              have ea11 : AA.eval (.tmp 11) = .int .i64 ((k : Int)) := by rw [hA]; kernel_rfl
              clear hA
              simp only [List.take_succ_cons, List.take_zero]
              refine .cons ?_ (.cons ?_ (.cons ?_ (.cons ?_ (.cons ?_ (.cons ?_ (.cons ?_ (.cons ?_ (.cons ?_ (.cons ?_ (.cons ?_ (.cons ?_ (.cons ?_ (.cons ?_ (.cons ?_ (.cons ?_ (.cons ?_ (.cons ?_ (.nil))))))))))))))))))
              · exact gd_gen (by kernel_rfl) (Want.none_ rfl) rfl (fun D u w v h => by simpa [updB, upd] using h) (fun D u ρ w kn => by
                  have e0 := kn.own 7 (c := .slice A0 bs.length c) (by kernel_rfl) ea7
                  simp [execOp, kn.rho.con, e0, go_sem])
              · exact gd_gen (by kernel_rfl) (Want.none_ rfl) rfl (fun D u w v h => by simpa [updB, upd] using h) (fun D u ρ w kn => by
                  have e0 := kn.own 8 (c := .pointer (some ⟨mb, 0, none⟩)) (by kernel_rfl) ea8
                  exact run_load ρ w rfl e0 (load_mani w mb (HBM.out.grown kn.ext.1 (by simp))))
              · exact gd_gen (by kernel_rfl) (Want.none_ rfl) rfl (fun D u w v h => by simpa [updB, upd] using h) (fun D u ρ w kn => by
                  have e0 := kn.own 10 (c := .slice (some ⟨lb, 0, none⟩) 3 3) (by kernel_rfl) ea10
                  simp [execOp, kn.rho.con, e0, go_sem])
              · exact gd_gen (by kernel_rfl) (Want.none_ rfl) rfl (fun D u w v h => by simpa [updB, upd] using h) (fun D u ρ w kn => by
                  have e0 := kn.own 11 (c := .int .i64 ((k : Int))) (by kernel_rfl) ea11
                  simp [execOp, kn.rho.con, e0, go_sem])
              · exact gd_gen (by kernel_rfl) (Want.none_ rfl) rfl (fun D u w v h => by simpa [updB, upd] using h) (fun D u ρ w kn => by
                  have e0 := kn.con 2 97 (c := .slice (some ⟨lb, 0, none⟩) 3 3) (by kernel_rfl) (by omega) (by kernel_rfl) rfl
                  have e1 := kn.con 3 98 (c := .int .i64 ((k : Int))) (by kernel_rfl) (by omega) (by kernel_rfl) rfl
                  simp [execOp, kn.rho.con, e0, e1, go_sem, hkl, hk0])
              · exact gd_gen (by kernel_rfl) (Want.none_ rfl) rfl (fun D u w v h => by simpa [updB, upd] using h) (fun D u ρ w kn => by
                  have e0 := kn.con 4 99 (c := .pointer (some ⟨lb, k * 2, none⟩)) (by kernel_rfl) (by omega) (by kernel_rfl) rfl
                  simp [execOp, kn.rho.con, e0, go_sem])
              · exact gd_gen (by kernel_rfl) (Want.none_ rfl) rfl (fun D u w v h => by simpa [updB, upd] using h) (fun D u ρ w kn => by
                  have e0 := kn.con 5 100 (c := .pointer (some ⟨lb, k * 2, none⟩)) (by kernel_rfl) (by omega) (by kernel_rfl) rfl
                  have f0 := (World.cell?_of_block (w := W0) (a := ⟨lb, k * 2, none⟩) (kn.ext.1.block lb hlbo (by simp))).trans d0
                  simp [execOp, kn.rho.con, e0, f0, go_sem])
              · exact gd_gen (by kernel_rfl) (Want.none_ rfl) rfl (fun D u w v h => by simpa [updB, upd] using h) (fun D u ρ w kn => by
                  have e0 := kn.own 10 (c := .slice (some ⟨lb, 0, none⟩) 3 3) (by kernel_rfl) ea10
                  simp [execOp, kn.rho.con, e0, go_sem])
              · exact gd_gen (by kernel_rfl) (Want.none_ rfl) rfl (fun D u w v h => by simpa [updB, upd] using h) (fun D u ρ w kn => by
                  have e0 := kn.own 11 (c := .int .i64 ((k : Int))) (by kernel_rfl) ea11
                  simp [execOp, kn.rho.con, e0, go_sem])
              · exact gd_gen (by kernel_rfl) (Want.none_ rfl) rfl (fun D u w v h => by simpa [updB, upd] using h) (fun D u ρ w kn => by
                  have e0 := kn.con 7 102 (c := .slice (some ⟨lb, 0, none⟩) 3 3) (by kernel_rfl) (by omega) (by kernel_rfl) rfl
                  have e1 := kn.con 8 103 (c := .int .i64 ((k : Int))) (by kernel_rfl) (by omega) (by kernel_rfl) rfl
                  simp [execOp, kn.rho.con, e0, e1, go_sem, hkl, hk0])
              · exact gd_gen (by kernel_rfl) (Want.none_ rfl) rfl (fun D u w v h => by simpa [updB, upd] using h) (fun D u ρ w kn => by
                  have e0 := kn.con 9 104 (c := .pointer (some ⟨lb, k * 2, none⟩)) (by kernel_rfl) (by omega) (by kernel_rfl) rfl
                  simp [execOp, kn.rho.con, e0, go_sem])
              · exact gd_gen (by kernel_rfl) (Want.none_ rfl) rfl (fun D u w v h => by simpa [updB, upd] using h) (fun D u ρ w kn => by
                  have e0 := kn.con 10 105 (c := .pointer (some ⟨lb, k * 2 + 1, none⟩)) (by kernel_rfl) (by omega) (by kernel_rfl) rfl
                  have f0 := (World.cell?_of_block (w := W0) (a := ⟨lb, k * 2 + 1, none⟩) (kn.ext.1.block lb hlbo (by simp))).trans d1
                  simp [execOp, kn.rho.con, e0, f0, go_sem])
              · refine gd_call (by kernel_rfl) (Want.none_ rfl) 18 (fun D u ρ wx kn hD => ?_)
                have e0 := kn.con 0 95 (c := .slice A0 bs.length c) (by kernel_rfl) (by omega) (by kernel_rfl) rfl
                have e1 := kn.con 1 96 (c := .agg #[.int .i64 num, .int .i64 nid, .int .i64 0, .slice A2 ss.length c2, .slice none 0 0, .slice none 0 0, .slice none 0 0]) (by kernel_rfl) (by omega) (by kernel_rfl) rfl
                have e2 := kn.con 6 101 (c := .int .i64 x) (by kernel_rfl) (by omega) (by kernel_rfl) rfl
                have e3 := kn.con 11 106 (c := .int .i64 y) (by kernel_rfl) (by omega) (by kernel_rfl) rfl
                obtain ⟨x1, a0, a1, a2, A', n', c', x2, x3, x4, x5, x6, x7⟩ := kn.ext
                have h13 : D 13 = false := by cases h : D 13 with | false => rfl | true => have := (x3 h).1; rw [hD] at this; cases this
                have h14 : D 14 = false := by cases h : D 14 with | false => rfl | true => have := (x4 h).1; rw [hD] at this; cases this
                have h15 : D 15 = false := by cases h : D 15 with | false => rfl | true => have := (x5 h).1; rw [hD] at this; cases this
                have h17 : D 17 = false := by cases h : D 17 with | false => rfl | true => have := (x7 h).2; rw [hD] at this; cases this
                refine ⟨#[.slice A0 bs.length c, .agg #[.int .i64 num, .int .i64 nid, .int .i64 0, .slice A2 ss.length c2, .slice none 0 0, .slice none 0 0, .slice none 0 0], .int .i64 x, .int .i64 y], ?_, (KQ.out wx x1).mono ?_⟩
                · simp only [execOp, resolve, Deferred.ofValue, List.map_toArray, List.map_cons, List.map_nil, e0, e1, e2, e3, kn.rho.con, kn.rho.fn]
                  simp [go_sem]
                · rintro e w' ⟨hg, b0, b1, b2, B', m', d', rfl, hz⟩
                  refine ⟨_, rfl, (fun c h => by cases h), only_trans x1 hg, b0, b1, b2, B', m', d', (fun _ => ⟨upd_at _ _ _, ?_⟩), (fun h => by rw [updB_ne D (show (13 : Nat) ≠ 12 by omega), h13] at h; cases h), (fun h => by rw [updB_ne D (show (14 : Nat) ≠ 12 by omega), h14] at h; cases h), (fun h => by rw [updB_ne D (show (15 : Nat) ≠ 12 by omega), h15] at h; cases h), (fun h => ?_), (fun h => by rw [updB_ne D (show (17 : Nat) ≠ 12 by omega), h17] at h; cases h)⟩
                  · rw [updB_ne D (show (16 : Nat) ≠ 12 by omega), upd_ne u _ (show (16 : Nat) ≠ 12 by omega)]
                    intro hE
                    obtain ⟨k1, k2, k3, k4, k5, k6, k7⟩ := hz hE
                    refine ⟨k1, k2, k3, k4, k5, k6, k7.mono (fun b hb _ => ⟨Nat.le_trans x1.size hb, fun h e => ?_⟩)⟩
                    obtain ⟨nb, q1, q2, q3⟩ := x6 h
                    rw [q1] at e
                    injection e with e; injection e with e; injection e with e
                    have hb2 : wx.heap.size ≤ b := hb
                    have := q3.lt
                    omega
                  · rw [updB_ne D (show (16 : Nat) ≠ 12 by omega)] at h
                    rw [upd_ne u _ (show (16 : Nat) ≠ 12 by omega), updB_ne D (show (17 : Nat) ≠ 12 by omega), h17, if_neg (by simp)]
                    obtain ⟨nb, q1, q2, q3⟩ := x6 h
                    rw [h17, if_neg (by simp)] at q3
                    exact ⟨nb, q1, q2, q3.grown hg (by simp)⟩
              · refine gd_eff (by kernel_rfl) (Want.none_ rfl) (fun D u ρ wx kn hD => ?_)
                have e0 := kn.slot 12 107 (by kernel_rfl) (by omega)
                have dd := kn.dep 12 (by kernel_rfl)
                obtain ⟨x1, a0, a1, a2, A', n', c', x2, x3, x4, x5, x6, x7⟩ := kn.ext
                have dc : D 12 = true := dd
                have hu := (x2 dd).1
                rw [hu] at e0
                refine ⟨.tuple #[.agg #[.int .i64 a0, .int .i64 a1, .int .i64 a2, .slice A' n' c', .slice none 0 0, .slice none 0 0, .slice none 0 0], .int .i64 E], wx, by simp [execOp, kn.rho.con, e0, go_sem], (fun c h => by cases h), x1, a0, a1, a2, A', n', c', ?_, ?_, ?_, ?_, ?_, ?_⟩
                · intro h; rw [upd_ne u _ (show (12 : Nat) ≠ 13 by omega), updB_ne D (show (16 : Nat) ≠ 13 by omega), upd_ne u _ (show (16 : Nat) ≠ 13 by omega)]; exact x2 dc
                · intro h; rw [updB_ne D (show (12 : Nat) ≠ 13 by omega)]; exact ⟨dc, upd_at _ _ _⟩
                · intro h; rw [updB_ne D (show (14 : Nat) ≠ 13 by omega)] at h; rw [updB_ne D (show (12 : Nat) ≠ 13 by omega), upd_ne u _ (show (14 : Nat) ≠ 13 by omega)]; exact x4 h
                · intro h; rw [updB_ne D (show (15 : Nat) ≠ 13 by omega)] at h; rw [updB_ne D (show (12 : Nat) ≠ 13 by omega), upd_ne u _ (show (15 : Nat) ≠ 13 by omega)]; exact x5 h
                · intro h; rw [updB_ne D (show (16 : Nat) ≠ 13 by omega)] at h; rw [upd_ne u _ (show (16 : Nat) ≠ 13 by omega), updB_ne D (show (17 : Nat) ≠ 13 by omega)]; exact x6 h
                · intro h; rw [updB_ne D (show (17 : Nat) ≠ 13 by omega)] at h; rw [updB_ne D (show (16 : Nat) ≠ 13 by omega), updB_ne D (show (12 : Nat) ≠ 13 by omega)]; exact x7 h
              · refine gd_eff (by kernel_rfl) (Want.none_ rfl) (fun D u ρ wx kn hD => ?_)
                have e0 := kn.slot 13 94 (by kernel_rfl) (by omega)
                have dd := kn.dep 13 (by kernel_rfl)
                obtain ⟨x1, a0, a1, a2, A', n', c', x2, x3, x4, x5, x6, x7⟩ := kn.ext
                have dc : D 12 = true := (x3 dd).1
                have hu := (x3 dd).2
                rw [hu] at e0
                refine ⟨.agg #[.int .i64 a0, .int .i64 a1, .int .i64 a2, .slice A' n' c', .slice none 0 0, .slice none 0 0, .slice none 0 0], wx, by simp [execOp, kn.rho.con, e0, go_sem], (fun c h => by cases h), x1, a0, a1, a2, A', n', c', ?_, ?_, ?_, ?_, ?_, ?_⟩
                · intro h; rw [upd_ne u _ (show (12 : Nat) ≠ 14 by omega), updB_ne D (show (16 : Nat) ≠ 14 by omega), upd_ne u _ (show (16 : Nat) ≠ 14 by omega)]; exact x2 dc
                · intro h; rw [updB_ne D (show (13 : Nat) ≠ 14 by omega)] at h; rw [updB_ne D (show (12 : Nat) ≠ 14 by omega), upd_ne u _ (show (13 : Nat) ≠ 14 by omega)]; exact x3 h
                · intro h; rw [updB_ne D (show (12 : Nat) ≠ 14 by omega)]; exact ⟨dc, upd_at _ _ _⟩
                · intro h; rw [updB_ne D (show (15 : Nat) ≠ 14 by omega)] at h; rw [updB_ne D (show (12 : Nat) ≠ 14 by omega), upd_ne u _ (show (15 : Nat) ≠ 14 by omega)]; exact x5 h
                · intro h; rw [updB_ne D (show (16 : Nat) ≠ 14 by omega)] at h; rw [upd_ne u _ (show (16 : Nat) ≠ 14 by omega), updB_ne D (show (17 : Nat) ≠ 14 by omega)]; exact x6 h
                · intro h; rw [updB_ne D (show (17 : Nat) ≠ 14 by omega)] at h; rw [updB_ne D (show (16 : Nat) ≠ 14 by omega), updB_ne D (show (12 : Nat) ≠ 14 by omega)]; exact x7 h
              · refine gd_eff (by kernel_rfl) (Want.none_ rfl) (fun D u ρ wx kn hD => ?_)
                have e0 := kn.slot 13 94 (by kernel_rfl) (by omega)
                have dd := kn.dep 13 (by kernel_rfl)
                obtain ⟨x1, a0, a1, a2, A', n', c', x2, x3, x4, x5, x6, x7⟩ := kn.ext
                have dc : D 12 = true := (x3 dd).1
                have hu := (x3 dd).2
                rw [hu] at e0
                refine ⟨.int .i64 E, wx, by simp [execOp, kn.rho.con, e0, go_sem], (fun c h => by cases h), x1, a0, a1, a2, A', n', c', ?_, ?_, ?_, ?_, ?_, ?_⟩
                · intro h; rw [upd_ne u _ (show (12 : Nat) ≠ 15 by omega), updB_ne D (show (16 : Nat) ≠ 15 by omega), upd_ne u _ (show (16 : Nat) ≠ 15 by omega)]; exact x2 dc
                · intro h; rw [updB_ne D (show (13 : Nat) ≠ 15 by omega)] at h; rw [updB_ne D (show (12 : Nat) ≠ 15 by omega), upd_ne u _ (show (13 : Nat) ≠ 15 by omega)]; exact x3 h
                · intro h; rw [updB_ne D (show (14 : Nat) ≠ 15 by omega)] at h; rw [updB_ne D (show (12 : Nat) ≠ 15 by omega), upd_ne u _ (show (14 : Nat) ≠ 15 by omega)]; exact x4 h
                · intro h; rw [updB_ne D (show (12 : Nat) ≠ 15 by omega)]; exact ⟨dc, upd_at _ _ _⟩
                · intro h; rw [updB_ne D (show (16 : Nat) ≠ 15 by omega)] at h; rw [upd_ne u _ (show (16 : Nat) ≠ 15 by omega), updB_ne D (show (17 : Nat) ≠ 15 by omega)]; exact x6 h
                · intro h; rw [updB_ne D (show (17 : Nat) ≠ 15 by omega)] at h; rw [updB_ne D (show (16 : Nat) ≠ 15 by omega), updB_ne D (show (12 : Nat) ≠ 15 by omega)]; exact x7 h
              · refine gd_eff (by kernel_rfl) (Want.none_ rfl) (fun D u ρ wx kn hD => ?_)
                obtain ⟨x1, a0, a1, a2, A', n', c', x2, x3, x4, x5, x6, x7⟩ := kn.ext
                have h17 : D 17 = false := by cases h : D 17 with | false => rfl | true => have := (x7 h).1; rw [hD] at this; cases this
                have hg : wx.grownBy (wx.alloc (.cells #[.int .i64 0, .int .i64 0, .int .i64 0, .slice none 0 0, .slice none 0 0, .slice none 0 0, .slice none 0 0] 31)) none := only_alloc (only_refl _ _) _
                refine ⟨.pointer (some ⟨wx.heap.size, 0, none⟩), _, alloc_mani ρ wx, (fun c h => by cases h), only_trans x1 hg, a0, a1, a2, A', n', c', ?_, ?_, ?_, ?_, ?_, ?_⟩
                · intro h
                  rw [updB_ne D (show (12 : Nat) ≠ 16 by omega)] at h
                  rw [upd_ne u _ (show (12 : Nat) ≠ 16 by omega), updB_at, upd_at]
                  refine ⟨(x2 h).1, (x2 h).2.quiet hg (by simp) (fun b hb hlt => ⟨hb.1, fun _ e => ?_⟩)⟩
                  injection e with e; injection e with e; injection e with e
                  omega
                · intro h; rw [updB_ne D (show (13 : Nat) ≠ 16 by omega)] at h; rw [updB_ne D (show (12 : Nat) ≠ 16 by omega), upd_ne u _ (show (13 : Nat) ≠ 16 by omega)]; exact x3 h
                · intro h; rw [updB_ne D (show (14 : Nat) ≠ 16 by omega)] at h; rw [updB_ne D (show (12 : Nat) ≠ 16 by omega), upd_ne u _ (show (14 : Nat) ≠ 16 by omega)]; exact x4 h
                · intro h; rw [updB_ne D (show (15 : Nat) ≠ 16 by omega)] at h; rw [updB_ne D (show (12 : Nat) ≠ 16 by omega), upd_ne u _ (show (15 : Nat) ≠ 16 by omega)]; exact x5 h
                · intro h; rw [upd_at, updB_ne D (show (17 : Nat) ≠ 16 by omega), h17, if_neg (by simp)]; exact ⟨wx.heap.size, rfl, x1.size, Blk.new _ _ _⟩
                · intro h; rw [updB_ne D (show (17 : Nat) ≠ 16 by omega), h17] at h; cases h
              · refine gd_skip (by kernel_rfl) (Want.none_ rfl) rfl (fun D u ρ wx kn hD => ?_)
                have e0 := kn.slot 16 16 (by kernel_rfl) (by omega)
                have e1 := kn.slot 14 108 (by kernel_rfl) (by omega)
                have d16 := kn.dep 16 (by kernel_rfl)
                have d14 := kn.dep 14 (by kernel_rfl)
                obtain ⟨x1, a0, a1, a2, A', n', c', x2, x3, x4, x5, x6, x7⟩ := kn.ext
                obtain ⟨nb, q1, q2, q3⟩ := x6 d16
                rw [hD, if_neg (by simp)] at q3
                obtain ⟨dc, hv⟩ := x4 d14
                rw [q1] at e0
                rw [hv] at e1
                obtain ⟨w', z1, z2, z3⟩ := store_mani wx nb a0 a1 a2 A' n' c' q3
                refine ⟨w', by simp only [execOp, e0, e1, Sem.run_bind, z1, Result.andThen_ok, Sem.run_pure], only_fresh x1 z3 q2, a0, a1, a2, A', n', c', ?_, ?_, ?_, ?_, ?_, ?_⟩
                · intro h
                  rw [updB_ne D (show (12 : Nat) ≠ 17 by omega)] at h
                  rw [upd_ne u _ (show (12 : Nat) ≠ 17 by omega)]
                  rw [updB_ne D (show (16 : Nat) ≠ 17 by omega), upd_ne u _ (show (16 : Nat) ≠ 17 by omega)]
                  exact ⟨(x2 h).1, (x2 h).2.quiet z3 (fun b hb e => hb.2 d16 (by rw [q1]; injection e with e; rw [e])) (fun b hb _ => hb)⟩
                · intro h; rw [updB_ne D (show (13 : Nat) ≠ 17 by omega)] at h; rw [updB_ne D (show (12 : Nat) ≠ 17 by omega), upd_ne u _ (show (13 : Nat) ≠ 17 by omega)]; exact x3 h
                · intro h; rw [updB_ne D (show (14 : Nat) ≠ 17 by omega)] at h; rw [updB_ne D (show (12 : Nat) ≠ 17 by omega), upd_ne u _ (show (14 : Nat) ≠ 17 by omega)]; exact x4 h
                · intro h; rw [updB_ne D (show (15 : Nat) ≠ 17 by omega)] at h; rw [updB_ne D (show (12 : Nat) ≠ 17 by omega), upd_ne u _ (show (15 : Nat) ≠ 17 by omega)]; exact x5 h
                · intro h; rw [upd_ne u _ (show (16 : Nat) ≠ 17 by omega), updB_at, if_pos rfl]; exact ⟨nb, q1, q2, z2⟩
                · intro h; rw [updB_ne D (show (16 : Nat) ≠ 17 by omega), updB_ne D (show (12 : Nat) ≠ 17 by omega)]; exact ⟨d16, dc⟩
            · intro D u w13 hJ hD
              obtain ⟨hcn, x1, t0, t1, t2, tA, tn, tc, x2, x3, x4, x5, x6, x7⟩ := hJ
              obtain ⟨tb, hu, hgb, hB⟩ := x6 (hD 16 (by omega))
              rw [hD 17 (by omega), if_pos rfl] at hB
              have e15 := (x5 (hD 15 (by omega))).2
              simp only [List.take_succ_cons, List.take_zero, List.drop_succ_cons, List.drop_zero, putAll]
              rw [hu, e15]
              have tF := Lib.hid (x2 (hD 12 (by omega))).2
              have tG := Lib.hid x1
              have tN := Lib.hid hB
              clear hcn x1 x2 x3 x4 x5 x6 x7 hu e15 hD hB hgb d0 d1
              go_simp
              have GF := Lib.hid (only_trans GE.out tG.out)
              clear KX KQ hlbo HBM tG GE
              obtain ⟨W0, rfl⟩ : ∃ W0 : World, W0 = w13 := ⟨_, rfl⟩
              obtain ⟨d0, d1⟩ := DC.out W0 GF.out
              have HBM := Lib.hid (L9.out.mB.grown GF.out (by simp))
              have hlbo : lb < W0.heap.size := (B9.out.grown GF.out (by simp)).lt
              have KQ := Lib.hid (fun (W : World) (hW : W0.grownBy W none) => KY.out W (only_trans GF.out hW))
              go_upto_region 13 with fail
              refine wp_region_gen 18 (JC [some (.slice A0 bs.length c), some (.agg #[.int .i64 num, .int .i64 nid, .int .i64 0, .slice A2 ss.length c2, .slice none 0 0, .slice none 0 0, .slice none 0 0]), some (.slice (some ⟨lb, 0, none⟩) 3 3), some (.int .i64 ((k : Int))), some (.pointer (some ⟨lb, k * 2, none⟩)), some (.pointer (some ⟨lb, k * 2, none⟩)), some (.int .i64 (x)), some (.slice (some ⟨lb, 0, none⟩) 3 3), some (.int .i64 ((k : Int))), some (.pointer (some ⟨lb, k * 2, none⟩)), some (.pointer (some ⟨lb, k * 2 + 1, none⟩)), some (.int .i64 (y)), none, none, none, none, none, none] (fun D u wx => W0.grownBy wx none ∧ ∃ (a0 a1 a2 : Int) (A' : Option Addr) (n' c' : Nat), (D 12 = true → u 12 = .tuple #[.agg #[.int .i64 a0, .int .i64 a1, .int .i64 a2, .slice A' n' c', .slice none 0 0, .slice none 0 0, .slice none 0 0], .int .i64 E] ∧ SwF (Sx W0 (D 16) (u 16)) num nid (setT ss x y) E a0 a1 a2 A' n' c' wx) ∧ (D 13 = true → D 12 = true ∧ u 13 = .tuple #[.agg #[.int .i64 a0, .int .i64 a1, .int .i64 a2, .slice A' n' c', .slice none 0 0, .slice none 0 0, .slice none 0 0], .int .i64 E]) ∧ (D 14 = true → D 12 = true ∧ u 14 = .agg #[.int .i64 a0, .int .i64 a1, .int .i64 a2, .slice A' n' c', .slice none 0 0, .slice none 0 0, .slice none 0 0]) ∧ (D 15 = true → D 12 = true ∧ u 15 = .int .i64 E) ∧ (D 16 = true → ∃ nb, u 16 = .pointer (some ⟨nb, 0, none⟩) ∧ W0.heap.size ≤ nb ∧ Blk wx nb 31 (if D 17 = true then #[.int .i64 a0, .int .i64 a1, .int .i64 a2, .slice A' n' c', .slice none 0 0, .slice none 0 0, .slice none 0 0] else #[.int .i64 0, .int .i64 0, .int .i64 0, .slice none 0 0, .slice none 0 0, .slice none 0 0, .slice none 0 0])) ∧ (D 17 = true → D 16 = true ∧ D 12 = true))) (by kernel_rfl) (by kernel_rfl) ?_ ?_ ?_
              · intro u
                exact ⟨(fun j c _ h => by cases h), only_drew (only_refl _ _), 0, 0, 0, none, 0, 0, (fun h => by cases h), (fun h => by cases h), (fun h => by cases h), (fun h => by cases h), (fun h => by cases h), (fun h => by cases h)⟩
              · intro AA hA
                have hasz : AA.tmps.size = 139 := by rw [hA]; kernel_rfl
                have ea7 : AA.eval (.tmp 7) = .slice A0 bs.length c := by rw [hA]; kernel_rfl
                have ea8 : AA.eval (.tmp 8) = .pointer (some ⟨mb, 0, none⟩) := by rw [hA]; kernel_rfl
                have ea10 : AA.eval (.tmp 10) = .slice (some ⟨lb, 0, none⟩) 3 3 := by rw [hA]; kernel_rfl
                have ea11 : AA.eval (.tmp 11) = .int .i64 ((k : Int)) := by rw [hA]; kernel_rfl
                clear hA
                simp only [List.take_succ_cons, List.take_zero]
                refine .cons ?_ (.cons ?_ (.cons ?_ (.cons ?_ (.cons ?_ (.cons ?_ (.cons ?_ (.cons ?_ (.cons ?_ (.cons ?_ (.cons ?_ (.cons ?_ (.cons ?_ (.cons ?_ (.cons ?_ (.cons ?_ (.cons ?_ (.cons ?_ (.nil))))))))))))))))))
                · exact gd_gen (by kernel_rfl) (Want.none_ rfl) rfl (fun D u w v h => by simpa [updB, upd] using h) (fun D u ρ w kn => by
                    have e0 := kn.own 7 (c := .slice A0 bs.length c) (by kernel_rfl) ea7
                    simp [execOp, kn.rho.con, e0, go_sem])
                · exact gd_gen (by kernel_rfl) (Want.none_ rfl) rfl (fun D u w v h => by simpa [updB, upd] using h) (fun D u ρ w kn => by
                    have e0 := kn.own 8 (c := .pointer (some ⟨mb, 0, none⟩)) (by kernel_rfl) ea8
                    exact run_load ρ w rfl e0 (load_mani w mb (HBM.out.grown kn.ext.1 (by simp))))
                · exact gd_gen (by kernel_rfl) (Want.none_ rfl) rfl (fun D u w v h => by simpa [updB, upd] using h) (fun D u ρ w kn => by
                    have e0 := kn.own 10 (c := .slice (some ⟨lb, 0, none⟩) 3 3) (by kernel_rfl) ea10
                    simp [execOp, kn.rho.con, e0, go_sem])
                · exact gd_gen (by kernel_rfl) (Want.none_ rfl) rfl (fun D u w v h => by simpa [updB, upd] using h) (fun D u ρ w kn => by
                    have e0 := kn.own 11 (c := .int .i64 ((k : Int))) (by kernel_rfl) ea11
                    simp [execOp, kn.rho.con, e0, go_sem])
                · exact gd_gen (by kernel_rfl) (Want.none_ rfl) rfl (fun D u w v h => by simpa [updB, upd] using h) (fun D u ρ w kn => by
                    have e0 := kn.con 2 113 (c := .slice (some ⟨lb, 0, none⟩) 3 3) (by kernel_rfl) (by omega) (by kernel_rfl) rfl
                    have e1 := kn.con 3 114 (c := .int .i64 ((k : Int))) (by kernel_rfl) (by omega) (by kernel_rfl) rfl
                    simp [execOp, kn.rho.con, e0, e1, go_sem, hkl, hk0])
                · exact gd_gen (by kernel_rfl) (Want.none_ rfl) rfl (fun D u w v h => by simpa [updB, upd] using h) (fun D u ρ w kn => by
                    have e0 := kn.con 4 115 (c := .pointer (some ⟨lb, k * 2, none⟩)) (by kernel_rfl) (by omega) (by kernel_rfl) rfl
                    simp [execOp, kn.rho.con, e0, go_sem])
                · exact gd_gen (by kernel_rfl) (Want.none_ rfl) rfl (fun D u w v h => by simpa [updB, upd] using h) (fun D u ρ w kn => by
                    have e0 := kn.con 5 116 (c := .pointer (some ⟨lb, k * 2, none⟩)) (by kernel_rfl) (by omega) (by kernel_rfl) rfl
                    have f0 := (World.cell?_of_block (w := W0) (a := ⟨lb, k * 2, none⟩) (kn.ext.1.block lb hlbo (by simp))).trans d0
                    simp [execOp, kn.rho.con, e0, f0, go_sem])
                · exact gd_gen (by kernel_rfl) (Want.none_ rfl) rfl (fun D u w v h => by simpa [updB, upd] using h) (fun D u ρ w kn => by
                    have e0 := kn.own 10 (c := .slice (some ⟨lb, 0, none⟩) 3 3) (by kernel_rfl) ea10
                    simp [execOp, kn.rho.con, e0, go_sem])
                · exact gd_gen (by kernel_rfl) (Want.none_ rfl) rfl (fun D u w v h => by simpa [updB, upd] using h) (fun D u ρ w kn => by
                    have e0 := kn.own 11 (c := .int .i64 ((k : Int))) (by kernel_rfl) ea11
                    simp [execOp, kn.rho.con, e0, go_sem])
                · exact gd_gen (by kernel_rfl) (Want.none_ rfl) rfl (fun D u w v h => by simpa [updB, upd] using h) (fun D u ρ w kn => by
                    have e0 := kn.con 7 118 (c := .slice (some ⟨lb, 0, none⟩) 3 3) (by kernel_rfl) (by omega) (by kernel_rfl) rfl
                    have e1 := kn.con 8 119 (c := .int .i64 ((k : Int))) (by kernel_rfl) (by omega) (by kernel_rfl) rfl
                    simp [execOp, kn.rho.con, e0, e1, go_sem, hkl, hk0])
                · exact gd_gen (by kernel_rfl) (Want.none_ rfl) rfl (fun D u w v h => by simpa [updB, upd] using h) (fun D u ρ w kn => by
                    have e0 := kn.con 9 120 (c := .pointer (some ⟨lb, k * 2, none⟩)) (by kernel_rfl) (by omega) (by kernel_rfl) rfl
                    simp [execOp, kn.rho.con, e0, go_sem])
                · exact gd_gen (by kernel_rfl) (Want.none_ rfl) rfl (fun D u w v h => by simpa [updB, upd] using h) (fun D u ρ w kn => by
                    have e0 := kn.con 10 121 (c := .pointer (some ⟨lb, k * 2 + 1, none⟩)) (by kernel_rfl) (by omega) (by kernel_rfl) rfl
                    have f0 := (World.cell?_of_block (w := W0) (a := ⟨lb, k * 2 + 1, none⟩) (kn.ext.1.block lb hlbo (by simp))).trans d1
                    simp [execOp, kn.rho.con, e0, f0, go_sem])
                · refine gd_call (by kernel_rfl) (Want.none_ rfl) 19 (fun D u ρ wx kn hD => ?_)
                  have e0 := kn.con 0 111 (c := .slice A0 bs.length c) (by kernel_rfl) (by omega) (by kernel_rfl) rfl
                  have e1 := kn.con 1 112 (c := .agg #[.int .i64 num, .int .i64 nid, .int .i64 0, .slice A2 ss.length c2, .slice none 0 0, .slice none 0 0, .slice none 0 0]) (by kernel_rfl) (by omega) (by kernel_rfl) rfl
                  have e2 := kn.con 6 117 (c := .int .i64 x) (by kernel_rfl) (by omega) (by kernel_rfl) rfl
                  have e3 := kn.con 11 122 (c := .int .i64 y) (by kernel_rfl) (by omega) (by kernel_rfl) rfl
                  obtain ⟨x1, a0, a1, a2, A', n', c', x2, x3, x4, x5, x6, x7⟩ := kn.ext
                  have h13 : D 13 = false := by cases h : D 13 with | false => rfl | true => have := (x3 h).1; rw [hD] at this; cases this
                  have h14 : D 14 = false := by cases h : D 14 with | false => rfl | true => have := (x4 h).1; rw [hD] at this; cases this
                  have h15 : D 15 = false := by cases h : D 15 with | false => rfl | true => have := (x5 h).1; rw [hD] at this; cases this
                  have h17 : D 17 = false := by cases h : D 17 with | false => rfl | true => have := (x7 h).2; rw [hD] at this; cases this
                  refine ⟨#[.slice A0 bs.length c, .agg #[.int .i64 num, .int .i64 nid, .int .i64 0, .slice A2 ss.length c2, .slice none 0 0, .slice none 0 0, .slice none 0 0], .int .i64 x, .int .i64 y], ?_, (KQ.out wx x1).mono ?_⟩
                  · simp only [execOp, resolve, Deferred.ofValue, List.map_toArray, List.map_cons, List.map_nil, e0, e1, e2, e3, kn.rho.con, kn.rho.fn]
                    simp [go_sem]
                  · rintro e w' ⟨hg, b0, b1, b2, B', m', d', rfl, hz⟩
                    refine ⟨_, rfl, (fun c h => by cases h), only_trans x1 hg, b0, b1, b2, B', m', d', (fun _ => ⟨upd_at _ _ _, ?_⟩), (fun h => by rw [updB_ne D (show (13 : Nat) ≠ 12 by omega), h13] at h; cases h), (fun h => by rw [updB_ne D (show (14 : Nat) ≠ 12 by omega), h14] at h; cases h), (fun h => by rw [updB_ne D (show (15 : Nat) ≠ 12 by omega), h15] at h; cases h), (fun h => ?_), (fun h => by rw [updB_ne D (show (17 : Nat) ≠ 12 by omega), h17] at h; cases h)⟩
                    · rw [updB_ne D (show (16 : Nat) ≠ 12 by omega), upd_ne u _ (show (16 : Nat) ≠ 12 by omega)]
                      intro hE
                      obtain ⟨k1, k2, k3, k4, k5, k6, k7⟩ := hz hE
                      refine ⟨k1, k2, k3, k4, k5, k6, k7.mono (fun b hb _ => ⟨Nat.le_trans x1.size hb, fun h e => ?_⟩)⟩
                      obtain ⟨nb, q1, q2, q3⟩ := x6 h
                      rw [q1] at e
                      injection e with e; injection e with e; injection e with e
                      have hb2 : wx.heap.size ≤ b := hb
                      have := q3.lt
                      omega
                    · rw [updB_ne D (show (16 : Nat) ≠ 12 by omega)] at h
                      rw [upd_ne u _ (show (16 : Nat) ≠ 12 by omega), updB_ne D (show (17 : Nat) ≠ 12 by omega), h17, if_neg (by simp)]
                      obtain ⟨nb, q1, q2, q3⟩ := x6 h
                      rw [h17, if_neg (by simp)] at q3
                      exact ⟨nb, q1, q2, q3.grown hg (by simp)⟩
                · refine gd_eff (by kernel_rfl) (Want.none_ rfl) (fun D u ρ wx kn hD => ?_)
                  have e0 := kn.slot 12 123 (by kernel_rfl) (by omega)
                  have dd := kn.dep 12 (by kernel_rfl)
                  obtain ⟨x1, a0, a1, a2, A', n', c', x2, x3, x4, x5, x6, x7⟩ := kn.ext
                  have dc : D 12 = true := dd
                  have hu := (x2 dd).1
                  rw [hu] at e0
                  refine ⟨.tuple #[.agg #[.int .i64 a0, .int .i64 a1, .int .i64 a2, .slice A' n' c', .slice none 0 0, .slice none 0 0, .slice none 0 0], .int .i64 E], wx, by simp [execOp, kn.rho.con, e0, go_sem], (fun c h => by cases h), x1, a0, a1, a2, A', n', c', ?_, ?_, ?_, ?_, ?_, ?_⟩
                  · intro h; rw [upd_ne u _ (show (12 : Nat) ≠ 13 by omega), updB_ne D (show (16 : Nat) ≠ 13 by omega), upd_ne u _ (show (16 : Nat) ≠ 13 by omega)]; exact x2 dc
                  · intro h; rw [updB_ne D (show (12 : Nat) ≠ 13 by omega)]; exact ⟨dc, upd_at _ _ _⟩
                  · intro h; rw [updB_ne D (show (14 : Nat) ≠ 13 by omega)] at h; rw [updB_ne D (show (12 : Nat) ≠ 13 by omega), upd_ne u _ (show (14 : Nat) ≠ 13 by omega)]; exact x4 h
                  · intro h; rw [updB_ne D (show (15 : Nat) ≠ 13 by omega)] at h; rw [updB_ne D (show (12 : Nat) ≠ 13 by omega), upd_ne u _ (show (15 : Nat) ≠ 13 by omega)]; exact x5 h
                  · intro h; rw [updB_ne D (show (16 : Nat) ≠ 13 by omega)] at h; rw [upd_ne u _ (show (16 : Nat) ≠ 13 by omega), updB_ne D (show (17 : Nat) ≠ 13 by omega)]; exact x6 h
                  · intro h; rw [updB_ne D (show (17 : Nat) ≠ 13 by omega)] at h; rw [updB_ne D (show (16 : Nat) ≠ 13 by omega), updB_ne D (show (12 : Nat) ≠ 13 by omega)]; exact x7 h
                · refine gd_eff (by kernel_rfl) (Want.none_ rfl) (fun D u ρ wx kn hD => ?_)
                  have e0 := kn.slot 13 110 (by kernel_rfl) (by omega)
                  have dd := kn.dep 13 (by kernel_rfl)
                  obtain ⟨x1, a0, a1, a2, A', n', c', x2, x3, x4, x5, x6, x7⟩ := kn.ext
                  have dc : D 12 = true := (x3 dd).1
                  have hu := (x3 dd).2
                  rw [hu] at e0
                  refine ⟨.agg #[.int .i64 a0, .int .i64 a1, .int .i64 a2, .slice A' n' c', .slice none 0 0, .slice none 0 0, .slice none 0 0], wx, by simp [execOp, kn.rho.con, e0, go_sem], (fun c h => by cases h), x1, a0, a1, a2, A', n', c', ?_, ?_, ?_, ?_, ?_, ?_⟩
                  · intro h; rw [upd_ne u _ (show (12 : Nat) ≠ 14 by omega), updB_ne D (show (16 : Nat) ≠ 14 by omega), upd_ne u _ (show (16 : Nat) ≠ 14 by omega)]; exact x2 dc
                  · intro h; rw [updB_ne D (show (13 : Nat) ≠ 14 by omega)] at h; rw [updB_ne D (show (12 : Nat) ≠ 14 by omega), upd_ne u _ (show (13 : Nat) ≠ 14 by omega)]; exact x3 h
                  · intro h; rw [updB_ne D (show (12 : Nat) ≠ 14 by omega)]; exact ⟨dc, upd_at _ _ _⟩
                  · intro h; rw [updB_ne D (show (15 : Nat) ≠ 14 by omega)] at h; rw [updB_ne D (show (12 : Nat) ≠ 14 by omega), upd_ne u _ (show (15 : Nat) ≠ 14 by omega)]; exact x5 h
                  · intro h; rw [updB_ne D (show (16 : Nat) ≠ 14 by omega)] at h; rw [upd_ne u _ (show (16 : Nat) ≠ 14 by omega), updB_ne D (show (17 : Nat) ≠ 14 by omega)]; exact x6 h
                  · intro h; rw [updB_ne D (show (17 : Nat) ≠ 14 by omega)] at h; rw [updB_ne D (show (16 : Nat) ≠ 14 by omega), updB_ne D (show (12 : Nat) ≠ 14 by omega)]; exact x7 h
                · refine gd_eff (by kernel_rfl) (Want.none_ rfl) (fun D u ρ wx kn hD => ?_)
                  have e0 := kn.slot 13 110 (by kernel_rfl) (by omega)
                  have dd := kn.dep 13 (by kernel_rfl)
                  obtain ⟨x1, a0, a1, a2, A', n', c', x2, x3, x4, x5, x6, x7⟩ := kn.ext
                  have dc : D 12 = true := (x3 dd).1
                  have hu := (x3 dd).2
                  rw [hu] at e0
                  refine ⟨.int .i64 E, wx, by simp [execOp, kn.rho.con, e0, go_sem], (fun c h => by cases h), x1, a0, a1, a2, A', n', c', ?_, ?_, ?_, ?_, ?_, ?_⟩
                  · intro h; rw [upd_ne u _ (show (12 : Nat) ≠ 15 by omega), updB_ne D (show (16 : Nat) ≠ 15 by omega), upd_ne u _ (show (16 : Nat) ≠ 15 by omega)]; exact x2 dc
                  · intro h; rw [updB_ne D (show (13 : Nat) ≠ 15 by omega)] at h; rw [updB_ne D (show (12 : Nat) ≠ 15 by omega), upd_ne u _ (show (13 : Nat) ≠ 15 by omega)]; exact x3 h
                  · intro h; rw [updB_ne D (show (14 : Nat) ≠ 15 by omega)] at h; rw [updB_ne D (show (12 : Nat) ≠ 15 by omega), upd_ne u _ (show (14 : Nat) ≠ 15 by omega)]; exact x4 h
                  · intro h; rw [updB_ne D (show (12 : Nat) ≠ 15 by omega)]; exact ⟨dc, upd_at _ _ _⟩
                  · intro h; rw [updB_ne D (show (16 : Nat) ≠ 15 by omega)] at h; rw [upd_ne u _ (show (16 : Nat) ≠ 15 by omega), updB_ne D (show (17 : Nat) ≠ 15 by omega)]; exact x6 h
                  · intro h; rw [updB_ne D (show (17 : Nat) ≠ 15 by omega)] at h; rw [updB_ne D (show (16 : Nat) ≠ 15 by omega), updB_ne D (show (12 : Nat) ≠ 15 by omega)]; exact x7 h
                · refine gd_eff (by kernel_rfl) (Want.none_ rfl) (fun D u ρ wx kn hD => ?_)
                  obtain ⟨x1, a0, a1, a2, A', n', c', x2, x3, x4, x5, x6, x7⟩ := kn.ext
                  have h17 : D 17 = false := by cases h : D 17 with | false => rfl | true => have := (x7 h).1; rw [hD] at this; cases this
                  have hg : wx.grownBy (wx.alloc (.cells #[.int .i64 0, .int .i64 0, .int .i64 0, .slice none 0 0, .slice none 0 0, .slice none 0 0, .slice none 0 0] 31)) none := only_alloc (only_refl _ _) _
                  refine ⟨.pointer (some ⟨wx.heap.size, 0, none⟩), _, alloc_mani ρ wx, (fun c h => by cases h), only_trans x1 hg, a0, a1, a2, A', n', c', ?_, ?_, ?_, ?_, ?_, ?_⟩
                  · intro h
                    rw [updB_ne D (show (12 : Nat) ≠ 16 by omega)] at h
                    rw [upd_ne u _ (show (12 : Nat) ≠ 16 by omega), updB_at, upd_at]
                    refine ⟨(x2 h).1, (x2 h).2.quiet hg (by simp) (fun b hb hlt => ⟨hb.1, fun _ e => ?_⟩)⟩
                    injection e with e; injection e with e; injection e with e
                    omega
                  · intro h; rw [updB_ne D (show (13 : Nat) ≠ 16 by omega)] at h; rw [updB_ne D (show (12 : Nat) ≠ 16 by omega), upd_ne u _ (show (13 : Nat) ≠ 16 by omega)]; exact x3 h
                  · intro h; rw [updB_ne D (show (14 : Nat) ≠ 16 by omega)] at h; rw [updB_ne D (show (12 : Nat) ≠ 16 by omega), upd_ne u _ (show (14 : Nat) ≠ 16 by omega)]; exact x4 h
                  · intro h; rw [updB_ne D (show (15 : Nat) ≠ 16 by omega)] at h; rw [updB_ne D (show (12 : Nat) ≠ 16 by omega), upd_ne u _ (show (15 : Nat) ≠ 16 by omega)]; exact x5 h
                  · intro h; rw [upd_at, updB_ne D (show (17 : Nat) ≠ 16 by omega), h17, if_neg (by simp)]; exact ⟨wx.heap.size, rfl, x1.size, Blk.new _ _ _⟩
                  · intro h; rw [updB_ne D (show (17 : Nat) ≠ 16 by omega), h17] at h; cases h
                · refine gd_skip (by kernel_rfl) (Want.none_ rfl) rfl (fun D u ρ wx kn hD => ?_)
                  have e0 := kn.slot 16 18 (by kernel_rfl) (by omega)
                  have e1 := kn.slot 14 124 (by kernel_rfl) (by omega)
                  have d16 := kn.dep 16 (by kernel_rfl)
                  have d14 := kn.dep 14 (by kernel_rfl)
                  obtain ⟨x1, a0, a1, a2, A', n', c', x2, x3, x4, x5, x6, x7⟩ := kn.ext
                  obtain ⟨nb, q1, q2, q3⟩ := x6 d16
                  rw [hD, if_neg (by simp)] at q3
                  obtain ⟨dc, hv⟩ := x4 d14
                  rw [q1] at e0
                  rw [hv] at e1
                  obtain ⟨w', z1, z2, z3⟩ := store_mani wx nb a0 a1 a2 A' n' c' q3
                  refine ⟨w', by simp only [execOp, e0, e1, Sem.run_bind, z1, Result.andThen_ok, Sem.run_pure], only_fresh x1 z3 q2, a0, a1, a2, A', n', c', ?_, ?_, ?_, ?_, ?_, ?_⟩
                  · intro h
                    rw [updB_ne D (show (12 : Nat) ≠ 17 by omega)] at h
                    rw [upd_ne u _ (show (12 : Nat) ≠ 17 by omega)]
                    rw [updB_ne D (show (16 : Nat) ≠ 17 by omega), upd_ne u _ (show (16 : Nat) ≠ 17 by omega)]
                    exact ⟨(x2 h).1, (x2 h).2.quiet z3 (fun b hb e => hb.2 d16 (by rw [q1]; injection e with e; rw [e])) (fun b hb _ => hb)⟩
                  · intro h; rw [updB_ne D (show (13 : Nat) ≠ 17 by omega)] at h; rw [updB_ne D (show (12 : Nat) ≠ 17 by omega), upd_ne u _ (show (13 : Nat) ≠ 17 by omega)]; exact x3 h
                  · intro h; rw [updB_ne D (show (14 : Nat) ≠ 17 by omega)] at h; rw [updB_ne D (show (12 : Nat) ≠ 17 by omega), upd_ne u _ (show (14 : Nat) ≠ 17 by omega)]; exact x4 h
                  · intro h; rw [updB_ne D (show (15 : Nat) ≠ 17 by omega)] at h; rw [updB_ne D (show (12 : Nat) ≠ 17 by omega), upd_ne u _ (show (15 : Nat) ≠ 17 by omega)]; exact x5 h
                  · intro h; rw [upd_ne u _ (show (16 : Nat) ≠ 17 by omega), updB_at, if_pos rfl]; exact ⟨nb, q1, q2, z2⟩
                  · intro h; rw [updB_ne D (show (16 : Nat) ≠ 17 by omega), updB_ne D (show (12 : Nat) ≠ 17 by omega)]; exact ⟨d16, dc⟩
              · intro D u w14 hJ hD
                obtain ⟨hcn, x1, z0, z1, z2, zA, zn, zc, x2, x3, x4, x5, x6, x7⟩ := hJ
                obtain ⟨zb, hu, hgb, hB⟩ := x6 (hD 16 (by omega))
                rw [hD 17 (by omega), if_pos rfl] at hB
                have e15 := (x5 (hD 15 (by omega))).2
                simp only [List.take_succ_cons, List.take_zero, List.drop_succ_cons, List.drop_zero, putAll]
                rw [hu, e15]
                have zF := Lib.hid (x2 (hD 12 (by omega))).2
                have zG := Lib.hid x1
                have zN := Lib.hid hB
                clear hcn x1 x2 x3 x4 x5 x6 x7 hu e15 hD hB hgb d0 d1
                go_simp
                have GH := Lib.hid (only_trans GF.out zG.out)
                have TN := Lib.hid (tN.out.grown zG.out (by simp))
                have TF : Hid (E = 0 → t0 = num + 1 ∧ t1 = nid ∧ t2 = 0 ∧ tn = (setT ss x y).length ∧ Rd (fun _ => True) w14 tA ((setT ss x y).flatMap SegD.cells)) := Lib.hid (fun hE => by
                  obtain ⟨k1, k2, k3, k4, -, -, k7⟩ := tF.out hE
                  exact ⟨k1, k2, k3, k4, (k7.mono (fun _ _ _ => trivial)).grown zG.out (by simp)⟩)
                have ZF : Hid (E = 0 → z0 = num + 1 ∧ z1 = nid ∧ z2 = 0 ∧ zn = (setT ss x y).length ∧ Rd (fun _ => True) w14 zA ((setT ss x y).flatMap SegD.cells)) := Lib.hid (fun hE => by
                  obtain ⟨k1, k2, k3, k4, -, -, k7⟩ := zF.out hE
                  exact ⟨k1, k2, k3, k4, k7.mono (fun _ _ _ => trivial)⟩)
                clear KY KQ hlbo HBM zG GF tN tF zF
                go_upto_region 14 with fail
                go_cut [138] (fun vb wx => vb = .bool false ∧ w14.grownBy wx none)
                case first =>
                  by_cases h0 : E = 0
                  · have KS : Hid (Calls Tryz.prog 20 #[.agg #[.int .i64 t0, .int .i64 t1, .int .i64 t2, .slice tA tn tc, .slice none 0 0, .slice none 0 0, .slice none 0 0], .agg #[.int .i64 z0, .int .i64 z1, .int .i64 z2, .slice zA zn zc, .slice none 0 0, .slice none 0 0, .slice none 0 0]] w14 (BoolExtC true w14)) := Lib.hid (by
                      obtain ⟨r1, r2, r3, r4, r5⟩ := TF.out h0
                      obtain ⟨u1, u2, u3, u4, u5⟩ := ZF.out h0
                      rw [r1, r2, r3, r4, u1, u2, u3, u4]
                      exact rsame30_true (num + 1) nid 0 tA zA (setT ss x y) tc zc w14 r5 u5 (by rw [setT_len]; omega))
                    have hN1 := TN.out
                    have hN2 := zN.out
                    have b0 := hN1.cell 0
                    have b1 := hN1.cell 1
                    have b2 := hN1.cell 2
                    have b3 := hN1.cell 3
                    have b4 := hN1.cell 4
                    have b5 := hN1.cell 5
                    have b6 := hN1.cell 6
                    simp at b0 b1 b2 b3 b4 b5 b6
                    have q0 := hN2.cell 0
                    have q1 := hN2.cell 1
                    have q2 := hN2.cell 2
                    have q3 := hN2.cell 3
                    have q4 := hN2.cell 4
                    have q5 := hN2.cell 5
                    have q6 := hN2.cell 6
                    simp at q0 q1 q2 q3 q4 q5 q6
                    clear hN1 hN2
                    have e1 : (E == 0) = true := by simp [h0]
                    clear h0
                    go_wp2_with fail
                    refine KS.out.mono ?_
                    rintro e w15 ⟨rfl, hg15⟩
                    go_wp2_with fail
                    go_meet
                    exact ⟨rfl, hg15⟩
                  · have e1 : (E == 0) = false := by simp [h0]
                    clear h0
                    go_wp2_with fail
                    go_meet
                    exact ⟨rfl, only_refl _ _⟩
                case rest =>
                  obtain ⟨rfl, hwc⟩ := hcut
                  have GI := Lib.hid (only_trans GH.out hwc)
                  clear hwc
                  go_wp2_with fail
                  go_roundw
                  case rel => exact ⟨k + 1, by go_num, by omega, GI.out⟩
                  case measure => simp [intOf]; omega
    · have i1 : ¬ ((k : Int) < 3) := by omega
      go_wp2_with fail
      go_ret
      exact ⟨rfl, only_trans GW.out GR.out⟩
end Go.Proofs.YtganfhmjklcchaaGreat
