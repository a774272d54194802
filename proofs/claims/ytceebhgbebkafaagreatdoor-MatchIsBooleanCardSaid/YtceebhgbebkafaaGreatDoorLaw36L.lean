/- The law of part 36 about negation, conjunction and disjunction. Condition: the table of powers of ten; MaxLen holds a number. -/
import Derived.Test.YtceebhgbebkafaaGreatDoorSelect
import Derived.Test.YtceebhgbebkafaaGreatDoorSameEv
import Derived.Test.YtceebhgbebkafaaGreatDoorScene
import Derived.Test.YtceebhgbebkafaaGreatDoorAwake
import Derived.Deep.DeepCutAuto
import Derived.IntWalk
namespace Go.Proofs.YtceebhgbebkafaaGreatDoor
open Go.RowKit
set_option linter.unusedVariables false
set_option linter.unusedSimpArgs false

theorem filt_sum {α : Type} (p : α → Bool) : ∀ (l : List α), (l.filter p).length + (l.filter (fun x => !p x)).length = l.length
  | [] => rfl
  | x :: l => by
    have := filt_sum p l
    cases h : p x <;> simp [h] <;> omega
theorem hold_not (e : Ev) (n : Nat) (t : TT) (ka : Option Addr) (kc : Nat) : holdB e (n + 1) (TT.mk 5 ⟨#[]⟩ ⟨#[]⟩ 0 ka kc [t]) = !holdB e n t := by
  simp [holdB, TT.op, TT.kids]
theorem hold_both (e : Ev) (n : Nat) (t u : TT) (ka : Option Addr) (kc : Nat) : holdB e (n + 1) (TT.mk 6 ⟨#[]⟩ ⟨#[]⟩ 0 ka kc [t, u]) = (holdB e n t && holdB e n u) := by
  simp [holdB, TT.op, TT.kids]
theorem hold_either (e : Ev) (n : Nat) (t u : TT) (ka : Option Addr) (kc : Nat) : holdB e (n + 1) (TT.mk 7 ⟨#[]⟩ ⟨#[]⟩ 0 ka kc [t, u]) = (holdB e n t || holdB e n u) := by
  simp [holdB, TT.op, TT.kids]
theorem TT.one_ok {n : Nat} {t : TT} {ka : Option Addr} {kc : Nat} (ht : t.Ok n) : (TT.mk 5 ⟨#[]⟩ ⟨#[]⟩ 0 ka kc [t]).Ok (n + 1) := by
  refine ⟨by simp only [TT.op]; omega, by simp [TT.nm, TT.tx, ByteArray.size], by simp only [TT.num]; omega, .inr (.inl ⟨rfl, by simp [TT.kids]⟩), by simp [TT.kids], fun k hk => ?_⟩
  have hk : k = t := by simpa [TT.kids] using hk
  rw [hk]; exact ht
theorem TT.one_sub {n : Nat} {S : Nat → Prop} {t : TT} {w : World} {b : Nat} (ht : t.Sub n S w) (hb : Blk w b 26 t.cells.toArray) (hS : S b) : (TT.mk 5 ⟨#[]⟩ ⟨#[]⟩ 0 (some ⟨b, 0, none⟩) 1 [t]).Sub (n + 1) S w := by
  refine ⟨fun _ => ⟨b, 0, rfl, hS, hb.lt, fun j v hv => ?_⟩, by simp [TT.kids, TT.kc], by simp only [TT.kc]; unfold maxLen; omega, fun k hk => ?_⟩
  · rw [Nat.zero_add, hb.cell j]
    simpa [TT.kids] using hv
  · have hk : k = t := by simpa [TT.kids] using hk
    rw [hk]; exact ht
theorem TT.pair_okL {n : Nat} {t u : TT} {op : Int} {ka : Option Addr} {kc : Nat} (ht : t.Ok n) (hu : u.Ok n) (ho : op = 6 ∨ op = 7) : (TT.mk op ⟨#[]⟩ ⟨#[]⟩ 0 ka kc [t, u]).Ok (n + 1) := by
  refine ⟨by simp only [TT.op]; omega, by simp [TT.nm, TT.tx, ByteArray.size], by simp only [TT.num]; omega, .inr (.inr ⟨ho, by simp [TT.kids], by simp [TT.kids]⟩), by simp [TT.kids], fun k hk => ?_⟩
  have hk : k = t ∨ k = u := by simpa [TT.kids] using hk
  rcases hk with rfl | rfl
  · exact ht
  · exact hu
theorem TT.pair_subL {n : Nat} {S : Nat → Prop} {t u : TT} {op : Int} {w : World} {b : Nat} (ht : t.Sub n S w) (hu : u.Sub n S w) (hb : Blk w b 26 (t.cells ++ u.cells).toArray) (hS : S b) : (TT.mk op ⟨#[]⟩ ⟨#[]⟩ 0 (some ⟨b, 0, none⟩) 2 [t, u]).Sub (n + 1) S w := by
  refine ⟨fun _ => ⟨b, 0, rfl, hS, hb.lt, fun j v hv => ?_⟩, by simp [TT.kids, TT.kc], by simp only [TT.kc]; unfold maxLen; omega, fun k hk => ?_⟩
  · rw [Nat.zero_add, hb.cell j]
    simpa [TT.kids] using hv
  · have hk : k = t ∨ k = u := by simpa [TT.kids] using hk
    rcases hk with rfl | rfl
    · exact ht
    · exact hu
set_option maxHeartbeats 16000000 in
set_option maxRecDepth 100000 in
theorem law_bool (A : Option Addr) (l : List Int) (c : Nat) (w : World) (hPow : Pow10 w) (hMax : MaxL w) (h : Rd (fun _ => True) w A (l.map (.int .u8))) (hc : l.length ≤ c) (hcm : c ≤ maxLen) (hx : ∀ x ∈ l, 0 ≤ x ∧ x ≤ 255) :
    Calls Tryz.prog 4 #[.slice A l.length c] w (BoolP w true) := by
  have HS : Hid (∀ w', w.grownBy w' none → Calls Tryz.prog 10 #[.slice A l.length c] w' (ScenePost w')) := fun w' hg => scene_any A l c w' (h.grown hg (by simp)) hc hcm hx
  have HPW := Lib.hid hPow
  have HMX := Lib.hid hMax
  clear h hc hcm hx hPow hMax
  go_enter Tryz.func4, Tryz.ntmps4
  go_wp2_with fail
  refine (awake_any _).mono ?_
  rintro e w1 ⟨rfl, hg1⟩
  have G1 := Lib.hid hg1
  clear hg1
  go_wp2_with fail
  refine (HS.out _ G1.out).mono ?_
  rintro e w2 ⟨t, A2, c2, es, g, k2, l2, rfl, hok, hsub, hc2, hm2, hl2, hev, hst, hgd, h2, hgw, hg2⟩
  have HOK := Lib.hid hok
  have HGD : Hid (∀ e ∈ es, EvGood e) := hgd
  have hcl : t.cells.toArray = #[.int .i64 t.op, .string t.nm, .string t.tx, .int .i64 t.num, .slice t.ka t.kids.length t.kc] := rfl
  rw [hcl]
  have G2 := Lib.hid (only_trans G1.out hg2)
  have HSUB := Lib.hid hsub
  have HEV := Lib.hid hev
  have HC := Lib.hid h2
  have hgl := h2.lt
  have hwg : w.heap.size ≤ g := Nat.le_trans G1.out.size hgw
  clear hsub hev h2 hg2 G1 HS hcl hst hgd hok hgw
  go_upto_region 4 with fail
  obtain ⟨N, hN⟩ : ∃ N, N = w2.heap.size := ⟨_, rfl⟩
  obtain ⟨W, hW⟩ : ∃ W, W = w2.alloc (.cells #[.int .i64 t.op, .string t.nm, .string t.tx, .int .i64 t.num, .slice t.ka t.kids.length t.kc] 26) := ⟨_, rfl⟩
  have hB := Blk.new w2 26 #[.int .i64 t.op, .string t.nm, .string t.tx, .int .i64 t.num, .slice t.ka t.kids.length t.kc]
  have hGW : w2.grownBy W none := by rw [hW]; exact only_alloc (only_refl _ _) _
  rw [← hW, ← hN] at hB
  rw [← hW, ← hN]
  have SUBW := Lib.hid (HSUB.out.grown hGW (by simp))
  have EVW := Lib.hid (HEV.out.grown hGW (by simp))
  have HCW : Hid (CodesAt W g l2 k2) := Lib.hid (by rw [hW]; exact HC.out.alloc _)
  have GW := Lib.hid (only_trans G2.out hGW)
  have BW := Lib.hid hB
  have hNW := hB.lt
  have hgN : g < N := by omega
  clear hB hGW hW hN HSUB HEV HC G2 hgl
  go_wp2_with fail
  refine (test_some 2 (by omega) g _ k2 _ HCW.out).mono ?_
  rintro e w3 ⟨u, k3, rfl, huok, husub, h3, hg3⟩
  have HUOK := Lib.hid huok
  have hcl : u.cells.toArray = #[.int .i64 u.op, .string u.nm, .string u.tx, .int .i64 u.num, .slice u.ka u.kids.length u.kc] := rfl
  rw [hcl]
  have G3 : Hid (w.grownBy w3 none) := Lib.hid (only_fresh GW.out hg3 hwg)
  have SUB3 := Lib.hid (SUBW.out.grown hg3 (fun b hb e => by injection e; exact hb.2 (by assumption)))
  have EV3 := Lib.hid (EVW.out.grown hg3 (fun b hb e => by injection e; exact hb.2 (by assumption)))
  have B3 := Lib.hid (BW.out.grown hg3 (by intro e; injection e; omega))
  have USUB3 := Lib.hid husub
  have hN3 := B3.out.lt
  obtain ⟨e0, e1, e2, e3, e4⟩ := box5 B3.out (only_refl w3 none)
  clear huok husub h3 hg3 hcl BW SUBW EVW HCW
  go_upto_region 5 with fail
  obtain ⟨W5, hW5⟩ : ∃ W, W = (w3.alloc (.cells #[.int .i64 u.op, .string u.nm, .string u.tx, .int .i64 u.num, .slice u.ka u.kids.length u.kc] 26)) := ⟨_, rfl⟩
  have hg5 : w3.grownBy W5 none := by rw [hW5]; exact only_alloc (only_refl _ _) _
  have hba0 : Blk W5 (w3.heap.size) 26 #[.int .i64 u.op, .string u.nm, .string u.tx, .int .i64 u.num, .slice u.ka u.kids.length u.kc] := by rw [hW5]; simpa using (Blk.new w3 26 #[.int .i64 u.op, .string u.nm, .string u.tx, .int .i64 u.num, .slice u.ka u.kids.length u.kc])
  rw [← hW5]
  obtain ⟨a0, ha0⟩ : ∃ b, b = w3.heap.size := ⟨_, rfl⟩
  try rw [← ha0] at hba0
  try rw [← ha0]
  have BNq := Lib.hid (B3.out.grown hg5 (by simp))
  have Ba0q := Lib.hid hba0
  have SUBq := Lib.hid (SUB3.out.grown hg5 (by simp))
  have EVq := Lib.hid (EV3.out.grown hg5 (by simp))
  have USUBq := Lib.hid (USUB3.out.grown hg5 (by simp))
  have Gq := Lib.hid (only_trans G3.out hg5)
  clear hW5 ha0 hg5 hba0 B3 SUB3 EV3 USUB3 G3 e0 e1 e2 e3 e4
  have BNp := BNq
  have Ba0p := Ba0q
  have SUBp := SUBq
  have EVp := EVq
  have USUBp := USUBq
  have Gp := Gq
  clear BNq Ba0q SUBq EVq USUBq Gq
  obtain ⟨Nc0, Nc1, Nc2, Nc3, Nc4⟩ := box5 BNp.out (only_refl W5 none)
  have Nl := BNp.out.lt
  obtain ⟨a0c0, a0c1, a0c2, a0c3, a0c4⟩ := box5 Ba0p.out (only_refl W5 none)
  have a0l := Ba0p.out.lt
  go_upto_region 6 with fail
  obtain ⟨W6, hW6⟩ : ∃ W, W = ((W5.alloc (.cells #[.int .i64 t.op, .string t.nm, .string t.tx, .int .i64 t.num, .slice t.ka t.kids.length t.kc] 26)).alloc (.cells #[.int .i64 5, .string ⟨#[]⟩, .string ⟨#[]⟩, .int .i64 0, .slice (some ⟨W5.heap.size, 0, none⟩) 1 1] 26)) := ⟨_, rfl⟩
  have hg6 : W5.grownBy W6 none := by rw [hW6]; exact only_alloc (only_alloc (only_refl _ _) _) _
  have hba1 : Blk W6 (W5.heap.size) 26 #[.int .i64 t.op, .string t.nm, .string t.tx, .int .i64 t.num, .slice t.ka t.kids.length t.kc] := by rw [hW6]; simpa using ((Blk.new W5 26 #[.int .i64 t.op, .string t.nm, .string t.tx, .int .i64 t.num, .slice t.ka t.kids.length t.kc]).alloc (.cells #[.int .i64 5, .string ⟨#[]⟩, .string ⟨#[]⟩, .int .i64 0, .slice (some ⟨W5.heap.size, 0, none⟩) 1 1] 26))
  have hba2 : Blk W6 (W5.heap.size + 1) 26 #[.int .i64 5, .string ⟨#[]⟩, .string ⟨#[]⟩, .int .i64 0, .slice (some ⟨W5.heap.size, 0, none⟩) 1 1] := by rw [hW6]; simpa using (Blk.new (W5.alloc (.cells #[.int .i64 t.op, .string t.nm, .string t.tx, .int .i64 t.num, .slice t.ka t.kids.length t.kc] 26)) 26 #[.int .i64 5, .string ⟨#[]⟩, .string ⟨#[]⟩, .int .i64 0, .slice (some ⟨W5.heap.size, 0, none⟩) 1 1])
  rw [← hW6]
  obtain ⟨a1, ha1⟩ : ∃ b, b = W5.heap.size := ⟨_, rfl⟩
  obtain ⟨a2, ha2⟩ : ∃ b, b = W5.heap.size + 1 := ⟨_, rfl⟩
  try rw [← ha2] at hba2
  try rw [← ha1] at hba1
  try rw [← ha2] at hba1
  try rw [← ha1] at hba1
  try rw [← ha2] at hba2
  try rw [← ha1] at hba2
  try rw [← ha2]
  try rw [← ha1]
  have BNq := Lib.hid (BNp.out.grown hg6 (by simp))
  have Ba0q := Lib.hid (Ba0p.out.grown hg6 (by simp))
  have Ba1q := Lib.hid hba1
  have Ba2q := Lib.hid hba2
  have SUBq := Lib.hid (SUBp.out.grown hg6 (by simp))
  have EVq := Lib.hid (EVp.out.grown hg6 (by simp))
  have USUBq := Lib.hid (USUBp.out.grown hg6 (by simp))
  have Gq := Lib.hid (only_trans Gp.out hg6)
  clear hW6 ha1 ha2 hg6 hba1 hba2 BNp Ba0p SUBp EVp USUBp Gp Nc0 Nc1 Nc2 Nc3 Nc4 a0c0 a0c1 a0c2 a0c3 a0c4
  have BNp := BNq
  have Ba0p := Ba0q
  have Ba1p := Ba1q
  have Ba2p := Ba2q
  have SUBp := SUBq
  have EVp := EVq
  have USUBp := USUBq
  have Gp := Gq
  clear BNq Ba0q Ba1q Ba2q SUBq EVq USUBq Gq
  obtain ⟨Nc0, Nc1, Nc2, Nc3, Nc4⟩ := box5 BNp.out (only_refl W6 none)
  have Nl := BNp.out.lt
  obtain ⟨a0c0, a0c1, a0c2, a0c3, a0c4⟩ := box5 Ba0p.out (only_refl W6 none)
  have a0l := Ba0p.out.lt
  obtain ⟨a2c0, a2c1, a2c2, a2c3, a2c4⟩ := box5 Ba2p.out (only_refl W6 none)
  have a2l := Ba2p.out.lt
  go_upto_region 7 with fail
  obtain ⟨W7, hW7⟩ : ∃ W, W = ((W6.alloc (.cells #[.int .i64 t.op, .string t.nm, .string t.tx, .int .i64 t.num, .slice t.ka t.kids.length t.kc, .int .i64 u.op, .string u.nm, .string u.tx, .int .i64 u.num, .slice u.ka u.kids.length u.kc] 26)).alloc (.cells #[.int .i64 6, .string ⟨#[]⟩, .string ⟨#[]⟩, .int .i64 0, .slice (some ⟨W6.heap.size, 0, none⟩) 2 2] 26)) := ⟨_, rfl⟩
  have hg7 : W6.grownBy W7 none := by rw [hW7]; exact only_alloc (only_alloc (only_refl _ _) _) _
  have hba3 : Blk W7 (W6.heap.size) 26 #[.int .i64 t.op, .string t.nm, .string t.tx, .int .i64 t.num, .slice t.ka t.kids.length t.kc, .int .i64 u.op, .string u.nm, .string u.tx, .int .i64 u.num, .slice u.ka u.kids.length u.kc] := by rw [hW7]; simpa using ((Blk.new W6 26 #[.int .i64 t.op, .string t.nm, .string t.tx, .int .i64 t.num, .slice t.ka t.kids.length t.kc, .int .i64 u.op, .string u.nm, .string u.tx, .int .i64 u.num, .slice u.ka u.kids.length u.kc]).alloc (.cells #[.int .i64 6, .string ⟨#[]⟩, .string ⟨#[]⟩, .int .i64 0, .slice (some ⟨W6.heap.size, 0, none⟩) 2 2] 26))
  have hba4 : Blk W7 (W6.heap.size + 1) 26 #[.int .i64 6, .string ⟨#[]⟩, .string ⟨#[]⟩, .int .i64 0, .slice (some ⟨W6.heap.size, 0, none⟩) 2 2] := by rw [hW7]; simpa using (Blk.new (W6.alloc (.cells #[.int .i64 t.op, .string t.nm, .string t.tx, .int .i64 t.num, .slice t.ka t.kids.length t.kc, .int .i64 u.op, .string u.nm, .string u.tx, .int .i64 u.num, .slice u.ka u.kids.length u.kc] 26)) 26 #[.int .i64 6, .string ⟨#[]⟩, .string ⟨#[]⟩, .int .i64 0, .slice (some ⟨W6.heap.size, 0, none⟩) 2 2])
  rw [← hW7]
  obtain ⟨a3, ha3⟩ : ∃ b, b = W6.heap.size := ⟨_, rfl⟩
  obtain ⟨a4, ha4⟩ : ∃ b, b = W6.heap.size + 1 := ⟨_, rfl⟩
  try rw [← ha4] at hba4
  try rw [← ha3] at hba3
  try rw [← ha4] at hba3
  try rw [← ha3] at hba3
  try rw [← ha4] at hba4
  try rw [← ha3] at hba4
  try rw [← ha4]
  try rw [← ha3]
  have BNq := Lib.hid (BNp.out.grown hg7 (by simp))
  have Ba0q := Lib.hid (Ba0p.out.grown hg7 (by simp))
  have Ba1q := Lib.hid (Ba1p.out.grown hg7 (by simp))
  have Ba2q := Lib.hid (Ba2p.out.grown hg7 (by simp))
  have Ba3q := Lib.hid hba3
  have Ba4q := Lib.hid hba4
  have SUBq := Lib.hid (SUBp.out.grown hg7 (by simp))
  have EVq := Lib.hid (EVp.out.grown hg7 (by simp))
  have USUBq := Lib.hid (USUBp.out.grown hg7 (by simp))
  have Gq := Lib.hid (only_trans Gp.out hg7)
  clear hW7 ha3 ha4 hg7 hba3 hba4 BNp Ba0p Ba1p Ba2p SUBp EVp USUBp Gp Nc0 Nc1 Nc2 Nc3 Nc4 a0c0 a0c1 a0c2 a0c3 a0c4 a2c0 a2c1 a2c2 a2c3 a2c4
  have BNp := BNq
  have Ba0p := Ba0q
  have Ba1p := Ba1q
  have Ba2p := Ba2q
  have Ba3p := Ba3q
  have Ba4p := Ba4q
  have SUBp := SUBq
  have EVp := EVq
  have USUBp := USUBq
  have Gp := Gq
  clear BNq Ba0q Ba1q Ba2q Ba3q Ba4q SUBq EVq USUBq Gq
  obtain ⟨Nc0, Nc1, Nc2, Nc3, Nc4⟩ := box5 BNp.out (only_refl W7 none)
  have Nl := BNp.out.lt
  obtain ⟨a0c0, a0c1, a0c2, a0c3, a0c4⟩ := box5 Ba0p.out (only_refl W7 none)
  have a0l := Ba0p.out.lt
  obtain ⟨a2c0, a2c1, a2c2, a2c3, a2c4⟩ := box5 Ba2p.out (only_refl W7 none)
  have a2l := Ba2p.out.lt
  obtain ⟨a4c0, a4c1, a4c2, a4c3, a4c4⟩ := box5 Ba4p.out (only_refl W7 none)
  have a4l := Ba4p.out.lt
  go_upto_region 8 with fail
  obtain ⟨W8, hW8⟩ : ∃ W, W = ((W7.alloc (.cells #[.int .i64 t.op, .string t.nm, .string t.tx, .int .i64 t.num, .slice t.ka t.kids.length t.kc, .int .i64 u.op, .string u.nm, .string u.tx, .int .i64 u.num, .slice u.ka u.kids.length u.kc] 26)).alloc (.cells #[.int .i64 7, .string ⟨#[]⟩, .string ⟨#[]⟩, .int .i64 0, .slice (some ⟨W7.heap.size, 0, none⟩) 2 2] 26)) := ⟨_, rfl⟩
  have hg8 : W7.grownBy W8 none := by rw [hW8]; exact only_alloc (only_alloc (only_refl _ _) _) _
  have hba5 : Blk W8 (W7.heap.size) 26 #[.int .i64 t.op, .string t.nm, .string t.tx, .int .i64 t.num, .slice t.ka t.kids.length t.kc, .int .i64 u.op, .string u.nm, .string u.tx, .int .i64 u.num, .slice u.ka u.kids.length u.kc] := by rw [hW8]; simpa using ((Blk.new W7 26 #[.int .i64 t.op, .string t.nm, .string t.tx, .int .i64 t.num, .slice t.ka t.kids.length t.kc, .int .i64 u.op, .string u.nm, .string u.tx, .int .i64 u.num, .slice u.ka u.kids.length u.kc]).alloc (.cells #[.int .i64 7, .string ⟨#[]⟩, .string ⟨#[]⟩, .int .i64 0, .slice (some ⟨W7.heap.size, 0, none⟩) 2 2] 26))
  have hba6 : Blk W8 (W7.heap.size + 1) 26 #[.int .i64 7, .string ⟨#[]⟩, .string ⟨#[]⟩, .int .i64 0, .slice (some ⟨W7.heap.size, 0, none⟩) 2 2] := by rw [hW8]; simpa using (Blk.new (W7.alloc (.cells #[.int .i64 t.op, .string t.nm, .string t.tx, .int .i64 t.num, .slice t.ka t.kids.length t.kc, .int .i64 u.op, .string u.nm, .string u.tx, .int .i64 u.num, .slice u.ka u.kids.length u.kc] 26)) 26 #[.int .i64 7, .string ⟨#[]⟩, .string ⟨#[]⟩, .int .i64 0, .slice (some ⟨W7.heap.size, 0, none⟩) 2 2])
  rw [← hW8]
  obtain ⟨a5, ha5⟩ : ∃ b, b = W7.heap.size := ⟨_, rfl⟩
  obtain ⟨a6, ha6⟩ : ∃ b, b = W7.heap.size + 1 := ⟨_, rfl⟩
  try rw [← ha6] at hba6
  try rw [← ha5] at hba5
  try rw [← ha6] at hba5
  try rw [← ha5] at hba5
  try rw [← ha6] at hba6
  try rw [← ha5] at hba6
  try rw [← ha6]
  try rw [← ha5]
  have BNq := Lib.hid (BNp.out.grown hg8 (by simp))
  have Ba0q := Lib.hid (Ba0p.out.grown hg8 (by simp))
  have Ba1q := Lib.hid (Ba1p.out.grown hg8 (by simp))
  have Ba2q := Lib.hid (Ba2p.out.grown hg8 (by simp))
  have Ba3q := Lib.hid (Ba3p.out.grown hg8 (by simp))
  have Ba4q := Lib.hid (Ba4p.out.grown hg8 (by simp))
  have Ba5q := Lib.hid hba5
  have Ba6q := Lib.hid hba6
  have SUBq := Lib.hid (SUBp.out.grown hg8 (by simp))
  have EVq := Lib.hid (EVp.out.grown hg8 (by simp))
  have USUBq := Lib.hid (USUBp.out.grown hg8 (by simp))
  have Gq := Lib.hid (only_trans Gp.out hg8)
  clear hW8 ha5 ha6 hg8 hba5 hba6 BNp Ba0p Ba1p Ba2p Ba3p Ba4p SUBp EVp USUBp Gp Nc0 Nc1 Nc2 Nc3 Nc4 a0c0 a0c1 a0c2 a0c3 a0c4 a2c0 a2c1 a2c2 a2c3 a2c4 a4c0 a4c1 a4c2 a4c3 a4c4
  have BNp := BNq
  have Ba0p := Ba0q
  have Ba1p := Ba1q
  have Ba2p := Ba2q
  have Ba3p := Ba3q
  have Ba4p := Ba4q
  have Ba5p := Ba5q
  have Ba6p := Ba6q
  have SUBp := SUBq
  have EVp := EVq
  have USUBp := USUBq
  have Gp := Gq
  clear BNq Ba0q Ba1q Ba2q Ba3q Ba4q Ba5q Ba6q SUBq EVq USUBq Gq
  obtain ⟨Nc0, Nc1, Nc2, Nc3, Nc4⟩ := box5 BNp.out (only_refl W8 none)
  have Nl := BNp.out.lt
  obtain ⟨a0c0, a0c1, a0c2, a0c3, a0c4⟩ := box5 Ba0p.out (only_refl W8 none)
  have a0l := Ba0p.out.lt
  obtain ⟨a2c0, a2c1, a2c2, a2c3, a2c4⟩ := box5 Ba2p.out (only_refl W8 none)
  have a2l := Ba2p.out.lt
  obtain ⟨a4c0, a4c1, a4c2, a4c3, a4c4⟩ := box5 Ba4p.out (only_refl W8 none)
  have a4l := Ba4p.out.lt
  obtain ⟨a6c0, a6c1, a6c2, a6c3, a6c4⟩ := box5 Ba6p.out (only_refl W8 none)
  have a6l := Ba6p.out.lt
  go_upto_region 9 with fail
  obtain ⟨W9, hW9⟩ : ∃ W, W = (((W8.alloc (.cells #[.int .i64 u.op, .string u.nm, .string u.tx, .int .i64 u.num, .slice u.ka u.kids.length u.kc] 26)).alloc (.cells #[.int .i64 5, .string ⟨#[]⟩, .string ⟨#[]⟩, .int .i64 0, .slice (some ⟨a1, 0, none⟩) 1 1, .int .i64 5, .string ⟨#[]⟩, .string ⟨#[]⟩, .int .i64 0, .slice (some ⟨W8.heap.size, 0, none⟩) 1 1] 26)).alloc (.cells #[.int .i64 6, .string ⟨#[]⟩, .string ⟨#[]⟩, .int .i64 0, .slice (some ⟨W8.heap.size + 1, 0, none⟩) 2 2] 26)) := ⟨_, rfl⟩
  have hg9 : W8.grownBy W9 none := by rw [hW9]; exact only_alloc (only_alloc (only_alloc (only_refl _ _) _) _) _
  have hba7 : Blk W9 (W8.heap.size) 26 #[.int .i64 u.op, .string u.nm, .string u.tx, .int .i64 u.num, .slice u.ka u.kids.length u.kc] := by rw [hW9]; simpa using (((Blk.new W8 26 #[.int .i64 u.op, .string u.nm, .string u.tx, .int .i64 u.num, .slice u.ka u.kids.length u.kc]).alloc (.cells #[.int .i64 5, .string ⟨#[]⟩, .string ⟨#[]⟩, .int .i64 0, .slice (some ⟨a1, 0, none⟩) 1 1, .int .i64 5, .string ⟨#[]⟩, .string ⟨#[]⟩, .int .i64 0, .slice (some ⟨W8.heap.size, 0, none⟩) 1 1] 26)).alloc (.cells #[.int .i64 6, .string ⟨#[]⟩, .string ⟨#[]⟩, .int .i64 0, .slice (some ⟨W8.heap.size + 1, 0, none⟩) 2 2] 26))
  have hba8 : Blk W9 (W8.heap.size + 1) 26 #[.int .i64 5, .string ⟨#[]⟩, .string ⟨#[]⟩, .int .i64 0, .slice (some ⟨a1, 0, none⟩) 1 1, .int .i64 5, .string ⟨#[]⟩, .string ⟨#[]⟩, .int .i64 0, .slice (some ⟨W8.heap.size, 0, none⟩) 1 1] := by rw [hW9]; simpa using ((Blk.new (W8.alloc (.cells #[.int .i64 u.op, .string u.nm, .string u.tx, .int .i64 u.num, .slice u.ka u.kids.length u.kc] 26)) 26 #[.int .i64 5, .string ⟨#[]⟩, .string ⟨#[]⟩, .int .i64 0, .slice (some ⟨a1, 0, none⟩) 1 1, .int .i64 5, .string ⟨#[]⟩, .string ⟨#[]⟩, .int .i64 0, .slice (some ⟨W8.heap.size, 0, none⟩) 1 1]).alloc (.cells #[.int .i64 6, .string ⟨#[]⟩, .string ⟨#[]⟩, .int .i64 0, .slice (some ⟨W8.heap.size + 1, 0, none⟩) 2 2] 26))
  have hba9 : Blk W9 (W8.heap.size + 1 + 1) 26 #[.int .i64 6, .string ⟨#[]⟩, .string ⟨#[]⟩, .int .i64 0, .slice (some ⟨W8.heap.size + 1, 0, none⟩) 2 2] := by rw [hW9]; simpa using (Blk.new ((W8.alloc (.cells #[.int .i64 u.op, .string u.nm, .string u.tx, .int .i64 u.num, .slice u.ka u.kids.length u.kc] 26)).alloc (.cells #[.int .i64 5, .string ⟨#[]⟩, .string ⟨#[]⟩, .int .i64 0, .slice (some ⟨a1, 0, none⟩) 1 1, .int .i64 5, .string ⟨#[]⟩, .string ⟨#[]⟩, .int .i64 0, .slice (some ⟨W8.heap.size, 0, none⟩) 1 1] 26)) 26 #[.int .i64 6, .string ⟨#[]⟩, .string ⟨#[]⟩, .int .i64 0, .slice (some ⟨W8.heap.size + 1, 0, none⟩) 2 2])
  rw [← hW9]
  obtain ⟨a7, ha7⟩ : ∃ b, b = W8.heap.size := ⟨_, rfl⟩
  obtain ⟨a8, ha8⟩ : ∃ b, b = W8.heap.size + 1 := ⟨_, rfl⟩
  obtain ⟨a9, ha9⟩ : ∃ b, b = W8.heap.size + 1 + 1 := ⟨_, rfl⟩
  try rw [← ha9] at hba9
  try rw [← ha8] at hba8
  try rw [← ha7] at hba7
  try rw [← ha9] at hba7
  try rw [← ha8] at hba7
  try rw [← ha7] at hba7
  try rw [← ha9] at hba8
  try rw [← ha8] at hba8
  try rw [← ha7] at hba8
  try rw [← ha9] at hba9
  try rw [← ha8] at hba9
  try rw [← ha7] at hba9
  try rw [← ha9]
  try rw [← ha8]
  try rw [← ha7]
  have BNq := Lib.hid (BNp.out.grown hg9 (by simp))
  have Ba0q := Lib.hid (Ba0p.out.grown hg9 (by simp))
  have Ba1q := Lib.hid (Ba1p.out.grown hg9 (by simp))
  have Ba2q := Lib.hid (Ba2p.out.grown hg9 (by simp))
  have Ba3q := Lib.hid (Ba3p.out.grown hg9 (by simp))
  have Ba4q := Lib.hid (Ba4p.out.grown hg9 (by simp))
  have Ba5q := Lib.hid (Ba5p.out.grown hg9 (by simp))
  have Ba6q := Lib.hid (Ba6p.out.grown hg9 (by simp))
  have Ba7q := Lib.hid hba7
  have Ba8q := Lib.hid hba8
  have Ba9q := Lib.hid hba9
  have SUBq := Lib.hid (SUBp.out.grown hg9 (by simp))
  have EVq := Lib.hid (EVp.out.grown hg9 (by simp))
  have USUBq := Lib.hid (USUBp.out.grown hg9 (by simp))
  have Gq := Lib.hid (only_trans Gp.out hg9)
  clear hW9 ha7 ha8 ha9 hg9 hba7 hba8 hba9 BNp Ba0p Ba1p Ba2p Ba3p Ba4p Ba5p Ba6p SUBp EVp USUBp Gp Nc0 Nc1 Nc2 Nc3 Nc4 a0c0 a0c1 a0c2 a0c3 a0c4 a2c0 a2c1 a2c2 a2c3 a2c4 a4c0 a4c1 a4c2 a4c3 a4c4 a6c0 a6c1 a6c2 a6c3 a6c4
  have BNp := BNq
  have Ba0p := Ba0q
  have Ba1p := Ba1q
  have Ba2p := Ba2q
  have Ba3p := Ba3q
  have Ba4p := Ba4q
  have Ba5p := Ba5q
  have Ba6p := Ba6q
  have Ba7p := Ba7q
  have Ba8p := Ba8q
  have Ba9p := Ba9q
  have SUBp := SUBq
  have EVp := EVq
  have USUBp := USUBq
  have Gp := Gq
  clear BNq Ba0q Ba1q Ba2q Ba3q Ba4q Ba5q Ba6q Ba7q Ba8q Ba9q SUBq EVq USUBq Gq
  obtain ⟨Nc0, Nc1, Nc2, Nc3, Nc4⟩ := box5 BNp.out (only_refl W9 none)
  have Nl := BNp.out.lt
  obtain ⟨a0c0, a0c1, a0c2, a0c3, a0c4⟩ := box5 Ba0p.out (only_refl W9 none)
  have a0l := Ba0p.out.lt
  obtain ⟨a2c0, a2c1, a2c2, a2c3, a2c4⟩ := box5 Ba2p.out (only_refl W9 none)
  have a2l := Ba2p.out.lt
  obtain ⟨a4c0, a4c1, a4c2, a4c3, a4c4⟩ := box5 Ba4p.out (only_refl W9 none)
  have a4l := Ba4p.out.lt
  obtain ⟨a6c0, a6c1, a6c2, a6c3, a6c4⟩ := box5 Ba6p.out (only_refl W9 none)
  have a6l := Ba6p.out.lt
  obtain ⟨a9c0, a9c1, a9c2, a9c3, a9c4⟩ := box5 Ba9p.out (only_refl W9 none)
  have a9l := Ba9p.out.lt
  have hpow := HPW.out.grown Gp.out
  have hmax := HMX.out.grown Gp.out
  have htS : t.Sub 4 (fun _ => True) W9 := SUBp.out.mono (fun _ _ _ => trivial)
  have huS : u.Sub 4 (fun _ => True) W9 := (USUBp.out.mono (fun _ _ _ => trivial)).up
  have htO := HOK.out
  have huO : u.Ok 4 := HUOK.out.up
  have noS : (TT.mk 5 ⟨#[]⟩ ⟨#[]⟩ 0 (some ⟨a1, 0, none⟩) 1 [t]).Sub 5 (fun _ => True) W9 := TT.one_sub htS Ba1p.out trivial
  have noO : (TT.mk 5 ⟨#[]⟩ ⟨#[]⟩ 0 (some ⟨a1, 0, none⟩) 1 [t]).Ok 5 := TT.one_ok htO
  have nuS : (TT.mk 5 ⟨#[]⟩ ⟨#[]⟩ 0 (some ⟨a7, 0, none⟩) 1 [u]).Sub 5 (fun _ => True) W9 := TT.one_sub huS Ba7p.out trivial
  have nuO : (TT.mk 5 ⟨#[]⟩ ⟨#[]⟩ 0 (some ⟨a7, 0, none⟩) 1 [u]).Ok 5 := TT.one_ok huO
  have boS : (TT.mk 6 ⟨#[]⟩ ⟨#[]⟩ 0 (some ⟨a3, 0, none⟩) 2 [t, u]).Sub 5 (fun _ => True) W9 := TT.pair_subL htS huS Ba3p.out trivial
  have boO : (TT.mk 6 ⟨#[]⟩ ⟨#[]⟩ 0 (some ⟨a3, 0, none⟩) 2 [t, u]).Ok 5 := TT.pair_okL htO huO (.inl rfl)
  have eiS : (TT.mk 7 ⟨#[]⟩ ⟨#[]⟩ 0 (some ⟨a5, 0, none⟩) 2 [t, u]).Sub 5 (fun _ => True) W9 := TT.pair_subL htS huS Ba5p.out trivial
  have eiO : (TT.mk 7 ⟨#[]⟩ ⟨#[]⟩ 0 (some ⟨a5, 0, none⟩) 2 [t, u]).Ok 5 := TT.pair_okL htO huO (.inr rfl)
  have neS : (TT.mk 6 ⟨#[]⟩ ⟨#[]⟩ 0 (some ⟨a8, 0, none⟩) 2 [TT.mk 5 ⟨#[]⟩ ⟨#[]⟩ 0 (some ⟨a1, 0, none⟩) 1 [t], TT.mk 5 ⟨#[]⟩ ⟨#[]⟩ 0 (some ⟨a7, 0, none⟩) 1 [u]]).Sub 6 (fun _ => True) W9 := TT.pair_subL noS nuS Ba8p.out trivial
  have neO : (TT.mk 6 ⟨#[]⟩ ⟨#[]⟩ 0 (some ⟨a8, 0, none⟩) 2 [TT.mk 5 ⟨#[]⟩ ⟨#[]⟩ 0 (some ⟨a1, 0, none⟩) 1 [t], TT.mk 5 ⟨#[]⟩ ⟨#[]⟩ 0 (some ⟨a7, 0, none⟩) 1 [u]]).Ok 6 := TT.pair_okL noO nuO (.inl rfl)
  have alS : (TT.mk 0 ⟨#[]⟩ ⟨#[]⟩ 0 none 0 []).Sub 1 (fun _ => True) W9 := TT.Sub.leaf
  have alO : (TT.mk 0 ⟨#[]⟩ ⟨#[]⟩ 0 none 0 []).Ok 1 := TT.Ok.leaf (by omega) (by decide) (by omega) (by omega)
  have hevs : Evs (fun _ => True) W9 A2 es := EVp.out.mono (fun _ _ _ => trivial)
  have hlen : es.length ≤ 1000 := by omega
  have KS : ∀ (x : TT) (n : Nat) (f : List Ev), x.Ok n → x.Sub n (fun _ => True) W9 → es.filter (fun e => holdB e n x) = f → ∀ w', W9.grownBy w' none → Calls Tryz.prog 14 #[.agg x.cells.toArray, .slice A2 es.length c2] w' (SelPost (fun _ => True) w' f) := fun x n f h1 h2 h3 w' hg => by
    rw [← h3]
    exact select_any x n A2 es c2 w' h1 (h2.grown hg (by simp)) (hevs.grown hg (by simp)) hlen HGD.out (hpow.grown hg) (hmax.grown hg)
  obtain ⟨f1, hf1⟩ : ∃ f, f = es.filter (fun e => holdB e 4 t) := ⟨_, rfl⟩
  obtain ⟨f2, hf2⟩ : ∃ f, f = es.filter (fun e => !holdB e 4 t) := ⟨_, rfl⟩
  obtain ⟨f3, hf3⟩ : ∃ f, f = es.filter (fun e => holdB e 4 t && holdB e 4 u) := ⟨_, rfl⟩
  obtain ⟨f4, hf4⟩ : ∃ f, f = es.filter (fun e => holdB e 4 t || holdB e 4 u) := ⟨_, rfl⟩
  obtain ⟨f5, hf5⟩ : ∃ f, f = es.filter (fun e => !(holdB e 4 t || holdB e 4 u)) := ⟨_, rfl⟩
  have l12 : f1.length + f2.length = es.length := by rw [hf1, hf2]; exact filt_sum _ es
  have l45 : f4.length + f5.length = es.length := by rw [hf4, hf5]; exact filt_sum _ es
  have K1 : Hid (∀ w', W9.grownBy w' none → Calls Tryz.prog 14 #[.agg #[.int .i64 t.op, .string t.nm, .string t.tx, .int .i64 t.num, .slice t.ka t.kids.length t.kc], .slice A2 es.length c2] w' (SelPost (fun _ => True) w' f1)) := Lib.hid (KS t 4 f1 htO htS hf1.symm)
  have K2 : Hid (∀ w', W9.grownBy w' none → Calls Tryz.prog 14 #[.agg #[.int .i64 5, .string ⟨#[]⟩, .string ⟨#[]⟩, .int .i64 0, .slice (some ⟨a1, 0, none⟩) 1 1], .slice A2 es.length c2] w' (SelPost (fun _ => True) w' f2)) := Lib.hid (by have h0 := (KS _ 5 f2 noO noS (by rw [hf2]; exact List.filter_congr (fun e _ => hold_not e 4 t _ _))); exact h0)
  have K3 : Hid (∀ w', W9.grownBy w' none → Calls Tryz.prog 14 #[.agg #[.int .i64 6, .string ⟨#[]⟩, .string ⟨#[]⟩, .int .i64 0, .slice (some ⟨a3, 0, none⟩) 2 2], .slice A2 es.length c2] w' (SelPost (fun _ => True) w' f3)) := Lib.hid (by have h0 := (KS _ 5 f3 boO boS (by rw [hf3]; exact List.filter_congr (fun e _ => hold_both e 4 t u _ _))); exact h0)
  have K4 : Hid (∀ w', W9.grownBy w' none → Calls Tryz.prog 14 #[.agg #[.int .i64 7, .string ⟨#[]⟩, .string ⟨#[]⟩, .int .i64 0, .slice (some ⟨a5, 0, none⟩) 2 2], .slice A2 es.length c2] w' (SelPost (fun _ => True) w' f4)) := Lib.hid (by have h0 := (KS _ 5 f4 eiO eiS (by rw [hf4]; exact List.filter_congr (fun e _ => hold_either e 4 t u _ _))); exact h0)
  have q5 : es.filter (fun e => holdB e 6 (TT.mk 6 ⟨#[]⟩ ⟨#[]⟩ 0 (some ⟨a8, 0, none⟩) 2 [TT.mk 5 ⟨#[]⟩ ⟨#[]⟩ 0 (some ⟨a1, 0, none⟩) 1 [t], TT.mk 5 ⟨#[]⟩ ⟨#[]⟩ 0 (some ⟨a7, 0, none⟩) 1 [u]])) = f5 := by
    rw [hf5]
    refine List.filter_congr (fun e _ => ?_)
    rw [hold_both, hold_not, hold_not]
    cases holdB e 4 t <;> cases holdB e 4 u <;> rfl
  have K5 : Hid (∀ w', W9.grownBy w' none → Calls Tryz.prog 14 #[.agg #[.int .i64 6, .string ⟨#[]⟩, .string ⟨#[]⟩, .int .i64 0, .slice (some ⟨a8, 0, none⟩) 2 2], .slice A2 es.length c2] w' (SelPost (fun _ => True) w' f5)) := Lib.hid (by have h0 := (KS _ 6 f5 neO neS q5); exact h0)
  have q6 : es.filter (fun e => holdB e 1 (TT.mk 0 ⟨#[]⟩ ⟨#[]⟩ 0 none 0 [])) = es := by
    rw [List.filter_eq_self]
    exact fun e _ => rfl
  have K6 : Hid (∀ w', W9.grownBy w' none → Calls Tryz.prog 14 #[.agg #[.int .i64 0, .string ⟨#[]⟩, .string ⟨#[]⟩, .int .i64 0, .slice none 0 0], .slice A2 es.length c2] w' (SelPost (fun _ => True) w' es)) := Lib.hid (by have h0 := (KS _ 1 es alO alS q6); exact h0)
  have hf31 : f3 = f1.filter (fun e => holdB e 4 u) := by rw [hf3, hf1, List.filter_filter]; exact List.filter_congr (fun e _ => Bool.and_comm _ _)
  have g1 : ∀ e ∈ f1, EvGood e := fun e he => HGD.out e (by rw [hf1] at he; exact (List.mem_filter.1 he).1)
  have l1 : f1.length ≤ es.length := by omega
  have K7 : Hid (∀ (A' : Option Addr) (c' : Nat) (w' : World), W9.grownBy w' none → Evs (fun _ => True) w' A' f1 → Calls Tryz.prog 14 #[.agg #[.int .i64 u.op, .string u.nm, .string u.tx, .int .i64 u.num, .slice u.ka u.kids.length u.kc], .slice A' f1.length c'] w' (SelPost (fun _ => True) w' f3)) := Lib.hid (fun A' c' w' hg he => by
    rw [hf31]
    exact select_any u 4 A' f1 c' w' huO (huS.grown hg (by simp)) he (by omega) g1 (hpow.grown hg) (hmax.grown hg))
  have l3 : f3.length ≤ f1.length := by rw [hf31]; exact List.length_filter_le _ _
  have bd : ∀ f : List Ev, (∀ e ∈ f, e ∈ es) → Bdd f := fun f hf e he => by
    have := (HGD.out e (hf e he)).evT
    exact ⟨Nat.le_trans this.1 (by omega), Nat.le_trans this.2.2.2.1 (by omega)⟩
  have K8 : Hid (∀ (A' B' : Option Addr) (c' d' : Nat) (w' : World), Evs (fun _ => True) w' A' f3 → Evs (fun _ => True) w' B' f3 → Calls Tryz.prog 13 #[.slice A' f3.length c', .slice B' f3.length d'] w' (BoolExt true w')) := Lib.hid (fun A' B' c' d' w' h1 h2 => sameevents_true A' B' f3 f3 c' d' w' h1 h2 (EvsEq.refl f3) (bd f3 (fun e he => by rw [hf3] at he; exact (List.mem_filter.1 he).1)) (by omega))
  have K9 : Hid (∀ (A' B' : Option Addr) (c' d' : Nat) (w' : World), Evs (fun _ => True) w' A' es → Evs (fun _ => True) w' B' es → Calls Tryz.prog 13 #[.slice A' es.length c', .slice B' es.length d'] w' (BoolExt true w')) := Lib.hid (fun A' B' c' d' w' h1 h2 => sameevents_true A' B' es es c' d' w' h1 h2 (EvsEq.refl es) (bd es (fun e he => he)) (by omega))
  have HEVS := Lib.hid hevs
  have s1 : ((f1.length : Int) + (f2.length : Int) != (es.length : Int)) = false := by rw [bne_eq_false_iff_eq]; omega
  have s2 : ((f4.length : Int) + (f5.length : Int) == (es.length : Int)) = true := by rw [beq_iff_eq]; omega
  have v1 : IntKind.i64.wrap ((f1.length : Int) + (f2.length : Int)) = (f1.length : Int) + (f2.length : Int) := IntWalk.i64_in _ (by omega)
  have v2 : IntKind.i64.wrap ((f4.length : Int) + (f5.length : Int)) = (f4.length : Int) + (f5.length : Int) := IntWalk.i64_in _ (by omega)
  have m1 : f1.length ≤ 30 := by omega
  have m2 : f2.length ≤ 30 := by omega
  have m4 : f4.length ≤ 30 := by omega
  have m5 : f5.length ≤ 30 := by omega
  clear hf1 hf2 hf3 hf4 hf5 q5 q6 l12 l45 KS hf31 g1 l1 l3 bd hevs hpow hmax htS huS htO huO noS noO nuS nuO boS boO eiS eiO neS neO alS alO hlen
  have G90 : Hid (W9.grownBy W9.drew none) := Lib.hid (only_drew (only_refl _ _))
  go_wp2_with fail
  go_cut [61] (fun v wx => v = .bool false ∧ W9.grownBy wx none)
  case first =>
    clear a6c0 a6c1 a6c2 a6c3 a6c4 a9c0 a9c1 a9c2 a9c3 a9c4
    go_region_law (first
      | (have htok := hst5; go_simp; go_at_call 13; go_must (with_reducible (refine (K8.out _ _ _ _ _ E35.out E55.out).mono ?_)); rintro en w16 ⟨rfl, hg16⟩; have H16 : Hid (W9.grownBy w16 none) := Lib.hid (only_trans H15.out hg16); clear hst5 hg16)
      | (have htok := hst4; go_simp; go_at_call 14; go_must (with_reducible (refine (K7.out _ _ _ H14.out E44.out).mono ?_)); rintro en w15 ⟨A5, q5, rfl, -, -, ho5, hs5, hg15⟩; have H15 : Hid (W9.grownBy w15 none) := Lib.hid (only_trans H14.out hg15); have E55 := Lib.hid (SelPost.evs ho5 hs5); have E35 := Lib.hid (E34.out.grown hg15 (by simp)); have hst5 : True := trivial; clear hst4 ho5 hs5 hg15)
      | (have htok := hst3; go_simp; go_at_call 14; go_must (with_reducible (refine (K1.out _ H13.out).mono ?_)); rintro en w14 ⟨A4, q4, rfl, -, -, ho4, hs4, hg14⟩; have H14 : Hid (W9.grownBy w14 none) := Lib.hid (only_trans H13.out hg14); have E44 := Lib.hid (SelPost.evs ho4 hs4); have E34 := Lib.hid (E33.out.grown hg14 (by simp)); clear Nc0 Nc1 Nc2 Nc3 Nc4 a0c0 a0c1 a0c2 a0c3 a0c4; obtain ⟨a0c0, a0c1, a0c2, a0c3, a0c4⟩ := box5 Ba0p.out H14.out; have hst4 : True := trivial; clear hst3 ho4 hs4 hg14)
      | (have htok := hst2; go_simp; go_at_call 14; go_must (with_reducible (refine (K3.out _ H12.out).mono ?_)); rintro en w13 ⟨A3, q3, rfl, -, -, ho3, hs3, hg13⟩; have H13 : Hid (W9.grownBy w13 none) := Lib.hid (only_trans H12.out hg13); have E33 := Lib.hid (SelPost.evs ho3 hs3); clear a4c0 a4c1 a4c2 a4c3 a4c4 Nc0 Nc1 Nc2 Nc3 Nc4 a0c0 a0c1 a0c2 a0c3 a0c4; obtain ⟨Nc0, Nc1, Nc2, Nc3, Nc4⟩ := box5 BNp.out H13.out; obtain ⟨a0c0, a0c1, a0c2, a0c3, a0c4⟩ := box5 Ba0p.out H13.out; have hst3 : True := trivial; clear hst2 ho3 hs3 hg13)
      | (have htok := hst1; go_simp; go_at_call 14; go_must (with_reducible (refine (K2.out _ H11.out).mono ?_)); rintro en w12 ⟨A12, q12, rfl, -, -, -, -, hg12⟩; have H12 : Hid (W9.grownBy w12 none) := Lib.hid (only_trans H11.out hg12); clear a2c0 a2c1 a2c2 a2c3 a2c4 a4c0 a4c1 a4c2 a4c3 a4c4 Nc0 Nc1 Nc2 Nc3 Nc4 a0c0 a0c1 a0c2 a0c3 a0c4; obtain ⟨a4c0, a4c1, a4c2, a4c3, a4c4⟩ := box5 Ba4p.out H12.out; obtain ⟨Nc0, Nc1, Nc2, Nc3, Nc4⟩ := box5 BNp.out H12.out; obtain ⟨a0c0, a0c1, a0c2, a0c3, a0c4⟩ := box5 Ba0p.out H12.out; have hst2 : True := trivial; clear hst1 hg12)
      | (go_simp; go_at_call 14; go_must (with_reducible (refine (K1.out _ G90.out).mono ?_)); rintro en w11 ⟨A11, q11, rfl, -, -, -, -, hg11⟩; have H11 : Hid (W9.grownBy w11 none) := Lib.hid (only_trans G90.out hg11); clear Nc0 Nc1 Nc2 Nc3 Nc4 a0c0 a0c1 a0c2 a0c3 a0c4 a2c0 a2c1 a2c2 a2c3 a2c4 a4c0 a4c1 a4c2 a4c3 a4c4; obtain ⟨a2c0, a2c1, a2c2, a2c3, a2c4⟩ := box5 Ba2p.out H11.out; obtain ⟨a4c0, a4c1, a4c2, a4c3, a4c4⟩ := box5 Ba4p.out H11.out; obtain ⟨Nc0, Nc1, Nc2, Nc3, Nc4⟩ := box5 BNp.out H11.out; obtain ⟨a0c0, a0c1, a0c2, a0c3, a0c4⟩ := box5 Ba0p.out H11.out; have hst1 : True := trivial; clear hg11))
    all_goals
      go_wp2_with fail
      go_meet
      exact ⟨rfl, H16.out⟩
  case rest =>
    obtain ⟨rfl, hgc⟩ := hcut
    have HC := Lib.hid hgc
    have HCD : Hid (W9.grownBy wc.drew none) := Lib.hid (only_drew hgc)
    clear hgc
    clear Nc0 Nc1 Nc2 Nc3 Nc4 a0c0 a0c1 a0c2 a0c3 a0c4 a2c0 a2c1 a2c2 a2c3 a2c4 a4c0 a4c1 a4c2 a4c3 a4c4 a6c0 a6c1 a6c2 a6c3 a6c4 a9c0 a9c1 a9c2 a9c3 a9c4
    obtain ⟨a6c0, a6c1, a6c2, a6c3, a6c4⟩ := box5 Ba6p.out HC.out
    obtain ⟨a9c0, a9c1, a9c2, a9c3, a9c4⟩ := box5 Ba9p.out HC.out
    go_wp2_with fail
    go_region_law (first
      | (have htok := hst3; go_simp; go_at_call 13; go_must (with_reducible (refine (K9.out _ _ _ _ _ E33.out E23.out).mono ?_)); rintro en w24 ⟨rfl, hg24⟩; have H24 : Hid (W9.grownBy w24 none) := Lib.hid (only_trans H23.out hg24); clear hst3 hg24)
      | (have htok := hst2; go_simp; go_at_call 14; go_must (with_reducible (refine (K6.out _ H22.out).mono ?_)); rintro en w23 ⟨A23, q23, rfl, -, -, ho3, hs3, hg23⟩; have H23 : Hid (W9.grownBy w23 none) := Lib.hid (only_trans H22.out hg23); have E33 := Lib.hid (SelPost.evs ho3 hs3); have E23 := Lib.hid (HEVS.out.grown H23.out (by simp)); have hst3 : True := trivial; clear hst2 ho3 hs3 hg23)
      | (have htok := hst1; go_simp; go_at_call 14; go_must (with_reducible (refine (K5.out _ H21.out).mono ?_)); rintro en w22 ⟨A22, q22, rfl, -, -, -, -, hg22⟩; have H22 : Hid (W9.grownBy w22 none) := Lib.hid (only_trans H21.out hg22); have hst2 : True := trivial; clear hst1 hg22)
      | (go_simp; go_at_call 14; go_must (with_reducible (refine (K4.out _ HCD.out).mono ?_)); rintro en w21 ⟨A21, q21, rfl, -, -, -, -, hg21⟩; have H21 : Hid (W9.grownBy w21 none) := Lib.hid (only_trans HCD.out hg21); clear a6c0 a6c1 a6c2 a6c3 a6c4 a9c0 a9c1 a9c2 a9c3 a9c4; obtain ⟨a9c0, a9c1, a9c2, a9c3, a9c4⟩ := box5 Ba9p.out H21.out; have hst1 : True := trivial; clear hg21))
    all_goals
      go_wp2_with fail
      go_ret
      exact ⟨rfl, only_trans Gp.out H24.out⟩
end Go.Proofs.YtceebhgbebkafaaGreatDoor
