/- Switch of tiers and of the reference of chapter 33 (printed by mk33s.py). Conditions: sizes, bytes, the order of the shelf and of the manifest. -/
import Derived.Test.YtganfhmjklcchaaGreatJLoa33
namespace Go.Proofs.YtganfhmjklcchaaGreat
open Go.RowKit
set_option linter.unusedVariables false
set_option linter.unusedSimpArgs false

def setF (id tier : Int) (s : SegD) : SegD := if s.id = id then s.at_ s.level tier else s
/-- the entries with another tier of one -/
def setT (ss : List SegD) (id tier : Int) : List SegD := ss.map (setF id tier)
def setK (ss : List SegD) (id tier : Int) (k : Nat) : List SegD := (ss.take k).map (setF id tier) ++ ss.drop k
theorem setK_0 (ss : List SegD) (id tier : Int) : setK ss id tier 0 = ss := by simp [setK]
theorem setK_all (ss : List SegD) (id tier : Int) {k : Nat} (h : ss.length ≤ k) : setK ss id tier k = setT ss id tier := by simp [setK, setT, List.take_of_length_le h, List.drop_of_length_le h]
theorem setK_len (ss : List SegD) (id tier : Int) {k : Nat} (h : k ≤ ss.length) : (setK ss id tier k).length = ss.length := by simp [setK]; omega
theorem setT_len (ss : List SegD) (id tier : Int) : (setT ss id tier).length = ss.length := by simp [setT]
theorem setK_at {ss : List SegD} {id tier : Int} {k : Nat} {s : SegD} (h : ss[k]? = some s) : (setK ss id tier k)[k]? = some s := by
  obtain ⟨h1, h2⟩ := List.getElem?_eq_some_iff.1 h
  unfold setK
  rw [List.getElem?_append_right (by simp; omega)]
  simp [Nat.min_eq_left (Nat.le_of_lt h1)]
  exact h
theorem setK_next {ss : List SegD} {id tier : Int} {k : Nat} {s : SegD} (h : ss[k]? = some s) : setK ss id tier (k + 1) = (setK ss id tier k).set k (setF id tier s) := by
  obtain ⟨h1, h2⟩ := List.getElem?_eq_some_iff.1 h
  unfold setK
  rw [List.set_append_right _ _ (by simp; omega), List.take_succ_eq_append_getElem h1, List.map_append, h2]
  simp only [List.length_map, List.length_take, Nat.min_eq_left (Nat.le_of_lt h1), Nat.sub_self]
  rw [List.drop_eq_getElem_cons h1, List.set_cons_zero]
  simp
theorem setK_no {ss : List SegD} {id tier : Int} {k : Nat} {s : SegD} (h : ss[k]? = some s) (hne : s.id ≠ id) : setK ss id tier (k + 1) = setK ss id tier k := by
  rw [setK_next h]
  have : setF id tier s = s := by unfold setF; rw [if_neg hne]
  rw [this]
  obtain ⟨h1, h2⟩ := List.getElem?_eq_some_iff.1 (setK_at (id := id) (tier := tier) h)
  exact List.ext_getElem (by simp) (fun i hi hi2 => by
    by_cases e : k = i
    · subst e; simp [h2]
    · simp [List.getElem_set, e])
/-- behind the entry the others have other identifiers -/
theorem setK_found {ss : List SegD} {id tier : Int} (ha : AscId ss) {k : Nat} {s : SegD} (h : ss[k]? = some s) (he : s.id = id) : setK ss id tier (k + 1) = setT ss id tier := by
  unfold setK setT
  have hd : (ss.drop (k + 1)).map (setF id tier) = ss.drop (k + 1) := by
    rw [List.map_congr_left (g := fun x => x) (fun x hx => ?_), List.map_id']
    obtain ⟨j, hj⟩ := List.getElem?_of_mem hx
    rw [List.getElem?_drop] at hj
    obtain ⟨h1, h2⟩ := List.getElem?_eq_some_iff.1 h
    obtain ⟨h3, h4⟩ := List.getElem?_eq_some_iff.1 hj
    have h5 := List.pairwise_iff_getElem.1 ha k (k + 1 + j) h1 h3 (by omega)
    rw [h2, h4] at h5
    unfold setF
    rw [if_neg (by omega)]
  rw [← hd, ← List.map_append, List.take_append_drop]
def switchE (ss : List SegD) (bs : List BlobD) (id tier : Int) : Int := match segF ss id with
  | none => 9
  | some s => if tier < 0 ∨ 2 < tier then 2 else match wholeB bs id tier with
    | none => 25
    | some d => 0
theorem switchE_no {ss : List SegD} {bs : List BlobD} {id tier : Int} (h : segF ss id = none) : switchE ss bs id tier = 9 := by unfold switchE; rw [h]
theorem switchE_tier {ss : List SegD} {bs : List BlobD} {id tier : Int} {s : SegD} (h : segF ss id = some s) (ht : tier < 0 ∨ 2 < tier) : switchE ss bs id tier = 2 := by unfold switchE; rw [h]; simp only; rw [if_pos ht]
theorem switchE_lost {ss : List SegD} {bs : List BlobD} {id tier : Int} {s : SegD} (h : segF ss id = some s) (ht : ¬ (tier < 0 ∨ 2 < tier)) (hd : wholeB bs id tier = none) : switchE ss bs id tier = 25 := by unfold switchE; rw [h]; simp only; rw [if_neg ht, hd]
theorem switchE_yes {ss : List SegD} {bs : List BlobD} {id tier : Int} {s : SegD} {d : List Int} (h : segF ss id = some s) (ht : ¬ (tier < 0 ∨ 2 < tier)) (hd : wholeB bs id tier = some d) : switchE ss bs id tier = 0 := by unfold switchE; rw [h]; simp only; rw [if_neg ht, hd]
def SwPost (w : World) (num nid jn : Int) (ss' : List SegD) (E : Int) (e : Ending) (w' : World) : Prop :=
  w.grownBy w' none ∧ ∃ (a0 a1 a2 : Int) (A' : Option Addr) (n' c' : Nat), e = .returned (.tuple #[.agg #[.int .i64 a0, .int .i64 a1, .int .i64 a2, .slice A' n' c', .slice none 0 0, .slice none 0 0, .slice none 0 0], .int .i64 E]) ∧ (E = 0 → a0 = num + 1 ∧ a1 = nid ∧ a2 = jn ∧ n' = ss'.length ∧ n' ≤ c' ∧ c' ≤ maxLen ∧ Rd (w.heap.size ≤ ·) w' A' (ss'.flatMap SegD.cells))
/-- the manifest in hand -/
def SwI (w : World) (mb rb base : Nat) (num nid jn : Int) (A : Option Addr) (n c : Nat) (xs : List SegD) (wr : World) : Prop :=
  Blk wr mb 31 #[.int .i64 num, .int .i64 nid, .int .i64 jn, .slice A n c, .slice none 0 0, .slice none 0 0, .slice none 0 0] ∧ Blk wr rb 31 #[.int .i64 0, .int .i64 0, .int .i64 0, .slice none 0 0, .slice none 0 0, .slice none 0 0, .slice none 0 0] ∧ wr.ownsRow base 54 7 (.slice A n c) n (xs.flatMap SegD.cells) ∧ w.grownBy wr none
theorem SwI.cell {w wr : World} {mb rb base g n c k : Nat} {num nid jn : Int} {xs : List SegD} {s : SegD} (h : SwI w mb rb base num nid jn (some ⟨g, 0, none⟩) n c xs wr) (hs : xs[k]? = some s) (hk : k < n) :
    wr.cell? ⟨g, k * 7, none⟩ = some (.int .i64 s.id) ∧ (∃ v, wr.cell? ⟨g, k * 7 + 2, none⟩ = some v) ∧ wr.frozen? ⟨g, k * 7 + 2, none⟩ = false := by
  have c0 := own_cellR (k := k * 7) h.2.2.1 (by omega)
  have c2 := own_cellR (k := k * 7 + 2) h.2.2.1 (by omega)
  have hl := List.getElem?_eq_some_iff.1 hs
  obtain ⟨h1, h2⟩ := hl
  have e : ∀ j, j < 7 → (xs.flatMap SegD.cells)[k * 7 + j]? = s.cells[j]? := fun j hj => by
    have := flat_at SegD.cells 7 SegD.cells_len xs k j h1 hj
    rw [h2] at this; exact this
  refine ⟨?_, ⟨_, by rw [c2.1, e 2 (by omega)]; rfl⟩, c2.2⟩
  rw [c0.1]
  have := e 0 (by omega)
  simpa [SegD.cells] using this
theorem SwI.put {w wr : World} {mb rb base g n c k : Nat} {num nid jn : Int} {xs : List SegD} {s : SegD} (h : SwI w mb rb base num nid jn (some ⟨g, 0, none⟩) n c xs wr) (hs : xs[k]? = some s) (hk : k < n) (hb : w.heap.size ≤ base) (t : Int) :
    SwI w mb rb base num nid jn (some ⟨g, 0, none⟩) n c (xs.set k (s.at_ s.level t)) (wr.setCell ⟨g, k * 7 + 2, none⟩ (.int .i64 t)) := by
  obtain ⟨h1, h2, h3, h4⟩ := h
  have hg := h3.lt g (by rfl)
  have n1 := blk_norow h1 h3 (by decide)
  have n2 := blk_norow h2 h3 (by decide)
  have gs : wr.grownBy (wr.setCell ⟨g, k * 7 + 2, none⟩ (.int .i64 t)) (some g) := only_setCell (only_refl _ _) (p := ⟨g, k * 7 + 2, none⟩) (.inl rfl) _
  refine ⟨h1.grown gs (fun e => n1 e.symm), h2.grown gs (fun e => n2 e.symm), ?_, only_fresh h4 gs (Nat.le_trans hb hg.1)⟩
  have := own_putk (k := k * 7 + 2) (u := .int .i64 t) h3 (by omega)
  rw [seg_put2 hs t] at this
  exact this
set_option maxHeartbeats 800000 in
set_option maxRecDepth 100000 in
theorem pswitch_any {S S2 S3 : Nat → Prop} (A : Option Addr) (bs : List BlobD) (c : Nat) (num nid jn : Int) (A2 : Option Addr) (ss : List SegD) (c2 : Nat) (id tier : Int) (w : World) (hr : Rd S w A (bs.flatMap BlobD.cells)) (hs : ∀ x ∈ bs, x.Sub S2 w) (hl : bs.length ≤ 1000) (hb : BSrt bs) (hi : ∀ x ∈ bs, InH x.data) (hr2 : Rd S3 w A2 (ss.flatMap SegD.cells)) (hl2 : ss.length ≤ 1000) (hln : ss.length ≤ c2) (hcm2 : c2 ≤ maxLen) (ha : AscId ss) (hnum : 0 ≤ num ∧ num ≤ 1000000) :
    Calls Tryz.prog 18 #[.slice A bs.length c, .agg #[.int .i64 num, .int .i64 nid, .int .i64 jn, .slice A2 ss.length c2, .slice none 0 0, .slice none 0 0, .slice none 0 0], .int .i64 id, .int .i64 tier] w (SwPost w num nid jn (setT ss id tier) (switchE ss bs id tier)) := by
  obtain ⟨mb, hmb⟩ : ∃ b, b = w.heap.size := ⟨_, rfl⟩
  obtain ⟨rb, hrb⟩ : ∃ b, b = w.heap.size + 1 := ⟨_, rfl⟩
  obtain ⟨W1, hW1⟩ : ∃ W, W = (w.alloc (.cells #[.int .i64 num, .int .i64 nid, .int .i64 jn, .slice A2 ss.length c2, .slice none 0 0, .slice none 0 0, .slice none 0 0] 31)).alloc (.cells #[.int .i64 0, .int .i64 0, .int .i64 0, .slice none 0 0, .slice none 0 0, .slice none 0 0, .slice none 0 0] 31) := ⟨_, rfl⟩
  have G1 : Hid (w.grownBy W1 none) := Lib.hid (by rw [hW1]; exact only_alloc (only_alloc (only_refl _ _) _) _)
  have B1 : Hid (Blk W1 mb 31 #[.int .i64 num, .int .i64 nid, .int .i64 jn, .slice A2 ss.length c2, .slice none 0 0, .slice none 0 0, .slice none 0 0]) := Lib.hid (by rw [hW1, hmb]; exact (Blk.new w _ _).alloc _)
  have R1 : Hid (Blk W1 rb 31 #[.int .i64 0, .int .i64 0, .int .i64 0, .slice none 0 0, .slice none 0 0, .slice none 0 0, .slice none 0 0]) := Lib.hid (by rw [hW1, hrb]; have := Blk.new (w.alloc (.cells #[.int .i64 num, .int .i64 nid, .int .i64 jn, .slice A2 ss.length c2, .slice none 0 0, .slice none 0 0, .slice none 0 0] 31)) 31 #[.int .i64 0, .int .i64 0, .int .i64 0, .slice none 0 0, .slice none 0 0, .slice none 0 0, .slice none 0 0]; simpa using this)
  have HRS := Lib.hid (hr2.mono (S' := (· < w.heap.size)) (fun b _ hb => hb))
  have KF := Lib.hid (check_any num nid jn A2 ss c2 id tier W1 (hr2.grown G1.out (by simp)) (by omega))
  have KG := Lib.hid (fun (W : World) (hW : w.grownBy W none) => pwhole_any A bs c id tier W (hr.grown hW (by simp)) (fun x hx => (hs x hx).grown hW (by simp)) (by omega) hb hi)
  have HA := Lib.hid ha
  have b0 := B1.out.cell 0
  have b1 := B1.out.cell 1
  have b2 := B1.out.cell 2
  have b3 := B1.out.cell 3
  have b4 := B1.out.cell 4
  have b5 := B1.out.cell 5
  have b6 := B1.out.cell 6
  simp at b0 b1 b2 b3 b4 b5 b6
  have HW := Lib.hid hW1.symm
  have HMB := Lib.hid hmb
  have HRB := Lib.hid hrb
  have hmr : mb ≠ rb := by omega
  have hwm : w.heap.size ≤ mb := by omega
  have hwr : w.heap.size ≤ rb := by omega
  clear hW1 hmb hrb hr hs hb hi hr2 ha
  go_enter Tryz.func18, Tryz.ntmps18
  go_upto_region 1 with fail
  rw [HW.out, ← HRB.out, ← HMB.out]
  clear HW
  go_wp2_with fail
  refine KF.out.mono ?_
  rintro e w2 ⟨hg2, hcs⟩
  have R2 := Lib.hid (R1.out.grown hg2 (by simp))
  have B2 := Lib.hid (B1.out.grown hg2 (by simp))
  have G2 := Lib.hid (only_trans G1.out hg2)
  clear b0 b1 b2 b3 b4 b5 b6 KF hg2
  rcases hcs with ⟨hF, rfl⟩ | ⟨s, hF, rfl⟩
  · have HX := Lib.hid (switchE_no (bs := bs) (tier := tier) hF)
    clear hF
    have hR := R2.out
    have hB := B2.out
    have q0 := hR.cell 0; have p0 := hR.frozen 0; have q1 := hR.cell 1; have p1 := hR.frozen 1; have q2 := hR.cell 2; have p2 := hR.frozen 2; have q3 := hR.cell 3; have p3 := hR.frozen 3; have q4 := hR.cell 4; have p4 := hR.frozen 4; have q5 := hR.cell 5; have p5 := hR.frozen 5; have q6 := hR.cell 6; have p6 := hR.frozen 6; simp at q0 q1 q2 q3 q4 q5 q6
    have hrl := hR.lt
    have hrn : rb ≠ w2.heap.size := by omega
    have hml := hB.lt
    have hmn : mb ≠ w2.heap.size := by omega
    have P9 := (blk_put7 hR (.int .i64 0) (.int .i64 0) (.int .i64 0) (.slice none 0 0) (.slice none 0 0) (.slice none 0 0) (.slice none 0 0)).alloc (.cells #[.int .i64 0, .int .i64 0, .int .i64 0, .int .i64 0, .int .i64 0, .int .i64 0, .int .i64 0] 54)
    have g9 : w2.grownBy _ (some rb) := only_set7 (only_refl w2 (some rb)) (b := rb) (.int .i64 0) (.int .i64 0) (.int .i64 0) (.slice none 0 0) (.slice none 0 0) (.slice none 0 0) (.slice none 0 0)
    have D := Lib.hid (And.intro P9 (only_fresh G2.out g9 hwr))
    clear P9 g9 hR hB
    go_wp2_with fail
    obtain ⟨P9, G9⟩ := D.out
    have d0 := P9.cell 0; have d1 := P9.cell 1; have d2 := P9.cell 2; have d3 := P9.cell 3; have d4 := P9.cell 4; have d5 := P9.cell 5; have d6 := P9.cell 6
    simp at d0 d1 d2 d3 d4 d5 d6
    refine bodyPost_ret (v := .tuple #[.agg #[.int .i64 0, .int .i64 0, .int .i64 0, .slice none 0 0, .slice none 0 0, .slice none 0 0, .slice none 0 0], .int .i64 9]) (by simp [results, Tryz.results18, go_sem, d0, d1, d2, d3, d4, d5, d6]) rfl ?_
    rw [HX.out]
    refine ⟨?_, _, _, _, _, _, _, rfl, fun h => absurd h (by decide)⟩
    exact only_alloc G9 _
  obtain ⟨W3, hW3⟩ : ∃ W, W = segW w2 s := ⟨_, rfl⟩
  have G3 : Hid (w.grownBy W3 none) := Lib.hid (only_trans G2.out (by rw [hW3]; exact segW_only w2 s))
  have R3 : Hid (Blk W3 rb 31 #[.int .i64 0, .int .i64 0, .int .i64 0, .slice none 0 0, .slice none 0 0, .slice none 0 0, .slice none 0 0]) := Lib.hid (by rw [hW3]; exact R2.out.alloc _)
  have B3 : Hid (Blk W3 mb 31 #[.int .i64 num, .int .i64 nid, .int .i64 jn, .slice A2 ss.length c2, .slice none 0 0, .slice none 0 0, .slice none 0 0]) := Lib.hid (by rw [hW3]; exact B2.out.alloc _)
  have HW3 : Hid (segW w2 s = W3) := Lib.hid hW3.symm
  have KG3 := Lib.hid (KG.out W3 G3.out)
  have HF := Lib.hid hF
  clear hF hW3 KG
  by_cases ht : tier < 0 ∨ 2 < tier
  · have HX := Lib.hid (switchE_tier (bs := bs) HF.out ht)
    have HT : Hid (tierE tier = 2) := Lib.hid (by unfold tierE; rw [if_pos ht])
    rw [HT.out]
    clear ht
    have hR := R2.out
    have hB := B2.out
    have q0 := hR.cell 0; have p0 := hR.frozen 0; have q1 := hR.cell 1; have p1 := hR.frozen 1; have q2 := hR.cell 2; have p2 := hR.frozen 2; have q3 := hR.cell 3; have p3 := hR.frozen 3; have q4 := hR.cell 4; have p4 := hR.frozen 4; have q5 := hR.cell 5; have p5 := hR.frozen 5; have q6 := hR.cell 6; have p6 := hR.frozen 6; simp at q0 q1 q2 q3 q4 q5 q6
    have hrl := hR.lt
    have hrn : rb ≠ w2.heap.size := by omega
    have hml := hB.lt
    have hmn : mb ≠ w2.heap.size := by omega
    have P9 := (blk_put7 hR (.int .i64 0) (.int .i64 0) (.int .i64 0) (.slice none 0 0) (.slice none 0 0) (.slice none 0 0) (.slice none 0 0)).alloc (.cells #[.int .i64 s.id, .int .i64 s.level, .int .i64 s.tier, .int .i64 s.count, .int .i64 s.min, .int .i64 s.max, .int .i64 s.size] 54)
    have g9 : w2.grownBy _ (some rb) := only_set7 (only_refl w2 (some rb)) (b := rb) (.int .i64 0) (.int .i64 0) (.int .i64 0) (.slice none 0 0) (.slice none 0 0) (.slice none 0 0) (.slice none 0 0)
    have D := Lib.hid (And.intro P9 (only_fresh G2.out g9 hwr))
    clear P9 g9 hR hB
    go_wp2_with fail
    obtain ⟨P9, G9⟩ := D.out
    have d0 := P9.cell 0; have d1 := P9.cell 1; have d2 := P9.cell 2; have d3 := P9.cell 3; have d4 := P9.cell 4; have d5 := P9.cell 5; have d6 := P9.cell 6
    simp at d0 d1 d2 d3 d4 d5 d6
    refine bodyPost_ret (v := .tuple #[.agg #[.int .i64 0, .int .i64 0, .int .i64 0, .slice none 0 0, .slice none 0 0, .slice none 0 0, .slice none 0 0], .int .i64 2]) (by simp [results, Tryz.results18, go_sem, d0, d1, d2, d3, d4, d5, d6]) rfl ?_
    rw [HX.out]
    refine ⟨?_, _, _, _, _, _, _, rfl, fun h => absurd h (by decide)⟩
    exact only_alloc G9 _
  have HT : Hid (tierE tier = 0) := Lib.hid (by unfold tierE; rw [if_neg ht])
  rw [HT.out]
  have HTT := Lib.hid ht
  clear ht
  go_upto_region 4 with fail
  have HWU := HW3.out
  unfold segW at HWU
  rw [HWU]
  clear HWU HW3 R2 B2
  obtain ⟨r, hrr⟩ : ∃ r, r = wholeB bs id tier := ⟨_, rfl⟩
  have HRR := Lib.hid hrr.symm
  rw [← hrr] at KG3
  clear hrr
  go_wp2_with fail
  cases r with
  | none =>
    refine KG3.out.mono ?_
    rintro e w4 ⟨hg4, A4, n4, c4, rfl⟩
    have G4 := Lib.hid (only_trans G3.out hg4)
    have R4 := Lib.hid (R3.out.grown hg4 (by simp))
    have B4 := Lib.hid (B3.out.grown hg4 (by simp))
    have HX := Lib.hid (switchE_lost HF.out HTT.out HRR.out)
    clear hg4 KG3
    have hR := R4.out
    have hB := B4.out
    have q0 := hR.cell 0; have p0 := hR.frozen 0; have q1 := hR.cell 1; have p1 := hR.frozen 1; have q2 := hR.cell 2; have p2 := hR.frozen 2; have q3 := hR.cell 3; have p3 := hR.frozen 3; have q4 := hR.cell 4; have p4 := hR.frozen 4; have q5 := hR.cell 5; have p5 := hR.frozen 5; have q6 := hR.cell 6; have p6 := hR.frozen 6; simp at q0 q1 q2 q3 q4 q5 q6
    have hrl := hR.lt
    have hrn : rb ≠ w4.heap.size := by omega
    have hml := hB.lt
    have hmn : mb ≠ w4.heap.size := by omega
    have P9 := (blk_put7 hR (.int .i64 0) (.int .i64 0) (.int .i64 0) (.slice none 0 0) (.slice none 0 0) (.slice none 0 0) (.slice none 0 0))
    have g9 : w4.grownBy _ (some rb) := only_set7 (only_refl w4 (some rb)) (b := rb) (.int .i64 0) (.int .i64 0) (.int .i64 0) (.slice none 0 0) (.slice none 0 0) (.slice none 0 0) (.slice none 0 0)
    have D := Lib.hid (And.intro P9 (only_fresh G4.out g9 hwr))
    clear P9 g9 hR hB
    go_wp2_with fail
    obtain ⟨P9, G9⟩ := D.out
    have d0 := P9.cell 0; have d1 := P9.cell 1; have d2 := P9.cell 2; have d3 := P9.cell 3; have d4 := P9.cell 4; have d5 := P9.cell 5; have d6 := P9.cell 6
    simp at d0 d1 d2 d3 d4 d5 d6
    refine bodyPost_ret (v := .tuple #[.agg #[.int .i64 0, .int .i64 0, .int .i64 0, .slice none 0 0, .slice none 0 0, .slice none 0 0, .slice none 0 0], .int .i64 25]) (by simp [results, Tryz.results18, go_sem, d0, d1, d2, d3, d4, d5, d6]) rfl ?_
    rw [HX.out]
    refine ⟨?_, _, _, _, _, _, _, rfl, fun h => absurd h (by decide)⟩
    exact G9
  | some d =>
    refine KG3.out.mono ?_
    rintro e w4 ⟨hg4, A1, c1, rfl, -, -, -⟩
    have G4 := Lib.hid (only_trans G3.out hg4)
    have R4 := Lib.hid (R3.out.grown hg4 (by simp))
    have B4 := Lib.hid (B3.out.grown hg4 (by simp))
    have HX := Lib.hid (switchE_yes HF.out HTT.out HRR.out)
    have S4 := Lib.hid (HRS.out.grown G4.out (by simp))
    have hs4 := G4.out.size
    have hB := B4.out
    have b3 := hB.cell 3
    simp at b3
    clear hg4 KG3 R3 B3 G3 hB
    have KC := Lib.hid (cloneSg_any A2 ss.length c2 (ss.flatMap SegD.cells) w4 S4.out (flat_len _ 7 SegD.cells_len ss) (by omega) (flat_one SegD.one _) (fun e => by
      have h := S4.out
      rw [e] at h
      rcases ss with _ | ⟨y, ys⟩
      · rfl
      · obtain ⟨b', o', e', -⟩ := h (by simp [SegD.cells]); cases e'))
    go_wp2_with fail
    refine KC.out.mono ?_
    rintro e w5 ⟨A7, c7, rfl, ho5, hg5⟩
    clear b3 KC
    have hB5 := B4.out.grown hg5 (by simp)
    have hR5 := R4.out.grown hg5 (by simp)
    have gs : w5.grownBy (w5.setCell ⟨mb, 3, none⟩ (.slice A7 ss.length c7)) (some mb) := only_setCell (only_refl _ _) (p := ⟨mb, 3, none⟩) (.inl rfl) _
    have HI : Hid (SwI w mb rb w4.heap.size num nid jn A7 ss.length c7 ss (w5.setCell ⟨mb, 3, none⟩ (.slice A7 ss.length c7))) := Lib.hid ⟨by simpa using hB5.set_ 3 (.slice A7 ss.length c7), hR5.grown gs (fun e => hmr (by injection e with e; exact e.symm)), ho5.kept gs (.inr (blk_norow hB5 ho5 (by decide))), only_fresh (only_trans G4.out hg5) gs hwm⟩
    have c3 := hB5.cell 3
    have f3 := hB5.frozen 3
    simp at c3
    have hb6 : w.heap.size ≤ w4.heap.size := hs4
    clear hB5 hR5 gs ho5 hg5 R4 B4 S4 G4
    go_upto_region 8 with fail
    clear c3 f3
    have c3 := HI.out.1.cell 3
    simp at c3
    go_wp2_with fail
    clear c3
    go_loopw [43] (fun vi wr => ∃ k : Nat, vi = .int .i64 k ∧ k ≤ ss.length ∧ SwI w mb rb w4.heap.size num nid jn A7 ss.length c7 (setK ss id tier k) wr) (fun vi _ => ss.length - (intOf vi).toNat)
    case atStart => exact ⟨0, rfl, Nat.zero_le _, by rw [setK_0]; exact HI.out⟩
    case round =>
      obtain ⟨k, rfl, hk, hI⟩ := hrel
      have HJ := Lib.hid hI
      have c3 := hI.1.cell 3
      simp at c3
      clear hI HI
      by_cases hkl : k < ss.length
      · obtain ⟨s2, hs2⟩ : ∃ s2, ss[k]? = some s2 := ⟨_, List.getElem?_eq_getElem hkl⟩
        have hsl := setK_len ss id tier hk
        have hs3 := setK_at (id := id) (tier := tier) hs2
        have HS2 := Lib.hid hs2
        have HS3 := Lib.hid hs3
        obtain ⟨A9, c9, e9, -, -, -, hr9⟩ := Rd.of_own HJ.out.2.2.1 (by decide)
        injection e9 with e91 e92 e93
        subst e91 e93
        obtain ⟨g, o, rfl, hgw, -, -⟩ := hr9 (by rw [flat_len _ 7 SegD.cells_len, hsl]; omega)
        have ho : o = 0 := by
          rcases HJ.out.2.2.1.2 with ⟨e, _⟩ | ⟨g', cap, cur, e, _⟩
          · cases e
          · injection e with e1; injection e1 with e1; injection e1
        subst ho
        obtain ⟨c0, ⟨v2, c2'⟩, f2⟩ := HJ.out.cell hs3 hkl
        have i1 : (k : Int) < (ss.length : Int) := by omega
        have i2 : (0 : Int) ≤ (k : Int) := by omega
        clear hs2 hs3 hr9
        by_cases he : s2.id = id
        · have e1 : (s2.id == id) = true := by simp [he]
          have HP := Lib.hid (HJ.out.put HS3.out hkl hb6 tier)
          have HE := Lib.hid he
          clear he
          go_wp2_with fail
          go_roundw
          case rel =>
            refine ⟨k + 1, by go_num, by omega, ?_⟩
            rw [setK_next HS2.out]
            have : setF id tier s2 = s2.at_ s2.level tier := by unfold setF; rw [if_pos HE.out]
            rw [this]
            exact HP.out
          case measure => simp [intOf]; omega
        · have e1 : (s2.id == id) = false := by simp [he]
          have HE := Lib.hid he
          clear he
          go_wp2_with fail
          go_roundw
          case rel =>
            refine ⟨k + 1, by go_num, by omega, ?_⟩
            rw [setK_no HS2.out HE.out]
            exact HJ.out
          case measure => simp [intOf]; omega
      · have i1 : ¬ ((k : Int) < (ss.length : Int)) := by omega
        have HKA := Lib.hid (setK_all ss id tier (k := k) (by omega))
        clear hkl
        have HFI : Hid (SwI w mb rb w4.heap.size num nid jn A7 ss.length c7 (setT ss id tier) wr) := Lib.hid (by rw [← HKA.out]; exact HJ.out)
        clear HJ HKA
        go_upto_region 14 with fail
        clear c3
        have HMM := Lib.hid HFI.out
        obtain ⟨hB8, hR8, hO8, hG8⟩ := HMM.out
        have b0 := hB8.cell 0
        have f0 := hB8.frozen 0
        simp at b0
        have hwn : IntKind.i64.wrap (num + 1) = num + 1 := IntWalk.i64_in _ (by omega)
        have hmr2 := hmr
        clear hB8 hR8 hO8 hG8
        go_upto_region 15 with fail
        obtain ⟨hB8, hR8, hO8, hG8⟩ := HMM.out
        obtain ⟨W8, hW8⟩ : ∃ W, W = wr.setCell ⟨mb, 0, none⟩ (.int .i64 (num + 1)) := ⟨_, rfl⟩
        have g8 : wr.grownBy W8 (some mb) := by rw [hW8]; exact only_setCell (only_refl _ _) (p := ⟨mb, 0, none⟩) (.inl rfl) _
        have BM8 : Blk W8 mb 31 #[.int .i64 (num + 1), .int .i64 nid, .int .i64 jn, .slice A7 ss.length c7, .slice none 0 0, .slice none 0 0, .slice none 0 0] := by rw [hW8]; simpa using hB8.set_ 0 (.int .i64 (num + 1))
        have BR8 := hR8.grown g8 (fun e => hmr2 (by injection e with e; exact e.symm))
        have O8 := hO8.kept g8 (.inr (blk_norow hB8 hO8 (by decide)))
        have G8 := only_fresh hG8 g8 hwm
        rw [← hW8]
        clear b0 f0 hB8 hR8 hO8 hG8 hW8 g8 HMM
        have b0 := BM8.cell 0; have b1 := BM8.cell 1; have b2 := BM8.cell 2; have b3 := BM8.cell 3; have b4 := BM8.cell 4; have b5 := BM8.cell 5; have b6 := BM8.cell 6
        have q0 := BR8.cell 0; have q1 := BR8.cell 1; have q2 := BR8.cell 2; have q3 := BR8.cell 3; have q4 := BR8.cell 4; have q5 := BR8.cell 5; have q6 := BR8.cell 6
        have p0 := BR8.frozen 0; have p1 := BR8.frozen 1; have p2 := BR8.frozen 2; have p3 := BR8.frozen 3; have p4 := BR8.frozen 4; have p5 := BR8.frozen 5; have p6 := BR8.frozen 6
        simp at b0 b1 b2 b3 b4 b5 b6 q0 q1 q2 q3 q4 q5 q6
        have P9 := blk_put7 BR8 (.int .i64 (num + 1)) (.int .i64 nid) (.int .i64 jn) (.slice A7 ss.length c7) (.slice none 0 0) (.slice none 0 0) (.slice none 0 0)
        have g9 : W8.grownBy _ (some rb) := only_set7 (only_refl W8 (some rb)) (b := rb) (.int .i64 (num + 1)) (.int .i64 nid) (.int .i64 jn) (.slice A7 ss.length c7) (.slice none 0 0) (.slice none 0 0) (.slice none 0 0)
        have O9 := O8.kept g9 (.inr (blk_norow BR8 O8 (by decide)))
        obtain ⟨A9, c9, e9, hc9, hm9, -, hr9⟩ := Rd.of_own O9 (by decide)
        injection e9 with e91 e92 e93
        subst e91 e93
        have hst := setT_len ss id tier
        have DF : Hid (ss.length ≤ c7 ∧ c7 ≤ maxLen ∧ Rd (w.heap.size ≤ ·) _ A7 ((setT ss id tier).flatMap SegD.cells)) := Lib.hid ⟨hc9, hm9, hr9.mono (fun b hb _ => Nat.le_trans hb6 hb)⟩
        have D := Lib.hid (And.intro P9 (only_fresh G8 g9 hwr))
        clear P9 g9 O9 G8 O8 BM8 BR8 hc9 hm9 hr9 hst
        go_wp2_with fail
        obtain ⟨P9, G9⟩ := D.out
        have d0 := P9.cell 0; have d1 := P9.cell 1; have d2 := P9.cell 2; have d3 := P9.cell 3; have d4 := P9.cell 4; have d5 := P9.cell 5; have d6 := P9.cell 6
        simp at d0 d1 d2 d3 d4 d5 d6
        refine bodyPost_ret (v := .tuple #[.agg #[.int .i64 (num + 1), .int .i64 nid, .int .i64 jn, .slice A7 ss.length c7, .slice none 0 0, .slice none 0 0, .slice none 0 0], .int .i64 0]) (by simp [results, Tryz.results18, go_sem, d0, d1, d2, d3, d4, d5, d6]) rfl ?_
        rw [HX.out]
        exact ⟨G9, _, _, _, _, _, _, rfl, fun _ => ⟨rfl, rfl, rfl, (setT_len ss id tier).symm, DF.out⟩⟩
set_option maxHeartbeats 800000 in
set_option maxRecDepth 100000 in
theorem rswitch_any {S S2 S3 : Nat → Prop} (A : Option Addr) (bs : List BlobD) (c : Nat) (num nid jn : Int) (A2 : Option Addr) (ss : List SegD) (c2 : Nat) (id tier : Int) (w : World) (hr : Rd S w A (bs.flatMap BlobD.cells)) (hs : ∀ x ∈ bs, x.Sub S2 w) (hl : bs.length ≤ 1000) (hb : BSrt bs) (hi : ∀ x ∈ bs, InH x.data) (hr2 : Rd S3 w A2 (ss.flatMap SegD.cells)) (hl2 : ss.length ≤ 1000) (hln : ss.length ≤ c2) (hcm2 : c2 ≤ maxLen) (ha : AscId ss) (hnum : 0 ≤ num ∧ num ≤ 1000000) :
    Calls Tryz.prog 19 #[.slice A bs.length c, .agg #[.int .i64 num, .int .i64 nid, .int .i64 jn, .slice A2 ss.length c2, .slice none 0 0, .slice none 0 0, .slice none 0 0], .int .i64 id, .int .i64 tier] w (SwPost w num nid jn (setT ss id tier) (switchE ss bs id tier)) := by
  obtain ⟨mb, hmb⟩ : ∃ b, b = w.heap.size := ⟨_, rfl⟩
  obtain ⟨rb, hrb⟩ : ∃ b, b = w.heap.size + 1 := ⟨_, rfl⟩
  obtain ⟨W1, hW1⟩ : ∃ W, W = (w.alloc (.cells #[.int .i64 num, .int .i64 nid, .int .i64 jn, .slice A2 ss.length c2, .slice none 0 0, .slice none 0 0, .slice none 0 0] 31)).alloc (.cells #[.int .i64 0, .int .i64 0, .int .i64 0, .slice none 0 0, .slice none 0 0, .slice none 0 0, .slice none 0 0] 31) := ⟨_, rfl⟩
  have G1 : Hid (w.grownBy W1 none) := Lib.hid (by rw [hW1]; exact only_alloc (only_alloc (only_refl _ _) _) _)
  have B1 : Hid (Blk W1 mb 31 #[.int .i64 num, .int .i64 nid, .int .i64 jn, .slice A2 ss.length c2, .slice none 0 0, .slice none 0 0, .slice none 0 0]) := Lib.hid (by rw [hW1, hmb]; exact (Blk.new w _ _).alloc _)
  have R1 : Hid (Blk W1 rb 31 #[.int .i64 0, .int .i64 0, .int .i64 0, .slice none 0 0, .slice none 0 0, .slice none 0 0, .slice none 0 0]) := Lib.hid (by rw [hW1, hrb]; have := Blk.new (w.alloc (.cells #[.int .i64 num, .int .i64 nid, .int .i64 jn, .slice A2 ss.length c2, .slice none 0 0, .slice none 0 0, .slice none 0 0] 31)) 31 #[.int .i64 0, .int .i64 0, .int .i64 0, .slice none 0 0, .slice none 0 0, .slice none 0 0, .slice none 0 0]; simpa using this)
  have HRS := Lib.hid (hr2.mono (S' := (· < w.heap.size)) (fun b _ hb => hb))
  have KF := Lib.hid (rfind_any num nid jn A2 ss c2 none 0 0 none 0 0 none 0 0 id W1 (hr2.grown G1.out (by simp)) (by omega))
  have KG := Lib.hid (fun (W : World) (hW : w.grownBy W none) => rwhole_any A bs c id tier W (hr.grown hW (by simp)) (fun x hx => (hs x hx).grown hW (by simp)) (by omega) hb hi)
  have HA := Lib.hid ha
  have b0 := B1.out.cell 0
  have b1 := B1.out.cell 1
  have b2 := B1.out.cell 2
  have b3 := B1.out.cell 3
  have b4 := B1.out.cell 4
  have b5 := B1.out.cell 5
  have b6 := B1.out.cell 6
  simp at b0 b1 b2 b3 b4 b5 b6
  have HW := Lib.hid hW1.symm
  have HMB := Lib.hid hmb
  have HRB := Lib.hid hrb
  have hmr : mb ≠ rb := by omega
  have hwm : w.heap.size ≤ mb := by omega
  have hwr : w.heap.size ≤ rb := by omega
  clear hW1 hmb hrb hr hs hb hi hr2 ha
  go_enter Tryz.func19, Tryz.ntmps19
  go_upto_region 1 with fail
  rw [HW.out, ← HRB.out, ← HMB.out]
  clear HW
  go_wp2_with fail
  refine KF.out.mono ?_
  rintro e w2 h2
  have hg2 := h2.1
  have R2 := Lib.hid (R1.out.grown hg2 (by simp))
  have B2 := Lib.hid (B1.out.grown hg2 (by simp))
  have G2 := Lib.hid (only_trans G1.out hg2)
  have hcs : (segF ss id = none ∧ e = .returned (.tuple #[.agg #[.int .i64 0, .int .i64 0, .int .i64 0, .int .i64 0, .int .i64 0, .int .i64 0, .int .i64 0], .bool false])) ∨ ∃ s, segF ss id = some s ∧ e = .returned (.tuple #[.agg #[.int .i64 s.id, .int .i64 s.level, .int .i64 s.tier, .int .i64 s.count, .int .i64 s.min, .int .i64 s.max, .int .i64 s.size], .bool true]) := by
    cases hF : segF ss id with
    | none => obtain ⟨h, -⟩ := find_none hF h2; exact .inl ⟨rfl, h⟩
    | some s => obtain ⟨h, -⟩ := find_some hF h2; exact .inr ⟨s, rfl, h⟩
  clear b0 b1 b2 b3 b4 b5 b6 KF hg2 h2
  rcases hcs with ⟨hF, rfl⟩ | ⟨s, hF, rfl⟩
  · have HX := Lib.hid (switchE_no (bs := bs) (tier := tier) hF)
    clear hF
    have hR := R2.out
    have hB := B2.out
    have q0 := hR.cell 0; have p0 := hR.frozen 0; have q1 := hR.cell 1; have p1 := hR.frozen 1; have q2 := hR.cell 2; have p2 := hR.frozen 2; have q3 := hR.cell 3; have p3 := hR.frozen 3; have q4 := hR.cell 4; have p4 := hR.frozen 4; have q5 := hR.cell 5; have p5 := hR.frozen 5; have q6 := hR.cell 6; have p6 := hR.frozen 6; simp at q0 q1 q2 q3 q4 q5 q6
    have b0 := hB.cell 0; have b1 := hB.cell 1; have b2 := hB.cell 2; have b3 := hB.cell 3; have b4 := hB.cell 4; have b5 := hB.cell 5; have b6 := hB.cell 6; simp at b0 b1 b2 b3 b4 b5 b6
    have hrl := hR.lt
    have hrn : rb ≠ w2.heap.size := by omega
    have hml := hB.lt
    have hmn : mb ≠ w2.heap.size := by omega
    have P9 := (blk_put7 hR (.int .i64 num) (.int .i64 nid) (.int .i64 jn) (.slice A2 ss.length c2) (.slice none 0 0) (.slice none 0 0) (.slice none 0 0)).alloc (.cells #[.int .i64 0, .int .i64 0, .int .i64 0, .int .i64 0, .int .i64 0, .int .i64 0, .int .i64 0] 54)
    have g9 : w2.grownBy _ (some rb) := only_set7 (only_refl w2 (some rb)) (b := rb) (.int .i64 num) (.int .i64 nid) (.int .i64 jn) (.slice A2 ss.length c2) (.slice none 0 0) (.slice none 0 0) (.slice none 0 0)
    have D := Lib.hid (And.intro P9 (only_fresh G2.out g9 hwr))
    clear P9 g9 hR hB
    go_wp2_with fail
    obtain ⟨P9, G9⟩ := D.out
    have d0 := P9.cell 0; have d1 := P9.cell 1; have d2 := P9.cell 2; have d3 := P9.cell 3; have d4 := P9.cell 4; have d5 := P9.cell 5; have d6 := P9.cell 6
    simp at d0 d1 d2 d3 d4 d5 d6
    refine bodyPost_ret (v := .tuple #[.agg #[.int .i64 num, .int .i64 nid, .int .i64 jn, .slice A2 ss.length c2, .slice none 0 0, .slice none 0 0, .slice none 0 0], .int .i64 9]) (by simp [results, Tryz.results19, go_sem, d0, d1, d2, d3, d4, d5, d6]) rfl ?_
    rw [HX.out]
    refine ⟨?_, _, _, _, _, _, _, rfl, fun h => absurd h (by decide)⟩
    exact only_alloc G9 _
  obtain ⟨W3, hW3⟩ : ∃ W, W = segW w2 s := ⟨_, rfl⟩
  have G3 : Hid (w.grownBy W3 none) := Lib.hid (only_trans G2.out (by rw [hW3]; exact segW_only w2 s))
  have R3 : Hid (Blk W3 rb 31 #[.int .i64 0, .int .i64 0, .int .i64 0, .slice none 0 0, .slice none 0 0, .slice none 0 0, .slice none 0 0]) := Lib.hid (by rw [hW3]; exact R2.out.alloc _)
  have B3 : Hid (Blk W3 mb 31 #[.int .i64 num, .int .i64 nid, .int .i64 jn, .slice A2 ss.length c2, .slice none 0 0, .slice none 0 0, .slice none 0 0]) := Lib.hid (by rw [hW3]; exact B2.out.alloc _)
  have HW3 : Hid (segW w2 s = W3) := Lib.hid hW3.symm
  have KG3 := Lib.hid (KG.out W3 G3.out)
  have HF := Lib.hid hF
  clear hF hW3 KG
  by_cases ht : tier < 0 ∨ 2 < tier
  · have HX := Lib.hid (switchE_tier (bs := bs) HF.out ht)
    by_cases h0 : tier < 0
    · clear ht
      have hR := R2.out
      have hB := B2.out
      have q0 := hR.cell 0; have p0 := hR.frozen 0; have q1 := hR.cell 1; have p1 := hR.frozen 1; have q2 := hR.cell 2; have p2 := hR.frozen 2; have q3 := hR.cell 3; have p3 := hR.frozen 3; have q4 := hR.cell 4; have p4 := hR.frozen 4; have q5 := hR.cell 5; have p5 := hR.frozen 5; have q6 := hR.cell 6; have p6 := hR.frozen 6; simp at q0 q1 q2 q3 q4 q5 q6
      have b0 := hB.cell 0; have b1 := hB.cell 1; have b2 := hB.cell 2; have b3 := hB.cell 3; have b4 := hB.cell 4; have b5 := hB.cell 5; have b6 := hB.cell 6; simp at b0 b1 b2 b3 b4 b5 b6
      have hrl := hR.lt
      have hrn : rb ≠ w2.heap.size := by omega
      have hml := hB.lt
      have hmn : mb ≠ w2.heap.size := by omega
      have P9 := (blk_put7 hR (.int .i64 num) (.int .i64 nid) (.int .i64 jn) (.slice A2 ss.length c2) (.slice none 0 0) (.slice none 0 0) (.slice none 0 0)).alloc (.cells #[.int .i64 s.id, .int .i64 s.level, .int .i64 s.tier, .int .i64 s.count, .int .i64 s.min, .int .i64 s.max, .int .i64 s.size] 54)
      have g9 : w2.grownBy _ (some rb) := only_set7 (only_refl w2 (some rb)) (b := rb) (.int .i64 num) (.int .i64 nid) (.int .i64 jn) (.slice A2 ss.length c2) (.slice none 0 0) (.slice none 0 0) (.slice none 0 0)
      have D := Lib.hid (And.intro P9 (only_fresh G2.out g9 hwr))
      clear P9 g9 hR hB
      go_wp2_with fail
      obtain ⟨P9, G9⟩ := D.out
      have d0 := P9.cell 0; have d1 := P9.cell 1; have d2 := P9.cell 2; have d3 := P9.cell 3; have d4 := P9.cell 4; have d5 := P9.cell 5; have d6 := P9.cell 6
      simp at d0 d1 d2 d3 d4 d5 d6
      refine bodyPost_ret (v := .tuple #[.agg #[.int .i64 num, .int .i64 nid, .int .i64 jn, .slice A2 ss.length c2, .slice none 0 0, .slice none 0 0, .slice none 0 0], .int .i64 2]) (by simp [results, Tryz.results19, go_sem, d0, d1, d2, d3, d4, d5, d6]) rfl ?_
      rw [HX.out]
      refine ⟨?_, _, _, _, _, _, _, rfl, fun h => absurd h (by decide)⟩
      exact only_alloc G9 _
    · have h1 : 2 < tier := by omega
      clear ht
      have hR := R2.out
      have hB := B2.out
      have q0 := hR.cell 0; have p0 := hR.frozen 0; have q1 := hR.cell 1; have p1 := hR.frozen 1; have q2 := hR.cell 2; have p2 := hR.frozen 2; have q3 := hR.cell 3; have p3 := hR.frozen 3; have q4 := hR.cell 4; have p4 := hR.frozen 4; have q5 := hR.cell 5; have p5 := hR.frozen 5; have q6 := hR.cell 6; have p6 := hR.frozen 6; simp at q0 q1 q2 q3 q4 q5 q6
      have b0 := hB.cell 0; have b1 := hB.cell 1; have b2 := hB.cell 2; have b3 := hB.cell 3; have b4 := hB.cell 4; have b5 := hB.cell 5; have b6 := hB.cell 6; simp at b0 b1 b2 b3 b4 b5 b6
      have hrl := hR.lt
      have hrn : rb ≠ w2.heap.size := by omega
      have hml := hB.lt
      have hmn : mb ≠ w2.heap.size := by omega
      have P9 := (blk_put7 hR (.int .i64 num) (.int .i64 nid) (.int .i64 jn) (.slice A2 ss.length c2) (.slice none 0 0) (.slice none 0 0) (.slice none 0 0)).alloc (.cells #[.int .i64 s.id, .int .i64 s.level, .int .i64 s.tier, .int .i64 s.count, .int .i64 s.min, .int .i64 s.max, .int .i64 s.size] 54)
      have g9 : w2.grownBy _ (some rb) := only_set7 (only_refl w2 (some rb)) (b := rb) (.int .i64 num) (.int .i64 nid) (.int .i64 jn) (.slice A2 ss.length c2) (.slice none 0 0) (.slice none 0 0) (.slice none 0 0)
      have D := Lib.hid (And.intro P9 (only_fresh G2.out g9 hwr))
      clear P9 g9 hR hB
      go_wp2_with fail
      obtain ⟨P9, G9⟩ := D.out
      have d0 := P9.cell 0; have d1 := P9.cell 1; have d2 := P9.cell 2; have d3 := P9.cell 3; have d4 := P9.cell 4; have d5 := P9.cell 5; have d6 := P9.cell 6
      simp at d0 d1 d2 d3 d4 d5 d6
      refine bodyPost_ret (v := .tuple #[.agg #[.int .i64 num, .int .i64 nid, .int .i64 jn, .slice A2 ss.length c2, .slice none 0 0, .slice none 0 0, .slice none 0 0], .int .i64 2]) (by simp [results, Tryz.results19, go_sem, d0, d1, d2, d3, d4, d5, d6]) rfl ?_
      rw [HX.out]
      refine ⟨?_, _, _, _, _, _, _, rfl, fun h => absurd h (by decide)⟩
      exact only_alloc G9 _
  have h0 : ¬ tier < 0 := by omega
  have h1 : ¬ 2 < tier := by omega
  have HTT := Lib.hid ht
  clear ht
  go_upto_region 6 with fail
  have HWU := HW3.out
  unfold segW at HWU
  rw [HWU]
  clear HWU HW3 R2 B2
  obtain ⟨r, hrr⟩ : ∃ r, r = wholeB bs id tier := ⟨_, rfl⟩
  have HRR := Lib.hid hrr.symm
  rw [← hrr] at KG3
  clear hrr
  go_wp2_with fail
  cases r with
  | none =>
    refine KG3.out.mono ?_
    rintro e w4 ⟨hg4, A4, n4, c4, rfl⟩
    have G4 := Lib.hid (only_trans G3.out hg4)
    have R4 := Lib.hid (R3.out.grown hg4 (by simp))
    have B4 := Lib.hid (B3.out.grown hg4 (by simp))
    have HX := Lib.hid (switchE_lost HF.out HTT.out HRR.out)
    clear hg4 KG3
    have hR := R4.out
    have hB := B4.out
    have q0 := hR.cell 0; have p0 := hR.frozen 0; have q1 := hR.cell 1; have p1 := hR.frozen 1; have q2 := hR.cell 2; have p2 := hR.frozen 2; have q3 := hR.cell 3; have p3 := hR.frozen 3; have q4 := hR.cell 4; have p4 := hR.frozen 4; have q5 := hR.cell 5; have p5 := hR.frozen 5; have q6 := hR.cell 6; have p6 := hR.frozen 6; simp at q0 q1 q2 q3 q4 q5 q6
    have b0 := hB.cell 0; have b1 := hB.cell 1; have b2 := hB.cell 2; have b3 := hB.cell 3; have b4 := hB.cell 4; have b5 := hB.cell 5; have b6 := hB.cell 6; simp at b0 b1 b2 b3 b4 b5 b6
    have hrl := hR.lt
    have hrn : rb ≠ w4.heap.size := by omega
    have hml := hB.lt
    have hmn : mb ≠ w4.heap.size := by omega
    have P9 := (blk_put7 hR (.int .i64 num) (.int .i64 nid) (.int .i64 jn) (.slice A2 ss.length c2) (.slice none 0 0) (.slice none 0 0) (.slice none 0 0))
    have g9 : w4.grownBy _ (some rb) := only_set7 (only_refl w4 (some rb)) (b := rb) (.int .i64 num) (.int .i64 nid) (.int .i64 jn) (.slice A2 ss.length c2) (.slice none 0 0) (.slice none 0 0) (.slice none 0 0)
    have D := Lib.hid (And.intro P9 (only_fresh G4.out g9 hwr))
    clear P9 g9 hR hB
    go_wp2_with fail
    obtain ⟨P9, G9⟩ := D.out
    have d0 := P9.cell 0; have d1 := P9.cell 1; have d2 := P9.cell 2; have d3 := P9.cell 3; have d4 := P9.cell 4; have d5 := P9.cell 5; have d6 := P9.cell 6
    simp at d0 d1 d2 d3 d4 d5 d6
    refine bodyPost_ret (v := .tuple #[.agg #[.int .i64 num, .int .i64 nid, .int .i64 jn, .slice A2 ss.length c2, .slice none 0 0, .slice none 0 0, .slice none 0 0], .int .i64 25]) (by simp [results, Tryz.results19, go_sem, d0, d1, d2, d3, d4, d5, d6]) rfl ?_
    rw [HX.out]
    refine ⟨?_, _, _, _, _, _, _, rfl, fun h => absurd h (by decide)⟩
    exact G9
  | some d =>
    refine KG3.out.mono ?_
    rintro e w4 ⟨hg4, A1, c1, rfl, -, -, -⟩
    have G4 := Lib.hid (only_trans G3.out hg4)
    have R4 := Lib.hid (R3.out.grown hg4 (by simp))
    have B4 := Lib.hid (B3.out.grown hg4 (by simp))
    have HX := Lib.hid (switchE_yes HF.out HTT.out HRR.out)
    have S4 := Lib.hid (HRS.out.grown G4.out (by simp))
    have hs4 := G4.out.size
    have hB := B4.out
    have b3 := hB.cell 3
    simp at b3
    clear hg4 KG3 R3 B3 G3 hB
    go_upto_region 10 with (at_builtin; refine wpList_appendT rfl _ _ 25 rfl w4.heap.size Tryz.underlying25 segInfo rfl (by decide) (v := .slice none 0 0) (by rfl) (World.ownsRow_nil _ _ _ _) A2 ss.length c2 (news := ss.flatMap SegD.cells) (by rfl) S4.out (flat_len _ 7 SegD.cells_len ss) (flat_one SegD.one _) (by decide) (by omega) (by omega) ?_; intro A7 c7 w5 ho5a hg5a; have hB5 := B4.out.grown hg5a (by simp [Value.ownBlock]); have b3' := hB5.cell 3; have f3' := hB5.frozen 3; simp at b3')
    have ho5 : w5.ownsRow w4.heap.size 54 7 (.slice A7 ss.length c7) ss.length (ss.flatMap SegD.cells) := by simpa using ho5a
    have hg5 : w4.grownBy w5 none := by simpa [Value.ownBlock] using hg5a
    clear b3 ho5a hg5a hB5
    have hB5 := B4.out.grown hg5 (by simp)
    have hR5 := R4.out.grown hg5 (by simp)
    have gs : w5.grownBy (w5.setCell ⟨mb, 3, none⟩ (.slice A7 ss.length c7)) (some mb) := only_setCell (only_refl _ _) (p := ⟨mb, 3, none⟩) (.inl rfl) _
    have HI : Hid (SwI w mb rb w4.heap.size num nid jn A7 ss.length c7 ss (w5.setCell ⟨mb, 3, none⟩ (.slice A7 ss.length c7))) := Lib.hid ⟨by simpa using hB5.set_ 3 (.slice A7 ss.length c7), hR5.grown gs (fun e => hmr (by injection e with e; exact e.symm)), ho5.kept gs (.inr (blk_norow hB5 ho5 (by decide))), only_fresh (only_trans G4.out hg5) gs hwm⟩
    have c3 := hB5.cell 3
    have f3 := hB5.frozen 3
    simp at c3
    have hb6 : w.heap.size ≤ w4.heap.size := hs4
    clear hB5 hR5 gs ho5 hg5 R4 B4 S4 G4
    clear c3 f3 b3' f3'
    have c3 := HI.out.1.cell 3
    simp at c3
    go_wp2_with fail
    clear c3
    go_loopw [14] (fun vi wr => ∃ k : Nat, vi = .int .i64 k ∧ k ≤ ss.length ∧ (∀ j t, j < k → ss[j]? = some t → t.id ≠ id) ∧ SwI w mb rb w4.heap.size num nid jn A7 ss.length c7 (setK ss id tier k) wr) (fun vi _ => ss.length - (intOf vi).toNat)
    case atStart => exact ⟨0, rfl, Nat.zero_le _, fun j t h => by omega, by rw [setK_0]; exact HI.out⟩
    case round =>
      obtain ⟨k, rfl, hk, hno, hI⟩ := hrel
      have HJ := Lib.hid hI
      have NO := Lib.hid hno
      clear hno
      have c3 := hI.1.cell 3
      simp at c3
      clear hI HI
      by_cases hkl : k < ss.length
      · obtain ⟨s2, hs2⟩ : ∃ s2, ss[k]? = some s2 := ⟨_, List.getElem?_eq_getElem hkl⟩
        have hsl := setK_len ss id tier hk
        have hs3 := setK_at (id := id) (tier := tier) hs2
        have HS2 := Lib.hid hs2
        have HS3 := Lib.hid hs3
        obtain ⟨A9, c9, e9, -, -, -, hr9⟩ := Rd.of_own HJ.out.2.2.1 (by decide)
        injection e9 with e91 e92 e93
        subst e91 e93
        obtain ⟨g, o, rfl, hgw, -, -⟩ := hr9 (by rw [flat_len _ 7 SegD.cells_len, hsl]; omega)
        have ho : o = 0 := by
          rcases HJ.out.2.2.1.2 with ⟨e, _⟩ | ⟨g', cap, cur, e, _⟩
          · cases e
          · injection e with e1; injection e1 with e1; injection e1
        subst ho
        obtain ⟨c0, ⟨v2, c2'⟩, f2⟩ := HJ.out.cell hs3 hkl
        have i1 : (k : Int) < (ss.length : Int) := by omega
        have i2 : (0 : Int) ≤ (k : Int) := by omega
        clear hs2 hs3 hr9
        by_cases he : s2.id = id
        · have e1 : (s2.id == id) = true := by simp [he]
          have HP := Lib.hid (HJ.out.put HS3.out hkl hb6 tier)
          have HE := Lib.hid he
          clear he
          have HFI : Hid (SwI w mb rb w4.heap.size num nid jn (some ⟨g, 0, none⟩) ss.length c7 (setT ss id tier) (wr.setCell ⟨g, k * 7 + 2, none⟩ (.int .i64 tier))) := Lib.hid (by
            rw [← setK_found HA.out HS2.out HE.out, setK_next HS2.out]
            have : setF id tier s2 = s2.at_ s2.level tier := by unfold setF; rw [if_pos HE.out]
            rw [this]
            exact HP.out)
          clear HP
          go_upto_region 15 with fail
          obtain ⟨A7, hA7⟩ : ∃ A7 : Option Addr, A7 = some ⟨g, 0, none⟩ := ⟨_, rfl⟩
          obtain ⟨wf, hwf⟩ : ∃ wf, wf = wr.setCell ⟨g, k * 7 + 2, none⟩ (.int .i64 tier) := ⟨_, rfl⟩
          rw [← hwf, ← hA7] at HFI
          rw [← hwf]
          clear c3 c0 c2' f2 hwf hA7 HJ
          have HMM := Lib.hid HFI.out
          obtain ⟨hB8, hR8, hO8, hG8⟩ := HMM.out
          have b0 := hB8.cell 0
          have f0 := hB8.frozen 0
          simp at b0
          have hwn : IntKind.i64.wrap (num + 1) = num + 1 := IntWalk.i64_in _ (by omega)
          have hmr2 := hmr
          clear hB8 hR8 hO8 hG8
          go_upto_region 16 with fail
          obtain ⟨hB8, hR8, hO8, hG8⟩ := HMM.out
          obtain ⟨W8, hW8⟩ : ∃ W, W = wf.setCell ⟨mb, 0, none⟩ (.int .i64 (num + 1)) := ⟨_, rfl⟩
          have g8 : wf.grownBy W8 (some mb) := by rw [hW8]; exact only_setCell (only_refl _ _) (p := ⟨mb, 0, none⟩) (.inl rfl) _
          have BM8 : Blk W8 mb 31 #[.int .i64 (num + 1), .int .i64 nid, .int .i64 jn, .slice A7 ss.length c7, .slice none 0 0, .slice none 0 0, .slice none 0 0] := by rw [hW8]; simpa using hB8.set_ 0 (.int .i64 (num + 1))
          have BR8 := hR8.grown g8 (fun e => hmr2 (by injection e with e; exact e.symm))
          have O8 := hO8.kept g8 (.inr (blk_norow hB8 hO8 (by decide)))
          have G8 := only_fresh hG8 g8 hwm
          rw [← hW8]
          clear b0 f0 hB8 hR8 hO8 hG8 hW8 g8 HMM
          have b0 := BM8.cell 0; have b1 := BM8.cell 1; have b2 := BM8.cell 2; have b3 := BM8.cell 3; have b4 := BM8.cell 4; have b5 := BM8.cell 5; have b6 := BM8.cell 6
          have q0 := BR8.cell 0; have q1 := BR8.cell 1; have q2 := BR8.cell 2; have q3 := BR8.cell 3; have q4 := BR8.cell 4; have q5 := BR8.cell 5; have q6 := BR8.cell 6
          have p0 := BR8.frozen 0; have p1 := BR8.frozen 1; have p2 := BR8.frozen 2; have p3 := BR8.frozen 3; have p4 := BR8.frozen 4; have p5 := BR8.frozen 5; have p6 := BR8.frozen 6
          simp at b0 b1 b2 b3 b4 b5 b6 q0 q1 q2 q3 q4 q5 q6
          have P9 := blk_put7 BR8 (.int .i64 (num + 1)) (.int .i64 nid) (.int .i64 jn) (.slice A7 ss.length c7) (.slice none 0 0) (.slice none 0 0) (.slice none 0 0)
          have g9 : W8.grownBy _ (some rb) := only_set7 (only_refl W8 (some rb)) (b := rb) (.int .i64 (num + 1)) (.int .i64 nid) (.int .i64 jn) (.slice A7 ss.length c7) (.slice none 0 0) (.slice none 0 0) (.slice none 0 0)
          have O9 := O8.kept g9 (.inr (blk_norow BR8 O8 (by decide)))
          obtain ⟨A9, c9, e9, hc9, hm9, -, hr9⟩ := Rd.of_own O9 (by decide)
          injection e9 with e91 e92 e93
          subst e91 e93
          have hst := setT_len ss id tier
          have DF : Hid (ss.length ≤ c7 ∧ c7 ≤ maxLen ∧ Rd (w.heap.size ≤ ·) _ A7 ((setT ss id tier).flatMap SegD.cells)) := Lib.hid ⟨hc9, hm9, hr9.mono (fun b hb _ => Nat.le_trans hb6 hb)⟩
          have D := Lib.hid (And.intro P9 (only_fresh G8 g9 hwr))
          clear P9 g9 O9 G8 O8 BM8 BR8 hc9 hm9 hr9 hst
          go_wp2_with fail
          obtain ⟨P9, G9⟩ := D.out
          have d0 := P9.cell 0; have d1 := P9.cell 1; have d2 := P9.cell 2; have d3 := P9.cell 3; have d4 := P9.cell 4; have d5 := P9.cell 5; have d6 := P9.cell 6
          simp at d0 d1 d2 d3 d4 d5 d6
          refine bodyPost_ret (v := .tuple #[.agg #[.int .i64 (num + 1), .int .i64 nid, .int .i64 jn, .slice A7 ss.length c7, .slice none 0 0, .slice none 0 0, .slice none 0 0], .int .i64 0]) (by simp [results, Tryz.results19, go_sem, d0, d1, d2, d3, d4, d5, d6]) rfl ?_
          rw [HX.out]
          exact ⟨G9, _, _, _, _, _, _, rfl, fun _ => ⟨rfl, rfl, rfl, (setT_len ss id tier).symm, DF.out⟩⟩
        · have e1 : (s2.id == id) = false := by simp [he]
          have HE := Lib.hid he
          clear he
          go_wp2_with fail
          go_roundw
          case rel =>
            refine ⟨k + 1, by go_num, by omega, (fun j t hj ht => ?_), ?_⟩
            · by_cases e : j = k
              · subst e; rw [HS2.out] at ht; injection ht with ht; rw [← ht]; exact HE.out
              · exact NO.out j t (by omega) ht
            · rw [setK_no HS2.out HE.out]
              exact HJ.out
          case measure => simp [intOf]; omega
      · have i1 : ¬ ((k : Int) < (ss.length : Int)) := by omega
        have HKA := Lib.hid (setK_all ss id tier (k := k) (by omega))
        clear hkl
        have HFI : Hid (SwI w mb rb w4.heap.size num nid jn A7 ss.length c7 (setT ss id tier) wr) := Lib.hid (by rw [← HKA.out]; exact HJ.out)
        clear HJ HKA
        go_upto_region 15 with fail
        clear c3
        have HMM := Lib.hid HFI.out
        obtain ⟨hB8, hR8, hO8, hG8⟩ := HMM.out
        have b0 := hB8.cell 0
        have f0 := hB8.frozen 0
        simp at b0
        have hwn : IntKind.i64.wrap (num + 1) = num + 1 := IntWalk.i64_in _ (by omega)
        have hmr2 := hmr
        clear hB8 hR8 hO8 hG8
        go_upto_region 16 with fail
        obtain ⟨hB8, hR8, hO8, hG8⟩ := HMM.out
        obtain ⟨W8, hW8⟩ : ∃ W, W = wr.setCell ⟨mb, 0, none⟩ (.int .i64 (num + 1)) := ⟨_, rfl⟩
        have g8 : wr.grownBy W8 (some mb) := by rw [hW8]; exact only_setCell (only_refl _ _) (p := ⟨mb, 0, none⟩) (.inl rfl) _
        have BM8 : Blk W8 mb 31 #[.int .i64 (num + 1), .int .i64 nid, .int .i64 jn, .slice A7 ss.length c7, .slice none 0 0, .slice none 0 0, .slice none 0 0] := by rw [hW8]; simpa using hB8.set_ 0 (.int .i64 (num + 1))
        have BR8 := hR8.grown g8 (fun e => hmr2 (by injection e with e; exact e.symm))
        have O8 := hO8.kept g8 (.inr (blk_norow hB8 hO8 (by decide)))
        have G8 := only_fresh hG8 g8 hwm
        rw [← hW8]
        clear b0 f0 hB8 hR8 hO8 hG8 hW8 g8 HMM
        have b0 := BM8.cell 0; have b1 := BM8.cell 1; have b2 := BM8.cell 2; have b3 := BM8.cell 3; have b4 := BM8.cell 4; have b5 := BM8.cell 5; have b6 := BM8.cell 6
        have q0 := BR8.cell 0; have q1 := BR8.cell 1; have q2 := BR8.cell 2; have q3 := BR8.cell 3; have q4 := BR8.cell 4; have q5 := BR8.cell 5; have q6 := BR8.cell 6
        have p0 := BR8.frozen 0; have p1 := BR8.frozen 1; have p2 := BR8.frozen 2; have p3 := BR8.frozen 3; have p4 := BR8.frozen 4; have p5 := BR8.frozen 5; have p6 := BR8.frozen 6
        simp at b0 b1 b2 b3 b4 b5 b6 q0 q1 q2 q3 q4 q5 q6
        have P9 := blk_put7 BR8 (.int .i64 (num + 1)) (.int .i64 nid) (.int .i64 jn) (.slice A7 ss.length c7) (.slice none 0 0) (.slice none 0 0) (.slice none 0 0)
        have g9 : W8.grownBy _ (some rb) := only_set7 (only_refl W8 (some rb)) (b := rb) (.int .i64 (num + 1)) (.int .i64 nid) (.int .i64 jn) (.slice A7 ss.length c7) (.slice none 0 0) (.slice none 0 0) (.slice none 0 0)
        have O9 := O8.kept g9 (.inr (blk_norow BR8 O8 (by decide)))
        obtain ⟨A9, c9, e9, hc9, hm9, -, hr9⟩ := Rd.of_own O9 (by decide)
        injection e9 with e91 e92 e93
        subst e91 e93
        have hst := setT_len ss id tier
        have DF : Hid (ss.length ≤ c7 ∧ c7 ≤ maxLen ∧ Rd (w.heap.size ≤ ·) _ A7 ((setT ss id tier).flatMap SegD.cells)) := Lib.hid ⟨hc9, hm9, hr9.mono (fun b hb _ => Nat.le_trans hb6 hb)⟩
        have D := Lib.hid (And.intro P9 (only_fresh G8 g9 hwr))
        clear P9 g9 O9 G8 O8 BM8 BR8 hc9 hm9 hr9 hst
        go_wp2_with fail
        obtain ⟨P9, G9⟩ := D.out
        have d0 := P9.cell 0; have d1 := P9.cell 1; have d2 := P9.cell 2; have d3 := P9.cell 3; have d4 := P9.cell 4; have d5 := P9.cell 5; have d6 := P9.cell 6
        simp at d0 d1 d2 d3 d4 d5 d6
        refine bodyPost_ret (v := .tuple #[.agg #[.int .i64 (num + 1), .int .i64 nid, .int .i64 jn, .slice A7 ss.length c7, .slice none 0 0, .slice none 0 0, .slice none 0 0], .int .i64 0]) (by simp [results, Tryz.results19, go_sem, d0, d1, d2, d3, d4, d5, d6]) rfl ?_
        rw [HX.out]
        exact ⟨G9, _, _, _, _, _, _, rfl, fun _ => ⟨rfl, rfl, rfl, (setT_len ss id tier).symm, DF.out⟩⟩
end Go.Proofs.YtganfhmjklcchaaGreat
