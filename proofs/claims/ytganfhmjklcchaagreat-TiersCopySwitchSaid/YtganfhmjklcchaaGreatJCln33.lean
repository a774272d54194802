/- Clean of tiers and of the reference of chapter 33; slices.DeleteFunc and IndexFunc at blobs (printed by mk33k.py). Conditions: sizes. -/
import Derived.Test.YtganfhmjklcchaaGreatJHdrW
import Derived.Test.YtganfhmjklcchaaGreatJGenC
import Derived.Deep.QuietTactic
import Derived.Deep.DeepCutAuto
namespace Go.Proofs.YtganfhmjklcchaaGreat
open Go.RowKit
set_option linter.unusedVariables false
set_option linter.unusedSimpArgs false

/-- does the manifest name a blob? -/
def inM (ss : List SegD) (x : BlobD) : Bool := match segF ss x.id with
  | some s => s.tier == x.tier
  | none => false
def cleanB (ss : List SegD) (bs : List BlobD) : List BlobD := bs.filter (inM ss)
theorem inM_no {ss : List SegD} {x : BlobD} (h : segF ss x.id = none) : inM ss x = false := by unfold inM; rw [h]
theorem inM_yes {ss : List SegD} {x : BlobD} {s : SegD} (h : segF ss x.id = some s) : inM ss x = (s.tier == x.tier) := by unfold inM; rw [h]
theorem cleanB_take {ss : List SegD} {bs : List BlobD} {k : Nat} {x : BlobD} (h : bs[k]? = some x) : cleanB ss (bs.take (k + 1)) = cleanB ss (bs.take k) ++ if inM ss x = true then [x] else [] := by
  obtain ⟨h1, h2⟩ := List.getElem?_eq_some_iff.1 h
  unfold cleanB
  rw [List.take_succ_eq_append_getElem h1, List.filter_append, h2]
  congr 1
  cases hm : inM ss x <;> simp [hm]
theorem cleanB_len (ss : List SegD) (bs : List BlobD) : (cleanB ss bs).length ≤ bs.length := List.length_filter_le _ _
theorem cleanB_mem {ss : List SegD} {bs : List BlobD} {x : BlobD} (h : x ∈ cleanB ss bs) : x ∈ bs := (List.mem_filter.1 h).1
def ClPost (w : World) (l : List BlobD) (e : Ending) (w' : World) : Prop :=
  ∃ (A : Option Addr) (c : Nat), e = .returned (.slice A l.length c) ∧ l.length ≤ c ∧ c ≤ maxLen ∧ (A = none → c = 0) ∧ Rd (w.heap.size ≤ ·) w' A (l.flatMap BlobD.cells) ∧ w.grownBy w' none
def BoolExtC (b : Bool) (w : World) (e : Ending) (w' : World) : Prop := e = .returned (.bool b) ∧ w.grownBy w' none
theorem own_none' {w : World} {base e z n c n' : Nat} {xs : List Value} {A : Option Addr} (h : w.ownsRow base e z (.slice A n c) n' xs) (hA : A = none) : c = 0 := by rw [hA] at h; exact own_none h
set_option maxHeartbeats 2000000 in
set_option maxRecDepth 100000 in
theorem clean1_any {S3 : Nat → Prop} (num nid jn : Int) (A2 : Option Addr) (ss : List SegD) (c2 : Nat) (x : BlobD) (mb : Nat) (w : World) (hB : Blk w mb 31 #[.int .i64 num, .int .i64 nid, .int .i64 jn, .slice A2 ss.length c2, .slice none 0 0, .slice none 0 0, .slice none 0 0]) (hr2 : Rd S3 w A2 (ss.flatMap SegD.cells)) (hl2 : ss.length ≤ 100000) :
    Calls Tryz.prog 29 #[.agg x.cells.toArray, .pointer (some ⟨mb, 0, none⟩)] w (BoolExtC (!inM ss x) w) := by
  obtain ⟨xb, hxb⟩ : ∃ b, b = w.heap.size := ⟨_, rfl⟩
  obtain ⟨W1, hW1⟩ : ∃ W, W = w.alloc (.cells x.cells.toArray 59) := ⟨_, rfl⟩
  have G1 : Hid (w.grownBy W1 none) := Lib.hid (by rw [hW1]; exact only_alloc (only_refl _ _) _)
  have X1 : Hid (Blk W1 xb 59 x.cells.toArray) := Lib.hid (by rw [hW1, hxb]; exact Blk.new w _ _)
  have B1 : Hid (Blk W1 mb 31 #[.int .i64 num, .int .i64 nid, .int .i64 jn, .slice A2 ss.length c2, .slice none 0 0, .slice none 0 0, .slice none 0 0]) := Lib.hid (hB.grown G1.out (by simp))
  have KF := Lib.hid (mfind_any num nid jn A2 ss c2 none 0 0 none 0 0 none 0 0 x.id W1 (hr2.grown G1.out (by simp)) hl2)
  have b0 := B1.out.cell 0
  have b1 := B1.out.cell 1
  have b2 := B1.out.cell 2
  have b3 := B1.out.cell 3
  have b4 := B1.out.cell 4
  have b5 := B1.out.cell 5
  have b6 := B1.out.cell 6
  simp at b0 b1 b2 b3 b4 b5 b6
  have y0 := X1.out.cell 0
  simp [BlobD.cells] at y0
  have HW := Lib.hid hW1.symm
  have HXB := Lib.hid hxb.symm
  clear hW1 hxb hB hr2
  simp only [BlobD.cells] at HW ⊢
  go_enter Tryz.func29, Tryz.ntmps29
  go_upto_region 1 with fail
  rw [HW.out, HXB.out]
  clear HW HXB
  go_wp2_with fail
  refine KF.out.mono ?_
  rintro e w2 h2
  have G2 := Lib.hid (only_trans G1.out h2.1)
  have X2 := X1.out.grown h2.1 (by simp)
  have hxl := X2.lt
  have hxn : xb ≠ w2.heap.size := by omega
  have y1 := X2.cell 1
  simp [BlobD.cells] at y1
  clear b0 b1 b2 b3 b4 b5 b6 y0 KF X2
  cases hF : segF ss x.id with
  | none =>
    obtain ⟨rfl, -⟩ := find_none hF h2
    have HV := Lib.hid (inM_no hF)
    clear hF h2
    go_wp2_with fail
    go_ret
    exact ⟨by rw [HV.out]; rfl, only_alloc G2.out _⟩
  | some s =>
    obtain ⟨rfl, -⟩ := find_some hF h2
    have HV := Lib.hid (inM_yes hF)
    clear hF h2
    go_wp2_with fail
    go_ret
    exact ⟨by rw [HV.out]; rfl, only_alloc G2.out _⟩
/-- the first that is not kept, or -1 -/
def IdxIs (p : BlobD → Bool) (bs : List BlobD) (v : Int) : Prop := (v = -1 ∧ ∀ x ∈ bs, p x = true) ∨ ∃ (k : Nat) (x : BlobD), v = k ∧ bs[k]? = some x ∧ p x = false ∧ ∀ j y, j < k → bs[j]? = some y → p y = true
def IdxB (p : BlobD → Bool) (bs : List BlobD) (w : World) (e : Ending) (w' : World) : Prop := ∃ v, e = .returned (.int .i64 v) ∧ IdxIs p bs v ∧ w.grownBy w' none
set_option maxHeartbeats 2000000 in
set_option maxRecDepth 100000 in
theorem indexB_any {S : Nat → Prop} (p : BlobD → Bool) (mb : Nat) (A : Option Addr) (bs : List BlobD) (c : Nat) (w : World) (hr : Rd S w A (bs.flatMap BlobD.cells)) (hl : bs.length ≤ 100000) (h : ∀ (x : BlobD) (W : World), x ∈ bs → w.grownBy W none → Calls Tryz.prog 29 #[.agg x.cells.toArray, .pointer (some ⟨mb, 0, none⟩)] W (BoolExtC (!p x) W)) :
    Calls Tryz.prog 53 #[.slice A bs.length c, .func (Fn.func 29) #[] #[.pointer (some ⟨mb, 0, none⟩)]] w (IdxB p bs w) := by
  have H := Lib.hid hr
  have HP := Lib.hid h
  clear hr h
  go_enter Tryz.func53, Tryz.ntmps53
  go_wp2_with fail
  go_loopw [8] (fun vi wr => ∃ k : Nat, vi = .int .i64 k ∧ k ≤ bs.length ∧ (∀ j t, j < k → bs[j]? = some t → p t = true) ∧ w.grownBy wr none) (fun vi _ => bs.length - (intOf vi).toNat)
  case atStart => exact ⟨0, rfl, Nat.zero_le _, (fun j t hj => by omega), only_refl _ _⟩
  case round =>
    obtain ⟨k, rfl, hk, hno, hG⟩ := hrel
    have NO := Lib.hid hno
    have G := Lib.hid hG
    clear hno hG
    by_cases hkl : k < bs.length
    · obtain ⟨b, o, rfl, -, -, -⟩ := H.out (by rw [flat_len _ 3 BlobD.cells_len]; omega)
      obtain ⟨x, hx⟩ : ∃ x, bs[k]? = some x := ⟨_, List.getElem?_eq_getElem hkl⟩
      have hr := H.out.grown G.out (by simp)
      have d0 : wr.cell? ⟨b, o + k * 3, none⟩ = some (.int .i64 x.id) := hr.flatAt BlobD.cells_len hx 0 (by omega)
      have d1 : wr.cell? ⟨b, o + k * 3 + 1, none⟩ = some (.int .i64 x.tier) := hr.flatAt BlobD.cells_len hx 1 (by omega)
      have d2 : wr.cell? ⟨b, o + k * 3 + 2, none⟩ = some (.slice x.A x.data.length x.c) := hr.flatAt BlobD.cells_len hx 2 (by omega)
      have KC := Lib.hid (HP.out x wr (List.mem_of_getElem? hx) G.out)
      have HX := Lib.hid hx
      have i1 : (k : Int) < (bs.length : Int) := by omega
      have i2 : (0 : Int) ≤ (k : Int) := by omega
      obtain ⟨B, hB⟩ : ∃ B : Bool, B = p x := ⟨_, rfl⟩
      rw [← hB] at KC
      have HB := Lib.hid hB
      clear hx hr hB
      cases B with
      | true =>
        go_wp2_with fail
        refine KC.out.mono ?_
        rintro e w2 ⟨rfl, hg2⟩
        have G2 := Lib.hid (only_trans G.out hg2)
        clear d0 d1 d2 hg2
        go_wp2_with fail
        go_roundw
        case rel =>
          refine ⟨k + 1, by go_num, by omega, (fun j t hj ht => ?_), G2.out⟩
          by_cases e : j = k
          · subst e
            rw [HX.out] at ht; injection ht with ht; rw [← ht]; exact HB.out.symm
          · exact NO.out j t (by omega) ht
        case measure => simp [intOf]; omega
      | false =>
        go_wp2_with fail
        refine KC.out.mono ?_
        rintro e w2 ⟨rfl, hg2⟩
        have G2 := Lib.hid (only_trans G.out hg2)
        clear d0 d1 d2 hg2
        go_wp2_with fail
        go_ret
        exact ⟨_, rfl, .inr ⟨k, x, rfl, HX.out, HB.out.symm, NO.out⟩, G2.out⟩
    · have i1 : ¬ ((k : Int) < (bs.length : Int)) := by omega
      have HK : Hid (k = bs.length) := Lib.hid (by omega)
      clear hkl
      go_wp2_with fail
      go_ret
      exact ⟨_, rfl, .inl ⟨rfl, fun x hx => by
        obtain ⟨j, hj⟩ := List.getElem?_of_mem hx
        exact NO.out j x (by have := (List.getElem?_eq_some_iff.1 hj).1; have := HK.out; omega) hj⟩, G.out⟩
theorem run_clearN {P : Program} (w : World) (t e : TypeId) (z : Value) (ht : P.underlying t = some (.slice e)) (hv : ∀ w, (zeroValue e).run P w = .ok z w) (g o m : Nat) (hm0 : 0 < m) (cur : Array Value) (t' : TypeId) (hg : w.heap[g]? = some (.cells cur t' (0, 0))) (hfit : o + m * z.cells.size ≤ cur.size) (h1 : ∀ u ∈ z.cells.toList, u.oneCell' = true) :
    ∃ zs : List Value, zs.length = m * z.cells.size ∧ ∀ ty c, (Builtin.clear_ #[t] ty #[.slice (some ⟨g, o, none⟩) m c]).run P w = .ok (.tuple #[]) (w.setRow g (cur.toList.take o ++ zs ++ cur.toList.drop (o + zs.length)).toArray) := by
  obtain ⟨m, rfl⟩ : ∃ k, m = k + 1 := ⟨m - 1, by omega⟩
  refine ⟨(Builtin.zeroCells z.cells (m + 1)).toList, by simp [Builtin.zeroCells], fun ty c => ?_⟩
  have hall : ∀ u ∈ (Builtin.zeroCells z.cells (m + 1)).toList, u.oneCell' = true := by
    intro u hu
    simp [Builtin.zeroCells] at hu
    obtain ⟨i, hi, rfl⟩ := hu
    have hz : 0 < z.cells.size := by
      rcases Nat.eq_zero_or_pos z.cells.size with h | h
      · rw [h] at hi; omega
      · exact h
    have hm := Nat.mod_lt i hz
    rw [getElem!_pos z.cells _ hm]
    exact h1 _ (by simp)
  have hst := run_storeCells_at P g o t' (Builtin.zeroCells z.cells (m + 1)).toList 0 cur w hg (by simpa [Builtin.zeroCells] using hfit) hall
  simp only [Nat.add_zero] at hst
  simp [Builtin.clear_, run_underlying ht, hv, hst]
def DelB (w : World) (base : Nat) (row : Option Nat) (l : List BlobD) (e : Ending) (w' : World) : Prop :=
  ∃ (A : Option Addr) (c : Nat), e = .returned (.slice A l.length c) ∧ l.length ≤ c ∧ c ≤ maxLen ∧ (A = none → c = 0) ∧ Rd (base ≤ ·) w' A (l.flatMap BlobD.cells) ∧ w.grownBy w' row
/-- what the loop keeps -/
def DI (w : World) (base g n c : Nat) (p : BlobD → Bool) (bs : List BlobD) (i j : Nat) (wr : World) : Prop :=
  ∃ L : List BlobD, L.length = n ∧ i < j ∧ j ≤ n ∧ L.take i = (bs.take j).filter p ∧ L.drop j = bs.drop j ∧ wr.ownsRow base 59 3 (.slice (some ⟨g, 0, none⟩) n c) n (L.flatMap BlobD.cells) ∧ w.grownBy wr (some g)
theorem DI.skip {w wr w' : World} {base g n c i j : Nat} {p : BlobD → Bool} {bs : List BlobD} {x : BlobD} (h : DI w base g n c p bs i j wr) (hg : wr.grownBy w' none) (hx : bs[j]? = some x) (hj : j < n) (hp : p x = false) : DI w base g n c p bs i (j + 1) w' := by
  obtain ⟨L, h1, h2, h3, h4, h5, h6, h7⟩ := h
  obtain ⟨x1, x2⟩ := List.getElem?_eq_some_iff.1 hx
  refine ⟨L, h1, by omega, hj, ?_, ?_, own_ext h6 hg, only_trans h7 (only_of_none hg _)⟩
  · rw [List.take_succ_eq_append_getElem x1, List.filter_append, x2, h4]; simp [hp]
  · rw [← List.drop_drop, h5, List.drop_drop]
theorem DI.keep {w wr w' : World} {base g n c i j : Nat} {p : BlobD → Bool} {bs : List BlobD} {x : BlobD} (h : DI w base g n c p bs i j wr) (hg : wr.grownBy w' none) (hx : bs[j]? = some x) (hj : j < n) (hp : p x = true) :
    DI w base g n c p bs (i + 1) (j + 1) (((w'.setCell ⟨g, i * 3, none⟩ (.int .i64 x.id)).setCell ⟨g, i * 3 + 1, none⟩ (.int .i64 x.tier)).setCell ⟨g, i * 3 + 2, none⟩ (.slice x.A x.data.length x.c)) := by
  obtain ⟨L, h1, h2, h3, h4, h5, h6, h7⟩ := h
  obtain ⟨x1, x2⟩ := List.getElem?_eq_some_iff.1 hx
  have hil : i < L.length := by omega
  have h8 := own_ext h6 hg
  rw [← h1] at h8
  have h9 := put_set (x := x) h8 hil
  have hls : (L.set i x).length = L.length := List.length_set
  refine ⟨L.set i x, by rw [hls, h1], by omega, hj, ?_, ?_, by rw [← h1]; exact h9, ?_⟩
  · rw [List.take_succ_eq_append_getElem x1, List.filter_append, x2, ← h4]
    rw [List.take_succ_eq_append_getElem (by rw [hls]; exact hil), List.take_set_of_le (Nat.le_refl _)]
    simp [hp]
  · rw [List.drop_set_of_lt (by omega), ← List.drop_drop, h5, List.drop_drop]
  · exact only_setCell (only_setCell (only_setCell (only_trans h7 (only_of_none hg _)) (p := ⟨g, i * 3, none⟩) (.inl rfl) _) (p := ⟨g, i * 3 + 1, none⟩) (.inl rfl) _) (p := ⟨g, i * 3 + 2, none⟩) (.inl rfl) _
theorem DI.mid {w wr w' : World} {base g n c i j : Nat} {p : BlobD → Bool} {bs : List BlobD} (x : BlobD) (h : DI w base g n c p bs i j wr) (hg : wr.grownBy w' none) :
    (∃ v, w'.cell? ⟨g, i * 3, none⟩ = some v) ∧ w'.frozen? ⟨g, i * 3, none⟩ = false ∧
    (∃ v, (w'.setCell ⟨g, i * 3, none⟩ (.int .i64 x.id)).cell? ⟨g, i * 3 + 1, none⟩ = some v) ∧ (w'.setCell ⟨g, i * 3, none⟩ (.int .i64 x.id)).frozen? ⟨g, i * 3 + 1, none⟩ = false ∧
    (∃ v, ((w'.setCell ⟨g, i * 3, none⟩ (.int .i64 x.id)).setCell ⟨g, i * 3 + 1, none⟩ (.int .i64 x.tier)).cell? ⟨g, i * 3 + 2, none⟩ = some v) ∧ ((w'.setCell ⟨g, i * 3, none⟩ (.int .i64 x.id)).setCell ⟨g, i * 3 + 1, none⟩ (.int .i64 x.tier)).frozen? ⟨g, i * 3 + 2, none⟩ = false := by
  obtain ⟨L, h1, h2, h3, h4, h5, h6, h7⟩ := h
  have h8 := own_ext h6 hg
  rw [← h1] at h8
  exact put_mid h8 (by omega)
theorem DI.at_ {w wr : World} {base g n c i j : Nat} {p : BlobD → Bool} {bs : List BlobD} {x : BlobD} (h : DI w base g n c p bs i j wr) (hx : bs[j]? = some x) (hj : j < n) :
    wr.cell? ⟨g, j * 3, none⟩ = some (.int .i64 x.id) ∧ wr.cell? ⟨g, j * 3 + 1, none⟩ = some (.int .i64 x.tier) ∧ wr.cell? ⟨g, j * 3 + 2, none⟩ = some (.slice x.A x.data.length x.c) := by
  obtain ⟨L, h1, h2, h3, h4, h5, h6, h7⟩ := h
  have hL : L[j]? = some x := by
    have := congrArg (fun l => l[0]?) h5
    simp only [List.getElem?_drop, Nat.add_zero] at this
    rw [this]; exact hx
  obtain ⟨l1, l2⟩ := List.getElem?_eq_some_iff.1 hL
  have key : ∀ q, q < 3 → wr.cell? ⟨g, j * 3 + q, none⟩ = x.cells[q]? := fun q hq => by
    have hcl := own_cellR (k := j * 3 + q) h6 (by omega)
    rw [hcl.1, flat_at BlobD.cells 3 BlobD.cells_len L j q l1 hq, l2]
  refine ⟨?_, by rw [key 1 (by omega)]; rfl, by rw [key 2 (by omega)]; rfl⟩
  have := key 0 (by omega)
  simpa [BlobD.cells] using this
set_option maxHeartbeats 2000000 in
set_option maxRecDepth 100000 in
theorem delfunc_any (p : BlobD → Bool) (mb base n : Nat) (A : Option Addr) (bs : List BlobD) (c : Nat) (w : World) (hn : bs.length = n) (hown : w.ownsRow base 59 3 (.slice A n c) n (bs.flatMap BlobD.cells)) (hl : n ≤ 100000) (h : ∀ (x : BlobD) (W : World), x ∈ bs → w.grownBy W (Value.slice A n c).ownBlock → Calls Tryz.prog 29 #[.agg x.cells.toArray, .pointer (some ⟨mb, 0, none⟩)] W (BoolExtC (!p x) W)) :
    Calls Tryz.prog 27 #[.slice A n c, .func (Fn.func 29) #[] #[.pointer (some ⟨mb, 0, none⟩)]] w (DelB w base (Value.slice A n c).ownBlock (bs.filter p)) := by
  obtain ⟨A9, c9, e9, hc9, hm9, -, hr9⟩ := Rd.of_own hown (by decide)
  injection e9 with e91 e92 e93
  subst e91 e93
  have KI := Lib.hid (indexB_any p mb A bs c w hr9 (by omega) (fun x W hx hW => h x W hx (only_of_none hW _)))
  rw [hn] at KI
  have HR := Lib.hid hr9
  have HO := Lib.hid hown
  have HP := Lib.hid h
  have HN := Lib.hid hn
  have hmx := hm9
  unfold maxLen at hmx
  clear hr9 hown h hn
  go_enter Tryz.func27, Tryz.ntmps27
  go_wp2_with fail
  refine KI.out.mono ?_
  rintro e w1 ⟨v, rfl, hI, hg1⟩
  have G1 := Lib.hid hg1
  have O1 := Lib.hid (own_ext HO.out hg1)
  clear hg1 KI
  rcases hI with ⟨rfl, hall⟩ | ⟨k, x0, rfl, hx0, hp0, hlt0⟩
  · have HF : Hid (bs.filter p = bs) := Lib.hid (List.filter_eq_self.2 hall)
    clear hall
    go_wp2_with fail
    go_ret
    rw [HF.out]
    have hnl := HN.out
    exact ⟨A, c, by rw [hnl]; rfl, by rw [hnl]; exact hc9, hm9, own_none' HO.out, HR.out.grown G1.out (by simp), only_of_none G1.out _⟩
  · obtain ⟨k1, k2⟩ := List.getElem?_eq_some_iff.1 hx0
    have hkn : k < n := by have := HN.out; omega
    rcases O1.out.2 with ⟨e, h0'⟩ | ⟨g, cap, cur, e, hb, hh, hnc, hcm6, hcs, htk⟩
    · omega
    · injection e with e1 e2 e3
      subst e1 e3
      have HI : Hid (DI w base g n c p bs k (k + 1) w1) := Lib.hid ⟨bs, HN.out, by omega, by omega, by
        rw [List.take_succ_eq_append_getElem k1, List.filter_append, k2]
        have : (bs.take k).filter p = bs.take k := List.filter_eq_self.2 (fun y hy => by
          obtain ⟨j, hj⟩ := List.getElem?_of_mem hy
          rw [List.getElem?_take] at hj
          split at hj
          · exact hlt0 j y (by assumption) hj
          · cases hj)
        rw [this]; simp [hp0], rfl, O1.out, only_of_none G1.out _⟩
      have hbg := hb
      have k3 : ((k : Int) == -1) = false := by rw [beq_eq_false_iff_ne]; omega
      have k4 : IntKind.i64.wrap ((k : Int) + 1) = ((k + 1 : Nat) : Int) := by push_cast; exact IntWalk.i64_in _ (by omega)
      obtain ⟨m, hm⟩ : ∃ m, m = k + 1 := ⟨_, rfl⟩
      rw [← hm] at HI k4
      have HM := Lib.hid hm
      clear hx0 hp0 hlt0 hh hcs htk hnc hcm6 hb O1 k1 k2 hm
      go_wp2_with fail
      go_loopw [5, 6] (fun vi vj wr => ∃ i j : Nat, vi = .int .i64 i ∧ vj = .int .i64 j ∧ DI w base g n c p bs i j wr) (fun _ vj _ => n - (intOf vj).toNat)
      case atStart => exact ⟨k, m, rfl, rfl, HI.out⟩
      case round =>
        obtain ⟨i, j, rfl, rfl, hD⟩ := hrel
        have HD := Lib.hid hD
        have hij : i < j ∧ j ≤ n := by obtain ⟨L, -, h2, h3, -⟩ := hD; exact ⟨h2, h3⟩
        have hgl : g < wr.heap.size := by obtain ⟨L, -, -, -, -, -, h6, -⟩ := hD; exact (h6.lt g rfl).2
        clear hD HI k3 k4
        by_cases hjn : j < n
        · obtain ⟨x, hx⟩ : ∃ x, bs[j]? = some x := ⟨_, List.getElem?_eq_getElem (by have := HN.out; omega)⟩
          obtain ⟨d0, d1, d2⟩ := HD.out.at_ hx hjn
          have HX := Lib.hid hx
          have i1 : (j : Int) < (n : Int) := by omega
          have i2 : (0 : Int) ≤ (j : Int) := by omega
          have i3 : (i : Int) < (n : Int) := by omega
          have i4 : (0 : Int) ≤ (i : Int) := by omega
          obtain ⟨W2, hW2⟩ : ∃ W, W = wr.alloc (.cells #[.int .i64 x.id, .int .i64 x.tier, .slice x.A x.data.length x.c] 59) := ⟨_, rfl⟩
          obtain ⟨vb, hvb⟩ : ∃ b, b = wr.heap.size := ⟨_, rfl⟩
          have G2 : Hid (wr.grownBy W2 none) := Lib.hid (by rw [hW2]; exact only_alloc (only_refl _ _) _)
          have B2 : Hid (Blk W2 vb 59 x.cells.toArray) := Lib.hid (by rw [hW2, hvb]; exact Blk.new wr _ _)
          have KP := Lib.hid (HP.out x W2 (List.mem_of_getElem? hx) (only_trans (by obtain ⟨L, -, -, -, -, -, -, h7⟩ := HD.out; exact h7) (only_of_none G2.out _)))
          have HW2 := Lib.hid hW2.symm
          have HVB := Lib.hid hvb.symm
          clear hx hW2 hvb
          go_upto_region 8 with fail
          rw [HW2.out, HVB.out]
          clear HW2 HVB d0 d1 d2
          have y0 := B2.out.cell 0
          have y1 := B2.out.cell 1
          have y2 := B2.out.cell 2
          simp [BlobD.cells] at y0 y1 y2
          obtain ⟨B, hB⟩ : ∃ B : Bool, B = p x := ⟨_, rfl⟩
          rw [← hB] at KP
          have HB := Lib.hid hB
          clear hB
          cases B with
          | true =>
            go_wp2_with fail
            refine KP.out.mono ?_
            rintro e w4 ⟨rfl, hg4⟩
            have G4 := Lib.hid (only_trans G2.out hg4)
            have B4 := B2.out.grown hg4 (by simp)
            clear y0 y1 y2 KP hg4 G2
            have y0 := B4.cell 0
            have y1 := B4.cell 1
            have y2 := B4.cell 2
            simp [BlobD.cells] at y0 y1 y2
            obtain ⟨⟨v0, s0⟩, f0, ⟨v1, s1⟩, f1, ⟨v2, s2⟩, f2⟩ := HD.out.mid x G4.out
            have HK := Lib.hid (HD.out.keep G4.out HX.out hjn HB.out.symm)
            have k5 : IntKind.i64.wrap ((i : Int) + 1) = ((i + 1 : Nat) : Int) := by push_cast; exact IntWalk.i64_in _ (by omega)
            have k6 : IntKind.i64.wrap ((j : Int) + 1) = ((j + 1 : Nat) : Int) := by push_cast; exact IntWalk.i64_in _ (by omega)
            obtain ⟨i', hi'⟩ : ∃ i', i' = i + 1 := ⟨_, rfl⟩
            obtain ⟨j', hj'⟩ : ∃ j', j' = j + 1 := ⟨_, rfl⟩
            rw [← hi'] at k5 HK
            rw [← hj'] at k6 HK
            have HJ := Lib.hid hj'
            clear B4 hi' hj'
            go_wp2_with fail
            go_roundw
            case rel => exact ⟨i', j', rfl, rfl, HK.out⟩
            case measure => have := HJ.out; simp [intOf]; omega
          | false =>
            go_wp2_with fail
            refine KP.out.mono ?_
            rintro e w4 ⟨rfl, hg4⟩
            have HK := Lib.hid (HD.out.skip (only_trans G2.out hg4) HX.out hjn HB.out.symm)
            have k6 : IntKind.i64.wrap ((j : Int) + 1) = ((j + 1 : Nat) : Int) := by push_cast; exact IntWalk.i64_in _ (by omega)
            obtain ⟨j', hj'⟩ : ∃ j', j' = j + 1 := ⟨_, rfl⟩
            rw [← hj'] at k6 HK
            have HJ := Lib.hid hj'
            clear y0 y1 y2 KP hg4 G2 B2 hj'
            go_wp2_with fail
            go_roundw
            case rel => exact ⟨i, j', rfl, rfl, HK.out⟩
            case measure => have := HJ.out; simp [intOf]; omega
        · have i1 : ¬ ((j : Int) < (n : Int)) := by omega
          obtain ⟨L, l1, l2, l3, l4, l5, l6, l7⟩ := HD.out
          have hjn' : j = n := by omega
          have hfl : L.take i = bs.filter p := by rw [l4, List.take_of_length_le (by have := HN.out; omega)]
          have hfn : (bs.filter p).length = i := by rw [← hfl, List.length_take]; omega
          rcases l6.2 with ⟨e, h0'⟩ | ⟨g', cap, cur, e, hb, hh, hnc, hcm6, hcs, htk⟩
          · cases e
          · injection e with e1 e2 e3
            injection e1 with e1
            injection e1 with e1
            subst e1 e3
            obtain ⟨zs, hzl, hclr⟩ := run_clearN (P := Tryz.prog) wr 24 59 _ Tryz.underlying24 zeroBlob g (i * 3) (n - i) (by omega) cur 59 hh (by rw [hcs]; show i * 3 + (n - i) * 3 ≤ c * 3; omega) (by simp [Value.cells, Value.oneCell'])
            obtain ⟨W9, hW9⟩ : ∃ W, W = wr.setRow g (cur.toList.take (i * 3) ++ zs ++ cur.toList.drop (i * 3 + zs.length)).toArray := ⟨_, rfl⟩
            have hclr2 : ∀ ty c2, (Builtin.clear_ #[24] ty #[.slice (some ⟨g, i * 3, none⟩) (n - i) c2]).run Tryz.prog wr = .ok (.tuple #[]) W9 := fun ty c2 => by rw [hW9]; exact hclr ty c2
            have hzl3 : zs.length = (n - i) * 3 := hzl
            have hO9 : W9.ownsRow base 59 3 (.slice (some ⟨g, 0, none⟩) i c) i ((bs.filter p).flatMap BlobD.cells) := by
              rw [hW9]
              refine own_setRow hh hb (by omega) hcm6 ?_ (by rw [flat_len _ 3 BlobD.cells_len, hfn]) ?_
              · simp only [List.size_toArray, List.length_append, List.length_take, List.length_drop, hzl3, Array.length_toList, hcs]; omega
              · simp only [List.append_assoc]
                rw [List.take_left' (by rw [List.length_take, Array.length_toList, hcs]; omega), ← hfl]
                have : cur.toList.take (i * 3) = ((cur.toList.take (n * 3)).take (i * 3)) := by rw [List.take_take, Nat.min_eq_left (by omega)]
                rw [this, htk, flat_take BlobD.cells_len]
            have hG9 : w.grownBy W9 (some g) := by rw [hW9]; exact only_trans l7 (grown_setRow _ _ _)
            have HO9 := Lib.hid hO9
            have HG9 := Lib.hid hG9
            have HFN := Lib.hid hfn
            have j3 : (0 : Int) ≤ (i : Int) := by omega
            have j4 : (i : Int) ≤ (n : Int) := by omega
            have j5 : (n : Int) ≤ (c : Int) := by omega
            have j6 : (i : Int) ≤ (c : Int) := by omega
            have j7 : ¬ (c = i) := by omega
            clear hO9 hG9 hfn hfl hW9 hclr hzl hzl3 hh hb hnc hcm6 hcs htk l1 l2 l3 l4 l5 l6 l7 hjn' HD
            go_wp2_with fail
            go_ret
            obtain ⟨A8, c8, e8, hc8, hm8, -, hr8⟩ := Rd.of_own HO9.out (by decide)
            injection e8 with e81 e82 e83
            subst e81 e83
            have hfn := HFN.out
            exact ⟨some ⟨g, 0, none⟩, c, by rw [hfn]; rfl, by rw [hfn]; exact hc8, hm8, (by simp), hr8, HG9.out⟩
set_option maxHeartbeats 2000000 in
set_option maxRecDepth 100000 in
theorem pclean_any {S S3 : Nat → Prop} (A : Option Addr) (bs : List BlobD) (c : Nat) (num nid jn : Int) (A2 : Option Addr) (ss : List SegD) (c2 : Nat) (w : World) (hr : Rd S w A (bs.flatMap BlobD.cells)) (hl : bs.length ≤ 1000) (hr2 : Rd S3 w A2 (ss.flatMap SegD.cells)) (hl2 : ss.length ≤ 100000) :
    Calls Tryz.prog 9 #[.slice A bs.length c, .agg #[.int .i64 num, .int .i64 nid, .int .i64 jn, .slice A2 ss.length c2, .slice none 0 0, .slice none 0 0, .slice none 0 0]] w (ClPost w (cleanB ss bs)) := by
  obtain ⟨mb, hmb⟩ : ∃ b, b = w.heap.size := ⟨_, rfl⟩
  obtain ⟨W1, hW1⟩ : ∃ W, W = w.alloc (.cells #[.int .i64 num, .int .i64 nid, .int .i64 jn, .slice A2 ss.length c2, .slice none 0 0, .slice none 0 0, .slice none 0 0] 31) := ⟨_, rfl⟩
  have G1 : Hid (w.grownBy W1 none) := Lib.hid (by rw [hW1]; exact only_alloc (only_refl _ _) _)
  have B1 : Hid (Blk W1 mb 31 #[.int .i64 num, .int .i64 nid, .int .i64 jn, .slice A2 ss.length c2, .slice none 0 0, .slice none 0 0, .slice none 0 0]) := Lib.hid (by rw [hW1, hmb]; exact Blk.new w _ _)
  have S1 := Lib.hid ((hr2.mono (S' := (· < w.heap.size)) (fun b _ hb => hb)).grown G1.out (by simp))
  have KC := Lib.hid (cloneBl_any A bs.length c (bs.flatMap BlobD.cells) W1 (hr.grown G1.out (by simp)) (flat_len _ 3 BlobD.cells_len bs) (by omega) (flat_one BlobD.one _) (fun e => by have := hr; rw [e] at this; exact rd_none this))
  have HW := Lib.hid hW1.symm
  have HMB := Lib.hid hmb
  have hs1 := G1.out.size
  clear hW1 hmb hr hr2
  go_enter Tryz.func9, Tryz.ntmps9
  go_upto_region 1 with fail
  rw [HW.out, ← HMB.out]
  clear HW
  go_wp2_with fail
  refine KC.out.mono ?_
  rintro e w2 ⟨A7, c7, rfl, ho, hg2⟩
  have G2 := Lib.hid (only_trans G1.out hg2)
  have B2 := Lib.hid (B1.out.grown hg2 (by simp))
  have S2 := Lib.hid (S1.out.grown hg2 (by simp))
  have O2 := Lib.hid ho
  have hml : mb < W1.heap.size := B1.out.lt
  have KD := Lib.hid (delfunc_any (inM ss) mb W1.heap.size bs.length A7 bs c7 w2 rfl ho (by omega) (fun x W hx hW => clean1_any num nid jn A2 ss c2 x mb W (B2.out.grown hW (fun e => blk_norow B2.out ho (by decide) e.symm)) (S2.out.grown hW (fun b hb e => by
    have := (ho.lt b e.symm).1; omega)) hl2))
  have hs2 := hg2.size
  clear ho hg2 KC
  go_wp2_with fail
  refine KD.out.mono ?_
  rintro e w3 ⟨A3, c3, rfl, z1, z2, z3, z4, hg3⟩
  have Z := Lib.hid (z4.mono (S' := (w.heap.size ≤ ·)) (fun b hb _ => Nat.le_trans hs1 hb))
  have G3 := Lib.hid (only_own G2.out hg3 O2.out hs1)
  clear z4 hg3
  go_wp2_with fail
  go_ret
  exact ⟨A3, c3, rfl, z1, z2, z3, Z.out, G3.out⟩
set_option maxHeartbeats 4000000 in
set_option maxRecDepth 100000 in
theorem rclean_any {S S3 : Nat → Prop} (A : Option Addr) (bs : List BlobD) (c : Nat) (num nid jn : Int) (A2 : Option Addr) (ss : List SegD) (c2 : Nat) (w : World) (hr : Rd S w A (bs.flatMap BlobD.cells)) (hl : bs.length ≤ 1000) (hr2 : Rd S3 w A2 (ss.flatMap SegD.cells)) (hl2 : ss.length ≤ 100000) :
    Calls Tryz.prog 10 #[.slice A bs.length c, .agg #[.int .i64 num, .int .i64 nid, .int .i64 jn, .slice A2 ss.length c2, .slice none 0 0, .slice none 0 0, .slice none 0 0]] w (ClPost w (cleanB ss bs)) := by
  obtain ⟨mb, hmb⟩ : ∃ b, b = w.heap.size := ⟨_, rfl⟩
  obtain ⟨W1, hW1⟩ : ∃ W, W = w.alloc (.cells #[.int .i64 num, .int .i64 nid, .int .i64 jn, .slice A2 ss.length c2, .slice none 0 0, .slice none 0 0, .slice none 0 0] 31) := ⟨_, rfl⟩
  have G1 : Hid (w.grownBy W1 none) := Lib.hid (by rw [hW1]; exact only_alloc (only_refl _ _) _)
  have B1 : Hid (Blk W1 mb 31 #[.int .i64 num, .int .i64 nid, .int .i64 jn, .slice A2 ss.length c2, .slice none 0 0, .slice none 0 0, .slice none 0 0]) := Lib.hid (by rw [hW1, hmb]; exact Blk.new w _ _)
  have HR := Lib.hid ((hr.mono (S' := (· < w.heap.size)) (fun b _ hb => hb)).grown G1.out (by simp))
  have KF := Lib.hid (fun (id : Int) (W : World) (hW : w.grownBy W none) => rfind_any num nid jn A2 ss c2 none 0 0 none 0 0 none 0 0 id W (hr2.grown hW (by simp)) hl2)
  have HW := Lib.hid hW1.symm
  have HMB := Lib.hid hmb
  have hs1 : w.heap.size + 1 = W1.heap.size := by rw [hW1]; simp
  have hml := B1.out.lt
  clear hW1 hmb hr hr2
  go_enter Tryz.func10, Tryz.ntmps10
  go_upto_region 1 with fail
  rw [HW.out, ← HMB.out]
  clear HW
  go_wp2_with fail
  go_loopw [6, 5] (fun vi vo wr => ∃ (k : Nat) (A7 : Option Addr) (c7 : Nat), vi = .int .i64 k ∧ vo = .slice A7 (cleanB ss (bs.take k)).length c7 ∧ k ≤ bs.length ∧ wr.ownsRow W1.heap.size 59 3 (.slice A7 (cleanB ss (bs.take k)).length c7) (cleanB ss (bs.take k)).length ((cleanB ss (bs.take k)).flatMap BlobD.cells) ∧ W1.grownBy wr none) (fun vi _ _ => bs.length - (intOf vi).toNat)
  case atStart => exact ⟨0, none, 0, rfl, rfl, Nat.zero_le _, World.ownsRow_nil _ _ _ _, only_refl _ _⟩
  case round =>
    obtain ⟨k, A7, c7, rfl, rfl, hk, hO, hG⟩ := hrel
    have HO := Lib.hid hO
    have G := Lib.hid hG
    obtain ⟨l, hl7⟩ : ∃ l, l = cleanB ss (bs.take k) := ⟨_, rfl⟩
    rw [← hl7] at HO ⊢
    have HL7 := Lib.hid hl7
    clear hO hG hl7
    by_cases hkb : k < bs.length
    · obtain ⟨x, hx⟩ : ∃ x, bs[k]? = some x := ⟨_, List.getElem?_eq_getElem hkb⟩
      have HX := Lib.hid hx
      have hll : l.length ≤ 1000 := by have := cleanB_len ss (bs.take k); rw [← HL7.out, List.length_take] at this; omega
      obtain ⟨b, o, rfl, -, hbo1, -⟩ := HR.out (by rw [flat_len _ 3 BlobD.cells_len]; omega)
      have HRW := Lib.hid (HR.out.grown G.out (by simp))
      have d0 : wr.cell? ⟨b, o + k * 3, none⟩ = some (.int .i64 x.id) := HRW.out.flatAt BlobD.cells_len hx 0 (by omega)
      have hkl : (k : Int) < (bs.length : Int) := by omega
      have hk0 : (0 : Int) ≤ (k : Int) := by omega
      have GX := Lib.hid (only_trans G1.out G.out)
      have HBM := Lib.hid (B1.out.grown G.out (by simp))
      have hbo : b < wr.heap.size := by have := G.out.size; omega
      have hw1r := G.out.size
      clear hx
      cases hF : segF ss x.id with
      | none =>
        have KX : Hid (∀ W, w.grownBy W none → Calls Tryz.prog 31 #[.agg #[.int .i64 num, .int .i64 nid, .int .i64 jn, .slice A2 ss.length c2, .slice none 0 0, .slice none 0 0, .slice none 0 0], .int .i64 x.id] W (RetExtM (.tuple #[.agg #[.int .i64 0, .int .i64 0, .int .i64 0, .int .i64 0, .int .i64 0, .int .i64 0, .int .i64 0], .bool false]) W)) := Lib.hid (fun W hW => (KF.out x.id W hW).mono fun e w' he => find_none hF he)
        have HV := Lib.hid (inM_no hF)
        clear hF KF
        obtain ⟨W0, rfl⟩ : ∃ W0 : World, W0 = wr := ⟨_, rfl⟩
        go_upto_region 5 with fail
        refine wp_region_gen 12 (JC [some (.agg #[.int .i64 num, .int .i64 nid, .int .i64 jn, .slice A2 ss.length c2, .slice none 0 0, .slice none 0 0, .slice none 0 0]), some (.slice (some ⟨b, o, none⟩) bs.length c), some (.int .i64 ((k : Int))), some (.pointer (some ⟨b, o + k * 3, none⟩)), some (.pointer (some ⟨b, o + k * 3, none⟩)), some (.int .i64 (x.id)), some (.tuple #[.agg #[.int .i64 0, .int .i64 0, .int .i64 0, .int .i64 0, .int .i64 0, .int .i64 0, .int .i64 0], .bool false]), some (.tuple #[.agg #[.int .i64 0, .int .i64 0, .int .i64 0, .int .i64 0, .int .i64 0, .int .i64 0, .int .i64 0], .bool false]), some (.agg #[.int .i64 0, .int .i64 0, .int .i64 0, .int .i64 0, .int .i64 0, .int .i64 0, .int .i64 0]), some (.bool false), none, none] (fun D u wx => W0.grownBy wx none ∧ (D 10 = true → ∃ gb, u 10 = .pointer (some ⟨gb, 0, none⟩) ∧ W0.heap.size ≤ gb ∧ Blk wx gb 54 (if D 11 = true then #[.int .i64 0, .int .i64 0, .int .i64 0, .int .i64 0, .int .i64 0, .int .i64 0, .int .i64 0] else #[.int .i64 0, .int .i64 0, .int .i64 0, .int .i64 0, .int .i64 0, .int .i64 0, .int .i64 0])) ∧ (D 11 = true → D 10 = true))) (by kernel_rfl) (by kernel_rfl) ?_ ?_ ?_
        · intro u
          exact ⟨(fun j c _ h => by cases h), ⟨only_drew (only_refl _ _), (fun h => by cases h), fun h => by cases h⟩⟩
        · intro AA hA
          have hasz : AA.tmps.size = 44 := by rw [hA]; kernel_rfl
          have ea0 : AA.eval (.tmp 0) = .slice (some ⟨b, o, none⟩) bs.length c := by rw [hA]; kernel_rfl
          have ea3 : AA.eval (.tmp 3) = .pointer (some ⟨mb, 0, none⟩) := by rw [hA]; kernel_rfl
          have ea6 : AA.eval (.tmp 6) = .int .i64 ((k : Int)) := by rw [hA]; kernel_rfl
          clear hA
          simp only [List.take_succ_cons, List.take_zero]
          refine .cons ?_ (.cons ?_ (.cons ?_ (.cons ?_ (.cons ?_ (.cons ?_ (.cons ?_ (.cons ?_ (.cons ?_ (.cons ?_ (.cons ?_ (.cons ?_ (.nil))))))))))))
          · exact gd_gen (by kernel_rfl) (Want.none_ rfl) rfl (fun D u w v h => by simpa [updB, upd] using h) (fun D u ρ w kn => by
              have e0 := kn.own 3 (c := .pointer (some ⟨mb, 0, none⟩)) (by kernel_rfl) ea3
              exact run_load ρ w rfl e0 (load_mani w mb (HBM.out.grown kn.ext.1 (by simp))))
          · exact gd_gen (by kernel_rfl) (Want.none_ rfl) rfl (fun D u w v h => by simpa [updB, upd] using h) (fun D u ρ w kn => by
              have e0 := kn.own 0 (c := .slice (some ⟨b, o, none⟩) bs.length c) (by kernel_rfl) ea0
              simp [execOp, kn.rho.con, e0, go_sem])
          · exact gd_gen (by kernel_rfl) (Want.none_ rfl) rfl (fun D u w v h => by simpa [updB, upd] using h) (fun D u ρ w kn => by
              have e0 := kn.own 6 (c := .int .i64 ((k : Int))) (by kernel_rfl) ea6
              simp [execOp, kn.rho.con, e0, go_sem])
          · exact gd_gen (by kernel_rfl) (Want.none_ rfl) rfl (fun D u w v h => by simpa [updB, upd] using h) (fun D u ρ w kn => by
              have e0 := kn.con 1 17 (c := .slice (some ⟨b, o, none⟩) bs.length c) (by kernel_rfl) (by omega) (by kernel_rfl) rfl
              have e1 := kn.con 2 18 (c := .int .i64 ((k : Int))) (by kernel_rfl) (by omega) (by kernel_rfl) rfl
              simp [execOp, kn.rho.con, e0, e1, go_sem, hkl])
          · exact gd_gen (by kernel_rfl) (Want.none_ rfl) rfl (fun D u w v h => by simpa [updB, upd] using h) (fun D u ρ w kn => by
              have e0 := kn.con 3 19 (c := .pointer (some ⟨b, o + k * 3, none⟩)) (by kernel_rfl) (by omega) (by kernel_rfl) rfl
              simp [execOp, kn.rho.con, e0, go_sem])
          · exact gd_gen (by kernel_rfl) (Want.none_ rfl) rfl (fun D u w v h => by simpa [updB, upd] using h) (fun D u ρ w kn => by
              have e0 := kn.con 4 20 (c := .pointer (some ⟨b, o + k * 3, none⟩)) (by kernel_rfl) (by omega) (by kernel_rfl) rfl
              have f0 := ((World.cell?_of_block (w := W0) (a := ⟨b, o + k * 3, none⟩) (kn.ext.1.block b hbo (by simp))).trans d0)
              simp [execOp, kn.rho.con, e0, f0, go_sem])
          · refine gd_call (by kernel_rfl) (Want.none_ rfl) 31 (fun D u ρ wx kn hD => ?_)
            have e0 := kn.con 0 16 (c := .agg #[.int .i64 num, .int .i64 nid, .int .i64 jn, .slice A2 ss.length c2, .slice none 0 0, .slice none 0 0, .slice none 0 0]) (by kernel_rfl) (by omega) (by kernel_rfl) rfl
            have e1 := kn.con 5 21 (c := .int .i64 x.id) (by kernel_rfl) (by omega) (by kernel_rfl) rfl
            obtain ⟨x1, x2, x3⟩ := kn.ext
            refine ⟨#[.agg #[.int .i64 num, .int .i64 nid, .int .i64 jn, .slice A2 ss.length c2, .slice none 0 0, .slice none 0 0, .slice none 0 0], .int .i64 x.id], ?_, (KX.out wx (only_trans GX.out x1)).mono ?_⟩
            · simp only [execOp, resolve, Deferred.ofValue, List.map_toArray, List.map_cons, List.map_nil, e0, e1, kn.rho.con, kn.rho.fn]
              simp [go_sem]
            · rintro e w' ⟨rfl, hg⟩
              exact ⟨_, rfl, (fun c h => by injection h with h; injection h), only_trans x1 hg, (fun h => by rw [updB_ne D (show (10 : Nat) ≠ 6 by omega)] at h; rw [upd_ne u _ (show (10 : Nat) ≠ 6 by omega)]; obtain ⟨gb, q1, q2, q3⟩ := x2 h; rw [updB_ne D (show (11 : Nat) ≠ 6 by omega)]; exact ⟨gb, q1, q2, q3.grown hg (by simp)⟩), (fun h => by rw [updB_ne D (show (11 : Nat) ≠ 6 by omega)] at h; rw [updB_ne D (show (10 : Nat) ≠ 6 by omega)]; exact x3 h)⟩
          · exact gd_gen (by kernel_rfl) (Want.none_ rfl) rfl (fun D u w v h => by simpa [updB, upd] using h) (fun D u ρ w kn => by
              have e0 := kn.con 6 22 (c := .tuple #[.agg #[.int .i64 0, .int .i64 0, .int .i64 0, .int .i64 0, .int .i64 0, .int .i64 0, .int .i64 0], .bool false]) (by kernel_rfl) (by omega) (by kernel_rfl) rfl
              simp [execOp, kn.rho.con, e0, go_sem])
          · exact gd_gen (by kernel_rfl) (Want.none_ rfl) rfl (fun D u w v h => by simpa [updB, upd] using h) (fun D u ρ w kn => by
              have e0 := kn.con 7 15 (c := .tuple #[.agg #[.int .i64 0, .int .i64 0, .int .i64 0, .int .i64 0, .int .i64 0, .int .i64 0, .int .i64 0], .bool false]) (by kernel_rfl) (by omega) (by kernel_rfl) rfl
              simp [execOp, kn.rho.con, e0, go_sem])
          · exact gd_gen (by kernel_rfl) (Want.none_ rfl) rfl (fun D u w v h => by simpa [updB, upd] using h) (fun D u ρ w kn => by
              have e0 := kn.con 7 15 (c := .tuple #[.agg #[.int .i64 0, .int .i64 0, .int .i64 0, .int .i64 0, .int .i64 0, .int .i64 0, .int .i64 0], .bool false]) (by kernel_rfl) (by omega) (by kernel_rfl) rfl
              simp [execOp, kn.rho.con, e0, go_sem])
          · refine gd_eff (by kernel_rfl) (Want.none_ rfl) (fun D u ρ wx kn hD => ?_)
            obtain ⟨x1, x2, x3⟩ := kn.ext
            have h11 : D 11 = false := by cases h : D 11 with | false => rfl | true => have := x3 h; rw [hD] at this; cases this
            exact ⟨.pointer (some ⟨wx.heap.size, 0, none⟩), wx.alloc (.cells #[.int .i64 0, .int .i64 0, .int .i64 0, .int .i64 0, .int .i64 0, .int .i64 0, .int .i64 0] 54), alloc_seg ρ wx, (fun c h => by cases h), only_alloc x1 _, (fun _ => ⟨wx.heap.size, upd_at _ _ _, x1.size, by rw [updB_ne D (show (11 : Nat) ≠ 10 by omega), h11, if_neg (by simp)]; exact Blk.new _ _ _⟩), (fun h => by rw [updB_ne D (show (11 : Nat) ≠ 10 by omega), h11] at h; cases h)⟩
          · refine gd_skip (by kernel_rfl) (Want.none_ rfl) rfl (fun D u ρ wx kn hD => ?_)
            have e0 := kn.slot 10 7 (by kernel_rfl) (by omega)
            have e1 := kn.con 8 23 (c := .agg #[.int .i64 0, .int .i64 0, .int .i64 0, .int .i64 0, .int .i64 0, .int .i64 0, .int .i64 0]) (by kernel_rfl) (by omega) (by kernel_rfl) rfl
            have d10 := kn.dep 10 (by kernel_rfl)
            obtain ⟨x1, x2, x3⟩ := kn.ext
            obtain ⟨gb, q1, q2, q3⟩ := x2 d10
            rw [hD, if_neg (by simp)] at q3
            obtain ⟨w', z1, z2, z3⟩ := store_seg wx gb (0) (0) (0) (0) (0) (0) (0) q3
            rw [q1] at e0
            exact ⟨w', by simp only [execOp, e0, e1, Sem.run_bind, z1, Result.andThen_ok, Sem.run_pure], only_fresh x1 z3 q2, (fun _ => ⟨gb, by rw [upd_ne u _ (show (10 : Nat) ≠ 11 by omega)]; exact q1, q2, by rw [updB_at, if_pos rfl]; exact z2⟩), (fun _ => by rw [updB_ne D (show (10 : Nat) ≠ 11 by omega)]; exact d10)⟩
        · intro D u w9 hJ hD
          obtain ⟨hcn, x1, x2, -⟩ := hJ
          obtain ⟨gb, hu, hgb, hB⟩ := x2 (hD 10 (by omega))
          rw [hD 11 (by omega), if_pos rfl] at hB
          have e9 : u 9 = .bool false := hcn 9 _ rfl (hD 9 (by omega))
          simp only [List.take_succ_cons, List.take_zero, List.drop_succ_cons, List.drop_zero, putAll]
          rw [hu, e9]
          have G9 := Lib.hid x1
          have HQ := Lib.hid hB
          clear hcn x1 x2 hu e9 hD hB d0
          have HC : Hid (cleanB ss (bs.take (k + 1)) = l) := Lib.hid (by rw [cleanB_take HX.out, HV.out, HL7.out]; simp)
          go_simp
          go_wp2_with fail
          go_quiet (fail)
          have GW := Lib.hid (only_drewN G9.out nq)
          have GR := Lib.hid (only_trans G.out GW.out)
          go_wp2_with fail
          go_roundw
          case rel =>
            refine ⟨k + 1, A7, c7, by go_num, ?_, by omega, ?_, GR.out⟩
            · rw [HC.out]
            · rw [HC.out]; exact own_ext HO.out GW.out
          case measure => simp [intOf]; omega
      | some s =>
        have KX : Hid (∀ W, w.grownBy W none → Calls Tryz.prog 31 #[.agg #[.int .i64 num, .int .i64 nid, .int .i64 jn, .slice A2 ss.length c2, .slice none 0 0, .slice none 0 0, .slice none 0 0], .int .i64 x.id] W (RetExtM (.tuple #[.agg #[.int .i64 s.id, .int .i64 s.level, .int .i64 s.tier, .int .i64 s.count, .int .i64 s.min, .int .i64 s.max, .int .i64 s.size], .bool true]) W)) := Lib.hid (fun W hW => (KF.out x.id W hW).mono fun e w' he => find_some hF he)
        have HV := Lib.hid (inM_yes hF)
        clear hF KF
        obtain ⟨W0, rfl⟩ : ∃ W0 : World, W0 = wr := ⟨_, rfl⟩
        go_upto_region 5 with fail
        refine wp_region_gen 12 (JC [some (.agg #[.int .i64 num, .int .i64 nid, .int .i64 jn, .slice A2 ss.length c2, .slice none 0 0, .slice none 0 0, .slice none 0 0]), some (.slice (some ⟨b, o, none⟩) bs.length c), some (.int .i64 ((k : Int))), some (.pointer (some ⟨b, o + k * 3, none⟩)), some (.pointer (some ⟨b, o + k * 3, none⟩)), some (.int .i64 (x.id)), some (.tuple #[.agg #[.int .i64 s.id, .int .i64 s.level, .int .i64 s.tier, .int .i64 s.count, .int .i64 s.min, .int .i64 s.max, .int .i64 s.size], .bool true]), some (.tuple #[.agg #[.int .i64 s.id, .int .i64 s.level, .int .i64 s.tier, .int .i64 s.count, .int .i64 s.min, .int .i64 s.max, .int .i64 s.size], .bool true]), some (.agg #[.int .i64 s.id, .int .i64 s.level, .int .i64 s.tier, .int .i64 s.count, .int .i64 s.min, .int .i64 s.max, .int .i64 s.size]), some (.bool true), none, none] (fun D u wx => W0.grownBy wx none ∧ (D 10 = true → ∃ gb, u 10 = .pointer (some ⟨gb, 0, none⟩) ∧ W0.heap.size ≤ gb ∧ Blk wx gb 54 (if D 11 = true then #[.int .i64 s.id, .int .i64 s.level, .int .i64 s.tier, .int .i64 s.count, .int .i64 s.min, .int .i64 s.max, .int .i64 s.size] else #[.int .i64 0, .int .i64 0, .int .i64 0, .int .i64 0, .int .i64 0, .int .i64 0, .int .i64 0])) ∧ (D 11 = true → D 10 = true))) (by kernel_rfl) (by kernel_rfl) ?_ ?_ ?_
        · intro u
          exact ⟨(fun j c _ h => by cases h), ⟨only_drew (only_refl _ _), (fun h => by cases h), fun h => by cases h⟩⟩
        · intro AA hA
          have hasz : AA.tmps.size = 44 := by rw [hA]; kernel_rfl
          have ea0 : AA.eval (.tmp 0) = .slice (some ⟨b, o, none⟩) bs.length c := by rw [hA]; kernel_rfl
          have ea3 : AA.eval (.tmp 3) = .pointer (some ⟨mb, 0, none⟩) := by rw [hA]; kernel_rfl
          have ea6 : AA.eval (.tmp 6) = .int .i64 ((k : Int)) := by rw [hA]; kernel_rfl
          clear hA
          simp only [List.take_succ_cons, List.take_zero]
          refine .cons ?_ (.cons ?_ (.cons ?_ (.cons ?_ (.cons ?_ (.cons ?_ (.cons ?_ (.cons ?_ (.cons ?_ (.cons ?_ (.cons ?_ (.cons ?_ (.nil))))))))))))
          · exact gd_gen (by kernel_rfl) (Want.none_ rfl) rfl (fun D u w v h => by simpa [updB, upd] using h) (fun D u ρ w kn => by
              have e0 := kn.own 3 (c := .pointer (some ⟨mb, 0, none⟩)) (by kernel_rfl) ea3
              exact run_load ρ w rfl e0 (load_mani w mb (HBM.out.grown kn.ext.1 (by simp))))
          · exact gd_gen (by kernel_rfl) (Want.none_ rfl) rfl (fun D u w v h => by simpa [updB, upd] using h) (fun D u ρ w kn => by
              have e0 := kn.own 0 (c := .slice (some ⟨b, o, none⟩) bs.length c) (by kernel_rfl) ea0
              simp [execOp, kn.rho.con, e0, go_sem])
          · exact gd_gen (by kernel_rfl) (Want.none_ rfl) rfl (fun D u w v h => by simpa [updB, upd] using h) (fun D u ρ w kn => by
              have e0 := kn.own 6 (c := .int .i64 ((k : Int))) (by kernel_rfl) ea6
              simp [execOp, kn.rho.con, e0, go_sem])
          · exact gd_gen (by kernel_rfl) (Want.none_ rfl) rfl (fun D u w v h => by simpa [updB, upd] using h) (fun D u ρ w kn => by
              have e0 := kn.con 1 17 (c := .slice (some ⟨b, o, none⟩) bs.length c) (by kernel_rfl) (by omega) (by kernel_rfl) rfl
              have e1 := kn.con 2 18 (c := .int .i64 ((k : Int))) (by kernel_rfl) (by omega) (by kernel_rfl) rfl
              simp [execOp, kn.rho.con, e0, e1, go_sem, hkl])
          · exact gd_gen (by kernel_rfl) (Want.none_ rfl) rfl (fun D u w v h => by simpa [updB, upd] using h) (fun D u ρ w kn => by
              have e0 := kn.con 3 19 (c := .pointer (some ⟨b, o + k * 3, none⟩)) (by kernel_rfl) (by omega) (by kernel_rfl) rfl
              simp [execOp, kn.rho.con, e0, go_sem])
          · exact gd_gen (by kernel_rfl) (Want.none_ rfl) rfl (fun D u w v h => by simpa [updB, upd] using h) (fun D u ρ w kn => by
              have e0 := kn.con 4 20 (c := .pointer (some ⟨b, o + k * 3, none⟩)) (by kernel_rfl) (by omega) (by kernel_rfl) rfl
              have f0 := ((World.cell?_of_block (w := W0) (a := ⟨b, o + k * 3, none⟩) (kn.ext.1.block b hbo (by simp))).trans d0)
              simp [execOp, kn.rho.con, e0, f0, go_sem])
          · refine gd_call (by kernel_rfl) (Want.none_ rfl) 31 (fun D u ρ wx kn hD => ?_)
            have e0 := kn.con 0 16 (c := .agg #[.int .i64 num, .int .i64 nid, .int .i64 jn, .slice A2 ss.length c2, .slice none 0 0, .slice none 0 0, .slice none 0 0]) (by kernel_rfl) (by omega) (by kernel_rfl) rfl
            have e1 := kn.con 5 21 (c := .int .i64 x.id) (by kernel_rfl) (by omega) (by kernel_rfl) rfl
            obtain ⟨x1, x2, x3⟩ := kn.ext
            refine ⟨#[.agg #[.int .i64 num, .int .i64 nid, .int .i64 jn, .slice A2 ss.length c2, .slice none 0 0, .slice none 0 0, .slice none 0 0], .int .i64 x.id], ?_, (KX.out wx (only_trans GX.out x1)).mono ?_⟩
            · simp only [execOp, resolve, Deferred.ofValue, List.map_toArray, List.map_cons, List.map_nil, e0, e1, kn.rho.con, kn.rho.fn]
              simp [go_sem]
            · rintro e w' ⟨rfl, hg⟩
              exact ⟨_, rfl, (fun c h => by injection h with h; injection h), only_trans x1 hg, (fun h => by rw [updB_ne D (show (10 : Nat) ≠ 6 by omega)] at h; rw [upd_ne u _ (show (10 : Nat) ≠ 6 by omega)]; obtain ⟨gb, q1, q2, q3⟩ := x2 h; rw [updB_ne D (show (11 : Nat) ≠ 6 by omega)]; exact ⟨gb, q1, q2, q3.grown hg (by simp)⟩), (fun h => by rw [updB_ne D (show (11 : Nat) ≠ 6 by omega)] at h; rw [updB_ne D (show (10 : Nat) ≠ 6 by omega)]; exact x3 h)⟩
          · exact gd_gen (by kernel_rfl) (Want.none_ rfl) rfl (fun D u w v h => by simpa [updB, upd] using h) (fun D u ρ w kn => by
              have e0 := kn.con 6 22 (c := .tuple #[.agg #[.int .i64 s.id, .int .i64 s.level, .int .i64 s.tier, .int .i64 s.count, .int .i64 s.min, .int .i64 s.max, .int .i64 s.size], .bool true]) (by kernel_rfl) (by omega) (by kernel_rfl) rfl
              simp [execOp, kn.rho.con, e0, go_sem])
          · exact gd_gen (by kernel_rfl) (Want.none_ rfl) rfl (fun D u w v h => by simpa [updB, upd] using h) (fun D u ρ w kn => by
              have e0 := kn.con 7 15 (c := .tuple #[.agg #[.int .i64 s.id, .int .i64 s.level, .int .i64 s.tier, .int .i64 s.count, .int .i64 s.min, .int .i64 s.max, .int .i64 s.size], .bool true]) (by kernel_rfl) (by omega) (by kernel_rfl) rfl
              simp [execOp, kn.rho.con, e0, go_sem])
          · exact gd_gen (by kernel_rfl) (Want.none_ rfl) rfl (fun D u w v h => by simpa [updB, upd] using h) (fun D u ρ w kn => by
              have e0 := kn.con 7 15 (c := .tuple #[.agg #[.int .i64 s.id, .int .i64 s.level, .int .i64 s.tier, .int .i64 s.count, .int .i64 s.min, .int .i64 s.max, .int .i64 s.size], .bool true]) (by kernel_rfl) (by omega) (by kernel_rfl) rfl
              simp [execOp, kn.rho.con, e0, go_sem])
          · refine gd_eff (by kernel_rfl) (Want.none_ rfl) (fun D u ρ wx kn hD => ?_)
            obtain ⟨x1, x2, x3⟩ := kn.ext
            have h11 : D 11 = false := by cases h : D 11 with | false => rfl | true => have := x3 h; rw [hD] at this; cases this
            exact ⟨.pointer (some ⟨wx.heap.size, 0, none⟩), wx.alloc (.cells #[.int .i64 0, .int .i64 0, .int .i64 0, .int .i64 0, .int .i64 0, .int .i64 0, .int .i64 0] 54), alloc_seg ρ wx, (fun c h => by cases h), only_alloc x1 _, (fun _ => ⟨wx.heap.size, upd_at _ _ _, x1.size, by rw [updB_ne D (show (11 : Nat) ≠ 10 by omega), h11, if_neg (by simp)]; exact Blk.new _ _ _⟩), (fun h => by rw [updB_ne D (show (11 : Nat) ≠ 10 by omega), h11] at h; cases h)⟩
          · refine gd_skip (by kernel_rfl) (Want.none_ rfl) rfl (fun D u ρ wx kn hD => ?_)
            have e0 := kn.slot 10 7 (by kernel_rfl) (by omega)
            have e1 := kn.con 8 23 (c := .agg #[.int .i64 s.id, .int .i64 s.level, .int .i64 s.tier, .int .i64 s.count, .int .i64 s.min, .int .i64 s.max, .int .i64 s.size]) (by kernel_rfl) (by omega) (by kernel_rfl) rfl
            have d10 := kn.dep 10 (by kernel_rfl)
            obtain ⟨x1, x2, x3⟩ := kn.ext
            obtain ⟨gb, q1, q2, q3⟩ := x2 d10
            rw [hD, if_neg (by simp)] at q3
            obtain ⟨w', z1, z2, z3⟩ := store_seg wx gb (s.id) (s.level) (s.tier) (s.count) (s.min) (s.max) (s.size) q3
            rw [q1] at e0
            exact ⟨w', by simp only [execOp, e0, e1, Sem.run_bind, z1, Result.andThen_ok, Sem.run_pure], only_fresh x1 z3 q2, (fun _ => ⟨gb, by rw [upd_ne u _ (show (10 : Nat) ≠ 11 by omega)]; exact q1, q2, by rw [updB_at, if_pos rfl]; exact z2⟩), (fun _ => by rw [updB_ne D (show (10 : Nat) ≠ 11 by omega)]; exact d10)⟩
        · intro D u w9 hJ hD
          obtain ⟨hcn, x1, x2, -⟩ := hJ
          obtain ⟨gb, hu, hgb, hB⟩ := x2 (hD 10 (by omega))
          rw [hD 11 (by omega), if_pos rfl] at hB
          have e9 : u 9 = .bool true := hcn 9 _ rfl (hD 9 (by omega))
          simp only [List.take_succ_cons, List.take_zero, List.drop_succ_cons, List.drop_zero, putAll]
          rw [hu, e9]
          have G9 := Lib.hid x1
          have HQ := Lib.hid hB
          clear hcn x1 x2 hu e9 hD hB d0
          have hrw := HRW.out.grown G9.out (by simp)
          have d1 : w9.cell? ⟨b, o + k * 3 + 1, none⟩ = some (.int .i64 x.tier) := hrw.flatAt BlobD.cells_len HX.out 1 (by omega)
          have hq2 := HQ.out.cell 2
          simp at hq2
          clear hrw
          by_cases he : s.tier = x.tier
          · have e1 : (s.tier == x.tier) = true := by simp [he]
            have HC : Hid (cleanB ss (bs.take (k + 1)) = l ++ [x]) := Lib.hid (by rw [cleanB_take HX.out, HV.out, HL7.out, e1]; simp)
            clear he
            go_simp
            go_wp2_with fail
            go_quiet (fail)
            have GW := Lib.hid (only_drewN G9.out nq)
            have OW := Lib.hid (own_ext HO.out GW.out)
            obtain ⟨W5, hW5⟩ : ∃ W, W = w9.drewN nq := ⟨_, rfl⟩
            rw [← hW5] at GW OW ⊢
            have hrw := HRW.out.grown GW.out (by simp)
            clear d1 hq2
            have d0 : W5.cell? ⟨b, o + k * 3, none⟩ = some (.int .i64 x.id) := hrw.flatAt BlobD.cells_len HX.out 0 (by omega)
            have d1 : W5.cell? ⟨b, o + k * 3 + 1, none⟩ = some (.int .i64 x.tier) := hrw.flatAt BlobD.cells_len HX.out 1 (by omega)
            have d2 : W5.cell? ⟨b, o + k * 3 + 2, none⟩ = some (.slice x.A x.data.length x.c) := hrw.flatAt BlobD.cells_len HX.out 2 (by omega)
            have hs5 := GW.out.size
            clear hrw hW5
            go_wp2_with (at_builtin; refine wpList_append1 rfl _ _ 24 rfl W1.heap.size Tryz.underlying24 blobInfo rfl (by decide) (v := .slice A7 l.length c7) (by rfl) (w0 := W5) (cs := #[.int .i64 x.id, .int .i64 x.tier, .slice x.A x.data.length x.c]) OW.out (by rfl) rfl (by simp [Value.oneCell']) (by decide) (by omega) (by omega) ?_; intro v6 w6 hown6 hg6 hob6)
            obtain ⟨A6, c6, rfl, -, -, -, -⟩ := Rd.of_own hown6 (by decide)
            have hcl : (l ++ [x]).length = l.length + 1 := by simp
            have O6 : Hid (w6.ownsRow W1.heap.size 59 3 (.slice A6 (l ++ [x]).length c6) (l ++ [x]).length ((l ++ [x]).flatMap BlobD.cells)) := Lib.hid (by rw [hcl, show (l ++ [x]).flatMap BlobD.cells = l.flatMap BlobD.cells ++ x.cells from by simp]; exact hown6)
            have GR := Lib.hid (only_own (only_trans G.out GW.out) hg6 OW.out (Nat.le_refl _))
            clear hown6 hg6 hob6 d0 d1 d2
            go_wp2_with fail
            go_roundw
            case rel =>
              refine ⟨k + 1, A6, c6, by go_num, ?_, by omega, ?_, GR.out⟩
              · rw [HC.out, hcl]
              · rw [HC.out]; exact O6.out
            case measure => simp [intOf]; omega
          · have e1 : (s.tier == x.tier) = false := by simp [he]
            have HC : Hid (cleanB ss (bs.take (k + 1)) = l) := Lib.hid (by rw [cleanB_take HX.out, HV.out, HL7.out, e1]; simp)
            clear he
            go_simp
            go_wp2_with fail
            go_quiet (fail)
            have GW := Lib.hid (only_drewN G9.out nq)
            have GR := Lib.hid (only_trans G.out GW.out)
            clear d1 hq2
            go_wp2_with fail
            go_roundw
            case rel =>
              refine ⟨k + 1, A7, c7, by go_num, ?_, by omega, ?_, GR.out⟩
              · rw [HC.out]
              · rw [HC.out]; exact own_ext HO.out GW.out
            case measure => simp [intOf]; omega
    · have i1 : ¬ ((k : Int) < (bs.length : Int)) := by omega
      have HLL : Hid (l = cleanB ss bs) := Lib.hid (by rw [HL7.out, List.take_of_length_le (by omega)])
      obtain ⟨A9, c9, e9, hc9, hm9, -, hr9⟩ := Rd.of_own HO.out (by decide)
      injection e9 with e91 e92 e93
      subst e91 e93
      have HR9 := Lib.hid hr9
      clear hr9
      go_wp2_with fail
      go_ret
      have hll := HLL.out
      rw [← hll]
      exact ⟨A7, c7, rfl, hc9, hm9, own_none' HO.out, HR9.out.mono (fun b hb _ => Nat.le_trans (by omega) hb), only_trans G1.out G.out⟩
end Go.Proofs.YtganfhmjklcchaaGreat
