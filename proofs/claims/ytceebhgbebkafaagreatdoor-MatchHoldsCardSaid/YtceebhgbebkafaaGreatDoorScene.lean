/- The scene of part 36; Mod. No condition. -/
import Derived.Test.YtceebhgbebkafaaGreatDoorDrawT
import Derived.Test.YtceebhgbebkafaaGreatDoorEvents
namespace Go.Proofs.YtceebhgbebkafaaGreatDoor
open Go.RowKit
set_option linter.unusedVariables false
set_option linter.unusedSimpArgs false

def ScenePost (w : World) (e : Ending) (w' : World) : Prop :=
  ∃ (t : TT) (A : Option Addr) (c : Nat) (es : List Ev) (g k : Nat) (l : List Int), e = .returned (.tuple #[.agg t.cells.toArray, .slice A es.length c, .pointer (some ⟨g, 0, none⟩)]) ∧ t.Ok 4 ∧ t.Sub 4 (fun b => w.heap.size ≤ b ∧ b ≠ g) w' ∧
    es.length ≤ c ∧ c ≤ maxLen ∧ es.length ≤ 30 ∧ Evs (fun b => w.heap.size ≤ b ∧ b ≠ g) w' A es ∧ SrtE es ∧ (∀ e ∈ es, EvGood e) ∧ CodesAt w' g l k ∧ w.heap.size ≤ g ∧ w.grownBy w' none
/-- the codes do not lie in a block that holds other things -/
theorem codes_over {w w' : World} {g r t k : Nat} {l : List Int} {cs : Array Value} (h : CodesAt w g l k) (hB : Blk w r t cs) (hcs : ∀ (j : Nat) (u : Value), cs[j]? = some u → ∀ x, u ≠ .int .u8 x) (hg : w.grownBy w' (some r)) (hne : g ≠ r) : CodesAt w' g l k := by
  obtain ⟨A, c, hb, hr, hk, hl, hx⟩ := h
  refine ⟨A, c, hb.grown hg (by simpa using hne), ?_, hk, hl, hx⟩
  intro hn
  obtain ⟨b, off, e, hS, hlt, hc⟩ := hr hn
  refine ⟨b, off, e, hS, Nat.lt_of_lt_of_le hlt hg.size, fun j u hu => ?_⟩
  have hbr : b ≠ r := by
    rintro rfl
    have hn' : 0 < l.length := by simpa using hn
    have h0 := hc 0 (.int .u8 l[0]) (by rw [List.getElem?_map, List.getElem?_eq_getElem hn']; rfl)
    rw [hB.cell] at h0
    exact hcs _ _ h0 _ rfl
  exact (hg.cell_far ⟨b, off + j, none⟩ hlt (by simpa using hbr)).trans (hc j u hu)
set_option maxHeartbeats 4000000 in
set_option maxRecDepth 100000 in
theorem scene_any (A : Option Addr) (l : List Int) (c : Nat) (w : World) (h : Rd (fun _ => True) w A (l.map (.int .u8))) (hc : l.length ≤ c) (hcm : c ≤ maxLen) (hx : ∀ x ∈ l, 0 ≤ x ∧ x ≤ 255) :
    Calls Tryz.prog 10 #[.slice A l.length c] w (ScenePost w) := by
  have HN : Hid (∀ w', w.grownBy w' none → Calls Tryz.prog 29 #[.slice A l.length c, .int .i64 (400 : Nat)] w' (NewPost w' (l.take 400))) := fun w' hg => new_any A l c 400 w' (h.grown hg (by simp)) hc hcm (by omega) hx
  clear h hc hcm hx
  go_enter Tryz.func10, Tryz.ntmps10
  go_wp2_with fail
  refine (HN.out _ (only_alloc (only_refl _ _) _)).mono ?_
  rintro e w1 ⟨rfl, h1, hg1, hlt1⟩
  have hB1 : Blk w1 w.heap.size 26 zeroT := (Blk.new w _ _).grown hg1 (by simp)
  have G1 : Hid (w.grownBy w1 none) := only_trans (only_alloc (only_refl _ _) _) hg1
  simp at h1
  obtain ⟨r, hr⟩ : ∃ r, r = w.heap.size := ⟨_, rfl⟩
  have HR := Lib.hid hr
  rw [show (w.alloc (.cells #[.int .i64 0, .string ⟨#[]⟩, .string ⟨#[]⟩, .int .i64 0, .slice none 0 0] 26)).heap.size = w.heap.size + 1 by simp]
  rw [← hr] at hB1 h1 ⊢
  clear hr hg1 hlt1 HN
  have hg0 := h1.lt
  have HB1 := Lib.hid hB1
  clear hB1
  go_wp2_with fail
  refine (test_some 3 (by omega) (r + 1) _ 0 _ h1).mono ?_
  rintro e w2 ⟨t, k2, rfl, hok, hsub, h2, hg2⟩
  have HB2 := Lib.hid (HB1.out.grown hg2 (by simp))
  have HOK := Lib.hid hok
  have HSUB := Lib.hid hsub
  have G2 := Lib.hid hg2
  have hz2 := hg2.size
  clear h1 HB1 hok hsub hg2
  have hcl : t.cells.toArray = #[.int .i64 t.op, .string t.nm, .string t.tx, .int .i64 t.num, .slice t.ka t.kids.length t.kc] := rfl
  rw [hcl]
  clear hcl
  go_wp2_with fail
  refine (events_some (r + 1) _ k2 5 _ h2 (by omega)).mono ?_
  rintro e w3 ⟨A3, c3, es, k3, rfl, hc3, hm3, hl3, hev, hst, hgd, h3, hg3⟩
  have HB3 := Lib.hid (HB2.out.grown hg3 (by simp))
  have hz3 := hg3.size
  have G3 := Lib.hid hg3
  have HEV := Lib.hid hev
  have HE : Hid (es.length ≤ c3 ∧ c3 ≤ maxLen ∧ es.length ≤ 30 ∧ SrtE es ∧ ∀ e ∈ es, EvGood e) := ⟨hc3, hm3, by omega, hst, hgd⟩
  have H3 := Lib.hid h3
  clear h2 HB2 hev hst hgd h3 hg3 hc3 hm3 hl3
  have e0 := HB3.out.cell 0; have e1 := HB3.out.cell 1; have e2 := HB3.out.cell 2; have e3 := HB3.out.cell 3; have e4 := HB3.out.cell 4
  have f0 := HB3.out.frozen 0; have f1 := HB3.out.frozen 1; have f2 := HB3.out.frozen 2; have f3 := HB3.out.frozen 3; have f4 := HB3.out.frozen 4
  simp [zeroT] at e0 e1 e2 e3 e4
  go_wp2_with fail
  obtain ⟨q0, q1, q2, q3, q4⟩ := set5_cells HB3.out rfl (.int .i64 t.op) (.string t.nm) (.string t.tx) (.int .i64 t.num) (.slice t.ka t.kids.length t.kc)
  have q5 := set5_only w3 r (.int .i64 t.op) (.string t.nm) (.string t.tx) (.int .i64 t.num) (.slice t.ka t.kids.length t.kc)
  have hgw : w.grownBy (set5 w3 r (.int .i64 t.op) (.string t.nm) (.string t.tx) (.int .i64 t.num) (.slice t.ka t.kids.length t.kc)) none := by
    have h1 := only_fresh G1.out (only_trans G2.out G3.out) (by have := HR.out; omega)
    exact only_fresh h1 q5 (by have := HR.out; omega)
  have hts : t.Sub 4 (fun b => w.heap.size ≤ b ∧ b ≠ r + 1) (set5 w3 r (.int .i64 t.op) (.string t.nm) (.string t.tx) (.int .i64 t.num) (.slice t.ka t.kids.length t.kc)) :=
    ((HSUB.out.grown G3.out (fun b hb e => by have hb' : w1.heap.size ≤ b := hb; injection e; omega)).grown q5 (fun b hb e => by have hb' : w1.heap.size ≤ b := hb; injection e; omega)).mono (fun b hb _ => by have hb' : w1.heap.size ≤ b := hb; exact ⟨by have := HR.out; omega, by omega⟩)
  have hes : Evs (fun b => w.heap.size ≤ b ∧ b ≠ r + 1) (set5 w3 r (.int .i64 t.op) (.string t.nm) (.string t.tx) (.int .i64 t.num) (.slice t.ka t.kids.length t.kc)) A3 es :=
    (HEV.out.grown q5 (fun b hb e => by have hb' : w2.heap.size ≤ b := hb; injection e; omega)).mono (fun b hb _ => by have hb' : w2.heap.size ≤ b := hb; exact ⟨by have := HR.out; omega, by omega⟩)
  have hcs := codes_over H3.out HB3.out (fun j u hu x => by intro e; subst e; match j, hu with | 0, hu => simp [zeroT] at hu | 1, hu => simp [zeroT] at hu | 2, hu => simp [zeroT] at hu | 3, hu => simp [zeroT] at hu | 4, hu => simp [zeroT] at hu | j + 5, hu => simp [zeroT] at hu) q5 (by omega)
  unfold set5 at q0 q1 q2 q3 q4 hgw hts hes hcs
  exact bodyPost_ret (v := .tuple #[.agg t.cells.toArray, .slice A3 es.length c3, .pointer (some ⟨r + 1, 0, none⟩)]) (by simp [results, Tryz.results10, go_sem, TT.cells, q0, q1, q2, q3, q4]) rfl ⟨t, A3, c3, es, r + 1, k3, _, rfl, HOK.out, hts, HE.out.1, HE.out.2.1, HE.out.2.2.1, hes, HE.out.2.2.2.1, HE.out.2.2.2.2, hcs, by have := HR.out; omega, hgw⟩
theorem tmod_gtS (x : Int) {n : Int} (h : 1 ≤ n) : -n < x.tmod n := Int.lt_tmod_of_pos x (by omega)
set_option maxHeartbeats 400000 in
/-- a number between 0 and n - 1 -/
theorem mod_big (x n : Int) (w : World) (h1 : 1 ≤ n) (h2 : n ≤ 1000000000000000000) :
    Calls Tryz.prog 21 #[.int .i64 x, .int .i64 n] w (fun e w' => (∃ r, e = .returned (.int .i64 r) ∧ 0 ≤ r ∧ r < n) ∧ w' = w) := by
  have i1 : ¬ n < 1 := by omega
  have i2 : ¬ n = 0 := by omega
  have b1 : -n < x.tmod n ∧ x.tmod n < n := ⟨tmod_gtS x h1, Int.tmod_lt_of_pos x (by omega)⟩
  obtain ⟨y, hy⟩ : ∃ y, y = x.tmod n := ⟨_, rfl⟩
  rw [← hy] at b1
  have w1 : IntKind.i64.wrap y = y := IntWalk.i64_in _ (by omega)
  have w2 : IntKind.i64.wrap (y + n) = y + n := IntWalk.i64_in _ (by omega)
  have b2 : 0 ≤ (y + n).tmod n ∧ (y + n).tmod n < n := ⟨Int.tmod_nonneg _ (by omega), Int.tmod_lt_of_pos _ (by omega)⟩
  obtain ⟨z, hz⟩ : ∃ z, z = (y + n).tmod n := ⟨_, rfl⟩
  rw [← hz] at b2
  have w3 : IntKind.i64.wrap z = z := IntWalk.i64_in _ (by omega)
  have hy' := hy.symm
  have hz' := hz.symm
  have HB := Lib.hid b2
  clear hy hz b1 b2
  go_enter Tryz.func21, Tryz.ntmps21
  go_wp2_with fail
  go_ret
  exact ⟨⟨_, rfl, HB.out⟩, rfl⟩
end Go.Proofs.YtceebhgbebkafaaGreatDoor
