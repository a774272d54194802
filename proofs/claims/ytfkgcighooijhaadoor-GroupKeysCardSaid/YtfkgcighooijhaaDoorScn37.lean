/- The scene of part 37: names, aggregates, events; the sanity check. No condition. -/
import Derived.Test.YtfkgcighooijhaaDoorNames
import Derived.Test.YtfkgcighooijhaaDoorCmpK
import Derived.Test.YtfkgcighooijhaaDoorEvents
import Derived.Test.YtfkgcighooijhaaDoorFlatAt
namespace Go.Proofs.YtfkgcighooijhaaDoor
open Go.RowKit
set_option linter.unusedVariables false
set_option linter.unusedSimpArgs false

structure AggD where
  kind : Int
  field : ByteArray
def AggD.cells (x : AggD) : List Value := [.int .i64 x.kind, .string x.field]
theorem AggD.cells_len (e : AggD) : e.cells.length = 2 := rfl
theorem aggInfo : (Tryd.prog.info? 42).map (fun i => (i.zero, i.size, i.bytes)) = some (some (.agg #[.int .i64 0, .string ⟨#[]⟩]), 2, 24) := by kernel_rfl
def AggOk (a : AggD) : Prop := 0 ≤ a.kind ∧ a.kind ≤ 4 ∧ a.field.size ≤ 20
theorem only_setOver {a w : World} {g : Nat} (h : a.grownBy w (some g)) {p : Addr} (hp : a.heap.size ≤ p.block) (u : Value) : a.grownBy (w.setCell p u) (some g) := only_setCell h (.inr hp) u
def ScenePost (w : World) (e : Ending) (w' : World) : Prop :=
  ∃ (A1 A2 A3 : Option Addr) (c1 c2 c3 : Nat) (ns : List ByteArray) (ags : List AggD) (es : List Ev) (g k : Nat) (l : List Int), e = .returned (.tuple #[.slice A1 ns.length c1, .slice A2 ags.length c2, .slice A3 es.length c3, .pointer (some ⟨g, 0, none⟩)]) ∧
    ns.length ≤ c1 ∧ c1 ≤ maxLen ∧ 1 ≤ ns.length ∧ ns.length ≤ 2 ∧ (∀ n ∈ ns, n.size ≤ 20) ∧ Rd (g < ·) w' A1 (ns.map .string) ∧
    ags.length ≤ c2 ∧ c2 ≤ maxLen ∧ 1 ≤ ags.length ∧ ags.length ≤ 4 ∧ (∀ a ∈ ags, AggOk a) ∧ Rd (g < ·) w' A2 (ags.flatMap AggD.cells) ∧
    es.length ≤ c3 ∧ c3 ≤ maxLen ∧ es.length ≤ 30 ∧ Evs (g < ·) w' A3 es ∧ SrtE es ∧ (∀ e ∈ es, EvGood e) ∧ CodesAt w' g l k ∧ w.heap.size ≤ g ∧ w.grownBy w' none
set_option maxHeartbeats 4000000 in
set_option maxRecDepth 100000 in
theorem scene_any (A : Option Addr) (l : List Int) (c : Nat) (w : World) (h : Rd (fun _ => True) w A (l.map (.int .u8))) (hc : l.length ≤ c) (hcm : c ≤ maxLen) (hx : ∀ x ∈ l, 0 ≤ x ∧ x ≤ 255) :
    Calls Tryd.prog 5 #[.slice A l.length c] w (ScenePost w) := by
  have HN : Hid (∀ w', w.grownBy w' none → Calls Tryd.prog 11 #[.slice A l.length c, .int .i64 (400 : Nat)] w' (NewPost w' (l.take 400))) := fun w' hg => new_any A l c 400 w' (h.grown hg (by simp)) hc hcm (by omega) hx
  clear h hc hcm hx
  go_enter Tryd.func5, Tryd.ntmps5
  go_wp2_with fail
  refine (HN.out _ (only_refl _ _)).mono ?_
  rintro e w1 ⟨rfl, h1, hg1, hlt1⟩
  obtain ⟨g, hgd⟩ : ∃ g, g = w.heap.size := ⟨_, rfl⟩
  obtain ⟨l1, hl1⟩ : ∃ l1, l1 = l.take 400 := ⟨_, rfl⟩
  have HGD := Lib.hid hgd
  rw [← hgd, ← hl1] at h1
  rw [← hgd]
  have G1 := Lib.hid (only_of_none hg1 (some g))
  have hg0 := h1.lt
  clear HN hgd hl1 hg1 hlt1
  go_wp2_with fail
  refine (names_some g l1 0 _ h1).mono ?_
  rintro e w2 ⟨A1, c1, ns, k2, rfl, hc1, hm1, hn1, hn2, hns, hr1, h2, hg2⟩
  have G2 := Lib.hid (only_trans G1.out hg2)
  have R2 : Hid (Rd (g < ·) w2 A1 (ns.map .string)) := Lib.hid (hr1.mono (fun b hb _ => by have hq : w1.heap.size ≤ b := hb; show g < b; omega))
  have HC1 := Lib.hid hc1
  have HM1 := Lib.hid hm1
  have HNS := Lib.hid hns
  have hz2 := hg2.size
  clear h1 hr1 hg2 hc1 hm1 hns G1
  go_wp2_with fail
  refine (next_some g l1 k2 4 _ h2 (by omega) (by omega)).mono ?_
  rintro e w3 ⟨v3, k3, rfl, hv3, h3, hg3⟩
  have G3 := Lib.hid (only_trans G2.out hg3)
  have R3 := Lib.hid (R2.out.grown hg3 (fun b hb e => by have hq : g < b := hb; injection e; omega))
  have hz3 := hg3.size
  obtain ⟨m, rfl⟩ := Int.eq_ofNat_of_zero_le hv3.1
  have hm4 : m < 4 := by omega
  have C3 := Lib.hid h3
  clear h2 hg3 h3 G2 R2 hv3
  go_wp2_with fail
  go_loopw [8, 9] (fun vo i wr => ∃ (n : Nat) (ags : List AggD) (k : Nat), i = .int .i64 n ∧ n ≤ m + 1 ∧ ags.length + n = m + 1 ∧ (∀ a ∈ ags, AggOk a) ∧ wr.ownsRow w3.heap.size 42 2 vo ags.length (ags.flatMap AggD.cells) ∧ CodesAt wr g l1 k ∧ w3.grownBy wr (some g)) (fun _ i _ => (intOf i).toNat)
  case atStart => exact ⟨m + 1, [], k3, by go_num, Nat.le_refl _, by simp, by simp, World.ownsRow_nil _ _ _ _, C3.out, only_refl _ _⟩
  case round =>
    obtain ⟨n, ags, k, rfl, hn, han, hok, hO, hC, hG⟩ := hrel
    have HOK := Lib.hid hok
    have hal : ags.length ≤ 4 := by omega
    have HAN := Lib.hid han
    obtain ⟨Ao, co, rfl, hoc, hom, -, hro⟩ := Rd.of_own hO (by decide)
    have OO := Lib.hid hO
    have RO := Lib.hid hro
    have C := Lib.hid hC
    have G := Lib.hid hG
    have hsz := hG.size
    have hgw := hC.lt
    have HOC := Lib.hid hoc
    have HOM := Lib.hid hom
    clear C3 hok han hO hro hC hG hoc hom
    by_cases hlt : 0 < n
    · have i1 : (0 : Int) < (n : Int) := by omega
      go_wp2_with fail
      refine (next_some g l1 k 5 _ C.out (by omega) (by omega)).mono ?_
      rintro e w4 ⟨v4, k4, rfl, hv4, h4, hg4⟩
      have O4 := Lib.hid (own_only OO.out hg4 (by omega))
      have G4 := Lib.hid (only_trans G.out hg4)
      have C4 := Lib.hid h4
      have hz4 := hg4.size
      have hgw4 := h4.lt
      clear hg4 h4 OO G C RO hgw
      by_cases h0 : v4 = 0
      · have t1 : (v4 != 0) = false := by simp [h0]
        have HV : Hid (AggOk ⟨0, ⟨#[]⟩⟩) := Lib.hid (by unfold AggOk; decide)
        go_upto_region 8 with fail
        obtain ⟨b, hb⟩ : ∃ b, b = w4.heap.size := ⟨_, rfl⟩
        obtain ⟨WW, hWW⟩ : ∃ W, W = w4.alloc (.cells #[.int .i64 0, .string ⟨#[]⟩] 42) := ⟨_, rfl⟩
        have BB : Hid (Blk WW b 42 #[.int .i64 0, .string ⟨#[]⟩]) := Lib.hid (by rw [hWW, hb]; exact Blk.new _ _ _)
        have OW := Lib.hid (own_ext O4.out (show w4.grownBy WW none by rw [hWW]; exact only_alloc (only_refl _ _) _))
        have GW : Hid (w3.grownBy WW (some g)) := Lib.hid (by rw [hWW]; exact only_alloc G4.out _)
        obtain ⟨kk, hkk⟩ : ∃ kk, kk = k4 := ⟨_, rfl⟩
        have CW : Hid (CodesAt WW g l1 kk) := Lib.hid (by rw [hWW, hkk]; exact C4.out.alloc _)
        have hzW := GW.out.size
        have hbW := BB.out.lt
        rw [← hb, ← hWW]
        clear hb hWW hkk O4 G4 C4 h0 t1
        have z0 := BB.out.cell 0
        have z1 := BB.out.cell 1
        simp at z0 z1
        go_wp2_with (at_builtin; go_must (refine wpList_append1 rfl _ _ 25 rfl w3.heap.size Tryd.underlying25 aggInfo rfl (by decide) (v := .slice Ao ags.length co) (by rfl) (w0 := WW) (cs := #[.int .i64 0, .string ⟨#[]⟩]) OW.out (by rfl) rfl (by simp [Value.oneCell']) (by decide) (by omega) (by omega) ?_); intro v7 w7 hown7 hg7 hob7)
        have O7 : Hid (w7.ownsRow w3.heap.size 42 2 v7 (ags ++ [(⟨0, ⟨#[]⟩⟩ : AggD)]).length ((ags ++ [(⟨0, ⟨#[]⟩⟩ : AggD)]).flatMap AggD.cells)) := Lib.hid (by rw [List.length_append, List.flatMap_append]; simpa [AggD.cells] using hown7)
        have G7 : Hid (w3.grownBy w7 (some g)) := Lib.hid (only_own GW.out hg7 OW.out (Nat.le_refl _))
        have C7 : Hid (CodesAt w7 g l1 kk) := Lib.hid (CW.out.grown hg7 (by
          intro b' hb' e
          have := (OW.out.lt b' e.symm).1
          omega))
        have HOK7 : Hid (∀ a ∈ ags ++ [(⟨0, ⟨#[]⟩⟩ : AggD)], AggOk a) := Lib.hid (mem_snoc HOK.out HV.out)
        clear hown7 hg7 hob7
        go_wp2_with fail
        go_roundw
        case rel => exact ⟨n - 1, ags ++ [(⟨0, ⟨#[]⟩⟩ : AggD)], kk, by go_num, by omega, by have := HAN.out; rw [List.length_append, List.length_singleton]; omega, HOK7.out, O7.out, C7.out, G7.out⟩
        case measure => simp [intOf]; omega
      · have t1 : (v4 != 0) = true := by simp [h0]
        go_upto_region 8 with fail
        obtain ⟨b, hb⟩ : ∃ b, b = w4.heap.size := ⟨_, rfl⟩
        obtain ⟨W, hW⟩ : ∃ W, W = w4.alloc (.cells #[.int .i64 v4, .string ⟨#[]⟩] 42) := ⟨_, rfl⟩
        have B5 : Hid (Blk W b 42 #[.int .i64 v4, .string ⟨#[]⟩]) := Lib.hid (by rw [hW, hb]; exact Blk.new _ _ _)
        have O5 := Lib.hid (own_ext O4.out (show w4.grownBy W none by rw [hW]; exact only_alloc (only_refl _ _) _))
        have hrow : ∀ q, (Value.slice Ao ags.length co).ownBlock = some q → q < b := fun q hq => by rw [hb]; exact (O4.out.lt q hq).2
        have HROW := Lib.hid hrow
        have G5 : Hid (w3.grownBy W (some g)) := Lib.hid (by rw [hW]; exact only_alloc G4.out _)
        have C5 : Hid (CodesAt W g l1 k4) := Lib.hid (by rw [hW]; exact C4.out.alloc _)
        have hzW := G5.out.size
        have hbW := B5.out.lt
        have hgb : g < b := by rw [hb]; exact hgw4
        have z0 := B5.out.cell 0
        simp at z0
        have hw3b : w3.heap.size ≤ b := by rw [hb]; omega
        have hv40 := hv4.1
        have hv41 := hv4.2
        rw [← hb, ← hW]
        clear hb hW O4 G4 C4 h0 hrow hz4 hgw4
        go_wp2_with fail
        refine (next_some g l1 k4 5 _ (C5.out.alloc _) (by omega) (by omega)).mono ?_
        rintro e w5 ⟨v5, kk, rfl, hv5, h5, hg5⟩
        obtain ⟨j, rfl⟩ := Int.eq_ofNat_of_zero_le hv5.1
        have hj : j < 5 := by omega
        have hB := (Blk.new W _ _).grown hg5 (by simp; omega)
        obtain ⟨x, hc, HX⟩ := hB.str_at (m := 20) (by rfl) (j := j) hj
        have hx : Hid (x.size ≤ 20) := by have := HX.out; exact Lib.hid (by simpa using this)
        have hgA : W.grownBy w5 (some g) := only_trans (only_alloc (only_refl _ _) _) hg5
        have B6 := Lib.hid (B5.out.grown hgA (by intro e; injection e; omega))
        have O6 := Lib.hid (own_only O5.out hgA (by omega))
        have G6 := Lib.hid (only_trans G5.out hgA)
        have C6 := Lib.hid h5
        have f0 := B6.out.frozen 1
        have y1 := B6.out.cell 1
        simp at y1
        have hz6 := hgA.size
        have HV : Hid (AggOk ⟨v4, x⟩) := Lib.hid ⟨hv40, by show v4 ≤ 4; omega, hx.out⟩
        have hne : W.heap.size ≠ b := by omega
        clear hg5 h5 hB HX B5 O5 G5 C5 hgA z0 hv5 hx
        go_upto_region 10 with fail
        obtain ⟨WW, hWW⟩ : ∃ WW, WW = w5.setCell ⟨b, 1, none⟩ (.string x) := ⟨_, rfl⟩
        have hgS : w5.grownBy WW (some b) := by rw [hWW]; exact only_setCell (only_refl _ _) (.inl rfl) _
        have BB : Hid (Blk WW b 42 #[.int .i64 v4, .string x]) := Lib.hid (by rw [hWW]; simpa using B6.out.set_ 1 (.string x))
        have OW : Hid (WW.ownsRow w3.heap.size 42 2 (.slice Ao ags.length co) ags.length (ags.flatMap AggD.cells)) := Lib.hid (O6.out.kept hgS (by
          cases hv : (Value.slice Ao ags.length co).ownBlock with
          | none => exact .inl rfl
          | some q => exact .inr (by have := HROW.out q hv; intro e; injection e; omega)))
        have GW : Hid (w3.grownBy WW (some g)) := Lib.hid (by rw [hWW]; exact only_setOver G6.out (by show w3.heap.size ≤ b; omega) _)
        have CW : Hid (CodesAt WW g l1 kk) := Lib.hid (C6.out.grown hgS (by intro b' hb' e; injection e; omega))
        have hzWW := GW.out.size
        have hbWW := BB.out.lt
        rw [← hWW]
        clear hWW O6 G6 C6 B6 f0 y1 hc t1
        have z0 := BB.out.cell 0
        have z1 := BB.out.cell 1
        simp at z0 z1
        go_wp2_with (at_builtin; go_must (refine wpList_append1 rfl _ _ 25 rfl w3.heap.size Tryd.underlying25 aggInfo rfl (by decide) (v := .slice Ao ags.length co) (by rfl) (w0 := WW) (cs := #[.int .i64 v4, .string x]) OW.out (by rfl) rfl (by simp [Value.oneCell']) (by decide) (by omega) (by omega) ?_); intro v7 w7 hown7 hg7 hob7)
        have O7 : Hid (w7.ownsRow w3.heap.size 42 2 v7 (ags ++ [(⟨v4, x⟩ : AggD)]).length ((ags ++ [(⟨v4, x⟩ : AggD)]).flatMap AggD.cells)) := Lib.hid (by rw [List.length_append, List.flatMap_append]; simpa [AggD.cells] using hown7)
        have G7 : Hid (w3.grownBy w7 (some g)) := Lib.hid (only_own GW.out hg7 OW.out (Nat.le_refl _))
        have C7 : Hid (CodesAt w7 g l1 kk) := Lib.hid (CW.out.grown hg7 (by
          intro b' hb' e
          have := (OW.out.lt b' e.symm).1
          omega))
        have HOK7 : Hid (∀ a ∈ ags ++ [(⟨v4, x⟩ : AggD)], AggOk a) := Lib.hid (mem_snoc HOK.out HV.out)
        clear hown7 hg7 hob7
        go_wp2_with fail
        go_roundw
        case rel => exact ⟨n - 1, ags ++ [(⟨v4, x⟩ : AggD)], kk, by go_num, by omega, by have := HAN.out; rw [List.length_append, List.length_singleton]; omega, HOK7.out, O7.out, C7.out, G7.out⟩
        case measure => simp [intOf]; omega
    · have i1 : ¬ (0 : Int) < (n : Int) := by omega
      have HA1 : Hid (1 ≤ ags.length) := Lib.hid (by have := HAN.out; omega)
      have HA2 : Hid (ags.length ≤ 4) := Lib.hid hal
      have GA := Lib.hid (only_trans G3.out G.out)
      have RA := Lib.hid (R3.out.grown G.out (fun b hb e => by have hq : g < b := hb; injection e; omega))
      go_wp2_with fail
      refine (events_some g l1 k 5 _ C.out (by omega)).mono ?_
      rintro e w8 ⟨A3, c3, es, k8, rfl, he1, he2, he3, he4, he5, he6, h8, hg8⟩
      have R8 := Lib.hid (RA.out.grown hg8 (fun b hb e => by have hq : g < b := hb; injection e; omega))
      have Q8 := Lib.hid ((RO.out.grown hg8 (fun b hb e => by have hq : w3.heap.size ≤ b := hb; injection e; omega)).mono (S' := (g < ·)) (fun b hb _ => by have hq : w3.heap.size ≤ b := hb; show g < b; omega))
      have E8 := Lib.hid (he4.mono (S' := (g < ·)) (fun b hb _ => by have hq : wr.heap.size ≤ b := hb; show g < b; omega))
      have G8 : Hid (w.grownBy w8 none) := Lib.hid (only_fresh (only_refl w none) (only_trans GA.out hg8) (Nat.le_of_eq HGD.out.symm))
      have C8 := Lib.hid h8
      have H1 := Lib.hid he1; have H2 := Lib.hid he2; have H3 := Lib.hid he3; have H5 := Lib.hid he5; have H6 := Lib.hid he6
      clear he1 he2 he3 he4 he5 he6 h8 hg8 RA RO GA G C
      go_wp2_with fail
      exact bodyPost_ret (v := .tuple #[.slice A1 ns.length c1, .slice Ao ags.length co, .slice A3 es.length c3, .pointer (some ⟨g, 0, none⟩)]) (by simp [results, Tryd.results5, go_sem]) rfl ⟨A1, Ao, A3, c1, co, c3, ns, ags, es, g, k8, l1, rfl, HC1.out, HM1.out, hn1, hn2, HNS.out, R8.out, HOC.out, HOM.out, HA1.out, HA2.out, HOK.out, Q8.out, H1.out, H2.out, by have := H3.out; omega, E8.out, H5.out, H6.out, C8.out, by rw [HGD.out]; exact Nat.le_refl _, G8.out⟩
theorem awake_cmp : cmpK [⟨#[97]⟩] [⟨#[98]⟩] = -1 := by
  have h : sl ⟨#[97]⟩ ⟨#[98]⟩ = true := by unfold sl; rw [ByteArray.toList_eq, ByteArray.toList_eq]; simp [Op.bytesLess]
  rw [cmpK, h]; rfl
theorem awake_keys (A B : Option Addr) (c d : Nat) (w' : World) (ha : Rd (fun _ => True) w' A ([⟨#[97]⟩].map .string)) (hb : Rd (fun _ => True) w' B ([⟨#[98]⟩].map .string)) : Calls Tryd.prog 9 #[.slice A 1 c, .slice B 1 d] w' (IntP (-1) w') := by
  rw [← awake_cmp]
  have h0 := pcmp_any A B [⟨#[97]⟩] [⟨#[98]⟩] c d w' ha hb (by simp) (by simp)
  exact h0
/-- the sanity check -/
theorem awake_any (w : World) : Calls Tryd.prog 4 #[] w (fun e w' => e = .returned (.bool true) ∧ w.grownBy w' none) := by
  have HC := fun (A B : Option Addr) (c d : Nat) (w' : World) ha hb => awake_keys A B c d w' ha hb
  have RD : Hid (∀ (w' : World) (b : Nat) (x : ByteArray), Blk w' b 9 #[.string x] → Rd (fun _ => True) w' (some ⟨b, 0, none⟩) ([x].map .string)) := Lib.hid (fun w' b x hB _ => ⟨b, 0, rfl, trivial, hB.lt, fun j u hu => by
    rw [Nat.zero_add, hB.cell j]
    simpa using hu⟩)
  have ha := RD.out ((w.alloc (.cells #[.string ⟨#[97]⟩] 9)).alloc (.cells #[.string ⟨#[98]⟩] 9)) w.heap.size ⟨#[97]⟩ ((Blk.new w 9 #[.string ⟨#[97]⟩]).alloc _)
  have hb := RD.out ((w.alloc (.cells #[.string ⟨#[97]⟩] 9)).alloc (.cells #[.string ⟨#[98]⟩] 9)) (w.alloc (.cells #[.string ⟨#[97]⟩] 9)).heap.size ⟨#[98]⟩ (Blk.new _ _ _)
  have K := HC _ _ 1 1 _ ha hb
  rw [show (w.alloc (.cells #[.string ⟨#[97]⟩] 9)).heap.size = w.heap.size + 1 by simp] at K
  have KK := Lib.hid K
  clear ha hb K HC RD
  go_enter Tryd.func4, Tryd.ntmps4
  go_wp2_with fail
  refine KK.out.mono ?_
  rintro e w1 ⟨rfl, rfl⟩
  go_wp2_with fail
  go_ret
  exact ⟨rfl, only_alloc (only_alloc (only_refl _ _) _) _⟩
end Go.Proofs.YtfkgcighooijhaaDoor
