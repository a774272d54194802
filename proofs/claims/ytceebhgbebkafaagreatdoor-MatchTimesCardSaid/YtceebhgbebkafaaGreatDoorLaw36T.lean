/- The law of part 36 about times. No condition. -/
import Derived.Test.YtceebhgbebkafaaGreatDoorScene
import Derived.Test.YtceebhgbebkafaaGreatDoorAwakeB
import Derived.Test.YtceebhgbebkafaaGreatDoorMTimes
namespace Go.Proofs.YtceebhgbebkafaaGreatDoor
open Go.RowKit
set_option linter.unusedVariables false
set_option linter.unusedSimpArgs false

theorem TT.pair_ok {n : Nat} {t u : TT} {op : Int} {ka : Option Addr} {kc : Nat} (ht : t.Ok n) (hu : u.Ok n) (ho : op = 6 ∨ op = 7) : (TT.mk op ⟨#[]⟩ ⟨#[]⟩ 0 ka kc [t, u]).Ok (n + 1) := by
  refine ⟨by simp only [TT.op]; omega, by simp [TT.nm, TT.tx, ByteArray.size], by simp only [TT.num]; omega, .inr (.inr ⟨ho, by simp [TT.kids], by simp [TT.kids]⟩), by simp [TT.kids], fun k hk => ?_⟩
  have hk : k = t ∨ k = u := by simpa [TT.kids] using hk
  rcases hk with rfl | rfl
  · exact ht
  · exact hu
theorem TT.pair_sub {n : Nat} {S : Nat → Prop} {t u : TT} {op : Int} {w : World} {b : Nat} (ht : t.Sub n S w) (hu : u.Sub n S w) (hb : Blk w b 26 (t.cells ++ u.cells).toArray) (hS : S b) : (TT.mk op ⟨#[]⟩ ⟨#[]⟩ 0 (some ⟨b, 0, none⟩) 2 [t, u]).Sub (n + 1) S w := by
  refine ⟨fun _ => ⟨b, 0, rfl, hS, hb.lt, fun j v hv => ?_⟩, by simp [TT.kids, TT.kc], by simp only [TT.kc]; unfold maxLen; omega, fun k hk => ?_⟩
  · rw [Nat.zero_add, hb.cell j]
    simpa [TT.kids] using hv
  · have hk : k = t ∨ k = u := by simpa [TT.kids] using hk
    rcases hk with rfl | rfl
    · exact ht
    · exact hu
set_option maxHeartbeats 4000000 in
set_option maxRecDepth 100000 in
theorem law_times (A : Option Addr) (l : List Int) (c : Nat) (num : Int) (w : World) (hW : Whole w) (h : Rd (fun _ => True) w A (l.map (.int .u8))) (hc : l.length ≤ c) (hcm : c ≤ maxLen) (hx : ∀ x ∈ l, 0 ≤ x ∧ x ≤ 255) :
    Calls Tryz.prog 6 #[.slice A l.length c, .int .i64 num] w (BoolP w true) := by
  have HS : Hid (∀ w', w.grownBy w' none → Calls Tryz.prog 10 #[.slice A l.length c] w' (ScenePost w')) := fun w' hg => scene_any A l c w' (h.grown hg (by simp)) hc hcm hx
  have HW := Lib.hid hW
  clear h hc hcm hx hW
  go_enter Tryz.func6, Tryz.ntmps6
  go_wp2_with fail
  refine (awake_any _).mono ?_
  rintro e w1 ⟨rfl, hg1⟩
  have G1 := Lib.hid hg1
  clear hg1
  go_wp2_with fail
  refine (HS.out _ G1.out).mono ?_
  rintro e w2 ⟨t, A2, c2, es, g, k2, l2, rfl, hok, hsub, hc2, hm2, hl2, hev, hst, hgd, h2, hgw, hg2⟩
  have G2 := Lib.hid (only_trans G1.out hg2)
  have HOK := Lib.hid hok
  have HSUB := Lib.hid hsub
  have hgl := h2.lt
  have G1s := G1.out.size
  clear hg2 hok hsub hev hst hgd G1 HS hc2 hm2 hl2
  have hcl : t.cells.toArray = #[.int .i64 t.op, .string t.nm, .string t.tx, .int .i64 t.num, .slice t.ka t.kids.length t.kc] := rfl
  rw [hcl]
  clear hcl
  obtain ⟨es2, hes2⟩ : ∃ x, x = es.length := ⟨_, rfl⟩
  rw [← hes2]
  clear hes2
  go_wp2_with fail
  refine (mod_big num 1000000000000000000 _ (by omega) (by omega)).mono ?_
  rintro e w3 ⟨⟨n, rfl, hn0, hn1⟩, rfl⟩
  have hB5 : Blk (w2.alloc (.cells t.cells.toArray 26)) w2.heap.size 26 t.cells.toArray := Blk.new _ _ _
  go_wp2_with fail
  refine (next_some g l2 k2 3 _ (h2.alloc _) (by omega) (by omega)).mono ?_
  rintro e w4 ⟨v, k4, rfl, hv, h4, hg4⟩
  obtain ⟨hv0, hv3⟩ := hv
  have HB5 := Lib.hid (hB5.grown hg4 (by intro e; injection e; omega))
  have hz4 := hg4.size
  simp at hz4
  have G4 : Hid (w.grownBy w4 none) := Lib.hid (only_fresh (only_alloc G2.out _) hg4 (by have := G1s; omega))
  have HS4 : Hid (t.Sub 4 (fun b => b ≠ g) w4) := Lib.hid ((((HSUB.out.grown (World.grownBy_alloc w2 _ none) (by simp)).grown hg4 (fun b hb e => by injection e; exact hb.2 (by omega)))).mono (fun b hb _ => hb.2))
  have HC4 := Lib.hid h4
  have hne0 : w2.heap.size ≠ w4.heap.size := by omega
  have hne1 : w2.heap.size ≠ w4.heap.size + 1 := by omega
  have hne2 : w2.heap.size ≠ w4.heap.size + 1 + 1 := by omega
  have hne3 : w2.heap.size ≠ w4.heap.size + 1 + 1 + 1 := by omega
  obtain ⟨r, hr⟩ : ∃ r, r = w2.heap.size := ⟨_, rfl⟩
  rw [← hr] at HB5 hz4 hgl hne0 hne1 hne2 hne3 ⊢
  have hz4' : r < w4.heap.size := by omega
  clear hB5 h2 HSUB hg4 h4 hr
  have e0 := HB5.out.cell 0; have e1 := HB5.out.cell 1; have e2 := HB5.out.cell 2; have e3 := HB5.out.cell 3; have e4 := HB5.out.cell 4
  simp [TT.cells] at e0 e1 e2 e3 e4
  go_wp2_with fail
  obtain ⟨W, hWd⟩ : ∃ W, W = (((w4.alloc (.cells #[.int .i64 (9 + v), .string ⟨#[64, 116, 105, 109, 101]⟩, .string ⟨#[]⟩, .int .i64 n, .slice none 0 0] 26)).alloc (.cells #[.int .i64 t.op, .string t.nm, .string t.tx, .int .i64 t.num, .slice t.ka t.kids.length t.kc, .int .i64 (9 + v), .string ⟨#[64, 116, 105, 109, 101]⟩, .string ⟨#[]⟩, .int .i64 n, .slice none 0 0] 26)).alloc (.cells #[.int .i64 t.op, .string t.nm, .string t.tx, .int .i64 t.num, .slice t.ka t.kids.length t.kc, .int .i64 (9 + v), .string ⟨#[64, 116, 105, 109, 101]⟩, .string ⟨#[]⟩, .int .i64 n, .slice none 0 0] 26)).alloc (.cells #[.int .i64 t.op, .string t.nm, .string t.tx, .int .i64 t.num, .slice t.ka t.kids.length t.kc, .int .i64 (9 + v), .string ⟨#[64, 116, 105, 109, 101]⟩, .string ⟨#[]⟩, .int .i64 n, .slice none 0 0, .int .i64 6, .string ⟨#[]⟩, .string ⟨#[]⟩, .int .i64 0, .slice (some ⟨w4.heap.size + 1, 0, none⟩) 2 2, .int .i64 7, .string ⟨#[]⟩, .string ⟨#[]⟩, .int .i64 0, .slice (some ⟨w4.heap.size + 1 + 1, 0, none⟩) 2 2] 26) := ⟨_, rfl⟩
  rw [← hWd]
  obtain ⟨b, hb⟩ : ∃ b, b = w4.heap.size := ⟨_, rfl⟩
  have hBA : Blk W (b + 1) 26 #[.int .i64 t.op, .string t.nm, .string t.tx, .int .i64 t.num, .slice t.ka t.kids.length t.kc, .int .i64 (9 + v), .string ⟨#[64, 116, 105, 109, 101]⟩, .string ⟨#[]⟩, .int .i64 n, .slice none 0 0] := by rw [hWd, hb]; simpa using (((Blk.new (w4.alloc (.cells #[.int .i64 (9 + v), .string ⟨#[64, 116, 105, 109, 101]⟩, .string ⟨#[]⟩, .int .i64 n, .slice none 0 0] 26)) 26 #[.int .i64 t.op, .string t.nm, .string t.tx, .int .i64 t.num, .slice t.ka t.kids.length t.kc, .int .i64 (9 + v), .string ⟨#[64, 116, 105, 109, 101]⟩, .string ⟨#[]⟩, .int .i64 n, .slice none 0 0]).alloc (.cells #[.int .i64 t.op, .string t.nm, .string t.tx, .int .i64 t.num, .slice t.ka t.kids.length t.kc, .int .i64 (9 + v), .string ⟨#[64, 116, 105, 109, 101]⟩, .string ⟨#[]⟩, .int .i64 n, .slice none 0 0] 26)).alloc (.cells #[.int .i64 t.op, .string t.nm, .string t.tx, .int .i64 t.num, .slice t.ka t.kids.length t.kc, .int .i64 (9 + v), .string ⟨#[64, 116, 105, 109, 101]⟩, .string ⟨#[]⟩, .int .i64 n, .slice none 0 0, .int .i64 6, .string ⟨#[]⟩, .string ⟨#[]⟩, .int .i64 0, .slice (some ⟨w4.heap.size + 1, 0, none⟩) 2 2, .int .i64 7, .string ⟨#[]⟩, .string ⟨#[]⟩, .int .i64 0, .slice (some ⟨w4.heap.size + 1 + 1, 0, none⟩) 2 2] 26))
  have hBO : Blk W (b + 1 + 1) 26 #[.int .i64 t.op, .string t.nm, .string t.tx, .int .i64 t.num, .slice t.ka t.kids.length t.kc, .int .i64 (9 + v), .string ⟨#[64, 116, 105, 109, 101]⟩, .string ⟨#[]⟩, .int .i64 n, .slice none 0 0] := by rw [hWd, hb]; simpa using ((Blk.new ((w4.alloc (.cells #[.int .i64 (9 + v), .string ⟨#[64, 116, 105, 109, 101]⟩, .string ⟨#[]⟩, .int .i64 n, .slice none 0 0] 26)).alloc (.cells #[.int .i64 t.op, .string t.nm, .string t.tx, .int .i64 t.num, .slice t.ka t.kids.length t.kc, .int .i64 (9 + v), .string ⟨#[64, 116, 105, 109, 101]⟩, .string ⟨#[]⟩, .int .i64 n, .slice none 0 0] 26)) 26 #[.int .i64 t.op, .string t.nm, .string t.tx, .int .i64 t.num, .slice t.ka t.kids.length t.kc, .int .i64 (9 + v), .string ⟨#[64, 116, 105, 109, 101]⟩, .string ⟨#[]⟩, .int .i64 n, .slice none 0 0]).alloc (.cells #[.int .i64 t.op, .string t.nm, .string t.tx, .int .i64 t.num, .slice t.ka t.kids.length t.kc, .int .i64 (9 + v), .string ⟨#[64, 116, 105, 109, 101]⟩, .string ⟨#[]⟩, .int .i64 n, .slice none 0 0, .int .i64 6, .string ⟨#[]⟩, .string ⟨#[]⟩, .int .i64 0, .slice (some ⟨w4.heap.size + 1, 0, none⟩) 2 2, .int .i64 7, .string ⟨#[]⟩, .string ⟨#[]⟩, .int .i64 0, .slice (some ⟨w4.heap.size + 1 + 1, 0, none⟩) 2 2] 26))
  have hB4 : Blk W (b + 1 + 1 + 1) 26 #[.int .i64 t.op, .string t.nm, .string t.tx, .int .i64 t.num, .slice t.ka t.kids.length t.kc, .int .i64 (9 + v), .string ⟨#[64, 116, 105, 109, 101]⟩, .string ⟨#[]⟩, .int .i64 n, .slice none 0 0, .int .i64 6, .string ⟨#[]⟩, .string ⟨#[]⟩, .int .i64 0, .slice (some ⟨w4.heap.size + 1, 0, none⟩) 2 2, .int .i64 7, .string ⟨#[]⟩, .string ⟨#[]⟩, .int .i64 0, .slice (some ⟨w4.heap.size + 1 + 1, 0, none⟩) 2 2] := by rw [hWd, hb]; simpa using (Blk.new (((w4.alloc (.cells #[.int .i64 (9 + v), .string ⟨#[64, 116, 105, 109, 101]⟩, .string ⟨#[]⟩, .int .i64 n, .slice none 0 0] 26)).alloc (.cells #[.int .i64 t.op, .string t.nm, .string t.tx, .int .i64 t.num, .slice t.ka t.kids.length t.kc, .int .i64 (9 + v), .string ⟨#[64, 116, 105, 109, 101]⟩, .string ⟨#[]⟩, .int .i64 n, .slice none 0 0] 26)).alloc (.cells #[.int .i64 t.op, .string t.nm, .string t.tx, .int .i64 t.num, .slice t.ka t.kids.length t.kc, .int .i64 (9 + v), .string ⟨#[64, 116, 105, 109, 101]⟩, .string ⟨#[]⟩, .int .i64 n, .slice none 0 0] 26)) 26 #[.int .i64 t.op, .string t.nm, .string t.tx, .int .i64 t.num, .slice t.ka t.kids.length t.kc, .int .i64 (9 + v), .string ⟨#[64, 116, 105, 109, 101]⟩, .string ⟨#[]⟩, .int .i64 n, .slice none 0 0, .int .i64 6, .string ⟨#[]⟩, .string ⟨#[]⟩, .int .i64 0, .slice (some ⟨w4.heap.size + 1, 0, none⟩) 2 2, .int .i64 7, .string ⟨#[]⟩, .string ⟨#[]⟩, .int .i64 0, .slice (some ⟨w4.heap.size + 1 + 1, 0, none⟩) 2 2])
  have hgW : w4.grownBy W none := by rw [hWd]; exact only_alloc (only_alloc (only_alloc (only_alloc (only_refl _ _) _) _) _) _
  rw [← hb] at hB4 ⊢
  clear hWd
  obtain ⟨u, hu⟩ : ∃ u : TT, u = .mk (9 + v) ⟨#[64, 116, 105, 109, 101]⟩ ⟨#[]⟩ n none 0 [] := ⟨_, rfl⟩
  have huok : u.Ok 4 := by rw [hu]; exact TT.Ok.leaf (by omega) (by decide) (by omega) (by omega)
  have husub : u.Sub 4 (fun _ => True) W := by rw [hu]; exact TT.Sub.leaf
  have htsub : t.Sub 4 (fun _ => True) W := (HS4.out.grown hgW (by simp)).mono (fun _ _ _ => trivial)
  have hA1 := TT.pair_sub (op := 6) htsub husub (b := b + 1) (by rw [hu]; exact hBA) trivial
  have hO1 := TT.pair_sub (op := 7) htsub husub (b := b + 1 + 1) (by rw [hu]; exact hBO) trivial
  have hA2 := TT.pair_ok (op := 6) (ka := some ⟨b + 1, 0, none⟩) (kc := 2) HOK.out huok (.inl rfl)
  have hO2 := TT.pair_ok (op := 7) (ka := some ⟨b + 1 + 1, 0, none⟩) (kc := 2) HOK.out huok (.inr rfl)
  obtain ⟨xs, hxs⟩ : ∃ xs, xs = [t, u, TT.mk 6 ⟨#[]⟩ ⟨#[]⟩ 0 (some ⟨b + 1, 0, none⟩) 2 [t, u], TT.mk 7 ⟨#[]⟩ ⟨#[]⟩ 0 (some ⟨b + 1 + 1, 0, none⟩) 2 [t, u]] := ⟨_, rfl⟩
  have HX : Hid (∀ y ∈ xs, y.Ok 5 ∧ y.Sub 5 (fun _ => True) W) := by
    intro y hy
    rw [hxs] at hy
    simp only [List.mem_cons, List.not_mem_nil, or_false] at hy
    rcases hy with rfl | rfl | rfl | rfl
    · exact ⟨HOK.out.up, htsub.up⟩
    · exact ⟨huok.up, husub.up⟩
    · exact ⟨hA2, hA1⟩
    · exact ⟨hO2, hO1⟩
  have HRD : Hid (Rd (fun _ => True) W (some ⟨b + 1 + 1 + 1, 0, none⟩) (xs.flatMap TT.cells)) := fun _ => ⟨b + 1 + 1 + 1, 0, rfl, trivial, hB4.lt, fun j w' hw' => by
    rw [Nat.zero_add, hB4.cell j]
    rw [hxs, hu] at hw'
    simpa [TT.cells, TT.op, TT.nm, TT.tx, TT.num, TT.ka, TT.kc, TT.kids] using hw'⟩
  have hxl : xs.length = 4 := by rw [hxs]; rfl
  have GW : Hid (w.grownBy W none) := only_trans G4.out hgW
  have hltW := hB4.lt
  clear hb hBA hBO hB4 hgW huok husub htsub hA1 hO1 hA2 hO2 hxs hu HS4 HC4 HB5 G4 hz4 hz4' e0 e1 e2 e3 e4 hne0 hne1 hne2 hne3
  go_loopw [43] (fun i wr => ∃ k : Nat, i = .int .i64 k ∧ k ≤ 4 ∧ W.grownBy wr none) (fun i _ => 4 - (intOf i).toNat)
  case atStart => exact ⟨0, rfl, by omega, only_refl _ _⟩
  case round =>
    obtain ⟨k, rfl, hk, hG⟩ := hrel
    have G := Lib.hid hG
    clear hG
    by_cases hlt : k < 4
    · obtain ⟨y, hy⟩ : ∃ y, xs[k]? = some y := ⟨_, List.getElem?_eq_getElem (by omega)⟩
      obtain ⟨kb, ko, hkb, hkw, z0, z1, z2, z3, z4⟩ := kid_in (HRD.out.grown G.out (by simp)) hy
      obtain ⟨hyok, hysub⟩ := HX.out y (List.mem_of_getElem? hy)
      have HP : Hid (∀ w', wr.grownBy w' none → Calls Tryz.prog 22 #[.agg #[.int .i64 y.op, .string y.nm, .string y.tx, .int .i64 y.num, .slice y.ka y.kids.length y.kc]] w' (PairP w' (rTimes 5 y))) := fun w' hg => by
        rw [← times_eq]
        exact mtimes_any hyok (hysub.grown (only_trans G.out hg) (by simp)) (HW.out.grown (only_trans GW.out (only_trans G.out hg)) (by simp))
      have HQ : Hid (∀ w', wr.grownBy w' none → Calls Tryz.prog 23 #[.agg #[.int .i64 y.op, .string y.nm, .string y.tx, .int .i64 y.num, .slice y.ka y.kids.length y.kc]] w' (PairP w' (rTimes 5 y))) := fun w' hg => rtimes_any 5 y _ w' hyok (hysub.grown (only_trans G.out hg) (by simp))
      obtain ⟨p, hp⟩ : ∃ p, p = rTimes 5 y := ⟨_, rfl⟩
      rw [← hp] at HP HQ
      obtain ⟨p1, p2⟩ := p
      injection hkb with hkb
      injection hkb with hk1 hk2
      subst hk1 hk2
      simp only [Nat.zero_add] at z0 z1 z2 z3 z4
      clear hp hyok hysub hy
      have hne : b + 1 + 1 + 1 ≠ wr.heap.size := by omega
      go_wp2_with fail
      refine (HP.out _ (only_alloc (only_refl _ _) _)).mono ?_
      rintro e w5 ⟨rfl, hg5⟩
      simp only [pairV]
      have HB5 := Lib.hid ((Blk.new wr 26 #[.int .i64 y.op, .string y.nm, .string y.tx, .int .i64 y.num, .slice y.ka y.kids.length y.kc]).grown hg5 (by simp))
      have G5 := Lib.hid (only_trans (only_alloc (only_refl wr none) _) hg5)
      have e0 := HB5.out.cell 0; have e1 := HB5.out.cell 1; have e2 := HB5.out.cell 2; have e3 := HB5.out.cell 3; have e4 := HB5.out.cell 4
      simp at e0 e1 e2 e3 e4
      clear hg5
      go_wp2_with fail
      refine (HQ.out _ G5.out).mono ?_
      rintro e w6 ⟨rfl, hg6⟩
      simp only [pairV]
      have G6 := Lib.hid (only_trans (only_trans G.out G5.out) hg6)
      clear hg6 e0 e1 e2 e3 e4 z0 z1 z2 z3 z4
      go_wp2_with fail
      go_roundw
      case rel => exact ⟨k + 1, by go_num, by omega, G6.out⟩
      case measure => simp [intOf]; omega
    · go_wp2_with fail
      go_ret
      exact ⟨rfl, only_trans GW.out G.out⟩
end Go.Proofs.YtceebhgbebkafaaGreatDoor
