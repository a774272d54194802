/- Build, Check, Encode: the reference of chapter 26. Conditions: sizes. -/
import Derived.Test.YtpaiideboodaeaaGreatDoorJSegG
import Derived.Deep.RegionWith
import Derived.StillTailTactics
import Derived.Deep.DeepCutAuto
import Derived.Test.YtpaiideboodaeaaGreatDoorJInsert
namespace Go.Proofs.YtpaiideboodaeaaGreatDoor
open Go.RowKit
set_option linter.unusedVariables false
set_option linter.unusedSimpArgs false

/-- the words of a filter, as they lie -/
def cellsU (xs : List Int) : Array Value := (xs.map (fun x => Value.int .u64 x)).toArray
theorem cellsU_set (xs : List Int) (q : Nat) (x : Int) : (cellsU xs).setIfInBounds q (.int .u64 x) = cellsU (xs.set q x) := by simp [cellsU, List.map_set]
theorem cellsU_at {xs : List Int} {q : Nat} (h : q < xs.length) : (cellsU xs)[q]? = some (.int .u64 (xs.getD q 0)) := by simp [cellsU, h]
theorem cellsU_zero (n : Nat) : Array.replicate n (Value.int .u64 0) = cellsU (List.replicate n 0) := by simp [cellsU]
def setP (xs : List Int) (p : Nat) : List Int := xs.set (p / 64) (bits BinOp.or IntKind.u64 (xs.getD (p / 64) 0) (IntKind.u64.wrap (2 ^ (p % 64))))
theorem setP_len (xs : List Int) (p : Nat) : (setP xs p).length = xs.length := by simp [setP]
def bitsT (n : Nat) (xs : List Int) (s : ByteArray) : List Int := (List.range 3).foldl (fun xs i => setP xs (placeX n (bts s) i)) xs
theorem bitsK_len (n : Nat) (s : ByteArray) (xs : List Int) : ∀ l : List Nat, (l.foldl (fun xs i => setP xs (placeX n (bts s) i)) xs).length = xs.length := by
  intro l
  induction l generalizing xs with
  | nil => rfl
  | cons a l ih => rw [List.foldl_cons, ih, setP_len]
theorem bitsT_len (n : Nat) (xs : List Int) (s : ByteArray) : (bitsT n xs s).length = xs.length := bitsK_len n s xs _
def bitsN (n : Nat) (ws : List ByteArray) : List Int := ws.foldl (bitsT n) (List.replicate n 0)
theorem bitsN_len (n : Nat) (ws : List ByteArray) : (bitsN n ws).length = n := by
  have key : ∀ (l : List ByteArray) (xs : List Int), (l.foldl (bitsT n) xs).length = xs.length := by
    intro l
    induction l with
    | nil => intro _; rfl
    | cons a l ih => intro xs; rw [List.foldl_cons, ih, bitsT_len]
  unfold bitsN
  rw [key, List.length_replicate]
theorem posX_at (n : Nat) (bs : List Int) {k : Nat} (hk : k < 3) : (posX n bs)[k]? = some (placeX n bs k : Int) := by
  unfold posX
  rw [List.getElem?_map, List.getElem?_range hk]
  rfl
theorem posX_len (n : Nat) (bs : List Int) : (posX n bs).length = 3 := by unfold posX; rw [List.length_map, List.length_range]
theorem placeX_lt {n : Nat} (h : 1 ≤ n) (bs : List Int) (i : Nat) : placeX n bs i / 64 < n := by
  have : placeX n bs i < 64 * n := Nat.mod_lt _ (by omega)
  omega
def sizeF (m : Nat) : Nat := (min 65536 (max 1 m * 10) + 63) / 64
theorem sizeF_in (m : Nat) : 1 ≤ sizeF m ∧ sizeF m ≤ 1024 := by unfold sizeF; omega
set_option maxHeartbeats 8000000 in
set_option maxRecDepth 100000 in
theorem fbuild_any {S : Nat → Prop} (A : Option Addr) (ws : List ByteArray) (c : Nat) (w : World) (h : Rd S w A (ws.map .string)) (hl : ws.length ≤ 1000000) (hz : ∀ x ∈ ws, x.size ≤ 100000) :
    Calls Tryz.prog 151 #[.slice A ws.length c, .int .i64 10] w (fun e w' => ∃ g, e = .returned (.tuple #[.agg #[.int .i64 3, .slice (some ⟨g, 0, none⟩) (sizeF ws.length) (sizeF ws.length)], .int .i64 0]) ∧ w.heap.size ≤ g ∧ Blk w' g 69 (cellsU (bitsN (sizeF ws.length) ws)) ∧ w.grownBy w' none) := by
  have H := Lib.hid h
  have HZ := Lib.hid hz
  obtain ⟨n, hn⟩ : ∃ n, n = sizeF ws.length := ⟨_, rfl⟩
  obtain ⟨hn1, hn2⟩ := sizeF_in ws.length
  rw [← hn] at hn1 hn2 ⊢
  have HMIN : Hid (min (65536 : Int) (max 1 (ws.length : Int) * 10) = ((min 65536 (max 1 ws.length * 10) : Nat) : Int)) := Lib.hid (by omega)
  have KN := Lib.hid (fun w' => fnew_any (min 65536 (max 1 ws.length * 10)) n hn (by omega) (by omega) w')
  have KP := Lib.hid (fun A c s w' hs => positions_any A n c hn1 hn2 s hs w')
  have HB0 : Hid (bitsN n (ws.take 0) = List.replicate n 0) := Lib.hid rfl
  have HB1 : Hid (∀ k s, ws[k]? = some s → bitsN n (ws.take (k + 1)) = bitsT n (bitsN n (ws.take k)) s) := Lib.hid (fun k s hs => by
    obtain ⟨h1, h2⟩ := List.getElem?_eq_some_iff.1 hs
    unfold bitsN
    rw [List.take_succ_eq_append_getElem h1, h2, List.foldl_append]
    rfl)
  have HBL := Lib.hid (bitsN_len n)
  clear h hz hn
  go_enter Tryz.func151, Tryz.ntmps151
  go_wp2_with fail
  rw [HMIN.out]
  obtain ⟨rb, hrb⟩ : ∃ b, b = w.heap.size := ⟨_, rfl⟩
  obtain ⟨W0, hW0⟩ : ∃ W, W = w.alloc (.cells #[.int .i64 0, .slice none 0 0] 36) := ⟨_, rfl⟩
  have hBR : Blk W0 rb 36 #[.int .i64 0, .slice none 0 0] := by rw [hW0, hrb]; exact Blk.new _ _ _
  have hG0 : w.grownBy W0 none := by rw [hW0]; exact only_alloc (only_refl _ _) _
  have HRB := Lib.hid hrb
  rw [← hW0, ← hrb]
  clear hW0 hrb
  refine (KN.out W0).mono ?_
  rintro e w1 ⟨g, rfl, hg, hB, hG⟩
  have BG1 : Hid (Blk w1 g 69 (cellsU (bitsN n (ws.take 0)))) := Lib.hid (by rw [HB0.out, ← cellsU_zero]; exact hB)
  have BR1 := Lib.hid (hBR.grown hG (by simp))
  have G1 := Lib.hid (only_trans hG0 hG)
  have hrg : rb < g := by have := hBR.lt; omega
  clear hB hG hBR hG0 HB0
  go_wp2_with fail
  obtain ⟨fb, hfb⟩ : ∃ b, b = w1.heap.size := ⟨_, rfl⟩
  obtain ⟨W2, hW2⟩ : ∃ W, W = w1.alloc (.cells #[.int .i64 3, .slice (some ⟨g, 0, none⟩) n n] 36) := ⟨_, rfl⟩
  have hBF : Blk W2 fb 36 #[.int .i64 3, .slice (some ⟨g, 0, none⟩) n n] := by rw [hW2, hfb]; exact Blk.new _ _ _
  have hG2 : w1.grownBy W2 none := by rw [hW2]; exact only_alloc (only_refl _ _) _
  have BF2 := Lib.hid hBF
  have BG2 := Lib.hid (BG1.out.grown hG2 (by simp))
  have BR2 := Lib.hid (BR1.out.grown hG2 (by simp))
  have G2 := Lib.hid (only_trans G1.out hG2)
  have hgf : g < fb := by rw [hfb]; exact BG1.out.lt
  rw [← hW2, ← hfb]
  clear hW2 hfb hBF hG2 BG1 BR1 G1
  go_loopw [8] (fun vi wr => ∃ k : Nat, vi = .int .i64 k ∧ k ≤ ws.length ∧ Blk wr g 69 (cellsU (bitsN n (ws.take k))) ∧ Blk wr rb 36 #[.int .i64 0, .slice none 0 0] ∧ Blk wr fb 36 #[.int .i64 3, .slice (some ⟨g, 0, none⟩) n n] ∧ w.grownBy wr none) (fun vi _ => ws.length - (intOf vi).toNat)
  case atStart => exact ⟨0, rfl, Nat.zero_le _, BG2.out, BR2.out, BF2.out, G2.out⟩
  case round =>
    clear BG2 BR2 BF2 G2
    obtain ⟨k, rfl, hk, hBG, hBR, hBF, hG⟩ := hrel
    have BG := Lib.hid hBG
    have BR := Lib.hid hBR
    have BF := Lib.hid hBF
    have GG := Lib.hid hG
    have f0 := hBF.cell 0; have f1 := hBF.cell 1
    simp only [List.size_toArray, List.length_cons, List.length_nil, Nat.zero_add, Nat.reduceAdd, Nat.reduceLT, getElem?_pos, List.getElem_toArray, List.getElem_cons_zero, List.getElem_cons_succ] at f0 f1
    clear hBG hBR hBF hG
    by_cases hlt : k < ws.length
    · obtain ⟨b, off, x, rfl, hc, hx⟩ := (H.out.grown GG.out (by simp)).str_at hlt
      have HS1 := Lib.hid (HB1.out k x hx.out)
      have hxz := HZ.out x (List.mem_of_getElem? hx.out)
      have i1 : (k : Int) < (ws.length : Int) := by omega
      have KPx := Lib.hid (fun w' => KP.out (some ⟨g, 0, none⟩) n x w' hxz)
      obtain ⟨xs, hxs⟩ : ∃ xs, xs = bitsN n (ws.take k) := ⟨_, rfl⟩
      have HXL : Hid (xs.length = n) := Lib.hid (by rw [hxs]; exact HBL.out _)
      rw [← hxs] at BG HS1
      clear hx hxs
      have hpl := posX_len n (bts x)
      obtain ⟨ps, hps⟩ : ∃ ps, ps = posX n (bts x) := ⟨_, rfl⟩
      have HPA : Hid (∀ j, j < 3 → ps[j]? = some (placeX n (bts x) j : Int)) := Lib.hid (fun j hj => by rw [hps]; exact posX_at n _ hj)
      rw [← hps] at hpl
      have HPL := Lib.hid hpl
      have KPx : Hid (∀ w', Calls Tryz.prog 200 #[.agg #[.int .i64 3, .slice (some ⟨g, 0, none⟩) n n], .string x] w' (PosP w' ps)) := Lib.hid (by rw [hps]; exact KPx.out)
      clear hps hpl
      have hfw : fb < wr.heap.size := BF.out.lt
      go_upto_region 7 with fail
      go_cut [9] (fun v wx => ∃ (AP : Option Addr) (cP : Nat), v = .slice AP 3 cP ∧ Rd (fun b => fb < b) wx AP (ps.map (.int .i64)) ∧ wr.grownBy wx none)
      case first =>
        go_region_with (go_at_call 200; refine (KPx.out _).mono ?_; rintro e w4 ⟨AP, cP, rfl, hp1, hp2, hp3, hg4⟩; rw [HPL.out])
        all_goals
          go_wp2_with fail
          go_meet
          exact ⟨AP, cP, rfl, hp3.mono (fun b hb _ => by have h1 : wr.heap.size ≤ b := hb; omega), only_trans (only_drew (only_refl _ _)) hg4⟩
      case rest =>
      obtain ⟨AP, cP, rfl, hp3, hg4⟩ := hcut
      have RP4 := Lib.hid hp3
      have BG4 := Lib.hid (BG.out.grown hg4 (by simp))
      have BR4 := Lib.hid (BR.out.grown hg4 (by simp))
      have BF4 := Lib.hid (BF.out.grown hg4 (by simp))
      have G4 := Lib.hid (only_trans GG.out hg4)
      have HPT : Hid (∀ j, placeX n (bts x) j / 64 < n) := Lib.hid (fun j => placeX_lt hn1 _ j)
      have HBT : Hid (bitsT n xs x = (List.range 3).foldl (fun xs i => setP xs (placeX n (bts x) i)) xs) := Lib.hid rfl
      have HBK : Hid (∀ j, ((List.range (j + 1)).foldl (fun xs i => setP xs (placeX n (bts x) i)) xs) = setP ((List.range j).foldl (fun xs i => setP xs (placeX n (bts x) i)) xs) (placeX n (bts x) j)) := Lib.hid (fun j => by rw [List.range_succ, List.foldl_append]; rfl)
      have HBN : Hid (∀ j, ((List.range j).foldl (fun xs i => setP xs (placeX n (bts x) i)) xs).length = n) := Lib.hid (fun j => by rw [bitsK_len]; exact HXL.out)
      clear hp3 hg4 f0 f1 hc BG BR BF GG hfw KPx HPL
      go_wp2_with fail
      obtain ⟨wo, rfl⟩ : ∃ wo : World, wo = wr := ⟨_, rfl⟩
      go_loopw [10] (fun vj wr => ∃ (j : Nat) (ys : List Int), vj = .int .i64 j ∧ j ≤ 3 ∧ Hid (ys = (List.range j).foldl (fun xs i => setP xs (placeX n (bts x) i)) xs) ∧ Blk wr g 69 (cellsU ys) ∧ Blk wr rb 36 #[.int .i64 0, .slice none 0 0] ∧ Blk wr fb 36 #[.int .i64 3, .slice (some ⟨g, 0, none⟩) n n] ∧ Rd (fun b => fb < b) wr AP (ps.map (.int .i64)) ∧ w.grownBy wr none) (fun vj _ => 3 - (intOf vj).toNat)
      case atStart => exact ⟨0, xs, rfl, by omega, Lib.hid rfl, BG4.out, BR4.out, BF4.out, RP4.out, G4.out⟩
      case round =>
        clear BG4 BR4 BF4 RP4 G4
        obtain ⟨j, ys, rfl, hj, HY, hBG, hBR, hBF, hRP, hG⟩ := hrel
        have BG := Lib.hid hBG
        have BR := Lib.hid hBR
        have BF := Lib.hid hBF
        have RP := Lib.hid hRP
        have GG := Lib.hid hG
        have f0 := hBF.cell 0; have f1 := hBF.cell 1
        simp only [List.size_toArray, List.length_cons, List.length_nil, Nat.zero_add, Nat.reduceAdd, Nat.reduceLT, getElem?_pos, List.getElem_toArray, List.getElem_cons_zero, List.getElem_cons_succ] at f0 f1
        clear hBG hBR hBF hG hRP
        by_cases hlt3 : j < 3
        · obtain ⟨p, hp⟩ : ∃ p, p = placeX n (bts x) j := ⟨_, rfl⟩
          have hps := HPA.out j hlt3
          have hpq := HPT.out j
          have hyl := HBN.out j
          have HN := Lib.hid (HBK.out j)
          rw [← HY.out] at hyl HN
          rw [← hp] at hps hpq HN
          obtain ⟨pb, po, eA, hpb, -, hpc⟩ := RP.out (by rw [List.length_map]; exact Nat.lt_of_le_of_lt (Nat.zero_le _) (List.getElem?_eq_some_iff.1 hps).1)
          have hcp := hpc j (.int .i64 p) (by rw [List.getElem?_map, hps]; rfl)
          obtain ⟨q, hq⟩ : ∃ q, q = p / 64 := ⟨_, rfl⟩
          rw [← hq] at hpq
          have hcq : wr.cell? ⟨g, q, none⟩ = some (.int .u64 (ys.getD q 0)) := (BG.out.cell q).trans (cellsU_at (by omega))
          have hfq := BG.out.frozen q
          obtain ⟨v, hv⟩ : ∃ v, v = ys.getD q 0 := ⟨_, rfl⟩
          rw [← hv] at hcq
          have eq1 : (p : Int) / 64 = (q : Int) := by omega
          have hqw : IntKind.i64.wrap (q : Int) = (q : Int) := IntWalk.i64_in _ (by omega)
          obtain ⟨r, hr⟩ : ∃ r, r = p % 64 := ⟨_, rfl⟩
          have ER : Hid ((p : Int).tmod 64 = (r : Int)) := Lib.hid (by rw [Int.tmod_eq_emod_of_nonneg (by omega)]; omega)
          have hrw : IntKind.i64.wrap (r : Int) = (r : Int) := IntWalk.i64_in _ (by omega)
          have hrl : r < 64 := by omega
          have HN2 : Hid (ys.set q (bits BinOp.or IntKind.u64 v (IntKind.u64.wrap (2 ^ r))) = (List.range (j + 1)).foldl (fun xs i => setP xs (placeX n (bts x) i)) xs) := Lib.hid (by rw [HN.out, setP, ← hq, ← hr, ← hv])
          have i1 : (j : Int) < 3 := by omega
          have i2 : (q : Int) < (n : Int) := by omega
          subst eA
          clear hps hpc hp hq hv hyl hr
          go_upto_region 11 with fail
          have er1 := ER.out
          go_still_tail 17, (by kernel_rfl)
          clear er1
          go_wp2_with fail
          obtain ⟨W9, hW9⟩ : ∃ W, W = (wr.setCell ⟨g, q, none⟩ (.int .u64 (bits BinOp.or IntKind.u64 v (IntKind.u64.wrap (2 ^ r))))).drew := ⟨_, rfl⟩
          have hg9 : wr.grownBy W9 (some g) := by rw [hW9]; exact only_drew (only_setB wr (p := ⟨g, q, none⟩) _)
          have BG9 : Hid (Blk W9 g 69 (cellsU (ys.set q (bits BinOp.or IntKind.u64 v (IntKind.u64.wrap (2 ^ r)))))) := Lib.hid (by rw [hW9, ← cellsU_set]; exact (BG.out.set_ q _).drew)
          have BR9 := Lib.hid (BR.out.grown hg9 (by simp; omega))
          have BF9 := Lib.hid (BF.out.grown hg9 (by simp; omega))
          have RP9 := Lib.hid (RP.out.grown hg9 (fun b hb e => by injection e with e; have h1 : fb < b := hb; omega))
          have G9 : Hid (w.grownBy W9 none) := Lib.hid (only_fresh GG.out hg9 (by have := HRB.out; omega))
          rw [← hW9]
          clear hW9 hg9
          go_roundw
          case rel => exact ⟨j + 1, _, by go_num, by omega, HN2, BG9.out, BR9.out, BF9.out, RP9.out, G9.out⟩
          case measure => simp [intOf]; omega
        · have hjE : j = 3 := by omega
          have HB9 : Hid (ys = bitsN n (ws.take (k + 1))) := Lib.hid (by rw [HY.out, HS1.out, HBT.out, hjE])
          have BG9 : Hid (Blk wr g 69 (cellsU (bitsN n (ws.take (k + 1))))) := Lib.hid (by rw [← HB9.out]; exact BG.out)
          have i1 : ¬ (j : Int) < 3 := by omega
          clear hjE
          go_wp2_with fail
          go_roundw
          case rel => exact ⟨k + 1, by go_num, by omega, BG9.out, BR.out, BF.out, GG.out⟩
          case measure => simp [intOf]; omega
    · have hkE : k = ws.length := by omega
      have i1 : ¬ (k : Int) < (ws.length : Int) := by omega
      have q0 := BR.out.cell 0; have q1 := BR.out.cell 1
      have z0 := BR.out.frozen 0; have z1 := BR.out.frozen 1
      simp only [List.size_toArray, List.length_cons, List.length_nil, Nat.zero_add, Nat.reduceAdd, Nat.reduceLT, getElem?_pos, List.getElem_toArray, List.getElem_cons_zero, List.getElem_cons_succ] at q0 q1
      have hBE : bitsN n (ws.take k) = bitsN n ws := by rw [List.take_of_length_le (by omega)]
      have BG9 : Hid (Blk wr g 69 (cellsU (bitsN n ws))) := Lib.hid (by rw [← hBE]; exact BG.out)
      clear hBE
      go_wp2_with fail
      have hgE : w.heap.size ≤ g := by have := HRB.out; omega
      obtain ⟨W9, hW9⟩ : ∃ W, W = (wr.setCell ⟨rb, 0, none⟩ (.int .i64 3)).setCell ⟨rb, 1, none⟩ (.slice (some ⟨g, 0, none⟩) n n) := ⟨_, rfl⟩
      have hb9 : Blk W9 rb 36 #[.int .i64 3, .slice (some ⟨g, 0, none⟩) n n] := by rw [hW9]; simpa using (BR.out.set_ 0 (.int .i64 3)).set_ 1 (.slice (some ⟨g, 0, none⟩) n n)
      have hg9 : w.grownBy W9 none := by rw [hW9]; exact only_setN (only_setN GG.out (by rw [HRB.out]; exact Nat.le_refl _) _) (by rw [HRB.out]; exact Nat.le_refl _) _
      have hk9 : Blk W9 g 69 (cellsU (bitsN n ws)) := by
        rw [hW9]
        exact (BG9.out.grown (only_setB wr _) (by simp; omega)).grown (only_setB _ _) (by simp; omega)
      rw [← hW9]
      clear hW9 q0 q1 z0 z1
      have q0 := hb9.cell 0; have q1 := hb9.cell 1
      simp only [List.size_toArray, List.length_cons, List.length_nil, Nat.zero_add, Nat.reduceAdd, Nat.reduceLT, getElem?_pos, List.getElem_toArray, List.getElem_cons_zero, List.getElem_cons_succ] at q0 q1
      exact bodyPost_ret (v := .tuple #[.agg #[.int .i64 3, .slice (some ⟨g, 0, none⟩) n n], .int .i64 0]) (by simp [results, Tryz.results151, go_sem, q0, q1]) rfl ⟨g, rfl, hgE, hk9, hg9⟩
end Go.Proofs.YtpaiideboodaeaaGreatDoor

namespace Go.Proofs.YtpaiideboodaeaaGreatDoor
open Go.RowKit
set_option linter.unusedVariables false
set_option linter.unusedSimpArgs false

theorem own_lit {w : World} {base e n : Nat} (cs : Array Value) (hb : base ≤ w.heap.size) (hn : cs.size = n) (hm : n ≤ 1000) : (w.alloc (.cells cs e)).ownsRow base e 1 (.slice (some ⟨w.heap.size, 0, none⟩) n n) n cs.toList :=
  ⟨by rw [Array.length_toList, hn, Nat.mul_one], .inr ⟨w.heap.size, n, cs, rfl, hb, heap_alloc_new w _, Nat.le_refl _, by unfold maxLen; omega, by rw [hn, Nat.mul_one], by rw [Nat.mul_one, List.take_of_length_le (by rw [Array.length_toList]; omega)]⟩⟩
set_option maxHeartbeats 4000000 in
set_option maxRecDepth 100000 in
theorem fcheck_any (A : Option Addr) (n c : Nat) (hn : 1 ≤ n) (hn2 : n ≤ 1024) (w : World) :
    Calls Tryz.prog 35 #[.agg #[.int .i64 3, .slice A n c]] w (fun e w' => e = .returned (.int .i64 0) ∧ w.grownBy w' none) := by
  have i1 : ¬ (n : Int) < 1 := by omega
  have i2 : ¬ (1024 : Int) < (n : Int) := by omega
  have i3 : ¬ n < 1 := by omega
  have i4 : ¬ 1024 < n := by omega
  have i5 : ¬ n = 0 := by omega
  go_enter Tryz.func35, Tryz.ntmps35
  go_wp2_with fail
  go_ret
  exact ⟨rfl, only_alloc (only_refl _ _) _⟩
def byteL (x : Int) (m : Nat) : List Int := (List.range m).map (fun k => x / 2 ^ (8 * k) % 256)
def encF (n : Nat) (xs : List Int) : List Int := [3, ((n / 256 % 256 : Nat) : Int), ((n % 256 : Nat) : Int)] ++ xs.flatMap (fun x => byteL x 8)
theorem byteL_len (x : Int) (m : Nat) : (byteL x m).length = m := by unfold byteL; rw [List.length_map, List.length_range]
theorem byteL_step (x : Int) (m : Nat) : byteL x (m + 1) = byteL x m ++ [x / 2 ^ (8 * m) % 256] := by unfold byteL; rw [List.range_succ, List.map_append]; rfl
theorem encF_flat (xs : List Int) : (xs.flatMap (fun x => byteL x 8)).length = 8 * xs.length := by
  induction xs with
  | nil => rfl
  | cons x xs ih => rw [List.flatMap_cons, List.length_append, ih, byteL_len, List.length_cons]; omega
theorem encF_len (n : Nat) (xs : List Int) : (encF n xs).length = 3 + 8 * xs.length := by
  unfold encF
  rw [List.length_append, encF_flat]
  rfl
set_option maxHeartbeats 8000000 in
set_option maxRecDepth 100000 in
theorem fencode_any (A : Option Addr) (n c : Nat) (hn : 1 ≤ n) (hn2 : n ≤ 1024) (xs : List Int) (hl : xs.length = n) (w : World) (h : Rd (fun _ => True) w A (xs.map (.int .u64))) :
    Calls Tryz.prog 152 #[.agg #[.int .i64 3, .slice A n c]] w (fun e w' => ∃ v, e = .returned (.tuple #[v, .int .i64 0]) ∧ Byts w.heap.size w' v (encF n xs) ∧ w.grownBy w' none) := by
  have H := Lib.hid (h.mono (S' := fun b => b < w.heap.size) (fun b _ h => h))
  have HL := Lib.hid hl
  have KC := Lib.hid (fun w' => fcheck_any A n c hn hn2 w')
  have HX : Hid (encF n xs = [3, ((n / 256 % 256 : Nat) : Int), ((n % 256 : Nat) : Int)] ++ xs.flatMap (fun x => byteL x 8)) := Lib.hid rfl
  have HSN : Hid (∀ k x, xs[k]? = some x → (xs.take (k + 1)).flatMap (fun x => byteL x 8) = (xs.take k).flatMap (fun x => byteL x 8) ++ byteL x 8) := Lib.hid (fun k x hx => flat_snoc (fun x => byteL x 8) hx)
  have HFL : Hid (∀ k, ((xs.take k).flatMap (fun x => byteL x 8)).length ≤ 8192) := Lib.hid (fun k => by rw [encF_flat, List.length_take]; omega)
  have HBS := Lib.hid byteL_step
  obtain ⟨R, hR⟩ : ∃ r, r = encF n xs := ⟨_, rfl⟩
  rw [← hR] at HX ⊢
  clear h hl hR
  have e1 : (n : Int) / 256 = ((n / 256 % 256 : Nat) : Int) := by omega
  have e2 : (n : Int) % 256 = ((n % 256 : Nat) : Int) := by omega
  have E12 := Lib.hid (And.intro e1 e2)
  clear e1 e2
  go_enter Tryz.func152, Tryz.ntmps152
  go_wp2_with fail
  obtain ⟨fb, hfb⟩ : ∃ b, b = w.heap.size := ⟨_, rfl⟩
  obtain ⟨W, hW⟩ : ∃ W, W = w.alloc (.cells #[.int .i64 3, .slice A n c] 36) := ⟨_, rfl⟩
  have hBF : Blk W fb 36 #[.int .i64 3, .slice A n c] := by rw [hW, hfb]; exact Blk.new _ _ _
  have hG0 : w.grownBy W none := by rw [hW]; exact only_alloc (only_refl _ _) _
  rw [← hW, ← hfb]
  clear hW hfb
  refine (KC.out W).mono ?_
  rintro e w1 ⟨rfl, hg1⟩
  have BF := Lib.hid (hBF.grown hg1 (by simp))
  have G1 := Lib.hid (only_trans hG0 hg1)
  have H1 := Lib.hid (H.out.grown (only_trans hG0 hg1) (by simp))
  have f0 := BF.out.cell 0; have f1 := BF.out.cell 1
  simp only [List.size_toArray, List.length_cons, List.length_nil, Nat.zero_add, Nat.reduceAdd, Nat.reduceLT, getElem?_pos, List.getElem_toArray, List.getElem_cons_zero, List.getElem_cons_succ] at f0 f1
  clear hBF hG0 hg1 KC H
  go_wp2_with fail
  have O1 : Hid ((w1.alloc (.cells #[.int .u8 3, .int .u8 ((n : Int) / 256), .int .u8 ((n : Int) % 256)] 5)).ownsRow w1.heap.size 5 1 (.slice (some ⟨w1.heap.size, 0, none⟩) 3 3) 3 [.int .u8 3, .int .u8 ((n : Int) / 256), .int .u8 ((n : Int) % 256)]) := Lib.hid (own_lit _ (Nat.le_refl _) rfl (by decide))
  have B1 : Hid (Byts w1.heap.size (w1.alloc (.cells #[.int .u8 3, .int .u8 ((n : Int) / 256), .int .u8 ((n : Int) % 256)] 5)) (.slice (some ⟨w1.heap.size, 0, none⟩) 3 3) ([3, ((n / 256 % 256 : Nat) : Int), ((n % 256 : Nat) : Int)] ++ (xs.take 0).flatMap (fun x => byteL x 8))) := Lib.hid (by
    unfold Byts
    rw [← E12.out.1, ← E12.out.2]
    exact O1.out)
  have G2 : Hid (w1.grownBy (w1.alloc (.cells #[.int .u8 3, .int .u8 ((n : Int) / 256), .int .u8 ((n : Int) % 256)] 5)) none) := Lib.hid (only_alloc (only_refl _ _) _)
  clear O1 E12
  obtain ⟨hd3, hh3⟩ : ∃ h : List Int, h = [3, ((n / 256 % 256 : Nat) : Int), ((n % 256 : Nat) : Int)] := ⟨_, rfl⟩
  have h3l : hd3.length = 3 := by rw [hh3]; rfl
  rw [← hh3] at HX B1
  clear hh3
  go_loopw [5, 6] (fun v vi wr => ∃ k : Nat, vi = .int .i64 k ∧ k ≤ n ∧ Byts w1.heap.size wr v (hd3 ++ (xs.take k).flatMap (fun x => byteL x 8)) ∧ w1.grownBy wr none) (fun _ vi _ => n - (intOf vi).toNat)
  case atStart => exact ⟨0, rfl, Nat.zero_le _, B1.out, G2.out⟩
  case round =>
    clear B1 G2
    obtain ⟨k, rfl, hk, hB, hG⟩ := hrel
    have B := Lib.hid hB
    have G := Lib.hid hG
    have hbase := hG.size
    clear f0 f1
    have BF2 := Lib.hid (BF.out.grown hG (by simp))
    have f0 := BF2.out.cell 0; have f1 := BF2.out.cell 1
    simp only [List.size_toArray, List.length_cons, List.length_nil, Nat.zero_add, Nat.reduceAdd, Nat.reduceLT, getElem?_pos, List.getElem_toArray, List.getElem_cons_zero, List.getElem_cons_succ] at f0 f1
    obtain ⟨vO, hvO⟩ : ∃ v, v = u5 := ⟨_, rfl⟩
    rw [← hvO] at B ⊢
    clear hB hG hvO
    by_cases hlt : k < n
    · obtain ⟨x, hx⟩ : ∃ x, xs[k]? = some x := ⟨_, List.getElem?_eq_getElem (by rw [HL.out]; exact hlt)⟩
      have HS1 := Lib.hid (HSN.out k x hx)
      have hfl := HFL.out k
      obtain ⟨pre, hpre⟩ : ∃ p, p = hd3 ++ (xs.take k).flatMap (fun x => byteL x 8) := ⟨_, rfl⟩
      have hpl : pre.length ≤ 8195 := by rw [hpre, List.length_append]; omega
      have HPRE := Lib.hid hpre
      rw [← hpre] at B
      have HXK := Lib.hid hx
      have i1 : (k : Int) < (n : Int) := by omega
      clear hx hpre hfl
      go_wp2_with fail
      obtain ⟨wo, rfl⟩ : ∃ wo : World, wo = wr := ⟨_, rfl⟩
      go_loopw [5, 7] (fun v vj wr => ∃ m : Nat, vj = .int .i64 m ∧ m ≤ 8 ∧ Byts w1.heap.size wr v (pre ++ byteL x m) ∧ w1.grownBy wr none) (fun _ vj _ => 8 - (intOf vj).toNat)
      case atStart => exact ⟨0, rfl, by omega, by simpa [byteL] using B.out, G.out⟩
      case round =>
        clear f0 f1 BF2 B G hbase
        obtain ⟨m, rfl, hm, hB, hG⟩ := hrel
        have B := Lib.hid hB
        have G := Lib.hid hG
        have hbase := hG.size
        have BF2 := Lib.hid (BF.out.grown hG (by simp))
        have f0 := BF2.out.cell 0; have f1 := BF2.out.cell 1
        simp only [List.size_toArray, List.length_cons, List.length_nil, Nat.zero_add, Nat.reduceAdd, Nat.reduceLT, getElem?_pos, List.getElem_toArray, List.getElem_cons_zero, List.getElem_cons_succ] at f0 f1
        obtain ⟨xb, xo, eA, hxb, -, hxc⟩ := (H1.out.grown hG (by simp)) (by rw [List.length_map]; exact Nat.lt_of_le_of_lt (Nat.zero_le _) (List.getElem?_eq_some_iff.1 HXK.out).1)
        have hcx := hxc k (.int .u64 x) (by rw [List.getElem?_map, HXK.out]; rfl)
        obtain ⟨vQ, hvQ⟩ : ∃ v, v = u5 := ⟨_, rfl⟩
        rw [← hvQ] at B ⊢
        rw [eA] at f1
        clear hB hG hvQ hxc
        by_cases hlt8 : m < 8
        · have i2 : (m : Int) < 8 := by omega
          have HBM := Lib.hid (HBS.out x m)
          have hbl := byteL_len x m
          go_wp2_with (at_builtin; go_must (refine wpList_append1 rfl _ _ 22 rfl w1.heap.size Tryz.underlying22 byteInfo rfl (by decide) (v := vQ) (by rfl) (w0 := wr) (cs := #[.int .u8 (x / 2 ^ (8 * m) % 256)]) B.out (by rfl) rfl (by simp [Value.oneCell']) (by decide) (by rw [List.length_append]; omega) (by omega) ?_); intro v5 w5 hown5 hg5 hob5)
          have B5 : Hid (Byts w1.heap.size w5 v5 (pre ++ byteL x (m + 1))) := Lib.hid (by rw [HBM.out, ← List.append_assoc]; exact Byts.snoc hown5)
          have G5 : Hid (w1.grownBy w5 none) := Lib.hid (only_own G.out hg5 B.out (Nat.le_refl _))
          clear hown5 hg5 hob5
          go_wp2_with fail
          go_roundw
          case rel => exact ⟨m + 1, by go_num, by omega, B5.out, G5.out⟩
          case measure => simp [intOf]; omega
        · have hmE : m = 8 := by omega
          have B9 : Hid (Byts w1.heap.size wr vQ (hd3 ++ (xs.take (k + 1)).flatMap (fun x => byteL x 8))) := Lib.hid (by
            rw [HS1.out, ← List.append_assoc, ← HPRE.out, ← hmE]
            exact B.out)
          have i2 : ¬ (m : Int) < 8 := by omega
          clear hmE
          go_wp2_with fail
          go_roundw
          case rel => exact ⟨k + 1, by go_num, by omega, B9.out, G.out⟩
          case measure => simp [intOf]; omega
    · have hkE : k = n := by omega
      have HE : Hid (R = hd3 ++ (xs.take k).flatMap (fun x => byteL x 8)) := Lib.hid (by rw [HX.out, List.take_of_length_le (by rw [HL.out]; omega)])
      have i1 : ¬ (k : Int) < (n : Int) := by omega
      clear hkE
      go_wp2_with fail
      go_ret2
      rw [HE.out]
      exact ⟨vO, rfl, B.out.base G1.out.size, only_trans G1.out G.out⟩
end Go.Proofs.YtpaiideboodaeaaGreatDoor

namespace Go.Proofs.YtpaiideboodaeaaGreatDoor
set_option linter.unusedVariables false
set_option linter.unusedSimpArgs false

def updB (D : Nat → Bool) (i : Nat) : Nat → Bool := fun j => if j = i then true else D j
theorem updB_at (D : Nat → Bool) (i : Nat) : updB D i i = true := by simp [updB]
theorem updB_ne (D : Nat → Bool) {i j : Nat} (h : j ≠ i) : updB D i j = D j := by simp [updB, h]
theorem upd_at (u : Nat → Value) (i : Nat) (v : Value) : upd u i v i = v := by simp [upd]
theorem upd_ne (u : Nat → Value) {i j : Nat} (v : Value) (h : j ≠ i) : upd u i v j = u j := by simp [upd, h]
section
variable {P : Program} {Q : Exit → Act → World → Prop}
/-- what one operation owes: the invariant with it done -/
structure GenOk (P : Program) (Q : Exit → Act → World → Prop) (ops : Array Oper) (hd : List Oper) (a : Act) (J : (Nat → Bool) → (Nat → Value) → World → Prop) (i : Nat) (o : Oper) : Prop where
  step : ∀ (D : Nat → Bool) (u : Nat → Value) (w : World), J D u w → (∀ j, Region.waitsFor .any ops i j = true → D j = true) → D i = false → ∀ K : Act → World → Prop,
    (∀ v w', J (updB D i) (upd u i v) w' → K ((putAll u 0 hd a).put o.dst v) w') →
    if Region.wanted o (yielded ops (putAll u 0 hd a).tmps) = true then o.wp P (putAll u 0 hd a) w K Q else K ((putAll u 0 hd a).put o.dst undef) w
def GensOk (P : Program) (Q : Exit → Act → World → Prop) (ops : Array Oper) (hd : List Oper) (a : Act) (J : (Nat → Bool) → (Nat → Value) → World → Prop) : Nat → List Oper → Prop
  | _, [] => True
  | k, o :: l => GenOk P Q ops hd a J k o ∧ GensOk P Q ops hd a J (k + 1) l
theorem GensOk.at {ops : Array Oper} {hd : List Oper} {a : Act} {J : (Nat → Bool) → (Nat → Value) → World → Prop} : ∀ (l : List Oper) (k i : Nat) (o : Oper), GensOk P Q ops hd a J k l → l[i]? = some o → GenOk P Q ops hd a J (k + i) o
  | [], k, i, o, _, h => by simp at h
  | o' :: l, k, 0, o, hs, h => by simp at h; subst h; exact hs.1
  | o' :: l, k, i + 1, o, hs, h => by rw [show k + (i + 1) = k + 1 + i by omega]; exact GensOk.at l (k + 1) i o hs.2 (by simpa using h)
theorem GensOk.nil {ops : Array Oper} {hd : List Oper} {a : Act} {J : (Nat → Bool) → (Nat → Value) → World → Prop} {k : Nat} : GensOk P Q ops hd a J k [] := trivial
theorem GensOk.cons {ops : Array Oper} {hd : List Oper} {a : Act} {J : (Nat → Bool) → (Nat → Value) → World → Prop} {k : Nat} {o : Oper} {l : List Oper} (h1 : GenOk P Q ops hd a J k o) (h2 : GensOk P Q ops hd a J (k + 1) l) : GensOk P Q ops hd a J k (o :: l) := ⟨h1, h2⟩
def doneOf (L : Array Bool) : Nat → Bool := fun j => L.getD j false
theorem doneOf_set {L : Array Bool} {i : Nat} (hi : i < L.size) : doneOf (L.setIfInBounds i true) = updB (doneOf L) i := by
  funext j
  unfold doneOf updB
  by_cases e : j = i
  · subst e; simp [hi]
  · rw [if_neg e, getD_set_ne false (Ne.symm e)]
structure GenAt (ops : Array Oper) (n : Nat) (hd : List Oper) (a0 : Act) (J : (Nat → Bool) → (Nat → Value) → World → Prop) (L : Array Bool) (a : Act) (w : World) : Prop where
  head : HeadInv .any ops n L
  vals : ∃ u, a = putAll u 0 hd a0 ∧ J (doneOf L) u w

theorem wpAny_of_gen {l : List Oper} {n : Nat} {a0 : Act} {J : (Nat → Bool) → (Nat → Value) → World → Prop}
    (hn : n ≤ l.length) (hw : n = l.length ∨ (Region.sinkB .any l.toArray n = true ∧ Region.chainB .any l.toArray n = true)) (hseq : Region.seqB .any l.toArray (l.length - n) n (headDone n (l.length - n)) = true) (hap : dstApart (l.take n) = true) (hback : backB l.toArray = true)
    (hs : GensOk P Q l.toArray (l.take n) a0 J 0 (l.take n))
    (hend : ∀ D u w, J D u w → (∀ j, j < n → D j = true) → wpList P l.toArray Q (l.drop n) (putAll u 0 (l.take n) a0) w) :
    ∀ (f : Nat) (L : Array Bool) (a : Act) (w : World), openN L n = f → GenAt l.toArray n (l.take n) a0 J L a w → wpAny P .any l.toArray Q (f + (l.length - n)) L a w := by
  intro f
  induction f using Nat.strongRecOn with
  | _ f ih =>
    intro L a w hf hI
    obtain ⟨u, rfl, hJ⟩ := hI.vals
    cases hall : (List.range n).all (fun i => L.getD i false) with
    | true =>
      have hl : ∀ i, i < n → L.getD i false = true := fun i hi => List.all_eq_true.1 hall i (List.mem_range.2 hi)
      have hL := all_listed (by simpa using hn) hI.head hl
      have h0 : f = 0 := by
        rw [← hf]; unfold openN
        rw [List.length_eq_zero_iff, List.filter_eq_nil_iff]
        intro i hi
        have h1 := hl i (List.mem_range.1 hi)
        have hs : i < L.size := by rw [hI.head.size]; have := List.mem_range.1 hi; simp; omega
        simp [hs] at h1 ⊢
        exact h1
      subst h0
      rw [Nat.zero_add]
      have hdl : (l.drop n).length = l.length - n := by simp
      have hL' : L = headDone n (l.length - n) := by simpa using hL
      have := wpAny_of_seq (md := .any) (Q' := Q) (l.drop n) n L (putAll u 0 (l.take n) a0) w (fun j => by simp [List.getElem?_drop]) (by rw [hdl, hL']; exact hseq) (hend (doneOf L) u w hJ hl)
      rw [hdl] at this
      exact this
    | false =>
      obtain ⟨i0, hi0, hu0⟩ : ∃ i, i < n ∧ L.getD i true = false := by
        have : ¬ ∀ i ∈ List.range n, L.getD i false = true := fun h => by rw [List.all_eq_true.2 h] at hall; cases hall
        by_cases h : ∃ i, i < n ∧ L.getD i true = false
        · exact h
        · exfalso
          apply this
          intro i hi
          cases hb : L.getD i false with
          | true => rfl
          | false => exact absurd ⟨i, List.mem_range.1 hi, getD_in (by rw [hI.head.size]; have := List.mem_range.1 hi; simp; omega) hb⟩ h
      have hf1 : 1 ≤ f := by have := openN_set hi0 hu0; omega
      obtain ⟨f, rfl⟩ : ∃ f', f = f' + 1 := ⟨f - 1, by omega⟩
      rw [show f + 1 + (l.length - n) = (f + (l.length - n)) + 1 by omega]
      have hstep : ∀ i ∈ Region.ready .any l.toArray L, i < n := by
        intro i hi
        rcases Nat.lt_or_ge i n with h | h
        · exact h
        · exfalso
          rcases hw with hw | ⟨hs1, hc1⟩
          · obtain ⟨_, o, ho, _⟩ := mem_ready.1 hi
            have := (Array.getElem?_eq_some_iff.1 ho).1
            simp at this; omega
          · rcases Nat.lt_or_ge n l.length with hn' | hn'
            · exact tail_waits hs1 hc1 (by simpa using hn') hI.head _ i0 rfl hi0 hu0 i h hi
            · obtain ⟨_, o, ho, _⟩ := mem_ready.1 hi
              have := (Array.getElem?_eq_some_iff.1 ho).1
              simp at this; omega
      have hne : Region.ready .any l.toArray L ≠ [] := ready_ne hback i0 (by simp; omega) hu0
      refine ⟨fun h => absurd h hne, fun i hi => ?_⟩
      have hin := hstep i hi
      obtain ⟨hun, o, ho, hall2⟩ := mem_ready.1 hi
      have hol : l[i]? = some o := by simpa using ho
      have hot : (l.take n)[i]? = some o := by rw [List.getElem?_take, if_pos hin]; exact hol
      have hk := GensOk.at (l.take n) 0 i o hs hot
      rw [Nat.zero_add] at hk
      have hiL : i < L.size := by rw [hI.head.size]; have := (List.getElem?_eq_some_iff.1 hol).1; simpa using this
      have hdep : ∀ j, Region.waitsFor .any l.toArray i j = true → doneOf L j = true := by
        intro j hj
        obtain ⟨oj, hoj, e, he, hb, hon⟩ := Region.waitsFor_spec hj
        have : oj = o := Option.some.inj (hoj.symm.trans ho)
        subst this
        unfold doneOf
        rw [← hon]; exact hall2 e he hb
      have hnot : doneOf L i = false := by
        unfold doneOf
        cases h3 : L.getD i false with
        | false => rfl
        | true => simp [hiL] at h3 hun; rw [h3] at hun; cases hun
      have hk2 := hk.step (doneOf L) u w hJ hdep hnot (wpAny P .any l.toArray Q (f + (l.length - n)) (L.setIfInBounds i true)) (fun v w' hJ' => by
        have hop := openN_set hin hun
        rw [putAll_set u (l.take n) 0 i a0 o v hap hot, Nat.zero_add]
        obtain ⟨d, hd⟩ : ∃ d, f = openN (L.setIfInBounds i true) n + d := ⟨f - openN (L.setIfInBounds i true) n, by omega⟩
        have h1 := ih (openN (L.setIfInBounds i true) n) (by omega) (L.setIfInBounds i true) (putAll (upd u i v) 0 (l.take n) a0) w' rfl ⟨hI.head.set hi hin, upd u i v, rfl, by rw [doneOf_set hiL]; exact hJ'⟩
        rw [hd, Nat.add_right_comm]
        exact wpAny_more d _ _ _ _ h1)
      unfold wpOp
      simp only [ho]
      split
      · rename_i hwt; rw [if_pos hwt] at hk2; exact .inl hk2
      · rename_i hwt; rw [if_neg hwt] at hk2; exact hk2

/-- **the law** -/
theorem wp_region_gen {id : Nat} {l : List Oper} {a : Act} {w : World} (n : Nat) (J : (Nat → Bool) → (Nat → Value) → World → Prop)
    (hm : P.follows .mixedOrders = true) (hB : headB l n = true) (hJ : ∀ u, J (fun _ => false) u w.drew)
    (hs : ∀ A, A = a → GensOk P Q l.toArray (l.take n) A J 0 (l.take n))
    (hend : ∀ D u w', J D u w' → (∀ j, j < n → D j = true) → wpList P l.toArray Q (l.drop n) (putAll u 0 (l.take n) a) w') : (Code.region id l.toArray true).wp P Q a w := by
  simp only [headB, Bool.and_eq_true, Bool.or_eq_true, decide_eq_true_eq] at hB
  obtain ⟨⟨⟨⟨hn, hw⟩, hseq⟩, hap⟩, hback⟩ := hB
  refine wp_region_any hm ?_
  obtain ⟨u, hu⟩ := putAll_id (l.take n) 0 a
  have inv0 : HeadInv .any l.toArray n (Array.replicate l.toArray.size false) :=
    ⟨by simp, fun j oj _ hl => (by rw [getD_replicate_false] at hl; cases hl), fun t _ ht => getD_in (by simpa using ht) (getD_replicate_false _ _)⟩
  have hle : openN (Array.replicate l.toArray.size false) n ≤ n := by
    unfold openN
    have := List.length_filter_le (fun i => !(Array.replicate l.toArray.size false).getD i true) (List.range n)
    simpa using this
  have hd0 : doneOf (Array.replicate l.toArray.size false) = fun _ => false := by funext j; exact getD_replicate_false _ _
  have := wpAny_of_gen hn hw hseq hap hback (hs a rfl) hend _ (Array.replicate l.toArray.size false) a w.drew rfl ⟨inv0, u, hu.symm, by rw [hd0]; exact hJ u⟩
  obtain ⟨d, hd⟩ : ∃ d, l.toArray.size = openN (Array.replicate l.toArray.size false) n + (l.length - n) + d := ⟨l.length - (openN (Array.replicate l.toArray.size false) n + (l.length - n)), by simp; simp at hle; omega⟩
  have h2 := wpAny_more d _ _ _ _ this
  rw [← hd] at h2
  exact h2
end
section
variable {P : Program} {Q : Exit → Act → World → Prop} {ops : Array Oper} {hd : List Oper} {a : Act} {J : (Nat → Bool) → (Nat → Value) → World → Prop} {i : Nat} {o : Oper}
/-- an operation that runs to a value -/
theorem GenOk.run (hg : o.guard = none) (hap : dstApart hd = true) (h : ∀ D u ρ w, Rho hd a u ρ → J D u w → (∀ j, Region.waitsFor .any ops i j = true → D j = true) → D i = false → ∃ v w', (execOp ρ o).run P w = .ok (.value v) w' ∧ J (updB D i) (upd u i v) w') : GenOk P Q ops hd a J i o := by
  refine ⟨?_⟩
  intro D u w hJ hdep hnot K hK
  have hwt : Region.wanted o (yielded ops (putAll u 0 hd a).tmps) = true := by simp [Region.wanted, hg]
  rw [if_pos hwt]
  obtain ⟨v, w', hr, h1⟩ := h D u _ w (Rho.mk_ hap u) hJ hdep hnot
  unfold Oper.wp
  rw [hr]
  simp only [Oper.upon]
  exact hK v w' h1
/-- an operation that has no value -/
theorem GenOk.skip (hg : o.guard = none) (hap : dstApart hd = true) (h : ∀ D u ρ w, Rho hd a u ρ → J D u w → (∀ j, Region.waitsFor .any ops i j = true → D j = true) → D i = false → ∃ w', (execOp ρ o).run P w = .ok .skip w' ∧ J (updB D i) (upd u i undef) w') : GenOk P Q ops hd a J i o := by
  refine ⟨?_⟩
  intro D u w hJ hdep hnot K hK
  have hwt : Region.wanted o (yielded ops (putAll u 0 hd a).tmps) = true := by simp [Region.wanted, hg]
  rw [if_pos hwt]
  obtain ⟨w', hr, h1⟩ := h D u _ w (Rho.mk_ hap u) hJ hdep hnot
  unfold Oper.wp
  rw [hr]
  simp only [Oper.upon]
  exact hK undef w' h1
/-- a call -/
theorem GenOk.call (hg : o.guard = none) (hap : dstApart hd = true) (f : FuncId)
    (h : ∀ D u ρ w, Rho hd a u ρ → J D u w → (∀ j, Region.waitsFor .any ops i j = true → D j = true) → D i = false → ∃ args, (execOp ρ o).run P w = .ok (.enter f args) w ∧ Calls P f args w (fun e w' => ∃ v, e = .returned v ∧ J (updB D i) (upd u i v) w')) : GenOk P Q ops hd a J i o := by
  refine ⟨?_⟩
  intro D u w hJ hdep hnot K hK
  have hwt : Region.wanted o (yielded ops (putAll u 0 hd a).tmps) = true := by simp [Region.wanted, hg]
  rw [if_pos hwt]
  unfold Oper.wp
  obtain ⟨args, h0, h⟩ := h D u _ w (Rho.mk_ hap u) hJ hdep hnot
  rw [h0]
  simp only [Oper.upon]
  refine h.mono ?_
  rintro e w' ⟨v, rfl, h1⟩
  exact hK v w' h1
end
end Go.Proofs.YtpaiideboodaeaaGreatDoor
