/- with of the program's filter, and its Clone. Conditions: sizes. -/
import Derived.Test.YtpaiideboodaeaaGreatDoorJEncN
import Derived.Test.YtpaiideboodaeaaGreatDoorJGenC
import Derived.Test.YtpaiideboodaeaaGreatDoorJRTermsJ
import Derived.Test.YtpaiideboodaeaaGreatDoorJIdxP
import Derived.Test.YtpaiideboodaeaaGreatDoorJSortS
import Derived.Test.YtpaiideboodaeaaGreatDoorJPosH
namespace Go.Proofs.YtpaiideboodaeaaGreatDoor
open Go.RowKit
set_option linter.unusedVariables false
set_option linter.unusedSimpArgs false

def NewU (w : World) (n : Nat) (xs : List Int) (e : Ending) (w' : World) : Prop := ∃ g c, e = .returned (.slice (some ⟨g, 0, none⟩) n c) ∧ w'.ownsRow w.heap.size 69 1 (.slice (some ⟨g, 0, none⟩) n c) n (xs.map (.int .u64)) ∧ w.grownBy w' none
theorem u64_ones (xs : List Int) : ∀ u ∈ xs.map (Value.int .u64), u.oneCell' = true := by
  intro u hu
  obtain ⟨x, -, rfl⟩ := List.mem_map.1 hu
  rfl
theorem own_some {w : World} {base e n : Nat} {v : Value} {xs : List Value} (h : w.ownsRow base e 1 v n xs) (hn : 1 ≤ n) : ∃ g c cur, v = .slice (some ⟨g, 0, none⟩) n c ∧ base ≤ g ∧ w.heap[g]? = some (.cells cur e) ∧ n ≤ c ∧ cur.size = c ∧ cur.toList.take n = xs := by
  rcases h.2 with ⟨_, h1⟩ | ⟨g, cap, cur, h1, h2, h3, h4, h5, h6, h7⟩
  · omega
  · exact ⟨g, cap, cur, h1, h2, h3, h4, by omega, by simpa using h7⟩
set_option maxHeartbeats 1000000 in
set_option maxRecDepth 100000 in
theorem uclone_any {S : Nat → Prop} (a : Addr) (n c : Nat) (xs : List Int) (w : World) (hr : Rd S w (some a) (xs.map (.int .u64))) (hn : xs.length = n) (hn1 : 1 ≤ n) (hl : n ≤ 1000000) :
    Calls Tryz.prog 178 #[.slice (some a) n c] w (NewU w n xs) := by
  have q22 : ∀ (w : World) (a : Option Addr) (n c n' c' : Nat), (binOp .eql 169 (.slice a n c) (.slice none n' c')).run Tryz.prog w = .ok (.bool a.isNone) w := fun w a n c n' c' => Lib.run_eql_slice_nil w _ _ a n c n' c' Tryz.underlying169
  have HR := Lib.hid hr
  have H1 := Lib.hid (u64_ones xs)
  clear hr
  go_enter Tryz.func178, Tryz.ntmps178
  go_wp2_with (at_builtin; refine wpList_appendN rfl _ _ 169 rfl w.heap.size Tryz.underlying169 u64Info rfl (by decide) (v := .slice (some ⟨w.heap.size, 0, none⟩) 0 0) (by rfl) (World.ownsRow_made w #[] 0 (Nat.le_refl _) (Nat.zero_le _) (by simp)) (some a) n c (news := xs.map (.int .u64)) (by rfl) (HR.out.alloc _) (by rw [List.length_map, hn]; omega) H1.out (by decide) (by omega) (by simp) ?_; intro v3 w3 hown3 hg3 hob3)
  have O3 : Hid (w3.ownsRow w.heap.size 69 1 v3 n (xs.map (.int .u64))) := Lib.hid (by simpa using hown3)
  have G3 : Hid (w.grownBy w3 none) := Lib.hid (only_fresh (only_alloc (only_refl _ _) _) (by simpa [Value.ownBlock] using hg3) (Nat.le_refl _))
  clear hown3 hg3 hob3
  obtain ⟨g3, c3, cur3, rfl, -, -, -, -, -⟩ := own_some O3.out hn1
  go_wp2_with fail
  go_ret
  exact ⟨g3, c3, rfl, O3.out, G3.out⟩
theorem setPs_len (ps : List Nat) : ∀ xs : List Int, (ps.foldl setP xs).length = xs.length := by
  induction ps with
  | nil => intro _; rfl
  | cons p ps ih => intro xs; rw [List.foldl_cons, ih, setP_len]
set_option maxHeartbeats 8000000 in
set_option maxRecDepth 100000 in
theorem pwith_any {S S2 : Nat → Prop} (a : Addr) (n c : Nat) (xs : List Int) (L : Option Addr) (ps : List Nat) (lc : Nat) (w : World) (hr : Rd S w (some a) (xs.map (.int .u64))) (hn : xs.length = n) (hn1 : 1 ≤ n) (hn2 : n ≤ 1024) (hl : Rd S2 w L (ps.map (fun (p : Nat) => Value.int .i64 (p : Int)))) (hpl : ps.length ≤ 1000000) (hp : ∀ p ∈ ps, p < 64 * n) :
    Calls Tryz.prog 116 #[.slice (some a) n c, .slice L ps.length lc] w (NewU w n (ps.foldl setP xs)) := by
  have K := Lib.hid (uclone_any a n c xs w hr hn hn1 (by omega))
  have HL := Lib.hid hl
  have HP := Lib.hid hp
  have HN := Lib.hid hn
  clear hr hl hp hn
  go_enter Tryz.func116, Tryz.ntmps116
  go_wp2_with fail
  refine K.out.mono ?_
  rintro e w1 ⟨g, c1, rfl, hO, hG⟩
  have O1 := Lib.hid hO
  have G1 := Lib.hid hG
  clear hO hG K
  go_wp2_with fail
  go_loopw [11] (fun i wr => ∃ (k : Nat) (ys : List Int), i = .int .i64 k ∧ k ≤ ps.length ∧ Hid (ys = (ps.take k).foldl setP xs) ∧ wr.ownsRow w.heap.size 69 1 (.slice (some ⟨g, 0, none⟩) n c1) n (ys.map (.int .u64)) ∧ w.grownBy wr none) (fun i _ => ps.length - (intOf i).toNat)
  case atStart => exact ⟨0, xs, rfl, Nat.zero_le _, Lib.hid rfl, O1.out, G1.out⟩
  case round =>
    obtain ⟨k, ys, rfl, hk, HY, hO, hG⟩ := hrel
    have OO := Lib.hid hO
    have GG := Lib.hid hG
    clear O1 G1
    by_cases hlt : k < ps.length
    · obtain ⟨p, hp⟩ : ∃ p, ps[k]? = some p := ⟨_, List.getElem?_eq_getElem hlt⟩
      have hpn := HP.out p (List.mem_of_getElem? hp)
      obtain ⟨g', c', cur, e9, hbg, hh, hnc, hcs, htk⟩ := own_some hO hn1
      injection e9 with e1 e2 e3
      injection e1 with e1
      injection e1 with e1
      subst e1 e3
      have hBG : Blk wr g 69 cur := hh
      obtain ⟨pb, po, rfl, -, -, hpc⟩ := (HL.out.grown hG (by simp)) (by rw [List.length_map]; omega)
      have hcp := hpc k (.int .i64 (p : Int)) (by rw [List.getElem?_map, hp]; rfl)
      have HT : Hid ((ps.take (k + 1)).foldl setP xs = setP ys p) := Lib.hid (by
        obtain ⟨h1, e⟩ := List.getElem?_eq_some_iff.1 hp
        rw [List.take_succ_eq_append_getElem h1, e, List.foldl_append, ← HY.out]
        rfl)
      have hyl : ys.length = n := by rw [HY.out, setPs_len]; exact HN.out
      obtain ⟨q, hq⟩ : ∃ q, q = p / 64 := ⟨_, rfl⟩
      have hqn : q < n := by omega
      obtain ⟨v, hv⟩ : ∃ v, v = ys.getD q 0 := ⟨_, rfl⟩
      have hcq : wr.cell? ⟨g, q, none⟩ = some (.int .u64 v) := by
        rw [hBG.cell q]
        have h1 : (cur.toList.take n)[q]? = some (.int .u64 v) := by
          rw [htk, List.getElem?_map, List.getElem?_eq_getElem (by omega : q < ys.length), hv, List.getD_eq_getElem?_getD, List.getElem?_eq_getElem (by omega : q < ys.length)]
          rfl
        rw [List.getElem?_take, if_pos hqn] at h1
        simpa using h1
      have hfq := hBG.frozen q
      have eq1 : (p : Int) / 64 = (q : Int) := by omega
      have hqw : IntKind.i64.wrap (q : Int) = (q : Int) := IntWalk.i64_in _ (by omega)
      obtain ⟨r, hr⟩ : ∃ r, r = p % 64 := ⟨_, rfl⟩
      have ER : Hid ((p : Int).tmod 64 = (r : Int)) := Lib.hid (by rw [Int.tmod_eq_emod_of_nonneg (by omega)]; omega)
      have hrw : IntKind.i64.wrap (r : Int) = (r : Int) := IntWalk.i64_in _ (by omega)
      have hrl : r < 64 := by omega
      have HN2 : Hid (ys.set q (bits BinOp.or IntKind.u64 v (IntKind.u64.wrap (2 ^ r))) = (ps.take (k + 1)).foldl setP xs) := Lib.hid (by rw [HT.out, setP, ← hq, ← hr, ← hv])
      have i1 : (k : Int) < (ps.length : Int) := by omega
      have i0 : (0 : Int) ≤ (k : Int) := by omega
      have i2 : (q : Int) < (n : Int) := by omega
      have hgl : g < wr.heap.size := hBG.lt
      clear hp hpc hq hv hyl hr htk hh hBG hO hG hcs
      go_upto_region 5 with fail
      have er1 := ER.out
      go_still_tail 10, (by kernel_rfl)
      clear er1
      go_wp2_with fail
      obtain ⟨W9, hW9⟩ : ∃ W, W = (wr.setCell ⟨g, q, none⟩ (.int .u64 (bits BinOp.or IntKind.u64 v (IntKind.u64.wrap (2 ^ r))))).drew := ⟨_, rfl⟩
      have O9 : Hid (W9.ownsRow w.heap.size 69 1 (.slice (some ⟨g, 0, none⟩) n c1) n ((ys.set q (bits BinOp.or IntKind.u64 v (IntKind.u64.wrap (2 ^ r)))).map (.int .u64))) := Lib.hid (by
        rw [hW9, List.map_set]
        exact own_ext (own_putk (k := q) OO.out (by omega)) (only_drew (only_refl _ _)))
      have G9 : Hid (w.grownBy W9 none) := Lib.hid (by rw [hW9]; exact only_drew (only_setNew GG.out (p := ⟨g, q, none⟩) hbg _))
      rw [← hW9]
      clear hW9
      go_roundw
      case rel => exact ⟨k + 1, _, by go_num, by omega, HN2, O9.out, G9.out⟩
      case measure => simp [intOf]; omega
    · have hkE : ps.take k = ps := List.take_of_length_le (by omega)
      have i1 : ¬ (k : Int) < (ps.length : Int) := by omega
      have O9 : Hid (wr.ownsRow w.heap.size 69 1 (.slice (some ⟨g, 0, none⟩) n c1) n ((ps.foldl setP xs).map (.int .u64))) := Lib.hid (by have h9 := HY.out; rw [hkE] at h9; rw [← h9]; exact OO.out)
      clear hkE hO hG
      go_wp2_with fail
      go_ret
      exact ⟨g, c1, rfl, O9.out, GG.out⟩
end Go.Proofs.YtpaiideboodaeaaGreatDoor

namespace Go.Proofs.YtpaiideboodaeaaGreatDoor
open Go.RowKit
set_option linter.unusedVariables false
set_option linter.unusedSimpArgs false

def posN (n : Nat) (s : ByteArray) : List Nat := (List.range 3).map (fun i => placeX n (bts s) i)
theorem posN_len (n : Nat) (s : ByteArray) : (posN n s).length = 3 := by unfold posN; rw [List.length_map, List.length_range]
theorem posN_X (n : Nat) (s : ByteArray) : posX n (bts s) = (posN n s).map (fun (p : Nat) => (p : Int)) := by unfold posX posN; rw [List.map_map]; rfl
theorem posN_lt {n : Nat} (h : 1 ≤ n) (s : ByteArray) : ∀ p ∈ posN n s, p < 64 * n := fun p hp => by
  obtain ⟨i, -, rfl⟩ := List.mem_map.1 hp
  exact Nat.mod_lt _ (by omega)
theorem posN_one (n : Nat) (s : ByteArray) (xs : List Int) : (posN n s).foldl setP xs = bitsT n xs s := by
  unfold posN bitsT
  rw [List.foldl_map]
theorem posN_bits (n : Nat) (ws : List ByteArray) : ∀ xs : List Int, (ws.flatMap (posN n)).foldl setP xs = ws.foldl (bitsT n) xs := by
  induction ws with
  | nil => intro xs; rw [List.flatMap_nil, List.foldl_nil, List.foldl_nil]
  | cons s ws ih => intro xs; rw [List.flatMap_cons, List.foldl_append, posN_one, List.foldl_cons, ih]
theorem posN_flat (n : Nat) (ws : List ByteArray) : (ws.flatMap (posN n)).length = 3 * ws.length := by
  induction ws with
  | nil => rfl
  | cons s ws ih => rw [List.flatMap_cons, List.length_append, posN_len, ih, List.length_cons]; omega
def FBuildP (n : Nat) (ws : List ByteArray) (w : World) (e : Ending) (w' : World) : Prop :=
  ∃ g c, e = .returned (.tuple #[.agg #[.int .i64 3, .slice (some ⟨g, 0, none⟩) n c], .int .i64 0]) ∧ Rd (w.heap.size ≤ ·) w' (some ⟨g, 0, none⟩) ((bitsN n ws).map (.int .u64)) ∧ w.grownBy w' none
set_option maxHeartbeats 8000000 in
set_option maxRecDepth 100000 in
theorem pfbuild_any {S : Nat → Prop} (A : Option Addr) (ws : List ByteArray) (c : Nat) (w : World) (h : Rd S w A (ws.map .string)) (hl : ws.length ≤ 100000) (hz : ∀ x ∈ ws, x.size ≤ 100000) :
    Calls Tryz.prog 65 #[.slice A ws.length c, .int .i64 10] w (FBuildP (sizeF ws.length) ws w) := by
  have H := Lib.hid h
  have HZ := Lib.hid hz
  obtain ⟨n, hn⟩ : ∃ n, n = sizeF ws.length := ⟨_, rfl⟩
  obtain ⟨hn1, hn2⟩ := sizeF_in ws.length
  rw [← hn] at hn1 hn2 ⊢
  have HMIN : Hid (min (max (ws.length : Int) 1 * 10) (65536 : Int) = ((min 65536 (max 1 ws.length * 10) : Nat) : Int)) := Lib.hid (by omega)
  have KN := Lib.hid (fun w' => pfnew_any (min 65536 (max 1 ws.length * 10)) n hn (by omega) (by omega) w')
  have KP := Lib.hid (fun A c s w' hs => ppositions_any A n c hn1 hn2 s hs w')
  clear h hz hn
  go_enter Tryz.func65, Tryz.ntmps65
  go_wp2_with fail
  rw [HMIN.out]
  obtain ⟨rb, hrb⟩ : ∃ b, b = w.heap.size := ⟨_, rfl⟩
  obtain ⟨W0, hW0⟩ : ∃ W, W = w.alloc (.cells #[.int .i64 0, .slice none 0 0] 36) := ⟨_, rfl⟩
  have hBR : Blk W0 rb 36 #[.int .i64 0, .slice none 0 0] := by rw [hW0, hrb]; exact Blk.new _ _ _
  have hG0 : w.grownBy W0 none := by rw [hW0]; exact only_alloc (only_refl _ _) _
  have HRB := Lib.hid hrb
  rw [← hW0, ← hrb]
  clear hW0 hrb
  refine (KN.out W0).mono ?_
  rintro e w1 ⟨g, rfl, hg, hB, hG⟩
  have BG1 := Lib.hid hB
  have BR1 := Lib.hid (hBR.grown hG (by simp))
  have G1 := Lib.hid (only_trans hG0 hG)
  have hrg : rb < g := by have := hBR.lt; omega
  clear hB hG hBR hG0
  go_wp2_with fail
  obtain ⟨fb, hfb⟩ : ∃ b, b = w1.heap.size := ⟨_, rfl⟩
  obtain ⟨W2, hW2⟩ : ∃ W, W = w1.alloc (.cells #[.int .i64 3, .slice (some ⟨g, 0, none⟩) n n] 36) := ⟨_, rfl⟩
  have hBF : Blk W2 fb 36 #[.int .i64 3, .slice (some ⟨g, 0, none⟩) n n] := by rw [hW2, hfb]; exact Blk.new _ _ _
  have hG2 : w1.grownBy W2 none := by rw [hW2]; exact only_alloc (only_refl _ _) _
  have BF2 := Lib.hid hBF
  have BG2 := Lib.hid (BG1.out.grown hG2 (by simp))
  have BR2 := Lib.hid (BR1.out.grown hG2 (by simp))
  have G2 := Lib.hid (only_trans G1.out hG2)
  have hgf : g < fb := by rw [hfb]; exact BG1.out.lt
  rw [← hW2, ← hfb]
  clear hW2 hfb hBF hG2 BG1 BR1 G1
  have hwf : w.heap.size ≤ fb := by have := HRB.out; omega
  have hf2 := BF2.out.lt
  go_loopw [8, 30] (fun u vi wr => ∃ (k : Nat) (ps : List Nat), vi = .int .i64 k ∧ k ≤ ws.length ∧ Hid (ps = (ws.take k).flatMap (posN n)) ∧ wr.ownsRow W2.heap.size 3 1 u ps.length (ps.map (fun (p : Nat) => Value.int .i64 (p : Int))) ∧ W2.grownBy wr none) (fun _ vi _ => ws.length - (intOf vi).toNat)
  case atStart => exact ⟨0, [], rfl, Nat.zero_le _, Lib.hid rfl, World.ownsRow_nil _ _ _ _, only_refl _ _⟩
  case round =>
    obtain ⟨k, ps, rfl, hk, HPS, hO, hG⟩ := hrel
    have OO := Lib.hid hO
    have GG := Lib.hid hG
    have hzr := hG.size
    have BF3 := Lib.hid (BF2.out.grown hG (by simp))
    have f0 := BF3.out.cell 0; have f1 := BF3.out.cell 1
    have z1 := BF3.out.frozen 1
    simp only [List.size_toArray, List.length_cons, List.length_nil, Nat.zero_add, Nat.reduceAdd, Nat.reduceLT, getElem?_pos, List.getElem_toArray, List.getElem_cons_zero, List.getElem_cons_succ] at f0 f1
    have hpsl : ps.length = 3 * k := by rw [HPS.out, posN_flat, List.length_take]; omega
    obtain ⟨vO, hvO⟩ : ∃ v, v = u8 := ⟨_, rfl⟩
    rw [← hvO] at OO ⊢
    clear hO hG hvO
    by_cases hlt : k < ws.length
    · obtain ⟨b, off, x, rfl, hc, hx⟩ := (H.out.grown (only_trans G2.out GG.out) (by simp)).str_at hlt
      have hxz := HZ.out x (List.mem_of_getElem? hx.out)
      have HT : Hid (ps ++ posN n x = (ws.take (k + 1)).flatMap (posN n)) := Lib.hid (by
        obtain ⟨h1, e⟩ := List.getElem?_eq_some_iff.1 hx.out
        rw [List.take_succ_eq_append_getElem h1, e, List.flatMap_append, ← HPS.out]
        simp)
      have KPx := Lib.hid (fun w' => KP.out (some ⟨g, 0, none⟩) n x w' hxz)
      have i1 : (k : Int) < (ws.length : Int) := by omega
      have i0 : (0 : Int) ≤ (k : Int) := by omega
      clear hx
      go_wp2_with fail
      refine (KPx.out _).mono ?_
      rintro e w4 ⟨AP, cP, rfl, hp1, hp2, hp3, hg4⟩
      have hPL : (posX n (bts x)).length = 3 := posX_len n _
      have O4 : Hid (w4.ownsRow W2.heap.size 3 1 vO ps.length (ps.map (fun (p : Nat) => Value.int .i64 (p : Int)))) := Lib.hid (own_ext OO.out hg4)
      have G4 := Lib.hid (only_trans GG.out hg4)
      have R4 : Hid (Rd (fun _ => True) w4 AP ((posN n x).map (fun (p : Nat) => Value.int .i64 (p : Int)))) := Lib.hid (by have h9 := hp3; rw [posN_X, List.map_map] at h9; exact h9.mono (fun _ _ _ => trivial))
      have hz4 := G4.out.size
      have HPN := posN_len n x
      obtain ⟨pn, hpn⟩ : ∃ p, p = posN n x := ⟨_, rfl⟩
      rw [← hpn] at HT R4 HPN
      rw [hPL]
      have HPN2 := Lib.hid HPN
      have H1 : Hid (∀ u ∈ pn.map (fun (p : Nat) => Value.int .i64 (p : Int)), u.oneCell' = true) := Lib.hid (fun u hu => by obtain ⟨p, -, rfl⟩ := List.mem_map.1 hu; rfl)
      clear hp1 hp2 hp3 hg4 hPL hpn HPN KPx hc f0 f1 z1
      go_wp2_with (at_builtin; go_must (refine wpList_appendN rfl _ _ 47 rfl W2.heap.size Tryz.underlying47 intInfoS rfl (by decide) (v := vO) (by rfl) O4.out AP 3 cP (by rfl) R4.out (by rw [List.length_map, HPN2.out]) H1.out (by decide) (by omega) (by omega) ?_); intro v5 w5 hown5 hg5 hob5; have O5 : Hid (w5.ownsRow W2.heap.size 3 1 v5 (ps ++ pn).length ((ps ++ pn).map (fun (p : Nat) => Value.int .i64 (p : Int)))) := Lib.hid (by rw [List.length_append, HPN2.out, List.map_append]; exact hown5); have G5 : Hid (W2.grownBy w5 none) := Lib.hid (only_own G4.out hg5 O4.out (Nat.le_refl _)); clear hown5 hg5 hob5)
      go_roundw
      case rel => exact ⟨k + 1, ps ++ pn, by go_num, by omega, HT, O5.out, G5.out⟩
      case measure => simp [intOf]; omega
    · have hkE : ws.take k = ws := List.take_of_length_le (by omega)
      have i1 : ¬ (k : Int) < (ws.length : Int) := by omega
      have HE : Hid (ps = ws.flatMap (posN n)) := Lib.hid (by have h9 := HPS.out; rw [hkE] at h9; exact h9)
      obtain ⟨AL, cL, hv, -, -, -, hrL⟩ := Rd.of_own OO.out (by decide)
      rw [hv]
      have KW : Hid (Calls Tryz.prog 116 #[.slice (some ⟨g, 0, none⟩) n n, .slice AL ps.length cL] wr (NewU wr n (bitsN n ws))) := Lib.hid (by
        have hg9 := (BG2.out.grown GG.out (by simp))
        have h9 := pwith_any (S := fun _ => True) ⟨g, 0, none⟩ n n (List.replicate n 0) AL ps cL wr (fun _ => ⟨g, 0, rfl, trivial, hg9.lt, fun j u hu => by
          have e8 : (Array.replicate n (Value.int .u64 0))[j]? = (List.replicate n (Value.int .u64 0))[j]? := by rw [← Array.getElem?_toList, Array.toList_replicate]
          rw [Nat.zero_add, hg9.cell j, e8, ← hu, List.map_replicate]⟩) (by simp) hn1 hn2 hrL (by omega) (fun p hp => by
          rw [HE.out] at hp
          obtain ⟨s, -, hp⟩ := List.mem_flatMap.1 hp
          exact posN_lt hn1 s p hp)
        have e9 : ps.foldl setP (List.replicate n 0) = bitsN n ws := by rw [HE.out, posN_bits]; rfl
        rw [e9] at h9
        exact h9)
      have BR3 := Lib.hid (BR2.out.grown GG.out (by simp))
      have hrf : rb < fb := by omega
      have G3 := Lib.hid (only_trans G2.out GG.out)
      clear hkE hv hrL HE HPS OO hpsl
      go_wp2_with fail
      refine KW.out.mono ?_
      rintro e w6 ⟨g6, c6, rfl, hO6, hG6⟩
      have BF6 := Lib.hid (BF3.out.grown hG6 (by simp))
      have BR6 := Lib.hid (BR3.out.grown hG6 (by simp))
      have G6 := Lib.hid (only_trans G3.out hG6)
      obtain ⟨A6, c6', e6, -, -, -, hr6⟩ := Rd.of_own hO6 (by decide)
      injection e6 with e1 e2 e3
      subst e1 e3
      have R6 := Lib.hid hr6
      clear hO6 hG6 hr6 KW f0 f1 z1
      have f0 := BF6.out.cell 0; have f1 := BF6.out.cell 1
      have z1 := BF6.out.frozen 1
      have q0 := BR6.out.cell 0; have q1 := BR6.out.cell 1
      have y0 := BR6.out.frozen 0; have y1 := BR6.out.frozen 1
      simp only [List.size_toArray, List.length_cons, List.length_nil, Nat.zero_add, Nat.reduceAdd, Nat.reduceLT, getElem?_pos, List.getElem_toArray, List.getElem_cons_zero, List.getElem_cons_succ] at f0 f1 q0 q1
      have hne1 : fb ≠ rb := by omega
      have hne2 : rb ≠ fb := by omega
      have hW26 : W2.heap.size ≤ wr.heap.size := hzr
      go_wp2_with fail
      obtain ⟨W7, hW7⟩ : ∃ W, W = w6.setCell ⟨fb, 1, none⟩ (.slice (some ⟨g6, 0, none⟩) n c6) := ⟨_, rfl⟩
      obtain ⟨W9, hW9⟩ : ∃ W, W = (W7.setCell ⟨rb, 0, none⟩ (.int .i64 3)).setCell ⟨rb, 1, none⟩ (.slice (some ⟨g6, 0, none⟩) n c6) := ⟨_, rfl⟩
      have hg7 : w6.grownBy W7 (some fb) := by rw [hW7]; exact only_setB w6 (p := ⟨fb, 1, none⟩) _
      have hb7 := BR6.out.grown hg7 (by simp; omega)
      have hb9 : Blk W9 rb 36 #[.int .i64 3, .slice (some ⟨g6, 0, none⟩) n c6] := by rw [hW9]; simpa using (hb7.set_ 0 (.int .i64 3)).set_ 1 (.slice (some ⟨g6, 0, none⟩) n c6)
      have hg8 : W7.grownBy W9 (some rb) := by rw [hW9]; exact only_trans (only_setB W7 (p := ⟨rb, 0, none⟩) _) (only_setB _ (p := ⟨rb, 1, none⟩) _)
      have hg9 : w.grownBy W9 none := only_fresh (only_fresh G6.out hg7 hwf) hg8 (by rw [HRB.out]; exact Nat.le_refl _)
      have hR9 : Rd (w.heap.size ≤ ·) W9 (some ⟨g6, 0, none⟩) ((bitsN n ws).map (.int .u64)) :=
        ((R6.out.grown hg7 (fun b hb e => by injection e with e; have h0 : wr.heap.size ≤ b := hb; omega)).grown hg8 (fun b hb e => by injection e with e; have h0 : wr.heap.size ≤ b := hb; omega)).mono (fun b hb _ => by have h0 : wr.heap.size ≤ b := hb; have h1 := HRB.out; omega)
      rw [← hW7, ← hW9]
      clear hW7 hW9 q0 q1 f0 f1 z1 y0 y1
      have q0 := hb9.cell 0; have q1 := hb9.cell 1
      simp only [List.size_toArray, List.length_cons, List.length_nil, Nat.zero_add, Nat.reduceAdd, Nat.reduceLT, getElem?_pos, List.getElem_toArray, List.getElem_cons_zero, List.getElem_cons_succ] at q0 q1
      exact bodyPost_ret (v := .tuple #[.agg #[.int .i64 3, .slice (some ⟨g6, 0, none⟩) n c6], .int .i64 0]) (by simp [results, Tryz.results65, go_sem, q0, q1]) rfl ⟨g6, c6, rfl, hR9, hg9⟩
end Go.Proofs.YtpaiideboodaeaaGreatDoor

namespace Go.Proofs.YtpaiideboodaeaaGreatDoor
open Go.RowKit
set_option linter.unusedVariables false
set_option linter.unusedSimpArgs false

theorem sterms_newF {S : Nat → Prop} (e : Ev) (w : World) (hs : e.Sub S w) (he : EvS e) : Calls Tryz.prog 64 #[.agg e.cells.toArray] w (NewS w (termsE e)) :=
  (sterms_own e w hs he.evT).mono (by
    rintro e' w' ⟨A', c', ds, rfl, h1, h2, h3, h4, h5, h6, h7⟩
    obtain rfl : ds = termsE e := srt_ext h3 (dist_srt _) (fun s => by rw [h4]; unfold termsE; rw [dist_mem])
    obtain ⟨A9, c9, e9, k1, k2, -, k3⟩ := Rd.of_own h6 (by decide)
    injection e9 with e1 e2 e3
    subst e1 e3
    exact ⟨A', c', rfl, h1, h2, k3, h7⟩)
theorem dist_is (ws : List ByteArray) : (Lib.compact (sorted (ws.map ofB))).map encStr = (dist ws).map .string := enc_str _
theorem dist_il (ws : List ByteArray) : (Lib.compact (sorted (ws.map ofB))).length = (dist ws).length := by unfold dist; rw [List.length_map]
set_option maxHeartbeats 8000000 in
set_option maxRecDepth 100000 in
theorem filtersec_any {S : Nat → Prop} (A : Option Addr) (es : List Ev) (c : Nat) (w : World) (hev : Evs S w A es) (hel : es.length ≤ 40) (hs : ∀ e ∈ es, EvS e) :
    Calls Tryz.prog 29 #[.slice A es.length c] w (NewB w (filX es)) := by
  have HEV := Lib.hid (hev.mono (S' := (· < w.heap.size)) (fun b _ h => h))
  have HS := Lib.hid hs
  have HTL : Hid (∀ k, ((es.take k).flatMap termsE).length ≤ 7400) := Lib.hid (fun k => by
    have h1 := flat_le termsE 185 (es.take k) (fun e he => termsE_len (hs e (List.mem_of_mem_take he)))
    have h2 : (es.take k).length ≤ 40 := by rw [List.length_take]; omega
    have : (es.take k).length * 185 ≤ 40 * 185 := Nat.mul_le_mul h2 (Nat.le_refl _)
    omega)
  have HTZ : Hid (∀ x ∈ es.flatMap termsE, x.size ≤ 41) := Lib.hid (fun x hx => by
    obtain ⟨e, he, hx⟩ := List.mem_flatMap.1 hx
    exact termsE_sz (hs e he) x hx)
  clear hev hs
  go_enter Tryz.func29, Tryz.ntmps29
  go_wp2_with fail
  go_loopw [3, 12] (fun v vi wr => ∃ k : Nat, vi = .int .i64 k ∧ k ≤ es.length ∧ wr.ownsRow w.heap.size 9 1 v ((es.take k).flatMap termsE).length (((es.take k).flatMap termsE).map .string) ∧ w.grownBy wr none) (fun _ vi _ => es.length - (intOf vi).toNat)
  case atStart => exact ⟨0, rfl, Nat.zero_le _, World.ownsRow_nil _ _ _ _, only_refl _ _⟩
  case round =>
    obtain ⟨k, rfl, hk, hO, hG⟩ := hrel
    have OO := Lib.hid hO
    have G := Lib.hid hG
    have hzr := hG.size
    obtain ⟨vO, hvO⟩ : ∃ v, v = u3 := ⟨_, rfl⟩
    rw [← hvO] at OO ⊢
    have htl := HTL.out k
    clear hO hG hvO
    by_cases hlt : k < es.length
    · obtain ⟨y, hy⟩ : ∃ y, es[k]? = some y := ⟨_, List.getElem?_eq_getElem hlt⟩
      obtain ⟨kb, ko, eE, hkw, z0, z1, z2, z3, z4, z5, z6, z7, z8, z9⟩ := ev_in (HEV.out.1.grown G.out (by simp)) hy
      subst eE
      have i1 : (k : Int) < (es.length : Int) := by omega
      have i2 : (0 : Int) ≤ (k : Int) := by omega
      have hym := List.mem_of_getElem? hy
      have HT := Lib.hid (flat_snoc termsE hy)
      have htl1 := termsE_len (HS.out y hym)
      have KT1 := sterms_newF y (wr.alloc (.cells #[.int .i64 y.host, .int .i64 y.file, .int .i64 y.beg, .int .i64 y.fin, .slice y.la y.lines.length y.lc, .int .i64 y.time, .int .i64 y.weight, .string y.trace, .string y.stream, .slice y.fa y.fields.length y.fc] 44)) ((HEV.out.2 y hym).grown (only_alloc G.out _) (by simp)) (HS.out y hym)
      rw [show y.cells.toArray = #[.int .i64 y.host, .int .i64 y.file, .int .i64 y.beg, .int .i64 y.fin, .slice y.la y.lines.length y.lc, .int .i64 y.time, .int .i64 y.weight, .string y.trace, .string y.stream, .slice y.fa y.fields.length y.fc] from rfl] at KT1
      have KT2 := Lib.hid KT1
      obtain ⟨L, hL⟩ : ∃ L, L = (es.take k).flatMap termsE := ⟨_, rfl⟩
      rw [← hL] at HT OO htl
      clear hy hym KT1 hL
      go_wp2_with fail
      refine KT2.out.mono ?_
      rintro e w4 ⟨A4, c4, rfl, hc4, hm4, hr4, hg4⟩
      have O4 : Hid (w4.ownsRow w.heap.size 9 1 vO L.length (L.map .string)) := Lib.hid (own_ext OO.out (only_trans (only_alloc (only_refl _ _) _) hg4))
      have R4 := Lib.hid hr4
      have G4 := Lib.hid (only_trans (only_alloc G.out _) hg4)
      have hz4 := G4.out.size
      clear hr4 hg4 KT2 z0 z1 z2 z3 z4 z5 z6 z7 z8 z9 G
      go_wp2_with (at_builtin; go_must (refine wpList_appendN rfl _ _ 39 rfl w.heap.size Tryz.underlying39 strInfo rfl (by decide) (v := vO) (by rfl) O4.out A4 (termsE y).length c4 (by rfl) R4.out (by rw [List.length_map]; omega) str_onesG (by decide) (by omega) (by omega) ?_); intro v5 w5 hown5 hg5 hob5; have O5 : Hid (w5.ownsRow w.heap.size 9 1 v5 ((es.take (k + 1)).flatMap termsE).length (((es.take (k + 1)).flatMap termsE).map .string)) := Lib.hid (by rw [HT.out, List.length_append, List.map_append]; exact hown5); have G5 : Hid (w.grownBy w5 none) := Lib.hid (only_own G4.out hg5 O4.out (Nat.le_refl _)); clear hown5 hg5 hob5)
      go_roundw
      case rel => exact ⟨k + 1, by go_num, by omega, O5.out, G5.out⟩
      case measure => simp [intOf]; omega
    · have hkE : es.take k = es := List.take_of_length_le (by omega)
      have i1 : ¬ (k : Int) < (es.length : Int) := by omega
      obtain ⟨ts, hts⟩ : ∃ ts, ts = es.flatMap termsE := ⟨_, rfl⟩
      rw [hkE, ← hts] at OO htl
      have HTS := Lib.hid hts
      have HTZ2 : Hid (∀ x ∈ dist ts, x.size ≤ 100000) := Lib.hid (fun x hx => by have := HTZ.out x (by rw [← hts]; exact (dist_mem _ _).1 hx); omega)
      have hdl := dist_len ts
      have HFX : Hid (filX es = encF (sizeF (dist ts).length) (bitsN (sizeF (dist ts).length) (dist ts))) := Lib.hid (by rw [hts]; rfl)
      clear hkE hts
      go_wp2_with fail
      refine (sort_ownS w.heap.size vO ts wr OO.out (by omega)).mono ?_
      rintro e w6 ⟨rfl, hO6, hg6⟩
      have G6 : Hid (w.grownBy w6 none) := Lib.hid (only_own G.out hg6 OO.out (Nat.le_refl _))
      have O6 := Lib.hid hO6
      clear hO6 hg6 OO
      go_wp2_with fail
      refine (comp_ownS w.heap.size vO (sorted (ts.map ofB)) w6 O6.out (by rw [sorted_len, List.length_map]; omega)).mono ?_
      rintro e w7 ⟨A7, c7, rfl, hc7, hm7, hr7, hg7⟩
      have G7 : Hid (w.grownBy w7 none) := Lib.hid (only_own G6.out hg7 O6.out (Nat.le_refl _))
      rw [dist_il]
      have R7 : Hid (Rd (w.heap.size ≤ ·) w7 A7 ((dist ts).map .string)) := Lib.hid (by rw [← dist_is]; exact hr7)
      obtain ⟨d, hd⟩ : ∃ d, d = dist ts := ⟨_, rfl⟩
      rw [← hd] at R7 HTZ2 HFX hdl ⊢
      have hsn := sizeF_in d.length
      clear hc7 hm7 hr7 hg7 O6 hd
      go_wp2_with fail
      refine (pfbuild_any A7 d c7 w7 R7.out (by omega) HTZ2.out).mono ?_
      rintro e w8 ⟨g8, c8, rfl, hr8, hg8⟩
      have G8 := Lib.hid (only_trans G7.out hg8)
      have R8 := Lib.hid hr8
      obtain ⟨n, hn⟩ : ∃ n, n = sizeF d.length := ⟨_, rfl⟩
      rw [← hn] at R8 HFX hsn ⊢
      have KE := Lib.hid (fun (W : World) (hg : w8.grownBy W none) => pfencode_any (some ⟨g8, 0, none⟩) n c8 hsn.1 hsn.2 (bitsN n d) (bitsN_len n d) W ((R8.out.grown hg (by simp)).mono (fun _ _ _ => trivial)))
      clear hr8 hg8 hn
      go_wp2_with fail
      refine (KE.out _ (only_alloc (only_refl _ _) _)).mono ?_
      rintro e w9 ⟨v9, rfl, hB9, hg9⟩
      have G9 := Lib.hid (only_trans (only_alloc G8.out _) hg9)
      have hz8 := G8.out.size
      have B9 : Hid (Byts w.heap.size w9 v9 (filX es)) := Lib.hid (by rw [HFX.out]; exact hB9.base (by simp; omega))
      clear hB9 hg9 KE
      go_wp2_with fail
      go_ret
      exact ⟨v9, rfl, B9.out, G9.out⟩
end Go.Proofs.YtpaiideboodaeaaGreatDoor
