/- parse of package segment. Conditions: sizes, bytes. -/
import Derived.Test.YtganfhmjklcchaaGreatJSegS
import Derived.Test.YtganfhmjklcchaaGreatJHdrT
import Derived.Test.YtganfhmjklcchaaGreatJCloneY
import Derived.Test.YtganfhmjklcchaaGreatJManiJ
import Derived.Test.YtganfhmjklcchaaGreatJPutJ
namespace Go.Proofs.YtganfhmjklcchaaGreat
open Go.RowKit
set_option linter.unusedVariables false
set_option linter.unusedSimpArgs false

theorem entInfo : (Tryz.prog.info? 140).map (fun i => (i.zero, i.size, i.bytes)) = some (some (.agg #[.int .i64 0, .int .u32 0]), 2, 16) := by kernel_rfl
theorem wsz (w : World) (o : Obj) : (w.alloc o).heap.size = w.heap.size + 1 := by simp
theorem wrapE (x : Int) : IntKind.i64.wrap x = wrap64 x := by rw [IntKind.wrap_i64]; unfold wrap64; rfl
/-- what the header says of the first k sections -/
def entL (bs : List Int) : Nat → List Value
  | 0 => []
  | k + 1 => entL bs k ++ [.int .i64 (lenH bs (k + 1) : Nat), .int .u32 (crcH bs (k + 1) : Nat)]
theorem entL_len (bs : List Int) : ∀ k, (entL bs k).length = 2 * k
  | 0 => rfl
  | k + 1 => by simp only [entL, List.length_append, entL_len bs k, List.length_cons, List.length_nil]; omega
theorem entL_at (bs : List Int) : ∀ k j, j < k → (entL bs k)[2 * j]? = some (.int .i64 (lenH bs (j + 1) : Nat)) ∧ (entL bs k)[2 * j + 1]? = some (.int .u32 (crcH bs (j + 1) : Nat))
  | 0, j, h => by omega
  | k + 1, j, h => by
    by_cases hj : j < k
    · have h1 := entL_at bs k j hj
      simp only [entL]
      rw [List.getElem?_append_left (by rw [entL_len]; omega), List.getElem?_append_left (by rw [entL_len]; omega)]
      exact h1
    · obtain rfl : j = k := by omega
      simp only [entL]
      rw [List.getElem?_append_right (by rw [entL_len]; omega), List.getElem?_append_right (by rw [entL_len]; omega), entL_len, Nat.sub_self, show 2 * j + 1 - 2 * j = 1 by omega]
      exact ⟨rfl, rfl⟩
theorem CurS.own {w w' : World} {g b a base e z n : Nat} {v : Value} {xs : List Value} {bs : List Int} {m : Nat} (h : CurS (· < m) w g b bs a) (hg : w.grownBy w' v.ownBlock) (ho : w.ownsRow base e z v n xs) (h1 : g < base) (h2 : m ≤ base) : CurS (· < m) w' g b bs a := by
  obtain ⟨off, c, hb, h3, h4, h5⟩ := h
  refine ⟨off, c, hb.grown hg (fun e => ?_), h3, h4, h5.grown hg (fun x hx e => ?_)⟩
  · have := (ho.lt g e.symm).1; omega
  · have := (ho.lt x e.symm).1
    have hx' : x < m := hx
    omega
theorem Blk.own' {w w' : World} {g t base e z n : Nat} {cs : Array Value} {v : Value} {xs : List Value} (h : Blk w g t cs) (hg : w.grownBy w' v.ownBlock) (ho : w.ownsRow base e z v n xs) (h1 : g < base) : Blk w' g t cs :=
  h.grown hg (fun e => by have := (ho.lt g e.symm).1; omega)
/-- what parse gives -/
def ParP (w : World) (bs : List Int) (e : Ending) (w' : World) : Prop := ∃ A n c, e = .returned (.tuple #[.agg (sumV bs), .slice A n c, .int .i64 (errS bs : Nat)]) ∧ (errS bs = 0 → n = 12 ∧ 12 ≤ c ∧ Rd (w.heap.size ≤ ·) w' A (entL bs 12)) ∧ w.grownBy w' none
theorem fin35 {w W : World} {rb : Nat} {tm : Array Value} {x0 x1 x2 V0 V1 V2 : Value} {E : Nat} {bs : List Int} {A : Option Addr} {n c : Nat} (hrb : rb = w.heap.size) (hB : Blk W rb 78 #[x0, x1, x2]) (hG : w.grownBy W none) (hV : sumV bs = #[V0, V1, V2]) (hE : errS bs = E) (hR : E = 0 → n = 12 ∧ 12 ≤ c ∧ Rd (rb < ·) W A (entL bs 12)) (h2 : tm[2]?.getD undef = .pointer (some ⟨rb, 0, none⟩)) (h3 : tm[3]?.getD undef = .slice A n c) (h4 : tm[4]?.getD undef = .int .i64 E) :
    bodyPost Tryz.prog Tryz.f56 (ParP w bs) .ret ⟨tm, []⟩ (((W.setCell ⟨rb, 0, none⟩ V0).setCell ⟨rb, 1, none⟩ V1).setCell ⟨rb, 2, none⟩ V2) := by
  have hB2 := ((hB.set_ 0 V0).set_ 1 V1).set_ 2 V2
  have q0 := hB2.cell 0; have q1 := hB2.cell 1; have q2 := hB2.cell 2
  simp at q0 q1 q2
  refine bodyPost_ret (v := .tuple #[.agg #[V0, V1, V2], .slice A n c, .int .i64 (E : Nat)]) ?_ rfl ⟨A, n, c, by rw [hV, hE], fun h => ?_, only_setN (only_setN (only_setN hG (by simp [hrb]) _) (by simp [hrb]) _) (by simp [hrb]) _⟩
  · simp [results, Tryz.results56, go_sem, h2, h3, h4, q0, q1, q2]
  · obtain ⟨e1, e2, e3⟩ := hR (by omega)
    have hne : ∀ x, rb < x → some x ≠ some rb := fun x hx e => by injection e; omega
    exact ⟨e1, e2, (((e3.grown (only_setB W V0) hne).grown (only_setB _ V1) hne).grown (only_setB _ V2) hne).mono (fun x hx _ => by rw [← hrb]; exact Nat.le_of_lt hx)⟩
set_option maxHeartbeats 8000000 in
set_option maxRecDepth 100000 in
theorem parse_any {S : Nat → Prop} (A : Option Addr) (bs : List Int) (c : Nat) (w : World) (hr : Rd S w A (bs.map (.int .u8))) (hi : InH bs) (hl : bs.length ≤ 10000000) (hc : bs.length ≤ c) (hm : c ≤ 9223372036854775807) :
    Calls Tryz.prog 56 #[.slice A bs.length c] w (ParP w bs) := by
  have hr2 : Rd (· < w.heap.size) w A (bs.map (.int .u8)) := hr.mono (fun _ _ h => h)
  have HR := Lib.hid hr2
  have HI := Lib.hid hi
  clear hr hr2 hi
  go_enter Tryz.func56, Tryz.ntmps56
  go_upto_region 1 with fail
  obtain ⟨rb, hrb⟩ : ∃ b, b = w.heap.size := ⟨_, rfl⟩
  obtain ⟨W, hW⟩ : ∃ W, W = w.alloc (.cells #[.int .i64 0, .int .i64 0, .int .i64 0] 78) := ⟨_, rfl⟩
  have hBR : Blk W rb 78 #[.int .i64 0, .int .i64 0, .int .i64 0] := by rw [hW, hrb]; exact Blk.new _ _ _
  have hG0 : w.grownBy W none := by rw [hW]; exact only_alloc (only_refl _ _) _
  have HRB := Lib.hid hrb
  have G0 := Lib.hid hG0
  have BR := Lib.hid hBR
  have hrW := hBR.lt
  rw [← hW, ← hrb]
  have q0 := hBR.cell 0; have q1 := hBR.cell 1; have q2 := hBR.cell 2
  have z0 := hBR.frozen 0; have z1 := hBR.frozen 1; have z2 := hBR.frozen 2
  simp at q0 q1 q2
  clear hW hrb hBR hG0
  by_cases hs : bs.length < 124
  · have HE := Lib.hid (errS_short hs)
    have i1 : (bs.length : Int) < 124 := by omega
    clear hs
    go_wp2_with fail
    exact fin35 HRB.out BR.out G0.out (sumV_no HE.out (by decide)) HE.out (fun h => by omega) rfl rfl rfl
  · have hl124 : 124 ≤ bs.length := by omega
    have i1 : ¬ (bs.length : Int) < 124 := by omega
    obtain ⟨b, off, rfl, hSb, hbw, -⟩ := HR.out (by rw [List.length_map]; omega)
    have HRW := Lib.hid (HR.out.grown G0.out (by simp))
    have h4 : (bs.take 4).length = 4 := by rw [List.length_take]; omega
    have hbi := bytesin_rd (S := (· < w.heap.size)) (w := W) (A := some ⟨b, off, none⟩) (bs := bs.take 4) (by rw [List.map_take]; exact HRW.out.take 4)
    rw [h4] at hbi
    have hcv := Lib.BytesIn.convert (P := Tryz.prog) (w := W) (p := some ⟨b, off, none⟩) (n := 4) (xs := bs.take 4) hbi h4 c 22 5 9 Tryz.underlying22 Tryz.underlying5 Tryz.underlying9
    have j1 : (4 : Int) ≤ (c : Int) := by omega
    clear hbi h4 hs
    by_cases hmg : magicB bs = false
    · have HE := Lib.hid (errS_syn hl124 hmg)
      have hb : ((strOfNums (bs.take 4)).toList == ([76, 84, 83, 49] : List UInt8)) = false := by have h := hmg; unfold magicB at h; rw [mgl] at h; exact h
      clear hmg
      go_wp2_with fail
      exact fin35 HRB.out BR.out G0.out (sumV_no HE.out (by decide)) HE.out (fun h => by omega) rfl rfl rfl
    · have hmg2 : magicB bs = true := by simpa using hmg
      have hE4 : strOfNums (bs.take 4) = (⟨#[76, 84, 83, 49]⟩ : ByteArray) := toList_inj (by have h := hmg2; unfold magicB at h; exact eq_of_beq h)
      rw [hE4] at hcv
      have HMG := Lib.hid hmg2
      clear hmg hmg2 hE4
      have j2 : ¬ (c = 4) := by omega
      go_upto_region 6 with fail
      obtain ⟨g, hg⟩ : ∃ g, g = W.heap.size := ⟨_, rfl⟩
      obtain ⟨W2, hW2⟩ : ∃ x, x = W.alloc (.cells #[.slice (some ⟨b, off + 4, none⟩) (bs.length - 4) (c - 4), .bool false] 137) := ⟨_, rfl⟩
      have C4 : Hid (CurS (· < w.heap.size) W2 g b bs 4) := Lib.hid (by
        rw [hW2, hg]
        refine ⟨off + 4, c - 4, Blk.new _ _ _, by omega, by omega, ?_⟩
        rw [List.map_drop]
        exact curDrop (HRW.out.alloc _) 4)
      have B2 : Hid (Blk W2 rb 78 #[.int .i64 0, .int .i64 0, .int .i64 0]) := Lib.hid (by rw [hW2]; exact BR.out.alloc _)
      have G2 : Hid (w.grownBy W2 none) := Lib.hid (by rw [hW2]; exact only_alloc G0.out _)
      have hg2 : g < W2.heap.size := by rw [hW2, hg]; simp
      have hrg : rb < g := by rw [hg]; exact hrW
      have hwg : w.heap.size ≤ g := by have := HRB.out; omega
      have HSg : Hid (∀ x, x < w.heap.size → x ≠ g) := Lib.hid (fun x h => by omega)
      rw [← hW2, ← hg]
      clear hW2 hg q0 q1 q2 z0 z1 z2 hcv
      have l4 := cutN_lt4 HI.out (a := 4) (by decide) (by omega)
      have l8 := cutN_lt8 HI.out (a := 8) (by decide) (by omega)
      have l16 := cutN_lt8 HI.out (a := 16) (by decide) (by omega)
      have HSV : Hid (errS bs = 0 → sumV bs = #[.int .i64 (cutN bs 4 4 : Nat), .int .i64 (wrap64 (cutN bs 8 8 : Nat)), .int .i64 (wrap64 (cutN bs 16 8 : Nat))]) := Lib.hid (fun h => by unfold sumV; rw [if_pos h, wrapE, wrapE])
      have KF := Lib.hid (fun (a k : Nat) (w' : World) (hC : CurS (· < w.heap.size) w' g b bs a) (h1 : a + k ≤ 124) (h2 : k ≤ 8) => fixed_at g b bs a k w' hC HSg.out HI.out (by omega) h1 h2)
      obtain ⟨n4, hn4⟩ : ∃ x, cutN bs 4 4 = x := ⟨_, rfl⟩
      obtain ⟨n8, hn8⟩ : ∃ x, cutN bs 8 8 = x := ⟨_, rfl⟩
      obtain ⟨n16, hn16⟩ : ∃ x, cutN bs 16 8 = x := ⟨_, rfl⟩
      rw [hn4, hn8, hn16] at HSV
      rw [hn4] at l4
      rw [hn8] at l8
      rw [hn16] at l16
      have HN4 := Lib.hid hn4
      have HN8 := Lib.hid hn8
      have HN16 := Lib.hid hn16
      clear hn4 hn8 hn16
      go_wp2_with (first
        | (go_at_call 83; refine (KF.out 16 8 _ C16.out (by decide) (by decide)).mono ?_; rintro e w5 ⟨rfl, hc5, hg5⟩; rw [HN16.out]; have C24 := Lib.hid hc5; have G5 := Lib.hid hg5; have hz5 := hg5.size; clear hc5 hg5)
        | (go_at_call 83; refine (KF.out 8 8 _ C8.out (by decide) (by decide)).mono ?_; rintro e w4 ⟨rfl, hc4, hg4⟩; rw [HN8.out]; have C16 := Lib.hid hc4; have G4 := Lib.hid hg4; have hz4 := hg4.size; clear hc4 hg4)
        | (go_at_call 83; refine (KF.out 4 4 _ C4.out (by decide) (by decide)).mono ?_; rintro e w3 ⟨rfl, hc3, hg3⟩; rw [HN4.out]; have C8 := Lib.hid hc3; have G3 := Lib.hid hg3; have hz3 := hg3.size; clear hc3 hg3))
      obtain ⟨sb, hsb⟩ : ∃ g, g = w5.heap.size := ⟨_, rfl⟩
      obtain ⟨WL, hWL⟩ : ∃ x, x = w5.alloc (.cells #[.int .i64 n4, .int .i64 (wrap64 n8), .int .i64 (wrap64 n16)] 78) := ⟨_, rfl⟩
      have G25 := Lib.hid (only_trans (only_trans G3.out G4.out) G5.out)
      have CL : Hid (CurS (· < w.heap.size) WL g b bs 24) := Lib.hid (by rw [hWL]; exact C24.out.grown (only_alloc (only_refl _ _) _))
      have BL : Hid (Blk WL rb 78 #[.int .i64 0, .int .i64 0, .int .i64 0]) := Lib.hid (by rw [hWL]; exact (B2.out.grown G25.out (fun e => by injection e; omega)).alloc _)
      have BS : Hid (Blk WL sb 78 #[.int .i64 n4, .int .i64 (wrap64 n8), .int .i64 (wrap64 n16)]) := Lib.hid (by rw [hWL, hsb]; exact Blk.new _ _ _)
      have GL : Hid (w.grownBy WL none) := Lib.hid (by rw [hWL]; exact only_alloc (only_fresh G2.out G25.out hwg) _)
      have hgL : g < WL.heap.size := by rw [hWL]; simp; omega
      have hsg : g < sb := by omega
      have hsL : sb < WL.heap.size := by rw [hWL]; simp; omega
      rw [← hWL, ← hsb]
      clear hWL hsb l4 l8 l16 C8 C16 C24 hz3 hz4 hz5 B2
      have HOL := Lib.hid (fun j (hj : j ≤ 12) => offH_le HI.out hl124 j hj)
      have HLL := Lib.hid (fun j (hj : j ≤ 12) => lenH_lt HI.out hj hl124)
      have HCC := Lib.hid (fun j (hj : j ≤ 12) => crcH_lt HI.out hj hl124)
      go_loopw [7, 8, 31] (fun vl vs vk wr => ∃ k : Nat, vk = .int .i64 k ∧ k ≤ 12 ∧ vs = .int .i64 (offH bs k : Nat) ∧ wr.ownsRow WL.heap.size 140 2 vl k (entL bs k) ∧ CurS (· < w.heap.size) wr g b bs (24 + 8 * k) ∧ WL.grownBy wr (some g)) (fun _ _ vk _ => 12 - (intOf vk).toNat)
      case atStart => exact ⟨0, rfl, by omega, rfl, World.ownsRow_nil _ _ _ _, CL.out, only_refl _ _⟩
      case round =>
        obtain ⟨k, rfl, hk, rfl, hO, hC, hG⟩ := hrel
        have OO := Lib.hid hO
        have CO := Lib.hid hC
        have GO := Lib.hid hG
        have hzr := hG.size
        obtain ⟨vO, hvO⟩ : ∃ v, v = u7 := ⟨_, rfl⟩
        rw [← hvO] at OO ⊢
        clear hO hC hG hvO
        by_cases hlt : k < 12
        · have i3 : (k : Int) < 12 := by omega
          have K1 := Lib.hid (KF.out (24 + 8 * k) 4 _ CO.out (by omega) (by decide))
          have HF : Hid (offH bs (k + 1) = offH bs k + lenH bs (k + 1)) := Lib.hid rfl
          have HL1 : Hid (cutN bs (24 + 8 * k) 4 = lenH bs (k + 1)) := Lib.hid (by unfold lenH; rw [show 16 + 8 * (k + 1) = 24 + 8 * k by omega])
          have HC1 : Hid (cutN bs (24 + 8 * k + 4) 4 = crcH bs (k + 1)) := Lib.hid (by unfold crcH; rw [show 20 + 8 * (k + 1) = 24 + 8 * k + 4 by omega])
          have HEL : Hid (entL bs (k + 1) = entL bs k ++ #[Value.int .i64 (lenH bs (k + 1) : Nat), Value.int .u32 (crcH bs (k + 1) : Nat)].toList) := Lib.hid rfl
          have hon := HOL.out k hk
          have hln := HLL.out (k + 1) (by omega)
          have hcn := HCC.out (k + 1) (by omega)
          obtain ⟨on, hon2⟩ : ∃ x, offH bs k = x := ⟨_, rfl⟩
          obtain ⟨ln, hln2⟩ : ∃ x, lenH bs (k + 1) = x := ⟨_, rfl⟩
          obtain ⟨cn, hcn2⟩ : ∃ x, crcH bs (k + 1) = x := ⟨_, rfl⟩
          rw [hon2, hln2] at HF
          rw [hln2] at HL1 hln
          rw [hcn2] at HC1 hcn
          rw [hln2, hcn2] at HEL
          rw [hon2] at hon ⊢
          clear hon2 hln2 hcn2
          go_wp2_with (first
            | (at_builtin; go_must (refine wpList_append1 rfl _ _ 105 rfl WL.heap.size Tryz.underlying105 entInfo rfl (by decide) (v := vO) (by rfl) (w0 := w4.alloc (.cells #[.int .i64 ln, .int .u32 cn] 140)) (cs := #[.int .i64 ln, .int .u32 cn]) ((own_only (own_only OO.out H3.out hgL) H4.out hgL).alloc _) (by rw [wsz]; rfl) rfl (by simp [Value.oneCell']) (by decide) (by omega) (by simp; omega) ?_); intro v7 w7 hown7 hg7 hob7)
            | (go_at_call 83; refine (KF.out (24 + 8 * k + 4) 4 _ C28.out (by omega) (by decide)).mono ?_; rintro e w4 ⟨rfl, hc4, hg4⟩; rw [HC1.out]; have C32 := Lib.hid hc4; have H4 := Lib.hid hg4; have hz4 := hg4.size; clear hc4 hg4)
            | (go_at_call 83; refine K1.out.mono ?_; rintro e w3 ⟨rfl, hc3, hg3⟩; rw [HL1.out]; have C28 := Lib.hid hc3; have H3 := Lib.hid hg3; have hz3 := hg3.size; clear hc3 hg3))
          have OB := Lib.hid ((own_only (own_only OO.out H3.out hgL) H4.out hgL).alloc (.cells #[.int .i64 ln, .int .u32 cn] 140))
          have O7 : Hid (w7.ownsRow WL.heap.size 140 2 v7 (k + 1) (entL bs (k + 1))) := Lib.hid (by rw [HEL.out]; exact hown7)
          have C7 : Hid (CurS (· < w.heap.size) w7 g b bs (24 + 8 * (k + 1))) := Lib.hid (by
            rw [show 24 + 8 * (k + 1) = 24 + 8 * k + 4 + 4 by omega]
            exact (C32.out.grown (only_alloc (only_refl _ _) _)).own hg7 OB.out hgL (by omega))
          have G7 : Hid (WL.grownBy w7 (some g)) := Lib.hid (only_own (only_alloc (only_trans (only_trans GO.out H3.out) H4.out) _) hg7 OB.out (Nat.le_refl _))
          clear hown7 hg7 hob7 OB
          go_wp2_with fail
          go_roundw
          case rel => exact ⟨k + 1, by go_num, by omega, by rw [HF.out]; go_num, O7.out, C7.out, G7.out⟩
          case measure => simp [intOf]; omega
        · have i3 : ¬ (k : Int) < 12 := by omega
          obtain rfl : k = 12 := by omega
          have h120 : 24 + 8 * 12 = 120 := rfl
          obtain ⟨gc, hgc⟩ : ∃ g, g = cutN bs 120 4 := ⟨_, rfl⟩
          obtain ⟨cc, hcc⟩ : ∃ g, g = crcN (bs.take 120) := ⟨_, rfl⟩
          have hg4 : gc < 4294967296 := by rw [hgc]; exact cutN_lt4 HI.out (by omega) (by omega)
          have hc4 : cc < 4294967296 := by rw [hcc]; exact crcN_lt _
          have l120 : (bs.take 120).length = 120 := by rw [List.length_take]; omega
          have GW := Lib.hid (only_fresh GL.out GO.out hwg)
          have KC := Lib.hid (fun (w' : World) (hg' : wr.grownBy w' (some g)) => scrc_any (S := (· < w.heap.size)) (some ⟨b, off, none⟩) (bs.take 120) c w' (by rw [List.map_take]; exact (HR.out.grown (only_fresh GW.out hg' hwg) (by simp)).take 120) (by rw [l120]; decide))
          rw [l120, ← hcc] at KC
          have K120 := Lib.hid (fun (w' : World) (hC : CurS (· < w.heap.size) w' g b bs 120) => KF.out 120 4 w' hC (by decide) (by decide))
          have HGC : Hid (cutN bs 120 4 = gc) := Lib.hid hgc.symm
          have HCN := Lib.hid hcc
          have w1 : IntKind.u32.wrap (gc : Int) = (gc : Int) := IntWalk.u32_in _ (by omega)
          have W1 := Lib.hid w1
          obtain ⟨RB, hRB⟩ : ∃ x : Bool, x = ((gc : Int) != (cc : Int)) := ⟨_, rfl⟩
          have HQ : Hid (((gc : Int) != (cc : Int)) = RB) := Lib.hid hRB.symm
          have HT : Hid (RB = true → errS bs = 15) := Lib.hid (fun h => errS_crc hl124 HMG.out (by
            rw [← hgc, ← hcc]; intro e; rw [e] at hRB; simp at hRB; rw [hRB] at h; cases h))
          have HF : Hid (RB = false → errS bs = if bs.length ≠ offH bs 12 then 14 else 0) := Lib.hid (fun h => errS_end hl124 HMG.out (by
            rw [← hgc, ← hcc]; rw [h] at hRB; have := hRB.symm; rw [bne_eq_false_iff_eq] at this; omega))
          have n1 : (120 : Int) ≤ (c : Int) := by omega
          have n2 : c ≠ 120 := by omega
          have N1 := Lib.hid n1
          have N2 := Lib.hid n2
          clear hgc hcc hRB w1 n1 n2 l120 hg4 hc4
          go_upto_region 15 with fail
          go_cut [47] (fun v wx => v = .bool RB ∧ wr.grownBy wx (some g))
          case first =>
            refine wp_region_gen 7 (JC [some (.int .u64 (gc : Nat)), some (.int .u32 (gc : Int)), some (.slice (some ⟨b, off, none⟩) bs.length c), some (.slice (some ⟨b, off, none⟩) 120 c), some (.int .u32 (cc : Nat)), some (.bool RB), some (.bool RB)] (fun D u wx => wr.grownBy wx (some g) ∧ (D 0 = false → CurS (· < w.heap.size) wx g b bs 120))) (by kernel_rfl) (by kernel_rfl) ?_ ?_ ?_
            · intro u
              exact ⟨(fun j c _ h => by cases h), only_drew (only_refl _ _), fun _ => CO.out⟩
            · intro AA hA
              have hasz : AA.tmps.size = 63 := by rw [hA]; kernel_rfl
              have ea0 : AA.eval (.tmp 0) = .slice (some ⟨b, off, none⟩) bs.length c := by rw [hA]; kernel_rfl
              have ea5 : AA.eval (.tmp 5) = .pointer (some ⟨g, 0, none⟩) := by rw [hA]; kernel_rfl
              clear hA
              simp only [List.take_succ_cons, List.take_zero]
              refine .cons ?_ (.cons ?_ (.cons ?_ (.cons ?_ (.cons ?_ (.cons ?_ (.cons ?_ (.nil)))))))
              · refine gd_call (by kernel_rfl) (Want.none_ rfl) 83 (fun D u ρ wx kn hD => ?_)
                have e0 := kn.own 5 (c := .pointer (some ⟨g, 0, none⟩)) (by kernel_rfl) ea5
                refine ⟨#[.pointer (some ⟨g, 0, none⟩), .int .i64 4], ?_, (K120.out wx (kn.ext.2 hD)).mono ?_⟩
                · simp only [execOp, resolve, Deferred.ofValue, List.map_toArray, List.map_cons, List.map_nil, e0, kn.rho.con, kn.rho.fn]
                  simp [go_sem]
                · rintro e w' ⟨rfl, hc, hg'⟩
                  exact ⟨_, rfl, (fun c h => by injection h with h; injection h with h; rw [← h, HGC.out]), only_trans kn.ext.1 hg', fun h => by simp [updB] at h⟩
              · exact gd_gen (by kernel_rfl) (Want.none_ rfl) rfl (fun D u w v h => by simpa [updB, upd] using h) (fun D u ρ w kn => by
                  have e0 := kn.con 0 48 (c := .int .u64 (gc : Nat)) (by kernel_rfl) (by omega) (by kernel_rfl) rfl
                  simp [execOp, kn.rho.con, e0, go_sem, W1.out])
              · exact gd_gen (by kernel_rfl) (Want.none_ rfl) rfl (fun D u w v h => by simpa [updB, upd] using h) (fun D u ρ w kn => by
                  have e0 := kn.own 0 (c := .slice (some ⟨b, off, none⟩) bs.length c) (by kernel_rfl) ea0
                  simp [execOp, kn.rho.con, e0, go_sem])
              · exact gd_gen (by kernel_rfl) (Want.none_ rfl) rfl (fun D u w v h => by simpa [updB, upd] using h) (fun D u ρ w kn => by
                  have e0 := kn.con 2 50 (c := .slice (some ⟨b, off, none⟩) bs.length c) (by kernel_rfl) (by omega) (by kernel_rfl) rfl
                  simp [execOp, kn.rho.con, e0, go_sem, N1.out, N2.out])
              · refine gd_call (by kernel_rfl) (Want.none_ rfl) 84 (fun D u ρ wx kn hD => ?_)
                have e0 := kn.con 3 51 (c := .slice (some ⟨b, off, none⟩) 120 c) (by kernel_rfl) (by omega) (by kernel_rfl) rfl
                refine ⟨#[.slice (some ⟨b, off, none⟩) 120 c], ?_, (KC.out wx kn.ext.1).mono ?_⟩
                · simp only [execOp, resolve, Deferred.ofValue, List.map_toArray, List.map_cons, List.map_nil, e0, kn.rho.con, kn.rho.fn]
                  simp [go_sem]
                · rintro e w' ⟨rfl, rfl⟩
                  exact ⟨_, rfl, (fun c h => by injection h with h; injection h), by simpa [updB] using kn.ext⟩
              · exact gd_gen (by kernel_rfl) (Want.none_ rfl) rfl (fun D u w v h => by simpa [updB, upd] using h) (fun D u ρ w kn => by
                  have e0 := kn.con 1 49 (c := .int .u32 (gc : Int)) (by kernel_rfl) (by omega) (by kernel_rfl) rfl
                  have e1 := kn.con 4 52 (c := .int .u32 (cc : Nat)) (by kernel_rfl) (by omega) (by kernel_rfl) rfl
                  simp [execOp, kn.rho.con, e0, e1, go_sem, HQ.out])
              · exact gd_gen (by kernel_rfl) (Want.none_ rfl) rfl (fun D u w v h => by simpa [updB, upd] using h) (fun D u ρ w kn => by
                  have e0 := kn.con 5 53 (c := .bool RB) (by kernel_rfl) (by omega) (by kernel_rfl) rfl
                  simp [execOp, kn.rho.con, e0, go_sem])
            · intro D u w9 hJ hD
              have hg9 : wr.grownBy w9 (some g) := hJ.2.1
              simp only [List.take_succ_cons, List.take_zero, List.drop_succ_cons, List.drop_zero, putAll]
              rw [show u 6 = .bool RB from hJ.1 6 _ rfl (hD 6 (by decide))]
              clear hJ hD
              go_simp
              go_wp2_with fail
              go_meet
              exact ⟨rfl, hg9⟩
          case rest =>
            obtain ⟨rfl, hg9⟩ := hcut
            have GL9 := Lib.hid (only_trans GO.out hg9)
            have G9 := Lib.hid (only_fresh GL.out GL9.out hwg)
            have B9 := Lib.hid (BL.out.grown GL9.out (fun e => by injection e; omega))
            have S9 := Lib.hid (BS.out.grown GL9.out (fun e => by injection e; omega))
            have O9 := Lib.hid (own_only OO.out hg9 hgL)
            clear hg9
            have hrW := B9.out.lt
            have q0 := B9.out.cell 0; have q1 := B9.out.cell 1; have q2 := B9.out.cell 2
            have z0 := B9.out.frozen 0; have z1 := B9.out.frozen 1; have z2 := B9.out.frozen 2
            have s0 := S9.out.cell 0; have s1 := S9.out.cell 1; have s2 := S9.out.cell 2
            simp at q0 q1 q2 s0 s1 s2
            obtain ⟨AO, cO, rfl, h12, -, -, hro⟩ := Rd.of_own O9.out (by decide)
            have RO := Lib.hid hro
            clear hro
            cases hRB : RB with
            | true =>
              have HE := Lib.hid (HT.out hRB)
              clear hRB
              go_wp2_with fail
              refine fin35 (A := none) (n := 0) (c := 0) (E := 15) HRB.out B9.out G9.out (sumV_no HE.out (by decide)) HE.out (fun h => by omega) ?_ ?_ ?_
              all_goals rfl
            | false =>
              have HE := Lib.hid (HF.out hRB)
              have ho12 := HOL.out 12 (by decide)
              clear hRB
              obtain ⟨on, hon⟩ : ∃ x, x = offH bs 12 := ⟨_, rfl⟩
              rw [← hon] at HE ho12 ⊢
              clear hon
              by_cases hle : bs.length = on
              · have HE0 : Hid (errS bs = 0) := Lib.hid (by rw [HE.out, if_neg (by omega)])
                have e2 : ((on : Int) == (bs.length : Int)) = true := by simp [hle]
                have HV := Lib.hid (HSV.out HE0.out)
                clear hle
                go_wp2_with fail
                refine fin35 (A := AO) (n := 12) (c := cO) (E := 0) HRB.out B9.out G9.out HV.out HE0.out (fun _ => ⟨rfl, h12, RO.out.mono (fun x hx _ => by omega)⟩) ?_ ?_ ?_
                all_goals rfl
              · have HE0 : Hid (errS bs = 14) := Lib.hid (by rw [HE.out, if_pos hle])
                have e2 : ((on : Int) == (bs.length : Int)) = false := by rw [beq_eq_false_iff_ne]; omega
                clear hle
                go_wp2_with fail
                refine fin35 (A := none) (n := 0) (c := 0) (E := 14) HRB.out B9.out G9.out (sumV_no HE0.out (by decide)) HE0.out (fun h => by omega) ?_ ?_ ?_
                all_goals rfl
end Go.Proofs.YtganfhmjklcchaaGreat

namespace Go.Proofs.YtganfhmjklcchaaGreat
open Go.RowKit
set_option linter.unusedVariables false
set_option linter.unusedSimpArgs false

theorem fin16 {w W : World} {rb : Nat} {tm : Array Value} {x0 x1 x2 V0 V1 V2 : Value} {E : Nat} {bs : List Int} (hrb : rb = w.heap.size) (hB : Blk W rb 78 #[x0, x1, x2]) (hG : w.grownBy W none) (hV : sumV bs = #[V0, V1, V2]) (hE : errS bs = E) (h2 : tm[2]?.getD undef = .pointer (some ⟨rb, 0, none⟩)) (h3 : tm[3]?.getD undef = .int .i64 E) :
    bodyPost Tryz.prog Tryz.f33 (SumP w bs) .ret ⟨tm, []⟩ (((W.setCell ⟨rb, 0, none⟩ V0).setCell ⟨rb, 1, none⟩ V1).setCell ⟨rb, 2, none⟩ V2) := by
  have hB2 := ((hB.set_ 0 V0).set_ 1 V1).set_ 2 V2
  have q0 := hB2.cell 0; have q1 := hB2.cell 1; have q2 := hB2.cell 2
  simp at q0 q1 q2
  refine bodyPost_ret (v := .tuple #[.agg #[V0, V1, V2], .int .i64 (E : Nat)]) ?_ rfl ⟨by rw [hV, hE], only_setN (only_setN (only_setN hG (by simp [hrb]) _) (by simp [hrb]) _) (by simp [hrb]) _⟩
  simp [results, Tryz.results33, go_sem, h2, h3, q0, q1, q2]
theorem sumV_three (bs : List Int) : ∃ x y z : Int, sumV bs = #[.int .i64 x, .int .i64 y, .int .i64 z] := by
  unfold sumV
  split
  · exact ⟨_, _, _, rfl⟩
  · exact ⟨_, _, _, rfl⟩
set_option maxHeartbeats 4000000 in
set_option maxRecDepth 100000 in
theorem ssummary_any {S : Nat → Prop} (A : Option Addr) (bs : List Int) (c : Nat) (w : World) (hr : Rd S w A (bs.map (.int .u8))) (hi : InH bs) (hl : bs.length ≤ 10000000) (hc : bs.length ≤ c) (hm : c ≤ 9223372036854775807) :
    Calls Tryz.prog 33 #[.slice A bs.length c] w (SumP w bs) := by
  have HR := Lib.hid hr
  have HI := Lib.hid hi
  clear hr hi
  obtain ⟨x, y, z, hV⟩ := sumV_three bs
  have HV := Lib.hid hV
  clear hV
  go_enter Tryz.func33, Tryz.ntmps33
  go_upto_region 1 with fail
  obtain ⟨rb, hrb⟩ : ∃ b, b = w.heap.size := ⟨_, rfl⟩
  obtain ⟨W, hW⟩ : ∃ W, W = w.alloc (.cells #[.int .i64 0, .int .i64 0, .int .i64 0] 78) := ⟨_, rfl⟩
  have BR : Hid (Blk W rb 78 #[.int .i64 0, .int .i64 0, .int .i64 0]) := Lib.hid (by rw [hW, hrb]; exact Blk.new _ _ _)
  have G0 : Hid (w.grownBy W none) := Lib.hid (by rw [hW]; exact only_alloc (only_refl _ _) _)
  have HRB := Lib.hid hrb
  have hrW := BR.out.lt
  rw [← hW, ← hrb]
  clear hW hrb
  have KP := Lib.hid (parse_any A bs c W (HR.out.grown G0.out (by simp)) HI.out hl hc hm)
  obtain ⟨E, hE⟩ : ∃ E, errS bs = E := ⟨_, rfl⟩
  have HE := Lib.hid hE
  clear hE
  go_upto_region 2 with (go_at_call 56; refine KP.out.mono ?_; rintro e w2 ⟨A2, n2, c2, rfl, -, hg2⟩; rw [HV.out, HE.out]; have G2 := Lib.hid hg2; clear hg2)
  have B2 := Lib.hid ((BR.out.grown G2.out (by simp)).alloc (.cells #[.int .i64 x, .int .i64 y, .int .i64 z] 78))
  have S2 : Hid (Blk (w2.alloc (.cells #[.int .i64 x, .int .i64 y, .int .i64 z] 78)) w2.heap.size 78 #[.int .i64 x, .int .i64 y, .int .i64 z]) := Lib.hid (Blk.new _ _ _)
  have G3 := Lib.hid (only_alloc (only_trans G0.out G2.out) (.cells #[.int .i64 x, .int .i64 y, .int .i64 z] 78))
  obtain ⟨W3, hW3⟩ : ∃ W, W = w2.alloc (.cells #[.int .i64 x, .int .i64 y, .int .i64 z] 78) := ⟨_, rfl⟩
  obtain ⟨sb, hsb⟩ : ∃ b, b = w2.heap.size := ⟨_, rfl⟩
  rw [← hW3] at B2 S2 G3
  rw [← hsb] at S2
  rw [← hW3, ← hsb]
  clear hW3 hsb
  have hrW3 := B2.out.lt
  have q0 := B2.out.cell 0; have q1 := B2.out.cell 1; have q2 := B2.out.cell 2
  have z0 := B2.out.frozen 0; have z1 := B2.out.frozen 1; have z2 := B2.out.frozen 2
  have s0 := S2.out.cell 0; have s1 := S2.out.cell 1; have s2 := S2.out.cell 2
  simp at q0 q1 q2 s0 s1 s2
  go_wp2_with fail
  refine fin16 (E := E) HRB.out B2.out G3.out HV.out HE.out ?_ ?_
  all_goals rfl
end Go.Proofs.YtganfhmjklcchaaGreat

namespace Go.Proofs.YtganfhmjklcchaaGreat
open Go.RowKit
set_option linter.unusedVariables false
set_option linter.unusedSimpArgs false

theorem fin21 {w w3 w7 : World} {bs : List Int} {k n : Nat} {A : Option Addr} {c : Nat} (hE : secE bs k = 0) (hX : secY bs k = secH bs k) (hn : n = (secH bs k).length) (h3 : w.grownBy w3 none) (h7 : w3.grownBy w7 none) (hr : Rd (w3.heap.size ≤ ·) w7 A ((secH bs k).map (.int .u8))) : SecP w bs k (.returned (.tuple #[.slice A n c, .int .i64 0])) w7 :=
  ⟨A, c, by rw [hX, hE, hn]; rfl, by rw [hX]; exact hr.mono (fun b hb _ => Nat.le_trans h3.size hb), only_trans h3 h7⟩
set_option maxHeartbeats 4000000 in
set_option maxRecDepth 100000 in
theorem ssection_any {S : Nat → Prop} (A : Option Addr) (bs : List Int) (c : Nat) (kind : Int) (w : World) (hr : Rd S w A (bs.map (.int .u8))) (hi : InH bs) (hl : bs.length ≤ 10000000) (hc : bs.length ≤ c) (hm : c ≤ 9223372036854775807) :
    Calls Tryz.prog 85 #[.slice A bs.length c, .int .i64 kind] w (SecP w bs kind) := by
  have HR := Lib.hid hr
  have HI := Lib.hid hi
  clear hr hi
  go_enter Tryz.func85, Tryz.ntmps85
  by_cases h1 : kind < 1
  · have i1 : decide (kind < 1) = true := by simp [h1]
    have HE := Lib.hid (secE_out (bs := bs) (.inl h1))
    clear h1
    go_wp2_with fail
    go_ret2
    exact SecP.no HE.out (by decide) (only_refl _ _)
  · by_cases h2 : 12 < kind
    · have i1 : decide (kind < 1) = false := by simp; omega
      have i2 : decide (12 < kind) = true := by simp [h2]
      have HE := Lib.hid (secE_out (bs := bs) (.inr h2))
      clear h1 h2
      go_wp2_with fail
      go_ret2
      exact SecP.no HE.out (by decide) (only_refl _ _)
    · have i1 : decide (kind < 1) = false := by simp; omega
      have i2 : decide (12 < kind) = false := by simp; omega
      obtain ⟨k, rfl⟩ : ∃ k : Nat, kind = k := ⟨kind.toNat, by omega⟩
      have hk1 : 1 ≤ k := by omega
      have hk2 : k ≤ 12 := by omega
      clear h1 h2
      have KP := Lib.hid (parse_any A bs c w HR.out HI.out hl hc hm)
      obtain ⟨x, y, z, hV⟩ := sumV_three bs
      have HV := Lib.hid hV
      clear hV
      obtain ⟨E, hE⟩ : ∃ E, errS bs = E := ⟨_, rfl⟩
      have hE15 := errS_le bs
      rw [hE] at hE15
      by_cases he : E = 0
      · subst he
        have HE0 := Lib.hid hE
        clear hE hE15
        obtain ⟨b, off, rfl, hSb, hbw, -⟩ := HR.out (by rw [List.length_map]; have := (errS_ok HE0.out).1; omega)
        have hl124 : 124 ≤ bs.length := (errS_ok HE0.out).1
        have HIN := Lib.hid (fun j (h1 : 1 ≤ j) (h2 : j ≤ 12) => sec_in HE0.out h1 h2)
        have HSL := Lib.hid (sec_len HE0.out hk1 hk2)
        have HOL := Lib.hid (fun j (hj : j ≤ 12) => offH_le HI.out hl124 j hj)
        have HLL := Lib.hid (fun j (hj : j ≤ 12) => lenH_lt HI.out hj hl124)
        have HCC := Lib.hid (fun j (hj : j ≤ 12) => crcH_lt HI.out hj hl124)
        go_upto_region 7 with (go_at_call 56; refine KP.out.mono ?_; rintro e w2 ⟨A2, n2, c2, rfl, hd2, hg2⟩; obtain ⟨rfl, hc2, hr2⟩ := hd2 HE0.out; rw [HV.out, HE0.out]; have G2 := Lib.hid (only_alloc hg2 (.cells #[.int .i64 x, .int .i64 y, .int .i64 z] 78)); have R2 := Lib.hid (hr2.alloc (.cells #[.int .i64 x, .int .i64 y, .int .i64 z] 78)); clear hd2 hg2 hr2)
        obtain ⟨W, hW⟩ : ∃ W, W = w2.alloc (.cells #[.int .i64 x, .int .i64 y, .int .i64 z] 78) := ⟨_, rfl⟩
        rw [← hW] at G2 R2 ⊢
        clear hW
        obtain ⟨eb, eo, rfl, heb, hebW, -⟩ := R2.out (by rw [entL_len]; decide)
        have HAT : Hid (∀ w', W.grownBy w' none → ∀ j, j < 12 → w'.cell? ⟨eb, eo + 2 * j, none⟩ = some (.int .i64 (lenH bs (j + 1) : Nat)) ∧ w'.cell? ⟨eb, eo + (2 * j + 1), none⟩ = some (.int .u32 (crcH bs (j + 1) : Nat))) := Lib.hid (fun w' hg j hj => by
          obtain ⟨h1, h2⟩ := entL_at bs 12 j hj
          obtain ⟨b', o', e, -, -, hcell⟩ := (R2.out.grown hg (by simp)) (by rw [entL_len]; decide)
          injection e with e; injection e with e1 e2
          subst e1 e2
          exact ⟨hcell _ _ h1, hcell _ _ h2⟩)
        have i5 : (k : Int) - 1 = ((k - 1 : Nat) : Int) := by omega
        obtain ⟨k1, hk1e⟩ : ∃ x, x = k - 1 := ⟨_, rfl⟩
        have HKE : Hid (k1 + 1 = k) := Lib.hid (by omega)
        rw [← hk1e] at i5
        have i6 : IntKind.i64.wrap ((k : Int) - 1) = (k1 : Int) := by rw [i5]; exact IntWalk.i64_in _ (by omega)
        have i7 : (k1 : Int) ≤ (c2 : Int) := by omega
        have i8 : (0 : Int) ≤ (k1 : Int) := by omega
        have hk1l : k1 < 12 := by omega
        go_wp2_with fail
        rw [← hk1e]
        clear hk1e
        go_loopw [9, 33] (fun va vi wr => ∃ j : Nat, vi = .int .i64 j ∧ j ≤ k1 ∧ va = .int .i64 (offH bs j : Nat) ∧ W.grownBy wr none) (fun _ vi _ => 12 - (intOf vi).toNat)
        case atStart => exact ⟨0, rfl, by omega, rfl, only_refl _ _⟩
        case round =>
          obtain ⟨j, rfl, hj, rfl, hG⟩ := hrel
          have GO := Lib.hid hG
          by_cases hlt : j < k1
          · have i9 : (j : Int) < (k1 : Int) := by omega
            obtain ⟨c0, c1⟩ := HAT.out wr hG j (by omega)
            have HF : Hid (offH bs (j + 1) = offH bs j + lenH bs (j + 1)) := Lib.hid rfl
            have hon := HOL.out j (by omega)
            have hln := HLL.out (j + 1) (by omega)
            obtain ⟨on, hon2⟩ : ∃ x, offH bs j = x := ⟨_, rfl⟩
            obtain ⟨ln, hln2⟩ : ∃ x, lenH bs (j + 1) = x := ⟨_, rfl⟩
            obtain ⟨cn, hcn2⟩ : ∃ x, crcH bs (j + 1) = x := ⟨_, rfl⟩
            rw [hon2, hln2] at HF
            rw [hln2] at hln c0
            rw [hcn2] at c1
            rw [hon2] at hon ⊢
            rw [show eo + 2 * j = eo + j * 2 by omega] at c0
            rw [show eo + (2 * j + 1) = eo + j * 2 + 1 by omega] at c1
            clear hon2 hln2 hcn2 hG
            go_wp2_with fail
            go_roundw
            case rel => exact ⟨j + 1, by go_num, by omega, by rw [HF.out]; go_num, only_alloc GO.out _⟩
            case measure => simp [intOf]; omega
          · have i9 : ¬ (j : Int) < (k1 : Int) := by omega
            obtain rfl : j = k1 := by omega
            obtain ⟨c0, c1⟩ := HAT.out wr hG j (by omega)
            have GW := Lib.hid (only_trans G2.out hG)
            have hin := HIN.out (j + 1) (by omega) (by omega)
            have hcn := HCC.out (j + 1) (by omega)
            rw [Nat.add_sub_cancel] at hin
            obtain rfl := HKE.out
            have HRA : Hid (∀ w', w.grownBy w' none → Rd S w' (some ⟨b, off + offH bs j, none⟩) ((secH bs (j + 1)).map (.int .u8))) := Lib.hid (fun w' hg => sec_rd (c := c) (HR.out.grown hg (by simp)) (j + 1))
            have HRZ : Hid (∀ w' A, c = offH bs j → Rd S w' A ((secH bs (j + 1)).map (.int .u8))) := Lib.hid (fun w' A h => sec_rd0 (by rw [Nat.add_sub_cancel]; omega))
            have HRT : Hid (rightH bs (j + 1) = (crcH bs (j + 1) == crcN (secH bs (j + 1)))) := Lib.hid rfl
            have hcc : crcN (secH bs (j + 1)) < 4294967296 := crcN_lt _
            have hsl : (secH bs (j + 1)).length ≤ 10000000 := by rw [HSL.out]; omega
            have HSC := Lib.hid (fun (A : Option Addr) (c' : Nat) (w' : World) (h : Rd S w' A ((secH bs (j + 1)).map (.int .u8))) => scrc_any A (secH bs (j + 1)) c' w' h hsl)
            have KCL := Lib.hid (fun (a : Addr) (c' : Nat) (w' : World) (h : Rd S w' (some a) ((secH bs (j + 1)).map (.int .u8))) => cloneBy_any (some a) (secH bs (j + 1)).length c' ((secH bs (j + 1)).map (.int .u8)) w' h (by rw [List.length_map, Nat.mul_one]) hsl (byte_ones _) (fun e => by cases e))
            rw [HSL.out] at HSC KCL
            have hlE := HSL.out
            obtain ⟨on, hon2⟩ : ∃ x, offH bs j = x := ⟨_, rfl⟩
            obtain ⟨ln, hln2⟩ : ∃ x, lenH bs (j + 1) = x := ⟨_, rfl⟩
            obtain ⟨cn, hcn2⟩ : ∃ x, crcH bs (j + 1) = x := ⟨_, rfl⟩
            obtain ⟨cc, hcc2⟩ : ∃ x, crcN (secH bs (j + 1)) = x := ⟨_, rfl⟩
            rw [hon2] at hin HRA HRZ ⊢
            rw [hln2] at hin c0 HSC KCL hlE
            rw [hcn2] at c1 hcn HRT
            rw [hcc2] at hcc HRT HSC
            rw [show eo + 2 * j = eo + j * 2 by omega] at c0
            rw [show eo + (2 * j + 1) = eo + j * 2 + 1 by omega] at c1
            have HLE := Lib.hid hlE
            clear hon2 hln2 hcn2 hcc2 hG hsl hlE
            have n1 : (on : Int) ≤ (on : Int) + (ln : Int) := by omega
            have n2 : (on : Int) + (ln : Int) ≤ (c : Int) := by omega
            go_upto_region 13 with fail
            obtain ⟨SA, hSA⟩ : ∃ a : Addr, (if c = on then some (⟨b, off, none⟩ : Addr) else some ⟨b, off + on, none⟩) = some a := by
              by_cases h : c = on
              · exact ⟨_, by rw [if_pos h]⟩
              · exact ⟨_, by rw [if_neg h]⟩
            have HSA : Hid (∀ w', w.grownBy w' none → Rd S w' (some SA) ((secH bs (j + 1)).map (.int .u8))) := Lib.hid (fun w' hg => by
              rw [← hSA]
              split
              · exact HRZ.out w' _ (by assumption)
              · exact HRA.out w' hg)
            rw [hSA, show on + ln - on = ln by omega]
            clear hSA n1 n2 i5 i7 i8 i1 i2
            have l12 : (j : Int) < 12 := by omega
            have i6b : IntKind.i64.wrap ((j : Int) + 1 - 1) = (j : Int) := by rw [show (j : Int) + 1 - 1 = j by omega]; exact IntWalk.i64_in _ (by omega)
            by_cases heq : cc = cn
            · have HE : Hid (secE bs ((j + 1 : Nat) : Int) = 0) := Lib.hid (by rw [secE_ok hk1 hk2 HE0.out, HRT.out, if_pos (by rw [heq, beq_self_eq_true])])
              have HX := Lib.hid (secY_yes HE.out)
              have e1 : ((cc : Int) == (cn : Int)) = true := by simp [heq]
              clear heq
              go_quiet (first | (go_at_call 84; exact Calls.quiet_of_same (HSC.out _ _ _ (HSA.out _ (only_drewN GW.out _)))))
              go_wp2_with (go_at_call 44; refine (KCL.out SA _ _ (HSA.out _ (only_drewN GW.out _))).mono ?_; rintro e w7 ⟨A7, c7, rfl, hown7, hg7⟩; obtain ⟨A8, c8, hv8, -, -, -, hr7⟩ := Rd.of_own hown7 (by decide); injection hv8 with hA8 hn8 hc8; rw [← hA8] at hr7; have R7 := Lib.hid hr7; have G7 := Lib.hid hg7; clear hown7 hg7 hr7 hA8 hn8 hc8)
              go_ret2
              exact fin21 HE.out HX.out HLE.out.symm (only_drewN GW.out _) G7.out R7.out
            · have HE : Hid (secE bs ((j + 1 : Nat) : Int) = 15) := Lib.hid (by rw [secE_ok hk1 hk2 HE0.out, HRT.out, if_neg (by rw [beq_iff_eq]; omega)])
              have e1 : ((cc : Int) == (cn : Int)) = false := by rw [beq_eq_false_iff_ne]; omega
              clear heq
              go_quiet (first | (go_at_call 84; exact Calls.quiet_of_same (HSC.out _ _ _ (HSA.out _ (only_drewN GW.out _)))))
              go_wp2_with fail
              go_ret2
              exact SecP.no HE.out (by decide) (only_drewN GW.out _)
      · have HE := Lib.hid (secE_err (bs := bs) (kind := (k : Int)) (by omega) (by omega) hE he)
        have hne : ((E : Int) == 0) = false := by rw [beq_eq_false_iff_ne]; omega
        have HE1 := Lib.hid hE
        have HN := Lib.hid he
        clear hE he
        go_wp2_with (go_at_call 56; refine KP.out.mono ?_; rintro e w2 ⟨A2, n2, c2, rfl, -, hg2⟩; rw [HV.out, HE1.out])
        go_ret2
        exact SecP.no HE.out HN.out (only_alloc (by assumption) _)
end Go.Proofs.YtganfhmjklcchaaGreat

namespace Go.Proofs.YtganfhmjklcchaaGreat
open Go.RowKit
set_option linter.unusedVariables false
set_option linter.unusedSimpArgs false

set_option maxHeartbeats 4000000 in
set_option maxRecDepth 100000 in
theorem sdamaged_any {S : Nat → Prop} (A : Option Addr) (bs : List Int) (c : Nat) (w : World) (hr : Rd S w A (bs.map (.int .u8))) (hi : InH bs) (hl : bs.length ≤ 10000000) (hc : bs.length ≤ c) (hm : c ≤ 9223372036854775807) :
    Calls Tryz.prog 59 #[.slice A bs.length c] w (DamP w bs) := by
  have HR := Lib.hid hr
  have HI := Lib.hid hi
  clear hr hi
  go_enter Tryz.func59, Tryz.ntmps59
  have KS := Lib.hid (ssummary_any A bs c w HR.out HI.out hl hc hm)
  obtain ⟨E, hE⟩ : ∃ E, E = errS bs := ⟨_, rfl⟩
  have hE15 := errS_le bs
  rw [← hE] at hE15
  by_cases he : E = 0
  · subst he
    have HE0 := Lib.hid hE.symm
    clear hE hE15
    obtain ⟨b, off, rfl, hSb, hbw, -⟩ := HR.out (by rw [List.length_map]; have := (errS_ok HE0.out).1; omega)
    obtain ⟨x, y, z, hV⟩ : ∃ x y z : Int, sumV bs = #[.int .i64 x, .int .i64 y, .int .i64 z] := ⟨_, _, _, by unfold sumV; rw [if_pos HE0.out]⟩
    have HV := Lib.hid hV
    have KR := Lib.hid (fun (w' : World) (hg : w.grownBy w' none) (k : Nat) => ssection_any (some ⟨b, off, none⟩) bs c (k : Int) w' (HR.out.grown hg (by simp)) HI.out hl hc hm)
    have HS : Hid (∀ e w', SumP w bs e w' → e = .returned (.tuple #[.agg #[.int .i64 x, .int .i64 y, .int .i64 z], .int .i64 ((0 : Nat) : Int)]) ∧ w.grownBy w' none) := Lib.hid (fun e w' h => by have h2 := h; unfold SumP at h2; rw [HV.out, HE0.out] at h2; exact h2)
    clear hV hSb hbw
    go_wp2_with (go_at_call 33; refine KS.out.mono ?_; intro e w2 hs; obtain ⟨rfl, hg2⟩ := HS.out _ _ hs; clear hs)
    have G2 : Hid (w.grownBy _ none) := Lib.hid (only_alloc hg2 (.cells #[.int .i64 x, .int .i64 y, .int .i64 z] 78))
    clear hg2
    go_loopw [6, 7] (fun v vi wr => ∃ k : Nat, vi = .int .i64 k ∧ 1 ≤ k ∧ k ≤ 13 ∧ wr.ownsRow w.heap.size 3 1 v (damH bs (k - 1)).length ((damH bs (k - 1)).map (.int .i64)) ∧ w.grownBy wr none) (fun _ vi _ => 13 - (intOf vi).toNat)
    case atStart => exact ⟨1, rfl, by omega, by omega, World.ownsRow_nil _ _ _ _, G2.out⟩
    case round =>
      obtain ⟨k, rfl, hk1, hk, hO, hG⟩ := hrel
      have OO := Lib.hid hO
      have G := Lib.hid hG
      obtain ⟨vO, hvO⟩ : ∃ v, v = u6 := ⟨_, rfl⟩
      rw [← hvO] at OO ⊢
      clear hO hG hvO
      by_cases hlt : k ≤ 12
      · have i1 : (k : Int) ≤ 12 := by omega
        have KR1 := Lib.hid (KR.out wr G.out k)
        have HSE := Lib.hid (secE_ok hk1 hlt HE0.out)
        have hln := damH_len bs (k - 1)
        have hwz := G.out.size
        cases hR : rightH bs k with
        | true =>
          have HD := Lib.hid (damH_true hR hk1)
          have HE1 : Hid (secE bs k = 0) := Lib.hid (by rw [HSE.out, hR]; rfl)
          clear hR
          go_wp2_with (go_at_call 85; refine KR1.out.mono ?_; rintro e w3 ⟨A3, c3, rfl, -, hg3⟩; rw [HE1.out]; have G3 := Lib.hid hg3; clear hg3)
          go_roundw
          case rel => exact ⟨k + 1, by go_num, by omega, by omega, by rw [Nat.add_sub_cancel, HD.out]; exact own_ext OO.out G3.out, only_trans G.out G3.out⟩
          case measure => simp [intOf]; omega
        | false =>
          have HD := Lib.hid (damH_false hR hk1)
          have HE1 : Hid (secE bs k = 15) := Lib.hid (by rw [HSE.out, hR]; rfl)
          clear hR
          go_wp2_with (first
            | (go_at_call 85; refine KR1.out.mono ?_; rintro e w3 ⟨A3, c3, rfl, -, hg3⟩; rw [HE1.out]; have G3 := Lib.hid hg3; have hz3 := hg3.size; clear hg3)
            | (at_builtin; go_must (refine wpList_append1 rfl _ _ 38 rfl w.heap.size Tryz.underlying38 intInfoS rfl (by decide) (v := vO) (by rfl) (w0 := w3) (cs := #[.int .i64 k]) (own_ext OO.out G3.out) (by rfl) rfl (by simp [Value.oneCell']) (by decide) (by omega) (by omega) ?_); intro v5 w5 hown5 hg5 hob5))
          have O5 : Hid (w5.ownsRow w.heap.size 3 1 v5 (damH bs k).length ((damH bs k).map (.int .i64))) := Lib.hid (by rw [HD.out, List.map_append, List.length_append]; exact hown5)
          have G5 : Hid (w.grownBy w5 none) := Lib.hid (only_own (only_trans G.out G3.out) hg5 (own_ext OO.out G3.out) (Nat.le_refl _))
          clear hown5 hg5 hob5
          go_wp2_with fail
          go_roundw
          case rel => exact ⟨k + 1, by go_num, by omega, by omega, by rw [Nat.add_sub_cancel]; exact O5.out, G5.out⟩
          case measure => simp [intOf]; omega
      · have i1 : ¬ (k : Int) ≤ 12 := by omega
        have hkE : k - 1 = 12 := by omega
        obtain ⟨AO, cO, hv, h1, h2, -, h3⟩ := Rd.of_own OO.out (by decide)
        rw [hkE] at h3 hv
        have HL : Hid (damL bs = damH bs 12) := Lib.hid (by unfold damL; rw [if_pos HE0.out])
        have H3 := Lib.hid h3
        rw [hv]
        clear hv h1 h2 h3 hkE OO
        go_wp2_with fail
        go_ret2
        exact ⟨AO, cO, by rw [HL.out, HE0.out]; rfl, by rw [HL.out]; exact H3.out, G.out⟩
  · have HE := Lib.hid hE.symm
    have hne : ((E : Int) == 0) = false := by rw [beq_eq_false_iff_ne]; omega
    have HS : Hid (∀ e w', SumP w bs e w' → e = .returned (.tuple #[.agg (sumV bs), .int .i64 (E : Nat)]) ∧ w.grownBy w' none) := Lib.hid (fun e w' h => by rw [hE]; exact h)
    have HV : Hid (sumV bs = #[.int .i64 0, .int .i64 0, .int .i64 0]) := Lib.hid (sumV_no hE.symm he)
    have HN := Lib.hid he
    clear hE he
    go_wp2_with (go_at_call 33; refine KS.out.mono ?_; intro e w2 hs; obtain ⟨rfl, hg2⟩ := HS.out _ _ hs; rw [HV.out]; clear hs)
    go_ret2
    exact DamP.no HE.out HN.out (only_alloc (by assumption) _)
end Go.Proofs.YtganfhmjklcchaaGreat

namespace Go.Proofs.YtganfhmjklcchaaGreat
open Go.RowKit
set_option linter.unusedVariables false
set_option linter.unusedSimpArgs false

def whO : Option (List Int) → Option (List Int)
  | some d => if errS d = 0 ∧ damL d = [] then some d else none
  | none => none
/-- the data of a blob that is whole -/
def wholeB (bs : List BlobD) (i t : Int) : Option (List Int) := whO (getB bs i t)
def WholePost (w : World) (r : Option (List Int)) (e : Ending) (w' : World) : Prop :=
  w.grownBy w' none ∧ match r with
    | some d => ∃ A c, e = .returned (.tuple #[.slice A d.length c, .bool true]) ∧ d.length ≤ c ∧ c ≤ maxLen ∧ Rd (w.heap.size ≤ ·) w' A (d.map (.int .u8))
    | none => ∃ A n c, e = .returned (.tuple #[.slice A n c, .bool false])
def DamQ (w : World) (d : List Int) (e : Ending) (w' : World) : Prop := ∃ (A : Option Addr) (n c : Nat) (E : Int), e = .returned (.tuple #[.slice A n c, .int .i64 E]) ∧ n = (damL d).length ∧ E = (errS d : Nat) ∧ w.grownBy w' none
theorem DamP.q {w w' : World} {d : List Int} {e : Ending} (h : DamP w d e w') : DamQ w d e w' := by
  obtain ⟨A, c, he, -, hg⟩ := h
  exact ⟨A, _, c, _, he, rfl, rfl, hg⟩
def SumQ (w : World) (d : List Int) (e : Ending) (w' : World) : Prop := ∃ (x y z E : Int), e = .returned (.tuple #[.agg #[.int .i64 x, .int .i64 y, .int .i64 z], .int .i64 E]) ∧ E = (errS d : Nat) ∧ w.grownBy w' none
theorem SumP.q {w w' : World} {d : List Int} {e : Ending} (h : SumP w d e w') : SumQ w d e w' := by
  obtain ⟨he, hg⟩ := h
  unfold sumV at he
  split at he
  · exact ⟨_, _, _, _, he, rfl, hg⟩
  · exact ⟨_, _, _, _, he, rfl, hg⟩
theorem getB_in {bs : List BlobD} {i t : Int} {S : Nat → Prop} {w : World} (hs : ∀ x ∈ bs, x.Sub S w) (hi : ∀ x ∈ bs, InH x.data) {d : List Int} (h : getB bs i t = some d) : InH d ∧ d.length ≤ 10000000 := by
  unfold getB at h
  split at h
  · cases hx : bs[lowC (cfBlob i t) bs]? with
    | none => rw [hx] at h; cases h
    | some x =>
      rw [hx] at h
      injection h with h
      rw [← h]
      have hm := List.mem_of_getElem? hx
      exact ⟨hi x hm, (hs x hm).2.2.2⟩
  · cases h
set_option maxHeartbeats 2000000 in
set_option maxRecDepth 100000 in
theorem pwhole_any {S S2 : Nat → Prop} (A : Option Addr) (bs : List BlobD) (c : Nat) (i t : Int) (w : World) (hr : Rd S w A (bs.flatMap BlobD.cells)) (hs : ∀ x ∈ bs, x.Sub S2 w) (hl : bs.length ≤ 100000) (hb : BSrt bs) (hi : ∀ x ∈ bs, InH x.data) :
    Calls Tryz.prog 37 #[.slice A bs.length c, .int .i64 i, .int .i64 t] w (WholePost w (wholeB bs i t)) := by
  have KG := Lib.hid (get_any A bs c i t w hr hs hl hb)
  have HD : Hid (∀ d, getB bs i t = some d → InH d ∧ d.length ≤ 10000000) := Lib.hid (fun d hd => getB_in hs hi hd)
  obtain ⟨r, hrr⟩ : ∃ r, r = getB bs i t := ⟨_, rfl⟩
  have HV : Hid (wholeB bs i t = whO r) := Lib.hid (by rw [hrr]; rfl)
  rw [← hrr] at KG HD
  clear hr hs hb hi hrr
  go_enter Tryz.func37, Tryz.ntmps37
  go_wp2_with fail
  cases r with
  | none =>
    refine KG.out.mono ?_
    rintro e w1 ⟨hg1, rfl⟩
    have G1 := Lib.hid hg1
    clear hg1 KG HD
    go_wp2_with fail
    refine ((sdamaged_any (S := fun _ => True) none [] 0 w1 Rd.nil (by simp [InH]) (by simp) (by simp) (by simp)).mono (fun e w' h => DamP.q h)).mono ?_
    rintro e w2 ⟨A2, n, c2, E, rfl, -, -, hg2⟩
    have G2 := Lib.hid (only_trans G1.out hg2)
    clear hg2
    go_wp2_with fail
    go_ret2
    exact ⟨G2.out, by rw [HV.out]; exact ⟨none, 0, 0, rfl⟩⟩
  | some d =>
    obtain ⟨hin, hdl⟩ := HD.out d rfl
    refine KG.out.mono ?_
    rintro e w1 ⟨hg1, A1, c1, rfl, hc1, hm1, hr1⟩
    have KD := Lib.hid ((sdamaged_any A1 d c1 w1 hr1 hin (by omega) hc1 (by unfold maxLen at hm1; omega)).mono (fun e w' h => DamP.q h))
    have R1 := Lib.hid hr1
    have G1 := Lib.hid hg1
    clear hg1 hr1 KG HD
    go_wp2_with fail
    refine KD.out.mono ?_
    rintro e w2 ⟨A2, n, c2, E, rfl, hn, hE, hg2⟩
    have R2 := Lib.hid (R1.out.grown hg2 (by simp))
    have G2 := Lib.hid (only_trans G1.out hg2)
    have HN := Lib.hid hn
    have HE := Lib.hid hE
    clear hg2 hn hE KD R1
    by_cases h0 : E = 0
    · subst h0
      by_cases h1 : n = 0
      · subst h1
        have HW : Hid (whO (some d) = some d) := Lib.hid (by unfold whO; simp only; rw [if_pos ⟨by have := HE.out; omega, List.eq_nil_of_length_eq_zero HN.out.symm⟩])
        go_wp2_with fail
        go_ret2
        exact ⟨G2.out, by rw [HV.out, HW.out]; exact ⟨A1, c1, rfl, hc1, hm1, R2.out⟩⟩
      · have e1 : ((n : Int) == 0) = false := by simp; omega
        have HW : Hid (whO (some d) = none) := Lib.hid (by unfold whO; simp only; rw [if_neg (fun h => h1 (by rw [HN.out, h.2]; rfl))])
        clear h1
        go_wp2_with fail
        go_ret2
        exact ⟨G2.out, by rw [HV.out, HW.out]; exact ⟨A1, d.length, c1, rfl⟩⟩
    · have e1 : (E == 0) = false := by simp [h0]
      have HW : Hid (whO (some d) = none) := Lib.hid (by unfold whO; simp only; rw [if_neg (fun h => h0 (by rw [HE.out, h.1]; rfl))])
      clear h0
      go_wp2_with fail
      go_ret2
      exact ⟨G2.out, by rw [HV.out, HW.out]; exact ⟨A1, d.length, c1, rfl⟩⟩
set_option maxHeartbeats 2000000 in
set_option maxRecDepth 100000 in
theorem rwhole_any {S S2 : Nat → Prop} (A : Option Addr) (bs : List BlobD) (c : Nat) (i t : Int) (w : World) (hr : Rd S w A (bs.flatMap BlobD.cells)) (hs : ∀ x ∈ bs, x.Sub S2 w) (hl : bs.length ≤ 100000) (hb : BSrt bs) (hi : ∀ x ∈ bs, InH x.data) :
    Calls Tryz.prog 39 #[.slice A bs.length c, .int .i64 i, .int .i64 t] w (WholePost w (wholeB bs i t)) := by
  have KG := Lib.hid (rget33_any A bs c i t w hr hs hl)
  have HD : Hid (∀ d, getB bs i t = some d → InH d ∧ d.length ≤ 10000000) := Lib.hid (fun d hd => getB_in hs hi hd)
  obtain ⟨r, hrr⟩ : ∃ r, r = getB bs i t := ⟨_, rfl⟩
  have HV : Hid (wholeB bs i t = whO r) := Lib.hid (by rw [hrr]; rfl)
  rw [← hrr] at KG HD
  clear hr hs hb hi hrr
  go_enter Tryz.func39, Tryz.ntmps39
  go_wp2_with fail
  cases r with
  | none =>
    refine KG.out.mono ?_
    rintro e w1 ⟨hg1, rfl⟩
    have G1 := Lib.hid hg1
    clear hg1 KG HD
    go_wp2_with fail
    refine ((rdamaged_any (S := fun _ => True) none [] 0 w1 Rd.nil (by simp [InH]) (by simp) (by simp) (by simp)).mono (fun e w' h => DamP.q h)).mono ?_
    rintro e w2 ⟨A2, n, c2, E, rfl, -, -, hg2⟩
    have G2 := Lib.hid (only_trans G1.out hg2)
    clear hg2
    go_wp2_with fail
    go_ret2
    exact ⟨G2.out, by rw [HV.out]; exact ⟨none, 0, 0, rfl⟩⟩
  | some d =>
    obtain ⟨hin, hdl⟩ := HD.out d rfl
    refine KG.out.mono ?_
    rintro e w1 ⟨hg1, A1, c1, rfl, hc1, hm1, hr1⟩
    have KD := Lib.hid ((rdamaged_any A1 d c1 w1 hr1 hin (by omega) hc1 (by unfold maxLen at hm1; omega)).mono (fun e w' h => DamP.q h))
    have R1 := Lib.hid hr1
    have G1 := Lib.hid hg1
    clear hg1 hr1 KG HD
    go_wp2_with fail
    refine KD.out.mono ?_
    rintro e w2 ⟨A2, n, c2, E, rfl, hn, hE, hg2⟩
    have R2 := Lib.hid (R1.out.grown hg2 (by simp))
    have G2 := Lib.hid (only_trans G1.out hg2)
    have HN := Lib.hid hn
    have HE := Lib.hid hE
    clear hg2 hn hE KD R1
    by_cases h0 : E = 0
    · subst h0
      by_cases h1 : n = 0
      · subst h1
        have HW : Hid (whO (some d) = some d) := Lib.hid (by unfold whO; simp only; rw [if_pos ⟨by have := HE.out; omega, List.eq_nil_of_length_eq_zero HN.out.symm⟩])
        go_wp2_with fail
        go_ret2
        exact ⟨G2.out, by rw [HV.out, HW.out]; exact ⟨A1, c1, rfl, hc1, hm1, R2.out⟩⟩
      · have e1 : ((n : Int) == 0) = false := by simp; omega
        have HW : Hid (whO (some d) = none) := Lib.hid (by unfold whO; simp only; rw [if_neg (fun h => h1 (by rw [HN.out, h.2]; rfl))])
        clear h1
        go_wp2_with fail
        go_ret2
        exact ⟨G2.out, by rw [HV.out, HW.out]; exact ⟨A1, d.length, c1, rfl⟩⟩
    · have e1 : (E == 0) = false := by simp [h0]
      have HW : Hid (whO (some d) = none) := Lib.hid (by unfold whO; simp only; rw [if_neg (fun h => h0 (by rw [HE.out, h.1]; rfl))])
      clear h0
      go_wp2_with fail
      go_ret2
      exact ⟨G2.out, by rw [HV.out, HW.out]; exact ⟨A1, d.length, c1, rfl⟩⟩
end Go.Proofs.YtganfhmjklcchaaGreat
