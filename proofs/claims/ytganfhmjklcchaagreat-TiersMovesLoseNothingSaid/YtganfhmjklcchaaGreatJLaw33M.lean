/- law33: TiersMovesLoseNothing: the walk of the law itself (printed by mk33p.py). For every input. -/
import Derived.Test.YtganfhmjklcchaaGreatJSameBytes
namespace Go.Proofs.YtganfhmjklcchaaGreat
open Go.RowKit
set_option linter.unusedVariables false
set_option linter.unusedSimpArgs false

/-- what the law has in hand: the manifest's block may be written -/
structure L3M (g : Nat) (l : List Int) (mb : Nat) (A : Option Addr) (bs : List BlobD) (c : Nat) (num nid : Int) (A2 : Option Addr) (ss : List SegD) (c2 : Nat) (wr : World) : Prop where
  mB : Blk wr mb 31 #[.int .i64 num, .int .i64 nid, .int .i64 0, .slice A2 ss.length c2, .slice none 0 0, .slice none 0 0, .slice none 0 0]
  cd : ∃ k, CodesAt wr g l k
  sh : Rd (fun b => g < b ∧ b ≠ mb) wr A (bs.flatMap BlobD.cells)
  sb : ∀ x ∈ bs, x.Sub (fun b => g < b ∧ b ≠ mb) wr
  lc : bs.length ≤ c
  mc : c ≤ maxLen
  zc : A = none → c = 0
  rd : Rd (fun b => g < b ∧ b ≠ mb) wr A2 (ss.flatMap SegD.cells)
  l2 : ss.length ≤ c2
  m2 : c2 ≤ maxLen
section
variable {g : Nat} {l : List Int} {mb : Nat} {A : Option Addr} {bs : List BlobD} {c : Nat} {num nid : Int} {A2 : Option Addr} {ss : List SegD} {c2 : Nat} {wr w' : World}
theorem L3M.quiet (h : L3M g l mb A bs c num nid A2 ss c2 wr) (hg : wr.grownBy w' none) : L3M g l mb A bs c num nid A2 ss c2 w' :=
  { h with mB := h.mB.grown hg (by simp), cd := (by obtain ⟨k, hk⟩ := h.cd; exact ⟨k, hk.grown hg (by simp)⟩), sh := h.sh.grown hg (by simp), sb := fun x hx => (h.sb x hx).grown hg (by simp), rd := h.rd.grown hg (by simp) }
theorem L3M.code (h : L3M g l mb A bs c num nid A2 ss c2 wr) (hg : wr.grownBy w' (some g)) {k : Nat} (hc : CodesAt w' g l k) (h1 : mb ≠ g) : L3M g l mb A bs c num nid A2 ss c2 w' :=
  have hn : ∀ b, (g < b ∧ b ≠ mb) → some b ≠ some g := fun b hb e => by injection e; omega
  { h with mB := h.mB.grown hg (fun e => h1 (by injection e)), cd := ⟨k, hc⟩, sh := h.sh.grown hg hn, sb := fun x hx => (h.sb x hx).grown hg hn, rd := h.rd.grown hg hn }
/-- another shelf, just made -/
theorem L3M.shelf (h : L3M g l mb A bs c num nid A2 ss c2 wr) {A' : Option Addr} {bs' : List BlobD} {c' : Nat} (hg : wr.grownBy w' none) (h1 : Rd (fun b => g < b ∧ b ≠ mb) w' A' (bs'.flatMap BlobD.cells)) (h2 : ∀ x ∈ bs', x.Sub (fun b => g < b ∧ b ≠ mb) w') (h3 : bs'.length ≤ c') (h4 : c' ≤ maxLen) (h5 : A' = none → c' = 0) : L3M g l mb A' bs' c' num nid A2 ss c2 w' :=
  have h0 := h.quiet hg
  { mB := h0.mB, cd := h0.cd, rd := h0.rd, l2 := h0.l2, m2 := h0.m2, sh := h1, sb := h2, lc := h3, mc := h4, zc := h5 }
end
def LoadIs (w : World) (d : List Int) (e : Ending) (w' : World) : Prop :=
  ∃ A c, e = .returned (.tuple #[.slice A d.length c, .int .i64 0]) ∧ d.length ≤ c ∧ c ≤ maxLen ∧ Rd (w.heap.size ≤ ·) w' A (d.map (.int .u8)) ∧ w.grownBy w' none
/-- the shelf is cleaned and whole -/
structure P33 (ss : List SegD) (bs : List BlobD) : Prop where
  srt : BSrt bs
  inh : ∀ x ∈ bs, InH x.data
  gd : GdB bs
  has : HasB ss bs
  asc : AscId ss
  tr : ∀ s ∈ ss, 0 ≤ s.tier ∧ s.tier ≤ 2
theorem P33.clean {ss : List SegD} {bs : List BlobD} (h : P33 ss bs) : P33 ss (cleanB ss bs) := ⟨h.srt.clean, fun x hx => h.inh x (cleanB_mem hx), h.gd.clean, HasB.clean h.asc h.has, h.asc, h.tr⟩
theorem P33.put {ss : List SegD} {bs : List BlobD} (h : P33 ss bs) {i t : Int} {x' : BlobD} {d : List Int} (hk : x'.key = (i, t, d)) (h1 : InH d) (h2 : errS d = 0 ∧ damL d = []) : P33 ss (putB bs i t x') := by
  have e1 : x'.id = i := congrArg (·.1) hk
  have e2 : x'.tier = t := congrArg (·.2.1) hk
  have e3 : x'.data = d := congrArg (·.2.2) hk
  exact ⟨h.srt.putk e1 e2, InB.put h.inh (by rw [e3]; exact h1), h.gd.put (by rw [e3]; exact h2), h.has.put e1 e2, h.asc, h.tr⟩
theorem P33.setT {ss : List SegD} {bs : List BlobD} (h : P33 ss bs) {id tier : Int} {x : BlobD} (hx : x ∈ bs) (h1 : x.id = id) (h2 : x.tier = tier) (ht : 0 ≤ tier ∧ tier ≤ 2) : P33 (setT ss id tier) bs := by
  refine ⟨h.srt, h.inh, h.gd, h.has.setT hx h1 h2, setT_asc h.asc id tier, fun s hs => ?_⟩
  obtain ⟨z, hz, rfl⟩ := List.mem_map.1 hs
  unfold setF
  split
  · exact ht
  · exact h.tr z hz
/-- an entry that has been found keeps its blob behind the cleaning -/
theorem clean_keep {ss : List SegD} {bs : List BlobD} {s : SegD} {x : BlobD} {id : Int} (hs : segF ss id = some s) (hx : x ∈ bs) (h1 : x.id = id) (h2 : x.tier = s.tier) : x ∈ cleanB ss bs := by
  refine List.mem_filter.2 ⟨hx, ?_⟩
  unfold inM
  rw [h1, hs]
  simp [h2]
set_option maxHeartbeats 16000000 in
set_option maxRecDepth 100000 in
theorem law_moves (A : Option Addr) (l0 : List Int) (d : Nat) (w : World) (h : Rd (fun _ => True) w A (l0.map (.int .u8))) (hc : l0.length ≤ d) (hcm : d ≤ maxLen) (hx : ∀ x ∈ l0, 0 ≤ x ∧ x ≤ 255) :
    Calls Tryz.prog 5 #[.slice A l0.length d] w (TrueExt w) := by
  obtain ⟨g0, hg0⟩ : ∃ g, g = w.heap.size := ⟨_, rfl⟩
  have HX := Lib.hid hx
  have HL := Lib.hid h
  clear hx h hg0
  go_enter Tryz.func5, Tryz.ntmps5
  go_wp2_with fail
  refine (awake33_any w).mono ?_
  rintro e w1 ⟨rfl, hg1⟩
  have KS := Lib.hid (scene_any false A l0 d w1 (HL.out.grown hg1 (by simp)) hc hcm HX.out)
  have G1 := Lib.hid hg1
  clear hg1 HL HX
  go_wp2_with fail
  refine KS.out.mono ?_
  rintro e w2 ⟨A0, bs, c, num, nid, A2, ss, c2, g, l, k, rfl, hcd, hsh, hrd, hl2, hm2, hok, hn3, hs3, hb6, hsrt, hinh, hgd, hwg, hg2⟩
  obtain ⟨mb, hmb⟩ : ∃ b, b = w2.heap.size := ⟨_, rfl⟩
  obtain ⟨W3, hW3⟩ : ∃ W, W = w2.alloc (.cells #[.int .i64 num, .int .i64 nid, .int .i64 0, .slice A2 ss.length c2, .slice none 0 0, .slice none 0 0, .slice none 0 0] 31) := ⟨_, rfl⟩
  have g3 : w2.grownBy W3 none := by rw [hW3]; exact only_alloc (only_refl _ _) _
  have L3 : Hid (L33 g l mb A0 bs c num nid A2 ss c2 W3) := Lib.hid { mB := by rw [hW3, hmb]; exact Blk.new w2 _ _, cd := ⟨k, hcd.grown g3 (by simp)⟩, sh := hsh.grown g3 (by simp), rd := hrd.grown g3 (by simp) }
  have G3 := Lib.hid (only_trans (only_trans G1.out hg2) g3)
  have hgm : g < mb := by have := hcd.lt; omega
  have hwg2 : w.heap.size ≤ g := by have := G1.out.size; omega
  have hmg : mb ≠ g := by omega
  have SH2 : Hid (Rd (fun b => g < b ∧ b ≠ mb) W3 A0 (bs.flatMap BlobD.cells) ∧ (∀ x ∈ bs, x.Sub (fun b => g < b ∧ b ≠ mb) W3) ∧ Rd (fun b => g < b ∧ b ≠ mb) W3 A2 (ss.flatMap SegD.cells) ∧ bs.length ≤ c ∧ c ≤ maxLen ∧ (A0 = none → c = 0)) := Lib.hid ⟨(hsh.1.mono (S' := fun b => g < b ∧ b ≠ mb) (fun b hb hlt => (by have h0 : g + 1 ≤ b := hb; omega))).grown g3 (by simp), fun x hx => ((hsh.2.1 x hx).mono (S' := fun b => g < b ∧ b ≠ mb) (fun b hb hlt => (by have h0 : g + 1 ≤ b := hb; omega))).grown g3 (by simp), (hrd.mono (S' := fun b => g < b ∧ b ≠ mb) (fun b hb hlt => (by have h0 : g + 1 ≤ b := hb; omega))).grown g3 (by simp), hsh.2.2⟩
  have PU := Lib.hid (And.intro hl2 (And.intro hm2 (And.intro hok (And.intro hsrt (And.intro hinh hgd)))))
  have HW3 := Lib.hid hW3.symm
  have HMB := Lib.hid hmb
  clear hW3 hmb hcd hsh hrd hm2 hok hsrt hinh hgd hg2 g3 KS G1
  go_upto_region 4 with fail
  rw [HW3.out, ← HMB.out]
  clear HW3
  have hB := L3.out.mB
  have b0 := hB.cell 0
  have b1 := hB.cell 1
  have b2 := hB.cell 2
  have b3 := hB.cell 3
  have b4 := hB.cell 4
  have b5 := hB.cell 5
  have b6 := hB.cell 6
  simp at b0 b1 b2 b3 b4 b5 b6
  clear hB
  have KP := Lib.hid (pclean_any A0 bs c num nid 0 A2 ss c2 W3 L3.out.sh.1 (by omega) L3.out.rd (by omega))
  go_wp2_with fail
  refine KP.out.mono ?_
  rintro e w4 ⟨A4, c4, rfl, y1, y2, y3, y4, hg4⟩
  obtain ⟨q1, q2, q3, q4, q5, q6⟩ := PU.out
  have hM3 := L3.out.mB.lt
  have PP : Hid (P33 ss bs) := Lib.hid ⟨q4, q5, (q6 trivial).1, (q6 trivial).2, q3.asc, fun s hs => by obtain ⟨-, -, -, -, -, -, t1, t2, -⟩ := q3.seg s hs; exact ⟨t1, t2⟩⟩
  have HNUM : Hid (0 ≤ num ∧ num ≤ 3) := Lib.hid ⟨q3.hnum.1, hn3⟩
  have hlen0 : (cleanB ss bs).length = ss.length := clean_len q4 q3.asc (q6 trivial).2
  have P4 : Hid (P33 ss (cleanB ss bs)) := Lib.hid PP.out.clean
  have L4 : Hid (L3M g l mb A4 (cleanB ss bs) c4 num nid A2 ss c2 w4) := Lib.hid {
    mB := L3.out.mB.grown hg4 (by simp)
    cd := by obtain ⟨k, hk⟩ := L3.out.cd; exact ⟨k, hk.grown hg4 (by simp)⟩
    sh := y4.mono (fun b hb _ => by have h0 : W3.heap.size ≤ b := hb; omega)
    sb := fun x hx => (SH2.out.2.1 x (cleanB_mem hx)).grown hg4 (by simp)
    lc := y1
    mc := y2
    zc := y3
    rd := SH2.out.2.2.1.grown hg4 (by simp)
    l2 := q1
    m2 := q2 }
  have G4 := Lib.hid (only_trans G3.out hg4)
  have hz4 : mb < w4.heap.size := Nat.lt_of_lt_of_le hM3 hg4.size
  obtain ⟨bs0, hbs0⟩ : ∃ b, b = cleanB ss bs := ⟨_, rfl⟩
  rw [← hbs0] at P4 L4 hlen0 ⊢
  have HL0 := Lib.hid hlen0
  rw [hlen0]
  clear b0 b1 y1 y2 y3 y4 hg4 q1 q2 q3 q4 q5 q6 hM3 KP L3 SH2 PU PP G3 hbs0 hlen0
  have hB := L4.out.mB
  have b0 := hB.cell 0
  have b1 := hB.cell 1
  have b2 := hB.cell 2
  have b3 := hB.cell 3
  have b4 := hB.cell 4
  have b5 := hB.cell 5
  have b6 := hB.cell 6
  simp at b0 b1 b2 b3 b4 b5 b6
  clear hB
  by_cases hs0 : ss.length = 0
  · have e1 : ((ss.length : Int) == 0) = true := by simp; exact List.eq_nil_of_length_eq_zero hs0
    have HS0 := Lib.hid hs0
    clear hs0
    go_wp2_with fail
    go_ret
    exact ⟨by first | rfl | (rw [HS0.out]; rfl), G4.out⟩
  · have e1 : ((ss.length : Int) == 0) = false := by rw [beq_eq_false_iff_ne]; omega
    clear b0 b1 b2 b4 b5 b6
    have e2 : ¬ ss = [] := fun e => hs0 (by rw [e]; rfl)
    obtain ⟨N, hN⟩ : ∃ N, N = ss.length := ⟨_, rfl⟩
    have HN := Lib.hid hN.symm
    have hN0 : 0 < N := by omega
    have hN3 : N ≤ 3 := by omega
    clear hs0 hN
    go_wp2_with fail
    go_loopw [3, 6] (fun vs vn wr => ∃ (n : Nat) (A : Option Addr) (bs : List BlobD) (c : Nat) (num : Int) (A2 : Option Addr) (ss : List SegD) (c2 : Nat), vs = .slice A N c ∧ vn = .int .i64 n ∧ n ≤ 6 ∧ 0 ≤ num ∧ num ≤ 3 + n ∧ bs.length = N ∧ ss.length = N ∧ P33 ss bs ∧ L3M g l mb A bs c num nid A2 ss c2 wr ∧ w.grownBy wr none ∧ mb < wr.heap.size) (fun _ vn _ => 6 - (intOf vn).toNat)
    case atStart => exact ⟨0, A4, bs0, c4, num, A2, ss, c2, by rw [HN.out], rfl, by omega, HNUM.out.1, by have := HNUM.out.2; omega, HL0.out.trans HN.out, HN.out, P4.out, L4.out, G4.out, hz4⟩
    case round =>
      clear HNUM HL0 P4 L4 G4 hz4 HN e1 e2 b3
      obtain ⟨n, A5, bs5, c5, nu, A6, sg, c6, rfl, rfl, hn6, hu0, hu1, hbl, hsl, hP, hL, hG, hmz⟩ := hrel
      have HBL := Lib.hid hbl
      have HSL := Lib.hid hsl
      have PI := Lib.hid hP
      have LI := Lib.hid hL
      have GR := Lib.hid hG
      clear hbl hsl hP hL hG
      by_cases hn5 : n < 6
      · have i1 : (n : Int) < 6 := by omega
        obtain ⟨k0, hk0⟩ := LI.out.cd
        have hxl : ∀ x ∈ l, 0 ≤ x ∧ x ≤ 255 := by obtain ⟨_, _, _, _, _, _, hx⟩ := hk0; exact hx
        obtain ⟨j, hj⟩ : ∃ j : Nat, nextV l k0 (N : Int) = (j : Int) := ⟨_, (Int.toNat_of_nonneg (nextV_nonneg hxl k0 N)).symm⟩
        have hjN : j < N := by have := nextV_lt hxl k0 (N : Int) (by omega); omega
        obtain ⟨k1, hk1⟩ : ∃ k, nextK l k0 (N : Int) = k := ⟨_, rfl⟩
        obtain ⟨tr, htr⟩ : ∃ t, nextV l k1 3 = t := ⟨_, rfl⟩
        have htr0 : 0 ≤ tr := by rw [← htr]; exact nextV_nonneg hxl k1 3
        have htr1 : tr < 3 := by rw [← htr]; exact nextV_lt hxl k1 3 (by omega)
        obtain ⟨k2, hk2⟩ : ∃ k, nextK l k1 3 = k := ⟨_, rfl⟩
        obtain ⟨pt, hpt⟩ : ∃ t, nextV l k2 4 = t := ⟨_, rfl⟩
        obtain ⟨k3, hk3⟩ : ∃ k, nextK l k2 4 = k := ⟨_, rfl⟩
        have KN1 : Hid (∀ wx, CodesAt wx g l k0 → Calls Tryz.prog 11 #[.pointer (some ⟨g, 0, none⟩), .int .i64 (N : Int)] wx (fun e w' => e = .returned (.int .i64 (j : Int)) ∧ CodesAt w' g l k1 ∧ wx.grownBy w' (some g))) := Lib.hid (fun wx hcx => by
          have h0 := next_any g l k0 (N : Int) wx hcx (by omega)
          unfold NextPost at h0
          rw [hj, hk1] at h0; exact h0)
        have KN2 : Hid (∀ wx, CodesAt wx g l k1 → Calls Tryz.prog 11 #[.pointer (some ⟨g, 0, none⟩), .int .i64 3] wx (fun e w' => e = .returned (.int .i64 tr) ∧ CodesAt w' g l k2 ∧ wx.grownBy w' (some g))) := Lib.hid (fun wx hcx => by
          have h0 := next_any g l k1 3 wx hcx (by omega)
          unfold NextPost at h0
          rw [htr, hk2] at h0; exact h0)
        have KN3 : Hid (∀ wx, CodesAt wx g l k2 → Calls Tryz.prog 11 #[.pointer (some ⟨g, 0, none⟩), .int .i64 4] wx (fun e w' => e = .returned (.int .i64 pt) ∧ CodesAt w' g l k3 ∧ wx.grownBy w' (some g))) := Lib.hid (fun wx hcx => by
          have h0 := next_any g l k2 4 wx hcx (by omega)
          unfold NextPost at h0
          rw [hpt, hk3] at h0; exact h0)
        obtain ⟨s, hs⟩ : ∃ s, sg[j]? = some s := ⟨_, List.getElem?_eq_getElem (by have := HSL.out; omega)⟩
        have HSF : Hid (segF sg s.id = some s) := Lib.hid (segF_of PI.out.asc (List.mem_of_getElem? hs))
        obtain ⟨x, hxm, hx1, hx2⟩ := PI.out.has s (List.mem_of_getElem? hs)
        have HX := Lib.hid (And.intro hxm (And.intro hx1 hx2))
        obtain ⟨dd, hdd⟩ : ∃ dd, dd = x.data := ⟨_, rfl⟩
        have HDD := Lib.hid hdd
        have HDG : Hid (InH dd ∧ errS dd = 0 ∧ damL dd = [] ∧ dd.length ≤ 10000000) := Lib.hid (by rw [hdd]; exact ⟨PI.out.inh x hxm, (PI.out.gd x hxm).1, (PI.out.gd x hxm).2, (LI.out.sb x hxm).2.2.2⟩)
        obtain ⟨b, o, rfl, hbS, hbo, -⟩ := LI.out.rd (by rw [flat_len _ 7 SegD.cells_len]; have := HSL.out; omega)
        have hbg : some b ≠ some g := fun e => by injection e; omega
        have d0 : wr.cell? ⟨b, o + j * 7, none⟩ = some (.int .i64 s.id) := LI.out.rd.flatAt SegD.cells_len hs 0 (by omega)
        have hjl : (j : Int) < (N : Int) := by omega
        have hj0 : (0 : Int) ≤ (j : Int) := by omega
        have LIm : Hid (Blk wr mb 31 #[.int .i64 nu, .int .i64 nid, .int .i64 0, .slice (some ⟨b, o, none⟩) N c6, .slice none 0 0, .slice none 0 0, .slice none 0 0]) := Lib.hid (by have h0 := LI.out.mB; rw [HSL.out] at h0; exact h0)
        clear hj hk1 htr hk2 hpt hk3 hxl hs hxm hx1 hx2 hdd hbS
        obtain ⟨W0, rfl⟩ : ∃ W0 : World, W0 = wr := ⟨_, rfl⟩
        go_upto_region 10 with fail
        refine wp_region_gen 14 (JC [some (.pointer (some ⟨mb, 3, none⟩)), some (.slice (some ⟨b, o, none⟩) (N) (c6)), some (.pointer (some ⟨g, 0, none⟩)), some (.pointer (some ⟨mb, 3, none⟩)), some (.slice (some ⟨b, o, none⟩) (N) (c6)), some (.int .i64 ((N : Int))), some (.int .i64 ((j : Int))), some (.pointer (some ⟨b, o + j * 7, none⟩)), some (.pointer (some ⟨b, o + j * 7, none⟩)), some (.int .i64 (s.id)), some (.pointer (some ⟨g, 0, none⟩)), some (.int .i64 (tr)), some (.pointer (some ⟨g, 0, none⟩)), some (.int .i64 (pt))] (fun D u wx => W0.grownBy wx (some g) ∧ CodesAt wx g l (if D 13 = true then k3 else if D 11 = true then k2 else if D 6 = true then k1 else k0) ∧ (D 11 = true → D 6 = true) ∧ (D 13 = true → D 11 = true))) (by kernel_rfl) (by kernel_rfl) ?_ ?_ ?_
        · intro u
          exact ⟨(fun j c _ h => by cases h), ⟨only_drew (only_refl _ _), hk0.drew, (fun h => by cases h), fun h => by cases h⟩⟩
        · intro AA hA
          have hasz : AA.tmps.size = 134 := by rw [hA]; kernel_rfl
          have ea4 : AA.eval (.tmp 4) = .pointer (some ⟨mb, 0, none⟩) := by rw [hA]; kernel_rfl
          have ea5 : AA.eval (.tmp 5) = .pointer (some ⟨g, 0, none⟩) := by rw [hA]; kernel_rfl
          clear hA
          simp only [List.take_succ_cons, List.take_zero]
          refine .cons ?_ (.cons ?_ (.cons ?_ (.cons ?_ (.cons ?_ (.cons ?_ (.cons ?_ (.cons ?_ (.cons ?_ (.cons ?_ (.cons ?_ (.cons ?_ (.cons ?_ (.cons ?_ (.nil))))))))))))))
          · exact gd_gen (by kernel_rfl) (Want.none_ rfl) rfl (fun D u w v h => by simpa [updB, upd] using h) (fun D u ρ w kn => by
              have e0 := kn.own 4 (c := .pointer (some ⟨mb, 0, none⟩)) (by kernel_rfl) ea4
              simp [execOp, kn.rho.con, e0, go_sem])
          · exact gd_gen (by kernel_rfl) (Want.none_ rfl) rfl (fun D u w v h => by simpa [updB, upd] using h) (fun D u ρ w kn => by
              have e0 := kn.con 0 42 (c := .pointer (some ⟨mb, 3, none⟩)) (by kernel_rfl) (by omega) (by kernel_rfl) rfl
              have f0 := (LIm.out.grown kn.ext.1 (fun e => hmg (by injection e))).cell 3
              simp [execOp, kn.rho.con, e0, f0, go_sem])
          · exact gd_gen (by kernel_rfl) (Want.none_ rfl) rfl (fun D u w v h => by simpa [updB, upd] using h) (fun D u ρ w kn => by
              have e0 := kn.own 5 (c := .pointer (some ⟨g, 0, none⟩)) (by kernel_rfl) ea5
              simp [execOp, kn.rho.con, e0, go_sem])
          · exact gd_gen (by kernel_rfl) (Want.none_ rfl) rfl (fun D u w v h => by simpa [updB, upd] using h) (fun D u ρ w kn => by
              have e0 := kn.own 4 (c := .pointer (some ⟨mb, 0, none⟩)) (by kernel_rfl) ea4
              simp [execOp, kn.rho.con, e0, go_sem])
          · exact gd_gen (by kernel_rfl) (Want.none_ rfl) rfl (fun D u w v h => by simpa [updB, upd] using h) (fun D u ρ w kn => by
              have e0 := kn.con 3 45 (c := .pointer (some ⟨mb, 3, none⟩)) (by kernel_rfl) (by omega) (by kernel_rfl) rfl
              have f0 := (LIm.out.grown kn.ext.1 (fun e => hmg (by injection e))).cell 3
              simp [execOp, kn.rho.con, e0, f0, go_sem])
          · exact gd_gen (by kernel_rfl) (Want.none_ rfl) rfl (fun D u w v h => by simpa [updB, upd] using h) (fun D u ρ w kn => by
              have e0 := kn.con 4 46 (c := .slice (some ⟨b, o, none⟩) (N) (c6)) (by kernel_rfl) (by omega) (by kernel_rfl) rfl
              simp [execOp, kn.rho.con, e0, go_sem, resolve, invoke, builtin])
          · refine gd_call (by kernel_rfl) (Want.none_ rfl) 11 (fun D u ρ wx kn hD => ?_)
            have e0 := kn.con 2 44 (c := .pointer (some ⟨g, 0, none⟩)) (by kernel_rfl) (by omega) (by kernel_rfl) rfl
            have e1 := kn.con 5 47 (c := .int .i64 ((N : Int))) (by kernel_rfl) (by omega) (by kernel_rfl) rfl
            obtain ⟨x1, x2, x3, x4⟩ := kn.ext
            have d11 : D 11 = false := by cases h : D 11 with | false => rfl | true => have := x3 h; rw [hD] at this; cases this
            have d13 : D 13 = false := by cases h : D 13 with | false => rfl | true => have := x4 h; rw [d11] at this; cases this
            rw [d13, d11, hD] at x2
            simp only [Bool.false_eq_true, if_false] at x2
            refine ⟨#[.pointer (some ⟨g, 0, none⟩), .int .i64 ((N : Int))], ?_, (KN1.out wx x2).mono ?_⟩
            · simp only [execOp, resolve, Deferred.ofValue, List.map_toArray, List.map_cons, List.map_nil, e0, e1, kn.rho.con, kn.rho.fn]
              simp [go_sem]
            · rintro e w' ⟨rfl, hcw, hgw⟩
              exact ⟨_, rfl, (fun c h => by injection h with h; injection h), only_trans x1 hgw, by rw [updB_ne D (show (13 : Nat) ≠ 6 by omega), updB_ne D (show (11 : Nat) ≠ 6 by omega), updB_at, d13, d11]; simp only [Bool.false_eq_true, if_false, if_true]; exact hcw, (fun h => updB_at D 6), (fun h => by rw [updB_ne D (show (13 : Nat) ≠ 6 by omega), d13] at h; cases h)⟩
          · exact gd_gen (by kernel_rfl) (Want.none_ rfl) rfl (fun D u w v h => by simpa [updB, upd] using h) (fun D u ρ w kn => by
              have e0 := kn.con 1 43 (c := .slice (some ⟨b, o, none⟩) (N) (c6)) (by kernel_rfl) (by omega) (by kernel_rfl) rfl
              have e1 := kn.con 6 48 (c := .int .i64 ((j : Int))) (by kernel_rfl) (by omega) (by kernel_rfl) rfl
              simp [execOp, kn.rho.con, e0, e1, go_sem, hjl])
          · exact gd_gen (by kernel_rfl) (Want.none_ rfl) rfl (fun D u w v h => by simpa [updB, upd] using h) (fun D u ρ w kn => by
              have e0 := kn.con 7 49 (c := .pointer (some ⟨b, o + j * 7, none⟩)) (by kernel_rfl) (by omega) (by kernel_rfl) rfl
              simp [execOp, kn.rho.con, e0, go_sem])
          · exact gd_gen (by kernel_rfl) (Want.none_ rfl) rfl (fun D u w v h => by simpa [updB, upd] using h) (fun D u ρ w kn => by
              have e0 := kn.con 8 50 (c := .pointer (some ⟨b, o + j * 7, none⟩)) (by kernel_rfl) (by omega) (by kernel_rfl) rfl
              have f0 := (World.cell?_of_block (w := W0) (a := ⟨b, o + j * 7, none⟩) (kn.ext.1.block b hbo hbg)).trans d0
              simp [execOp, kn.rho.con, e0, f0, go_sem])
          · exact gd_gen (by kernel_rfl) (Want.none_ rfl) rfl (fun D u w v h => by simpa [updB, upd] using h) (fun D u ρ w kn => by
              have e0 := kn.own 5 (c := .pointer (some ⟨g, 0, none⟩)) (by kernel_rfl) ea5
              simp [execOp, kn.rho.con, e0, go_sem])
          · refine gd_call (by kernel_rfl) (Want.none_ rfl) 11 (fun D u ρ wx kn hD => ?_)
            have e0 := kn.con 10 52 (c := .pointer (some ⟨g, 0, none⟩)) (by kernel_rfl) (by omega) (by kernel_rfl) rfl
            obtain ⟨x1, x2, x3, x4⟩ := kn.ext
            have d6 := kn.dep 6 (by kernel_rfl)
            have d13 : D 13 = false := by cases h : D 13 with | false => rfl | true => have := x4 h; rw [hD] at this; cases this
            rw [d13, hD, d6] at x2
            simp only [Bool.false_eq_true, if_false, if_true] at x2
            refine ⟨#[.pointer (some ⟨g, 0, none⟩), .int .i64 (3)], ?_, (KN2.out wx x2).mono ?_⟩
            · simp only [execOp, resolve, Deferred.ofValue, List.map_toArray, List.map_cons, List.map_nil, e0, kn.rho.con, kn.rho.fn]
              simp [go_sem]
            · rintro e w' ⟨rfl, hcw, hgw⟩
              exact ⟨_, rfl, (fun c h => by injection h with h; injection h), only_trans x1 hgw, by rw [updB_ne D (show (13 : Nat) ≠ 11 by omega), updB_at, d13]; simp only [Bool.false_eq_true, if_false, if_true]; exact hcw, (fun h => by rw [updB_ne D (show (6 : Nat) ≠ 11 by omega)]; exact d6), (fun h => updB_at D 11)⟩
          · exact gd_gen (by kernel_rfl) (Want.none_ rfl) rfl (fun D u w v h => by simpa [updB, upd] using h) (fun D u ρ w kn => by
              have e0 := kn.own 5 (c := .pointer (some ⟨g, 0, none⟩)) (by kernel_rfl) ea5
              simp [execOp, kn.rho.con, e0, go_sem])
          · refine gd_call (by kernel_rfl) (Want.none_ rfl) 11 (fun D u ρ wx kn hD => ?_)
            have e0 := kn.con 12 54 (c := .pointer (some ⟨g, 0, none⟩)) (by kernel_rfl) (by omega) (by kernel_rfl) rfl
            obtain ⟨x1, x2, x3, x4⟩ := kn.ext
            have d11 := kn.dep 11 (by kernel_rfl)
            rw [hD, d11] at x2
            simp only [Bool.false_eq_true, if_false, if_true] at x2
            refine ⟨#[.pointer (some ⟨g, 0, none⟩), .int .i64 (4)], ?_, (KN3.out wx x2).mono ?_⟩
            · simp only [execOp, resolve, Deferred.ofValue, List.map_toArray, List.map_cons, List.map_nil, e0, kn.rho.con, kn.rho.fn]
              simp [go_sem]
            · rintro e w' ⟨rfl, hcw, hgw⟩
              exact ⟨_, rfl, (fun c h => by injection h with h; injection h), only_trans x1 hgw, by rw [updB_at]; simp only [if_true]; exact hcw, (fun h => by rw [updB_ne D (show (11 : Nat) ≠ 13 by omega)] at h; rw [updB_ne D (show (6 : Nat) ≠ 13 by omega)]; exact x3 h), (fun h => by rw [updB_ne D (show (11 : Nat) ≠ 13 by omega)]; exact d11)⟩
        · intro D u w9 hJ hD
          obtain ⟨hcn, x1, x2, -, -⟩ := hJ
          rw [hD 13 (by omega)] at x2
          simp only [if_true] at x2
          have e9 : u 9 = .int .i64 s.id := hcn 9 _ rfl (hD 9 (by omega))
          have e11 : u 11 = .int .i64 tr := hcn 11 _ rfl (hD 11 (by omega))
          have e13 : u 13 = .int .i64 pt := hcn 13 _ rfl (hD 13 (by omega))
          simp only [List.take_succ_cons, List.take_zero, List.drop_succ_cons, List.drop_zero, putAll]
          rw [e9, e11, e13]
          have L9 := Lib.hid (LI.out.code x1 x2 hmg)
          have G9 := Lib.hid (only_fresh GR.out x1 hwg2)
          clear hcn x1 x2 e9 e11 e13 hD d0
          go_simp
          have KL := Lib.hid (fun (W : World) (hW : w9.grownBy W none) => (show Calls Tryz.prog 12 #[.slice A5 N c5, .agg #[.int .i64 nu, .int .i64 nid, .int .i64 0, .slice (some ⟨b, o, none⟩) N c6, .slice none 0 0, .slice none 0 0, .slice none 0 0], .int .i64 s.id] W (LoadIs W dd) from by
            have h0 := pload_any A5 bs5 c5 nu nid 0 (some ⟨b, o, none⟩) sg c6 s.id W (L9.out.sh.grown hW (by simp)) (fun y hy => (L9.out.sb y hy).grown hW (by simp)) (by rw [HBL.out]; omega) PI.out.srt PI.out.inh (L9.out.rd.grown hW (by simp)) (by rw [HSL.out]; omega)
            rw [load_good PI.out.srt PI.out.gd HSF.out HX.out.1 HX.out.2.1 HX.out.2.2, ← HDD.out, HBL.out, HSL.out] at h0
            exact h0))
          have hm9 : mb < w9.heap.size := L9.out.mB.lt
          have hB := L9.out.mB
          rw [HSL.out] at hB
          have b0 := hB.cell 0
          have b1 := hB.cell 1
          have b2 := hB.cell 2
          have b3 := hB.cell 3
          have b4 := hB.cell 4
          have b5 := hB.cell 5
          have b6 := hB.cell 6
          simp at b0 b1 b2 b3 b4 b5 b6
          clear hB KN1 KN2 KN3 hk0 LI GR LIm
          go_wp2_with fail
          refine (KL.out w9 (only_refl _ _)).mono ?_
          rintro e w11 ⟨A11, c11, rfl, z1, z2, z3, hg11⟩
          have L11 := Lib.hid (L9.out.quiet hg11)
          have G11 := Lib.hid (only_trans G9.out hg11)
          have O11 := Lib.hid (z3.mono (S' := (mb < ·)) (fun b hb _ => Nat.lt_of_lt_of_le hm9 hb))
          have hz11 : mb < w11.heap.size := Nat.lt_of_lt_of_le hm9 hg11.size
          clear b0 b1 b2 b3 b4 b5 b6 z1 z2 z3 hg11 L9 G9 KL
          go_upto_if 66 with fail
          go_cut [3] (fun va wx => ∃ (A1 : Option Addr) (bs1 : List BlobD) (c1 : Nat), va = .slice A1 bs1.length c1 ∧ bs1.length ≤ N + 1 ∧ P33 sg bs1 ∧ L3M g l mb A1 bs1 c1 nu nid (some ⟨b, o, none⟩) sg c6 wx ∧ (∃ y ∈ bs1, y.id = s.id ∧ y.tier = s.tier ∧ y.data = dd) ∧ (0 < pt → ∃ y ∈ bs1, y.id = s.id ∧ y.tier = tr ∧ y.data = dd) ∧ w11.grownBy wx none)
          case first =>
            by_cases hp : 0 < pt
            · have KC := Lib.hid (show Calls Tryz.prog 16 #[.slice A5 N c5, .agg #[.int .i64 nu, .int .i64 nid, .int .i64 0, .slice (some ⟨b, o, none⟩) N c6, .slice none 0 0, .slice none 0 0, .slice none 0 0], .int .i64 s.id, .int .i64 tr] w11 (CopyPost (fun b => g < b ∧ b ≠ mb) w11 bs5 s.id tr (0, dd)) from by
                have h0 := pcopy_any (S := fun b => g < b ∧ b ≠ mb) A5 bs5 c5 nu nid 0 (some ⟨b, o, none⟩) sg c6 s.id tr w11 L11.out.sh L11.out.sb (fun b hb => by omega) (by rw [HBL.out]; omega) L11.out.lc L11.out.mc L11.out.zc PI.out.srt PI.out.inh L11.out.rd (by rw [HSL.out]; omega)
                rw [copyO_yes HSF.out (by omega) (whole_good PI.out.srt PI.out.gd HX.out.1 HX.out.2.1 HX.out.2.2), ← HDD.out] at h0
                rw [HBL.out, HSL.out] at h0
                exact h0)
              have hB := L11.out.mB
              rw [HSL.out] at hB
              have b0 := hB.cell 0
              have b1 := hB.cell 1
              have b2 := hB.cell 2
              have b3 := hB.cell 3
              have b4 := hB.cell 4
              have b5 := hB.cell 5
              have b6 := hB.cell 6
              simp at b0 b1 b2 b3 b4 b5 b6
              clear hB
              go_wp2_with fail
              refine KC.out.mono ?_
              rintro e w12 ⟨hg12, A12, n12, c12, rfl, hz⟩
              obtain ⟨x', bs', hk', hbs', rfl, y1, y2, y3, y4, y5⟩ := hz rfl
              have hkk : x'.id = s.id ∧ x'.tier = tr ∧ x'.data = dd := ⟨congrArg (·.1) hk', congrArg (·.2.1) hk', congrArg (·.2.2) hk'⟩
              have P12 : Hid (P33 sg bs') := Lib.hid (by rw [hbs']; exact PI.out.put hk' HDG.out.1 ⟨HDG.out.2.1, HDG.out.2.2.1⟩)
              have L12 := Lib.hid (L11.out.shelf hg12 y4 y5 y1 y2 y3)
              have hl12 : bs'.length ≤ N + 1 := by rw [hbs']; have := putB_len bs5 s.id tr x'; rw [HBL.out] at this; exact this
              have N12 : Hid (∃ y ∈ bs', y.id = s.id ∧ y.tier = tr ∧ y.data = dd) := Lib.hid ⟨x', by rw [hbs']; exact putB_new, hkk⟩
              have X12 : Hid (∃ y ∈ bs', y.id = s.id ∧ y.tier = s.tier ∧ y.data = dd) := Lib.hid (by
                by_cases he : s.tier = tr
                · exact ⟨x', by rw [hbs']; exact putB_new, hkk.1, by rw [hkk.2.1, he], hkk.2.2⟩
                · exact ⟨x, by rw [hbs']; exact putB_old HX.out.1 (fun h => he (by rw [← HX.out.2.2, h.2])), HX.out.2.1, HX.out.2.2, HDD.out.symm⟩)
              have G12 := Lib.hid hg12
              clear hg12 hz hk' hbs' y1 y2 y3 y4 y5 hkk b0 b1 b2 b3 b4 b5 b6 KC
              go_wp2_with fail
              go_meet
              exact ⟨A12, bs', c12, rfl, hl12, P12.out, L12.out, X12.out, fun _ => N12.out, G12.out⟩
            · go_wp2_with fail
              go_meet
              exact ⟨A5, bs5, c5, by rw [HBL.out], by rw [HBL.out]; omega, PI.out, L11.out, ⟨x, HX.out.1, HX.out.2.1, HX.out.2.2, HDD.out.symm⟩, fun h => absurd h (by omega), only_refl _ _⟩
          case rest =>
            obtain ⟨A1, bs1, c1, rfl, hl1, hP, hL, hold, hnew, hg1⟩ := hcut
            have P1 := Lib.hid hP
            have L1 := Lib.hid hL
            have HOLD := Lib.hid hold
            have HNEW := Lib.hid hnew
            have O1 := Lib.hid (O11.out.grown hg1 (by simp))
            have G1 := Lib.hid (only_trans G11.out hg1)
            have hz1 : mb < wc.heap.size := Nat.lt_of_lt_of_le hz11 hg1.size
            obtain ⟨w12, rfl⟩ : ∃ w12 : World, w12 = wc := ⟨_, rfl⟩
            clear hP hL hold hnew hg1 PI L11 O11 G11 hz11
            go_upto_if 79 with fail
            go_cut [] (fun wx => ∃ (num' : Int) (A' : Option Addr) (ss1 : List SegD) (c' : Nat), 0 ≤ num' ∧ num' ≤ nu + 1 ∧ ss1.length = N ∧ P33 ss1 bs1 ∧ L3M g l mb A1 bs1 c1 num' nid A' ss1 c' wx ∧ (∃ (s1 : SegD) (y : BlobD), segF ss1 s.id = some s1 ∧ y ∈ bs1 ∧ y.id = s.id ∧ y.tier = s1.tier ∧ y.data = dd) ∧ w12.grownBy wx (some mb) ∧ w.grownBy wx none)
            case first =>
              by_cases hp : 1 < pt
              · have KS := Lib.hid (show Calls Tryz.prog 18 #[.slice A1 bs1.length c1, .agg #[.int .i64 nu, .int .i64 nid, .int .i64 0, .slice (some ⟨b, o, none⟩) N c6, .slice none 0 0, .slice none 0 0, .slice none 0 0], .int .i64 s.id, .int .i64 tr] w12 (SwPost w12 nu nid 0 (setT sg s.id tr) 0) from by
                  obtain ⟨y, ym, y1, y2, y3⟩ := HNEW.out (by omega)
                  have h0 := pswitch_any A1 bs1 c1 nu nid 0 (some ⟨b, o, none⟩) sg c6 s.id tr w12 L1.out.sh L1.out.sb (by omega) P1.out.srt P1.out.inh L1.out.rd (by rw [HSL.out]; omega) L1.out.l2 L1.out.m2 P1.out.asc (by omega)
                  rw [switchE_yes HSF.out (by omega) (whole_good P1.out.srt P1.out.gd ym y1 y2)] at h0
                  rw [HSL.out] at h0
                  exact h0)
                have hB := L1.out.mB
                rw [HSL.out] at hB
                have b0 := hB.cell 0
                have b1 := hB.cell 1
                have b2 := hB.cell 2
                have b3 := hB.cell 3
                have b4 := hB.cell 4
                have b5 := hB.cell 5
                have b6 := hB.cell 6
                simp at b0 b1 b2 b3 b4 b5 b6
                clear hB
                go_wp2_with fail
                refine KS.out.mono ?_
                rintro e w13 ⟨hg13, a0, a1, a2, A', n', c', rfl, hz⟩
                obtain ⟨q0, q1, q2, hn', k1, k2, k3⟩ := hz rfl
                have hlt := setT_len sg s.id tr
                have q3 : n' = N := by rw [hn', hlt, HSL.out]
                rw [q3] at k1
                rw [q0, q1, q2, q3]
                clear q0 q1 q2 q3
                obtain ⟨W14, hW14⟩ : ∃ W, W = w13.alloc (.cells #[.int .i64 (nu + 1), .int .i64 nid, .int .i64 0, .slice A' N c', .slice none 0 0, .slice none 0 0, .slice none 0 0] 31) := ⟨_, rfl⟩
                obtain ⟨nb, hnb⟩ : ∃ b, b = w13.heap.size := ⟨_, rfl⟩
                have g14 : w13.grownBy W14 none := by rw [hW14]; exact only_alloc (only_refl _ _) _
                have NB : Blk W14 nb 31 #[.int .i64 (nu + 1), .int .i64 nid, .int .i64 0, .slice A' N c', .slice none 0 0, .slice none 0 0, .slice none 0 0] := by rw [hW14, hnb]; exact Blk.new w13 _ _
                have hg14 := only_trans hg13 g14
                have L14 := Lib.hid (L1.out.quiet hg14)
                have hM := L14.out.mB
                rw [HSL.out] at hM
                obtain ⟨W15, hW15⟩ : ∃ W, W = ((((((W14.setCell ⟨mb, 0, none⟩ (.int .i64 (nu + 1))).setCell ⟨mb, 1, none⟩ (.int .i64 nid)).setCell ⟨mb, 2, none⟩ (.int .i64 0)).setCell ⟨mb, 3, none⟩ (.slice A' N c')).setCell ⟨mb, 4, none⟩ (.slice none 0 0)).setCell ⟨mb, 5, none⟩ (.slice none 0 0)).setCell ⟨mb, 6, none⟩ (.slice none 0 0) := ⟨_, rfl⟩
                have g15 : W14.grownBy W15 (some mb) := by rw [hW15]; exact only_set7 (only_refl W14 (some mb)) (b := mb) (.int .i64 (nu + 1)) (.int .i64 nid) (.int .i64 0) (.slice A' N c') (.slice none 0 0) (.slice none 0 0) (.slice none 0 0)
                have M15 : Blk W15 mb 31 #[.int .i64 (nu + 1), .int .i64 nid, .int .i64 0, .slice A' N c', .slice none 0 0, .slice none 0 0, .slice none 0 0] := by rw [hW15]; exact blk_put7 hM (.int .i64 (nu + 1)) (.int .i64 nid) (.int .i64 0) (.slice A' N c') (.slice none 0 0) (.slice none 0 0) (.slice none 0 0)
                have hnm : ∀ b, (g < b ∧ b ≠ mb) → some b ≠ some mb := fun b hb e => by injection e; omega
                have hwm : w.heap.size ≤ mb := by omega
                have HF : Hid (∃ (num' : Int) (A' : Option Addr) (ss1 : List SegD) (c' : Nat), 0 ≤ num' ∧ num' ≤ nu + 1 ∧ ss1.length = N ∧ P33 ss1 bs1 ∧ L3M g l mb A1 bs1 c1 num' nid A' ss1 c' W15 ∧ (∃ (s1 : SegD) (y : BlobD), segF ss1 s.id = some s1 ∧ y ∈ bs1 ∧ y.id = s.id ∧ y.tier = s1.tier ∧ y.data = dd) ∧ w12.grownBy W15 (some mb) ∧ w.grownBy W15 none) := Lib.hid (by
                  obtain ⟨y, ym, y1, y2, y3⟩ := HNEW.out (by omega)
                  refine ⟨nu + 1, A', setT sg s.id tr, c', by omega, by omega, hlt.trans HSL.out, P1.out.setT ym y1 y2 (by omega), ?_, ⟨s.at_ s.level tr, y, setT_find HSF.out, ym, y1, y2, y3⟩, only_trans (only_of_none hg14 _) g15, only_fresh (only_trans G1.out hg14) g15 hwm⟩
                  exact { mB := by rw [hlt, HSL.out]; exact M15
                          cd := by obtain ⟨k, hk⟩ := L14.out.cd; exact ⟨k, hk.grown g15 (fun b hb e => by injection e; omega)⟩
                          sh := L14.out.sh.grown g15 hnm
                          sb := fun x hx => (L14.out.sb x hx).grown g15 hnm
                          lc := L14.out.lc
                          mc := L14.out.mc
                          zc := L14.out.zc
                          rd := ((k3.mono (S' := fun b => g < b ∧ b ≠ mb) (fun b hb _ => by have h0 : w12.heap.size ≤ b := hb; omega)).grown g14 (by simp)).grown g15 hnm
                          l2 := by rw [hlt, HSL.out]; exact k1
                          m2 := k2 })
                have HW14 := Lib.hid hW14.symm
                have HNB := Lib.hid hnb
                have HW15 := Lib.hid hW15.symm
                have NBB := Lib.hid NB
                have HMM := Lib.hid hM
                clear hg13 hz hn' k1 k2 k3 hlt hW14 hnb hW15 NB hM g14 hg14 g15 M15 hnm b0 b1 b2 b3 b4 b5 b6 KS
                go_upto_region 23 with fail
                rw [HW14.out, ← HNB.out]
                have hN := NBB.out
                have hM := HMM.out
                have b0 := hN.cell 0
                have b1 := hN.cell 1
                have b2 := hN.cell 2
                have b3 := hN.cell 3
                have b4 := hN.cell 4
                have b5 := hN.cell 5
                have b6 := hN.cell 6
                simp at b0 b1 b2 b3 b4 b5 b6
                have q0 := hM.cell 0
                have q1 := hM.cell 1
                have q2 := hM.cell 2
                have q3 := hM.cell 3
                have q4 := hM.cell 4
                have q5 := hM.cell 5
                have q6 := hM.cell 6
                simp at q0 q1 q2 q3 q4 q5 q6
                have p0 := hM.frozen 0
                have p1 := hM.frozen 1
                have p2 := hM.frozen 2
                have p3 := hM.frozen 3
                have p4 := hM.frozen 4
                have p5 := hM.frozen 5
                have p6 := hM.frozen 6
                clear hN hM
                go_wp2_with fail
                go_meet
                rw [HW15.out]
                exact HF.out
              · go_wp2_with fail
                go_meet
                obtain ⟨y, ym, y1, y2, y3⟩ := HOLD.out
                exact ⟨nu, (some ⟨b, o, none⟩), sg, c6, hu0, by omega, HSL.out, P1.out, L1.out, ⟨s, y, HSF.out, ym, y1, y2, y3⟩, only_refl _ _, G1.out⟩
            case rest =>
              obtain ⟨n1, A13, ss1, c13, hn10, hn11, hs1, hP, hL, ⟨s1, y, hf1, ym, y1, y2, y3⟩, hg2, hgw⟩ := hcut
              have P2 := Lib.hid hP
              have L2 := Lib.hid hL
              have HS1 := Lib.hid hs1
              have HF1 := Lib.hid (And.intro hf1 (And.intro ym (And.intro y1 (And.intro y2 y3))))
              have O2 := Lib.hid (O1.out.grown hg2 (fun b hb e => by injection e; omega))
              have G2 := Lib.hid hgw
              obtain ⟨w14, rfl⟩ : ∃ w14 : World, w14 = wc := ⟨_, rfl⟩
              have hz14 : mb < w14.heap.size := L2.out.mB.lt
              clear hP hL hs1 hf1 ym y1 y2 y3 hg2 hgw P1 L1 HOLD HNEW O1 G1
              have KL := Lib.hid (show Calls Tryz.prog 12 #[.slice A1 bs1.length c1, .agg #[.int .i64 n1, .int .i64 nid, .int .i64 0, .slice A13 N c13, .slice none 0 0, .slice none 0 0, .slice none 0 0], .int .i64 s.id] w14 (LoadIs w14 dd) from by
                have h0 := pload_any A1 bs1 c1 n1 nid 0 A13 ss1 c13 s.id w14 L2.out.sh L2.out.sb (by omega) P2.out.srt P2.out.inh L2.out.rd (by rw [HS1.out]; omega)
                rw [load_good P2.out.srt P2.out.gd HF1.out.1 HF1.out.2.1 HF1.out.2.2.1 HF1.out.2.2.2.1, HF1.out.2.2.2.2, HS1.out] at h0
                exact h0)
              have hB := L2.out.mB
              rw [HS1.out] at hB
              have b0 := hB.cell 0
              have b1 := hB.cell 1
              have b2 := hB.cell 2
              have b3 := hB.cell 3
              have b4 := hB.cell 4
              have b5 := hB.cell 5
              have b6 := hB.cell 6
              simp at b0 b1 b2 b3 b4 b5 b6
              clear hB
              go_wp2_with fail
              refine KL.out.mono ?_
              rintro e w15 ⟨A15, c15, rfl, -, -, z3, hg15⟩
              have L15 := Lib.hid (L2.out.quiet hg15)
              have O15 := Lib.hid (O2.out.grown hg15 (by simp))
              have Q15 := Lib.hid z3
              have G15 := Lib.hid (only_trans G2.out hg15)
              have hz15 : mb < w15.heap.size := Nat.lt_of_lt_of_le hz14 hg15.size
              clear b0 b1 b2 b3 b4 b5 b6 z3 hg15 L2 O2 G2 KL
              have KC := Lib.hid (show Calls Tryz.prog 9 #[.slice A1 bs1.length c1, .agg #[.int .i64 n1, .int .i64 nid, .int .i64 0, .slice A13 N c13, .slice none 0 0, .slice none 0 0, .slice none 0 0]] w15 (ClPost w15 (cleanB ss1 bs1)) from by
                have h0 := pclean_any A1 bs1 c1 n1 nid 0 A13 ss1 c13 w15 L15.out.sh (by omega) L15.out.rd (by rw [HS1.out]; omega)
                rw [HS1.out] at h0
                exact h0)
              have hB := L15.out.mB
              rw [HS1.out] at hB
              have b0 := hB.cell 0
              have b1 := hB.cell 1
              have b2 := hB.cell 2
              have b3 := hB.cell 3
              have b4 := hB.cell 4
              have b5 := hB.cell 5
              have b6 := hB.cell 6
              simp at b0 b1 b2 b3 b4 b5 b6
              clear hB
              go_wp2_with fail
              refine KC.out.mono ?_
              rintro e w16 ⟨A16, c16, rfl, z1, z2, z3, z4, hg16⟩
              have hlen : (cleanB ss1 bs1).length = N := (clean_len P2.out.srt P2.out.asc P2.out.has).trans HS1.out
              have L16 : Hid (L3M g l mb A16 (cleanB ss1 bs1) c16 n1 nid A13 ss1 c13 w16) := Lib.hid (L15.out.shelf hg16 (z4.mono (fun b hb _ => by have h0 : w15.heap.size ≤ b := hb; omega)) (fun x hx => (L15.out.sb x (cleanB_mem hx)).grown hg16 (by simp)) z1 z2 z3)
              have P16 := Lib.hid P2.out.clean
              have HF2 := Lib.hid (clean_keep HF1.out.1 HF1.out.2.1 HF1.out.2.2.1 HF1.out.2.2.2.1)
              obtain ⟨bs2, hbs2⟩ : ∃ b, b = cleanB ss1 bs1 := ⟨_, rfl⟩
              rw [← hbs2] at L16 P16 HF2 hlen ⊢
              have HL2 := Lib.hid hlen
              rw [hlen]
              have O16 := Lib.hid (O15.out.grown hg16 (by simp))
              have Q16 := Lib.hid (Q15.out.grown hg16 (by simp))
              have G16 := Lib.hid (only_trans G15.out hg16)
              have hz16 : mb < w16.heap.size := Nat.lt_of_lt_of_le hz15 hg16.size
              clear b0 b1 b2 b3 b4 b5 b6 z1 z2 z3 z4 hg16 hbs2 hlen L15 O15 Q15 G15 KC P2
              have KL := Lib.hid (show Calls Tryz.prog 12 #[.slice A16 N c16, .agg #[.int .i64 n1, .int .i64 nid, .int .i64 0, .slice A13 N c13, .slice none 0 0, .slice none 0 0, .slice none 0 0], .int .i64 s.id] w16 (LoadIs w16 dd) from by
                have h0 := pload_any A16 bs2 c16 n1 nid 0 A13 ss1 c13 s.id w16 L16.out.sh L16.out.sb (by rw [HL2.out]; omega) P16.out.srt P16.out.inh L16.out.rd (by rw [HS1.out]; omega)
                rw [load_good P16.out.srt P16.out.gd HF1.out.1 HF2.out HF1.out.2.2.1 HF1.out.2.2.2.1, HF1.out.2.2.2.2, HS1.out, HL2.out] at h0
                exact h0)
              have hB := L16.out.mB
              rw [HS1.out] at hB
              have b0 := hB.cell 0
              have b1 := hB.cell 1
              have b2 := hB.cell 2
              have b3 := hB.cell 3
              have b4 := hB.cell 4
              have b5 := hB.cell 5
              have b6 := hB.cell 6
              simp at b0 b1 b2 b3 b4 b5 b6
              clear hB
              go_wp2_with fail
              refine KL.out.mono ?_
              rintro e w17 ⟨A17, c17, rfl, -, -, z3, hg17⟩
              have L17 := Lib.hid (L16.out.quiet hg17)
              have O17 := Lib.hid (O16.out.grown hg17 (by simp))
              have Q17 := Lib.hid (Q16.out.grown hg17 (by simp))
              have G17 := Lib.hid (only_trans G16.out hg17)
              have hz17 : mb < w17.heap.size := Nat.lt_of_lt_of_le hz16 hg17.size
              have hdl := HDG.out.2.2.2
              have KY1 := Lib.hid (samebytes_any A11 A15 dd dd c11 c15 w17 O17.out Q17.out hdl hdl true (by simp))
              have KY2 := Lib.hid (fun (q : Nat) => samebytes_any A11 A17 dd dd c11 c17 (w17.drewN q) O17.out z3 hdl hdl true (by simp))
              have hB := L17.out.mB
              rw [HS1.out] at hB
              have x3 := hB.cell 3
              simp at x3
              clear b0 b1 b2 b3 b4 b5 b6 z3 hg17 hB L16 O16 Q16 G16 KL hdl
              go_wp2_with fail
              refine KY1.out.mono ?_
              rintro e w18 ⟨rfl, q18, rfl⟩
              go_wp2_with fail
              refine (KY2.out q18).mono ?_
              rintro e w19 ⟨rfl, q19, rfl⟩
              have hx3 := x3
              go_wp2_with fail
              go_roundw
              case rel => exact ⟨n + 1, A16, bs2, c16, n1, A13, ss1, c13, rfl, by go_num, by omega, hn10, by omega, HL2.out, HS1.out, P16.out, L17.out.quiet (only_drewN (only_refl _ _) _), only_drewN G17.out _, hz17⟩
              case measure => simp [intOf]; omega
      · have i1 : ¬ ((n : Int) < 6) := by omega
        clear hn5
        go_wp2_with fail
        go_ret
        exact ⟨rfl, GR.out⟩
end Go.Proofs.YtganfhmjklcchaaGreat
