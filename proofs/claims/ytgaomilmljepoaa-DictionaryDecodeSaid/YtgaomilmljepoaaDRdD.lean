/- dictionary.Decode. Condition: sizes. -/
import Derived.Test.YtgaomilmljepoaaDPure
import Derived.Test.YtgaomilmljepoaaDBEq
import Derived.Test.YtgaomilmljepoaaDRng
import Derived.Test.YtgaomilmljepoaaUnion
namespace Go.Proofs.Ytgaomilmljepoaa
open Go.RowKit
set_option linter.unusedVariables false
set_option linter.unusedSimpArgs false
attribute [local go_sem] Oper.semAt_some

theorem words_any (g : Nat) (n : Int) (w : World) : Calls Try.prog 46 #[.pointer (some ⟨g, 0, none⟩), .int .i64 n] w (fun e w' => e = .returned (.func (.func 58) #[] #[.pointer (some ⟨w.heap.size + 1, 0, none⟩), .pointer (some ⟨w.heap.size, 0, none⟩)]) ∧
    w' = (w.alloc (.cells #[.pointer (some ⟨g, 0, none⟩)] 72)).alloc (.cells #[.int .i64 n] 3)) := by
  go_enter Try.func46, Try.ntmps46
  go_wp2
  go_ret
  exact ⟨rfl, rfl⟩
theorem rdO_bad {most : Nat} {bs : List Int} (h : (rdO most bs false).2.2 = true) : (rdO most bs false).1 = 0 := by
  unfold rdO at *
  cases hr : rdN most bs 0 0 with
  | none => rfl
  | some p => rw [hr] at h; cases h
theorem KpD.trans_ {lim bd : Nat} {A B C : World} (h : KpD lim bd A B) (k : KpD lim bd B C) : KpD lim bd A C := ⟨Nat.le_trans h.1 k.1, fun b h1 h2 => (k.2 b h1 h2).trans (h.2 b h1 h2)⟩
theorem KpD.putObj {lim bd : Nat} (W : World) (l : Nat) (o : Obj) (h : lim ≤ l) : KpD lim bd W (W.putObj l o) :=
  ⟨by have := (grownBy_putObj' W l o).size; exact this, fun b hb _ => World.putObj_heap_other (by omega)⟩
theorem one_new (W : World) (x : ByteArray) : ∀ j u, ([Value.string x] : List Value)[j]? = some u → (W.alloc (.cells #[.string x] 9)).cell? ((⟨W.heap.size, 0, none⟩ : Addr).add j) = some u := by
  intro j u hu
  have hj : j = 0 := by
    rcases j with _ | j
    · rfl
    · simp at hu
  subst hj
  simp at hu
  subst hu
  exact (Blk.new W 9 #[.string x]).cell 0
theorem grown_set0 (w : World) (g : Nat) (u : Value) : w.grownBy (w.setCell ⟨g, 0, none⟩ u) (some g) := only_setCell (only_refl _ _) (p := ⟨g, 0, none⟩) (.inl rfl) u
theorem only_setNew' {a w : World} {row : Option Nat} (h : a.grownBy w row) {p : Addr} (hp : a.heap.size ≤ p.block) (u : Value) : a.grownBy (w.setCell p u) row :=
  only_fresh h (only_setCell (g := p.block) (only_refl _ _) (.inl rfl) u) hp
/-- what the loop's variable holds between the rounds -/
def DRow (w0 : World) (bd base : Nat) (pre : List ByteArray) (X : World) : Prop :=
  ∃ v, Blk X bd 26 #[v] ∧ X.ownsRow base 9 1 v pre.length (pre.map .string) ∧ w0.grownBy X none
theorem DRow.still {w0 : World} {bd base : Nat} {pre : List ByteArray} {A B : World} {r : Nat} (h : DRow w0 bd base pre A) (hg : A.grownBy B (some r)) (h1 : bd ≠ r) (h2 : r < base) (h3 : w0.heap.size ≤ r) : DRow w0 bd base pre B := by
  obtain ⟨v, a, b, c⟩ := h
  exact ⟨v, a.grown hg (by simp; omega), own_only b hg h2, only_fresh c hg h3⟩
def DDecPost (w : World) (bs : List Int) (e : Ending) (w' : World) : Prop :=
  ∃ (A : Option Addr) (c : Nat) (ds : List ByteArray) (er : Int), e = .returned (.tuple #[.slice A ds.length c, .int .i64 er]) ∧ ds.length ≤ c ∧ c ≤ maxLen ∧ Rd (w.heap.size ≤ ·) w' A (ds.map .string) ∧ ds.length ≤ bs.length ∧ ((er = 0 ∧ IsDict bs ds) ∨ (er = 22 ∧ ds = [] ∧ ∀ d, ¬ IsDict bs d)) ∧ w.grownBy w' none
theorem cell_grN {w w' : World} (h : w.grownBy w' none) {b o : Nat} (hb : b < w.heap.size) : w'.cell? ⟨b, o, none⟩ = w.cell? ⟨b, o, none⟩ := World.cell?_of_block (a := ⟨b, o, none⟩) (h.block b hb (by simp))
theorem vint_u8 (n : Nat) : ∀ x ∈ vint n, 0 ≤ x ∧ x ≤ 255 := by
  fun_induction vint n with
  | case1 n h => intro x hx; simp at hx; omega
  | case2 n h ih =>
    intro x hx
    rcases List.mem_cons.1 hx with rfl | hx
    · omega
    · exact ih x hx
theorem bts_u8 (s : ByteArray) : ∀ x ∈ bts s, 0 ≤ x ∧ x ≤ 255 := by
  intro x hx
  obtain ⟨b, -, rfl⟩ := List.mem_map.1 hx
  have := b.toNat_lt
  omega
theorem wordB_u8 (ds : List ByteArray) (i : Nat) : ∀ x ∈ wordB ds i, 0 ≤ x ∧ x ≤ 255 := by
  intro x hx
  unfold wordB at hx
  split at hx
  · simp at hx
  · split at hx
    · rcases List.mem_append.1 hx with h | h
      · exact vint_u8 _ x h
      · exact bts_u8 _ x h
    · split at hx
      · simp at hx
      · rcases List.mem_append.1 hx with h | h
        · exact vint_u8 _ x h
        · rcases List.mem_append.1 h with h | h
          · exact vint_u8 _ x h
          · exact bts_u8 _ x h
theorem enc_u8 (ds : List ByteArray) (k : Nat) : ∀ x ∈ encTo ds k, 0 ≤ x ∧ x ≤ 255 := by
  induction k with
  | zero => exact vint_u8 _
  | succ k ih =>
    intro x hx
    rcases List.mem_append.1 hx with h | h
    · exact ih x h
    · exact wordB_u8 ds k x h
theorem ddec_no {w w' : World} {bs : List Int} {e : Ending} (h : ∀ d, ¬ IsDict bs d) (he : e = .returned (.tuple #[.slice none 0 0, .int .i64 22])) (hg : w.grownBy w' none) : DDecPost w bs e w' :=
  ⟨none, 0, [], 22, he, Nat.le_refl _, Nat.zero_le _, Rd.nil, Nat.zero_le _, .inr ⟨rfl, rfl, h⟩, hg⟩

set_option maxHeartbeats 4000000 in
set_option maxRecDepth 100000 in
theorem decode_any {S : Nat → Prop} (A : Option Addr) (bs : List Int) (c : Nat) (w : World) (h : Rd S w A (bs.map (.int .u8))) (hl : bs.length ≤ 2000) (hc : bs.length ≤ c) (hcm : c ≤ maxLen) (hx : ∀ x ∈ bs, 0 ≤ x ∧ x ≤ 255) :
    Calls Try.prog 28 #[.slice A bs.length c] w (DDecPost w bs) := by
  have H := Lib.hid (h.mono (S' := (· < w.heap.size)) (fun b _ hb => hb))
  have HX := Lib.hid hx
  have HCM := Lib.hid hcm
  clear h hx hcm
  refine (callsIn_wide (n := 9)).1 ?_
  refine callsIn_of_wp_marks Try.func28 rfl trivial ?_
  refine wpIn_wide.2 ?_
  simp only [Try.ntmps28, List.size_toArray, List.length_cons, List.length_nil, Nat.reduceAdd, Nat.reduceSub, Array.replicate_succ, Array.replicate_zero, List.push_toArray, List.append_toArray, List.nil_append, List.cons_append]
  go_wp2_with fail
  have hR : RdrAt ((w.alloc (.cells #[.slice A bs.length c, .bool false] 74)).alloc (.cells #[.slice none 0 0] 26)) w.heap.size bs false :=
    ⟨A, c, (Blk.new w _ _).alloc _, ((H.out.alloc _).alloc _), hc, HCM.out, by omega, HX.out⟩
  refine (number_any w.heap.size 32768 bs false _ hR (by omega)).mono ?_
  rintro e w2 ⟨rfl, hR2, hg2⟩
  obtain ⟨⟨n, bs1, b1⟩, hn⟩ : ∃ r, r = rdO 32768 bs false := ⟨_, rfl⟩
  rw [← hn] at hR2 ⊢
  have HN := Lib.hid hn
  clear hn
  go_wp2_with fail
  refine (words_any w.heap.size n w2).mono ?_
  rintro e w3 ⟨rfl, hw3⟩
  have hgn := HN.out
  have hn1 : n ≤ 32768 := by have := (rdO_le 32768 bs false).1; rw [← hgn] at this; exact this
  have hb0 : b1 = true → n = 0 := fun hb => by have := rdO_bad (most := 32768) (bs := bs) (by rw [← hgn]; exact hb); rw [← hgn] at this; exact this
  have hbl : bs1.length ≤ bs.length := by have := (rdO_le 32768 bs false).2; rw [← hgn] at this; exact this
  have hg2' := hg2.size
  simp at hg2'
  have hB2 := (Blk.new (w.alloc (.cells #[.slice A bs.length c, .bool false] 74)) 26 #[.slice none 0 0]).grown hg2 (by simp)
  rw [World.size_alloc] at hB2
  have G2 : Hid (w.grownBy w2 none) := only_fresh (only_alloc (only_alloc (only_refl _ _) _) _) hg2 (Nat.le_refl _)
  have gW : w2.grownBy w3 none := by rw [hw3]; exact only_alloc (only_alloc (only_refl _ _) _) _
  have G3 := Lib.hid (only_trans G2.out gW)
  have hs3 : w3.heap.size = w2.heap.size + 2 := by rw [hw3]; simp
  have BD := Lib.hid (hB2.grown gW (by simp))
  have BR := Lib.hid (show Blk w3 w2.heap.size 72 #[.pointer (some ⟨w.heap.size, 0, none⟩)] by rw [hw3]; exact (Blk.new w2 _ _).alloc _)
  have BN := Lib.hid (show Blk w3 (w2.heap.size + 1) 3 #[.int .i64 n] by rw [hw3]; have h := Blk.new (w2.alloc (.cells #[.pointer (some ⟨w.heap.size, 0, none⟩)] 72)) 3 #[.int .i64 n]; rw [World.size_alloc] at h; exact h)
  have R3 := Lib.hid (RdrAt.grown (show RdrAt w2 w.heap.size bs1 b1 from hR2) gW (by simp))
  have HB0 := Lib.hid hb0
  have HS3 := Lib.hid hs3
  obtain ⟨⟨ds, cs, b2⟩, hds⟩ : ∃ r, r = wrdTo n 0 ⟨#[]⟩ bs1 := ⟨_, rfl⟩
  have HDS := Lib.hid hds
  clear hw3 hgn hb0 hg2 hR2 hB2 gW hds hR
  go_wp2_with fail
  refine wp_range_mine 8 w.heap.size (gf := 58) (lb := #[.pointer (some ⟨w2.heap.size + 1, 0, none⟩), .pointer (some ⟨w2.heap.size, 0, none⟩)]) rfl (enters_of Try.func58 (by kernel_rfl) rfl) (by have := HS3.out; omega) (encs := fun x : ByteArray => #[.string x]) (fun _ => rfl) (fun x => x.size ≤ 2048) (KpD w3.heap.size (w.heap.size + 1)) KpD.trans_ (fun W l o h1 _ => KpD.putObj W l o h1)
    ds (fun W => RdrAt W w.heap.size cs (b1 || b2)) ?hZ ?hseq (DRow w (w.heap.size + 1) (w3.heap.size + 2)) ?hI ?h0
    (fun x => { tmps := #[.slice A bs.length c, undef, .slice none 0 0, .int .i64 0, .pointer (some ⟨w.heap.size, 0, none⟩), .pointer (some ⟨w.heap.size + 1, 0, none⟩), .string x, undef, undef, .slice A bs.length c, .agg #[.slice A bs.length c, .bool false], .pointer (some ⟨w.heap.size, 0, none⟩), .pointer (some ⟨w.heap.size, 0, none⟩), .pointer (some ⟨w.heap.size, 0, none⟩), .int .i64 n, .func (.func 58) #[] #[.pointer (some ⟨w2.heap.size + 1, 0, none⟩), .pointer (some ⟨w2.heap.size, 0, none⟩)], .string x, undef, undef, undef, undef, undef, undef, undef, undef, undef, undef, undef, undef, undef, undef, undef, undef, undef, undef, undef, undef, undef, undef, undef, undef], defers := [] }) ?hassign ?hbody ?hdone
  case hZ =>
    intro X Y hx hg
    exact RdrAt.grown hx hg (fun b hb e => by injection e with e; have := HS3.out; omega)
  case hseq =>
    rintro J W ⟨hJ, hY⟩ hJ0 hgW hsW
    refine (words_iter 8 w.heap.size (w.heap.size + 1) (w2.heap.size + 1) w2.heap.size w3.heap.size (w3.heap.size + 1) n b1 bs1 J W hJ (fun pre x W1 h1 h2 h3 => hY pre x W1 h1 h3 h2) hJ0 (R3.out.grown hgW (by simp)) HB0.out (BN.out.grown hgW (by simp)) (BR.out.grown hgW (by simp)) (by omega) (by omega) (by omega) (by have := HS3.out; omega) (by have := HS3.out; omega) (by omega)).mono ?_
    rintro e W2 ⟨h1, h2, h3⟩
    rw [← HDS.out] at h2 h3
    exact ⟨h1, h2, h3⟩
  case hI =>
    intro s X Y r h hg hr
    have := HS3.out
    exact h.still hg (by omega) (by omega) (by omega)
  case h0 =>
    intro W hg hs
    exact ⟨.slice none 0 0, BD.out.grown hg (by simp), World.ownsRow_nil _ _ _ _, only_trans G3.out hg⟩
  case hassign =>
    intro x W K hK
    gi_wp2
    exact hK
  case hbody =>
    rintro pre x W ⟨v, hb, ho, hgw⟩ hx hlen hsz
    obtain ⟨i0, hi0, hz0, hz1, hz2⟩ := info_parts strInfo
    obtain ⟨A0, q0, rfl, -, -, -, -⟩ := Rd.of_own ho (by decide)
    have hs := HS3.out
    have hs9 : w2.heap.size + 2 ≤ w3.heap.size := by omega
    have c0 := hb.cell 0
    have f0 := hb.frozen 0
    simp at c0
    have hbl0 := hb.lt
    have HBd := Lib.hid hb
    have HO := Lib.hid ho
    have HGW := Lib.hid hgw
    have hnr : ∀ b, b < w3.heap.size + 2 → some b ≠ (Value.slice A0 pre.length q0).ownBlock := fun b hb' e => by have := (ho.lt b e.symm).1; omega
    have HNR := Lib.hid hnr
    have HI0 := Lib.hid hi0
    have HZ0 := Lib.hid hz0
    have HZ1 := Lib.hid hz1
    have HZ2 := Lib.hid hz2
    have hszW := hgw.size
    clear hb ho hgw hnr hi0 hz0 hz1 hz2 HDS R3 BD
    clear hs hs3
    gi_wp2_with (gi_at_builtin; refine wpListIn_append_own _ rfl _ _ 26 rfl (w3.heap.size + 2) 9 i0 (.string ⟨#[]⟩) 1 16 Try.underlying26 HI0.out HZ0.out HZ1.out HZ2.out rfl (by decide) (.slice A0 pre.length q0) _ _ (by rfl) (HO.out.alloc _) ⟨W.heap.size, 0, none⟩ 1 1 [.string x] (by rfl) rfl (one_new W x) (by simp [Value.oneCell']) (by unfold maxLen; omega) (by omega) (by simp; omega) ?_; intro v7 w7 hown7 hg7 _; obtain ⟨A7, c7, rfl, hc7, hm7, -, -⟩ := Rd.of_own hown7 (by decide); have hb7 := (HBd.out.alloc (.cells #[.string x] 9)).grown hg7 (HNR.out _ (by omega)); have d0 := hb7.cell 0; have e0 := hb7.frozen 0; simp at d0)
    have hgA : W.grownBy w7 (Value.slice A0 pre.length q0).ownBlock := only_trans (only_alloc (only_refl _ _) _) hg7
    have hsA := hgA.size
    refine ⟨rfl, ?_, by simpa [World.setCell] using hsA, ⟨by simpa [World.setCell] using hsA, ?_⟩, ⟨_, by simpa using hb7.set_ 0 _, ?_, ?_⟩⟩
    · intro b hb'
      have hlt : b < W.heap.size := by omega
      exact (Below.heap_setCell _ _ _ _ (by simp; omega)).trans (hgA.block b hlt (HNR.out b (by omega)))
    · intro b hb1 hb2
      exact (Below.heap_setCell _ _ _ _ (by simp; omega)).trans (hgA.block b (by omega) (HNR.out b (by omega)))
    · have h7 : w7.ownsRow (w3.heap.size + 2) 9 1 (.slice A7 (pre.length + 1) c7) (pre ++ [x]).length ((pre ++ [x]).map .string) := by simpa using hown7
      simpa using own_only h7 (grown_set0 w7 (w.heap.size + 1) _) (by omega)
    · exact only_setNew' (only_own (only_alloc HGW.out _) hg7 (HO.out.alloc _) (by omega)) (by simp) _
  case hdone =>
    rintro W ⟨v, hb, ho, hgw⟩ hz hD
    have hdl : ds.length ≤ 2000 := by
      have := wrdTo_len n 0 ⟨#[]⟩ bs1
      rw [← HDS.out] at this
      have h2 : ds.length ≤ bs1.length := this
      omega
    have hdl2 : ds.length ≤ bs.length := by
      have := wrdTo_len n 0 ⟨#[]⟩ bs1
      rw [← HDS.out] at this
      have h2 : ds.length ≤ bs1.length := this
      omega
    obtain ⟨bad, hbad⟩ : ∃ b, b = (b1 || b2) := ⟨_, rfl⟩
    rw [← hbad] at hz
    have HNO : Hid ((bad = true ∨ chk ds ≠ 0 ∨ encR ds ≠ bs) → ∀ d, ¬ IsDict bs d) := Lib.hid (fun hh d hd => by
      obtain ⟨h1, h2⟩ := hd
      subst h2
      obtain ⟨p1, p2⟩ := prs_enc h1
      have q1 := HN.out
      rw [p1] at q1
      injection q1 with q1 q2
      injection q2 with q2 q3
      have q4 := HDS.out
      rw [q1, q2, p2] at q4
      injection q4 with q4 q5
      injection q5 with q5 q6
      subst q4
      rcases hh with hh | hh | hh
      · rw [hbad, q3, q6] at hh; cases hh
      · exact hh h1
      · exact hh (encR_ok h1))
    obtain ⟨A0, q0, rfl, hq1, hq2, -, hrd⟩ := Rd.of_own ho (by decide)
    have RD := Lib.hid hrd
    have GW := Lib.hid hgw
    have HD := Lib.hid hD
    have RZ := Lib.hid hz
    have hs9 : w2.heap.size + 2 ≤ w3.heap.size := by have := HS3.out; omega
    have hszW := hgw.size
    have c0 := hb.cell 0
    simp at c0
    have hDlt := (Array.getElem?_eq_some_iff.1 hD).1
    clear hb ho hgw hD hz hrd hbad HDS HN R3 BD hs3
    have HQ1 := Lib.hid hq1
    have HQ2 := Lib.hid hq2
    clear hq1 hq2
    go_wp2_with fail
    refine (dencode_any A0 ds q0 W RD.out hdl).mono ?_
    rintro e w5 ⟨v5, rfl, hB5, hg5⟩
    obtain ⟨A5, c5, rfl, h5a, h5b, hR5⟩ := hB5.rd
    have R5 := Lib.hid hR5
    have RZ5 := Lib.hid (RZ.out.grown hg5 (by simp))
    have HD5 := Lib.hid ((hg5.block _ hDlt (by simp)).trans HD.out)
    have G5 := Lib.hid (only_trans GW.out hg5)
    have RD5 := Lib.hid (RD.out.grown hg5 (by simp))
    have d0 := (cell_grN hg5 (show w.heap.size + 1 < W.heap.size by omega)).trans c0
    obtain ⟨A6, c6, hb6, -, -, -, -, -⟩ := RZ5.out
    have z1 := hb6.cell 1
    simp at z1
    clear hB5 hR5 hg5 hb6 c0 RZ RD
    cases bad with
    | true =>
      go_wp2_with fail
      exact ⟨by simp, .inl ⟨_, _, rfl, run_takeDeferred HD5.out, _, results_tmp2 rfl _ _ _, ddec_no (HNO.out (by simp)) rfl (own_putObj G5.out (by omega) _)⟩⟩
    | false =>
      by_cases hk : chk ds = 0
      · have q : (chk ds != 0) = false := by simp [hk]
        have HK := Lib.hid hk
        have HER := Lib.hid (encR_ok hk)
        clear hk
        obtain ⟨v, hv⟩ : ∃ v, v = decide (encR ds = bs) := ⟨_, rfl⟩
        have HV := Lib.hid hv
        have hxe : ∀ x ∈ encR ds, 0 ≤ x ∧ x ≤ 255 := by rw [HER.out]; exact enc_u8 _ _
        have KB := Lib.hid (fun w1 (hw : w5.grownBy w1 none) => bequal_any A5 A (encR ds) bs c5 c w1 (R5.out.grown hw (by simp)) ((H.out.grown G5.out (by simp)).grown hw (by simp)) hxe HX.out v (by rw [hv]; simp))
        clear hv hxe
        cases v with
        | true =>
          go_wp2_with fail
          refine (KB.out _ (only_refl _ _)).mono ?_
          rintro e w6 ⟨rfl, n6, rfl⟩
          go_wp2_with fail
          have hE : encR ds = bs := of_decide_eq_true HV.out.symm
          exact ⟨by simp, .inl ⟨_, _, rfl, run_takeDeferred (show (w5.drewN n6).heap[w3.heap.size]? = _ from HD5.out), _, results_tmp2 rfl _ _ _, A0, q0, ds, 0, rfl, HQ1.out, HQ2.out, ((RD5.out.drewN n6).grown (grownBy_putObj' _ _ _) (fun b hb e => by injection e; omega)).mono (fun b hb _ => by omega), hdl2, .inl ⟨rfl, HK.out, by rw [← HER.out]; exact hE⟩, own_putObj (only_drewN G5.out n6) (by omega) _⟩⟩
        | false =>
          go_wp2_with fail
          refine (KB.out _ (only_refl _ _)).mono ?_
          rintro e w6 ⟨rfl, n6, rfl⟩
          go_wp2_with fail
          have hE : encR ds ≠ bs := of_decide_eq_false HV.out.symm
          exact ⟨by simp, .inl ⟨_, _, rfl, run_takeDeferred (show (w5.drewN n6).heap[w3.heap.size]? = _ from HD5.out), _, results_tmp2 rfl _ _ _, ddec_no (HNO.out (by simp [hE])) rfl (own_putObj (only_drewN G5.out n6) (by omega) _)⟩⟩
      · have q : (chk ds != 0) = true := by simp [hk]
        have HK := Lib.hid hk
        clear hk
        go_wp2_with fail
        exact ⟨by simp, .inl ⟨_, _, rfl, run_takeDeferred HD5.out, _, results_tmp2 rfl _ _ _, ddec_no (HNO.out (by simp [HK.out])) rfl (own_putObj G5.out (by omega) _)⟩⟩
end Go.Proofs.Ytgaomilmljepoaa
