/- law23: DictionaryMerge: the walk of the law itself. For every input. -/
import Derived.Test.YtgaomilmljepoaaLaw23A
import Derived.Test.YtgaomilmljepoaaMerge
import Derived.Test.YtgaomilmljepoaaSame
import Derived.Test.YtgaomilmljepoaaSameInts
import Derived.Test.YtgaomilmljepoaaCheck
import Derived.Test.YtgaomilmljepoaaDictC
namespace Go.Proofs.Ytgaomilmljepoaa
open Go.RowKit
set_option linter.unusedVariables false
set_option linter.unusedSimpArgs false

theorem srt_ext : ∀ {xs ys : List ByteArray}, Srt xs → Srt ys → (∀ s, s ∈ xs ↔ s ∈ ys) → xs = ys
  | [], [], _, _, _ => rfl
  | [], y :: ys, _, _, h => absurd ((h y).2 (List.mem_cons_self ..)) (by simp)
  | x :: xs, [], _, _, h => absurd ((h x).1 (List.mem_cons_self ..)) (by simp)
  | x :: xs, y :: ys, hx, hy, h => by
    unfold Srt at hx hy
    rw [List.pairwise_cons] at hx hy
    have hxy : x = y := by
      rcases List.mem_cons.1 ((h x).1 (List.mem_cons_self ..)) with e | e
      · exact e
      · rcases List.mem_cons.1 ((h y).2 (List.mem_cons_self ..)) with e' | e'
        · exact e'.symm
        · have h1 := hy.1 x e
          have h2 := hx.1 y e'
          rw [sl_asymm h1] at h2
          cases h2
    subst hxy
    rw [srt_ext hx.2 hy.2 (fun s => ?_)]
    constructor
    · intro hs
      rcases List.mem_cons.1 ((h s).1 (List.mem_cons_of_mem _ hs)) with e | e
      · subst e; have := hx.1 s hs; rw [sl_irrefl] at this; cases this
      · exact e
    · intro hs
      rcases List.mem_cons.1 ((h s).2 (List.mem_cons_of_mem _ hs)) with e | e
      · subst e; have := hy.1 s hs; rw [sl_irrefl] at this; cases this
      · exact e
theorem un_comm {a b : List ByteArray} (ha : Srt a) (hb : Srt b) : un b a = un a b :=
  srt_ext (un_srt _ _ hb ha) (un_srt _ _ ha hb) (fun s => by rw [un_mem, un_mem]; exact or_comm)
theorem un_self {a : List ByteArray} (ha : Srt a) : un a a = a :=
  srt_ext (un_srt _ _ ha ha) ha (fun s => by rw [un_mem]; simp)
theorem srt_inj {ds : List ByteArray} (h : Srt ds) {i j : Nat} {x : ByteArray} (hx : ds[i]? = some x) (hy : ds[j]? = some x) : i = j := by
  have key : ∀ {i j : Nat}, ds[i]? = some x → ds[j]? = some x → i < j → False := fun {i j} h1 h2 hij => by
    obtain ⟨hi, e1⟩ := List.getElem?_eq_some_iff.1 h1
    obtain ⟨hj, e2⟩ := List.getElem?_eq_some_iff.1 h2
    have := List.pairwise_iff_getElem.1 h i j hi hj hij
    rw [e1, e2, sl_irrefl] at this
    cases this
  rcases Nat.lt_trichotomy i j with h1 | h1 | h1
  · exact (key hx hy h1).elim
  · exact h1
  · exact (key hy hx h1).elim
theorem Ixs.uniq {xs ys : List Int} {zs a : List ByteArray} (hz : Srt zs) (h1 : Ixs xs zs a) (h2 : Ixs ys zs a) (hl : xs.length = ys.length) : xs = ys := by
  apply List.ext_getElem?
  intro i
  by_cases hi : i < xs.length
  · obtain ⟨m, hm, s, hs, ha⟩ := h1 i _ (List.getElem?_eq_getElem hi)
    obtain ⟨m', hm', s', hs', ha'⟩ := h2 i _ (List.getElem?_eq_getElem (by omega))
    rw [ha] at ha'
    injection ha' with e
    subst e
    rw [List.getElem?_eq_getElem hi, List.getElem?_eq_getElem (by omega), hm, hm', srt_inj hz hs hs']
  · rw [List.getElem?_eq_none (by omega), List.getElem?_eq_none (by omega)]
theorem srt_asc {ds : List ByteArray} (h : Srt ds) : Asc ds := fun i x y hx hy => by
  obtain ⟨hi, e1⟩ := List.getElem?_eq_some_iff.1 hx
  obtain ⟨hj, e2⟩ := List.getElem?_eq_some_iff.1 hy
  rw [← e1, ← e2]
  exact List.pairwise_iff_getElem.1 h i (i + 1) hi hj (by omega)
theorem chk_ok {ds : List ByteArray} (h : Srt ds) (hl : ds.length ≤ 32768) (hs : ∀ s ∈ ds, s.size ≤ 2048) : chk ds = 0 := by
  unfold chk
  rw [if_neg (by omega), if_neg (fun ⟨x, hx, h2⟩ => by have := hs x hx; omega), if_pos (srt_asc h)]

set_option maxHeartbeats 3000000 in
set_option maxRecDepth 100000 in
theorem law_merge (A : Option Addr) (l : List Int) (c : Nat) (w : World) (h : Rd (fun _ => True) w A (l.map (.int .u8))) (hc : l.length ≤ c) (hcm : c ≤ maxLen) (hx : ∀ x ∈ l, 0 ≤ x ∧ x ≤ 255) :
    Calls Try.prog 4 #[.slice A l.length c] w (RetExt (.bool true) w) := by
  have HX := Lib.hid hx
  have HL := Lib.hid h
  clear hx h
  go_enter Try.func4, Try.ntmps4
  go_wp2_with (go_at_call 10; refine (awake_any _).mono ?_; rintro e w1 ⟨rfl, hg1⟩)
  refine (new_any A l c 150 _ (HL.out.grown hg1 (by simp)) hc hcm (by omega) HX.out).mono ?_
  rintro e w2 ⟨rfl, hC2, hg2, hz2⟩
  go_wp2_with fail
  refine (draw_any _ _ _ _ hC2).mono ?_
  rintro e w3 ⟨AA, ca, a, k3, rfl, hca, hcam, hsa, hla, hsza, hra, hC3, hg3⟩
  have HSA := Lib.hid hsa
  have HZA := Lib.hid hsza
  have hz3 := hg3.size
  have G3 : Hid (w.grownBy w3 none) := only_fresh (only_trans hg1 hg2) hg3 (hg1.size)
  have HRA := Lib.hid hra
  clear hra hsa hsza hC2 hg3
  go_wp2_with fail
  refine (draw_any _ _ _ _ hC3).mono ?_
  rintro e w4 ⟨AB, cb, b, k4, rfl, hcb, hcbm, hsb, hlb, hszb, hrb, hC4, hg4⟩
  have HSB := Lib.hid hsb
  have HZB := Lib.hid hszb
  have hz4 := hg4.size
  have G4 : Hid (w.grownBy w4 none) := only_fresh G3.out hg4 (hg1.size)
  have RA4 := Lib.hid ((HRA.out.grown hg4 (fun b hb => by simp; omega)).mono (S' := fun _ => True) (fun _ _ _ => trivial))
  have RB4 := Lib.hid (hrb.mono (S' := fun _ => True) (fun _ _ _ => trivial))
  clear hrb hsb hszb hC3 hg4 HRA G3 hC4 hg1 hg2 HL HX
  have hun := un_len a b
  have hun2 := un_len b a
  have hun3 := un_len a a
  go_wp2_with fail
  refine (merge_any AA AB a b ca cb _ RA4.out RB4.out (by omega) (by omega) (by omega)).mono ?_
  rintro e w5 ⟨AM, AX, AY, cm, cx, cy, xs, ys, rfl, hxl, hyl, hix, hiy, hcm1, hcm2, hrm, hrx, hry, hg5⟩
  have I5 := Lib.hid (And.intro hxl (And.intro hyl (And.intro hix hiy)))
  have R5 := Lib.hid (And.intro hrm (And.intro hrx hry))
  have RA5 := Lib.hid (RA4.out.grown hg5 (by simp))
  have RB5 := Lib.hid (RB4.out.grown hg5 (by simp))
  have G5 : Hid (w.grownBy w5 none) := only_trans G4.out hg5
  clear hxl hyl hix hiy hrm hrx hry hg5 RA4 RB4 G4
  go_wp2_with fail
  refine (merge_any AB AA b a cb ca _ RB5.out RA5.out (by omega) (by omega) (by omega)).mono ?_
  rintro e w6 ⟨AN, AV, AU, cn, cv, cu, vs, us, rfl, hvl, hul, hiv, hiu, hcn1, hcn2, hrn, hrv, hru, hg6⟩
  have I6 := Lib.hid (And.intro hvl (And.intro hul (And.intro hiv hiu)))
  have R6 := Lib.hid (And.intro hrn (And.intro hrv hru))
  have RA6 := Lib.hid (RA5.out.grown hg6 (by simp))
  have RB6 := Lib.hid (RB5.out.grown hg6 (by simp))
  have G6 : Hid (w.grownBy w6 none) := only_trans G5.out hg6
  have Q5 : Hid (Rd (w4.heap.size ≤ ·) w6 AM ((un a b).map .string) ∧ Rd (w4.heap.size ≤ ·) w6 AX (xs.map (.int .i64)) ∧ Rd (w4.heap.size ≤ ·) w6 AY (ys.map (.int .i64))) := ⟨R5.out.1.grown hg6 (by simp), R5.out.2.1.grown hg6 (by simp), R5.out.2.2.grown hg6 (by simp)⟩
  clear hvl hul hiv hiu hrn hrv hru hg6 RA5 RB5 R5 G5
  go_wp2_with fail
  refine (merge_any AA AA a a ca ca _ RA6.out RA6.out (by omega) (by omega) (by omega)).mono ?_
  rintro e w7 ⟨AS, AI, AK, cs, ci, ck, is, ks, rfl, hil, hkl, hii, hik, hcs1, hcs2, hrs, hri, hrk, hg7⟩
  have I7 := Lib.hid (And.intro hil (And.intro hkl (And.intro hii hik)))
  have R7 := Lib.hid (And.intro hrs (And.intro hri hrk))
  have RA7 := Lib.hid (RA6.out.grown hg7 (by simp))
  have RB7 := Lib.hid (RB6.out.grown hg7 (by simp))
  have G7 : Hid (w.grownBy w7 none) := only_trans G6.out hg7
  have P5 : Hid (Rd (w4.heap.size ≤ ·) w7 AM ((un a b).map .string) ∧ Rd (w4.heap.size ≤ ·) w7 AX (xs.map (.int .i64)) ∧ Rd (w4.heap.size ≤ ·) w7 AY (ys.map (.int .i64))) := ⟨Q5.out.1.grown hg7 (by simp), Q5.out.2.1.grown hg7 (by simp), Q5.out.2.2.grown hg7 (by simp)⟩
  have P6 : Hid (Rd (w5.heap.size ≤ ·) w7 AN ((un b a).map .string) ∧ Rd (w5.heap.size ≤ ·) w7 AV (vs.map (.int .i64)) ∧ Rd (w5.heap.size ≤ ·) w7 AU (us.map (.int .i64))) := ⟨R6.out.1.grown hg7 (by simp), R6.out.2.1.grown hg7 (by simp), R6.out.2.2.grown hg7 (by simp)⟩
  clear hil hkl hii hik hrs hri hrk hg7 RA6 RB6 R6 Q5 G6
  have HM := Lib.hid (un_srt a b HSA.out HSB.out)
  have EN := Lib.hid (un_comm HSA.out HSB.out)
  have ES := Lib.hid (un_self HSA.out)
  have HCK : Hid (chk (un a b) = 0) := chk_ok HM.out (by omega) (fun s hs => by
    rcases (un_mem _ _ s).1 hs with h | h
    · have := HZA.out s h; omega
    · have := HZB.out s h; omega)
  have EX : Hid (xs = us) := Ixs.uniq HM.out I5.out.2.2.1 (by rw [← EN.out]; exact I6.out.2.2.2) (by rw [I5.out.1, I6.out.2.1])
  have EY : Hid (ys = vs) := Ixs.uniq HM.out I5.out.2.2.2 (by rw [← EN.out]; exact I6.out.2.2.1) (by rw [I5.out.2.1, I6.out.1])
  have EI : Hid (is = ks) := Ixs.uniq (un_srt _ _ HSA.out HSA.out) I7.out.2.2.1 I7.out.2.2.2 (by rw [I7.out.1, I7.out.2.1])
  go_wp2_with fail
  refine (check_any AM (un a b) cm _ P5.out.1 (by omega)).mono ?_
  rw [HCK.out]
  rintro e w8 ⟨rfl, n8, rfl⟩
  go_wp2_with fail
  refine (same_any AM AN (un a b) (un b a) cm cn _ (P5.out.1.drewN _) (P6.out.1.drewN _) (by omega) (by omega) true (by rw [EN.out]; simp)).mono ?_
  rintro e w9 ⟨rfl, n9, rfl⟩
  go_wp2_with fail
  have c1 := sameints_any AX AU xs us cx cu (w7.drewN (n8 + n9)) (P5.out.2.1.drewN _) (P6.out.2.2.drewN _) (by rw [I5.out.1]; omega) (by rw [I6.out.2.1]; omega) true (by rw [EX.out]; simp)
  rw [I5.out.1, I6.out.2.1] at c1
  refine c1.mono ?_
  clear c1
  rintro e w10 ⟨rfl, n10, rfl⟩
  go_wp2_with fail
  have c1 := sameints_any AY AV ys vs cy cv (w7.drewN (n8 + n9 + n10)) (P5.out.2.2.drewN _) (P6.out.2.1.drewN _) (by rw [I5.out.2.1]; omega) (by rw [I6.out.1]; omega) true (by rw [EY.out]; simp)
  rw [I5.out.2.1, I6.out.1] at c1
  refine c1.mono ?_
  clear c1
  rintro e w11 ⟨rfl, n11, rfl⟩
  go_wp2_with fail
  refine (same_any AS AA (un a a) a cs ca _ (R7.out.1.drewN _) (RA7.out.drewN _) (by omega) (by omega) true (by rw [ES.out]; simp)).mono ?_
  rintro e w12 ⟨rfl, n12, rfl⟩
  go_wp2_with fail
  have c1 := sameints_any AI AK is ks ci ck (w7.drewN (n8 + n9 + n10 + n11 + n12)) (R7.out.2.1.drewN _) (R7.out.2.2.drewN _) (by rw [I7.out.1]; omega) (by rw [I7.out.2.1]; omega) true (by rw [EI.out]; simp)
  rw [I7.out.1, I7.out.2.1] at c1
  refine c1.mono ?_
  clear c1
  rintro e w13 ⟨rfl, n13, rfl⟩
  obtain ⟨W, hW⟩ : ∃ W, W = w7.drewN (n8 + n9 + n10 + n11 + n12 + n13) := ⟨_, rfl⟩
  simp only [World.drewN_drewN]
  rw [← hW]
  have GW : Hid (w.grownBy W none) := hW ▸ only_drewN G7.out _
  have RAW : Hid (Rd (fun _ => True) W AA (a.map .string)) := hW ▸ RA7.out.drewN _
  have RBW : Hid (Rd (fun _ => True) W AB (b.map .string)) := hW ▸ RB7.out.drewN _
  have PW : Hid (Rd (w4.heap.size ≤ ·) W AM ((un a b).map .string) ∧ Rd (w4.heap.size ≤ ·) W AX (xs.map (.int .i64)) ∧ Rd (w4.heap.size ≤ ·) W AY (ys.map (.int .i64))) := by
    rw [hW]; exact P5.out
  clear hW P5 P6 R7 RA7 RB7 G7
  go_wp2_with fail
  go_loopw [18] (fun i wr => ∃ k : Nat, k ≤ a.length ∧ i = .int .i64 k ∧ ∃ q, wr = W.drewN q) (fun i _ => a.length - (intOf i).toNat)
  case atStart => exact ⟨0, Nat.zero_le _, rfl, 0, rfl⟩
  case round =>
    obtain ⟨k, hk, rfl, q, rfl⟩ := hrel
    by_cases hlt : k < a.length
    · obtain ⟨b1, o1, sx, rfl, hc1, hsx⟩ := RAW.out.str_at hlt
      obtain ⟨b2, o2, ix, rfl, hc2, hix⟩ := PW.out.2.1.i_at (k := k) (by rw [I5.out.1]; exact hlt)
      obtain ⟨m, hm, s, hs, hsa⟩ := I5.out.2.2.1 k ix hix.out
      obtain rfl : sx = s := by have h1 := hsx.out; rw [hsa] at h1; injection h1 with h1; exact h1.symm
      have hml : m < (un a b).length := (List.getElem?_eq_some_iff.1 hs).1
      obtain ⟨b3, o3, z, rfl, hc3, hz⟩ := PW.out.1.str_at hml
      obtain rfl : z = sx := by have h1 := hz.out; rw [hs] at h1; injection h1 with h1; exact h1.symm
      subst hm
      clear hs hsa
      have i1 : (k : Int) < (a.length : Int) := by omega
      have i2 : (m : Int) < ((un a b).length : Int) := by omega
      have d1 : decide ((m : Int) < 0) = false := by simp
      have d2 : decide (((un a b).length : Int) ≤ (m : Int)) = false := by simp; omega
      have d3 : decide ((un a b).length ≤ m) = false := by simp; omega
      go_wp2_with fail
      go_quiet (fail)
      go_wp2_with fail
      go_roundw
      case rel => exact ⟨k + 1, by omega, by go_num, _, rfl⟩
      case measure => simp [intOf]; omega
    · go_wp2_with fail
      go_loopw [19] (fun i wr => ∃ k : Nat, k ≤ b.length ∧ i = .int .i64 k ∧ ∃ q, wr = W.drewN q) (fun i _ => b.length - (intOf i).toNat)
      case atStart => exact ⟨0, Nat.zero_le _, rfl, q, rfl⟩
      case round =>
        obtain ⟨j, hj, rfl, q2, rfl⟩ := hrel
        by_cases hlt2 : j < b.length
        · obtain ⟨b1, o1, sx, rfl, hc1, hsx⟩ := RBW.out.str_at hlt2
          obtain ⟨b2, o2, ix, rfl, hc2, hix⟩ := PW.out.2.2.i_at (k := j) (by rw [I5.out.2.1]; exact hlt2)
          obtain ⟨m, hm, s, hs, hsa⟩ := I5.out.2.2.2 j ix hix.out
          obtain rfl : sx = s := by have h1 := hsx.out; rw [hsa] at h1; injection h1 with h1; exact h1.symm
          have hml : m < (un a b).length := (List.getElem?_eq_some_iff.1 hs).1
          obtain ⟨b3, o3, z, rfl, hc3, hz⟩ := PW.out.1.str_at hml
          obtain rfl : z = sx := by have h1 := hz.out; rw [hs] at h1; injection h1 with h1; exact h1.symm
          subst hm
          clear hs hsa
          have i1 : (j : Int) < (b.length : Int) := by omega
          have i2 : (m : Int) < ((un a b).length : Int) := by omega
          have d1 : decide ((m : Int) < 0) = false := by simp
          have d2 : decide (((un a b).length : Int) ≤ (m : Int)) = false := by simp; omega
          have d3 : decide ((un a b).length ≤ m) = false := by simp; omega
          go_wp2_with fail
          go_quiet (fail)
          go_wp2_with fail
          go_roundw
          case rel => exact ⟨j + 1, by omega, by go_num, _, rfl⟩
          case measure => simp [intOf]; omega
        · have hm2 : 2 ≤ 3 := by omega
          go_wp2_with (first | (have tk := hv8; at_builtin; refine wpList_appendN rfl _ _ 26 rfl W.heap.size Try.underlying26 strInfo rfl (by decide) (by rfl) hv8 AB b.length cb (by rfl) (by exact (RBW.out.drewN q2).grown hg8 (by simp [Value.ownBlock])) (by simp) (by simp [Value.oneCell']) (by decide) (by omega) (by have := hg8.size; have : (W.drewN q2).heap.size = W.heap.size := rfl; omega) ?_; intro v9 w9 hv9 hg9 hob9; clear tk) | (at_builtin; refine wpList_appendN rfl _ _ 26 rfl W.heap.size Try.underlying26 strInfo rfl (by decide) (v := .slice none 0 0) (by rfl) (World.ownsRow_nil _ _ _ _) AA a.length ca (by rfl) (by exact RAW.out.drewN q2) (by simp) (by simp [Value.oneCell']) (by decide) (by omega) (by have : (W.drewN q2).heap.size = W.heap.size := rfl; omega) ?_; intro v8 w8 hv8 hg8 hob8))
          obtain ⟨A9, c9, rfl, hc9, hm9, -, hr9⟩ := Rd.of_own hv9 (by decide)
          have G8 : Hid (w.grownBy w8 none) := only_trans (only_drewN GW.out q2) (by simpa [Value.ownBlock] using hg8)
          have G9 : Hid (w.grownBy w9 none) := only_own G8.out hg9 hv8 GW.out.size
          have M9 : Hid (Rd (· < W.heap.size) w9 AM ((un a b).map .string)) := (((PW.out.1.drewN q2).mono (S' := (· < W.heap.size)) (fun _ _ h => h)).grown (row := none) (by simpa [Value.ownBlock] using hg8) (by simp)).grown hg9 (fun b hb e => by have := (hv8.lt b e.symm).1; omega)
          have c1 := distinct_post A9 (a ++ b) c9 w9 (by rw [List.map_append]; simpa using hr9) (by simp; omega) (by simp; omega) hm9
          rw [List.length_append] at c1
          rw [show 0 + a.length + b.length = a.length + b.length from by omega]
          refine c1.mono ?_
          rintro e w10 ⟨A10, c10, ds, rfl, hc10, hm10, hs10, he10, hl10, hr10, hg10⟩
          have ED : Hid (ds = un a b) := srt_ext hs10 HM.out (fun s => by rw [he10, un_mem, List.mem_append])
          have HR10 := Lib.hid hr10
          have M10 := Lib.hid (M9.out.grown hg10 (by simp))
          have G10 : Hid (w.grownBy w10 none) := only_trans G9.out hg10
          clear c1 hs10 he10 hr10 hg10
          simp at hl10
          go_wp2_with fail
          refine (same_any AM A10 (un a b) ds cm c10 _ M10.out HR10.out (by omega) (by omega) true (by rw [ED.out]; simp)).mono ?_
          rintro e w11 ⟨rfl, n11, rfl⟩
          go_wp2_with fail
          go_ret
          exact ⟨rfl, only_drewN G10.out _⟩
end Go.Proofs.Ytgaomilmljepoaa
