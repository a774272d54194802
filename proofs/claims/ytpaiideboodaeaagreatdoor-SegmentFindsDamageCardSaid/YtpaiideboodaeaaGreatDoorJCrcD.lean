/- The checksum tells a change of one byte; what a change of one byte does to a segment. Plain. Conditions: good events. -/
import Derived.Test.YtpaiideboodaeaaGreatDoorJByR
import Derived.Test.YtpaiideboodaeaaGreatDoorJIdxP
import Derived.Test.YtpaiideboodaeaaGreatDoorJEnc27
import Derived.Test.YtpaiideboodaeaaGreatDoorJEncO
namespace Go.Proofs.YtpaiideboodaeaaGreatDoor
open Go.RowKit
set_option linter.unusedVariables false
set_option linter.unusedSimpArgs false

theorem xor_can {a b c : Nat} (h : a ^^^ c = b ^^^ c) : a = b := by
  have := congrArg (· ^^^ c) h
  simpa [Nat.xor_assoc] using this
theorem crc1_inj {a b : Nat} (ha : a < 4294967296) (hb : b < 4294967296) (h : crc1 a = crc1 b) : a = b := by
  have top : ∀ x y : Nat, x < 2147483648 → y < 2147483648 → x ^^^ 3988292384 ≠ y := fun x y hx hy e => by
    have h1 : (x ^^^ 3988292384).testBit 31 = true := by
      rw [Nat.testBit_xor, Nat.testBit_lt_two_pow (show x < 2 ^ 31 by omega)]; decide
    rw [e, Nat.testBit_lt_two_pow (show y < 2 ^ 31 by omega)] at h1
    cases h1
  unfold crc1 at h
  split at h
  · split at h
    · have := xor_can h; omega
    · exact absurd h (top _ _ (by omega) (by omega))
  · split at h
    · exact absurd h.symm (top _ _ (by omega) (by omega))
    · omega
theorem crcK_inj : ∀ (k : Nat) {a b : Nat}, a < 4294967296 → b < 4294967296 → crcK k a = crcK k b → a = b
  | 0, _, _, _, _, h => h
  | k + 1, a, b, ha, hb, h => crcK_inj k ha hb (crc1_inj (crcK_lt ha k) (crcK_lt hb k) h)
theorem crcS_lt {c : Nat} (h : c < 4294967296) (x : Int) : crcS c x < 4294967296 := crcK_lt (xor_lt32 h (by omega)) 8
theorem crcS_inj {a b : Nat} (x : Int) (ha : a < 4294967296) (hb : b < 4294967296) (h : crcS a x = crcS b x) : a = b :=
  xor_can (crcK_inj 8 (xor_lt32 ha (by omega)) (xor_lt32 hb (by omega)) h)
theorem crcS_byte {c : Nat} {x y : Int} (hc : c < 4294967296) (hx : 0 ≤ x ∧ x ≤ 255) (hy : 0 ≤ y ∧ y ≤ 255) (h : crcS c x = crcS c y) : x = y := by
  have h1 := crcK_inj 8 (xor_lt32 hc (by omega)) (xor_lt32 hc (by omega)) h
  rw [Nat.xor_comm c, Nat.xor_comm c] at h1
  have := xor_can h1
  omega
theorem fold_inj : ∀ (l : List Int) {a b : Nat}, a < 4294967296 → b < 4294967296 → l.foldl crcS a = l.foldl crcS b → a = b
  | [], _, _, _, _, h => h
  | x :: l, a, b, ha, hb, h => crcS_inj x ha hb (fold_inj l (crcS_lt ha x) (crcS_lt hb x) h)
theorem set_split {bs : List Int} {k : Nat} {x : Int} (hk : bs[k]? = some x) (y : Int) : bs.set k y = bs.take k ++ y :: bs.drop (k + 1) ∧ bs = bs.take k ++ x :: bs.drop (k + 1) := by
  obtain ⟨h1, h2⟩ := List.getElem?_eq_some_iff.1 hk
  refine ⟨by rw [List.set_eq_take_append_cons_drop, if_pos h1], ?_⟩
  rw [← h2, List.getElem_cons_drop, List.take_append_drop]
/-- the checksum of a change of one byte -/
theorem crcN_set {bs : List Int} {k : Nat} {x y : Int} (hk : bs[k]? = some x) (hx : 0 ≤ x ∧ x ≤ 255) (hy : 0 ≤ y ∧ y ≤ 255) (hxy : x ≠ y) : crcN (bs.set k y) ≠ crcN bs := by
  intro h
  obtain ⟨h1, h2⟩ := set_split hk y
  have h3 : crcT (bs.set k y) = crcT bs := xor_can h
  rw [h1] at h3
  rw [h2] at h3
  unfold crcT at h3
  rw [List.foldl_append, List.foldl_append, List.foldl_cons, List.foldl_cons] at h3
  have hl : (bs.take k).foldl crcS 4294967295 < 4294967296 := crcT_lt (bs.take k)
  rw [← h2] at h3
  exact hxy (crcS_byte hl hy hx (fold_inj _ (crcS_lt hl y) (crcS_lt hl x) h3)).symm
theorem cutB_set_out {bs : List Int} {k a n : Nat} (y : Int) (h : k < a ∨ a + n ≤ k) : cutB (bs.set k y) a n = cutB bs a n := by
  unfold cutB
  rcases h with h | h
  · rw [List.drop_set, if_pos h]
  · by_cases ha : k < a
    · rw [List.drop_set, if_pos ha]
    · rw [List.drop_set, if_neg ha, List.take_set]
      apply List.set_eq_of_length_le
      rw [List.length_take]
      omega
theorem cutB_set_in {bs : List Int} {k a n : Nat} (y : Int) (h1 : a ≤ k) (h2 : k < a + n) : cutB (bs.set k y) a n = (cutB bs a n).set (k - a) y := by
  unfold cutB
  rw [List.drop_set, if_neg (by omega), List.take_set]
theorem cutB_at {bs : List Int} {k a n : Nat} {x : Int} (hk : bs[k]? = some x) (h1 : a ≤ k) (h2 : k < a + n) : (cutB bs a n)[k - a]? = some x := by
  unfold cutB
  rw [List.getElem?_take, if_pos (by omega), List.getElem?_drop, show a + (k - a) = k from by omega, hk]
/-- a number whose byte is changed is another number -/
theorem getN_inj : ∀ (a b : List Int), a.length = b.length → U8 a → U8 b → getN a = getN b → a = b := by
  have key : ∀ (n : Nat) (a b : List Int), a.length = n → b.length = n → U8 a → U8 b → getN a = getN b → a = b := by
    intro n
    induction n with
    | zero => intro a b h1 h2 _ _ _; rw [List.eq_nil_of_length_eq_zero h1, List.eq_nil_of_length_eq_zero h2]
    | succ n ih =>
      intro a b h1 h2 ha hb h
      rcases List.eq_nil_or_concat a with rfl | ⟨a', x, rfl⟩
      · simp at h1
      rcases List.eq_nil_or_concat b with rfl | ⟨b', y, rfl⟩
      · simp at h2
      have hx := ha x (by simp)
      have hy := hb y (by simp)
      rw [List.concat_eq_append] at h1 h2 h ha hb ⊢
      rw [List.concat_eq_append] at *
      rw [getN_snoc, getN_snoc] at h
      have e1 : getN a' = getN b' := by omega
      have e2 : x = y := by omega
      rw [ih a' b' (by simpa using h1) (by simpa using h2) (fun z hz => ha z (by simp [hz])) (fun z hz => hb z (by simp [hz])) e1, e2]
  intro a b hl ha hb h
  exact key _ a b rfl hl.symm ha hb h
end Go.Proofs.YtpaiideboodaeaaGreatDoor

namespace Go.Proofs.YtpaiideboodaeaaGreatDoor
open Go.RowKit
set_option linter.unusedVariables false
set_option linter.unusedSimpArgs false

theorem errS_zero {bs : List Int} (h : errS bs = 0) : 124 ≤ bs.length ∧ magicB bs = true ∧ cutN bs 120 4 = crcN (bs.take 120) ∧ bs.length = offH bs 12 := by
  unfold errS at h
  split at h
  · cases h
  · split at h
    · cases h
    · split at h
      · cases h
      · split at h
        · cases h
        · rename_i h1 h2 h3 h4
          exact ⟨by omega, by simpa using h2, by simpa using h3, by simpa using h4⟩
theorem U8.cut {bs : List Int} (h : U8 bs) (a n : Nat) : U8 (cutB bs a n) := fun x hx => h x (List.mem_of_mem_drop (List.mem_of_mem_take hx))
theorem U8.set_ {bs : List Int} (h : U8 bs) (k : Nat) {y : Int} (hy : 0 ≤ y ∧ y ≤ 255) : U8 (bs.set k y) := fun x hx => by
  rcases List.mem_or_eq_of_mem_set hx with h1 | h1
  · exact h x h1
  · rw [h1]; exact hy
section
variable {bs : List Int} {k : Nat} {x y : Int}
/-- a change in the header -/
theorem damage_head (he : errS bs = 0) (hu : U8 bs) (hk : bs[k]? = some x) (hy : 0 ≤ y ∧ y ≤ 255) (hxy : x ≠ y) (hh : k < 124) : errS (bs.set k y) ≠ 0 := by
  obtain ⟨e1, e2, e3, e4⟩ := errS_zero he
  intro h
  obtain ⟨-, -, f3, -⟩ := errS_zero h
  have hx : 0 ≤ x ∧ x ≤ 255 := hu x (List.mem_of_getElem? hk)
  by_cases h2 : k < 120
  · have c1 : cutN (bs.set k y) 120 4 = cutN bs 120 4 := by unfold cutN; rw [cutB_set_out y (.inl h2)]
    have c2 : (bs.set k y).take 120 = (bs.take 120).set k y := List.take_set ..
    rw [c1, c2, e3] at f3
    exact crcN_set (by rw [List.getElem?_take, if_pos h2, hk]) hx hy hxy f3.symm
  · have c2 : (bs.set k y).take 120 = bs.take 120 := by
      rw [List.take_set]
      apply List.set_eq_of_length_le
      rw [List.length_take]
      omega
    rw [c2, ← e3] at f3
    unfold cutN at f3
    rw [cutB_set_in y (by omega) (by omega)] at f3
    have hc := getN_inj _ _ (by simp) ((hu.cut 120 4).set_ _ hy) (hu.cut 120 4) f3
    have h5 := cutB_at (a := 120) (n := 4) hk (by omega) (by omega)
    have h6 : ((cutB bs 120 4).set (k - 120) y)[k - 120]? = some y := by
      rw [List.getElem?_set_self (List.getElem?_eq_some_iff.1 h5).1]
    rw [hc, h5] at h6
    injection h6 with h6
    exact hxy h6
theorem lenH_set (hh : 124 ≤ k) {j : Nat} (hj : j ≤ 12) : lenH (bs.set k y) j = lenH bs j := by unfold lenH cutN; rw [cutB_set_out y (.inr (by omega))]
theorem crcH_set (hh : 124 ≤ k) {j : Nat} (hj : j ≤ 12) : crcH (bs.set k y) j = crcH bs j := by unfold crcH cutN; rw [cutB_set_out y (.inr (by omega))]
theorem offH_set (hh : 124 ≤ k) : ∀ j, j ≤ 12 → offH (bs.set k y) j = offH bs j
  | 0, _ => rfl
  | j + 1, hj => by simp only [offH]; rw [offH_set hh j (by omega), lenH_set hh hj]
theorem errS_set (he : errS bs = 0) (hh : 124 ≤ k) : errS (bs.set k y) = 0 := by
  obtain ⟨e1, e2, e3, e4⟩ := errS_zero he
  have t : ∀ n, n ≤ 124 → (bs.set k y).take n = bs.take n := fun n hn => by
    rw [List.take_set]
    apply List.set_eq_of_length_le
    rw [List.length_take]
    omega
  unfold errS
  rw [List.length_set, if_neg (by omega)]
  have hm : magicB (bs.set k y) = magicB bs := by unfold magicB; rw [t 4 (by decide)]
  rw [hm, e2, if_neg (by decide), t 120 (by decide)]
  have hc : cutN (bs.set k y) 120 4 = cutN bs 120 4 := by unfold cutN; rw [cutB_set_out y (.inr (by omega))]
  rw [hc, if_neg (by rw [e3]; exact fun h => h rfl), offH_set hh 12 (by decide), if_neg (by rw [← e4]; exact fun h => h rfl)]
theorem rightH_set_out (hh : 124 ≤ k) {j : Nat} (hj : j < 12) (hr : rightH bs (j + 1) = true) (ho : k < offH bs j ∨ offH bs (j + 1) ≤ k) : rightH (bs.set k y) (j + 1) = true := by
  have hs : secH (bs.set k y) (j + 1) = secH bs (j + 1) := by
    unfold secH
    rw [Nat.add_sub_cancel, offH_set hh j (by omega), lenH_set hh (by omega)]
    exact cutB_set_out y (by simp only [offH] at ho; omega)
  unfold rightH at hr ⊢
  rw [hs, crcH_set hh (by omega)]
  exact hr
theorem rightH_set_in (hu : U8 bs) (hk : bs[k]? = some x) (hy : 0 ≤ y ∧ y ≤ 255) (hxy : x ≠ y) (hh : 124 ≤ k) {j : Nat} (hj : j < 12) (hr : rightH bs (j + 1) = true) (h1 : offH bs j ≤ k) (h2 : k < offH bs (j + 1)) : rightH (bs.set k y) (j + 1) = false := by
  have hs : secH (bs.set k y) (j + 1) = (secH bs (j + 1)).set (k - offH bs j) y := by
    unfold secH
    rw [Nat.add_sub_cancel, offH_set hh j (by omega), lenH_set hh (by omega)]
    exact cutB_set_in y h1 (by simp only [offH] at h2; omega)
  have hx : 0 ≤ x ∧ x ≤ 255 := hu x (List.mem_of_getElem? hk)
  have ha : (secH bs (j + 1))[k - offH bs j]? = some x := by
    unfold secH
    rw [Nat.add_sub_cancel]
    exact cutB_at hk h1 (by simp only [offH] at h2; omega)
  unfold rightH at hr ⊢
  rw [hs, crcH_set hh (by omega)]
  have e := beq_iff_eq.1 hr
  rw [e, beq_eq_false_iff_ne]
  exact fun h => crcN_set ha hx hy hxy h.symm
/-- a change behind the header damages just one section -/
theorem damage_body (he : errS bs = 0) (hu : U8 bs) (hr : ∀ j, j < 12 → rightH bs (j + 1) = true) (hk : bs[k]? = some x) (hy : 0 ≤ y ∧ y ≤ 255) (hxy : x ≠ y) (hh : 124 ≤ k) : errS (bs.set k y) = 0 ∧ (damL (bs.set k y)).length = 1 := by
  obtain ⟨e1, e2, e3, e4⟩ := errS_zero he
  have h0 := errS_set (y := y) he hh
  refine ⟨h0, ?_⟩
  have key : ∀ n, n ≤ 12 → (damH (bs.set k y) n).length = if k < offH bs n then 1 else 0 := by
    intro n
    induction n with
    | zero => intro _; rw [if_neg (by simp only [offH]; omega)]; rfl
    | succ n ih =>
      intro hn
      have ih := ih (by omega)
      have hm : offH bs n ≤ offH bs (n + 1) := offH_mono bs (by omega)
      simp only [damH, List.length_append]
      rw [ih]
      rcases Nat.lt_or_ge k (offH bs n) with h1 | h1
      · rw [rightH_set_out hh (by omega) (hr n (by omega)) (.inl h1), if_pos h1, if_pos (show k < offH bs (n + 1) by omega)]; rfl
      · rcases Nat.lt_or_ge k (offH bs (n + 1)) with h2 | h2
        · rw [rightH_set_in hu hk hy hxy hh (by omega) (hr n (by omega)) h1 h2, if_neg (show ¬ k < offH bs n by omega), if_pos h2]; rfl
        · rw [rightH_set_out hh (by omega) (hr n (by omega)) (.inr h2), if_neg (show ¬ k < offH bs n by omega), if_neg (show ¬ k < offH bs (n + 1) by omega)]; rfl
  unfold damL
  rw [if_pos h0, key 12 (Nat.le_refl _), if_pos]
  rw [← e4]
  exact (List.getElem?_eq_some_iff.1 hk).1
end
end Go.Proofs.YtpaiideboodaeaaGreatDoor

namespace Go.Proofs.YtpaiideboodaeaaGreatDoor
open Go.RowKit
set_option linter.unusedVariables false
set_option linter.unusedSimpArgs false

def DecBadP (n : Nat) (w : World) (e : Ending) (w' : World) : Prop := e = .returned (.tuple #[.slice none 0 0, .int .i64 (n : Nat)]) ∧ w.grownBy w' none
set_option maxHeartbeats 2000000 in
theorem sdecode_head {S : Nat → Prop} (A : Option Addr) (bs : List Int) (c : Nat) (w : World) (hr : Rd S w A (bs.map (.int .u8))) (hi : InH bs) (hl : bs.length ≤ 10000000) (hc : bs.length ≤ c) (hm : c ≤ 9223372036854775807) (h : errS bs ≠ 0) :
    Calls Tryz.prog 16 #[.slice A bs.length c] w (DecBadP (errS bs) w) := by
  have K := Lib.hid (sdamaged_any A bs c w hr hi hl hc hm)
  obtain ⟨n, hn⟩ : ∃ n, n = errS bs := ⟨_, rfl⟩
  have HN := Lib.hid hn
  have hn0 : ((n : Int) != 0) = true := by rw [hn]; simpa using h
  rw [← hn]
  clear hr hi hm h hn
  go_enter Tryz.func16, Tryz.ntmps16
  go_wp2_with fail
  refine K.out.mono ?_
  rintro e w2 ⟨A2, c2, rfl, -, hg⟩
  rw [← HN.out]
  have G := Lib.hid hg
  clear hg K
  go_wp2_with fail
  go_ret2
  exact ⟨rfl, G.out⟩
set_option maxHeartbeats 2000000 in
theorem sdecode_body {S : Nat → Prop} (A : Option Addr) (bs : List Int) (c : Nat) (w : World) (hr : Rd S w A (bs.map (.int .u8))) (hi : InH bs) (hl : bs.length ≤ 10000000) (hc : bs.length ≤ c) (hm : c ≤ 9223372036854775807) (h : errS bs = 0) (hd : 0 < (damL bs).length) :
    Calls Tryz.prog 16 #[.slice A bs.length c] w (DecBadP 15 w) := by
  have K := Lib.hid (sdamaged_any A bs c w hr hi hl hc hm)
  have H0 := Lib.hid h
  have i1 : (0 : Int) < ((damL bs).length : Nat) := by omega
  clear hr hi hm h
  go_enter Tryz.func16, Tryz.ntmps16
  go_wp2_with fail
  refine K.out.mono ?_
  rintro e w2 ⟨A2, c2, rfl, -, hg⟩
  rw [H0.out]
  have G := Lib.hid hg
  clear hg K
  go_wp2_with fail
  go_ret2
  exact ⟨rfl, G.out⟩
end Go.Proofs.YtpaiideboodaeaaGreatDoor

namespace Go.Proofs.YtpaiideboodaeaaGreatDoor
open Go.RowKit
set_option linter.unusedVariables false
set_option linter.unusedSimpArgs false

theorem xor_ne {x m : Int} (hx : 0 ≤ x ∧ x ≤ 255) (hm : 1 ≤ m ∧ m ≤ 255) : x ≠ bits .xor .u8 x m := by
  obtain ⟨a, rfl⟩ : ∃ a : Nat, x = a := ⟨x.toNat, by omega⟩
  obtain ⟨b, rfl⟩ : ∃ b : Nat, m = b := ⟨m.toNat, by omega⟩
  have hl : a ^^^ b < 2 ^ 8 := Nat.xor_lt_two_pow (n := 8) (by omega) (by omega)
  have e : bits .xor .u8 (a : Int) (b : Int) = ((a ^^^ b : Nat) : Int) := by
    show IntKind.u8.wrap ((BitVec.ofInt 8 (a : Int) ^^^ BitVec.ofInt 8 (b : Int)).toNat : Int) = _
    rw [BitVec.toNat_xor, ofInt_nat 8 a (by omega), ofInt_nat 8 b (by omega), IntKind.wrap_u8]
    omega
  rw [e]
  intro h
  have h1 : a = a ^^^ b := by omega
  have h2 : b ^^^ a = 0 ^^^ a := by rw [Nat.xor_comm b a, ← h1, Nat.zero_xor]
  have := xor_can h2
  omega
set_option maxHeartbeats 8000000 in
set_option maxRecDepth 100000 in
theorem law_damage (A0 : Option Addr) (l0 : List Int) (d0 : Nat) (at_ by_ : Int) (w : World) (hK : Kinds w) (h : Rd (fun _ => True) w A0 (l0.map (.int .u8))) (hc : l0.length ≤ d0) (hcm : d0 ≤ maxLen) (hx : ∀ x ∈ l0, 0 ≤ x ∧ x ≤ 255) (hy : 0 ≤ by_ ∧ by_ ≤ 255) :
    Calls Tryz.prog 5 #[.slice A0 l0.length d0, .int .i64 at_, .int .u8 by_] w (BoolExt true w) := by
  have KD := Lib.hid (fun (w' : World) (hg : w.grownBy w' none) => draw27_any A0 l0 d0 w' (h.grown hg (by simp)) hc hcm hx)
  have HK := Lib.hid hK
  clear h hc hcm hx hK
  go_enter Tryz.func5, Tryz.ntmps5
  go_wp2_with (go_at_call 6; refine (awake27_any _).mono ?_; rintro e w1 ⟨rfl, hg1⟩)
  refine (KD.out w1 hg1).mono ?_
  rintro e w2 ⟨A3, c3, es, B, dB, g, l, k0, rfl, hel, hec, hcm3, hev, hsr, hgood, hwd, hdm, hown, hob, hcd, hgw, hg2⟩
  have hle := encZ_le hgood (by omega)
  have hge := encZ_ge es
  have G2 := Lib.hid (only_trans hg1 hg2)
  have KE := pencode27_any A3 es c3 w2 hev (by omega) hgood hsr (HK.out.grown G2.out (by simp))
  have HU := Lib.hid (encX_U8 es)
  have HE := Lib.hid (errS_enc hgood (show es.length ≤ 40 by omega))
  have HRT : Hid (∀ j, j < 12 → rightH (encX es) (j + 1) = true) := Lib.hid (fun j hj => rightH_enc hgood (by omega) hj)
  obtain ⟨ws, hws⟩ : ∃ x, x = encX es := ⟨_, rfl⟩
  rw [← hws] at hle hge hown KE HU HE HRT ⊢
  have KE1 := Lib.hid KE
  clear KE hws hev hsr hgood hwd hdm hown hob hcd hgw hg2 hg1 KD HK
  have i0 : decide ((ws.length : Int) < 124) = false := by simp; omega
  go_wp2_with fail
  refine KE1.out.mono ?_
  rintro e w3 ⟨v3, rfl, hB3, hg3⟩
  obtain ⟨A5, c5, e5, hc5, hm5, hr5⟩ := hB3.rd
  subst e5
  have R5 := Lib.hid (hr5.mono (S' := fun _ => True) (fun _ _ _ => trivial))
  have G3 := Lib.hid (only_trans G2.out hg3)
  have hwp : 0 < ws.length := by omega
  clear hB3 hg3 hr5 KE1
  go_wp2_with fail
  refine (mod_is at_ ws.length w3 hwp (by omega)).mono ?_
  rintro e w4 ⟨rfl, hw4⟩
  obtain rfl := hw4.symm
  have hm := modV_lt at_ hwp
  obtain ⟨m, hmE⟩ : ∃ m, modV at_ ws.length = m := ⟨_, rfl⟩
  rw [hmE] at hm ⊢
  clear hmE
  go_upto_region 9 with (at_builtin; go_must (refine wpList_appendN rfl _ _ 22 rfl w3.heap.size Tryz.underlying22 byteInfo rfl (by decide) (v := .slice none 0 0) (by rfl) (World.ownsRow_nil _ _ _ _) A5 ws.length c5 (by rfl) R5.out (by simp) (byte_ones _) (by decide) (by omega) (Nat.le_refl _) ?_); intro v6 w6 hv6 hg6 hob6)
  obtain ⟨AO, co, hvO, hco, hcm6, -, -⟩ := Rd.of_own hv6 (by decide)
  rw [Nat.zero_add] at hvO hco hv6
  rw [List.nil_append] at hv6
  obtain ⟨go, hgo⟩ : ∃ go, AO = some ⟨go, 0, none⟩ := by
    rcases hv6.2 with ⟨-, h0⟩ | ⟨g', cap, cur, hv, -⟩
    · omega
    · rw [hvO] at hv; injection hv with e1 _ _; exact ⟨g', e1⟩
  subst hgo
  subst hvO
  have O6 := Lib.hid hv6
  have hgo6 := (World.ownsRow.lt hv6 go rfl).1
  have G6 : Hid (w3.grownBy w6 none) := Lib.hid hg6
  obtain ⟨xj, hxj⟩ : ∃ xj, ws[m]? = some xj := ⟨_, List.getElem?_eq_getElem hm⟩
  have hcj : w6.cell? ⟨go, m, none⟩ = some (.int .u8 xj) := by
    rw [(own_cellsH O6.out hm).1, List.getElem?_map, hxj]; rfl
  have hfj := (own_cellsH O6.out hm).2
  have hxr := HU.out xj (List.mem_of_getElem? hxj)
  obtain ⟨mx, hmx⟩ : ∃ mx, mx = max by_ 1 := ⟨_, rfl⟩
  have hyr := xor_in xj mx
  have hne := xor_ne hxr (m := mx) (by omega)
  have hji : (m : Int) < (ws.length : Int) := by omega
  have hj0 : (0 : Int) ≤ (m : Int) := by omega
  obtain ⟨y, hyd⟩ : ∃ y, y = bits .xor .u8 xj mx := ⟨_, rfl⟩
  rw [← hyd] at hyr hne
  obtain ⟨W7, hW7⟩ : ∃ W, W = w6.setCell ⟨go, m, none⟩ (.int .u8 y) := ⟨_, rfl⟩
  have O7 : W7.ownsRow w3.heap.size 5 1 (.slice (some ⟨go, 0, none⟩) ws.length co) ws.length ((ws.set m y).map (.int .u8)) := by
    rw [hW7, List.map_set]
    exact own_setH O6.out hm
  have G7 : Hid (w.grownBy W7 none) := Lib.hid (only_trans G3.out (hW7 ▸ only_setN G6.out hgo6 _))
  have ROD : Hid (Rd (fun _ => True) W7 (some ⟨go, 0, none⟩) ((ws.set m y).map (.int .u8))) := Lib.hid ((rd_own O7 (by decide)).mono (fun _ _ _ => trivial))
  have HUO : Hid (InH (ws.set m y)) := Lib.hid (fun x hx => (HU.out.set_ m hyr) x (List.mem_of_mem_take hx))
  have hol : (ws.set m y).length = ws.length := List.length_set ..
  have hcm7 : co ≤ 9223372036854775807 := by unfold maxLen at hcm6; omega
  have KDm := fun (W : World) (hg : W7.grownBy W none) => sdamaged_any (some ⟨go, 0, none⟩) (ws.set m y) co W (ROD.out.grown hg (by simp)) HUO.out (by omega) (by omega) hcm7
  have KH := fun (W : World) (hg : W7.grownBy W none) (he : errS (ws.set m y) ≠ 0) => sdecode_head (some ⟨go, 0, none⟩) (ws.set m y) co W (ROD.out.grown hg (by simp)) HUO.out (by omega) (by omega) hcm7 he
  have KB := fun (W : World) (hg : W7.grownBy W none) (he : errS (ws.set m y) = 0) (hd : 0 < (damL (ws.set m y)).length) => sdecode_body (some ⟨go, 0, none⟩) (ws.set m y) co W (ROD.out.grown hg (by simp)) HUO.out (by omega) (by omega) hcm7 he hd
  rw [hol] at KDm KH KB
  have KDM := Lib.hid KDm
  have KHH := Lib.hid KH
  have KBB := Lib.hid KB
  have HDH : Hid (m < 124 → errS (ws.set m y) ≠ 0) := Lib.hid (fun h => damage_head HE.out HU.out hxj hyr hne h)
  have HDB : Hid (124 ≤ m → errS (ws.set m y) = 0 ∧ (damL (ws.set m y)).length = 1) := Lib.hid (fun h => damage_body HE.out HU.out HRT.out hxj hyr hne h)
  obtain ⟨od, hod⟩ : ∃ od, od = ws.set m y := ⟨_, rfl⟩
  rw [← hod] at KDM KHH KBB HDH HDB
  have HW7 : Hid (w6.setCell ⟨go, m, none⟩ (.int .u8 (bits .xor .u8 xj (max by_ 1))) = W7) := Lib.hid (by rw [hW7, hyd, hmx])
  clear hv6 hg6 hob6 hxj hxr hyr hne hyd hmx hW7 O7 hol KDm KH KB hod O6 HU HE HRT ROD HUO R5 hy
  go_upto_region 10 with fail
  rw [HW7.out]
  clear hcj hfj HW7
  go_wp2_with fail
  refine (KDM.out W7 (only_refl _ _)).mono ?_
  rintro e w8 ⟨A8, c8, rfl, -, hg8⟩
  have G8 := Lib.hid hg8
  clear hg8 KDM
  by_cases hh : m < 124
  · have he := HDH.out hh
    have KH := Lib.hid (KHH.out w8 G8.out he)
    obtain ⟨n, hn⟩ : ∃ n, n = errS od := ⟨_, rfl⟩
    rw [← hn] at KH he ⊢
    have hn0 : ((n : Int) != 0) = true := by simpa using he
    have i1 : (m : Int) < 124 := by omega
    clear hn he HDH HDB KHH KBB hh
    go_wp2_with fail
    refine KH.out.mono ?_
    rintro e w9 ⟨rfl, hg9⟩
    have HF := Lib.hid (only_trans G7.out (only_trans G8.out hg9))
    clear hg9 KH
    go_wp2_with fail
    go_ret
    exact ⟨rfl, HF.out⟩
  · obtain ⟨he, hd⟩ := HDB.out (by omega)
    have KB := Lib.hid (KBB.out w8 G8.out he (by omega))
    rw [he, hd]
    have i1 : ¬ (m : Int) < 124 := by omega
    clear hd he HDH HDB KHH KBB hh
    go_wp2_with fail
    refine KB.out.mono ?_
    rintro e w9 ⟨rfl, hg9⟩
    have HF := Lib.hid (only_trans G7.out (only_trans G8.out hg9))
    clear hg9 KB
    go_wp2_with fail
    go_ret
    exact ⟨rfl, HF.out⟩
end Go.Proofs.YtpaiideboodaeaaGreatDoor
