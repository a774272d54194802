/- What the reader takes out of the bytes of delta, runs and packed columns. Plain. -/
import Derived.Test.YtebakogdbeeljaaColLaw
import Derived.Test.YtebakogdbeeljaaRdG
namespace Go.Proofs.Ytebakogdbeeljaa
open Go.RowKit
set_option linter.unusedVariables false
set_option linter.unusedSimpArgs false

def dls (vs : List Int) : List Int := (List.range vs.length).map (dl vs)
theorem dls_len (vs : List Int) : (dls vs).length = vs.length := by simp [dls]
theorem dls_I64 {vs : List Int} (h : ∀ x ∈ vs, I64 x) : ∀ x ∈ dls vs, I64 x := fun x hx => by
  simp only [dls, List.mem_map] at hx
  obtain ⟨i, _, rfl⟩ := hx
  exact dl_I64 h i
theorem dls_at {vs : List Int} {i : Nat} (h : i < vs.length) : (dls vs).getD i 0 = dl vs i := by
  simp [dls, h]
theorem genTo_dl (vs : List Int) : ∀ k, k ≤ vs.length → genTo (dlF vs) k = genTo (plF (dls vs)) k
  | 0, _ => rfl
  | k + 1, h => by rw [genTo, genTo, genTo_dl vs k (by omega), dlF, plF, dls_at (by omega)]
def dlR : Int → List Int → List Int
  | _, [] => []
  | a, x :: l => IntKind.i64.wrap (x - a) :: dlR x l
theorem acS_dlR : ∀ (l : List Int) (a : Int), (∀ x ∈ l, I64 x) → acS (dlR a l) a = l
  | [], _, _ => rfl
  | x :: l, a, h => by
    have hx := h x (List.mem_cons_self ..)
    have e : wrap64 (IntKind.i64.wrap (x - a) + a) = x := by
      unfold I64 at hx; rw [IntKind.wrap_i64]; unfold wrap64; omega
    rw [dlR, acS, e, acS_dlR l x (fun y hy => h y (List.mem_cons_of_mem _ hy))]
theorem dlR_at : ∀ (l : List Int) (a : Int) (i : Nat), i < l.length → (dlR a l)[i]? = some (IntKind.i64.wrap (l.getD i 0 - (a :: l).getD i 0))
  | x :: l, a, 0, _ => by simp [dlR]
  | x :: l, a, i + 1, h => by
    rw [dlR, List.getElem?_cons_succ, dlR_at l x i (by simpa using h)]
    simp
theorem dlR_len : ∀ (l : List Int) (a : Int), (dlR a l).length = l.length
  | [], _ => rfl
  | x :: l, a => by simp [dlR, dlR_len l x]
theorem dls_cons (x : Int) (l : List Int) : dls (x :: l) = x :: dlR x l := by
  apply List.ext_getElem?
  intro i
  cases i with
  | zero => simp [dls, dl]
  | succ i =>
    by_cases h : i < l.length
    · rw [List.getElem?_cons_succ, dlR_at l x i h]
      simp [dls, h, dl, List.getElem?_range]
    · rw [List.getElem?_eq_none (by rw [dls_len]; simp; omega), List.getElem?_eq_none (by simp [dlR_len]; omega)]
theorem psum_dls (vs : List Int) (h : ∀ x ∈ vs, I64 x) : psum (dls vs) = vs := by
  cases vs with
  | nil => rfl
  | cons x l => rw [dls_cons, psum, acS_dlR l x (fun y hy => h y (List.mem_cons_of_mem _ hy))]
theorem delta_back (vs rest : List Int) (h : ∀ x ∈ vs, I64 x) : rDl vs.length (genTo (dlF vs) vs.length ++ rest) false = (vs, rest, false) := by
  have e := plain_back (dls vs) rest (dls_I64 h)
  rw [dls_len] at e
  rw [rDl, genTo_dl vs _ (Nat.le_refl _), e]
  simp only
  rw [psum_dls vs h]
theorem runLen_rep' (x : Int) : ∀ l, l = List.replicate (runLen x l) x ++ l.drop (runLen x l)
  | [] => by simp [runLen]
  | y :: l => by
    by_cases h : y = x
    · subst h
      rw [runLen, if_pos rfl, List.drop_succ_cons, List.replicate_succ, List.cons_append, ← runLen_rep' y l]
    · rw [runLen, if_neg h]; simp
theorem size_back (m n : Nat) (h : n ≤ m) (hm : m ≤ 1000000) (rest : List Int) : rSize m (vint n ++ rest) false = (n, rest, false) := by
  rw [rSize, num_back n (by omega) rest false, if_neg (by simp only; omega)]
theorem rRn_back : ∀ (N : Nat) (f : Nat) (vs rest : List Int), vs.length ≤ N → vs.length < f → vs.length ≤ 16384 → (∀ x ∈ vs, I64 x) → rRn f vs.length (runsB vs ++ rest) false = (vs, rest, false)
  | _, f, [], rest, _, _, _, _ => by rw [runsB_nil]; exact rRn_end f 0 rest false (.inl rfl)
  | 0, f, x :: l, rest, h, _, _, _ => by simp at h
  | N + 1, 0, x :: l, rest, _, h, _, _ => by simp at h
  | N + 1, f + 1, x :: l, rest, h1, h2, h3, hi => by
    have hz := zz_lt (hi x (List.mem_cons_self ..))
    have hr := runLen_le x l
    have e1 : rNum 10 0 (runsB (x :: l) ++ rest) false = (zz x, vint (runLen x l + 1) ++ (runsB (l.drop (runLen x l)) ++ rest), false) := by
      rw [runsB_cons, List.append_assoc, List.append_assoc]; exact num_back _ hz _ _
    have e2 : rSize (x :: l).length (vint (runLen x l + 1) ++ (runsB (l.drop (runLen x l)) ++ rest)) false = (runLen x l + 1, runsB (l.drop (runLen x l)) ++ rest, false) :=
      size_back _ _ (by simp; omega) (by omega) _
    rw [rRn_step f _ _ (by simp) e1 e2]
    simp only [uz_zz]
    rw [show (false || runLen x l + 1 == 0) = false from by simp, show (x :: l).length - (runLen x l + 1) = (l.drop (runLen x l)).length from by simp]
    simp at h1 h2 h3
    rw [rRn_back N f (l.drop (runLen x l)) rest (by simp; omega) (by simp; omega) (by simp; omega) (fun y hy => hi y (List.mem_cons_of_mem _ (List.mem_of_mem_drop hy)))]
    simp only
    rw [List.replicate_succ, List.cons_append, ← runLen_rep' x l]
theorem runs_back (vs rest : List Int) (h : ∀ x ∈ vs, I64 x) (hl : vs.length ≤ 16384) : rRn (vs.length + 1) vs.length (runsB vs ++ rest) false = (vs, rest, false) :=
  rRn_back _ _ vs rest (Nat.le_refl _) (by omega) hl h

/-- the bit at place p -/
def tb (bs : List Nat) (p : Nat) : Bool := (bs.getD (p / 8) 0).testBit (p % 8)
theorem tb_setBit {bs : List Nat} {q b : Nat} (hq : q / 8 < bs.length) (hb : b < 2) (p : Nat) : tb (setBit bs q b) p = (tb bs p || (decide (p = q) && b.testBit 0)) := by
  unfold tb setBit
  by_cases h8 : p / 8 = q / 8
  · rw [h8, List.getD_eq_getElem?_getD, List.getElem?_set_self hq]
    simp only [Option.getD_some, Nat.testBit_or, Nat.testBit_shiftLeft]
    congr 1
    by_cases hpq : p = q
    · subst hpq; simp
    · simp only [hpq, decide_false, Bool.false_and]
      by_cases hg : q % 8 ≤ p % 8
      · have hd : p % 8 - q % 8 ≠ 0 := by omega
        have : b.testBit (p % 8 - q % 8) = false := Nat.testBit_lt_two_pow (Nat.lt_of_lt_of_le hb (by
          have : 2 ^ 1 ≤ 2 ^ (p % 8 - q % 8) := Nat.pow_le_pow_right (by decide) (by omega)
          omega))
        rw [this]; simp
      · simp; omega
  · rw [List.getD_eq_getElem?_getD, List.getElem?_set_ne (fun e => h8 e.symm), ← List.getD_eq_getElem?_getD]
    have : p ≠ q := fun e => h8 (by rw [e])
    simp [this]
theorem tb_wBits {bs : List Nat} {q d : Nat} : ∀ k, q + k ≤ 8 * bs.length → ∀ p, tb (wBits bs q d k) p = (tb bs p || (decide (q ≤ p ∧ p < q + k) && d.testBit (p - q)))
  | 0, _, p => by
    have : ¬ (q ≤ p ∧ p < q + 0) := by omega
    rw [wBits, decide_eq_false this, Bool.false_and, Bool.or_false]
  | k + 1, h, p => by
    rw [wBits, tb_setBit (by rw [wBits_len]; omega) (by omega), tb_wBits k (by omega) p, Bool.or_assoc]
    congr 1
    have e : (d / 2 ^ k % 2).testBit 0 = d.testBit k := by
      rw [Nat.testBit_zero, ← Nat.toNat_testBit]; cases d.testBit k <;> simp
    rw [e]
    by_cases h1 : p = q + k
    · subst h1
      have a1 : q ≤ q + k ∧ q + k < q + (k + 1) := by omega
      have a2 : ¬ (q ≤ q + k ∧ q + k < q + k) := by omega
      simp [a1, a2]
    · by_cases h2 : q ≤ p ∧ p < q + k
      · have a1 : q ≤ p ∧ p < q + (k + 1) := by omega
        simp [h1, h2, a1]
      · have a1 : ¬ (q ≤ p ∧ p < q + (k + 1)) := by omega
        simp only [h1, h2, a1, decide_false, Bool.false_and, Bool.or_false]
theorem nb_ge (vs : List Int) : vs.length * pw vs ≤ 8 * nb vs := by rw [nb_eq]; omega
theorem tb_all (vs : List Int) : ∀ i, i ≤ vs.length → (∀ j, j < i → ∀ k, k < pw vs → tb (allBits vs i) (j * pw vs + k) = (df vs j).testBit k) ∧ (∀ p, i * pw vs ≤ p → tb (allBits vs i) p = false)
  | 0, _ => ⟨fun j hj => absurd hj (by omega), fun p _ => by
      unfold tb allBits
      rw [List.getD_eq_getElem?_getD, List.getElem?_replicate]
      split <;> simp⟩
  | i + 1, h => by
    obtain ⟨h1, h2⟩ := tb_all vs i (by omega)
    have hw : i * pw vs + pw vs ≤ 8 * (allBits vs i).length := by
      rw [allBits_len]
      refine Nat.le_trans ?_ (nb_ge vs)
      have := Nat.mul_le_mul_right (pw vs) h
      rw [Nat.add_mul, Nat.one_mul] at this; exact this
    constructor
    · intro j hj k hk
      rw [allBits, tb_wBits _ hw]
      by_cases hji : j = i
      · subst hji
        have a1 : j * pw vs ≤ j * pw vs + k ∧ j * pw vs + k < j * pw vs + pw vs := by omega
        rw [h2 _ (by omega)]
        simp [a1]
      · have hlt : j * pw vs + k < i * pw vs := by
          have := Nat.mul_le_mul_right (pw vs) (show j + 1 ≤ i by omega)
          rw [Nat.add_mul, Nat.one_mul] at this; omega
        have a1 : ¬ (i * pw vs ≤ j * pw vs + k ∧ j * pw vs + k < i * pw vs + pw vs) := by omega
        rw [h1 j (by omega) k hk]
        simp only [a1, decide_false, Bool.false_and, Bool.or_false]
    · intro p hp
      rw [Nat.add_mul, Nat.one_mul] at hp
      have a1 : ¬ (i * pw vs ≤ p ∧ p < i * pw vs + pw vs) := by omega
      rw [allBits, tb_wBits _ hw, h2 p (by omega)]
      simp only [a1, decide_false, Bool.false_and, Bool.or_false]
theorem dBits_is (bs : List Nat) (p d : Nat) : ∀ k, (∀ j, j < k → tb bs (p + j) = d.testBit j) → dBits (bs.map (fun (n : Nat) => (n : Int))) p k = d % 2 ^ k
  | 0, _ => by simp [dBits, Nat.mod_one]
  | k + 1, h => by
    have hb : ((bs.map (fun (n : Nat) => (n : Int))).getD ((p + k) / 8) 0).toNat = bs.getD ((p + k) / 8) 0 := by
      simp only [List.getD_eq_getElem?_getD, List.getElem?_map]
      cases bs[(p + k) / 8]? <;> simp
    have e : bs.getD ((p + k) / 8) 0 / 2 ^ ((p + k) % 8) % 2 = (d.testBit k).toNat := by
      rw [← Nat.toNat_testBit]
      have := h k (by omega)
      unfold tb at this
      rw [this]
    rw [dBits, hb, e, dBits_is bs p d k (fun j hj => h j (by omega))]
    apply Nat.eq_of_testBit_eq
    intro i
    simp only [Nat.testBit_or, Nat.testBit_mod_two_pow, Nat.testBit_shiftLeft]
    by_cases h1 : i = k
    · subst h1
      cases hd : d.testBit i <;> simp
    · by_cases h2 : i < k
      · have a1 : i < k + 1 := by omega
        have a2 : ¬ k ≤ i := by omega
        simp [h2, a1, a2]
      · have a1 : ¬ i < k + 1 := by omega
        have a2 : k ≤ i := by omega
        have a3 : (d.testBit k).toNat.testBit (i - k) = false := Nat.testBit_lt_two_pow (Nat.lt_of_lt_of_le (show (d.testBit k).toNat < 2 ^ 1 from by cases d.testBit k <;> decide) (Nat.pow_le_pow_right (by decide) (by omega)))
        simp [h2, a1, a2, a3]
theorem lt_bitLenAux : ∀ f x, x < 2 ^ f → x < 2 ^ Lib.bitLenAux f x
  | 0, x, h => by simpa [Lib.bitLenAux] using h
  | f + 1, x, h => by
    rw [Lib.bitLenAux]
    split
    · subst_vars; simp
    · have h1 := lt_bitLenAux f (x / 2) (by rw [Nat.pow_succ] at h; omega)
      rw [Nat.add_comm, Nat.pow_succ]; omega
theorem df_pw {vs : List Int} (h : ∀ x ∈ vs, I64 x) {i : Nat} (hi : i < vs.length) : df vs i < 2 ^ pw vs := by
  have h1 := hiTo_ge vs vs.length i hi
  have h2 := loTo_le vs vs.length i hi
  have h3 := hiTo_I64 h vs.length
  have h4 := loTo_I64 h vs.length
  have e := pw_is vs
  rw [Int.toNat_natCast] at e
  have h5 : df vs i ≤ (hiTo vs vs.length - loTo vs vs.length).toNat := by rw [df_is, ← lo_is]; omega
  rw [← e]
  refine Nat.lt_of_le_of_lt h5 (lt_bitLenAux 64 _ ?_)
  unfold I64 at h3 h4; omega
theorem pack_val {vs : List Int} (h : ∀ x ∈ vs, I64 x) {i : Nat} (hi : i < vs.length) : wrap64 (lo vs + (dBits ((allBits vs vs.length).map (fun (n : Nat) => (n : Int))) (i * pw vs) (pw vs) : Nat)) = vs.getD i 0 := by
  rw [dBits_is _ _ (df vs i) _ (fun j hj => (tb_all vs vs.length (Nat.le_refl _)).1 i hi j hj), Nat.mod_eq_of_lt (df_pw h hi), df_is]
  have h1 := getD_I64 h i
  have h2 := lo_le hi
  unfold I64 at h1
  unfold wrap64; omega
theorem range_back {vs : List Int} (h : ∀ x ∈ vs, I64 x) : (List.range vs.length).map (fun i => wrap64 (lo vs + (dBits ((allBits vs vs.length).map (fun (n : Nat) => (n : Int))) (i * pw vs) (pw vs) : Nat))) = vs := by
  apply List.ext_getElem?
  intro i
  by_cases hi : i < vs.length
  · rw [List.getElem?_map, List.getElem?_range hi, Option.map_some, pack_val h hi, at_some hi]
  · rw [List.getElem?_eq_none (by simp; omega), List.getElem?_eq_none (by omega)]
theorem packed_back (vs : List Int) (h : ∀ x ∈ vs, I64 x) : rPk vs.length (packB vs) false = (vs, [], false) := by
  by_cases h0 : vs.length = 0
  · obtain rfl : vs = [] := List.eq_nil_of_length_eq_zero h0
    simp [rPk, packB]
  · have e : rNum 10 0 (packB vs) false = (zz (lo vs), [(pw vs : Int)] ++ (allBits vs vs.length).map (fun (n : Nat) => (n : Int)), false) := by
      rw [packB, if_neg h0]; exact num_back _ (zz_lt (lo_I64 h)) _ _
    have hpw := pw_le vs
    rw [rPk, if_neg h0, e]
    simp only [List.singleton_append, List.headD_cons, List.tail_cons, List.isEmpty_cons, Bool.or_false, Int.toNat_natCast, uz_zz]
    rw [if_neg (by
      rintro (h1 | h1 | h1)
      · cases h1
      · omega
      · rw [List.length_map, allBits_len, nb_eq] at h1; exact h1 rfl), range_back h]
end Go.Proofs.Ytebakogdbeeljaa
