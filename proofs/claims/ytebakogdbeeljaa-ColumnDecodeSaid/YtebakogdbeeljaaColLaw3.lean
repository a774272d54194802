/- Which bytes are a column. Plain. -/
import Derived.Test.YtebakogdbeeljaaColLaw2
import Derived.Test.YtebakogdbeeljaaVarLawG
import Derived.Test.YtebakogdbeeljaaRefV
import Derived.Test.YtebakogdbeeljaaRefU
namespace Go.Proofs.Ytebakogdbeeljaa
open Go.RowKit
set_option linter.unusedVariables false
set_option linter.unusedSimpArgs false

theorem w64_I64 (x : Int) : I64 (wrap64 x) := by unfold I64 wrap64; omega
theorem drop_at {vs : List Int} {k : Nat} (h : k < vs.length) : vs.drop k = vs.getD k 0 :: vs.drop (k + 1) := by rw [List.drop_eq_getElem_cons h, getD_lt vs 0 h]
/-- the bytes of what is left of a column from its value k on -/
def tl (kind : Int) (vs : List Int) (k : Nat) : List Int := if kind = 0 then ptB (vs.drop k) else if kind = 1 then ptB ((dls vs).drop k) else runsB (vs.drop k)
theorem drop_more {bs a r : List Int} {p : Nat} (h : bs.drop p = a ++ r) : bs.drop (p + a.length) = r := by
  rw [← List.drop_drop, h]; simp
theorem bodyB_tl {kind : Int} (hk : kind = 0 ∨ kind = 1 ∨ kind = 2) (vs : List Int) : bodyB kind vs = tl kind vs 0 := by
  rcases hk with rfl | rfl | rfl
  · rw [bodyB, if_pos rfl, tl, if_pos rfl, genTo_pl vs _ (Nat.le_refl _), List.take_length, List.drop_zero]
  · rw [bodyB, if_neg (by decide), if_pos rfl, tl, if_neg (by decide), if_pos rfl, genTo_dl vs _ (Nat.le_refl _), genTo_pl (dls vs) _ (by rw [dls_len]; exact Nat.le_refl _), List.drop_zero]
    rw [show vs.length = (dls vs).length from (dls_len vs).symm, List.take_length]
  · rw [bodyB, if_neg (by decide), if_neg (by decide), if_pos rfl, tl, if_neg (by decide), if_neg (by decide), List.drop_zero]
theorem vstep_back {kind : Int} (hk : kind = 0 ∨ kind = 1 ∨ kind = 2) {vs bs out : List Int} {p : Nat} (hi : ∀ x ∈ vs, I64 x) (hl : vs.length ≤ 16384) (ho : out = vs.take out.length) (hlt : out.length < vs.length) (hd : bs.drop p = tl kind vs out.length) :
    ∃ n q, 0 < n ∧ out.length + n ≤ vs.length ∧ vStep kind bs vs.length out p = some (vs.take (out.length + n), q) ∧ bs.drop q = tl kind vs (out.length + n) := by
  obtain ⟨k, hkk⟩ : ∃ k, k = out.length := ⟨_, rfl⟩
  rw [← hkk] at hd hlt ho ⊢
  have hx := getD_I64 hi k
  rcases hk with rfl | rfl | rfl
  · rw [tl, if_pos rfl, drop_at hlt, ptB] at hd
    refine ⟨1, p + (vint (zz (vs.getD k 0))).length, by omega, by omega, ?_, ?_⟩
    · rw [vStep, hd, getv_back _ (zz_lt hx)]
      simp only
      rw [if_neg (by decide), if_neg (by rintro ⟨h, _⟩; exact absurd h (by decide)), uz_zz, take_snoc vs 0 hlt, ← ho]
    · rw [tl, if_pos rfl]; exact drop_more hd
  · have hlt2 : k < (dls vs).length := by rw [dls_len]; exact hlt
    rw [tl, if_neg (by decide), if_pos rfl, drop_at hlt2, dls_at hlt, ptB] at hd
    refine ⟨1, p + (vint (zz (dl vs k))).length, by omega, by omega, ?_, ?_⟩
    · rw [vStep, hd, getv_back _ (zz_lt (dl_I64 hi k))]
      simp only
      rw [if_neg (by decide), uz_zz, take_snoc vs 0 hlt, ← ho]
      by_cases h0 : k = 0
      · rw [if_neg (by omega)]
        subst h0
        simp [dl]
      · rw [if_pos ⟨trivial, by omega⟩]
        have e : wrap64 (out.getD (out.length - 1) 0 + dl vs k) = vs.getD k 0 := by
          have e1 : out.getD (out.length - 1) 0 = vs.getD (k - 1) 0 := by
            rw [← hkk, ho, List.getD_eq_getElem?_getD, List.getElem?_take_of_lt (by omega), ← List.getD_eq_getElem?_getD]
          rw [e1, dl, if_neg h0, IntKind.wrap_i64]
          unfold I64 at hx
          unfold wrap64; omega
        rw [e]
    · rw [tl, if_neg (by decide), if_pos rfl]; exact drop_more hd
  · rw [tl, if_neg (by decide), if_neg (by decide), drop_at hlt, runsB_cons] at hd
    obtain ⟨x, hxe⟩ : ∃ x, x = vs.getD k 0 := ⟨_, rfl⟩
    obtain ⟨l, hle⟩ : ∃ l, l = vs.drop (k + 1) := ⟨_, rfl⟩
    rw [← hxe, ← hle] at hd
    rw [← hxe] at hx
    have hll : l.length = vs.length - (k + 1) := by rw [hle]; simp
    have hr := runLen_le x l
    obtain ⟨n, hn⟩ : ∃ n, n = runLen x l + 1 := ⟨_, rfl⟩
    rw [← hn] at hd
    have hd2 := drop_more hd
    have hd3 := drop_more hd2
    refine ⟨n, p + (vint (zz x)).length + (vint n).length, by omega, by omega, ?_, ?_⟩
    · rw [vStep, hd, getv_back _ (zz_lt hx)]
      simp only
      rw [if_pos trivial, hd2, getv_back n (by omega)]
      simp only
      rw [if_neg (by omega), uz_zz]
      have e : vs.take (k + n) = out ++ List.replicate n x := by
        have e0 : vs.drop k = List.replicate n x ++ l.drop (runLen x l) := by
          rw [drop_at hlt, ← hxe, ← hle, hn, List.replicate_succ, List.cons_append, ← runLen_rep' x l]
        rw [List.take_add, e0, ← ho, List.take_append_of_le_length (by simp), List.take_of_length_le (by simp)]
      rw [e]
    · have hn' : runLen x l = n - 1 := by omega
      rw [tl, if_neg (by decide), if_neg (by decide), hd3, hn', hle, List.drop_drop]
      congr 2; omega
theorem rV_back_gen {kind : Int} (hk : kind = 0 ∨ kind = 1 ∨ kind = 2) {vs bs : List Int} (hi : ∀ x ∈ vs, I64 x) (hl : vs.length ≤ 16384) : ∀ (f : Nat) (out : List Int) (p : Nat), vs.length - out.length ≤ f → out.length ≤ vs.length → out = vs.take out.length → bs.drop p = tl kind vs out.length → rV kind bs vs.length f out p = some vs
  | 0, out, p, hf, hol, ho, hd => by
    rw [rV, ho, List.take_of_length_le (by omega)]
  | f + 1, out, p, hf, hol, ho, hd => by
    by_cases hlt : out.length < vs.length
    · obtain ⟨n, q, hn, hnl, hs, hd2⟩ := vstep_back hk hi hl ho hlt hd
      have e : (vs.take (out.length + n)).length = out.length + n := by simp; omega
      rw [rV_some hf hlt hs]
      exact rV_back_gen hk hi hl f _ q (by rw [e]; omega) (by rw [e]; exact hnl) (by rw [e]) (by rw [e]; exact hd2)
    · rw [rV_end (by omega), ho, List.take_of_length_le (by omega)]
theorem rV_back {kind : Int} (hk : kind = 0 ∨ kind = 1 ∨ kind = 2) {vs bs : List Int} {p : Nat} (hi : ∀ x ∈ vs, I64 x) (hl : vs.length ≤ 16384) (hd : bs.drop p = bodyB kind vs) : rV kind bs vs.length vs.length [] p = some vs :=
  rV_back_gen hk hi hl _ [] p (by simp) (by simp) (by simp) (by rw [hd, bodyB_tl hk]; rfl)
theorem vstep_ok {kind : Int} {bs : List Int} {count : Nat} {out : List Int} {p : Nat} {r : List Int × Nat} (ho : ∀ x ∈ out, I64 x) (hl : out.length < count) (h : vStep kind bs count out p = some r) : (∀ x ∈ r.1, I64 x) ∧ r.1.length ≤ count := by
  rw [vStep] at h
  split at h
  · cases h
  · rename_i z c hz
    have hzl := uz_I64 (gNum_lt _ _ _ _ (by omega) hz)
    split at h
    · split at h
      · cases h
      · rename_i n c2 hn
        split at h
        · cases h
        · injection h with h
          subst h
          refine ⟨fun x hx => ?_, by simp; omega⟩
          rcases List.mem_append.1 hx with h1 | h1
          · exact ho x h1
          · rw [List.eq_of_mem_replicate h1]; exact hzl
    · split at h
      · injection h with h
        subst h
        exact ⟨mem_snoc ho (w64_I64 _), by simp; omega⟩
      · injection h with h
        subst h
        exact ⟨mem_snoc ho hzl, by simp; omega⟩
theorem rV_ok {kind : Int} {bs : List Int} {count : Nat} : ∀ (f : Nat) (out : List Int) (p : Nat) (r : List Int), (∀ x ∈ out, I64 x) → out.length ≤ count → rV kind bs count f out p = some r → (∀ x ∈ r, I64 x) ∧ r.length ≤ count
  | 0, out, p, r, ho, hl, h => by rw [rV] at h; injection h with h; subst h; exact ⟨ho, hl⟩
  | f + 1, out, p, r, ho, hl, h => by
    rw [rV] at h
    split at h
    · rename_i hlt
      split at h
      · cases h
      · rename_i r2 hs
        have h2 := vstep_ok ho hlt hs
        exact rV_ok f r2.1 r2.2 r h2.1 h2.2 h
    · injection h with h; subst h; exact ⟨ho, hl⟩
theorem rU_back {vs bs : List Int} {p : Nat} (hi : ∀ x ∈ vs, I64 x) (hl : vs.length ≤ 16384) (hd : bs.drop p = packB vs) : rU bs p vs.length = some vs := by
  by_cases h0 : vs.length = 0
  · obtain rfl : vs = [] := List.eq_nil_of_length_eq_zero h0
    simp [rU]
  · rw [packB, if_neg h0] at hd
    have hd2 := drop_more hd
    have hd3 : bs.drop (p + (vint (zz (lo vs))).length + 1) = (allBits vs vs.length).map (fun (n : Nat) => (n : Int)) := drop_more hd2
    have hb : bs.getD (p + (vint (zz (lo vs))).length) 0 = (pw vs : Int) := by
      have e := congrArg (fun l => l.getD 0 0) hd2
      simpa [List.getD_eq_getElem?_getD] using e
    have hln := congrArg List.length hd2
    have hln3 := congrArg List.length hd3
    simp only [List.length_drop, List.length_append, List.length_map, allBits_len, List.length_singleton] at hln hln3
    have hpw := pw_le vs
    have hnb := nb_ge vs
    rw [rU, if_neg h0, hd, getv_back _ (zz_lt (lo_I64 hi))]
    simp only
    rw [hb, hd3, if_neg (by omega), hln3, Int.toNat_natCast, if_neg (by omega), uz_zz, range_back hi]
theorem rU_ok {bs : List Int} {p count : Nat} {r : List Int} (h : rU bs p count = some r) : (∀ x ∈ r, I64 x) ∧ r.length ≤ count := by
  rw [rU] at h
  split at h
  · injection h with h; subst h; simp
  · split at h
    · cases h
    · split at h
      · cases h
      · split at h
        · cases h
        · injection h with h
          subst h
          refine ⟨fun x hx => ?_, by simp⟩
          simp only [List.mem_map] at hx
          obtain ⟨i, _, rfl⟩ := hx
          exact w64_I64 _
theorem rPl_ok : ∀ (n : Nat) (bs : List Int) (bad : Bool), ∀ x ∈ (rPl n bs bad).1, I64 x
  | 0, bs, bad, x, h => by simp [rPl] at h
  | n + 1, bs, bad, x, h => by
    rw [rPl] at h
    split at h
    · simp at h
    · simp only [List.mem_cons] at h
      rcases h with rfl | h
      · exact uz_I64 (rNum_lt _ _ _ _ (by omega))
      · exact rPl_ok n _ _ x h
theorem acS_ok : ∀ (l : List Int) (a : Int), ∀ x ∈ acS l a, I64 x
  | [], a, x, h => by simp [acS] at h
  | y :: l, a, x, h => by
    simp only [acS, List.mem_cons] at h
    rcases h with rfl | h
    · exact w64_I64 _
    · exact acS_ok l _ x h
theorem psum_ok {l : List Int} (h : ∀ x ∈ l, I64 x) : ∀ x ∈ psum l, I64 x := by
  cases l with
  | nil => simp [psum]
  | cons y l =>
    intro x hx
    simp only [psum, List.mem_cons] at hx
    rcases hx with rfl | hx
    · exact h _ (List.mem_cons_self ..)
    · exact acS_ok l _ x hx
theorem rRn_ok : ∀ (f m : Nat) (bs : List Int) (bad : Bool), (∀ x ∈ (rRn f m bs bad).1, I64 x) ∧ (rRn f m bs bad).1.length ≤ m
  | 0, m, bs, bad => by simp [rRn]
  | f + 1, m, bs, bad => by
    rw [rRn]
    split
    · simp
    · generalize hz : rSize m (rNum 10 0 bs bad).2.1 (rNum 10 0 bs bad).2.2 = z
      have hzl := rSize_le m (rNum 10 0 bs bad).2.1 (rNum 10 0 bs bad).2.2
      rw [hz] at hzl
      have ih := rRn_ok f (m - z.1) z.2.1 (z.2.2 || z.1 == 0)
      refine ⟨fun x hx => ?_, by simp only [List.length_append, List.length_replicate]; omega⟩
      rcases List.mem_append.1 hx with h1 | h1
      · rw [List.eq_of_mem_replicate h1]; exact uz_I64 (rNum_lt _ _ _ _ (by omega))
      · exact ih.1 x h1
theorem rPk_ok (n : Nat) (bs : List Int) (bad : Bool) : (∀ x ∈ (rPk n bs bad).1, I64 x) ∧ (rPk n bs bad).1.length ≤ n := by
  unfold rPk
  split
  · simp
  · simp only
    split
    · simp
    · refine ⟨fun x hx => ?_, by simp⟩
      simp only [List.mem_map] at hx
      obtain ⟨i, _, rfl⟩ := hx
      exact w64_I64 _
/-- what the decoder of a kind takes out -/
def rK (kind : Int) (n : Nat) (bs : List Int) (bad : Bool) : List Int × List Int × Bool :=
  if kind = 0 then rPl n bs bad else if kind = 1 then rDl n bs bad else if kind = 2 then rRn (n + 1) n bs bad else rPk n bs bad
theorem rK_ok (kind : Int) (n : Nat) (bs : List Int) (bad : Bool) : (∀ x ∈ (rK kind n bs bad).1, I64 x) ∧ (rK kind n bs bad).1.length ≤ n := by
  unfold rK
  split
  · exact ⟨rPl_ok n bs bad, rPl_len n bs bad⟩
  · split
    · exact ⟨psum_ok (rPl_ok n bs bad), by rw [rDl]; simp only [psum_len]; exact rPl_len n bs bad⟩
    · split
      · exact rRn_ok _ _ _ _
      · exact rPk_ok _ _ _
theorem rK_back {kind : Int} (hk : 0 ≤ kind ∧ kind < 4) {vs : List Int} (hi : ∀ x ∈ vs, I64 x) (hl : vs.length ≤ 16384) : rK kind vs.length (bodyB kind vs) false = (vs, [], false) := by
  unfold rK bodyB
  split
  · have := plain_back vs [] hi; rwa [List.append_nil] at this
  · split
    · have := delta_back vs [] hi; rwa [List.append_nil] at this
    · split
      · have := runs_back vs [] hi hl; rwa [List.append_nil] at this
      · exact packed_back vs hi
/-- the bytes are the column v -/
def IsCol (bs v : List Int) : Prop := (kindOf bs).2 = true ∧ v.length ≤ 16384 ∧ (∀ x ∈ v, I64 x) ∧ bs = colB (kindOf bs).1 v
theorem kindOf_ok {bs : List Int} (hb : ∀ x ∈ bs, 0 ≤ x ∧ x ≤ 255) (h : (kindOf bs).2 = true) : ∃ k l, bs = k :: l ∧ (kindOf bs).1 = k ∧ 0 ≤ k ∧ k < 4 := by
  cases bs with
  | nil => simp [kindOf] at h
  | cons x l =>
    have := hb x (List.mem_cons_self ..)
    rw [kindOf] at h ⊢
    split at h
    · rename_i h4
      exact ⟨x, l, rfl, by rw [if_pos h4], this.1, h4⟩
    · simp at h
theorem colErr_ok {k : Int} {v : List Int} (hk : 0 ≤ k ∧ k < 4) (hl : v.length ≤ 16384) : colErr k v = 0 := by unfold colErr; rw [if_neg (by omega), if_neg (by omega)]
theorem isCol_read {k : Int} {l v : List Int} (hk : 0 ≤ k ∧ k < 4) (h : IsCol (k :: l) v) : rSize 16384 l false = (v.length, bodyB k v, false) ∧ rK k v.length (bodyB k v) false = (v, [], false) := by
  obtain ⟨h1, h2, h3, h4⟩ := h
  have e : (kindOf (k :: l)).1 = k := by rw [kindOf, if_pos hk.2]
  rw [e, colB_ok (colErr_ok hk h2)] at h4
  have e2 : l = vint v.length ++ bodyB k v := by simpa using h4
  exact ⟨by rw [e2]; exact size_back 16384 _ h2 (by omega) _, rK_back hk h3 h2⟩
theorem isCol_uniq {bs v v' : List Int} (hb : ∀ x ∈ bs, 0 ≤ x ∧ x ≤ 255) (h : IsCol bs v) (h' : IsCol bs v') : v = v' := by
  obtain ⟨k, l, rfl, _, hk⟩ := kindOf_ok hb h.1
  have a := isCol_read hk h
  have b := isCol_read hk h'
  rw [a.1] at b
  have hl : v.length = v'.length ∧ bodyB k v = bodyB k v' := by
    have := b.1; injection this with e1 e2; injection e2 with e2 e3; exact ⟨e1, e2⟩
  have := a.2
  rw [hl.1, hl.2, b.2] at this
  injection this with e; exact e.symm
theorem isCol_ref {k : Int} {l v : List Int} (hk : 0 ≤ k ∧ k < 4) (h : IsCol (k :: l) v) : gNum ((k :: l).drop 1) 0 0 = some (v.length, (vint v.length).length) ∧ (k :: l).drop (1 + (vint v.length).length) = bodyB k v := by
  obtain ⟨h1, h2, h3, h4⟩ := h
  have e : (kindOf (k :: l)).1 = k := by rw [kindOf, if_pos hk.2]
  rw [e, colB_ok (colErr_ok hk h2)] at h4
  have e2 : l = vint v.length ++ bodyB k v := by simpa using h4
  have hd : (k :: l).drop 1 = vint v.length ++ bodyB k v := by simpa using e2
  exact ⟨by rw [hd]; exact getv_back _ (by omega) _, drop_more hd⟩
def rdcR (k : Int) (bs : List Int) (p n : Nat) : Option (List Int) := if k = 3 then rU bs p n else rV k bs n n [] p
theorem rdcR_back {k : Int} (hk : 0 ≤ k ∧ k < 4) {bs v : List Int} {p : Nat} (hi : ∀ x ∈ v, I64 x) (hl : v.length ≤ 16384) (hd : bs.drop p = bodyB k v) : rdcR k bs p v.length = some v := by
  unfold rdcR
  split
  · subst_vars
    exact rU_back hi hl (by rw [hd, bodyB, if_neg (by decide), if_neg (by decide), if_neg (by decide)])
  · exact rV_back (by omega) hi hl hd
theorem rdcR_ok {k : Int} {bs : List Int} {p n : Nat} {r : List Int} (h : rdcR k bs p n = some r) : (∀ x ∈ r, I64 x) ∧ r.length ≤ n := by
  unfold rdcR at h
  split at h
  · exact rU_ok h
  · exact rV_ok n [] p r (by simp) (by simp) h
/-- what both Decodes say -/
def DecPost (w : World) (bs : List Int) (e : Ending) (w' : World) : Prop :=
  w.grownBy w' none ∧ ((∃ v row, IsCol bs v ∧ e = .returned (.tuple #[row, .int .i64 0]) ∧ w'.ownsRow w.heap.size 3 1 row v.length (v.map (.int .i64))) ∨ ((∀ v, ¬ IsCol bs v) ∧ e = .returned (.tuple #[.slice none 0 0, .int .i64 22])))
end Go.Proofs.Ytebakogdbeeljaa
