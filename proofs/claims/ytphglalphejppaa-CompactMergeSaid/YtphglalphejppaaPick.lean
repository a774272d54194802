/- The plain law of merging: the first event of each place, in ascending order. No condition. -/
import Derived.Test.YtphglalphejppaaHeapP
namespace Go.Proofs.Ytphglalphejppaa
open Go.RowKit
set_option linter.unusedVariables false
set_option linter.unusedSimpArgs false

/-- two events are the same in the order -/
def Keq (a b : Ev) : Prop := a.less b = false ∧ b.less a = false
theorem Keq.refl (a : Ev) : Keq a a := by
  have : a.less a = false := by rw [less_iff_f]; omega
  exact ⟨this, this⟩
theorem Keq.symm {a b : Ev} (h : Keq a b) : Keq b a := ⟨h.2, h.1⟩
theorem nless_trans {a b c : Ev} (h : b.less a = false) (k : c.less b = false) : c.less a = false := by
  rw [less_iff_f] at *; omega
theorem Keq.trans {a b c : Ev} (h : Keq a b) (k : Keq b c) : Keq a c := ⟨nless_trans k.1 h.1, nless_trans h.2 k.2⟩
theorem less_asymm {a b : Ev} (h : a.less b = true) : b.less a = false := by
  rw [less_iff_f]; rw [less_iff] at h; omega
theorem less_of_le_lt {a b c : Ev} (h : b.less a = false) (k : b.less c = true) : a.less c = true := by
  rw [less_iff_f] at h; rw [less_iff] at *; omega
theorem less_of_lt_le {a b c : Ev} (h : a.less b = true) (k : c.less b = false) : a.less c = true := by
  rw [less_iff_f] at k; rw [less_iff] at *; omega
/-- the first of its place -/
def Pick (L : List Ev) (e : Ev) : Prop := ∃ A B, L = A ++ e :: B ∧ ∀ x ∈ A, ¬ Keq x e
theorem Pick.mem {L : List Ev} {e : Ev} (h : Pick L e) : e ∈ L := by
  obtain ⟨A, B, rfl, _⟩ := h; simp
theorem pick_cons {x e : Ev} {L : List Ev} : Pick (x :: L) e ↔ e = x ∨ (¬ Keq x e ∧ Pick L e) := by
  constructor
  · rintro ⟨A, B, h, hA⟩
    cases A with
    | nil => simp at h; exact .inl h.1.symm
    | cons a A =>
      simp at h
      obtain ⟨rfl, rfl⟩ := h
      exact .inr ⟨hA x (by simp), A, B, rfl, fun y hy => hA y (by simp [hy])⟩
  · rintro (rfl | ⟨h, A, B, rfl, hA⟩)
    · exact ⟨[], L, rfl, by simp⟩
    · refine ⟨x :: A, B, rfl, fun y hy => ?_⟩
      rcases List.mem_cons.1 hy with rfl | hy
      · exact h
      · exact hA y hy
theorem pick_nil {e : Ev} : ¬ Pick [] e := by rintro ⟨A, B, h, _⟩; simp at h
theorem pick_uniq {L : List Ev} {a b : Ev} (h : Pick L a) (k : Pick L b) (he : Keq a b) : a = b := by
  induction L with
  | nil => exact absurd h pick_nil
  | cons x L ih =>
    rcases pick_cons.1 h with rfl | ⟨h1, h2⟩
    · rcases pick_cons.1 k with rfl | ⟨k1, k2⟩
      · rfl
      · exact absurd he k1
    · rcases pick_cons.1 k with rfl | ⟨k1, k2⟩
      · exact absurd he.symm h1
      · exact ih h2 k2
theorem pick_ex {L : List Ev} {x : Ev} (h : x ∈ L) : ∃ y, Pick L y ∧ Keq x y := by
  induction L with
  | nil => cases h
  | cons z L ih =>
    by_cases hz : Keq z x
    · exact ⟨z, pick_cons.2 (.inl rfl), hz.symm⟩
    · rcases List.mem_cons.1 h with rfl | h
      · exact absurd (Keq.refl _) hz
      · obtain ⟨y, h1, h2⟩ := ih h
        exact ⟨y, pick_cons.2 (.inr ⟨fun k => hz (k.trans h2.symm), h1⟩), h2⟩
theorem pick_append {A B : List Ev} {e : Ev} : Pick (A ++ B) e ↔ Pick A e ∨ (Pick B e ∧ ∀ x ∈ A, ¬ Keq x e) := by
  induction A with
  | nil => simp [pick_nil]
  | cons x A ih =>
    rw [List.cons_append, pick_cons, pick_cons, ih]
    constructor
    · rintro (h | ⟨h1, h2 | ⟨h2, h3⟩⟩)
      · exact .inl (.inl h)
      · exact .inl (.inr ⟨h1, h2⟩)
      · refine .inr ⟨h2, fun y hy => ?_⟩
        rcases List.mem_cons.1 hy with rfl | hy
        · exact h1
        · exact h3 y hy
    · rintro ((h | ⟨h1, h2⟩) | ⟨h2, h3⟩)
      · exact .inl h
      · exact .inr ⟨h1, .inl h2⟩
      · exact .inr ⟨h3 x (by simp), .inr ⟨h2, fun y hy => h3 y (by simp [hy])⟩⟩
def IsMerge (L out : List Ev) : Prop := Srt out ∧ ∀ e, e ∈ out ↔ Pick L e
theorem srt_uniq : ∀ {a b : List Ev}, Srt a → Srt b → (∀ e, e ∈ a ↔ e ∈ b) → a = b
  | [], [], _, _, _ => rfl
  | [], y :: b, _, _, h => by have := (h y).2 (by simp); simp at this
  | x :: a, [], _, _, h => by have := (h x).1 (by simp); simp at this
  | x :: a, y :: b, ha, hb, h => by
    obtain ⟨a1, a2⟩ := List.pairwise_cons.1 ha
    obtain ⟨b1, b2⟩ := List.pairwise_cons.1 hb
    have hxy : x = y := by
      rcases List.mem_cons.1 ((h x).1 (by simp)) with e | e
      · exact e
      · rcases List.mem_cons.1 ((h y).2 (by simp)) with e2 | e2
        · exact e2.symm
        · have h1 := a1 y e2
          have h2 := b1 x e
          rw [less_asymm h1] at h2; cases h2
    subst hxy
    have hirr : x.less x = false := (Keq.refl x).1
    rw [srt_uniq a2 b2 (fun e => ⟨fun he => by
      rcases List.mem_cons.1 ((h e).1 (by simp [he])) with r | r
      · subst r; rw [a1 e he] at hirr; cases hirr
      · exact r, fun he => by
      rcases List.mem_cons.1 ((h e).2 (by simp [he])) with r | r
      · subst r; rw [b1 e he] at hirr; cases hirr
      · exact r⟩)]
theorem merge_uniq {L a b : List Ev} (ha : IsMerge L a) (hb : IsMerge L b) : a = b :=
  srt_uniq ha.1 hb.1 fun e => (ha.2 e).trans (hb.2 e).symm
theorem srt_keq {l : List Ev} (h : Srt l) {a b : Ev} (ha : a ∈ l) (hb : b ∈ l) (hk : Keq a b) : a = b := by
  induction l with
  | nil => cases ha
  | cons x l ih =>
    obtain ⟨h1, h2⟩ := List.pairwise_cons.1 h
    rcases List.mem_cons.1 ha with ea | ha'
    · rcases List.mem_cons.1 hb with eb | hb'
      · rw [ea, eb]
      · have := h1 b hb'; rw [← ea, hk.1] at this; cases this
    · rcases List.mem_cons.1 hb with eb | hb'
      · have := h1 a ha'; rw [← eb, hk.2] at this; cases this
      · exact ih h2 ha' hb'
/-- the parts of an ascending list, merged, are the list -/
theorem merge_parts {L l : List Ev} (hl : Srt l) (h1 : ∀ e ∈ L, e ∈ l) (h2 : ∀ e ∈ l, e ∈ L) : IsMerge L l := by
  refine ⟨hl, fun e => ⟨fun he => ?_, fun he => h1 e he.mem⟩⟩
  obtain ⟨y, hy, hk⟩ := pick_ex (h2 e he)
  rw [srt_keq hl he (h1 y hy.mem) hk]; exact hy
theorem merge_append {L a b out : List Ev} (ha : IsMerge L a) (h : IsMerge (a ++ b) out) : IsMerge (L ++ b) out := by
  refine ⟨h.1, fun e => ?_⟩
  rw [h.2 e, pick_append, pick_append]
  have ea : Pick a e ↔ Pick L e := by
    rw [← ha.2 e]
    constructor
    · exact Pick.mem
    · intro he
      obtain ⟨y, hy, hk⟩ := pick_ex he
      rw [srt_keq ha.1 he hy.mem hk]; exact hy
  have eb : (∀ x ∈ a, ¬ Keq x e) ↔ ∀ x ∈ L, ¬ Keq x e := by
    constructor
    · intro h x hx hk
      obtain ⟨y, hy, hxy⟩ := pick_ex hx
      exact h y ((ha.2 y).2 hy) (hxy.symm.trans hk)
    · intro h x hx; exact h x ((ha.2 x).1 hx).mem
  rw [ea, eb]
/-- lists in order, perhaps with equal places -/
def Asc (l : List Ev) : Prop := l.Pairwise fun a b => b.less a = false
theorem Srt.asc {l : List Ev} (h : Srt l) : Asc l := List.Pairwise.imp (fun h => less_asymm h) h

/-- the state of a merge: the sources that remain, and what is out -/
structure MInv (lists : List (List Ev)) (ss : List Src) (out : List Ev) : Prop where
  dist : ss.Pairwise fun s t => s.idx ≠ t.idx
  full : Full ss
  src : ∀ s ∈ ss, ∃ (i : Nat) (pre : List Ev), s.idx = i ∧ lists[i]? = some (pre ++ s.rest) ∧ ∀ x ∈ pre, ∃ y ∈ out, Keq x y
  has : ∀ (i : Nat) l, lists[i]? = some l → (∃ s ∈ ss, s.idx = i) ∨ ∀ x ∈ l, ∃ y ∈ out, Keq x y
  srt : Srt out
  pick : ∀ y ∈ out, Pick lists.flatten y
  le : ∀ s ∈ ss, ∀ x ∈ s.rest, ∀ y ∈ out, x.less y = false
theorem MInv.perm {lists : List (List Ev)} {ss ss' : List Src} {out : List Ev} (h : MInv lists ss out) (hp : ss'.Perm ss) : MInv lists ss' out where
  dist := (hp.pairwise_iff (fun {a b} h e => h e.symm)).2 h.dist
  full := h.full.perm hp
  src := fun s hs => h.src s (hp.mem_iff.1 hs)
  has := fun i l hl => (h.has i l hl).imp (fun ⟨s, hs, he⟩ => ⟨s, hp.mem_iff.2 hs, he⟩) id
  srt := h.srt
  pick := h.pick
  le := fun s hs => h.le s (hp.mem_iff.1 hs)
/-- nothing remains -/
theorem MInv.done {lists : List (List Ev)} {out : List Ev} (h : MInv lists [] out) : IsMerge lists.flatten out := by
  refine ⟨h.srt, fun e => ⟨h.pick e, fun he => ?_⟩⟩
  obtain ⟨l, hl, hel⟩ := List.mem_flatten.1 he.mem
  obtain ⟨i, hi⟩ := List.getElem?_of_mem hl
  rcases h.has i l hi with ⟨s, hs, _⟩ | h2
  · cases hs
  · obtain ⟨y, hy, hk⟩ := h2 e hel
    rw [pick_uniq he (h.pick y hy) hk]; exact hy
def addO (out : List Ev) (e : Ev) : List Ev := match out.getLast? with
  | none => out ++ [e]
  | some z => if z.less e = true then out ++ [e] else out
theorem addO_yes {out : List Ev} {e : Ev} (h : ∀ z, out.getLast? = some z → z.less e = true) : addO out e = out ++ [e] := by
  unfold addO
  split
  · rfl
  · rename_i z hz; rw [if_pos (h z hz)]
theorem addO_no {out : List Ev} {e z : Ev} (hz : out.getLast? = some z) (h : z.less e = false) : addO out e = out := by
  unfold addO
  rw [hz]; simp [h]
theorem srt_last {out : List Ev} (h : Srt out) {z : Ev} (hz : out.getLast? = some z) : ∀ y ∈ out, y = z ∨ y.less z = true := by
  intro y hy
  obtain ⟨ys, rfl⟩ := List.getLast?_eq_some_iff.1 hz
  rcases List.mem_append.1 hy with hy | hy
  · exact .inr ((List.pairwise_append.1 h).2.2 y hy z (by simp))
  · exact .inl (by simpa using hy)
/-- one step: the least source gives its first event -/
theorem MInv.step {lists : List (List Ev)} {s0 : Src} {tl : List Src} {out : List Ev} (h : MInv lists (s0 :: tl) out) (ha : ∀ l ∈ lists, Asc l) (hmin : ∀ s ∈ tl, qlt s s0 = false) {e : Ev} {r : List Ev} (hr : s0.rest = e :: r)
    (nx : List Src) (hnx : (r = [] ∧ nx = []) ∨ (r ≠ [] ∧ ∃ s1 : Src, nx = [s1] ∧ s1.rest = r ∧ s1.idx = s0.idx)) : MInv lists (nx ++ tl) (addO out e) := by
  obtain ⟨d1, d2⟩ := List.pairwise_cons.1 h.dist
  obtain ⟨i, pre, hi, hl, hpre⟩ := h.src s0 (by simp)
  rw [hr] at hl
  have hasc := ha _ (List.mem_of_getElem? hl)
  have he0 : ∀ y ∈ out, e.less y = false := fun y hy => h.le s0 (by simp) e (by rw [hr]; simp) y hy
  have hmem : ∀ s ∈ nx ++ tl, s ∈ tl ∨ (r ≠ [] ∧ s.rest = r ∧ s.idx = s0.idx) := by
    intro s hs
    rcases List.mem_append.1 hs with hs | hs
    · rcases hnx with ⟨_, e1⟩ | ⟨h0, s1, e1, e2, e3⟩
      · rw [e1] at hs; cases hs
      · rw [e1] at hs; rw [List.mem_singleton.1 hs]; exact .inr ⟨h0, e2, e3⟩
    · exact .inl hs
  -- heads are not less than e
  have hheads : ∀ s ∈ nx ++ tl, ∀ x ∈ s.rest, x.less e = false := by
    intro s hs x hx
    rcases hmem s hs with hs | ⟨_, e1, _⟩
    · obtain ⟨a, l, es⟩ := List.exists_cons_of_ne_nil (h.full s (by simp [hs]))
      have hq := hmin s hs
      rw [qlt_cons es hr] at hq
      simp at hq
      obtain ⟨i', pre', hi', hl', _⟩ := h.src s (by simp [hs])
      have hasc' := ha _ (List.mem_of_getElem? hl')
      have h2 := (List.pairwise_append.1 hasc').2.1
      rw [es] at h2 hx
      rcases List.mem_cons.1 hx with rfl | hx
      · exact hq.1
      · exact nless_trans hq.1 ((List.pairwise_cons.1 h2).1 x hx)
    · rw [e1] at hx
      have h2 := (List.pairwise_append.1 hasc).2.1
      exact (List.pairwise_cons.1 h2).1 x hx
  have hsub : ∀ y, y ∈ out → y ∈ addO out e := by
    intro y hy
    unfold addO
    split
    · simp [hy]
    · split
      · simp [hy]
      · exact hy
  have hcov : ∃ y ∈ addO out e, Keq e y := by
    cases hz : out.getLast? with
    | none => exact ⟨e, by rw [addO_yes (fun z hz' => by rw [hz] at hz'; cases hz')]; simp, Keq.refl e⟩
    | some z =>
      cases hzl : z.less e with
      | true => exact ⟨e, by rw [addO_yes (fun z' hz' => by rw [hz] at hz'; injection hz' with h; rw [← h]; exact hzl)]; simp, Keq.refl e⟩
      | false =>
        have hzm : z ∈ out := List.mem_of_getLast? hz
        exact ⟨z, by rw [addO_no hz hzl]; exact hzm, he0 z hzm, hzl⟩
  have hout : ∀ y ∈ addO out e, y ∈ out ∨ (y = e ∧ ∀ z ∈ out, z.less e = true) := by
    intro y hy
    unfold addO at hy
    split at hy
    · rename_i hz
      rw [List.getLast?_eq_none_iff] at hz
      subst hz
      simp at hy
      exact .inr ⟨hy, by simp⟩
    · rename_i z hz
      split at hy
      · rename_i hzl
        rcases List.mem_append.1 hy with hy | hy
        · exact .inl hy
        · refine .inr ⟨by simpa using hy, fun u hu => ?_⟩
          rcases srt_last h.srt hz u hu with rfl | h3
          · exact hzl
          · exact less_trans h3 hzl
      · exact .inl hy
  refine ⟨?_, ?_, ?_, ?_, ?_, ?_, ?_⟩
  · rcases hnx with ⟨_, rfl⟩ | ⟨_, s1, rfl, _, e3⟩
    · exact d2
    · exact List.pairwise_cons.2 ⟨fun t ht => by rw [e3]; exact d1 t ht, d2⟩
  · intro s hs
    rcases hmem s hs with hs | ⟨h0, e1, _⟩
    · exact h.full s (by simp [hs])
    · rw [e1]; exact h0
  · intro s hs
    rcases hmem s hs with hs | ⟨h0, e1, e2⟩
    · obtain ⟨i', pre', q1, q2, q3⟩ := h.src s (by simp [hs])
      exact ⟨i', pre', q1, q2, fun x hx => by obtain ⟨y, hy, hk⟩ := q3 x hx; exact ⟨y, hsub y hy, hk⟩⟩
    · refine ⟨i, pre ++ [e], by rw [e2]; exact hi, by rw [e1, hl]; simp, fun x hx => ?_⟩
      rcases List.mem_append.1 hx with hx | hx
      · obtain ⟨y, hy, hk⟩ := hpre x hx; exact ⟨y, hsub y hy, hk⟩
      · rw [List.mem_singleton.1 hx]; exact hcov
  · intro i' l' hl'
    rcases h.has i' l' hl' with ⟨s, hs, he⟩ | h2
    · rcases List.mem_cons.1 hs with rfl | hs
      · rcases hnx with ⟨e1, e2⟩ | ⟨e1, s1, e2, e3, e4⟩
        · right
          have : i' = i := by rw [hi] at he; exact_mod_cast he.symm
          subst this
          rw [hl] at hl'
          injection hl' with hl'
          subst hl'
          subst e1
          intro x hx
          rcases List.mem_append.1 hx with hx | hx
          · obtain ⟨y, hy, hk⟩ := hpre x hx; exact ⟨y, hsub y hy, hk⟩
          · rw [List.mem_singleton.1 hx]; exact hcov
        · exact .inl ⟨s1, by rw [e2]; simp, by rw [e4]; exact he⟩
      · exact .inl ⟨s, by simp [hs], he⟩
    · exact .inr fun x hx => by obtain ⟨y, hy, hk⟩ := h2 x hx; exact ⟨y, hsub y hy, hk⟩
  · unfold addO
    split
    · rename_i hz
      rw [List.getLast?_eq_none_iff] at hz
      subst hz
      exact List.pairwise_singleton _ _
    · rename_i z hz
      split
      · rename_i hzl
        refine List.pairwise_append.2 ⟨h.srt, List.pairwise_singleton _ _, fun a ha b hb => ?_⟩
        rw [List.mem_singleton.1 hb]
        rcases srt_last h.srt hz a ha with rfl | h3
        · exact hzl
        · exact less_trans h3 hzl
      · exact h.srt
  · intro y hy
    rcases hout y hy with hy | ⟨rfl, hlt⟩
    · exact h.pick y hy
    · have hil : i < lists.length := (List.getElem?_eq_some_iff.1 hl).1
      have hfl : lists.flatten = ((lists.take i).flatten ++ pre) ++ y :: (r ++ (lists.drop (i + 1)).flatten) := by
        have e1 : lists = lists.take i ++ (pre ++ y :: r) :: lists.drop (i + 1) := by
          obtain ⟨hlt0, e⟩ := List.getElem?_eq_some_iff.1 hl
          rw [← e, ← List.drop_eq_getElem_cons hlt0, List.take_append_drop]
        conv => lhs; rw [e1]
        simp
      refine ⟨_, _, hfl, fun x hx hk => ?_⟩
      have hno : ¬ ∃ z ∈ out, Keq x z := by
        rintro ⟨z, hz, hxz⟩
        have h1 := hlt z hz
        have h2 := (hxz.symm.trans hk).1
        rw [h1] at h2; cases h2
      rcases List.mem_append.1 hx with hx | hx
      · obtain ⟨l', hl', hxl⟩ := List.mem_flatten.1 hx
        obtain ⟨i', hi'⟩ := List.getElem?_of_mem hl'
        rw [List.getElem?_take] at hi'
        split at hi'
        · rename_i hlt'
          rcases h.has i' l' hi' with ⟨s, hs, hsi⟩ | h2
          · rcases List.mem_cons.1 hs with rfl | hs
            · rw [hi] at hsi; have : i = i' := by exact_mod_cast hsi
              omega
            · obtain ⟨i2, pre2, q1, q2, q3⟩ := h.src s (by simp [hs])
              have : i2 = i' := by rw [q1] at hsi; exact_mod_cast hsi
              subst this
              rw [q2] at hi'
              injection hi' with hi'
              subst hi'
              rcases List.mem_append.1 hxl with hxl | hxl
              · exact hno (q3 x hxl)
              · obtain ⟨a, l, es⟩ := List.exists_cons_of_ne_nil (h.full s (by simp [hs]))
                have hq := hmin s hs
                rw [qlt_cons es hr] at hq
                simp at hq
                have hya : y.less a = true := by
                  cases hya : y.less a with
                  | true => rfl
                  | false => have := hq.2 hya; rw [q1, hi] at this; omega
                have h2 := (List.pairwise_append.1 (ha _ (List.mem_of_getElem? q2))).2.1
                rw [es] at h2 hxl
                have hyx : y.less x = true := by
                  rcases List.mem_cons.1 hxl with rfl | hxl
                  · exact hya
                  · exact less_of_lt_le hya ((List.pairwise_cons.1 h2).1 x hxl)
                rw [hk.2] at hyx; cases hyx
          · exact hno (h2 x hxl)
        · cases hi'
      · exact hno (hpre x hx)
  · intro s hs x hx y hy
    rcases hout y hy with hy | ⟨rfl, _⟩
    · rcases hmem s hs with hs | ⟨_, e1, _⟩
      · exact h.le s (by simp [hs]) x hx y hy
      · exact h.le s0 (by simp) x (by rw [hr, ← e1]; simp [hx]) y hy
    · exact hheads s hs x hx
end Go.Proofs.Ytphglalphejppaa
