/- Tallies as plain data: merging is associative. No condition. -/
import Derived.Test.YtiogpomgpknjlaaStr
namespace Go.Proofs.Ytiogpomgpknjlaa
open Go.RowKit
set_option linter.unusedVariables false
set_option linter.unusedSimpArgs false

structure Tal where
  host : Int
  rule : ByteArray
  lines : Int
def Tal.cells (t : Tal) : List Value := [.int .i64 t.host, .string t.rule, .int .i64 t.lines]
theorem Tal.cells_len (t : Tal) : t.cells.length = 3 := rfl
theorem Tal.one (t : Tal) : ∀ u ∈ t.cells, u.oneCell' = true := by simp [Tal.cells, Value.oneCell']
/-- the order of the keys -/
def kl (a b : Tal) : Prop := a.host < b.host ∨ (a.host = b.host ∧ sl a.rule b.rule = true)
instance (a b : Tal) : Decidable (kl a b) := inferInstanceAs (Decidable (_ ∨ _))
theorem kl_irrefl (a : Tal) : ¬ kl a a := by intro h; rcases h with h | ⟨_, h⟩; omega; rw [sl_irrefl] at h; cases h
theorem kl_trans {a b c : Tal} (h : kl a b) (k : kl b c) : kl a c := by
  rcases h with h | ⟨h1, h2⟩ <;> rcases k with k | ⟨k1, k2⟩
  · exact .inl (by omega)
  · exact .inl (by omega)
  · exact .inl (by omega)
  · exact .inr ⟨by omega, sl_trans h2 k2⟩
theorem kl_tri {a b : Tal} (h : ¬ kl a b) (k : ¬ kl b a) : a.host = b.host ∧ a.rule = b.rule := by
  unfold kl at h k
  have e : a.host = b.host := by omega
  refine ⟨e, sl_tri ?_ ?_⟩
  · cases h' : sl a.rule b.rule with
    | false => rfl
    | true => exact absurd (.inr ⟨e, h'⟩) h
  · cases h' : sl b.rule a.rule with
    | false => rfl
    | true => exact absurd (.inr ⟨e.symm, h'⟩) k
theorem kl_same {a b c : Tal} (h1 : a.host = b.host) (h2 : a.rule = b.rule) (h : kl b c) : kl a c := by unfold kl at *; rw [h1, h2]; exact h
theorem kl_same' {a b c : Tal} (h1 : a.host = b.host) (h2 : a.rule = b.rule) (h : kl c b) : kl c a := by unfold kl at *; rw [h1, h2]; exact h
def TSrt (l : List Tal) : Prop := l.Pairwise kl
def mrg : List Tal → List Tal → List Tal
  | [], vs => vs
  | a :: us, [] => a :: us
  | a :: us, b :: vs => if kl a b then a :: mrg us (b :: vs) else if kl b a then b :: mrg (a :: us) vs else ⟨b.host, b.rule, a.lines + b.lines⟩ :: mrg us vs
  termination_by us vs => us.length + vs.length
theorem mrg_nil (us : List Tal) : mrg us [] = us := by cases us <;> simp [mrg]
def tget : List Tal → Tal → Option Int
  | [], _ => none
  | t :: l, k => if kl t k then tget l k else if kl k t then tget l k else some t.lines
def addO : Option Int → Option Int → Option Int
  | none, x => x
  | some a, none => some a
  | some a, some b => some (a + b)
theorem addO_assoc (x y z : Option Int) : addO (addO x y) z = addO x (addO y z) := by
  cases x <;> cases y <;> cases z <;> simp [addO, Int.add_assoc]
theorem addO_none (x : Option Int) : addO x none = x := by cases x <;> rfl
theorem tget_none {l : List Tal} {k : Tal} (h : ∀ t ∈ l, kl k t) : tget l k = none := by
  induction l with
  | nil => rfl
  | cons t l ih =>
    have h0 := h t (by simp)
    have h1 : ¬ kl t k := fun e => kl_irrefl k (kl_trans h0 e)
    simp only [tget, if_neg h1, if_pos h0]
    exact ih (fun t ht => h t (by simp [ht]))
theorem mrg_mem {us vs : List Tal} : ∀ t ∈ mrg us vs, ∃ u, (u ∈ us ∨ u ∈ vs) ∧ u.host = t.host ∧ u.rule = t.rule := by
  fun_induction mrg us vs with
  | case1 vs => intro t ht; exact ⟨t, .inr ht, rfl, rfl⟩
  | case2 a us => intro t ht; exact ⟨t, .inl ht, rfl, rfl⟩
  | case3 a us b vs h ih =>
    intro t ht
    rcases List.mem_cons.1 ht with rfl | ht
    · exact ⟨t, .inl (by simp), rfl, rfl⟩
    · obtain ⟨u, hu, h2⟩ := ih t ht
      exact ⟨u, by rcases hu with hu | hu; exact .inl (by simp [hu]); exact .inr hu, h2⟩
  | case4 a us b vs h h' ih =>
    intro t ht
    rcases List.mem_cons.1 ht with rfl | ht
    · exact ⟨t, .inr (by simp), rfl, rfl⟩
    · obtain ⟨u, hu, h2⟩ := ih t ht
      exact ⟨u, by rcases hu with hu | hu; exact .inl hu; exact .inr (by simp [hu]), h2⟩
  | case5 a us b vs h h' ih =>
    intro t ht
    rcases List.mem_cons.1 ht with rfl | ht
    · exact ⟨b, .inr (by simp), rfl, rfl⟩
    · obtain ⟨u, hu, h2⟩ := ih t ht
      exact ⟨u, by rcases hu with hu | hu; exact .inl (by simp [hu]); exact .inr (by simp [hu]), h2⟩
theorem mrg_srt {us vs : List Tal} : TSrt us → TSrt vs → TSrt (mrg us vs) := by
  unfold TSrt
  fun_induction mrg us vs with
  | case1 vs => intro _ h; exact h
  | case2 a us => intro h _; exact h
  | case3 a us b vs h ih =>
    intro ha hb
    have ha' := List.pairwise_cons.1 ha
    have hb' := List.pairwise_cons.1 hb
    refine List.pairwise_cons.2 ⟨fun t ht => ?_, ih ha'.2 hb⟩
    obtain ⟨u, hu, e1, e2⟩ := mrg_mem t ht
    refine kl_same' e1.symm e2.symm ?_
    rcases hu with hu | hu
    · exact ha'.1 u hu
    · rcases List.mem_cons.1 hu with rfl | hu
      · exact h
      · exact kl_trans h (hb'.1 u hu)
  | case4 a us b vs h h' ih =>
    intro ha hb
    have ha' := List.pairwise_cons.1 ha
    have hb' := List.pairwise_cons.1 hb
    refine List.pairwise_cons.2 ⟨fun t ht => ?_, ih ha hb'.2⟩
    obtain ⟨u, hu, e1, e2⟩ := mrg_mem t ht
    refine kl_same' e1.symm e2.symm ?_
    rcases hu with hu | hu
    · rcases List.mem_cons.1 hu with rfl | hu
      · exact h'
      · exact kl_trans h' (ha'.1 u hu)
    · exact hb'.1 u hu
  | case5 a us b vs h h' ih =>
    intro ha hb
    have ha' := List.pairwise_cons.1 ha
    have hb' := List.pairwise_cons.1 hb
    have e := kl_tri h h'
    refine List.pairwise_cons.2 ⟨fun t ht => ?_, ih ha'.2 hb'.2⟩
    obtain ⟨u, hu, e1, e2⟩ := mrg_mem t ht
    refine kl_same' e1.symm e2.symm ?_
    rcases hu with hu | hu
    · exact kl_same (a := (⟨b.host, b.rule, a.lines + b.lines⟩ : Tal)) e.1.symm e.2.symm (ha'.1 u hu)
    · exact kl_same (a := (⟨b.host, b.rule, a.lines + b.lines⟩ : Tal)) (b := b) rfl rfl (hb'.1 u hu)
theorem tget_mrg {us vs : List Tal} (k : Tal) : TSrt us → TSrt vs → tget (mrg us vs) k = addO (tget us k) (tget vs k) := by
  unfold TSrt
  fun_induction mrg us vs with
  | case1 vs => intro _ _; rfl
  | case2 a us => intro _ _; exact (addO_none _).symm
  | case3 a us b vs h ih =>
    intro ha hb
    have ha' := List.pairwise_cons.1 ha
    have hb' := List.pairwise_cons.1 hb
    have hi := ih ha'.2 hb
    rw [show tget (a :: mrg us (b :: vs)) k = if kl a k then tget (mrg us (b :: vs)) k else if kl k a then tget (mrg us (b :: vs)) k else some a.lines from rfl, show tget (a :: us) k = if kl a k then tget us k else if kl k a then tget us k else some a.lines from rfl]
    split
    · exact hi
    · split
      · exact hi
      · rename_i h1 h2
        have e := kl_tri h1 h2
        have hn : tget (b :: vs) k = none := tget_none (fun t ht => kl_same e.1.symm e.2.symm (by
          rcases List.mem_cons.1 ht with rfl | ht
          · exact h
          · exact kl_trans h (hb'.1 t ht)))
        rw [hn]; rfl
  | case4 a us b vs h h' ih =>
    intro ha hb
    have ha' := List.pairwise_cons.1 ha
    have hb' := List.pairwise_cons.1 hb
    have hi := ih ha hb'.2
    rw [show tget (b :: mrg (a :: us) vs) k = if kl b k then tget (mrg (a :: us) vs) k else if kl k b then tget (mrg (a :: us) vs) k else some b.lines from rfl, show tget (b :: vs) k = if kl b k then tget vs k else if kl k b then tget vs k else some b.lines from rfl]
    split
    · exact hi
    · split
      · exact hi
      · rename_i h1 h2
        have e := kl_tri h1 h2
        have hn : tget (a :: us) k = none := tget_none (fun t ht => kl_same e.1.symm e.2.symm (by
          rcases List.mem_cons.1 ht with rfl | ht
          · exact h'
          · exact kl_trans h' (ha'.1 t ht)))
        rw [hn]; rfl
  | case5 a us b vs h h' ih =>
    intro ha hb
    have ha' := List.pairwise_cons.1 ha
    have hb' := List.pairwise_cons.1 hb
    have hi := ih ha'.2 hb'.2
    have e := kl_tri h h'
    have k1 : kl a k ↔ kl b k := by unfold kl; rw [e.1, e.2]
    have k2 : kl k a ↔ kl k b := by unfold kl; rw [e.1, e.2]
    have k3 : kl (⟨b.host, b.rule, a.lines + b.lines⟩ : Tal) k ↔ kl b k := by unfold kl; exact Iff.rfl
    have k4 : kl k (⟨b.host, b.rule, a.lines + b.lines⟩ : Tal) ↔ kl k b := by unfold kl; exact Iff.rfl
    simp only [tget, k1, k2, k3, k4]
    split
    · exact hi
    · split
      · exact hi
      · rfl
theorem tal_ext : ∀ (l m : List Tal), TSrt l → TSrt m → (∀ k, tget l k = tget m k) → l = m := by
  intro l
  induction l with
  | nil =>
    intro m _ hm h
    cases m with
    | nil => rfl
    | cons b m =>
      have := h b
      simp [tget, kl_irrefl] at this
  | cons a l ih =>
    intro m hl hm h
    have hl' := List.pairwise_cons.1 hl
    have ha := h a
    rw [show tget (a :: l) a = some a.lines by simp [tget, kl_irrefl]] at ha
    cases m with
    | nil => simp [tget] at ha
    | cons b m =>
      have hm' := List.pairwise_cons.1 hm
      by_cases h1 : kl a b
      · rw [tget_none (fun t ht => by
          rcases List.mem_cons.1 ht with rfl | ht
          · exact h1
          · exact kl_trans h1 (hm'.1 t ht))] at ha
        cases ha
      · by_cases h2 : kl b a
        · have hb := h b
          rw [show tget (b :: m) b = some b.lines by simp [tget, kl_irrefl], tget_none (fun t ht => by
            rcases List.mem_cons.1 ht with rfl | ht
            · exact h2
            · exact kl_trans h2 (hl'.1 t ht))] at hb
          cases hb
        · have e := kl_tri h1 h2
          have hb : some a.lines = some b.lines := by
            rw [ha]; simp only [tget, if_neg h2, if_neg h1]
          have hab : a = b := by
            cases a; cases b; simp at e hb; obtain ⟨rfl, rfl⟩ := e; subst hb; rfl
          subst hab
          congr 1
          refine ih m hl'.2 hm'.2 (fun k => ?_)
          have hk := h k
          simp only [tget] at hk
          by_cases q1 : kl a k
          · simpa [q1] using hk
          · by_cases q2 : kl k a
            · simpa [q1, q2] using hk
            · have e2 := kl_tri q1 q2
              rw [tget_none (fun t ht => kl_same e2.1.symm e2.2.symm (hl'.1 t ht)), tget_none (fun t ht => kl_same e2.1.symm e2.2.symm (hm'.1 t ht))]
theorem mrg_assoc {x y z : List Tal} (hx : TSrt x) (hy : TSrt y) (hz : TSrt z) : mrg (mrg x y) z = mrg x (mrg y z) :=
  tal_ext _ _ (mrg_srt (mrg_srt hx hy) hz) (mrg_srt hx (mrg_srt hy hz)) (fun k => by
    rw [tget_mrg k (mrg_srt hx hy) hz, tget_mrg k hx hy, tget_mrg k hx (mrg_srt hy hz), tget_mrg k hy hz, addO_assoc])
theorem mrg_len (us vs : List Tal) : (mrg us vs).length ≤ us.length + vs.length := by
  fun_induction mrg us vs with
  | case1 => simp
  | case2 => simp
  | case3 a us b vs h ih => simp at *; omega
  | case4 a us b vs h h' ih => simp at *; omega
  | case5 a us b vs h h' ih => simp at *; omega
/-- all numbers of lines lie in a range -/
def TIn (n : Int) (l : List Tal) : Prop := ∀ t ∈ l, 0 ≤ t.lines ∧ t.lines ≤ n
theorem mrg_in {n m : Int} {us vs : List Tal} : TIn n us → TIn m vs → 0 ≤ n → 0 ≤ m → TIn (n + m) (mrg us vs) := by
  unfold TIn
  fun_induction mrg us vs with
  | case1 vs => intro _ h _ _ t ht; have := h t ht; omega
  | case2 a us => intro h _ _ _ t ht; have := h t ht; omega
  | case3 a us b vs h ih =>
    intro ha hb h1 h2 t ht
    rcases List.mem_cons.1 ht with rfl | ht
    · have := ha t (by simp); omega
    · exact ih (fun t ht => ha t (by simp [ht])) hb h1 h2 t ht
  | case4 a us b vs h h' ih =>
    intro ha hb h1 h2 t ht
    rcases List.mem_cons.1 ht with rfl | ht
    · have := hb t (by simp); omega
    · exact ih ha (fun t ht => hb t (by simp [ht])) h1 h2 t ht
  | case5 a us b vs h h' ih =>
    intro ha hb h1 h2 t ht
    rcases List.mem_cons.1 ht with rfl | ht
    · have := ha a (by simp); have := hb b (by simp); simp only []; omega
    · exact ih (fun t ht => ha t (by simp [ht])) (fun t ht => hb t (by simp [ht])) h1 h2 t ht
theorem mrg_at {l : List Tal} {x : Tal} : ∀ (i : Nat), (∀ j t, j < i → l[j]? = some t → kl t x) → (∀ t, l[i]? = some t → kl x t) → mrg l [x] = l.take i ++ x :: l.drop i := by
  induction l with
  | nil => intro i _ _; simp [mrg]
  | cons a l ih =>
    intro i h1 h2
    cases i with
    | zero =>
      have h := h2 a rfl
      have h' : ¬ kl a x := fun e => kl_irrefl x (kl_trans h e)
      simp [mrg, h, h']
    | succ i =>
      have h := h1 0 a (by omega) rfl
      rw [mrg, if_pos h, ih i (fun j t hj ht => h1 (j + 1) t (by omega) (by simpa using ht)) (fun t ht => h2 t (by simpa using ht))]
      rfl
theorem mrg_hit {l : List Tal} {x t : Tal} : ∀ (i : Nat), (∀ j t, j < i → l[j]? = some t → kl t x) → l[i]? = some t → ¬ kl t x → ¬ kl x t → mrg l [x] = l.set i ⟨t.host, t.rule, t.lines + x.lines⟩ := by
  induction l with
  | nil => intro i _ h; simp at h
  | cons a l ih =>
    intro i h1 h2 h3 h4
    cases i with
    | zero =>
      simp at h2
      subst h2
      have e := kl_tri h3 h4
      rw [mrg, if_neg h3, if_neg h4, mrg_nil, List.set_cons_zero, e.1, e.2]
    | succ i =>
      have h := h1 0 a (by omega) rfl
      rw [mrg, if_pos h, ih i (fun j t hj ht => h1 (j + 1) t (by omega) (by simpa using ht)) (by simpa using h2) h3 h4]
      rfl
end Go.Proofs.Ytiogpomgpknjlaa
