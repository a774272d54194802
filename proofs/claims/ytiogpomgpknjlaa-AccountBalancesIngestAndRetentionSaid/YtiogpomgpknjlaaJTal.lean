/- Tallies as plain data: merging is associative. No condition. -/
import Derived.Test.YtiogpomgpknjlaaJBase
import Derived.ArgAppend
import Derived.Deep.DeepMust
namespace Go.Proofs.Ytiogpomgpknjlaa
open Go.RowKit
set_option linter.unusedVariables false
set_option linter.unusedSimpArgs false

structure Tal where
  host : Int
  rule : ByteArray
  lines : Int
def Tal.cells (t : Tal) : List Value := [.int .i64 t.host, .string t.rule, .int .i64 t.lines]
theorem Tal.cells_len (t : Tal) : t.cells.length = 3 := rfl
theorem Tal.one (t : Tal) : ∀ u ∈ t.cells, u.oneCell' = true := by simp [Tal.cells, Value.oneCell']
/-- the order of the keys -/
def kl (a b : Tal) : Prop := a.host < b.host ∨ (a.host = b.host ∧ sl a.rule b.rule = true)
instance (a b : Tal) : Decidable (kl a b) := inferInstanceAs (Decidable (_ ∨ _))
theorem kl_irrefl (a : Tal) : ¬ kl a a := by intro h; rcases h with h | ⟨_, h⟩; omega; rw [sl_irrefl] at h; cases h
theorem kl_trans {a b c : Tal} (h : kl a b) (k : kl b c) : kl a c := by
  rcases h with h | ⟨h1, h2⟩ <;> rcases k with k | ⟨k1, k2⟩
  · exact .inl (by omega)
  · exact .inl (by omega)
  · exact .inl (by omega)
  · exact .inr ⟨by omega, sl_trans h2 k2⟩
theorem kl_tri {a b : Tal} (h : ¬ kl a b) (k : ¬ kl b a) : a.host = b.host ∧ a.rule = b.rule := by
  unfold kl at h k
  have e : a.host = b.host := by omega
  refine ⟨e, sl_tri ?_ ?_⟩
  · cases h' : sl a.rule b.rule with
    | false => rfl
    | true => exact absurd (.inr ⟨e, h'⟩) h
  · cases h' : sl b.rule a.rule with
    | false => rfl
    | true => exact absurd (.inr ⟨e.symm, h'⟩) k
theorem kl_same {a b c : Tal} (h1 : a.host = b.host) (h2 : a.rule = b.rule) (h : kl b c) : kl a c := by unfold kl at *; rw [h1, h2]; exact h
theorem kl_same' {a b c : Tal} (h1 : a.host = b.host) (h2 : a.rule = b.rule) (h : kl c b) : kl c a := by unfold kl at *; rw [h1, h2]; exact h
def TSrt (l : List Tal) : Prop := l.Pairwise kl
def mrg : List Tal → List Tal → List Tal
  | [], vs => vs
  | a :: us, [] => a :: us
  | a :: us, b :: vs => if kl a b then a :: mrg us (b :: vs) else if kl b a then b :: mrg (a :: us) vs else ⟨b.host, b.rule, a.lines + b.lines⟩ :: mrg us vs
  termination_by us vs => us.length + vs.length
theorem mrg_nil (us : List Tal) : mrg us [] = us := by cases us <;> simp [mrg]
def tget : List Tal → Tal → Option Int
  | [], _ => none
  | t :: l, k => if kl t k then tget l k else if kl k t then tget l k else some t.lines
def addO : Option Int → Option Int → Option Int
  | none, x => x
  | some a, none => some a
  | some a, some b => some (a + b)
theorem addO_assoc (x y z : Option Int) : addO (addO x y) z = addO x (addO y z) := by
  cases x <;> cases y <;> cases z <;> simp [addO, Int.add_assoc]
theorem addO_none (x : Option Int) : addO x none = x := by cases x <;> rfl
theorem tget_none {l : List Tal} {k : Tal} (h : ∀ t ∈ l, kl k t) : tget l k = none := by
  induction l with
  | nil => rfl
  | cons t l ih =>
    have h0 := h t (by simp)
    have h1 : ¬ kl t k := fun e => kl_irrefl k (kl_trans h0 e)
    simp only [tget, if_neg h1, if_pos h0]
    exact ih (fun t ht => h t (by simp [ht]))
theorem mrg_mem {us vs : List Tal} : ∀ t ∈ mrg us vs, ∃ u, (u ∈ us ∨ u ∈ vs) ∧ u.host = t.host ∧ u.rule = t.rule := by
  fun_induction mrg us vs with
  | case1 vs => intro t ht; exact ⟨t, .inr ht, rfl, rfl⟩
  | case2 a us => intro t ht; exact ⟨t, .inl ht, rfl, rfl⟩
  | case3 a us b vs h ih =>
    intro t ht
    rcases List.mem_cons.1 ht with rfl | ht
    · exact ⟨t, .inl (by simp), rfl, rfl⟩
    · obtain ⟨u, hu, h2⟩ := ih t ht
      exact ⟨u, by rcases hu with hu | hu; exact .inl (by simp [hu]); exact .inr hu, h2⟩
  | case4 a us b vs h h' ih =>
    intro t ht
    rcases List.mem_cons.1 ht with rfl | ht
    · exact ⟨t, .inr (by simp), rfl, rfl⟩
    · obtain ⟨u, hu, h2⟩ := ih t ht
      exact ⟨u, by rcases hu with hu | hu; exact .inl hu; exact .inr (by simp [hu]), h2⟩
  | case5 a us b vs h h' ih =>
    intro t ht
    rcases List.mem_cons.1 ht with rfl | ht
    · exact ⟨b, .inr (by simp), rfl, rfl⟩
    · obtain ⟨u, hu, h2⟩ := ih t ht
      exact ⟨u, by rcases hu with hu | hu; exact .inl (by simp [hu]); exact .inr (by simp [hu]), h2⟩
theorem mrg_srt {us vs : List Tal} : TSrt us → TSrt vs → TSrt (mrg us vs) := by
  unfold TSrt
  fun_induction mrg us vs with
  | case1 vs => intro _ h; exact h
  | case2 a us => intro h _; exact h
  | case3 a us b vs h ih =>
    intro ha hb
    have ha' := List.pairwise_cons.1 ha
    have hb' := List.pairwise_cons.1 hb
    refine List.pairwise_cons.2 ⟨fun t ht => ?_, ih ha'.2 hb⟩
    obtain ⟨u, hu, e1, e2⟩ := mrg_mem t ht
    refine kl_same' e1.symm e2.symm ?_
    rcases hu with hu | hu
    · exact ha'.1 u hu
    · rcases List.mem_cons.1 hu with rfl | hu
      · exact h
      · exact kl_trans h (hb'.1 u hu)
  | case4 a us b vs h h' ih =>
    intro ha hb
    have ha' := List.pairwise_cons.1 ha
    have hb' := List.pairwise_cons.1 hb
    refine List.pairwise_cons.2 ⟨fun t ht => ?_, ih ha hb'.2⟩
    obtain ⟨u, hu, e1, e2⟩ := mrg_mem t ht
    refine kl_same' e1.symm e2.symm ?_
    rcases hu with hu | hu
    · rcases List.mem_cons.1 hu with rfl | hu
      · exact h'
      · exact kl_trans h' (ha'.1 u hu)
    · exact hb'.1 u hu
  | case5 a us b vs h h' ih =>
    intro ha hb
    have ha' := List.pairwise_cons.1 ha
    have hb' := List.pairwise_cons.1 hb
    have e := kl_tri h h'
    refine List.pairwise_cons.2 ⟨fun t ht => ?_, ih ha'.2 hb'.2⟩
    obtain ⟨u, hu, e1, e2⟩ := mrg_mem t ht
    refine kl_same' e1.symm e2.symm ?_
    rcases hu with hu | hu
    · exact kl_same (a := (⟨b.host, b.rule, a.lines + b.lines⟩ : Tal)) e.1.symm e.2.symm (ha'.1 u hu)
    · exact kl_same (a := (⟨b.host, b.rule, a.lines + b.lines⟩ : Tal)) (b := b) rfl rfl (hb'.1 u hu)
theorem tget_mrg {us vs : List Tal} (k : Tal) : TSrt us → TSrt vs → tget (mrg us vs) k = addO (tget us k) (tget vs k) := by
  unfold TSrt
  fun_induction mrg us vs with
  | case1 vs => intro _ _; rfl
  | case2 a us => intro _ _; exact (addO_none _).symm
  | case3 a us b vs h ih =>
    intro ha hb
    have ha' := List.pairwise_cons.1 ha
    have hb' := List.pairwise_cons.1 hb
    have hi := ih ha'.2 hb
    rw [show tget (a :: mrg us (b :: vs)) k = if kl a k then tget (mrg us (b :: vs)) k else if kl k a then tget (mrg us (b :: vs)) k else some a.lines from rfl, show tget (a :: us) k = if kl a k then tget us k else if kl k a then tget us k else some a.lines from rfl]
    split
    · exact hi
    · split
      · exact hi
      · rename_i h1 h2
        have e := kl_tri h1 h2
        have hn : tget (b :: vs) k = none := tget_none (fun t ht => kl_same e.1.symm e.2.symm (by
          rcases List.mem_cons.1 ht with rfl | ht
          · exact h
          · exact kl_trans h (hb'.1 t ht)))
        rw [hn]; rfl
  | case4 a us b vs h h' ih =>
    intro ha hb
    have ha' := List.pairwise_cons.1 ha
    have hb' := List.pairwise_cons.1 hb
    have hi := ih ha hb'.2
    rw [show tget (b :: mrg (a :: us) vs) k = if kl b k then tget (mrg (a :: us) vs) k else if kl k b then tget (mrg (a :: us) vs) k else some b.lines from rfl, show tget (b :: vs) k = if kl b k then tget vs k else if kl k b then tget vs k else some b.lines from rfl]
    split
    · exact hi
    · split
      · exact hi
      · rename_i h1 h2
        have e := kl_tri h1 h2
        have hn : tget (a :: us) k = none := tget_none (fun t ht => kl_same e.1.symm e.2.symm (by
          rcases List.mem_cons.1 ht with rfl | ht
          · exact h'
          · exact kl_trans h' (ha'.1 t ht)))
        rw [hn]; rfl
  | case5 a us b vs h h' ih =>
    intro ha hb
    have ha' := List.pairwise_cons.1 ha
    have hb' := List.pairwise_cons.1 hb
    have hi := ih ha'.2 hb'.2
    have e := kl_tri h h'
    have k1 : kl a k ↔ kl b k := by unfold kl; rw [e.1, e.2]
    have k2 : kl k a ↔ kl k b := by unfold kl; rw [e.1, e.2]
    have k3 : kl (⟨b.host, b.rule, a.lines + b.lines⟩ : Tal) k ↔ kl b k := by unfold kl; exact Iff.rfl
    have k4 : kl k (⟨b.host, b.rule, a.lines + b.lines⟩ : Tal) ↔ kl k b := by unfold kl; exact Iff.rfl
    simp only [tget, k1, k2, k3, k4]
    split
    · exact hi
    · split
      · exact hi
      · rfl
theorem tal_ext : ∀ (l m : List Tal), TSrt l → TSrt m → (∀ k, tget l k = tget m k) → l = m := by
  intro l
  induction l with
  | nil =>
    intro m _ hm h
    cases m with
    | nil => rfl
    | cons b m =>
      have := h b
      simp [tget, kl_irrefl] at this
  | cons a l ih =>
    intro m hl hm h
    have hl' := List.pairwise_cons.1 hl
    have ha := h a
    rw [show tget (a :: l) a = some a.lines by simp [tget, kl_irrefl]] at ha
    cases m with
    | nil => simp [tget] at ha
    | cons b m =>
      have hm' := List.pairwise_cons.1 hm
      by_cases h1 : kl a b
      · rw [tget_none (fun t ht => by
          rcases List.mem_cons.1 ht with rfl | ht
          · exact h1
          · exact kl_trans h1 (hm'.1 t ht))] at ha
        cases ha
      · by_cases h2 : kl b a
        · have hb := h b
          rw [show tget (b :: m) b = some b.lines by simp [tget, kl_irrefl], tget_none (fun t ht => by
            rcases List.mem_cons.1 ht with rfl | ht
            · exact h2
            · exact kl_trans h2 (hl'.1 t ht))] at hb
          cases hb
        · have e := kl_tri h1 h2
          have hb : some a.lines = some b.lines := by
            rw [ha]; simp only [tget, if_neg h2, if_neg h1]
          have hab : a = b := by
            cases a; cases b; simp at e hb; obtain ⟨rfl, rfl⟩ := e; subst hb; rfl
          subst hab
          congr 1
          refine ih m hl'.2 hm'.2 (fun k => ?_)
          have hk := h k
          simp only [tget] at hk
          by_cases q1 : kl a k
          · simpa [q1] using hk
          · by_cases q2 : kl k a
            · simpa [q1, q2] using hk
            · have e2 := kl_tri q1 q2
              rw [tget_none (fun t ht => kl_same e2.1.symm e2.2.symm (hl'.1 t ht)), tget_none (fun t ht => kl_same e2.1.symm e2.2.symm (hm'.1 t ht))]
theorem mrg_assoc {x y z : List Tal} (hx : TSrt x) (hy : TSrt y) (hz : TSrt z) : mrg (mrg x y) z = mrg x (mrg y z) :=
  tal_ext _ _ (mrg_srt (mrg_srt hx hy) hz) (mrg_srt hx (mrg_srt hy hz)) (fun k => by
    rw [tget_mrg k (mrg_srt hx hy) hz, tget_mrg k hx hy, tget_mrg k hx (mrg_srt hy hz), tget_mrg k hy hz, addO_assoc])
theorem mrg_len (us vs : List Tal) : (mrg us vs).length ≤ us.length + vs.length := by
  fun_induction mrg us vs with
  | case1 => simp
  | case2 => simp
  | case3 a us b vs h ih => simp at *; omega
  | case4 a us b vs h h' ih => simp at *; omega
  | case5 a us b vs h h' ih => simp at *; omega
/-- all numbers of lines lie in a range -/
def TIn (n : Int) (l : List Tal) : Prop := ∀ t ∈ l, 0 ≤ t.lines ∧ t.lines ≤ n
theorem mrg_in {n m : Int} {us vs : List Tal} : TIn n us → TIn m vs → 0 ≤ n → 0 ≤ m → TIn (n + m) (mrg us vs) := by
  unfold TIn
  fun_induction mrg us vs with
  | case1 vs => intro _ h _ _ t ht; have := h t ht; omega
  | case2 a us => intro h _ _ _ t ht; have := h t ht; omega
  | case3 a us b vs h ih =>
    intro ha hb h1 h2 t ht
    rcases List.mem_cons.1 ht with rfl | ht
    · have := ha t (by simp); omega
    · exact ih (fun t ht => ha t (by simp [ht])) hb h1 h2 t ht
  | case4 a us b vs h h' ih =>
    intro ha hb h1 h2 t ht
    rcases List.mem_cons.1 ht with rfl | ht
    · have := hb t (by simp); omega
    · exact ih ha (fun t ht => hb t (by simp [ht])) h1 h2 t ht
  | case5 a us b vs h h' ih =>
    intro ha hb h1 h2 t ht
    rcases List.mem_cons.1 ht with rfl | ht
    · have := ha a (by simp); have := hb b (by simp); simp only []; omega
    · exact ih (fun t ht => ha t (by simp [ht])) (fun t ht => hb t (by simp [ht])) h1 h2 t ht
theorem mrg_at {l : List Tal} {x : Tal} : ∀ (i : Nat), (∀ j t, j < i → l[j]? = some t → kl t x) → (∀ t, l[i]? = some t → kl x t) → mrg l [x] = l.take i ++ x :: l.drop i := by
  induction l with
  | nil => intro i _ _; simp [mrg]
  | cons a l ih =>
    intro i h1 h2
    cases i with
    | zero =>
      have h := h2 a rfl
      have h' : ¬ kl a x := fun e => kl_irrefl x (kl_trans h e)
      simp [mrg, h, h']
    | succ i =>
      have h := h1 0 a (by omega) rfl
      rw [mrg, if_pos h, ih i (fun j t hj ht => h1 (j + 1) t (by omega) (by simpa using ht)) (fun t ht => h2 t (by simpa using ht))]
      rfl
theorem mrg_hit {l : List Tal} {x t : Tal} : ∀ (i : Nat), (∀ j t, j < i → l[j]? = some t → kl t x) → l[i]? = some t → ¬ kl t x → ¬ kl x t → mrg l [x] = l.set i ⟨t.host, t.rule, t.lines + x.lines⟩ := by
  induction l with
  | nil => intro i _ h; simp at h
  | cons a l ih =>
    intro i h1 h2 h3 h4
    cases i with
    | zero =>
      simp at h2
      subst h2
      have e := kl_tri h3 h4
      rw [mrg, if_neg h3, if_neg h4, mrg_nil, List.set_cons_zero, e.1, e.2]
    | succ i =>
      have h := h1 0 a (by omega) rfl
      rw [mrg, if_pos h, ih i (fun j t hj ht => h1 (j + 1) t (by omega) (by simpa using ht)) (by simpa using h2) h3 h4]
      rfl
end Go.Proofs.Ytiogpomgpknjlaa

namespace Go.Proofs.Ytiogpomgpknjlaa
open Go.RowKit
set_option linter.unusedVariables false
set_option linter.unusedSimpArgs false

/-- the codes l lie before the block g, which holds the struct; k of them have been taken -/
def CodesAt (w : World) (g : Nat) (l : List Int) (k : Nat) : Prop :=
  ∃ A c, Blk w g 64 #[.slice A l.length c, .int .i64 (k : Int)] ∧ Rd (· < g) w A (l.map (.int .u8)) ∧ k ≤ l.length ∧ l.length ≤ 100000 ∧ ∀ x ∈ l, 0 ≤ x ∧ x ≤ 255

set_option maxHeartbeats 400000 in
theorem left_any (g : Nat) (l : List Int) (k : Nat) (w : World) (h : CodesAt w g l k) :
    Calls Try.prog 57 #[.pointer (some ⟨g, 0, none⟩)] w fun e w' => e = .returned (.bool (decide (k < l.length))) ∧ ∃ n, w' = w.drewN n := by
  obtain ⟨A, c, hb, -, hk, hl, -⟩ := h
  have c0 := hb.cell 0
  have c1 := hb.cell 1
  simp at c0 c1
  go_enter Try.func57, Try.ntmps57
  go_wp2
  go_quiet (fail)
  go_wp2
  go_ret
  exact ⟨by simp, _, rfl⟩

theorem CodesAt.drewN {w : World} {g : Nat} {l : List Int} {k : Nat} (h : CodesAt w g l k) (n : Nat) : CodesAt (w.drewN n) g l k := h
theorem CodesAt.drew {w : World} {g : Nat} {l : List Int} {k : Nat} (h : CodesAt w g l k) : CodesAt w.drew g l k := h
theorem CodesAt.set_ {w : World} {g : Nat} {l : List Int} {k : Nat} (h : CodesAt w g l k) (hk : k < l.length) : CodesAt (w.setCell ⟨g, 1, none⟩ (.int .i64 ((k : Int) + 1))) g l (k + 1) := by
  obtain ⟨A, c, hb, hr, _, hl, hx⟩ := h
  refine ⟨A, c, by simpa using hb.set_ 1 (.int .i64 ((k : Int) + 1)), hr.keep (fun b hb _ => Below.heap_setCell _ _ _ _ (by simp; omega)) (by simp [World.setCell]), hk, hl, hx⟩

def nextV (l : List Int) (k : Nat) (n : Int) : Int := if k < l.length ∧ 1 ≤ n then l.getD k 0 * n / 256 else 0
def nextK (l : List Int) (k : Nat) (n : Int) : Nat := if k < l.length ∧ 1 ≤ n then k + 1 else k
def NextPost (w : World) (g : Nat) (l : List Int) (k : Nat) (n : Int) (e : Ending) (w' : World) : Prop :=
  e = .returned (.int .i64 (nextV l k n)) ∧ CodesAt w' g l (nextK l k n) ∧ w.grownBy w' (some g)

set_option maxHeartbeats 400000 in
theorem next_any (g : Nat) (l : List Int) (k : Nat) (n : Int) (w : World) (h : CodesAt w g l k) (hn : n ≤ 1000000) :
    Calls Try.prog 28 #[.pointer (some ⟨g, 0, none⟩), .int .i64 n] w (NextPost w g l k n) := by
  have H := Lib.hid h
  obtain ⟨A, c, hb, hr, hk, hl, hx⟩ := h
  have c0 := hb.cell 0
  have c1 := hb.cell 1
  have f1 := hb.frozen 1
  simp at c0 c1
  by_cases h1 : k < l.length
  · by_cases h2 : 1 ≤ n
    · have hv : nextV l k n = l[k] * n / 256 := by simp [nextV, h1, h2]
      have hv2 : nextK l k n = k + 1 := by simp [nextK, h1, h2]
      have hb' := hx (l[k]) (List.getElem_mem h1)
      obtain ⟨b, off, rfl, hc⟩ := hr.at_ (k := k) (by simpa using h1)
      simp at hc
      have HV := Lib.hid hv
      have HV2 := Lib.hid hv2
      have hm1 : 0 ≤ l[k] * n := Int.mul_nonneg hb'.1 (by omega)
      have hm2 : l[k] * n ≤ 255 * 1000000 := Int.mul_le_mul hb'.2 hn (by omega) (by omega)
      clear hv hv2 hr hx hb
      have hd : decide (n < 1) = false := by simp; omega
      go_enter Try.func28, Try.ntmps28
      go_wp2_with (go_at_call 57; refine (left_any g l k _ H.out).mono ?_; rintro e w' ⟨rfl, nq, rfl⟩)
      go_quiet (fail)
      go_wp2
      go_ret
      refine ⟨ret_int HV.out.symm, ?_, ?_⟩
      · rw [HV2.out]; exact CodesAt.drewN (H.out.set_ h1) _
      · exact only_drewN (only_setCell (only_refl _ _) (.inl rfl) _) _
    · have hv : nextV l k n = 0 := by simp [nextV, h2]
      have hv2 : nextK l k n = k := by simp [nextK, h2]
      have HV := Lib.hid hv
      have HV2 := Lib.hid hv2
      clear hv hv2 hr hx hb
      have hd : decide (n < 1) = true := by simp; omega
      go_enter Try.func28, Try.ntmps28
      go_wp2_with (go_at_call 57; refine (left_any g l k _ H.out).mono ?_; rintro e w' ⟨rfl, nq, rfl⟩)
      go_ret
      exact ⟨ret_int HV.out.symm, by rw [HV2.out]; exact CodesAt.drewN H.out _, only_drewN (only_refl _ _) _⟩
  · have hv : nextV l k n = 0 := by simp [nextV, h1]
    have hv2 : nextK l k n = k := by simp [nextK, h1]
    have HV := Lib.hid hv
    have HV2 := Lib.hid hv2
    clear hv hv2 hr hx hb
    go_enter Try.func28, Try.ntmps28
    go_wp2_with (go_at_call 57; refine (left_any g l k _ H.out).mono ?_; rintro e w' ⟨rfl, nq, rfl⟩)
    go_ret
    exact ⟨ret_int HV.out.symm, by rw [HV2.out]; exact CodesAt.drewN H.out _, only_drewN (only_refl _ _) _⟩

def NewPost (w : World) (l : List Int) (e : Ending) (w' : World) : Prop :=
  e = .returned (.pointer (some ⟨w.heap.size, 0, none⟩)) ∧ CodesAt w' w.heap.size l 0 ∧ w.grownBy w' none ∧ w.heap.size < w'.heap.size

set_option maxHeartbeats 400000 in
theorem new_any (A : Option Addr) (l : List Int) (c : Nat) (m : Nat) (w : World) (h : Rd (fun _ => True) w A (l.map (.int .u8))) (hc : l.length ≤ c) (hcm : c ≤ maxLen) (hm : m ≤ 100000) (hx : ∀ x ∈ l, 0 ≤ x ∧ x ≤ 255) :
    Calls Try.prog 8 #[.slice A l.length c, .int .i64 (m : Int)] w (NewPost w (l.take m)) := by
  unfold maxLen at hcm
  have H := Lib.hid h
  have HX := Lib.hid hx
  clear h hx
  go_enter Try.func8, Try.ntmps8
  go_wp2
  all_goals go_ret
  all_goals refine ⟨rfl, ⟨A, c, ?_, ?_, Nat.zero_le _, by simp; omega, fun x hx => HX.out x (List.mem_of_mem_take hx)⟩, only_alloc (only_refl _ _) _, by simp⟩
  all_goals first | exact (Rd.mono (H.out.take m) (fun _ _ h => h)).alloc_map _ | skip
  · rw [List.length_take, Nat.min_eq_left (by omega)]; exact Blk.new _ _ _
  · rw [List.length_take, Nat.min_eq_right (by omega)]; exact Blk.new _ _ _

theorem CodesAt.grown {w w' : World} {g : Nat} {l : List Int} {k : Nat} {row : Option Nat} (h : CodesAt w g l k) (hg : w.grownBy w' row) (hr : ∀ b, b ≤ g → some b ≠ row) : CodesAt w' g l k := by
  obtain ⟨A, c, hb, hrd, h2⟩ := h
  exact ⟨A, c, hb.grown hg (hr g (Nat.le_refl _)), hrd.grown hg (fun b hb => hr b (Nat.le_of_lt hb)), h2⟩
theorem CodesAt.alloc {w : World} {g : Nat} {l : List Int} {k : Nat} (h : CodesAt w g l k) (o : Obj) : CodesAt (w.alloc o) g l k := h.grown (World.grownBy_alloc w o none) (by simp)
theorem CodesAt.lt {w : World} {g : Nat} {l : List Int} {k : Nat} (h : CodesAt w g l k) : g < w.heap.size := by
  obtain ⟨A, c, hb, _⟩ := h
  exact hb.lt
theorem nextV_nonneg {l : List Int} (hx : ∀ x ∈ l, 0 ≤ x ∧ x ≤ 255) (k : Nat) (n : Int) : 0 ≤ nextV l k n := by
  unfold nextV
  split
  · rename_i h
    have := hx (l.getD k 0) (getD_mem l 0 h.1)
    have : 0 ≤ l.getD k 0 * n := Int.mul_nonneg this.1 (by omega)
    omega
  · omega
theorem nextV_lt {l : List Int} (hx : ∀ x ∈ l, 0 ≤ x ∧ x ≤ 255) (k : Nat) (n : Int) (hn : 1 ≤ n) : nextV l k n < n := by
  unfold nextV
  split
  · rename_i h
    have := hx (l.getD k 0) (getD_mem l 0 h.1)
    have : l.getD k 0 * n ≤ 255 * n := Int.mul_le_mul_of_nonneg_right this.2 (by omega)
    omega
  · omega
/-- a choice, of which only its range is told -/
def DrawnPost (w : World) (g : Nat) (l : List Int) (P : Int → Prop) (e : Ending) (w' : World) : Prop :=
  ∃ (v : Int) (k : Nat), e = .returned (.int .i64 v) ∧ P v ∧ CodesAt w' g l k ∧ w.grownBy w' (some g)
theorem next_some (g : Nat) (l : List Int) (k : Nat) (n : Int) (w : World) (h : CodesAt w g l k) (h1 : 1 ≤ n) (hn : n ≤ 1000000) :
    Calls Try.prog 28 #[.pointer (some ⟨g, 0, none⟩), .int .i64 n] w (DrawnPost w g l (fun v => 0 ≤ v ∧ v < n)) :=
  (next_any g l k n w h hn).mono fun e w' ⟨he, hc, hg⟩ => ⟨_, _, he, by
    obtain ⟨A, c, _, _, _, _, hx⟩ := h
    exact ⟨nextV_nonneg hx k n, nextV_lt hx k n h1⟩, hc, hg⟩

/-- tables of constants -/
def isStr (m : Nat) : Value → Bool | .string s => decide (s.size ≤ m) | _ => false
def isInt (p : Int → Bool) : Value → Bool | .int .i64 n => p n | _ => false
theorem tab_str {cs : Array Value} {m : Nat} (h : cs.toList.all (isStr m) = true) {j : Nat} (hj : j < cs.size) : ∃ s, cs[j]? = some (.string s) ∧ s.size ≤ m := by
  have h1 := List.all_eq_true.1 h cs[j] (by rw [Array.mem_toList_iff]; exact Array.getElem_mem hj)
  rw [Array.getElem?_eq_getElem hj]
  revert h1
  cases hv : cs[j] with
  | string s => intro h1; exact ⟨_, rfl, by simpa [isStr] using h1⟩
  | _ => intro h1; simp [isStr] at h1
theorem tab_int {cs : Array Value} {p : Int → Bool} (h : cs.toList.all (isInt p) = true) {j : Nat} (hj : j < cs.size) : ∃ n, cs[j]? = some (.int .i64 n) ∧ p n = true := by
  have h1 := List.all_eq_true.1 h cs[j] (by rw [Array.mem_toList_iff]; exact Array.getElem_mem hj)
  rw [Array.getElem?_eq_getElem hj]
  revert h1
  cases hv : cs[j] with
  | int k n =>
    cases k with
    | i64 => intro h1; exact ⟨_, rfl, by simpa [isInt] using h1⟩
    | _ => intro h1; simp [isInt] at h1
  | _ => intro h1; simp [isInt] at h1

theorem Blk.str_at {w : World} {g t m : Nat} {cs : Array Value} (hB : Blk w g t cs) (h : cs.toList.all (isStr m) = true) {j : Nat} (hj : j < cs.size) : ∃ s, w.cell? ⟨g, j, none⟩ = some (.string s) ∧ Hid (s.size ≤ m) := by
  obtain ⟨s, hs, hm⟩ := tab_str h hj
  exact ⟨s, (hB.cell j).trans hs, hm⟩
theorem Blk.int_at {w : World} {g t : Nat} {p : Int → Bool} {cs : Array Value} (hB : Blk w g t cs) (h : cs.toList.all (isInt p) = true) {j : Nat} (hj : j < cs.size) : ∃ n, w.cell? ⟨g, j, none⟩ = some (.int .i64 n) ∧ Hid (p n = true) := by
  obtain ⟨s, hs, hm⟩ := tab_int h hj
  exact ⟨s, (hB.cell j).trans hs, hm⟩

def StrPost (w : World) (g : Nat) (l : List Int) (n : Nat) (e : Ending) (w' : World) : Prop :=
  ∃ (s : ByteArray) (k : Nat), e = .returned (.string s) ∧ s.size ≤ n ∧ CodesAt w' g l k ∧ w.grownBy w' (some g)
end Go.Proofs.Ytiogpomgpknjlaa

namespace Go.Proofs.Ytiogpomgpknjlaa
open Go.RowKit
set_option linter.unusedVariables false
set_option linter.unusedSimpArgs false

theorem flat_at {α : Type} (f : α → List Value) (z : Nat) (hf : ∀ x, (f x).length = z) (l : List α) : ∀ (i j : Nat) (hi : i < l.length), j < z → (l.flatMap f)[i * z + j]? = (f l[i])[j]? := by
  induction l with
  | nil => intro i j hi; simp at hi
  | cons x l ih =>
    intro i j hi hj
    rw [List.flatMap_cons]
    cases i with
    | zero => rw [List.getElem?_append_left (by rw [hf]; omega)]; simp
    | succ i =>
      rw [List.getElem?_append_right (by rw [hf, Nat.add_mul]; omega), hf]
      have : (i + 1) * z + j - z = i * z + j := by rw [Nat.add_mul]; omega
      rw [this]
      exact ih i j (by simpa using hi) hj
theorem flat_len {α : Type} (f : α → List Value) (z : Nat) (hf : ∀ x, (f x).length = z) (l : List α) : (l.flatMap f).length = l.length * z := by
  induction l with
  | nil => simp
  | cons x l ih => rw [List.flatMap_cons, List.length_append, hf, ih, List.length_cons, Nat.add_mul]; omega
theorem flat_take {α : Type} {f : α → List Value} {z : Nat} (hf : ∀ x, (f x).length = z) (l : List α) (n : Nat) : (l.take n).flatMap f = (l.flatMap f).take (n * z) := by
  induction l generalizing n with
  | nil => simp
  | cons x l ih =>
    cases n with
    | zero => simp
    | succ n =>
      have h1 : (f x).take ((n + 1) * z) = f x := List.take_of_length_le (by rw [hf, Nat.add_mul]; omega)
      have h2 : (n + 1) * z - (f x).length = n * z := by rw [hf, Nat.add_mul]; omega
      rw [List.take_succ_cons, List.flatMap_cons, List.flatMap_cons, ih, List.take_append, h1, h2]
theorem flat_drop {α : Type} {f : α → List Value} {z : Nat} (hf : ∀ x, (f x).length = z) (l : List α) (n : Nat) : (l.drop n).flatMap f = (l.flatMap f).drop (n * z) := by
  induction l generalizing n with
  | nil => simp
  | cons x l ih =>
    cases n with
    | zero => simp
    | succ n =>
      have h1 : (f x).drop ((n + 1) * z) = [] := List.drop_of_length_le (by rw [hf, Nat.add_mul]; omega)
      have h2 : (n + 1) * z - (f x).length = n * z := by rw [hf, Nat.add_mul]; omega
      rw [List.drop_succ_cons, List.flatMap_cons, ih, List.drop_append, h1, h2, List.nil_append]
theorem flat_set {α : Type} {f : α → List Value} {z : Nat} (hf : ∀ x, (f x).length = z) (l : List α) : ∀ (i j : Nat) (hi : i < l.length) (y : α) (u : Value), j < z → (f l[i]).set j u = f y → (l.flatMap f).set (i * z + j) u = (l.set i y).flatMap f := by
  induction l with
  | nil => intro i j hi; simp at hi
  | cons x l ih =>
    intro i j hi y u hj h
    cases i with
    | zero =>
      simp only [List.getElem_cons_zero] at h
      rw [List.flatMap_cons, List.set_cons_zero, List.flatMap_cons, List.set_append, if_pos (by rw [hf]; omega)]
      rw [Nat.zero_mul, Nat.zero_add, h]
    | succ i =>
      rw [List.flatMap_cons, List.set_cons_succ, List.flatMap_cons, List.set_append, if_neg (by rw [hf, Nat.add_mul]; omega)]
      have e : (i + 1) * z + j - (f x).length = i * z + j := by rw [hf, Nat.add_mul]; omega
      rw [e, ih i j (by simpa using hi) y u hj (by simpa using h)]
theorem flat_one {α : Type} {f : α → List Value} (h : ∀ x, ∀ u ∈ f x, u.oneCell' = true) (l : List α) : ∀ u ∈ l.flatMap f, u.oneCell' = true := by
  intro u hu
  obtain ⟨x, _, hx⟩ := List.mem_flatMap.1 hu
  exact h x u hx
/-- append of one element that has just been laid in block H -/
theorem wpList_append1h {P : Program} {ops : Array Oper} {rest : List Oper} {o : Oper} {a : Act} {Q : Exit → Act → World → Prop} (hgd : o.guard = none) (s x : Operand) (t : TypeId)
    (ho : o.op = .call { callee := .builtin .append, args := #[s, x], argTypes := #[t, t] })
    (base : Nat) {e : TypeId} {z : Value} {size bytes : Nat} (ht : P.underlying t = some (.slice e)) (hi : (P.info? e).map (fun i => (i.zero, i.size, i.bytes)) = some (some z, size, bytes)) (hzs : z.cells.size = size) (hsz : 0 < size)
    {v : Value} {n : Nat} {xs : List Value} (hs : a.eval s = v) {w0 : World} {cs : Array Value} (hown : w0.ownsRow base e size v n xs) (H : Nat) (hH : w0.heap.size = H)
    (hx : a.eval x = .slice (some ⟨H, 0, none⟩) 1 1) (hl : cs.size = size) (h1 : ∀ u ∈ cs.toList, u.oneCell' = true)
    (hb : bytes ≤ 1000) (hn : n ≤ 10000000) (hbase : base ≤ H)
    (h : ∀ v' w', w'.ownsRow base e size v' (n + 1) (xs ++ cs.toList) → w0.grownBy w' v.ownBlock → (v'.ownBlock = v.ownBlock ∨ v'.ownBlock = some (H + 1)) → wpList P ops Q rest (a.put o.dst v') w') : wpList P ops Q (o :: rest) a (w0.alloc (.cells cs e)) := by
  subst hH
  exact wpList_append1 hgd s x t ho base ht hi hzs hsz hs hown hx hl h1 hb hn hbase h
end Go.Proofs.Ytiogpomgpknjlaa

namespace Go.Proofs.Ytiogpomgpknjlaa
open Go.RowKit
set_option linter.unusedVariables false
set_option linter.unusedSimpArgs false

theorem Rd.i_at {S : Nat → Prop} {w : World} {A : Option Addr} {k : Nat} {vs : List Int} {kd : IntKind} (h : Rd S w A (vs.map (.int kd))) (hk : k < vs.length) :
    ∃ b off x, A = some ⟨b, off, none⟩ ∧ w.cell? ⟨b, off + k, none⟩ = some (.int kd x) ∧ Hid (vs[k]? = some x) := by
  obtain ⟨b, off, e, _, _, hc⟩ := h (by simp; omega)
  exact ⟨b, off, vs[k], e, hc k _ (by simp [hk]), List.getElem?_eq_getElem hk⟩
theorem take_eq_all {α : Type} {a b : List α} (hl : a.length = b.length) (h : ∀ i, i < a.length → a[i]? = b[i]?) : a = b := by
  apply List.ext_getElem? 
  intro i
  by_cases hi : i < a.length
  · exact h i hi
  · rw [List.getElem?_eq_none (by omega), List.getElem?_eq_none (by omega)]

end Go.Proofs.Ytiogpomgpknjlaa
namespace Go.Proofs.Ytiogpomgpknjlaa
open Go.RowKit
set_option linter.unusedVariables false
set_option linter.unusedSimpArgs false

end Go.Proofs.Ytiogpomgpknjlaa

namespace Go.Proofs.Ytiogpomgpknjlaa
open Go.RowKit
set_option linter.unusedVariables false
set_option linter.unusedSimpArgs false

theorem talInfo : (Try.prog.info? 62).map (fun i => (i.zero, i.size, i.bytes)) = some (some (.agg #[.int .i64 0, .string ⟨#[]⟩, .int .i64 0]), 3, 32) := by kernel_rfl
theorem tflat_at {l : List Tal} {i : Nat} {t : Tal} (h : l[i]? = some t) (j : Nat) (hj : j < 3) : (l.flatMap Tal.cells)[i * 3 + j]? = t.cells[j]? := by
  have hi : i < l.length := by
    rcases Nat.lt_or_ge i l.length with h' | h'
    · exact h'
    · rw [List.getElem?_eq_none h'] at h; cases h
  rw [flat_at Tal.cells 3 Tal.cells_len l i j hi hj]
  rw [List.getElem?_eq_getElem hi] at h
  injection h with h
  rw [h]
theorem tflat_len (l : List Tal) : (l.flatMap Tal.cells).length = l.length * 3 := flat_len _ 3 Tal.cells_len l
theorem tflat_take (l : List Tal) (n : Nat) : (l.take n).flatMap Tal.cells = (l.flatMap Tal.cells).take (n * 3) := flat_take Tal.cells_len l n
theorem tflat_drop (l : List Tal) (n : Nat) : (l.drop n).flatMap Tal.cells = (l.flatMap Tal.cells).drop (n * 3) := flat_drop Tal.cells_len l n
theorem tflat_one (l : List Tal) : ∀ u ∈ l.flatMap Tal.cells, u.oneCell' = true := flat_one Tal.one l
theorem Rd.tal {S : Nat → Prop} {w : World} {A : Option Addr} {l : List Tal} (h : Rd S w A (l.flatMap Tal.cells)) {i : Nat} {t : Tal} (ht : l[i]? = some t) :
    ∃ b off, A = some ⟨b, off, none⟩ ∧ w.cell? ⟨b, off + i * 3, none⟩ = some (.int .i64 t.host) ∧ w.cell? ⟨b, off + i * 3 + 1, none⟩ = some (.string t.rule) ∧ w.cell? ⟨b, off + i * 3 + 2, none⟩ = some (.int .i64 t.lines) := by
  have hi : i < l.length := by
    rcases Nat.lt_or_ge i l.length with h | h
    · exact h
    · rw [List.getElem?_eq_none h] at ht; cases ht
  obtain ⟨b, off, e, _, _, hc⟩ := h (by rw [tflat_len]; omega)
  refine ⟨b, off, e, hc _ _ (tflat_at ht 0 (by omega)), ?_, ?_⟩
  · rw [Nat.add_assoc]; exact hc _ _ (tflat_at ht 1 (by omega))
  · rw [Nat.add_assoc]; exact hc _ _ (tflat_at ht 2 (by omega))
def TalsPost (w : World) (l : List Tal) (e : Ending) (w' : World) : Prop :=
  ∃ (A : Option Addr) (c : Nat), e = .returned (.slice A l.length c) ∧ l.length ≤ c ∧ c ≤ maxLen ∧ Rd (w.heap.size ≤ ·) w' A (l.flatMap Tal.cells) ∧ w.grownBy w' none

end Go.Proofs.Ytiogpomgpknjlaa

namespace Go.Proofs.Ytiogpomgpknjlaa
open Go.RowKit
set_option linter.unusedVariables false
set_option linter.unusedSimpArgs false

/-- the lines of a host -/
def sumT (h : Int) : List Tal → Int
  | [] => 0
  | t :: l => (if t.host = h then t.lines else 0) + sumT h l
theorem sumT_snoc (h : Int) (l : List Tal) (t : Tal) : sumT h (l ++ [t]) = sumT h l + if t.host = h then t.lines else 0 := by
  induction l with
  | nil => simp [sumT]
  | cons a l ih => rw [List.cons_append, sumT, ih, sumT]; omega
theorem sumT_le {n : Int} {l : List Tal} (h : Int) (hi : TIn n l) (hn : 0 ≤ n) : 0 ≤ sumT h l ∧ sumT h l ≤ n * l.length := by
  induction l with
  | nil => simp [sumT]
  | cons a l ih =>
    have h1 := ih (fun t ht => hi t (by simp [ht]))
    have h2 := hi a (by simp)
    have e : n * ((a :: l).length : Int) = n * (l.length : Int) + n := by rw [List.length_cons]; simp [Int.mul_add]
    rw [e, sumT]
    split <;> omega
theorem sumT_mrg (h : Int) (us vs : List Tal) : sumT h (mrg us vs) = sumT h us + sumT h vs := by
  fun_induction mrg us vs with
  | case1 vs => simp [sumT]
  | case2 a us => simp [sumT]
  | case3 a us b vs h1 ih =>
    have e : sumT h (a :: us) = (if a.host = h then a.lines else 0) + sumT h us := rfl
    rw [sumT, ih, e]; omega
  | case4 a us b vs h1 h2 ih =>
    have e : sumT h (b :: vs) = (if b.host = h then b.lines else 0) + sumT h vs := rfl
    rw [sumT, ih, e]; omega
  | case5 a us b vs h1 h2 ih =>
    have e := kl_tri h1 h2
    rw [sumT, ih]
    simp only [sumT, e.1]
    split <;> omega
/-- the walk's own fact about a sum that stays small -/
theorem tin_take {n : Int} {l : List Tal} (h : TIn n l) (k : Nat) : TIn n (l.take k) := fun t ht => h t (List.mem_of_mem_take ht)
def SumPost (w : World) (n : Int) (e : Ending) (w' : World) : Prop := e = .returned (.int .i64 n) ∧ w.grownBy w' none
theorem anyF (s : ByteArray) (w : World) : Calls Try.prog 38 #[.string s] w (fun e w' => e = .returned (.bool true) ∧ w = w') := by
  go_enter Try.func38, Try.ntmps38
  go_wp2
  go_ret
  exact ⟨rfl, rfl⟩
set_option maxHeartbeats 2000000 in
theorem lines_any {S : Nat → Prop} (A : Option Addr) (ts : List Tal) (c : Nat) (h : Int) (w : World) (hr : Rd S w A (ts.flatMap Tal.cells)) (hl : ts.length ≤ 100000) (hi : TIn 1000000 ts) :
    Calls Try.prog 37 #[.slice A ts.length c, .int .i64 h, .func (.func 38) #[] #[]] w (SumPost w (sumT h ts)) := by
  have HR := Lib.hid (hr.mono (S' := (· < w.heap.size)) (fun b _ hb => hb))
  have HI := Lib.hid hi
  clear hr hi
  go_enter Try.func37, Try.ntmps37
  go_wp2
  go_loopw [7, 12] (fun n i wr => ∃ k : Nat, k ≤ ts.length ∧ i = .int .i64 k ∧ n = .int .i64 (sumT h (ts.take k)) ∧ w.grownBy wr none) (fun _ i _ => ts.length - (intOf i).toNat)
  case atStart => exact ⟨0, Nat.zero_le _, rfl, rfl, only_refl _ _⟩
  case round =>
    obtain ⟨k, hk, rfl, rfl, hG⟩ := hrel
    have G := Lib.hid hG
    have hsz := hG.size
    clear hG
    have hb := sumT_le h (tin_take HI.out k) (by omega)
    have hlk : (ts.take k).length ≤ 100000 := by rw [List.length_take]; omega
    have hb2 : sumT h (ts.take k) ≤ 100000000000 := by omega
    have hb1 := hb.1
    clear hb
    by_cases hlt : k < ts.length
    · obtain ⟨t, ht⟩ : ∃ t, ts[k]? = some t := ⟨_, List.getElem?_eq_getElem hlt⟩
      obtain ⟨b1, o1, rfl, x0, x1, x2⟩ := (HR.out.grown G.out (by simp)).tal ht
      have hbw : b1 < wr.heap.size := by obtain ⟨b', o', e', hb', -, -⟩ := HR.out (by rw [tflat_len]; omega); injection e' with e'; injection e' with e1 e2; omega
      have hbn : b1 ≠ wr.heap.size := by omega
      have ht2 := HI.out t (List.mem_of_getElem? ht)
      have HS : Hid (sumT h (ts.take (k + 1)) = sumT h (ts.take k) + if t.host = h then t.lines else 0) := by
        rw [List.take_succ_eq_append_getElem hlt, sumT_snoc]
        rw [List.getElem?_eq_getElem hlt] at ht
        injection ht with ht
        rw [ht]
        exact rfl
      clear ht
      have i1 : (k : Int) < (ts.length : Int) := by omega
      by_cases hh : t.host = h
      · have d1 : (t.host == h) = true := by simp [hh]
        have HH := Lib.hid hh
        clear hh
        go_wp2_with (go_at_call 38; refine (anyF _ _).mono ?_; rintro e w' ⟨rfl, rfl⟩)
        go_roundw
        case rel => exact ⟨k + 1, by omega, by go_num, by rw [HS.out, if_pos HH.out], only_alloc G.out _⟩
        case measure => simp [intOf]; omega
      · have d1 : (t.host == h) = false := by simp [hh]
        have HH := Lib.hid hh
        clear hh
        go_wp2
        go_roundw
        case rel => exact ⟨k + 1, by omega, by go_num, by rw [HS.out, if_neg HH.out, Int.add_zero], only_alloc G.out _⟩
        case measure => simp [intOf]; omega
    · go_wp2
      go_ret
      exact ⟨ret_int (by rw [List.take_of_length_le (by omega)]), G.out⟩
theorem sum_any {S : Nat → Prop} (A : Option Addr) (ts : List Tal) (c : Nat) (h : Int) (w : World) (hr : Rd S w A (ts.flatMap Tal.cells)) (hl : ts.length ≤ 100000) (hi : TIn 1000000 ts) :
    Calls Try.prog 13 #[.slice A ts.length c, .int .i64 h] w (SumPost w (sumT h ts)) := by
  have KL := Lib.hid (lines_any A ts c h w hr hl hi)
  clear hr hi
  go_enter Try.func13, Try.ntmps13
  go_wp2_with (go_at_call 37; refine KL.out.mono ?_; rintro e w' ⟨rfl, hg⟩)
  go_ret
  exact ⟨rfl, hg⟩
end Go.Proofs.Ytiogpomgpknjlaa
