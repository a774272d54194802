/- Ascending lists of numbers without doubles; sums of tallies by rule: plain law. No condition. -/
import Derived.Test.YtiogpomgpknjlaaSum
import Derived.Lib.SlicesCompact
namespace Go.Proofs.Ytiogpomgpknjlaa
open Go.RowKit
set_option linter.unusedVariables false
set_option linter.unusedSimpArgs false

def Asc (l : List Int) : Prop := l.Pairwise (· < ·)
theorem asc_ext : ∀ {a b : List Int}, Asc a → Asc b → (∀ x, x ∈ a ↔ x ∈ b) → a = b
  | [], [], _, _, _ => rfl
  | [], y :: b, _, _, h => absurd ((h y).2 List.mem_cons_self) (by simp)
  | x :: a, [], _, _, h => absurd ((h x).1 List.mem_cons_self) (by simp)
  | x :: a, y :: b, ha, hb, h => by
    have ha' := List.pairwise_cons.1 ha
    have hb' := List.pairwise_cons.1 hb
    have hxy : x = y := by
      rcases List.mem_cons.1 ((h x).1 List.mem_cons_self) with e | e
      · exact e
      · rcases List.mem_cons.1 ((h y).2 List.mem_cons_self) with e2 | e2
        · exact e2.symm
        · have h1 := hb'.1 x e
          have h2 := ha'.1 y e2
          omega
    subst hxy
    congr 1
    refine asc_ext ha'.2 hb'.2 fun z => ⟨fun hz => ?_, fun hz => ?_⟩
    · rcases List.mem_cons.1 ((h z).1 (List.mem_cons_of_mem _ hz)) with e | e
      · have := ha'.1 z hz; omega
      · exact e
    · rcases List.mem_cons.1 ((h z).2 (List.mem_cons_of_mem _ hz)) with e | e
      · have := hb'.1 z hz; omega
      · exact e
/-- a number put in its place -/
def insH (h : Int) : List Int → List Int
  | [] => [h]
  | a :: t => if a < h then a :: insH h t else if a = h then a :: t else h :: a :: t
theorem insH_mem (h x : Int) : ∀ l : List Int, x ∈ insH h l ↔ x = h ∨ x ∈ l
  | [] => by simp [insH]
  | a :: t => by
    unfold insH
    split
    · rw [List.mem_cons, insH_mem h x t, List.mem_cons]
      constructor
      · rintro (e | e | e)
        · exact .inr (.inl e)
        · exact .inl e
        · exact .inr (.inr e)
      · rintro (e | e | e)
        · exact .inr (.inl e)
        · exact .inl e
        · exact .inr (.inr e)
    · split
      · rename_i e; subst e; simp
      · simp
theorem insH_asc (h : Int) : ∀ {l : List Int}, Asc l → Asc (insH h l)
  | [], _ => List.pairwise_singleton _ _
  | a :: t, hl => by
    have hl' := List.pairwise_cons.1 hl
    unfold insH
    split
    · rename_i hlt
      refine List.pairwise_cons.2 ⟨fun x hx => ?_, insH_asc h hl'.2⟩
      rcases (insH_mem h x t).1 hx with e | e
      · omega
      · exact hl'.1 x e
    · split
      · exact hl
      · refine List.pairwise_cons.2 ⟨fun x hx => ?_, hl⟩
        rcases List.mem_cons.1 hx with e | e
        · omega
        · have := hl'.1 x e; omega
def hosts (l : List Int) : List Int := l.foldl (fun s h => insH h s) []
theorem hosts_snoc (l : List Int) (h : Int) : hosts (l ++ [h]) = insH h (hosts l) := by unfold hosts; rw [List.foldl_append]; rfl
theorem hosts_ok (l : List Int) : Asc (hosts l) ∧ ∀ x, x ∈ hosts l ↔ x ∈ l := by
  have key : ∀ (l : List Int) (s : List Int), Asc s → Asc (l.foldl (fun s h => insH h s) s) ∧ ∀ x, x ∈ l.foldl (fun s h => insH h s) s ↔ (x ∈ l ∨ x ∈ s) := by
    intro l
    induction l with
    | nil => intro s hs; exact ⟨hs, by simp⟩
    | cons a t ih =>
      intro s hs
      obtain ⟨h1, h2⟩ := ih (insH a s) (insH_asc a hs)
      refine ⟨h1, fun x => ?_⟩
      rw [List.foldl_cons, h2 x, insH_mem, List.mem_cons]
      constructor
      · rintro (e | e | e)
        · exact .inl (.inr e)
        · exact .inl (.inl e)
        · exact .inr e
      · rintro ((e | e) | e)
        · exact .inr (.inl e)
        · exact .inl e
        · exact .inr (.inr e)
  obtain ⟨h1, h2⟩ := key l [] List.Pairwise.nil
  exact ⟨h1, fun x => by have := h2 x; simpa [hosts] using this⟩
theorem hosts_len (l : List Int) : (hosts l).length ≤ l.length := by
  have key : ∀ (h : Int) (s : List Int), (insH h s).length ≤ s.length + 1 := by
    intro h s
    induction s with
    | nil => simp [insH]
    | cons a t ih => unfold insH; split
                     · simp; omega
                     · split <;> simp
  have k2 : ∀ (l : List Int) (s : List Int), (l.foldl (fun s h => insH h s) s).length ≤ l.length + s.length := by
    intro l
    induction l with
    | nil => intro s; simp
    | cons a t ih => intro s; have := ih (insH a s); have := key a s; simp only [List.foldl_cons, List.length_cons]; omega
  have := k2 l []
  simpa [hosts] using this
theorem cuI_succ (d : Array Int) (m : Nat) : Lib.compactUpTo d (m + 1) = Lib.compactUpTo d m ++ (if Lib.keeps d m = true then [d[m]!] else []) := by
  unfold Lib.compactUpTo
  rw [List.range_succ, List.filter_append, List.map_append]
  congr 1
  by_cases h : Lib.keeps d m = true
  · simp [h]
  · simp [h]
theorem cuI_all (d : Array Int) (hu : ∀ i j, i < j → j < d.size → d[i]! ≤ d[j]!) : ∀ m, m ≤ d.size →
    (Lib.compactUpTo d m).Pairwise (· < ·) ∧ (∀ x ∈ Lib.compactUpTo d m, ∃ j, j < m ∧ x = d[j]!) ∧ (∀ j, j < m → d[j]! ∈ Lib.compactUpTo d m)
  | 0, _ => ⟨by simp [Lib.compactUpTo], by simp [Lib.compactUpTo], fun j h => absurd h (by omega)⟩
  | m + 1, h => by
    obtain ⟨h1, h2, h3⟩ := cuI_all d hu m (by omega)
    rw [cuI_succ]
    by_cases hk : Lib.keeps d m = true
    · rw [if_pos hk]
      refine ⟨?_, ?_, ?_⟩
      · rw [List.pairwise_append]
        refine ⟨h1, List.pairwise_singleton _ _, fun a ha b hb => ?_⟩
        rw [List.mem_singleton.1 hb]
        obtain ⟨j, hj, rfl⟩ := h2 a ha
        have hm : 0 < m := by omega
        have hne : d[m]! ≠ d[m - 1]! := by
          unfold Lib.keeps at hk
          rcases of_decide_eq_true hk with e | e
          · omega
          · exact e
        have hle := hu (m - 1) m (by omega) (by omega)
        by_cases hjm : j = m - 1
        · rw [hjm]; omega
        · have := hu j (m - 1) (by omega) (by omega); omega
      · intro x hx
        rcases List.mem_append.1 hx with hx | hx
        · obtain ⟨j, hj, e⟩ := h2 x hx; exact ⟨j, by omega, e⟩
        · exact ⟨m, by omega, List.mem_singleton.1 hx⟩
      · intro j hj
        rcases Nat.lt_or_ge j m with hlt | hge
        · exact List.mem_append_left _ (h3 j hlt)
        · rw [show j = m from by omega]; exact List.mem_append_right _ (List.mem_singleton.2 rfl)
    · rw [if_neg hk, List.append_nil]
      refine ⟨h1, fun x hx => ?_, fun j hj => ?_⟩
      · obtain ⟨j, hj, e⟩ := h2 x hx; exact ⟨j, by omega, e⟩
      · rcases Nat.lt_or_ge j m with hlt | hge
        · exact h3 j hlt
        · rw [show j = m from by omega]
          have hk' : ¬ (m = 0 ∨ d[m]! ≠ d[m - 1]!) := fun e => hk (by unfold Lib.keeps; exact decide_eq_true e)
          have e : d[m]! = d[m - 1]! := by
            by_cases e : d[m]! = d[m - 1]!
            · exact e
            · exact absurd (.inr e) hk'
          have hm : m ≠ 0 := fun e => hk' (.inl e)
          rw [e]; exact h3 (m - 1) (by omega)
def sortI (l : List Int) : List Int := l.mergeSort fun x y => decide (x ≤ y)
theorem sortI_perm (l : List Int) : (sortI l).Perm l := List.mergeSort_perm _ _
theorem sortI_asc (l : List Int) : (sortI l).Pairwise (· ≤ ·) := by
  unfold sortI
  have := List.pairwise_mergeSort (le := fun (x y : Int) => decide (x ≤ y)) (fun a b c h1 h2 => by simp at *; omega) (fun a b => by simp; omega) l
  simpa using this
/-- sorting and compacting gives the hosts -/
theorem compact_hosts {l m : List Int} (h : ∀ x, x ∈ l ↔ x ∈ m) : Lib.compact (sortI l) = hosts m := by
  obtain ⟨h1, h2⟩ := hosts_ok m
  have hu : ∀ i j, i < j → j < (sortI l).toArray.size → (sortI l).toArray[i]! ≤ (sortI l).toArray[j]! := fun i j hij hj => by
    have hj' : j < (sortI l).length := by simpa using hj
    have := List.pairwise_iff_getElem.1 (sortI_asc l) i j (by omega) hj' hij
    rw [getElem!_pos _ i (by simp; omega), getElem!_pos _ j (by simpa using hj')]
    simpa using this
  obtain ⟨k1, k2, k3⟩ := cuI_all (sortI l).toArray hu (sortI l).length (by simp)
  have hcm : Lib.compact (sortI l) = Lib.compactUpTo (sortI l).toArray (sortI l).length := by unfold Lib.compact; simp
  rw [hcm]
  refine asc_ext k1 h1 fun x => ?_
  rw [h2, ← h, ← (sortI_perm l).mem_iff]
  constructor
  · intro hx
    obtain ⟨j, hj, rfl⟩ := k2 x hx
    rw [getElem!_pos _ j (by simpa using hj)]
    simp
  · intro hx
    obtain ⟨j, hj⟩ := List.getElem?_of_mem hx
    obtain ⟨hjl, e⟩ := List.getElem?_eq_some_iff.1 hj
    have := k3 j hjl
    rw [getElem!_pos _ j (by simpa using hjl)] at this
    simpa [e] using this
/-- the lines of a host with rules that are wanted -/
def sumP (p : ByteArray → Bool) (h : Int) : List Tal → Int
  | [] => 0
  | t :: l => (if t.host = h ∧ p t.rule = true then t.lines else 0) + sumP p h l
theorem sumP_snoc (p : ByteArray → Bool) (h : Int) (l : List Tal) (t : Tal) : sumP p h (l ++ [t]) = sumP p h l + if t.host = h ∧ p t.rule = true then t.lines else 0 := by
  induction l with
  | nil => simp [sumP]
  | cons a l ih => simp only [List.cons_append, sumP, ih]; omega
theorem sumP_le {n : Int} (p : ByteArray → Bool) (h : Int) {l : List Tal} (hi : TIn n l) (hn : 0 ≤ n) : 0 ≤ sumP p h l ∧ sumP p h l ≤ n * l.length := by
  induction l with
  | nil => simp [sumP]
  | cons a l ih =>
    have h1 := hi a List.mem_cons_self
    have h2 := ih (fun t ht => hi t (List.mem_cons_of_mem _ ht))
    have e : n * ((a :: l).length : Int) = n * l.length + n := by rw [List.length_cons]; push_cast; rw [Int.mul_add, Int.mul_one]
    simp only [sumP]
    rw [e]
    split <;> omega
theorem sumP_true (h : Int) (l : List Tal) : sumP (fun _ => true) h l = sumT h l := by
  induction l with
  | nil => rfl
  | cons a l ih => simp [sumP, sumT, ih]
theorem sumP_split (p q r : ByteArray → Bool) (hpq : ∀ s, r s = (p s || q s)) (hno : ∀ s, ¬ (p s = true ∧ q s = true)) (h : Int) (l : List Tal) : sumP r h l = sumP p h l + sumP q h l := by
  induction l with
  | nil => rfl
  | cons a l ih =>
    simp only [sumP, ih]
    have h1 := hpq a.rule
    have h2 := hno a.rule
    by_cases hh : a.host = h
    · cases hp : p a.rule <;> cases hq : q a.rule <;> simp_all <;> omega
    · simp [hh]
/-- the first tally of a host and a rule -/
def cntT (h : Int) (r : ByteArray) : List Tal → Int
  | [] => 0
  | t :: l => if t.host = h ∧ t.rule = r then t.lines else cntT h r l
theorem cnt_sum (h : Int) (r : ByteArray) : ∀ {l : List Tal}, TSrt l → cntT h r l = sumP (fun s => decide (s = r)) h l
  | [], _ => rfl
  | t :: l, hs => by
    have hs' := List.pairwise_cons.1 hs
    unfold cntT sumP
    by_cases ht : t.host = h ∧ t.rule = r
    · rw [if_pos ht, if_pos (by simpa using ht)]
      have : sumP (fun s => decide (s = r)) h l = 0 := by
        have key : ∀ m : List Tal, (∀ x ∈ m, ¬ (x.host = h ∧ x.rule = r)) → sumP (fun s => decide (s = r)) h m = 0 := by
          intro m
          induction m with
          | nil => intro _; rfl
          | cons a m ih =>
            intro hm
            unfold sumP
            rw [if_neg (by simpa using hm a List.mem_cons_self), ih (fun x hx => hm x (List.mem_cons_of_mem _ hx))]
            omega
        refine key l fun x hx hxe => ?_
        have h1 := hs'.1 x hx
        exact kl_irrefl t (kl_same' (a := t) (b := x) (c := t) (by rw [hxe.1, ht.1]) (by rw [hxe.2, ht.2]) h1)
      omega
    · rw [if_neg ht, if_neg (by simpa using ht), cnt_sum h r hs'.2]
      omega
end Go.Proofs.Ytiogpomgpknjlaa
