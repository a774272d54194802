/- Ascending lists of numbers without doubles; sums of tallies by rule: plain law. No condition. -/
import Derived.Test.YtiogpomgpknjlaaJTal
import Derived.Lib.SlicesCompact
import Derived.Deep.DeepCutAuto
import Derived.Lib.AppendZeros
import Derived.Shelf.Sort.Plain
import Derived.Ground.Names2Prog
import Derived.Shelf.Slices.CompactI
import Derived.Shelf.Slices.In.SortNone
import Derived.Test.YtiogpomgpknjlaaProg
import Derived.Sort.OwnSortedInts
import Derived.Lib.RowBridge
namespace Go.Proofs.Ytiogpomgpknjlaa
open Go.RowKit
set_option linter.unusedVariables false
set_option linter.unusedSimpArgs false

def Asc (l : List Int) : Prop := l.Pairwise (· < ·)
theorem asc_ext : ∀ {a b : List Int}, Asc a → Asc b → (∀ x, x ∈ a ↔ x ∈ b) → a = b
  | [], [], _, _, _ => rfl
  | [], y :: b, _, _, h => absurd ((h y).2 List.mem_cons_self) (by simp)
  | x :: a, [], _, _, h => absurd ((h x).1 List.mem_cons_self) (by simp)
  | x :: a, y :: b, ha, hb, h => by
    have ha' := List.pairwise_cons.1 ha
    have hb' := List.pairwise_cons.1 hb
    have hxy : x = y := by
      rcases List.mem_cons.1 ((h x).1 List.mem_cons_self) with e | e
      · exact e
      · rcases List.mem_cons.1 ((h y).2 List.mem_cons_self) with e2 | e2
        · exact e2.symm
        · have h1 := hb'.1 x e
          have h2 := ha'.1 y e2
          omega
    subst hxy
    congr 1
    refine asc_ext ha'.2 hb'.2 fun z => ⟨fun hz => ?_, fun hz => ?_⟩
    · rcases List.mem_cons.1 ((h z).1 (List.mem_cons_of_mem _ hz)) with e | e
      · have := ha'.1 z hz; omega
      · exact e
    · rcases List.mem_cons.1 ((h z).2 (List.mem_cons_of_mem _ hz)) with e | e
      · have := hb'.1 z hz; omega
      · exact e
/-- a number put in its place -/
def insH (h : Int) : List Int → List Int
  | [] => [h]
  | a :: t => if a < h then a :: insH h t else if a = h then a :: t else h :: a :: t
theorem insH_mem (h x : Int) : ∀ l : List Int, x ∈ insH h l ↔ x = h ∨ x ∈ l
  | [] => by simp [insH]
  | a :: t => by
    unfold insH
    split
    · rw [List.mem_cons, insH_mem h x t, List.mem_cons]
      constructor
      · rintro (e | e | e)
        · exact .inr (.inl e)
        · exact .inl e
        · exact .inr (.inr e)
      · rintro (e | e | e)
        · exact .inr (.inl e)
        · exact .inl e
        · exact .inr (.inr e)
    · split
      · rename_i e; subst e; simp
      · simp
theorem insH_asc (h : Int) : ∀ {l : List Int}, Asc l → Asc (insH h l)
  | [], _ => List.pairwise_singleton _ _
  | a :: t, hl => by
    have hl' := List.pairwise_cons.1 hl
    unfold insH
    split
    · rename_i hlt
      refine List.pairwise_cons.2 ⟨fun x hx => ?_, insH_asc h hl'.2⟩
      rcases (insH_mem h x t).1 hx with e | e
      · omega
      · exact hl'.1 x e
    · split
      · exact hl
      · refine List.pairwise_cons.2 ⟨fun x hx => ?_, hl⟩
        rcases List.mem_cons.1 hx with e | e
        · omega
        · have := hl'.1 x e; omega
def hosts (l : List Int) : List Int := l.foldl (fun s h => insH h s) []
theorem hosts_snoc (l : List Int) (h : Int) : hosts (l ++ [h]) = insH h (hosts l) := by unfold hosts; rw [List.foldl_append]; rfl
theorem hosts_ok (l : List Int) : Asc (hosts l) ∧ ∀ x, x ∈ hosts l ↔ x ∈ l := by
  have key : ∀ (l : List Int) (s : List Int), Asc s → Asc (l.foldl (fun s h => insH h s) s) ∧ ∀ x, x ∈ l.foldl (fun s h => insH h s) s ↔ (x ∈ l ∨ x ∈ s) := by
    intro l
    induction l with
    | nil => intro s hs; exact ⟨hs, by simp⟩
    | cons a t ih =>
      intro s hs
      obtain ⟨h1, h2⟩ := ih (insH a s) (insH_asc a hs)
      refine ⟨h1, fun x => ?_⟩
      rw [List.foldl_cons, h2 x, insH_mem, List.mem_cons]
      constructor
      · rintro (e | e | e)
        · exact .inl (.inr e)
        · exact .inl (.inl e)
        · exact .inr e
      · rintro ((e | e) | e)
        · exact .inr (.inl e)
        · exact .inl e
        · exact .inr (.inr e)
  obtain ⟨h1, h2⟩ := key l [] List.Pairwise.nil
  exact ⟨h1, fun x => by have := h2 x; simpa [hosts] using this⟩
theorem hosts_len (l : List Int) : (hosts l).length ≤ l.length := by
  have key : ∀ (h : Int) (s : List Int), (insH h s).length ≤ s.length + 1 := by
    intro h s
    induction s with
    | nil => simp [insH]
    | cons a t ih => unfold insH; split
                     · simp; omega
                     · split <;> simp
  have k2 : ∀ (l : List Int) (s : List Int), (l.foldl (fun s h => insH h s) s).length ≤ l.length + s.length := by
    intro l
    induction l with
    | nil => intro s; simp
    | cons a t ih => intro s; have := ih (insH a s); have := key a s; simp only [List.foldl_cons, List.length_cons]; omega
  have := k2 l []
  simpa [hosts] using this
theorem cuI_succ (d : Array Int) (m : Nat) : Lib.compactUpTo d (m + 1) = Lib.compactUpTo d m ++ (if Lib.keeps d m = true then [d[m]!] else []) := by
  unfold Lib.compactUpTo
  rw [List.range_succ, List.filter_append, List.map_append]
  congr 1
  by_cases h : Lib.keeps d m = true
  · simp [h]
  · simp [h]
theorem cuI_all (d : Array Int) (hu : ∀ i j, i < j → j < d.size → d[i]! ≤ d[j]!) : ∀ m, m ≤ d.size →
    (Lib.compactUpTo d m).Pairwise (· < ·) ∧ (∀ x ∈ Lib.compactUpTo d m, ∃ j, j < m ∧ x = d[j]!) ∧ (∀ j, j < m → d[j]! ∈ Lib.compactUpTo d m)
  | 0, _ => ⟨by simp [Lib.compactUpTo], by simp [Lib.compactUpTo], fun j h => absurd h (by omega)⟩
  | m + 1, h => by
    obtain ⟨h1, h2, h3⟩ := cuI_all d hu m (by omega)
    rw [cuI_succ]
    by_cases hk : Lib.keeps d m = true
    · rw [if_pos hk]
      refine ⟨?_, ?_, ?_⟩
      · rw [List.pairwise_append]
        refine ⟨h1, List.pairwise_singleton _ _, fun a ha b hb => ?_⟩
        rw [List.mem_singleton.1 hb]
        obtain ⟨j, hj, rfl⟩ := h2 a ha
        have hm : 0 < m := by omega
        have hne : d[m]! ≠ d[m - 1]! := by
          unfold Lib.keeps at hk
          rcases of_decide_eq_true hk with e | e
          · omega
          · exact e
        have hle := hu (m - 1) m (by omega) (by omega)
        by_cases hjm : j = m - 1
        · rw [hjm]; omega
        · have := hu j (m - 1) (by omega) (by omega); omega
      · intro x hx
        rcases List.mem_append.1 hx with hx | hx
        · obtain ⟨j, hj, e⟩ := h2 x hx; exact ⟨j, by omega, e⟩
        · exact ⟨m, by omega, List.mem_singleton.1 hx⟩
      · intro j hj
        rcases Nat.lt_or_ge j m with hlt | hge
        · exact List.mem_append_left _ (h3 j hlt)
        · rw [show j = m from by omega]; exact List.mem_append_right _ (List.mem_singleton.2 rfl)
    · rw [if_neg hk, List.append_nil]
      refine ⟨h1, fun x hx => ?_, fun j hj => ?_⟩
      · obtain ⟨j, hj, e⟩ := h2 x hx; exact ⟨j, by omega, e⟩
      · rcases Nat.lt_or_ge j m with hlt | hge
        · exact h3 j hlt
        · rw [show j = m from by omega]
          have hk' : ¬ (m = 0 ∨ d[m]! ≠ d[m - 1]!) := fun e => hk (by unfold Lib.keeps; exact decide_eq_true e)
          have e : d[m]! = d[m - 1]! := by
            by_cases e : d[m]! = d[m - 1]!
            · exact e
            · exact absurd (.inr e) hk'
          have hm : m ≠ 0 := fun e => hk' (.inl e)
          rw [e]; exact h3 (m - 1) (by omega)
def sortI (l : List Int) : List Int := l.mergeSort fun x y => decide (x ≤ y)
theorem sortI_perm (l : List Int) : (sortI l).Perm l := List.mergeSort_perm _ _
theorem sortI_asc (l : List Int) : (sortI l).Pairwise (· ≤ ·) := by
  unfold sortI
  have := List.pairwise_mergeSort (le := fun (x y : Int) => decide (x ≤ y)) (fun a b c h1 h2 => by simp at *; omega) (fun a b => by simp; omega) l
  simpa using this
/-- sorting and compacting gives the hosts -/
theorem compact_hosts {l m : List Int} (h : ∀ x, x ∈ l ↔ x ∈ m) : Lib.compact (sortI l) = hosts m := by
  obtain ⟨h1, h2⟩ := hosts_ok m
  have hu : ∀ i j, i < j → j < (sortI l).toArray.size → (sortI l).toArray[i]! ≤ (sortI l).toArray[j]! := fun i j hij hj => by
    have hj' : j < (sortI l).length := by simpa using hj
    have := List.pairwise_iff_getElem.1 (sortI_asc l) i j (by omega) hj' hij
    rw [getElem!_pos _ i (by simp; omega), getElem!_pos _ j (by simpa using hj')]
    simpa using this
  obtain ⟨k1, k2, k3⟩ := cuI_all (sortI l).toArray hu (sortI l).length (by simp)
  have hcm : Lib.compact (sortI l) = Lib.compactUpTo (sortI l).toArray (sortI l).length := by unfold Lib.compact; simp
  rw [hcm]
  refine asc_ext k1 h1 fun x => ?_
  rw [h2, ← h, ← (sortI_perm l).mem_iff]
  constructor
  · intro hx
    obtain ⟨j, hj, rfl⟩ := k2 x hx
    rw [getElem!_pos _ j (by simpa using hj)]
    simp
  · intro hx
    obtain ⟨j, hj⟩ := List.getElem?_of_mem hx
    obtain ⟨hjl, e⟩ := List.getElem?_eq_some_iff.1 hj
    have := k3 j hjl
    rw [getElem!_pos _ j (by simpa using hjl)] at this
    simpa [e] using this
/-- the lines of a host with rules that are wanted -/
def sumP (p : ByteArray → Bool) (h : Int) : List Tal → Int
  | [] => 0
  | t :: l => (if t.host = h ∧ p t.rule = true then t.lines else 0) + sumP p h l
theorem sumP_snoc (p : ByteArray → Bool) (h : Int) (l : List Tal) (t : Tal) : sumP p h (l ++ [t]) = sumP p h l + if t.host = h ∧ p t.rule = true then t.lines else 0 := by
  induction l with
  | nil => simp [sumP]
  | cons a l ih => simp only [List.cons_append, sumP, ih]; omega
theorem sumP_le {n : Int} (p : ByteArray → Bool) (h : Int) {l : List Tal} (hi : TIn n l) (hn : 0 ≤ n) : 0 ≤ sumP p h l ∧ sumP p h l ≤ n * l.length := by
  induction l with
  | nil => simp [sumP]
  | cons a l ih =>
    have h1 := hi a List.mem_cons_self
    have h2 := ih (fun t ht => hi t (List.mem_cons_of_mem _ ht))
    have e : n * ((a :: l).length : Int) = n * l.length + n := by rw [List.length_cons]; push_cast; rw [Int.mul_add, Int.mul_one]
    simp only [sumP]
    rw [e]
    split <;> omega
theorem sumP_true (h : Int) (l : List Tal) : sumP (fun _ => true) h l = sumT h l := by
  induction l with
  | nil => rfl
  | cons a l ih => simp [sumP, sumT, ih]
theorem sumP_split (p q r : ByteArray → Bool) (hpq : ∀ s, r s = (p s || q s)) (hno : ∀ s, ¬ (p s = true ∧ q s = true)) (h : Int) (l : List Tal) : sumP r h l = sumP p h l + sumP q h l := by
  induction l with
  | nil => rfl
  | cons a l ih =>
    simp only [sumP, ih]
    have h1 := hpq a.rule
    have h2 := hno a.rule
    by_cases hh : a.host = h
    · cases hp : p a.rule <;> cases hq : q a.rule <;> simp_all <;> omega
    · simp [hh]
/-- the first tally of a host and a rule -/
def cntT (h : Int) (r : ByteArray) : List Tal → Int
  | [] => 0
  | t :: l => if t.host = h ∧ t.rule = r then t.lines else cntT h r l
theorem cnt_sum (h : Int) (r : ByteArray) : ∀ {l : List Tal}, TSrt l → cntT h r l = sumP (fun s => decide (s = r)) h l
  | [], _ => rfl
  | t :: l, hs => by
    have hs' := List.pairwise_cons.1 hs
    unfold cntT sumP
    by_cases ht : t.host = h ∧ t.rule = r
    · rw [if_pos ht, if_pos (by simpa using ht)]
      have : sumP (fun s => decide (s = r)) h l = 0 := by
        have key : ∀ m : List Tal, (∀ x ∈ m, ¬ (x.host = h ∧ x.rule = r)) → sumP (fun s => decide (s = r)) h m = 0 := by
          intro m
          induction m with
          | nil => intro _; rfl
          | cons a m ih =>
            intro hm
            unfold sumP
            rw [if_neg (by simpa using hm a List.mem_cons_self), ih (fun x hx => hm x (List.mem_cons_of_mem _ hx))]
            omega
        refine key l fun x hx hxe => ?_
        have h1 := hs'.1 x hx
        exact kl_irrefl t (kl_same' (a := t) (b := x) (c := t) (by rw [hxe.1, ht.1]) (by rw [hxe.2, ht.2]) h1)
      omega
    · rw [if_neg ht, if_neg (by simpa using ht), cnt_sum h r hs'.2]
      omega
end Go.Proofs.Ytiogpomgpknjlaa

namespace Go.Proofs.Ytiogpomgpknjlaa
open Go.RowKit
set_option linter.unusedVariables false
set_option linter.unusedSimpArgs false

def dupS : ByteArray := ⟨#[42]⟩
def p1 (s : ByteArray) : Bool := !s.toList == [42]
def p2 (s : ByteArray) : Bool := s.toList.isEmpty
def p3 (s : ByteArray) : Bool := !s.toList.isEmpty && !s.toList == [42]
def p4 (s : ByteArray) : Bool := s.toList == [42]
theorem enter_of {f : FuncId} {fn : Func} (hf : Try.prog.funcs[f]? = some fn) (hname : (fn.name == "runtime.NumGoroutine") = false) (hb : fn.body.isNone = false) (args : Array Value) (w : World) : (callFunc f args).run Try.prog w = .ok (.enter f args) w := by
  have h1 : fn.name ≠ "runtime.NumGoroutine" := by simpa using hname
  cases hc : fn.body with
  | none => rw [hc] at hb; cases hb
  | some c => simp [callFunc, hf, h1, hc]
def IsWant (f : FuncId) (p : ByteArray → Bool) : Prop := (∀ (args : Array Value) (w : World), (callFunc f args).run Try.prog w = .ok (.enter f args) w) ∧ ∀ (s : ByteArray) (w : World), Calls Try.prog f #[.string s] w (fun e w' => e = .returned (.bool (p s)) ∧ w = w')
theorem want0 : IsWant 38 (fun _ => true) := ⟨enter_of Try.func38 (by kernel_rfl) (by kernel_rfl), fun s w => anyF s w⟩
theorem want1 : IsWant 43 p1 := ⟨enter_of Try.func43 (by kernel_rfl) (by kernel_rfl), fun s w => by
  go_enter Try.func43, Try.ntmps43
  go_wp2
  go_ret
  exact ⟨rfl, rfl⟩⟩
theorem want2 : IsWant 44 p2 := ⟨enter_of Try.func44 (by kernel_rfl) (by kernel_rfl), fun s w => by
  go_enter Try.func44, Try.ntmps44
  go_wp2
  go_ret
  exact ⟨rfl, rfl⟩⟩
theorem want3 : IsWant 45 p3 := ⟨enter_of Try.func45 (by kernel_rfl) (by kernel_rfl), fun s w => by
  cases h : s.toList.isEmpty with
  | true =>
    have HP : Hid (p3 s = false) := Lib.hid (by unfold p3; rw [h]; rfl)
    go_enter Try.func45, Try.ntmps45
    go_wp2
    all_goals go_ret
    all_goals first | exact ⟨by rw [HP.out]; rfl, rfl⟩ | (exfalso; simp_all)
  | false =>
    have HP : Hid (p3 s = !s.toList == [42]) := Lib.hid (by unfold p3; rw [h]; rfl)
    go_enter Try.func45, Try.ntmps45
    go_wp2
    all_goals go_ret
    all_goals first | exact ⟨by rw [HP.out]; rfl, rfl⟩ | (exfalso; simp_all)⟩
theorem want4 : IsWant 46 p4 := ⟨enter_of Try.func46 (by kernel_rfl) (by kernel_rfl), fun s w => by
  go_enter Try.func46, Try.ntmps46
  go_wp2
  go_ret
  exact ⟨rfl, rfl⟩⟩
set_option maxHeartbeats 2000000 in
set_option maxRecDepth 100000 in
theorem linesF_any {S : Nat → Prop} (f : FuncId) (p : ByteArray → Bool) (hf : IsWant f p) (A : Option Addr) (ts : List Tal) (c : Nat) (h : Int) (w : World) (hr : Rd S w A (ts.flatMap Tal.cells)) (hl : ts.length ≤ 100000) (hi : TIn 1000000 ts) :
    Calls Try.prog 37 #[.slice A ts.length c, .int .i64 h, .func (.func f) #[] #[]] w (SumPost w (sumP p h ts)) := by
  have HR := Lib.hid (hr.mono (S' := (· < w.heap.size)) (fun b _ hb => hb))
  have HI := Lib.hid hi
  have HF := Lib.hid hf.2
  have hEN := hf.1
  clear hr hi hf
  go_enter Try.func37, Try.ntmps37
  go_wp2
  go_loopw [7, 12] (fun n i wr => ∃ k : Nat, k ≤ ts.length ∧ i = .int .i64 k ∧ n = .int .i64 (sumP p h (ts.take k)) ∧ w.grownBy wr none) (fun _ i _ => ts.length - (intOf i).toNat)
  case atStart => exact ⟨0, Nat.zero_le _, rfl, rfl, only_refl _ _⟩
  case round =>
    obtain ⟨k, hk, rfl, rfl, hG⟩ := hrel
    have G := Lib.hid hG
    have hsz := hG.size
    clear hG
    have hb := sumP_le p h (tin_take HI.out k) (by omega)
    have hlk : (ts.take k).length ≤ 100000 := by rw [List.length_take]; omega
    have hb2 : sumP p h (ts.take k) ≤ 100000000000 := by omega
    have hb1 := hb.1
    clear hb
    obtain ⟨s0, hs0⟩ : ∃ s0, s0 = sumP p h (ts.take k) := ⟨_, rfl⟩
    rw [← hs0] at hb1 hb2 ⊢
    have HS0 := Lib.hid hs0
    clear hs0
    by_cases hlt : k < ts.length
    · obtain ⟨t, ht⟩ : ∃ t, ts[k]? = some t := ⟨_, List.getElem?_eq_getElem hlt⟩
      obtain ⟨b1, o1, rfl, x0, x1, x2⟩ := (HR.out.grown G.out (by simp)).tal ht
      have hbw : b1 < wr.heap.size := by obtain ⟨b', o', e', hb', -, -⟩ := HR.out (by rw [tflat_len]; omega); injection e' with e'; injection e' with e1 e2; omega
      have hbn : b1 ≠ wr.heap.size := by omega
      have ht2 := HI.out t (List.mem_of_getElem? ht)
      have HS : Hid (sumP p h (ts.take (k + 1)) = s0 + if t.host = h ∧ p t.rule = true then t.lines else 0) := by
        rw [List.take_succ_eq_append_getElem hlt, sumP_snoc, HS0.out]
        rw [List.getElem?_eq_getElem hlt] at ht
        injection ht with ht
        rw [ht]
        exact rfl
      clear ht
      have i1 : (k : Int) < (ts.length : Int) := by omega
      by_cases hh : t.host = h
      · have d1 : (t.host == h) = true := by simp [hh]
        have HH := Lib.hid hh
        clear hh
        cases hp : p t.rule with
        | true =>
          have KF : Hid (∀ wx, Calls Try.prog f #[.string t.rule] wx (fun e w' => e = .returned (.bool true) ∧ wx = w')) := Lib.hid (fun wx => by have := HF.out t.rule wx; rw [hp] at this; exact this)
          have HP := Lib.hid hp
          clear hp
          go_wp2_with fail
          refine (KF.out _).mono ?_
          rintro e w' ⟨rfl, rfl⟩
          go_wp2_with fail
          go_roundw
          case rel => exact ⟨k + 1, by omega, by go_num, by rw [HS.out, if_pos ⟨HH.out, HP.out⟩], only_alloc G.out _⟩
          case measure => simp [intOf]; omega
        | false =>
          have KF : Hid (∀ wx, Calls Try.prog f #[.string t.rule] wx (fun e w' => e = .returned (.bool false) ∧ wx = w')) := Lib.hid (fun wx => by have := HF.out t.rule wx; rw [hp] at this; exact this)
          have HP := Lib.hid hp
          clear hp
          go_wp2_with fail
          refine (KF.out _).mono ?_
          rintro e w' ⟨rfl, rfl⟩
          go_wp2_with fail
          go_roundw
          case rel => exact ⟨k + 1, by omega, by go_num, by rw [HS.out, if_neg (by rw [HP.out]; simp), Int.add_zero], only_alloc G.out _⟩
          case measure => simp [intOf]; omega
      · have d1 : (t.host == h) = false := by simp [hh]
        have HH := Lib.hid hh
        clear hh
        go_wp2
        go_roundw
        case rel => exact ⟨k + 1, by omega, by go_num, by rw [HS.out, if_neg (fun e => HH.out e.1), Int.add_zero], only_alloc G.out _⟩
        case measure => simp [intOf]; omega
    · go_wp2
      go_ret
      exact ⟨ret_int (by rw [HS0.out, List.take_of_length_le (by omega)]), G.out⟩
/-- a row of numbers comes back -/
def IPost (w : World) (l : List Int) (e : Ending) (w' : World) : Prop :=
  ∃ v, e = .returned v ∧ w'.ownsRow w.heap.size 3 1 v l.length (l.map (.int .i64)) ∧ w.grownBy w' none
theorem intInfo42 : (Try.prog.info? 3).map (fun i => (i.zero, i.size, i.bytes)) = some (some (.int .i64 0), 1, 8) := by kernel_rfl
set_option maxHeartbeats 2000000 in
set_option maxRecDepth 100000 in
theorem hostsM_any {S : Nat → Prop} (A : Option Addr) (ts : List Tal) (c : Nat) (w : World) (hr : Rd S w A (ts.flatMap Tal.cells)) (hl : ts.length ≤ 100000) :
    Calls Try.prog 129 #[.slice A ts.length c] w (IPost w (ts.map (·.host))) := by
  have HR := Lib.hid (hr.mono (S' := (· < w.heap.size)) (fun b _ hb => hb))
  clear hr
  go_enter Try.func129, Try.ntmps129
  go_wp2
  go_loopw [3, 8] (fun v i wr => ∃ k : Nat, k ≤ ts.length ∧ i = .int .i64 k ∧ wr.ownsRow w.heap.size 3 1 v k ((ts.take k).map (fun t => .int .i64 t.host)) ∧ w.grownBy wr none) (fun _ i _ => ts.length - (intOf i).toNat)
  case atStart => exact ⟨0, Nat.zero_le _, rfl, by simpa using World.ownsRow_nil w w.heap.size 3 1, only_refl _ _⟩
  case round =>
    obtain ⟨k, hk, rfl, hO, hG⟩ := hrel
    have O := Lib.hid hO
    have G := Lib.hid hG
    have hsz := hG.size
    clear hG hO
    obtain ⟨A1, c1, rfl, -, -, -, -⟩ := Rd.of_own O.out (by decide)
    by_cases hlt : k < ts.length
    · obtain ⟨t, ht⟩ : ∃ t, ts[k]? = some t := ⟨_, List.getElem?_eq_getElem hlt⟩
      obtain ⟨b1, o1, rfl, x0, x1, x2⟩ := (HR.out.grown G.out (by simp)).tal ht
      have hbw : b1 < wr.heap.size := by obtain ⟨b', o', e', hb', -, -⟩ := HR.out (by rw [tflat_len]; omega); injection e' with e'; injection e' with e1 e2; omega
      have hbn : b1 ≠ wr.heap.size := by omega
      have HT : Hid ((ts.take (k + 1)).map (fun t => (Value.int .i64 t.host)) = (ts.take k).map (fun t => .int .i64 t.host) ++ [.int .i64 t.host]) := Lib.hid (by
        rw [List.take_succ_eq_append_getElem hlt, List.map_append]
        rw [List.getElem?_eq_getElem hlt] at ht
        injection ht with ht
        rw [ht]; rfl)
      clear ht
      have i1 : (k : Int) < (ts.length : Int) := by omega
      have hO1 := own_ext O.out (only_alloc (only_refl wr none) (.cells #[.int .i64 t.host, .string t.rule, .int .i64 t.lines] 62))
      obtain ⟨W1, hW1⟩ : ∃ W, W = wr.alloc (.cells #[.int .i64 t.host, .string t.rule, .int .i64 t.lines] 62) := ⟨_, rfl⟩
      have hB1 : Blk W1 wr.heap.size 62 #[.int .i64 t.host, .string t.rule, .int .i64 t.lines] := by rw [hW1]; exact Blk.new wr _ _
      have g1 : wr.grownBy W1 none := by rw [hW1]; exact only_alloc (only_refl _ _) _
      rw [← hW1] at hO1
      have G1 := Lib.hid (only_trans G.out g1)
      have hsz1 := G1.out.size
      have O1 := Lib.hid hO1
      have b0 := hB1.cell 0
      simp at b0
      have HW1 := Lib.hid hW1.symm
      clear hW1 hB1 g1 hO1
      go_upto_region 5 with fail
      rw [HW1.out]
      clear x0 x1 x2 HW1
      go_wp2_with (at_builtin; refine wpList_append1 rfl _ _ 33 rfl w.heap.size Try.underlying33 intInfo42 rfl (by decide) (v := .slice A1 k c1) (by rfl) (w0 := W1) (cs := #[.int .i64 t.host]) O1.out (by rfl) rfl (by simp [Value.oneCell']) (by decide) (by omega) (by omega) ?_; intro v7 w7 hown7 hg7 hob7)
      have O7 : Hid (w7.ownsRow w.heap.size 3 1 v7 (k + 1) ((ts.take (k + 1)).map (fun t => .int .i64 t.host))) := Lib.hid (by rw [HT.out]; exact hown7)
      have G7 : Hid (w.grownBy w7 none) := Lib.hid (only_own G1.out hg7 O1.out (Nat.le_refl _))
      clear hown7 hg7 hob7 b0
      go_wp2_with fail
      go_roundw
      case rel => exact ⟨k + 1, by omega, by go_num, O7.out, G7.out⟩
      case measure => simp [intOf]; omega
    · have HE : Hid (k = ts.length) := Lib.hid (by omega)
      go_wp2_with fail
      go_ret
      have := O.out
      rw [HE.out, List.take_length] at this
      refine ⟨_, rfl, ?_, G.out⟩
      rw [List.length_map, List.map_map, HE.out]
      exact this
end Go.Proofs.Ytiogpomgpknjlaa
namespace Go.Proofs.Ytiogpomgpknjlaa
open Go.RowKit
set_option linter.unusedVariables false
set_option linter.unusedSimpArgs false

def EmptyPost (w : World) (e : Ending) (w' : World) : Prop := ∃ v, e = .returned v ∧ w'.ownsRow w.heap.size 3 1 v 0 [] ∧ w.grownBy w' none
set_option maxHeartbeats 2000000 in
set_option maxRecDepth 100000 in
theorem grow_nil (n : Nat) (w : World) (hn : n ≤ 1000000) : Calls Try.prog 66 #[.slice none 0 0, .int .i64 n] w (EmptyPost w) := by
  by_cases h0 : n = 0
  · subst h0
    go_enter Try.func66, Try.ntmps66
    go_wp2_with fail
    go_ret
    exact ⟨_, rfl, World.ownsRow_nil _ _ _ _, only_refl _ _⟩
  · obtain ⟨i0, hi0, hz0, hz1, hz2⟩ := info_parts intInfo42
    obtain ⟨G, hG⟩ : ∃ G, G = grownCap w n 0 3 := ⟨_, rfl⟩
    have hGn : n ≤ G := by rw [hG]; exact grownCap_ge w _ _ _
    have hGm : G ≤ maxLen := by rw [hG]; exact grownCap_le_maxLen w _ _ _ (by unfold maxLen; omega)
    obtain ⟨ROW, hROW⟩ : ∃ ROW : Array Value, ROW = Builtin.zeroCells (.int .i64 0 : Value).cells n ++ Builtin.zeroCells (.int .i64 0 : Value).cells (G - n) := ⟨_, rfl⟩
    have hRl : ROW.size = G * 1 := by
      rw [hROW]
      simp [Builtin.zeroCells, Value.cells]
      omega
    obtain ⟨W1, hW1⟩ : ∃ W1, W1 = w.drew.alloc (.cells ROW 3) := ⟨_, rfl⟩
    obtain ⟨g1, hg1⟩ : ∃ g1, g1 = w.heap.size := ⟨_, rfl⟩
    have hr : ∀ ty, (Builtin.append_ #[33, 3] ty #[.slice none 0 0, .int .i64 n]).run Try.prog w = .ok (.slice (some ⟨g1, 0, none⟩) n G) W1 := fun ty => by
      have := Lib.run_append_nil_zeros w 33 3 ty 3 i0 (.int .i64 0) .i64 .i64 Try.underlying33 Try.underlying3 hi0 hz0 n (by omega) (by rw [hz1]; decide) (by omega) (by rw [hz2]; omega)
      rw [← hG] at this
      rw [hW1, hROW, hg1]; exact this
    have HF : Hid (EmptyPost w (.returned (.slice (some ⟨g1, 0, none⟩) 0 G)) W1) := Lib.hid (by
      refine ⟨_, rfl, ?_, ?_⟩
      · rw [hW1, hg1]
        have := World.ownsRow_made w.drew (base := w.heap.size) (e := 3) ROW G (Nat.le_refl _) hGm hRl
        exact this
      · rw [hW1]; exact only_alloc (only_drew (only_refl _ _)) _)
    have j0 : (0 : Int) < (n : Int) := by omega
    have j1 : (0 : Int) ≤ (n : Int) := by omega
    have hw0 : IntKind.i64.wrap (n : Int) = (n : Int) := IntWalk.i64_in _ (by omega)
    have j2 : ¬ ((n : Int) < 0) := by omega
    clear hW1 hg1 hG hROW hRl hi0 hz0 hz1 hz2 hGm h0
    go_enter Try.func66, Try.ntmps66
    go_wp2_with (at_builtin; refine Lib.wpList_append_run _ rfl _ _ _ _ rfl _ _ rfl rfl _ _ (hr _) ?_)
    go_ret
    exact HF.out
/-- a row at hand -/
structure Rw where
  A : Option Addr
  l : List Int
  c : Nat
def Rw.v (r : Rw) : Value := .slice r.A r.l.length r.c
def catR (rs : List Rw) : List Int := rs.flatMap (·.l)
theorem catR_snoc (rs : List Rw) (r : Rw) : catR (rs ++ [r]) = catR rs ++ r.l := by unfold catR; rw [List.flatMap_append]; simp
theorem catR_len {rs : List Rw} {m : Nat} (h : ∀ r ∈ rs, r.l.length ≤ m) : (catR rs).length ≤ rs.length * m := by
  unfold catR
  induction rs with
  | nil => simp
  | cons a t ih =>
    have h1 := h a List.mem_cons_self
    have h2 := ih (fun r hr => h r (List.mem_cons_of_mem _ hr))
    rw [List.flatMap_cons, List.length_append, List.length_cons, Nat.add_mul]; omega
set_option maxHeartbeats 4000000 in
set_option maxRecDepth 100000 in
theorem concat_any {S : Nat → Prop} (vb : Nat) (rs : List Rw) (w : World) (hB : Blk w vb 33 (rs.map Rw.v).toArray) (hr : ∀ r ∈ rs, Rd S w r.A (r.l.map (.int .i64))) (hn : rs.length ≤ 10) (hl : ∀ r ∈ rs, r.l.length ≤ 10000) :
    Calls Try.prog 40 #[.slice (some ⟨vb, 0, none⟩) rs.length rs.length] w (IPost w (catR rs)) := by
  have HB := Lib.hid hB
  have HR := Lib.hid hr
  have HL := Lib.hid hl
  clear hB hr hl
  go_enter Try.func40, Try.ntmps40
  go_wp2_with fail
  go_loop [3, 11] (fun n i => ∃ k : Nat, k ≤ rs.length ∧ i = .int .i64 k ∧ n = .int .i64 ((catR (rs.take k)).length : Nat)) (fun _ i => rs.length - (intOf i).toNat)
  case atStart => exact ⟨0, Nat.zero_le _, rfl, rfl⟩
  case round =>
    obtain ⟨k, hk, rfl, rfl⟩ := hrel
    have hcl : (catR (rs.take k)).length ≤ 100000 := by
      have := catR_len (rs := rs.take k) (m := 10000) (fun r hr => HL.out r (List.mem_of_mem_take hr))
      rw [List.length_take] at this
      have h2 : min k rs.length * 10000 ≤ 10 * 10000 := Nat.mul_le_mul_right _ (by omega)
      omega
    obtain ⟨n, hn0⟩ : ∃ n, n = (catR (rs.take k)).length := ⟨_, rfl⟩
    rw [← hn0] at hcl ⊢
    have HN := Lib.hid hn0
    clear hn0
    by_cases hlt : k < rs.length
    · obtain ⟨r, hrk⟩ : ∃ r, rs[k]? = some r := ⟨_, List.getElem?_eq_getElem hlt⟩
      have c0 := HB.out.cell k
      have hrk2 : (rs.map Rw.v).toArray[k]? = some (.slice r.A r.l.length r.c) := by simp [hrk, Rw.v]
      rw [hrk2] at c0
      have hrl := HL.out r (List.mem_of_getElem? hrk)
      have HT : Hid ((catR (rs.take (k + 1))).length = n + r.l.length) := Lib.hid (by
        have e : rs.take (k + 1) = rs.take k ++ [r] := by
          rw [List.take_succ_eq_append_getElem hlt]
          rw [List.getElem?_eq_getElem hlt] at hrk
          injection hrk with hrk
          rw [hrk]
        rw [e, catR_snoc, List.length_append, HN.out])
      have i1 : (k : Int) < (rs.length : Int) := by omega
      have i2 : ¬ ((n : Int) + (r.l.length : Int) < 0) := by omega
      have hw0 : IntKind.i64.wrap ((n : Int) + (r.l.length : Int)) = (n : Int) + (r.l.length : Int) := IntWalk.i64_in _ (by omega)
      clear hrk hrk2
      go_wp2_with fail
      go_round
      case rel => exact ⟨k + 1, by omega, by go_num, by rw [HT.out]; push_cast; rfl⟩
      case measure => simp [intOf]; omega
    · have HE : Hid (rs.take k = rs) := Lib.hid (List.take_of_length_le (by omega))
      have KG := Lib.hid (grow_nil n w (by omega))
      go_wp2_with fail
      refine KG.out.mono ?_
      rintro e w1 ⟨v1, rfl, ho1, hg1⟩
      have O1 := Lib.hid ho1
      have G1 := Lib.hid hg1
      clear ho1 hg1 KG
      go_wp2_with fail
      go_loopw [6, 27] (fun v i wr => ∃ k : Nat, k ≤ rs.length ∧ i = .int .i64 k ∧ wr.ownsRow w.heap.size 3 1 v (catR (rs.take k)).length ((catR (rs.take k)).map (.int .i64)) ∧ w.grownBy wr none) (fun _ i _ => rs.length - (intOf i).toNat)
      case atStart => exact ⟨0, Nat.zero_le _, rfl, O1.out, G1.out⟩
      case round =>
        clear O1 G1
        obtain ⟨k, hk, rfl, hO, hG⟩ := hrel
        have O := Lib.hid hO
        have G := Lib.hid hG
        have hsz := hG.size
        clear hO hG
        have hcl2 : (catR (rs.take k)).length ≤ 100000 := by
          have := catR_len (rs := rs.take k) (m := 10000) (fun r hr => HL.out r (List.mem_of_mem_take hr))
          rw [List.length_take] at this
          have h2 : min k rs.length * 10000 ≤ 10 * 10000 := Nat.mul_le_mul_right _ (by omega)
          omega
        by_cases hlt : k < rs.length
        · obtain ⟨r, hrk⟩ : ∃ r, rs[k]? = some r := ⟨_, List.getElem?_eq_getElem hlt⟩
          have c0 := (HB.out.grown G.out (by simp)).cell k
          have hrk2 : (rs.map Rw.v).toArray[k]? = some (.slice r.A r.l.length r.c) := by simp [hrk, Rw.v]
          rw [hrk2] at c0
          have hrl := HL.out r (List.mem_of_getElem? hrk)
          have RR := Lib.hid ((HR.out r (List.mem_of_getElem? hrk)).grown G.out (by simp))
          have HT : Hid (catR (rs.take (k + 1)) = catR (rs.take k) ++ r.l) := Lib.hid (by
            have e : rs.take (k + 1) = rs.take k ++ [r] := by
              rw [List.take_succ_eq_append_getElem hlt]
              rw [List.getElem?_eq_getElem hlt] at hrk
              injection hrk with hrk
              rw [hrk]
            rw [e, catR_snoc])
          have i1 : (k : Int) < (rs.length : Int) := by omega
          obtain ⟨L, hL⟩ : ∃ L, L = catR (rs.take k) := ⟨_, rfl⟩
          have O2 : Hid (wr.ownsRow w.heap.size 3 1 u6 L.length (L.map (.int .i64))) := Lib.hid (by rw [hL]; exact O.out)
          rw [← hL] at hcl2 HT
          clear hrk hrk2 hL O
          go_wp2_with (at_builtin; refine wpList_appendN rfl _ _ 33 rfl w.heap.size Try.underlying33 intInfo42 rfl (by decide) (v := _) (by rfl) O2.out r.A r.l.length r.c (news := r.l.map (.int .i64)) (by rfl) RR.out (by simp) (by simp [Value.oneCell']) (by decide) (by omega) (by omega) ?_; intro v7 w7 hown7 hg7 hob7)
          have O7 : Hid (w7.ownsRow w.heap.size 3 1 v7 (catR (rs.take (k + 1))).length ((catR (rs.take (k + 1))).map (.int .i64))) := Lib.hid (by rw [HT.out]; simpa using hown7)
          have G7 : Hid (w.grownBy w7 none) := Lib.hid (only_own G.out hg7 O2.out (Nat.le_refl _))
          clear hown7 hg7 hob7 c0
          go_wp2_with fail
          go_roundw
          case rel => exact ⟨k + 1, by omega, by go_num, O7.out, G7.out⟩
          case measure => simp [intOf]; omega
        · have HE2 : Hid (rs.take k = rs) := Lib.hid (List.take_of_length_le (by omega))
          go_wp2_with fail
          go_ret
          have := O.out
          rw [HE2.out] at this
          exact ⟨_, rfl, this, G.out⟩
end Go.Proofs.Ytiogpomgpknjlaa

namespace Go.Proofs
open Go.Shelf
def Try.lays189_ren : Go.Shelf.Ren := ⟨fun | 189 => 41 | 125 => 68 | 257 => 67 | 128 => 90 | 129 => 91 | 294 => 81 | 295 => 82 | 296 => 83 | 297 => 84 | 298 => 85 | 299 => 86 | 216 => 87 | 300 => 88 | 301 => 89 | 328 => 98 | 329 => 99 | 330 => 100 | 331 => 101 | 332 => 102 | 215 => 59 | 343 => 108 | n => n, fun | 28 => 33 | 3 => 3 | 46 => 119 | 0 => 0 | 51 => 140 | 53 => 142 | 4 => 4 | 183 => 133 | 182 => 132 | 131 => 113 | 5 => 5 | 9 => 9 | 218 => 148 | 222 => 152 | 228 => 159 | 229 => 160 | n => n, fun | n => n⟩
theorem Try.lays189 : Go.Proofs.Lays.n189 Try.prog Try.lays189_ren := {
  mixed := by kernel_rfl
  f125 := Try.func68.trans (congrArg some (by kernel_rfl))
  f128 := Try.func90.trans (congrArg some (by kernel_rfl))
  f129 := Try.func91.trans (congrArg some (by kernel_rfl))
  f189 := Try.func41.trans (congrArg some (by kernel_rfl))
  f215 := Try.func59.trans (congrArg some (by kernel_rfl))
  f216 := Try.func87.trans (congrArg some (by kernel_rfl))
  f257 := Try.func67.trans (congrArg some (by kernel_rfl))
  f294 := Try.func81.trans (congrArg some (by kernel_rfl))
  f295 := Try.func82.trans (congrArg some (by kernel_rfl))
  f296 := Try.func83.trans (congrArg some (by kernel_rfl))
  f297 := Try.func84.trans (congrArg some (by kernel_rfl))
  f298 := Try.func85.trans (congrArg some (by kernel_rfl))
  f299 := Try.func86.trans (congrArg some (by kernel_rfl))
  f300 := Try.func88.trans (congrArg some (by kernel_rfl))
  f301 := Try.func89.trans (congrArg some (by kernel_rfl))
  f328 := Try.func98.trans (congrArg some (by kernel_rfl))
  f329 := Try.func99.trans (congrArg some (by kernel_rfl))
  f330 := Try.func100.trans (congrArg some (by kernel_rfl))
  f331 := Try.func101.trans (congrArg some (by kernel_rfl))
  f332 := Try.func102.trans (congrArg some (by kernel_rfl))
  f343 := Try.func108.trans (congrArg some (by kernel_rfl))
  t0 := Try.underlying0
  a0 := Try.isAgg0
  z0 := Try.sizeOf0
  v0 := Try.zeroValue0
  t3 := Try.underlying3
  a3 := Try.isAgg3
  z3 := Try.sizeOf3
  v3 := Try.zeroValue3
  t4 := Try.underlying4
  a4 := Try.isAgg4
  z4 := Try.sizeOf4
  v4 := Try.zeroValue4
  t5 := Try.underlying5
  a5 := Try.isAgg5
  z5 := Try.sizeOf5
  v5 := Try.zeroValue5
  t9 := Try.underlying9
  a9 := Try.isAgg9
  z9 := Try.sizeOf9
  v9 := Try.zeroValue9
  t28 := Try.underlying33
  a28 := Try.isAgg33
  z28 := Try.sizeOf33
  v28 := Try.zeroValue33
  t46 := Try.underlying119
  a46 := Try.isAgg119
  z46 := Try.sizeOf119
  v46 := Try.zeroValue119
  t51 := Try.underlying140
  a51 := Try.isAgg140
  z51 := Try.sizeOf140
  v51 := Try.zeroValue140
  t53 := Try.underlying142
  a53 := Try.isAgg142
  z53 := Try.sizeOf142
  v53 := Try.zeroValue142
  t131 := Try.underlying113
  a131 := Try.isAgg113
  z131 := Try.sizeOf113
  v131 := Try.zeroValue113
  t182 := Try.underlying132
  a182 := Try.isAgg132
  z182 := Try.sizeOf132
  v182 := Try.zeroValue132
  t183 := Try.underlying133
  a183 := Try.isAgg133
  z183 := Try.sizeOf133
  v183 := Try.zeroValue133
  t218 := Try.underlying148
  a218 := Try.isAgg148
  z218 := Try.sizeOf148
  v218 := Try.zeroValue148
  t222 := Try.underlying152
  a222 := Try.isAgg152
  z222 := Try.sizeOf152
  v222 := Try.zeroValue152
  t228 := Try.underlying159
  a228 := Try.isAgg159
  z228 := Try.sizeOf159
  v228 := Try.zeroValue159
  t229 := Try.underlying160
  a229 := Try.isAgg160
  z229 := Try.sizeOf160
  v229 := Try.zeroValue160 }
open Go.Sort Go.RowKit in
theorem Try.slices_Sort_int (blk off cap : Nat) (zs : List Int) (w : World) (hH : Holds (Value.int .i64) w blk off zs.toArray) (hblk : blk < w.heap.size) (hsz : zs.length < 4611686018427387904) :
    Calls Try.prog 41 #[.slice (some ⟨blk, off, none⟩) zs.length cap] w fun e w' =>
      e = .returned (.tuple #[]) ∧ ∃ n os, w' = grow (putRow (Value.int .i64) (Sort.ahead w n) blk off (zs.mergeSort fun x y => decide (x ≤ y)).toArray) os := Any.slices_Sort_int Try.lays189 blk off cap zs w hH hblk hsz
def Try.laysNm220_ren : Go.Shelf.Ren := ⟨fun | 20 => 42 | n => n, fun | 22 => 33 | 3 => 3 | 4 => 4 | 0 => 0 | n => n, fun | n => n⟩
theorem Try.laysNm220 : Go.Proofs.Lays2.n20 Try.prog Try.laysNm220_ren := {
  mixed := by kernel_rfl
  f20 := Try.func42.trans (congrArg some (by kernel_rfl))
  t0 := Try.underlying0
  a0 := Try.isAgg0
  z0 := Try.sizeOf0
  v0 := Try.zeroValue0
  t3 := Try.underlying3
  a3 := Try.isAgg3
  z3 := Try.sizeOf3
  v3 := Try.zeroValue3
  t4 := Try.underlying4
  a4 := Try.isAgg4
  z4 := Try.sizeOf4
  v4 := Try.zeroValue4
  t22 := Try.underlying33
  a22 := Try.isAgg33
  z22 := Try.sizeOf33
  v22 := Try.zeroValue33
  i3 := by kernel_rfl }
open Go.RowKit Go.Lib Go.Sort in
theorem Try.slices_Compact_int (blk off cap : Nat) (zs : List Int) (w : World) (hH : Holds (Value.int .i64) w blk off zs.toArray) (hsz : zs.length ≤ 9223372036854775807) (hcap : zs.length ≤ cap) :
    Calls Try.prog 42 #[.slice (some ⟨blk, off, none⟩) zs.length cap] w fun e w' => e = .returned (.slice (some ⟨blk, off, none⟩) (Lib.compact zs).length cap) ∧ ∃ q, w' = putRow (Value.int .i64) (Sort.ahead w q) blk off (Lib.compact zs ++ List.replicate (zs.length - (Lib.compact zs).length) 0).toArray := Any.slices_Compact_int Try.laysNm220 blk off cap zs w hH hsz hcap
open Go.RowKit Go.Lib Go.Sort in
theorem Try.slices_Compact_int_empty (a : Option Addr) (cap : Nat) (w : World) :
    Calls Try.prog 42 #[.slice a 0 cap] w fun e w' => e = .returned (.slice a 0 cap) ∧ w' = w := Any.slices_Compact_int_empty Try.laysNm220 a cap w
open Go.RowKit Go.Sort in
theorem Try.slices_Sort_int_none (p : Option Addr) (cap : Nat) (w : World) :
    Calls Try.prog 41 #[.slice p 0 cap] w fun e w' => e = .returned (.tuple #[]) ∧ w' = w := Any.slices_Sort_int_none Try.lays189 p cap w
end Go.Proofs
namespace Go.Proofs.Ytiogpomgpknjlaa
open Go.RowKit
set_option linter.unusedVariables false
set_option linter.unusedSimpArgs false

def SortPost (w : World) (base : Nat) (v : Value) (l : List Int) (e : Ending) (w' : World) : Prop :=
  e = .returned (.tuple #[]) ∧ w'.ownsRow base 3 1 v l.length (l.map (.int .i64)) ∧ w.grownBy w' v.ownBlock
theorem sort_own (base : Nat) (v : Value) (l : List Int) (w : World) (h : w.ownsRow base 3 1 v l.length (l.map (.int .i64))) (hl : l.length ≤ 1000000) :
    Calls Try.prog 41 #[v] w (SortPost w base v (sortI l)) := by
  have hsl : (sortI l).length = l.length := (sortI_perm l).length_eq
  rcases h.2 with ⟨rfl, hz⟩ | ⟨g, cap, cur, rfl, hge, hb, h1, h2, h3, h4⟩
  · have h0 : l = [] := List.eq_nil_of_length_eq_zero hz
    subst h0
    refine (Try.slices_Sort_int_none none 0 w).mono ?_
    rintro e w2 ⟨rfl, rfl⟩
    have e : sortI [] = [] := by unfold sortI; simp
    rw [e]
    exact ⟨rfl, h, only_refl _ _⟩
  · have h4' : cur.toList.take l.length = l.map (.int .i64) := by simpa using h4
    have hH := holds_of_blockI hb h4'
    have hgl : g < w.heap.size := (Array.getElem?_eq_some_iff.1 hb).1
    refine (Try.slices_Sort_int g 0 cap l w hH hgl (by omega)).mono ?_
    rintro e w2 ⟨rfl, n, os, rfl⟩
    have HO2 := ownsRow_sortedI (os := os) (n := n) (ts := sortI l) (ss := l) hsl hge hb h1 h2 h3
    have HG2 := grownBy_sortedI (w := w) (g := g) (n := n) (os := os) (sortI l).toArray
    refine ⟨rfl, ?_, HG2⟩
    rw [hsl]
    exact HO2
def CompPost (w : World) (base : Nat) (row : Option Nat) (l : List Int) (e : Ending) (w' : World) : Prop :=
  ∃ A c, e = .returned (.slice A l.length c) ∧ Rd (base ≤ ·) w' A (l.map (.int .i64)) ∧ w.grownBy w' row
theorem comp_own (base : Nat) (v : Value) (l : List Int) (w : World) (h : w.ownsRow base 3 1 v l.length (l.map (.int .i64))) (hl : l.length ≤ 1000000) :
    Calls Try.prog 42 #[v] w (CompPost w base v.ownBlock (Lib.compact l)) := by
  have hcl := Lib.compact_length_le l
  rcases h.2 with ⟨rfl, hz⟩ | ⟨g, cap, cur, rfl, hge, hb, h1, h2, h3, h4⟩
  · have h0 : l = [] := List.eq_nil_of_length_eq_zero hz
    subst h0
    refine (Try.slices_Compact_int_empty none 0 w).mono ?_
    rintro e w2 ⟨rfl, rfl⟩
    exact ⟨none, 0, rfl, Rd.nil, only_refl _ _⟩
  · have h4' : cur.toList.take l.length = l.map (.int .i64) := by simpa using h4
    have hH := holds_of_blockI hb h4'
    refine (Try.slices_Compact_int g 0 cap l w hH (by omega) (by omega)).mono ?_
    rintro e w2 ⟨rfl, n, hw2⟩
    obtain ⟨ts, hts⟩ : ∃ ts, ts = Lib.compact l ++ List.replicate (l.length - (Lib.compact l).length) (0 : Int) := ⟨_, rfl⟩
    have hsl : ts.length = l.length := by rw [hts]; simp; omega
    rw [← hts] at hw2
    have hw2 : w2 = Go.Sort.grow (Go.Sort.putRow (Value.int .i64) (Go.Sort.ahead w n) g 0 ts.toArray) #[] := by rw [Go.Sort.grow_empty]; exact hw2
    have HO2 := ownsRow_sortedI (os := #[]) (n := n) (ts := ts) (ss := l) hsl hge hb h1 h2 h3
    have HG2 := grownBy_sortedI (w := w) (g := g) (n := n) (os := #[]) ts.toArray
    rw [← hw2] at HO2 HG2
    obtain ⟨A9, c9, e9, hc9, hm9, -, hr9⟩ := Rd.of_own HO2 (by decide)
    injection e9 with e91 e92 e93
    subst e91 e93
    refine ⟨_, _, rfl, ?_, HG2⟩
    have := hr9.take (Lib.compact l).length
    rw [← List.map_take, hts, List.take_left' rfl] at this
    exact this
end Go.Proofs.Ytiogpomgpknjlaa

namespace Go.Proofs.Ytiogpomgpknjlaa
open Go.RowKit
set_option linter.unusedVariables false
set_option linter.unusedSimpArgs false

theorem Rd.flatAt {α : Type} {f : α → List Value} {z : Nat} (hf : ∀ x, (f x).length = z) {S : Nat → Prop} {w : World} {b off : Nat} {l : List α} (h : Rd S w (some ⟨b, off, none⟩) (l.flatMap f)) {i : Nat} {x : α} (hx : l[i]? = some x) (j : Nat) (hj : j < z) : w.cell? ⟨b, off + i * z + j, none⟩ = (f x)[j]? := by
  obtain ⟨hi, hxi⟩ := List.getElem?_eq_some_iff.1 hx
  rw [Nat.add_assoc]
  obtain ⟨b', off', e, _, _, hc⟩ := h (by rw [flat_len _ z hf]; exact Nat.mul_pos (by omega) (by omega))
  injection e with e
  injection e with e1 e2
  subst e1 e2
  have h1 := flat_at f z hf l i j hi hj
  rw [hxi] at h1
  have h2 : (f x)[j]? = some ((f x)[j]'(by rw [hf]; exact hj)) := List.getElem?_eq_getElem _
  rw [h2]
  exact hc _ _ (h1.trans h2)
end Go.Proofs.Ytiogpomgpknjlaa
