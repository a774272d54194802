/- slices.Concat and slices.Grow at []api.Partial (printed by mkconcat.py). Condition: sizes. -/
import Derived.Test.YtfkgcighooijhaaGreatDoorJFlatAt
import Derived.Lib.SliceRun
import Derived.Lib.AppendZeros
import Derived.Deep.DeepCutAuto
import Derived.Test.YtfkgcighooijhaaGreatDoorStepR
import Derived.StillTailTactics
import Derived.Test.YtfkgcighooijhaaGreatDoorJGenB
namespace Go.Proofs.YtfkgcighooijhaaGreatDoor
open Go.RowKit
set_option linter.unusedVariables false
set_option linter.unusedSimpArgs false

def EmptyPa (w : World) (e : Ending) (w' : World) : Prop := ∃ v, e = .returned v ∧ w'.ownsRow w.heap.size 69 4 v 0 [] ∧ w.grownBy w' none
set_option maxHeartbeats 2000000 in
set_option maxRecDepth 100000 in
theorem growPa (n : Nat) (w : World) (hn : n ≤ 1000000) : Calls Tryz.prog 54 #[.slice none 0 0, .int .i64 n] w (EmptyPa w) := by
  by_cases h0 : n = 0
  · subst h0
    go_enter Tryz.func54, Tryz.ntmps54
    go_wp2_with fail
    go_ret
    exact ⟨_, rfl, World.ownsRow_nil _ _ _ _, only_refl _ _⟩
  · obtain ⟨i0, hi0, hz0, hz1, hz2⟩ := info_parts partInfo
    obtain ⟨G, hG⟩ : ∃ G, G = grownCap w n 0 69 := ⟨_, rfl⟩
    have hGn : n ≤ G := by rw [hG]; exact grownCap_ge w _ _ _
    have hGm : G ≤ maxLen := by rw [hG]; exact grownCap_le_maxLen w _ _ _ (by unfold maxLen; omega)
    obtain ⟨ROW, hROW⟩ : ∃ ROW : Array Value, ROW = Builtin.zeroCells (.agg #[.slice none 0 0, .slice none 0 0, .slice none 0 0, .slice none 0 0] : Value).cells n ++ Builtin.zeroCells (.agg #[.slice none 0 0, .slice none 0 0, .slice none 0 0, .slice none 0 0] : Value).cells (G - n) := ⟨_, rfl⟩
    have hRl : ROW.size = G * 4 := by
      rw [hROW]
      simp [Builtin.zeroCells, Value.cells]
      omega
    obtain ⟨W1, hW1⟩ : ∃ W1, W1 = w.drew.alloc (.cells ROW 69) := ⟨_, rfl⟩
    obtain ⟨g1, hg1⟩ : ∃ g1, g1 = w.heap.size := ⟨_, rfl⟩
    have hr : ∀ ty, (Builtin.append_ #[36, 3] ty #[.slice none 0 0, .int .i64 n]).run Tryz.prog w = .ok (.slice (some ⟨g1, 0, none⟩) n G) W1 := fun ty => by
      have := Lib.run_append_nil_zeros w 36 3 ty 69 i0 (.agg #[.slice none 0 0, .slice none 0 0, .slice none 0 0, .slice none 0 0]) .i64 .i64 Tryz.underlying36 Tryz.underlying3 hi0 hz0 n (by omega) (by rw [hz1]; decide) (by omega) (by rw [hz2]; omega)
      rw [← hG] at this
      rw [hW1, hROW, hg1]; exact this
    have HF : Hid (EmptyPa w (.returned (.slice (some ⟨g1, 0, none⟩) 0 G)) W1) := Lib.hid (by
      refine ⟨_, rfl, ?_, ?_⟩
      · rw [hW1, hg1]
        have := World.ownsRow_made w.drew (base := w.heap.size) (e := 69) ROW G (Nat.le_refl _) hGm hRl
        exact this
      · rw [hW1]; exact only_alloc (only_drew (only_refl _ _)) _)
    have j0 : (0 : Int) < (n : Int) := by omega
    have j1 : (0 : Int) ≤ (n : Int) := by omega
    have hw0 : IntKind.i64.wrap (n : Int) = (n : Int) := IntWalk.i64_in _ (by omega)
    have j2 : ¬ ((n : Int) < 0) := by omega
    clear hW1 hg1 hG hROW hRl hi0 hz0 hz1 hz2 hGm h0
    go_enter Tryz.func54, Tryz.ntmps54
    go_wp2_with (at_builtin; refine Lib.wpList_append_run _ rfl _ _ _ _ rfl _ _ rfl rfl _ _ (hr _) ?_)
    go_ret
    exact HF.out
/-- a row at hand -/
structure RwPa where
  A : Option Addr
  n : Nat
  l : List Value
  c : Nat
def RwPa.v (r : RwPa) : Value := .slice r.A r.n r.c
def catPa (rs : List RwPa) : List Value := rs.flatMap (·.l)
def numPa (rs : List RwPa) : Nat := (rs.map (·.n)).sum
theorem catPa_snoc (rs : List RwPa) (r : RwPa) : catPa (rs ++ [r]) = catPa rs ++ r.l := by unfold catPa; rw [List.flatMap_append]; simp
theorem numPa_snoc (rs : List RwPa) (r : RwPa) : numPa (rs ++ [r]) = numPa rs + r.n := by unfold numPa; simp
theorem numPa_le {rs : List RwPa} {m : Nat} (h : ∀ r ∈ rs, r.n ≤ m) : numPa rs ≤ rs.length * m := by
  unfold numPa
  induction rs with
  | nil => simp
  | cons a t ih =>
    have h1 := h a List.mem_cons_self
    have h2 := ih (fun r hr => h r (List.mem_cons_of_mem _ hr))
    rw [List.map_cons, List.sum_cons, List.length_cons, Nat.add_mul]; omega
def CatPaPost (w : World) (n : Nat) (xs : List Value) (e : Ending) (w' : World) : Prop := ∃ v, e = .returned v ∧ w'.ownsRow w.heap.size 69 4 v n xs ∧ w.grownBy w' none
set_option maxHeartbeats 4000000 in
set_option maxRecDepth 100000 in
theorem concatPa_any {S : Nat → Prop} (vb : Nat) (rs : List RwPa) (w : World) (hB : Blk w vb 36 (rs.map RwPa.v).toArray) (hr : ∀ r ∈ rs, Rd S w r.A r.l) (hz : ∀ r ∈ rs, r.l.length = r.n * 4) (h1 : ∀ r ∈ rs, ∀ u ∈ r.l, u.oneCell' = true) (hn : rs.length ≤ 10) (hl : ∀ r ∈ rs, r.n ≤ 100000) :
    Calls Tryz.prog 31 #[.slice (some ⟨vb, 0, none⟩) rs.length rs.length] w (CatPaPost w (numPa rs) (catPa rs)) := by
  have HB := Lib.hid hB
  have HR := Lib.hid hr
  have HL := Lib.hid hl
  have HZ := Lib.hid hz
  have H1 := Lib.hid h1
  clear hB hr hl hz h1
  go_enter Tryz.func31, Tryz.ntmps31
  go_wp2_with fail
  go_loop [3, 11] (fun n i => ∃ k : Nat, k ≤ rs.length ∧ i = .int .i64 k ∧ n = .int .i64 (numPa (rs.take k) : Nat)) (fun _ i => rs.length - (intOf i).toNat)
  case atStart => exact ⟨0, Nat.zero_le _, rfl, rfl⟩
  case round =>
    obtain ⟨k, hk, rfl, rfl⟩ := hrel
    have hcl : numPa (rs.take k) ≤ 1000000 := by
      have := numPa_le (rs := rs.take k) (m := 100000) (fun r hr => HL.out r (List.mem_of_mem_take hr))
      rw [List.length_take] at this
      have h2 : min k rs.length * 100000 ≤ 10 * 100000 := Nat.mul_le_mul_right _ (by omega)
      omega
    obtain ⟨n, hn0⟩ : ∃ n, n = numPa (rs.take k) := ⟨_, rfl⟩
    rw [← hn0] at hcl ⊢
    have HN := Lib.hid hn0
    clear hn0
    by_cases hlt : k < rs.length
    · obtain ⟨r, hrk⟩ : ∃ r, rs[k]? = some r := ⟨_, List.getElem?_eq_getElem hlt⟩
      have c0 := HB.out.cell k
      have hrk2 : (rs.map RwPa.v).toArray[k]? = some (.slice r.A r.n r.c) := by simp [hrk, RwPa.v]
      rw [hrk2] at c0
      have hrl := HL.out r (List.mem_of_getElem? hrk)
      have HT : Hid (numPa (rs.take (k + 1)) = n + r.n) := Lib.hid (by
        have e : rs.take (k + 1) = rs.take k ++ [r] := by
          rw [List.take_succ_eq_append_getElem hlt]
          rw [List.getElem?_eq_getElem hlt] at hrk
          injection hrk with hrk
          rw [hrk]
        rw [e, numPa_snoc, HN.out])
      have i1 : (k : Int) < (rs.length : Int) := by omega
      have i2 : ¬ ((n : Int) + (r.n : Int) < 0) := by omega
      have hw0 : IntKind.i64.wrap ((n : Int) + (r.n : Int)) = (n : Int) + (r.n : Int) := IntWalk.i64_in _ (by omega)
      clear hrk hrk2
      go_wp2_with fail
      go_round
      case rel => exact ⟨k + 1, by omega, by go_num, by rw [HT.out]; push_cast; rfl⟩
      case measure => simp [intOf]; omega
    · have HE : Hid (rs.take k = rs) := Lib.hid (List.take_of_length_le (by omega))
      have KG := Lib.hid (growPa n w (by omega))
      go_wp2_with fail
      refine KG.out.mono ?_
      rintro e w1 ⟨v1, rfl, ho1, hg1⟩
      have O1 := Lib.hid ho1
      have G1 := Lib.hid hg1
      clear ho1 hg1 KG
      go_wp2_with fail
      go_loopw [6, 27] (fun v i wr => ∃ k : Nat, k ≤ rs.length ∧ i = .int .i64 k ∧ wr.ownsRow w.heap.size 69 4 v (numPa (rs.take k)) (catPa (rs.take k)) ∧ w.grownBy wr none) (fun _ i _ => rs.length - (intOf i).toNat)
      case atStart => exact ⟨0, Nat.zero_le _, rfl, O1.out, G1.out⟩
      case round =>
        clear O1 G1
        obtain ⟨k, hk, rfl, hO, hG⟩ := hrel
        have O := Lib.hid hO
        have G := Lib.hid hG
        have hsz := hG.size
        clear hO hG
        have hcl2 : numPa (rs.take k) ≤ 1000000 := by
          have := numPa_le (rs := rs.take k) (m := 100000) (fun r hr => HL.out r (List.mem_of_mem_take hr))
          rw [List.length_take] at this
          have h2 : min k rs.length * 100000 ≤ 10 * 100000 := Nat.mul_le_mul_right _ (by omega)
          omega
        by_cases hlt : k < rs.length
        · obtain ⟨r, hrk⟩ : ∃ r, rs[k]? = some r := ⟨_, List.getElem?_eq_getElem hlt⟩
          have c0 := (HB.out.grown G.out (by simp)).cell k
          have hrk2 : (rs.map RwPa.v).toArray[k]? = some (.slice r.A r.n r.c) := by simp [hrk, RwPa.v]
          rw [hrk2] at c0
          have hrl := HL.out r (List.mem_of_getElem? hrk)
          have RR := Lib.hid ((HR.out r (List.mem_of_getElem? hrk)).grown G.out (by simp))
          have RZ := Lib.hid (HZ.out r (List.mem_of_getElem? hrk))
          have R1 := Lib.hid (H1.out r (List.mem_of_getElem? hrk))
          have HT : Hid (catPa (rs.take (k + 1)) = catPa (rs.take k) ++ r.l ∧ numPa (rs.take (k + 1)) = numPa (rs.take k) + r.n) := Lib.hid (by
            have e : rs.take (k + 1) = rs.take k ++ [r] := by
              rw [List.take_succ_eq_append_getElem hlt]
              rw [List.getElem?_eq_getElem hlt] at hrk
              injection hrk with hrk
              rw [hrk]
            exact ⟨by rw [e, catPa_snoc], by rw [e, numPa_snoc]⟩)
          have i1 : (k : Int) < (rs.length : Int) := by omega
          obtain ⟨L, hL⟩ : ∃ L, L = catPa (rs.take k) := ⟨_, rfl⟩
          obtain ⟨M, hM⟩ : ∃ M, M = numPa (rs.take k) := ⟨_, rfl⟩
          have O2 : Hid (wr.ownsRow w.heap.size 69 4 u6 M L) := Lib.hid (by rw [hL, hM]; exact O.out)
          rw [← hM] at hcl2
          rw [← hL, ← hM] at HT
          clear hrk hrk2 hL hM O
          go_wp2_with (at_builtin; refine wpList_appendN rfl _ _ 36 rfl w.heap.size Tryz.underlying36 partInfo rfl (by decide) (v := _) (by rfl) O2.out r.A r.n r.c (news := r.l) (by rfl) RR.out RZ.out R1.out (by decide) (by omega) (by omega) ?_; intro v7 w7 hown7 hg7 hob7)
          have O7 : Hid (w7.ownsRow w.heap.size 69 4 v7 (numPa (rs.take (k + 1))) (catPa (rs.take (k + 1)))) := Lib.hid (by rw [HT.out.1, HT.out.2]; exact hown7)
          have G7 : Hid (w.grownBy w7 none) := Lib.hid (only_own G.out hg7 O2.out (Nat.le_refl _))
          clear hown7 hg7 hob7 c0
          go_wp2_with fail
          go_roundw
          case rel => exact ⟨k + 1, by omega, by go_num, O7.out, G7.out⟩
          case measure => simp [intOf]; omega
        · have HE2 : Hid (rs.take k = rs) := Lib.hid (List.take_of_length_le (by omega))
          go_wp2_with fail
          go_ret
          have := O.out
          rw [HE2.out] at this
          exact ⟨_, rfl, this, G.out⟩
end Go.Proofs.YtfkgcighooijhaaGreatDoor

namespace Go.Proofs.YtfkgcighooijhaaGreatDoor
open Go.RowKit
set_option linter.unusedVariables false
set_option linter.unusedSimpArgs false
theorem Rd.dropG {S : Nat → Prop} {w : World} {b off : Nat} {xs : List Value} (h : Rd S w (some ⟨b, off, none⟩) xs) (m : Nat) : Rd S w (some ⟨b, off + m, none⟩) (xs.drop m) := by
  have := h.drop m
  have hadd : (⟨b, off, none⟩ : Addr).add m = ⟨b, off + m, none⟩ := by unfold Addr.add; split <;> simp_all
  rw [Option.map_some, hadd] at this
  exact this
def tailG (off z c : Nat) : Nat := if c = 1 then off else off + z
theorem run_tailG (ρ : Operand → Value) (w : World) {o : Oper} {t e : TypeId} {z x b off n c : Nat} (ho : o.op = .slice t (.tmp x) (some (.const (.int .i64 1))) none none) (ht : Tryz.prog.underlying t = some (.slice e)) (hz : (Tryz.prog.info? e).map (·.size) = some z)
    (hc : ∀ v, ρ (.const v) = v) (hx : ρ (.tmp x) = .slice (some ⟨b, off, none⟩) (n + 1) c) (h1 : n + 1 ≤ c) : (execOp ρ o).run Tryz.prog w = .ok (.value (.slice (some ⟨b, tailG off z c, none⟩) n (c - 1))) w := by
  obtain ⟨i, hi, hiz⟩ : ∃ i, Tryz.prog.info? e = some i ∧ i.size = z := by
    cases h : Tryz.prog.info? e with
    | none => rw [h] at hz; cases hz
    | some i => rw [h] at hz; exact ⟨i, rfl, by simpa using hz⟩
  have hs : (sizeOf e).run Tryz.prog w = .ok z w := by simp [sizeOf, typeInfo, hi, hiz, Sem.run_bind, go_sem]
  have e3 : (1 : Int) ≤ (n : Int) + 1 := by omega
  by_cases h : c = 1
  · subst h
    obtain rfl : n = 0 := by omega
    simp [execOp, ho, hc, hx, go_sem, tailG, ht, hs]
  · have e0 : (0 : Int) ≤ (c : Int) - 1 := by omega
    have e1 : (1 : Int) ≤ (c : Int) := by omega
    have e2 : (n : Int) + 1 ≤ (c : Int) := by omega
    simp [execOp, ho, hc, hx, go_sem, tailG, ht, hs, h, e0, e1, e2, e3]
theorem wpList_tailG {ops : Array Oper} {rest : List Oper} {o : Oper} {a : Act} {w : World} {Q : Exit → Act → World → Prop} (hgd : o.guard = none) {t e : TypeId} {z x b off n c : Nat} (ho : o.op = .slice t (.tmp x) (some (.const (.int .i64 1))) none none) (ht : Tryz.prog.underlying t = some (.slice e)) (hz : (Tryz.prog.info? e).map (·.size) = some z)
    (hx : a.eval (.tmp x) = .slice (some ⟨b, off, none⟩) (n + 1) c) (h1 : n + 1 ≤ c) (h : wpList Tryz.prog ops Q rest (a.put o.dst (.slice (some ⟨b, tailG off z c, none⟩) n (c - 1))) w) : wpList Tryz.prog ops Q (o :: rest) a w :=
  wpList_plain hgd fun K hK => by
    unfold Oper.wp
    rw [run_tailG a.eval w ho ht hz (fun v => rfl) hx h1]
    exact hK _ _ h
theorem Rd.tailG_ {S : Nat → Prop} {w : World} {b off z n c : Nat} {x xs : List Value} (h : Rd S w (some ⟨b, off, none⟩) (x ++ xs)) (hx : x.length = z) (hl : xs.length = n * z) (h1 : n + 1 ≤ c) : Rd S w (some ⟨b, tailG off z c, none⟩) xs := by
  unfold tailG
  split
  · obtain rfl : n = 0 := by omega
    intro h0; rw [hl] at h0; omega
  · have := h.dropG z
    rw [List.drop_left' hx] at this
    exact this
theorem wpStill_tailG {ops : Array Oper} {rest : List Oper} {o : Oper} {a : Act} {w : World} {Q : Act → Prop} (hgd : o.guard = none) {t e : TypeId} {z x b off n c : Nat} (ho : o.op = .slice t (.tmp x) (some (.const (.int .i64 1))) none none) (ht : Tryz.prog.underlying t = some (.slice e)) (hz : (Tryz.prog.info? e).map (·.size) = some z)
    (hx : a.eval (.tmp x) = .slice (some ⟨b, off, none⟩) (n + 1) c) (h1 : n + 1 ≤ c) (h : wpStill Tryz.prog ops w Q rest (a.put o.dst (.slice (some ⟨b, tailG off z c, none⟩) n (c - 1)))) : wpStill Tryz.prog ops w Q (o :: rest) a :=
  wpStill_step fun K hK => by
    rw [if_pos (by simp [Region.wanted, hgd])]
    unfold Oper.still
    rw [run_tailG a.eval w ho ht hz (fun v => rfl) hx h1, Oper.stillUpon_value]
    exact hK _ h
end Go.Proofs.YtfkgcighooijhaaGreatDoor

namespace Go.Proofs.YtfkgcighooijhaaGreatDoor
open Go.RowKit
set_option linter.unusedVariables false
set_option linter.unusedSimpArgs false

section
variable {P : Program} {Q : Exit → Act → World → Prop}
/-- wp_region_gen, and the slots that the head writes hold what they held -/
theorem wp_region_gen2 {id : Nat} {l : List Oper} {a : Act} {w : World} (n : Nat) (J : (Nat → Bool) → (Nat → Value) → World → Prop)
    (hm : P.follows .mixedOrders = true) (hB : headB l n = true) (hJ : ∀ u, putAll u 0 (l.take n) a = a → J (fun _ => false) u w.drew)
    (hs : ∀ A, A = a → GensOk P Q l.toArray (l.take n) A J 0 (l.take n))
    (hend : ∀ D u w', J D u w' → (∀ j, j < n → D j = true) → wpList P l.toArray Q (l.drop n) (putAll u 0 (l.take n) a) w') : (Code.region id l.toArray true).wp P Q a w := by
  simp only [headB, Bool.and_eq_true, Bool.or_eq_true, decide_eq_true_eq] at hB
  obtain ⟨⟨⟨⟨hn, hw⟩, hseq⟩, hap⟩, hback⟩ := hB
  refine wp_region_any hm ?_
  obtain ⟨u, hu⟩ := putAll_id (l.take n) 0 a
  have inv0 : HeadInv .any l.toArray n (Array.replicate l.toArray.size false) :=
    ⟨by simp, fun j oj _ hl => (by rw [getD_replicate_false] at hl; cases hl), fun t _ ht => getD_in (by simpa using ht) (getD_replicate_false _ _)⟩
  have hle : openN (Array.replicate l.toArray.size false) n ≤ n := by
    unfold openN
    have := List.length_filter_le (fun i => !(Array.replicate l.toArray.size false).getD i true) (List.range n)
    simpa using this
  have hd0 : doneOf (Array.replicate l.toArray.size false) = fun _ => false := by funext j; exact getD_replicate_false _ _
  have := wpAny_of_gen hn hw hseq hap hback (hs a rfl) hend _ (Array.replicate l.toArray.size false) a w.drew rfl ⟨inv0, u, hu.symm, by rw [hd0]; exact hJ u hu⟩
  obtain ⟨d, hd⟩ : ∃ d, l.toArray.size = openN (Array.replicate l.toArray.size false) n + (l.length - n) + d := ⟨l.length - (openN (Array.replicate l.toArray.size false) n + (l.length - n)), by simp; simp at hle; omega⟩
  have h2 := wpAny_more d _ _ _ _ this
  rw [← hd] at h2
  exact h2
end
/-- a slot that operation i writes with what operation j has given; the operations rs read it before -/
structure Late (i j : Nat) (rs : List Nat) (v0 : Value) (D : Nat → Bool) (u : Nat → Value) : Prop where
  before : D i = false → u i = v0
  dep : D i = true → D j = true ∧ ∀ r ∈ rs, D r = true
  after : D i = true → u i = u j
section
variable {i j k : Nat} {rs : List Nat} {v0 x : Value} {D : Nat → Bool} {u : Nat → Value}
theorem Late.start (h : u i = v0) : Late i j rs v0 (fun _ => false) u := ⟨fun _ => h, (fun h => by cases h), fun h => by cases h⟩
theorem updB_mono (D : Nat → Bool) (k : Nat) {r : Nat} (h : D r = true) : updB D k r = true := by unfold updB; split <;> simp [h]
theorem Late.other (h : Late i j rs v0 D u) (hk : k ≠ i) (hj : k ≠ j) : Late i j rs v0 (updB D k) (upd u k x) := by
  have a1 := updB_ne D (Ne.symm hk)
  have b1 := upd_ne u x (Ne.symm hk)
  have b2 := upd_ne u x (Ne.symm hj)
  exact ⟨by rw [a1, b1]; exact h.before, by rw [a1]; exact fun e => ⟨updB_mono D k (h.dep e).1, fun r hr => updB_mono D k ((h.dep e).2 r hr)⟩, by rw [a1, b1, b2]; exact h.after⟩
theorem Late.src (h : Late i j rs v0 D u) (hk : j ≠ i) (h0 : D j = false) : Late i j rs v0 (updB D j) (upd u j x) := by
  have a1 := updB_ne D (Ne.symm hk)
  have b1 := upd_ne u x (Ne.symm hk)
  have hi : D i = false := by cases e : D i with | false => rfl | true => rw [(h.dep e).1] at h0; cases h0
  exact ⟨by rw [a1, b1]; exact h.before, (fun e => by rw [a1, hi] at e; cases e), (fun e => by rw [a1, hi] at e; cases e)⟩
theorem Late.set_ (h : Late i j rs v0 D u) (hk : i ≠ j) (hj : D j = true) (hr : ∀ r ∈ rs, D r = true) : Late i j rs v0 (updB D i) (upd u i (u j)) :=
  ⟨(fun e => by rw [updB_at] at e; cases e), (fun _ => ⟨updB_mono D i hj, fun r h => updB_mono D i (hr r h)⟩), (fun _ => by rw [upd_at, upd_ne u _ (Ne.symm hk)])⟩
/-- what a reader sees -/
theorem Late.seen (h : Late i j rs v0 D u) {r : Nat} (hr : r ∈ rs) (h0 : D r = false) : u i = v0 := h.before (by cases e : D i with | false => rfl | true => rw [(h.dep e).2 r hr] at h0; cases h0)
end
theorem exec_move {ρ : Operand → Value} {w : World} {o : Oper} {x : Operand} (ho : o.op = .move x) : (execOp ρ o).run Tryz.prog w = .ok (.value (ρ x)) w := by simp [execOp, ho]
theorem exec_assign {ρ : Operand → Value} {w : World} {o : Oper} {x : Operand} (ho : o.op = .assign x) : (execOp ρ o).run Tryz.prog w = .ok (.value (ρ x)) w := by simp [execOp, ho]
end Go.Proofs.YtfkgcighooijhaaGreatDoor
