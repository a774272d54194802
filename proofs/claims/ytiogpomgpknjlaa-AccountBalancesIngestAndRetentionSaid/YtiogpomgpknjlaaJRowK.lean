/- Copying between rows of elements of several cells; rows that are turned whole. No condition. -/
import Derived.Test.YtiogpomgpknjlaaJTal
import Derived.Laws.CopyRow
import Derived.Lib.Overlaps
import Derived.Lib.AppendZerosOnto
import Derived.Lib.AppendZeros
import Derived.Laws.Externs
import Derived.Test.YtiogpomgpknjlaaJCloneT
import Derived.StillTailTactics
import Derived.Test.YtiogpomgpknjlaaJTalM
import Derived.Deep.DeepCutAuto
import Derived.Test.YtiogpomgpknjlaaJBsfT
namespace Go.Proofs.Ytiogpomgpknjlaa
open Go.RowKit
set_option linter.unusedVariables false
set_option linter.unusedSimpArgs false

theorem run_copyK {P : Program} (w : World) (dT sT ty elem : TypeId) (z g o dLen dCap : Nat) (a : Addr) (sLen sCap : Nat) (cur : Array Value) (t : TypeId) (cs : List Value)
    (hu : P.underlying dT = some (.slice elem)) (hs : (P.info? elem).map (·.size) = some z)
    (hg : w.heap[g]? = some (.cells cur t (0, 0))) (hn : cs.length = Nat.min sLen dLen * z)
    (hsrc : ∀ j v, cs[j]? = some v → w.cell? (a.add j) = some v) (hfit : o + cs.length ≤ cur.size) (h1 : ∀ v ∈ cs, v.oneCell' = true) :
    (Builtin.copy_ #[dT, sT] ty #[.slice (some ⟨g, o, none⟩) dLen dCap, .slice (some a) sLen sCap]).run P w =
      .ok (goInt (Nat.min sLen dLen)) (w.setRow g (cur.toList.take o ++ cs ++ cur.toList.drop (o + cs.length)).toArray) := by
  have hl := run_loadCells_list (P := P) w a cs hsrc
  have hst := run_storeCells_at P g o t cs 0 cur w hg (by simpa using hfit) h1
  cases hq : P.info? elem with
  | none => simp [hq] at hs
  | some i =>
    have hi : i.size = z := by simpa [hq] using hs
    rw [hn] at hl
    simp only [Nat.add_zero] at hst
    simp [Builtin.copy_, run_underlying hu, Builtin.lenOf, Builtin.firstCells, sizeOf, typeInfo, hq, hi, hl]
    rw [hst]
    simp
theorem wpList_copyK {P : Program} {w : World} {ops : Array Oper} {rest : List Oper} {o : Oper} {a : Act} {Q : Exit → Act → World → Prop} (hgd : o.guard = none) (d s : Operand) (t t' : TypeId)
    (ho : o.op = .call { callee := .builtin .copy, args := #[d, s], argTypes := #[t, t'] }) (v u : Value) (hd : a.eval d = v) (hs : a.eval s = u) {v' : Value} {w' : World}
    (hr : ∀ ty, (Builtin.copy_ #[t, t'] ty #[v, u]).run P w = .ok v' w') (h : wpList P ops Q rest (a.put o.dst v') w') : wpList P ops Q (o :: rest) a w :=
  wpList_plain hgd fun K hK => by
    unfold Oper.wp execOp
    simp only [ho, resolve, invoke, builtin, Sem.run_bind, Sem.run_pure, Result.andThen_ok, List.map_toArray, List.map_cons, List.map_nil, hd, hs, hr]
    exact hK _ _ h
theorem grown_setRow (w : World) (g : Nat) (cs : Array Value) : w.grownBy (w.setRow g cs) (some g) :=
  ⟨rfl, rfl, rfl, by simp [World.setRow], fun k hk hne => setRow_other w g k cs (fun e => hne (by rw [e]))⟩
theorem own_setRow {w : World} {base e z g n c : Nat} {cur cs : Array Value} {xs : List Value} (hg : w.heap[g]? = some (.cells cur e (0, 0))) (hb : base ≤ g) (hn : n ≤ c) (hm : c ≤ maxLen) (hs : cs.size = c * z) (hl : xs.length = n * z) (ht : cs.toList.take (n * z) = xs) :
    (w.setRow g cs).ownsRow base e z (.slice (some ⟨g, 0, none⟩) n c) n xs :=
  ⟨hl, .inr ⟨g, c, cs, rfl, hb, setRow_heap w g cur cs e (0, 0) hg, hn, hm, hs, ht⟩⟩
/-- from place i on one further: first what stands there, then the new element -/
theorem ins_cur {cur A B X : List Value} {z n i : Nat} (ht : cur.take (n * z) = A ++ B) (hA : A.length = i * z) (hB : B.length = (n - i) * z) (hi : i ≤ n) (hX : X.length = z) (hc : (n + 1) * z ≤ cur.length) {cur1 cur2 : List Value}
    (h1 : cur1 = cur.take ((i + 1) * z) ++ B ++ cur.drop ((i + 1) * z + B.length)) (h2 : cur2 = cur1.take (i * z) ++ X ++ cur1.drop (i * z + X.length)) :
    cur1.length = cur.length ∧ cur2.length = cur.length ∧ cur2.take ((n + 1) * z) = A ++ X ++ B := by
  have e1 : (i + 1) * z = i * z + z := Nat.succ_mul i z
  have e2 : (n + 1) * z = n * z + z := Nat.succ_mul n z
  have e3 : i * z + (n - i) * z = n * z := by rw [← Nat.add_mul]; congr 1; omega
  have l1 : (cur.take ((i + 1) * z)).length = (i + 1) * z := by rw [List.length_take]; omega
  have k1 : cur1.length = cur.length := by rw [h1]; simp only [List.length_append, List.length_drop, l1]; omega
  have k2 : cur2.length = cur.length := by rw [h2]; simp only [List.length_append, List.length_drop, List.length_take]; omega
  refine ⟨k1, k2, ?_⟩
  have a1 : cur1.take (i * z) = A := by
    rw [h1, List.append_assoc, List.take_append_of_le_length (by omega), List.take_take, Nat.min_eq_left (by omega)]
    have : (cur.take (n * z)).take (i * z) = A := by rw [ht, ← hA, List.take_left']; rfl
    rw [List.take_take, Nat.min_eq_left (by omega)] at this
    exact this
  have a2 : cur1.drop (i * z + X.length) = B ++ cur.drop ((i + 1) * z + B.length) := by
    rw [h1, List.append_assoc, List.drop_left' (by omega)]
  rw [h2, a1, a2, ← List.append_assoc, List.take_left']
  simp only [List.length_append]
  omega
/-- into a new row: the element, then what stood from its place on -/
theorem ins_new {row A Z B X : List Value} {z n i : Nat} (hr : row = A ++ Z) (hA : A.length = i * z) (hB : B.length = (n - i) * z) (hi : i ≤ n) (hX : X.length = z) (hc : (n + 1) * z ≤ row.length) {row1 row2 : List Value}
    (h1 : row1 = row.take (i * z) ++ X ++ row.drop (i * z + X.length)) (h2 : row2 = row1.take ((i + 1) * z) ++ B ++ row1.drop ((i + 1) * z + B.length)) :
    row1.length = row.length ∧ row2.length = row.length ∧ row2.take ((n + 1) * z) = A ++ X ++ B := by
  have e1 : (i + 1) * z = i * z + z := Nat.succ_mul i z
  have e2 : (n + 1) * z = n * z + z := Nat.succ_mul n z
  have e3 : i * z + (n - i) * z = n * z := by rw [← Nat.add_mul]; congr 1; omega
  have k1 : row1.length = row.length := by rw [h1]; simp only [List.length_append, List.length_drop, List.length_take]; omega
  have k2 : row2.length = row.length := by rw [h2]; simp only [List.length_append, List.length_drop, List.length_take]; omega
  refine ⟨k1, k2, ?_⟩
  have a1 : row.take (i * z) = A := by rw [hr, ← hA, List.take_left']; rfl
  have a2 : row1.take ((i + 1) * z) = A ++ X := by
    rw [h1, a1, List.take_left']
    simp only [List.length_append]; omega
  rw [h2, a2, List.take_left']
  simp only [List.length_append]
  omega
theorem own_cellR {w : World} {base e size g n c k : Nat} {xs : List Value} (h : w.ownsRow base e size (.slice (some ⟨g, 0, none⟩) n c) n xs) (hk : k < n * size) : w.cell? ⟨g, k, none⟩ = xs[k]? ∧ w.frozen? ⟨g, k, none⟩ = false := by
  obtain ⟨hl, h2⟩ := h
  rcases h2 with ⟨h3, _⟩ | ⟨g', cap, cur, h3, h4, h5, h6, h7, h8, h9⟩
  · cases h3
  · injection h3 with e1 e2 e3
    injection e1 with e1
    injection e1 with e1
    subst e1 e3
    have hB : Blk w g e cur := h5
    refine ⟨?_, hB.frozen k⟩
    rw [hB.cell k, ← h9, List.getElem?_take_of_lt (by omega), Array.getElem?_toList]
end Go.Proofs.Ytiogpomgpknjlaa

namespace Go.Proofs.Ytiogpomgpknjlaa
open Go.RowKit
set_option linter.unusedVariables false
set_option linter.unusedSimpArgs false
theorem Rd.dropG {S : Nat → Prop} {w : World} {b off : Nat} {xs : List Value} (h : Rd S w (some ⟨b, off, none⟩) xs) (m : Nat) : Rd S w (some ⟨b, off + m, none⟩) (xs.drop m) := by
  have := h.drop m
  have hadd : (⟨b, off, none⟩ : Addr).add m = ⟨b, off + m, none⟩ := by unfold Addr.add; split <;> simp_all
  rw [Option.map_some, hadd] at this
  exact this
def tailG (off z c : Nat) : Nat := if c = 1 then off else off + z
theorem run_tailG (ρ : Operand → Value) (w : World) {o : Oper} {t e : TypeId} {z x b off n c : Nat} (ho : o.op = .slice t (.tmp x) (some (.const (.int .i64 1))) none none) (ht : Try.prog.underlying t = some (.slice e)) (hz : (Try.prog.info? e).map (·.size) = some z)
    (hc : ∀ v, ρ (.const v) = v) (hx : ρ (.tmp x) = .slice (some ⟨b, off, none⟩) (n + 1) c) (h1 : n + 1 ≤ c) : (execOp ρ o).run Try.prog w = .ok (.value (.slice (some ⟨b, tailG off z c, none⟩) n (c - 1))) w := by
  obtain ⟨i, hi, hiz⟩ : ∃ i, Try.prog.info? e = some i ∧ i.size = z := by
    cases h : Try.prog.info? e with
    | none => rw [h] at hz; cases hz
    | some i => rw [h] at hz; exact ⟨i, rfl, by simpa using hz⟩
  have hs : (sizeOf e).run Try.prog w = .ok z w := by simp [sizeOf, typeInfo, hi, hiz, Sem.run_bind, go_sem]
  have e3 : (1 : Int) ≤ (n : Int) + 1 := by omega
  by_cases h : c = 1
  · subst h
    obtain rfl : n = 0 := by omega
    simp [execOp, ho, hc, hx, go_sem, tailG, ht, hs]
  · have e0 : (0 : Int) ≤ (c : Int) - 1 := by omega
    have e1 : (1 : Int) ≤ (c : Int) := by omega
    have e2 : (n : Int) + 1 ≤ (c : Int) := by omega
    simp [execOp, ho, hc, hx, go_sem, tailG, ht, hs, h, e0, e1, e2, e3]
theorem wpList_tailG {ops : Array Oper} {rest : List Oper} {o : Oper} {a : Act} {w : World} {Q : Exit → Act → World → Prop} (hgd : o.guard = none) {t e : TypeId} {z x b off n c : Nat} (ho : o.op = .slice t (.tmp x) (some (.const (.int .i64 1))) none none) (ht : Try.prog.underlying t = some (.slice e)) (hz : (Try.prog.info? e).map (·.size) = some z)
    (hx : a.eval (.tmp x) = .slice (some ⟨b, off, none⟩) (n + 1) c) (h1 : n + 1 ≤ c) (h : wpList Try.prog ops Q rest (a.put o.dst (.slice (some ⟨b, tailG off z c, none⟩) n (c - 1))) w) : wpList Try.prog ops Q (o :: rest) a w :=
  wpList_plain hgd fun K hK => by
    unfold Oper.wp
    rw [run_tailG a.eval w ho ht hz (fun v => rfl) hx h1]
    exact hK _ _ h
theorem Rd.tailG_ {S : Nat → Prop} {w : World} {b off z n c : Nat} {x xs : List Value} (h : Rd S w (some ⟨b, off, none⟩) (x ++ xs)) (hx : x.length = z) (hl : xs.length = n * z) (h1 : n + 1 ≤ c) : Rd S w (some ⟨b, tailG off z c, none⟩) xs := by
  unfold tailG
  split
  · obtain rfl : n = 0 := by omega
    intro h0; rw [hl] at h0; omega
  · have := h.dropG z
    rw [List.drop_left' hx] at this
    exact this
theorem wpStill_tailG {ops : Array Oper} {rest : List Oper} {o : Oper} {a : Act} {w : World} {Q : Act → Prop} (hgd : o.guard = none) {t e : TypeId} {z x b off n c : Nat} (ho : o.op = .slice t (.tmp x) (some (.const (.int .i64 1))) none none) (ht : Try.prog.underlying t = some (.slice e)) (hz : (Try.prog.info? e).map (·.size) = some z)
    (hx : a.eval (.tmp x) = .slice (some ⟨b, off, none⟩) (n + 1) c) (h1 : n + 1 ≤ c) (h : wpStill Try.prog ops w Q rest (a.put o.dst (.slice (some ⟨b, tailG off z c, none⟩) n (c - 1)))) : wpStill Try.prog ops w Q (o :: rest) a :=
  wpStill_step fun K hK => by
    rw [if_pos (by simp [Region.wanted, hgd])]
    unfold Oper.still
    rw [run_tailG a.eval w ho ht hz (fun v => rfl) hx h1, Oper.stillUpon_value]
    exact hK _ h
end Go.Proofs.Ytiogpomgpknjlaa

namespace Go.Proofs.Ytiogpomgpknjlaa
open Go.RowKit
set_option linter.unusedVariables false
set_option linter.unusedSimpArgs false

def cutG (off z c k : Nat) : Nat := if c = k then off else off + k * z
theorem run_cutG (ρ : Operand → Value) (w : World) {o : Oper} {t e : TypeId} {z x y b off n c k : Nat} (ho : o.op = .slice t (.tmp x) (some (.tmp y)) none none) (ht : Try.prog.underlying t = some (.slice e)) (hz : (Try.prog.info? e).map (·.size) = some z)
    (hx : ρ (.tmp x) = .slice (some ⟨b, off, none⟩) n c) (hy : ρ (.tmp y) = .int .i64 k) (h1 : n ≤ c) (hk : k ≤ n) : (execOp ρ o).run Try.prog w = .ok (.value (.slice (some ⟨b, cutG off z c k, none⟩) (n - k) (c - k))) w := by
  obtain ⟨i, hi, hiz⟩ : ∃ i, Try.prog.info? e = some i ∧ i.size = z := by
    cases h : Try.prog.info? e with
    | none => rw [h] at hz; cases hz
    | some i => rw [h] at hz; exact ⟨i, rfl, by simpa using hz⟩
  have hs : (sizeOf e).run Try.prog w = .ok z w := by simp [sizeOf, typeInfo, hi, hiz, Sem.run_bind, go_sem]
  have e3 : (k : Int) ≤ (n : Int) := by omega
  have e2 : (n : Int) ≤ (c : Int) := by omega
  have e4 : (k : Int) ≤ (c : Int) := by omega
  have e5 : (0 : Int) ≤ (k : Int) := by omega
  have e6 : ((n : Int) - (k : Int)).toNat = n - k := by omega
  have e7 : ((c : Int) - (k : Int)).toNat = c - k := by omega
  by_cases h : c = k
  · subst h
    obtain rfl : n = c := by omega
    simp [execOp, ho, hx, hy, go_sem, cutG, ht, hs]
  · have e0 : ¬ ((c : Int) - (k : Int) = 0) := by omega
    have e8 : ¬ (c - k = 0) := by omega
    have e9 : ¬ ((c : Int) = (k : Int)) := by omega
    simp [execOp, ho, hx, hy, go_sem, cutG, ht, hs, h, e0, e2, e3, e4, e5, e6, e7, e8, e9]
theorem wpList_cutG {ops : Array Oper} {rest : List Oper} {o : Oper} {a : Act} {w : World} {Q : Exit → Act → World → Prop} (hgd : o.guard = none) {t e : TypeId} {z x y b off n c k : Nat} (ho : o.op = .slice t (.tmp x) (some (.tmp y)) none none) (ht : Try.prog.underlying t = some (.slice e)) (hz : (Try.prog.info? e).map (·.size) = some z)
    (hx : a.eval (.tmp x) = .slice (some ⟨b, off, none⟩) n c) (hy : a.eval (.tmp y) = .int .i64 k) (h1 : n ≤ c) (hk : k ≤ n) (h : wpList Try.prog ops Q rest (a.put o.dst (.slice (some ⟨b, cutG off z c k, none⟩) (n - k) (c - k))) w) : wpList Try.prog ops Q (o :: rest) a w :=
  wpList_plain hgd fun K hK => by
    unfold Oper.wp
    rw [run_cutG a.eval w ho ht hz hx hy h1 hk]
    exact hK _ _ h
theorem wpStill_cutG {ops : Array Oper} {rest : List Oper} {o : Oper} {a : Act} {w : World} {Q : Act → Prop} (hgd : o.guard = none) {t e : TypeId} {z x y b off n c k : Nat} (ho : o.op = .slice t (.tmp x) (some (.tmp y)) none none) (ht : Try.prog.underlying t = some (.slice e)) (hz : (Try.prog.info? e).map (·.size) = some z)
    (hx : a.eval (.tmp x) = .slice (some ⟨b, off, none⟩) n c) (hy : a.eval (.tmp y) = .int .i64 k) (h1 : n ≤ c) (hk : k ≤ n) (h : wpStill Try.prog ops w Q rest (a.put o.dst (.slice (some ⟨b, cutG off z c k, none⟩) (n - k) (c - k)))) : wpStill Try.prog ops w Q (o :: rest) a :=
  wpStill_step fun K hK => by
    rw [if_pos (by simp [Region.wanted, hgd])]
    unfold Oper.still
    rw [run_cutG a.eval w ho ht hz hx hy h1 hk, Oper.stillUpon_value]
    exact hK _ h
theorem Rd.cutG_ {S : Nat → Prop} {w : World} {b off z n c k : Nat} {xs : List Value} (h : Rd S w (some ⟨b, off, none⟩) xs) (hl : xs.length = n * z) (h1 : n ≤ c) (hk : k ≤ n) : Rd S w (some ⟨b, cutG off z c k, none⟩) (xs.drop (k * z)) := by
  unfold cutG
  split
  · obtain rfl : n = k := by omega
    intro h0; rw [List.length_drop, hl] at h0; omega
  · exact h.dropG (k * z)
end Go.Proofs.Ytiogpomgpknjlaa

namespace Go.Proofs.Ytiogpomgpknjlaa
open Go.RowKit
set_option linter.unusedVariables false
set_option linter.unusedSimpArgs false

def InsTalPost (w : World) (base : Nat) (row : Option Nat) (ys : List Tal) (e : Ending) (w' : World) : Prop :=
  ∃ A' c', e = .returned (.slice A' ys.length c') ∧ w'.ownsRow base 62 3 (.slice A' ys.length c') ys.length (ys.flatMap Tal.cells) ∧ w.grownBy w' row
theorem zs3 (n : Nat) : (Builtin.zeroCells (.agg #[.int .i64 0, .string ⟨#[]⟩, .int .i64 0] : Value).cells n).size = n * 3 := by simp [Builtin.zeroCells, Value.cells]
set_option maxHeartbeats 4000000 in
set_option maxRecDepth 100000 in
theorem insertTal_any (A : Option Addr) (xs : List Tal) (c i vb base : Nat) (x : Tal) (w : World) (hown : w.ownsRow base 62 3 (.slice A xs.length c) xs.length (xs.flatMap Tal.cells)) (hx : Blk w vb 62 x.cells.toArray) (hi : i ≤ xs.length) (hl : xs.length ≤ 1000000) (hne : (Value.slice A xs.length c).ownBlock ≠ some vb) (hbase : base ≤ w.heap.size) :
    Calls Try.prog 65 #[.slice A xs.length c, .int .i64 i, .slice (some ⟨vb, 0, none⟩) 1 1] w (InsTalPost w base (Value.slice A xs.length c).ownBlock (xs.take i ++ x :: xs.drop i)) := by
  have O := Lib.hid hown
  have HX := Lib.hid hx
  have hrx : Rd (fun _ => True) w (some ⟨vb, 0, none⟩) x.cells := fun _ => ⟨vb, 0, rfl, trivial, hx.lt, fun j u hu => by rw [Nat.zero_add, hx.cell j]; simpa using hu⟩
  have HRX := Lib.hid hrx
  have hlen : (xs.take i ++ x :: xs.drop i).length = xs.length + 1 := by simp; omega
  have HLEN := Lib.hid hlen
  obtain ⟨n, hn⟩ : ∃ n, n = xs.length := ⟨_, rfl⟩
  clear hrx hlen
  by_cases hin : i = xs.length
  · have hy : xs.take i ++ x :: xs.drop i = xs ++ [x] := by rw [List.take_of_length_le (by omega), List.drop_of_length_le (by omega)]
    rw [hy]
    have hi1 : (i : Int) = (xs.length : Int) := by omega
    obtain ⟨A9, c9, e9, hc9, hm9, -, hr9⟩ := Rd.of_own hown (by decide)
    injection e9 with e91 e92 e93
    subst e91 e93
    unfold maxLen at hm9
    subst hin
    clear hx hown hr9 hy hn hi1
    have i1 : (xs.length : Int) ≤ (c : Int) := by omega
    by_cases hcn : c = xs.length
    · subst hcn
      go_enter Try.func65, Try.ntmps65
      go_wp2_with (at_builtin; refine wpList_appendN rfl _ _ 26 rfl base Try.underlying26 talInfo rfl (by decide) (v := .slice A xs.length xs.length) (by rfl) O.out (some ⟨vb, 0, none⟩) 1 1 (news := x.cells) (by rfl) HRX.out rfl (Tal.one x) (by decide) (by omega) hbase ?_; intro v3 w3 hown3 hg3 hob3)
      have O3 : Hid (w3.ownsRow base 62 3 v3 (xs ++ [x]).length ((xs ++ [x]).flatMap Tal.cells)) := Lib.hid (by simpa using hown3)
      have G3 := Lib.hid hg3
      clear hown3 hg3 hob3
      obtain ⟨A3, c3, rfl, -, -, -, -⟩ := Rd.of_own O3.out (by decide)
      go_wp2_with fail
      go_ret
      exact ⟨A3, c3, rfl, O3.out, G3.out⟩
    · skip
      go_enter Try.func65, Try.ntmps65
      go_wp2_with (at_builtin; refine wpList_appendN rfl _ _ 26 rfl base Try.underlying26 talInfo rfl (by decide) (v := .slice A xs.length c) (by rfl) O.out (some ⟨vb, 0, none⟩) 1 1 (news := x.cells) (by rfl) HRX.out rfl (Tal.one x) (by decide) (by omega) hbase ?_; intro v3 w3 hown3 hg3 hob3)
      have O3 : Hid (w3.ownsRow base 62 3 v3 (xs ++ [x]).length ((xs ++ [x]).flatMap Tal.cells)) := Lib.hid (by simpa using hown3)
      have G3 := Lib.hid hg3
      clear hown3 hg3 hob3
      obtain ⟨A3, c3, rfl, -, -, -, -⟩ := Rd.of_own O3.out (by decide)
      go_wp2_with fail
      go_ret
      exact ⟨A3, c3, rfl, O3.out, G3.out⟩
  · have hlt : i < n := by omega
    rcases hown.2 with ⟨e, h0⟩ | ⟨g, cap, cur, e, hb, hh, hnc, hcm, hcs, ht⟩
    · omega
    · injection e with e1 e2 e3
      subst e1 e3
      have hvb : vb ≠ g := fun e => hne (by rw [e]; rfl)
      have hbl := hx
      have hsz : ∀ m, (flat_len Tal.cells 3 Tal.cells_len (xs.take m)) = (flat_len Tal.cells 3 Tal.cells_len (xs.take m)) := fun _ => rfl
      have lA : ((xs.take i).flatMap Tal.cells).length = i * 3 := by rw [flat_len _ 3 Tal.cells_len, List.length_take]; omega
      have lB : ((xs.drop i).flatMap Tal.cells).length = (xs.length - i) * 3 := by rw [flat_len _ 3 Tal.cells_len, List.length_drop]
      have hAB : cur.toList.take (xs.length * 3) = (xs.take i).flatMap Tal.cells ++ (xs.drop i).flatMap Tal.cells := by rw [ht, ← List.flatMap_append, List.take_append_drop]
      have hcl : cur.toList.length = c * 3 := by simpa using hcs
      have hmx := hcm
      unfold maxLen at hmx
      have hinfo : (Try.prog.info? 62).map (·.size) = some 3 := talSize
      have hrow : ∀ j u, ((xs.drop i).flatMap Tal.cells)[j]? = some u → w.cell? ⟨g, i * 3 + j, none⟩ = some u := fun j u hu => by
        have hj := (List.getElem?_eq_some_iff.1 hu).1
        rw [cell_of_row w g (i * 3 + j) cur 62 (0, 0) hh, ← Array.getElem?_toList]
        have h1 : (cur.toList.take (xs.length * 3))[i * 3 + j]? = some u := by
          rw [hAB, List.getElem?_append_right (by omega), lA]
          rw [show i * 3 + j - i * 3 = j by omega]; exact hu
        rw [List.getElem?_take] at h1
        split at h1
        · exact h1
        · cases h1
      have h1A : ∀ u ∈ (xs.drop i).flatMap Tal.cells, u.oneCell' = true := flat_one Tal.one _
      have h1X : ∀ u ∈ x.cells, u.oneCell' = true := Tal.one x
      have hlx : x.cells.length = 3 := rfl
      have i2 : ¬ ((i : Int) = (xs.length : Int)) := by omega
      have i3 : (0 : Int) ≤ (i : Int) := by omega
      have i4 : (i : Int) ≤ (xs.length : Int) := by omega
      have i5 : (xs.length : Int) ≤ (c : Int) := by omega
      have hwi : IntKind.i64.wrap ((i : Int) + 1) = (i : Int) + 1 := IntWalk.i64_in _ (by omega)
      have hwn : IntKind.i64.wrap ((xs.length : Int) + 1) = (xs.length : Int) + 1 := IntWalk.i64_in _ (by omega)
      have hci : ¬ (c = i) := by omega
      by_cases hroom : xs.length + 1 ≤ c
      · have i6 : ¬ ((c : Int) < (xs.length : Int) + 1) := by omega
        obtain ⟨cur1, hc1⟩ : ∃ cur1, cur1 = cur.toList.take ((i + 1) * 3) ++ (xs.drop i).flatMap Tal.cells ++ cur.toList.drop ((i + 1) * 3 + ((xs.drop i).flatMap Tal.cells).length) := ⟨_, rfl⟩
        obtain ⟨cur2, hc2⟩ : ∃ cur2, cur2 = cur1.take (i * 3) ++ x.cells ++ cur1.drop (i * 3 + x.cells.length) := ⟨_, rfl⟩
        obtain ⟨k1, k2, k3⟩ := ins_cur hAB lA lB hi hlx (by rw [hcl]; exact Nat.mul_le_mul_right 3 hroom) hc1 hc2
        obtain ⟨W1, hW1⟩ : ∃ W1, W1 = w.drew.setRow g cur1.toArray := ⟨_, rfl⟩
        obtain ⟨W2, hW2⟩ : ∃ W2, W2 = W1.setRow g cur2.toArray := ⟨_, rfl⟩
        have hh1 : W1.heap[g]? = some (.cells cur1.toArray 62 (0, 0)) := by rw [hW1]; exact setRow_heap w.drew g cur _ 62 (0, 0) hh
        have hcp1 : ∀ ty dc sc, (Builtin.copy_ #[26, 26] ty #[.slice (some ⟨g, cutG 0 3 c (i + 1), none⟩) (xs.length - i) dc, .slice (some ⟨g, i * 3, none⟩) (xs.length + 1 - i) sc]).run Try.prog w.drew = .ok (goInt (Nat.min (xs.length + 1 - i) (xs.length - i))) W1 := fun ty dc sc => by
          have e1 : cutG 0 3 c (i + 1) = (i + 1) * 3 := by unfold cutG; rw [if_neg (by omega)]; omega
          rw [e1, hW1, hc1]
          exact run_copyK w.drew _ _ ty 62 3 g ((i + 1) * 3) _ dc ⟨g, i * 3, none⟩ _ sc cur 62 ((xs.drop i).flatMap Tal.cells) Try.underlying26 hinfo hh (by rw [lB]; congr 1; simp only [Nat.min_def]; split <;> omega)
            (fun j v hj => by rw [Addr.add_lit]; exact hrow j v hj) (by rw [lB]; simp only [← Array.length_toList, hcl]; omega) h1A
        have hcp2 : ∀ ty dc, (Builtin.copy_ #[26, 26] ty #[.slice (some ⟨g, i * 3, none⟩) (xs.length + 1 - i) dc, .slice (some ⟨vb, 0, none⟩) 1 1]).run Try.prog W1 = .ok (goInt (Nat.min 1 (xs.length + 1 - i))) W2 := fun ty dc => by
          rw [hW2, hc2]
          have := run_copyK W1 26 26 ty 62 3 g (i * 3) (xs.length + 1 - i) dc ⟨vb, 0, none⟩ 1 1 cur1.toArray 62 x.cells Try.underlying26 hinfo hh1 (by rw [hlx]; simp only [Nat.min_def]; split <;> omega)
            (fun j v hj => by
              rw [Addr.add_lit, Nat.zero_add]
              have hB1 : Blk W1 vb 62 x.cells.toArray := by rw [hW1]; exact (Blk.drew hbl).grown (grown_setRow _ _ _) (by intro e; injection e with e; exact hvb e)
              rw [hB1.cell j]; simpa using hj) (by rw [hlx]; simp only [List.size_toArray, k1, hcl]; omega) h1X
          simpa using this
        have hov : ∀ o lb cb, (callFunc 79 #[.slice (some ⟨vb, 0, none⟩) 1 1, .slice (some ⟨g, o, none⟩) lb cb]).run Try.prog w = .ok (.value (.bool false)) w := fun o lb cb => by
          rw [run_callFunc_extern Try.func79 (by kernel_rfl) (by kernel_rfl) (by kernel_rfl) (e := Extern.SlicesOverlaps.overlaps #[26, 26] #[4]) (by kernel_rfl),
            Lib.run_overlaps_apart w 26 4 62 Try.underlying26 3 Try.sizeOf62 ⟨vb, 0, none⟩ ⟨g, o, none⟩ 1 1 lb cb hvb 62 62 3 cur.size (by simp [World.shape?, show w.heap[vb]? = _ from hbl, Tal.cells_len]) (by simp [World.shape?, hh]) (by rw [hcs]; omega) (hbl.frozen 0) (hbl.frozen 3)]
          rfl
        have HF : Hid (InsTalPost w base (some g) (xs.take i ++ x :: xs.drop i) (.returned (.slice (some ⟨g, 0, none⟩) (xs.length + 1) c)) W2) := Lib.hid (by
          refine ⟨some ⟨g, 0, none⟩, c, by rw [HLEN.out], ?_, ?_⟩
          · rw [HLEN.out, hW2]
            refine own_setRow hh1 hb hroom hcm (by simp only [List.size_toArray, k2, hcl]) (by rw [flat_len _ 3 Tal.cells_len, HLEN.out]) ?_
            simpa [List.flatMap_append] using k3
          · rw [hW2, hW1]; exact only_trans (only_trans (only_drew (only_refl w _)) (grown_setRow _ _ _)) (grown_setRow _ _ _))
        clear hx hown hh hnc hcm hcs ht hne hbl hsz lA lB hAB hcl hrow h1A h1X hW1 hW2 hc1 hc2 k1 k2 k3 hh1 hn hinfo hlx
        have i7 : ¬ (c = i + 1) := by omega
        have i8 : (xs.length : Int) + 1 ≤ (c : Int) := by omega
        have i9 : (i : Int) + 1 ≤ (xs.length : Int) + 1 := by omega
        have i10 : (i : Int) ≤ (xs.length : Int) + 1 := by omega
        go_enter Try.func65, Try.ntmps65
        go_upto_region 15 with (simp only [hov])
        go_still_tail 8, (by kernel_rfl)
        refine wpStill_cutG (k := i + 1) rfl rfl Try.underlying26 talSize (by rfl) (by rfl) (by omega) (by omega) ?_
        repeat still_step
        refine wpStill_nil ?_
        change wpList _ _ _ _ _ w.drew
        refine wpList_copyK rfl _ _ 26 26 rfl _ _ (by rfl) (by rfl) (fun ty => hcp1 ty _ _) ?_
        clear hcp1 hov
        go_wp2_with (at_builtin; refine wpList_copyK rfl _ _ 26 26 rfl _ _ (by rfl) (by rfl) (fun ty => hcp2 ty _) ?_)
        go_wp2_with fail
        go_ret
        exact HF.out
      · obtain rfl : c = xs.length := by omega
        have hni : ¬ (xs.length = i) := hci
        have i6 : (xs.length : Int) < (xs.length : Int) + 1 := by omega
        obtain ⟨i0, hi0, hz0, hz1, hz2⟩ := info_parts talInfo
        obtain ⟨g1, hg1⟩ : ∃ g1, g1 = w.heap.size := ⟨_, rfl⟩
        obtain ⟨G, hG⟩ : ∃ G, G = grownCap w (xs.length + 1) xs.length 62 := ⟨_, rfl⟩
        have hGn : xs.length + 1 ≤ G := by rw [hG]; exact grownCap_ge w _ _ _
        have hGm : G ≤ maxLen := by rw [hG]; exact grownCap_le_maxLen w _ _ _ (by unfold maxLen; omega)
        have hG63 := hGm
        unfold maxLen at hG63
        obtain ⟨ROW, hROW⟩ : ∃ ROW : Array Value, ROW = ((xs.take i).flatMap Tal.cells).toArray ++ Builtin.zeroCells (.agg #[.int .i64 0, .string ⟨#[]⟩, .int .i64 0] : Value).cells (xs.length + 1 - i) ++ Builtin.zeroCells (.agg #[.int .i64 0, .string ⟨#[]⟩, .int .i64 0] : Value).cells (G - (xs.length + 1)) := ⟨_, rfl⟩
        have hRl : ROW.toList.length = G * 3 := by
          rw [hROW]
          simp only [Array.length_toList, Array.size_append, zs3, List.size_toArray, lA]
          omega
        have hRA : ROW.toList = (xs.take i).flatMap Tal.cells ++ ((Builtin.zeroCells (.agg #[.int .i64 0, .string ⟨#[]⟩, .int .i64 0] : Value).cells (xs.length + 1 - i)).toList ++ (Builtin.zeroCells (.agg #[.int .i64 0, .string ⟨#[]⟩, .int .i64 0] : Value).cells (G - (xs.length + 1))).toList) := by
          rw [hROW]; simp
        obtain ⟨W1, hW1⟩ : ∃ W1, W1 = w.drew.alloc (.cells ROW 62) := ⟨_, rfl⟩
        have hold : (Builtin.firstCells i0.size i (.slice (some ⟨g, 0, none⟩) i xs.length)).run Try.prog w.drew = .ok ((xs.take i).flatMap Tal.cells).toArray w.drew := by
          rw [hz1]
          refine run_firstCells_some w.drew 3 i ⟨g, 0, none⟩ i xs.length ((xs.take i).flatMap Tal.cells) lA (fun j v hj => ?_)
          rw [Addr.add_lit, Nat.zero_add]
          have hjl := (List.getElem?_eq_some_iff.1 hj).1
          show w.cell? ⟨g, j, none⟩ = some v
          rw [cell_of_row w g j cur 62 (0, 0) hh, ← Array.getElem?_toList]
          have h1 : (cur.toList.take (xs.length * 3))[j]? = some v := by
            rw [hAB, List.getElem?_append_left hjl]; exact hj
          rw [List.getElem?_take] at h1
          split at h1
          · exact h1
          · cases h1
        have hkk : (xs.length : Int) + 1 - (i : Int) = ((xs.length + 1 - i : Nat) : Int) := by omega
        have hik : i + (xs.length + 1 - i) = xs.length + 1 := by omega
        have hrz : ∀ ty, (Builtin.append_ #[26, 3] ty #[.slice (some ⟨g, 0, none⟩) i xs.length, .int .i64 ((xs.length : Int) + 1 - (i : Int))]).run Try.prog w = .ok (.slice (some ⟨g1, 0, none⟩) (xs.length + 1) G) W1 := fun ty => by
          have h := Lib.run_append_grow_zeros w 26 3 ty 62 i0 (.agg #[.int .i64 0, .string ⟨#[]⟩, .int .i64 0]) .i64 .i64 Try.underlying26 Try.underlying3 hi0 hz0 (some ⟨g, 0, none⟩) i xs.length ((xs.take i).flatMap Tal.cells) hold (xs.length + 1 - i) (by omega) (by rw [hz1]; decide) (by omega) (by omega) (by rw [hz2]; omega) (by rw [hz2, hik]; exact growslice_fits (by omega) (by omega))
          rw [hik, ← hG] at h
          rw [hkk, hW1, hROW, hg1]
          exact h
        obtain ⟨row1, hr1⟩ : ∃ row1, row1 = ROW.toList.take (i * 3) ++ x.cells ++ ROW.toList.drop (i * 3 + x.cells.length) := ⟨_, rfl⟩
        obtain ⟨row2, hr2⟩ : ∃ row2, row2 = row1.take ((i + 1) * 3) ++ (xs.drop i).flatMap Tal.cells ++ row1.drop ((i + 1) * 3 + ((xs.drop i).flatMap Tal.cells).length) := ⟨_, rfl⟩
        obtain ⟨k1, k2, k3⟩ := ins_new hRA lA lB hi hlx (by rw [hRl]; exact Nat.mul_le_mul_right 3 hGn) hr1 hr2
        obtain ⟨W2, hW2⟩ : ∃ W2, W2 = W1.setRow g1 row1.toArray := ⟨_, rfl⟩
        obtain ⟨W3, hW3⟩ : ∃ W3, W3 = W2.drew.setRow g1 row2.toArray := ⟨_, rfl⟩
        have hN1 : W1.heap[g1]? = some (.cells ROW 62 (0, 0)) := by rw [hW1, hg1]; exact Blk.new w.drew 62 ROW
        have hN2 : W2.heap[g1]? = some (.cells row1.toArray 62 (0, 0)) := by rw [hW2]; exact setRow_heap W1 g1 ROW _ 62 (0, 0) hN1
        have hgw : g < w.heap.size := (Array.getElem?_eq_some_iff.1 hh).1
        have hgg : g ≠ g1 := by omega
        have hvw : vb < w.heap.size := hbl.lt
        have hx1 : Blk W1 vb 62 x.cells.toArray := by rw [hW1]; exact (Blk.drew hbl).alloc _
        have hg2 : W2.heap[g]? = some (.cells cur 62 (0, 0)) := by
          rw [hW2, setRow_other _ _ _ _ hgg, hW1]; exact (Below.heap_alloc w.drew _ g hgw).trans hh
        have hcpA : ∀ ty dc, (Builtin.copy_ #[26, 26] ty #[.slice (some ⟨g1, i * 3, none⟩) (xs.length + 1 - i) dc, .slice (some ⟨vb, 0, none⟩) 1 1]).run Try.prog W1 = .ok (goInt (Nat.min 1 (xs.length + 1 - i))) W2 := fun ty dc => by
          rw [hW2, hr1]
          exact run_copyK W1 26 26 ty 62 3 g1 (i * 3) (xs.length + 1 - i) dc ⟨vb, 0, none⟩ 1 1 ROW 62 x.cells Try.underlying26 hinfo hN1 (by rw [hlx]; simp only [Nat.min_def]; split <;> omega)
            (fun j v hj => by rw [Addr.add_lit, Nat.zero_add, hx1.cell j]; simpa using hj) (by rw [hlx]; simp only [← Array.length_toList, hRl]; omega) h1X
        have hcpB : ∀ ty dc sc, (Builtin.copy_ #[26, 26] ty #[.slice (some ⟨g1, cutG 0 3 G (i + 1), none⟩) (xs.length - i) dc, .slice (some ⟨g, i * 3, none⟩) (xs.length - i) sc]).run Try.prog W2.drew = .ok (goInt (Nat.min (xs.length - i) (xs.length - i))) W3 := fun ty dc sc => by
          have e1 : cutG 0 3 G (i + 1) = (i + 1) * 3 := by unfold cutG; rw [if_neg (by omega)]; omega
          rw [e1, hW3, hr2]
          have := run_copyK W2.drew 26 26 ty 62 3 g1 ((i + 1) * 3) (xs.length - i) dc ⟨g, i * 3, none⟩ (xs.length - i) sc row1.toArray 62 ((xs.drop i).flatMap Tal.cells) Try.underlying26 hinfo hN2 (by rw [lB]; congr 1; simp only [Nat.min_def]; split <;> omega)
            (fun j v hj => by
              rw [Addr.add_lit]
              have h1 := hrow j v hj
              rw [cell_of_row w g _ cur 62 (0, 0) hh] at h1
              rw [cell_of_row W2.drew g _ cur 62 (0, 0) hg2]; exact h1) (by rw [lB]; simp only [List.size_toArray, k1, hRl]; omega) h1A
          simpa using this
        have HF : Hid (InsTalPost w base (some g) (xs.take i ++ x :: xs.drop i) (.returned (.slice (some ⟨g1, 0, none⟩) (xs.length + 1) G)) W3) := Lib.hid (by
          refine ⟨some ⟨g1, 0, none⟩, G, by rw [HLEN.out], ?_, ?_⟩
          · rw [HLEN.out, hW3]
            refine own_setRow (w := W2.drew) hN2 (by omega) hGn hGm (by simp only [List.size_toArray, k2, hRl]) (by rw [flat_len _ 3 Tal.cells_len, HLEN.out]) ?_
            simpa [List.flatMap_append] using k3
          · rw [hW3, hW2, hW1]
            exact only_fresh (only_drew (only_fresh (only_alloc (only_drew (only_refl w _)) _) (grown_setRow _ g1 _) (by omega))) (grown_setRow _ g1 _) (by omega))
        have hGi : ¬ (G = i) := by omega
        have hGi1 : ¬ (G = i + 1) := by omega
        have j1 : (i : Int) ≤ (xs.length : Int) + 1 := by omega
        have j2 : (xs.length : Int) + 1 ≤ (G : Int) := by omega
        have j3 : (0 : Int) ≤ (xs.length : Int) + 1 - (i : Int) := by omega
        have hwm : IntKind.i64.wrap ((xs.length : Int) + 1 - (i : Int)) = (xs.length : Int) + 1 - (i : Int) := IntWalk.i64_in _ (by omega)
        clear hx hown hh hnc hcm hcs ht hne hbl hsz lA lB hAB hcl hrow h1A h1X hW1 hW2 hW3 hr1 hr2 k1 k2 k3 hN1 hN2 hn hinfo hlx hi0 hz0 hz1 hz2 hg1 hG hROW hRl hRA hold hkk hik hgw hgg hvw hx1 hg2 hci
        go_enter Try.func65, Try.ntmps65
        go_wp2_with (first
          | (at_builtin; refine Lib.wpList_append_run _ rfl _ _ _ _ rfl _ _ rfl rfl _ _ (hrz _) ?_)
          | (at_builtin; refine wpList_copyK rfl _ _ 26 26 rfl _ _ (by rfl) (by rfl) (fun ty => hcpA ty _) ?_))
        go_still_tail 8, (by kernel_rfl)
        refine wpStill_cutG (k := i + 1) rfl rfl Try.underlying26 talSize (by rfl) (by rfl) (by omega) (by omega) ?_
        repeat still_step
        refine wpStill_nil ?_
        change wpList _ _ _ _ _ W2.drew
        refine wpList_copyK rfl _ _ 26 26 rfl _ _ (by rfl) (by rfl) (fun ty => hcpB ty _ _) ?_
        clear hcpA hcpB hrz
        go_wp2_with fail
        go_ret
        exact HF.out
end Go.Proofs.Ytiogpomgpknjlaa

namespace Go.Proofs.Ytiogpomgpknjlaa
open Go.RowKit
set_option linter.unusedVariables false
set_option linter.unusedSimpArgs false

theorem cfTal_lt {t x : Tal} : cfTal x.host x.rule t < 0 ↔ kl t x := by
  unfold cfTal cmpI cmpS kl
  by_cases h1 : t.host < x.host
  · simp [h1]
  · by_cases h2 : x.host < t.host
    · have : ¬ t.host = x.host := by omega
      simp [h1, h2, this]
    · have e : t.host = x.host := by omega
      simp [h1, h2, e]
      cases h3 : sl t.rule x.rule with
      | true => simp
      | false => simp; split <;> omega
theorem cfTal_gt {t x : Tal} (h : ¬ cfTal x.host x.rule t < 0) (h0 : ¬ cfTal x.host x.rule t = 0) : kl x t := by
  unfold cfTal cmpI cmpS at h h0
  unfold kl
  by_cases h1 : t.host < x.host
  · simp [h1] at h
  · by_cases h2 : x.host < t.host
    · exact .inl h2
    · have e : t.host = x.host := by omega
      refine .inr ⟨e.symm, ?_⟩
      simp [h1, h2, e] at h h0
      cases h3 : sl x.rule t.rule with
      | true => rfl
      | false => simp [h3] at h h0; split at h <;> simp_all
theorem cfTal_eq {t x : Tal} (h0 : cfTal x.host x.rule t = 0) : ¬ kl t x ∧ ¬ kl x t := by
  refine ⟨fun h => ?_, fun h => ?_⟩
  · have := cfTal_lt.2 h; omega
  · unfold cfTal cmpI cmpS at h0
    rcases h with h | ⟨h, h2⟩
    · have h1 : ¬ t.host < x.host := by omega
      simp [h1, h] at h0
    · have h1 : ¬ t.host < x.host := by omega
      have h3 : ¬ x.host < t.host := by omega
      have h4 : sl t.rule x.rule = false := sl_asymm h2
      simp [h, h1, h3, h4, h2] at h0
theorem TSrt.mono {l : List Tal} (h : TSrt l) (x : Tal) : MonoC (cfTal x.host x.rule) l := by
  intro p q a b hpq ha hb hc
  obtain ⟨p1, p2⟩ := List.getElem?_eq_some_iff.1 ha
  obtain ⟨q1, q2⟩ := List.getElem?_eq_some_iff.1 hb
  have := List.pairwise_iff_getElem.1 h p q p1 q1 hpq
  rw [p2, q2] at this
  rw [cfTal_lt] at hc ⊢
  exact kl_trans this hc
theorem okC_false {α : Type} {cf : α → Int} {xs : List α} (h : okC cf xs = false) {x : α} (hx : xs[lowC cf xs]? = some x) : ¬ cf x = 0 := by
  unfold okC at h
  rw [hx] at h
  simpa using h
theorem okC_some {α : Type} {cf : α → Int} {xs : List α} (h : okC cf xs = true) : ∃ x, xs[lowC cf xs]? = some x ∧ cf x = 0 := by
  unfold okC at h
  cases hx : xs[lowC cf xs]? with
  | none => rw [hx] at h; cases h
  | some x => rw [hx] at h; exact ⟨x, rfl, by simpa using h⟩
set_option maxHeartbeats 4000000 in
set_option maxRecDepth 100000 in
theorem addp_any {S : Nat → Prop} (A : Option Addr) (l : List Tal) (c : Nat) (x : Tal) (w : World) (h : Rd S w A (l.flatMap Tal.cells)) (hl : l.length ≤ 1000) (hA : A = none → l.length = 0) (hs : TSrt l) (hx : 1 ≤ x.lines ∧ x.lines ≤ 1000000) (hin : TIn 1000000 l) :
    Calls Try.prog 39 #[.slice A l.length c, .int .i64 x.host, .string x.rule, .int .i64 x.lines] w (TalsPost w (mrg l [x])) := by
  have KC := Lib.hid (cloneTa_any A l.length c (l.flatMap Tal.cells) w h (tflat_len l) (by omega) (tflat_one l) hA)
  have HS := Lib.hid hs
  have HIN := Lib.hid hin
  have hlow := lowC_le (cf := cfTal x.host x.rule) l
  have i1 : ¬ (x.lines < 1) := by omega
  clear h hs hin hA
  go_enter Try.func39, Try.ntmps39
  go_wp2_with fail
  refine KC.out.mono ?_
  rintro e w1 ⟨A1, c1, rfl, ho1, hg1⟩
  obtain ⟨A9, c9, e9, hc9, hm9, -, hr9⟩ := Rd.of_own ho1 (by decide)
  injection e9 with e91 e92 e93
  subst e91 e93
  have O1 := Lib.hid ho1
  have G1 := Lib.hid hg1
  have hs1 := hg1.size
  have KF := Lib.hid (findTal_any A1 l c1 x.host x.rule w1 hr9 (by omega) (HS.out.mono x))
  clear ho1 hg1 hr9 KC
  go_wp2_with fail
  refine KF.out.mono ?_
  rintro e w2 ⟨rfl, hg2⟩
  have O2 := Lib.hid (own_ext O1.out hg2)
  have G2 := Lib.hid (only_trans G1.out hg2)
  have hs2 := hg2.size
  clear hg2 KF O1
  obtain ⟨m, hm⟩ : ∃ m, m = lowC (cfTal x.host x.rule) l := ⟨_, rfl⟩
  have hml : m ≤ l.length := by omega
  have LT : Hid (∀ j t, j < m → l[j]? = some t → kl t x) := Lib.hid (fun j t hj ht => cfTal_lt.1 (lowC_lt (by rw [← hm]; exact hj) ht))
  cases hok : okC (cfTal x.host x.rule) l with
  | true =>
    obtain ⟨t, ht, h0⟩ := okC_some hok
    rw [← hm] at ht ⊢
    have HT := Lib.hid ht
    have hmt : m < l.length := (List.getElem?_eq_some_iff.1 ht).1
    have HV : Hid (mrg l [x] = l.set m ⟨t.host, t.rule, t.lines + x.lines⟩) := Lib.hid (mrg_hit m LT.out ht (cfTal_eq h0).1 (cfTal_eq h0).2)
    have htl := HIN.out t (List.mem_of_getElem? ht)
    rcases O2.out.2 with ⟨e, h0'⟩ | ⟨g, cap, cur, e, hb, hh, hnc, hcm, hcs, htk⟩
    · omega
    · injection e with e1 e2 e3
      subst e1 e3
      obtain ⟨hset, hgs⟩ := tals_set O2.out ht (t.lines + x.lines)
      have HO := Lib.hid hset
      have HGS := Lib.hid hgs
      have hci := own_cellR (k := m * 3 + 2) O2.out (by omega)
      have hcv : w2.cell? ⟨g, m * 3 + 2, none⟩ = some (.int .i64 t.lines) := by
        rw [hci.1]; exact tflat_at ht 2 (by omega)
      have hfz : w2.frozen? ⟨g, m * 3 + 2, none⟩ = false := hci.2
      have hadd : IntKind.i64.wrap (t.lines + x.lines) = t.lines + x.lines := IntWalk.i64_in _ (by omega)
      have j1 : (m : Int) < (l.length : Int) := by omega
      clear hset hgs hci hm hok ht h0 htl hh hnc hcm hcs htk O2
      go_wp2_with fail
      go_ret
      have hfin := only_fresh G2.out HGS.out hb
      obtain ⟨A8, c8, e8, hc8, hm8, -, hr8⟩ := Rd.of_own HO.out (by decide)
      injection e8 with e81 e82 e83
      subst e81 e83
      have hll : (l.set m ⟨t.host, t.rule, t.lines + x.lines⟩).length = l.length := List.length_set
      rw [HV.out]
      exact ⟨some ⟨g, 0, none⟩, c1, by rw [hll]; rfl, by rw [hll]; exact hc8, hm8, hr8, hfin⟩
  | false =>
    have HV : Hid (mrg l [x] = l.take m ++ x :: l.drop m) := Lib.hid (mrg_at m LT.out (fun t ht => by
      rw [hm] at ht
      exact cfTal_gt (lowC_ge ht) (okC_false hok ht)))
    rw [← hm]
    obtain ⟨x0, hx0⟩ : ∃ x0 : Tal, x0 = ⟨x.host, x.rule, 0⟩ := ⟨_, rfl⟩
    obtain ⟨vb, hvb⟩ : ∃ vb, vb = w2.heap.size := ⟨_, rfl⟩
    obtain ⟨W3, hW3⟩ : ∃ W3, W3 = w2.alloc (.cells #[.int .i64 x.host, .string x.rule, .int .i64 0] 62) := ⟨_, rfl⟩
    have hB3 : Blk W3 vb 62 x0.cells.toArray := by rw [hW3, hvb, hx0]; exact Blk.new w2 _ _
    have ga : w2.grownBy W3 none := by rw [hW3]; exact only_alloc (only_refl _ _) _
    have O3 := Lib.hid (own_ext O2.out ga)
    have hne : (Value.slice A1 l.length c1).ownBlock ≠ some vb := fun e => by have := (O2.out.lt vb e).2; omega
    have G3 := Lib.hid (only_trans G2.out ga)
    have hs3 : w.heap.size ≤ W3.heap.size := G3.out.size
    have KI := Lib.hid (insertTal_any A1 l c1 m vb w.heap.size x0 W3 O3.out hB3 hml (by omega) hne hs3)
    have HW3 := Lib.hid hW3.symm
    have HVB := Lib.hid hvb.symm
    have HX0 := Lib.hid hx0
    clear hm hok hW3 hvb hB3 ga hne hx0 O2
    go_upto_region 6 with fail
    go_wp2_with fail
    rw [HW3.out, HVB.out]
    refine KI.out.mono ?_
    rintro e w4 ⟨A4, c4, rfl, ho4, hg4⟩
    obtain ⟨ys, hys⟩ : ∃ ys, ys = l.take m ++ x0 :: l.drop m := ⟨_, rfl⟩
    rw [← hys] at ho4 ⊢
    have hym : ys[m]? = some x0 := by
      rw [hys, List.getElem?_append_right (by rw [List.length_take]; omega), List.length_take, Nat.min_eq_left hml]; simp
    have hyl : ys.length = l.length + 1 := by rw [hys]; simp; omega
    have hyset : ys.set m ⟨x0.host, x0.rule, x.lines⟩ = mrg l [x] := by
      have e1 : x0.host = x.host := by rw [HX0.out]
      have e2 : x0.rule = x.rule := by rw [HX0.out]
      rw [HV.out, hys, List.set_append_right _ _ (by rw [List.length_take]; omega), List.length_take, Nat.min_eq_left hml, Nat.sub_self, List.set_cons_zero, e1, e2]
    have G4 : Hid (w.grownBy w4 none) := Lib.hid (only_own G3.out hg4 O3.out (Nat.le_refl _))
    rcases ho4.2 with ⟨e, h0'⟩ | ⟨g, cap, cur, e, hb, hh, hnc, hcm, hcs, htk⟩
    · omega
    · injection e with e1 e2 e3
      subst e1 e3
      obtain ⟨hset, hgs⟩ := tals_set ho4 hym x.lines
      have HO := Lib.hid hset
      have HGS := Lib.hid hgs
      have hci := own_cellR (k := m * 3 + 2) ho4 (by omega)
      have hcv : w4.cell? ⟨g, m * 3 + 2, none⟩ = some (.int .i64 0) := by
        rw [hci.1, tflat_at hym 2 (by omega)]; rw [HX0.out]; rfl
      have hfz : w4.frozen? ⟨g, m * 3 + 2, none⟩ = false := hci.2
      have hadd : IntKind.i64.wrap (0 + x.lines) = x.lines := by rw [Int.zero_add]; exact IntWalk.i64_in _ (by omega)
      have hadd2 : IntKind.i64.wrap x.lines = x.lines := IntWalk.i64_in _ (by omega)
      have j1 : (m : Int) < (ys.length : Int) := by omega
      have HYS := Lib.hid hyset
      have HYL := Lib.hid hyl
      clear hset hgs hci hh hnc hcm hcs htk ho4 hg4 hys hym hyset hyl O3 KI HW3 HVB
      go_wp2_with fail
      go_ret
      have hfin := only_fresh G4.out HGS.out hb
      obtain ⟨A8, c8, e8, hc8, hm8, -, hr8⟩ := Rd.of_own HO.out (by decide)
      injection e8 with e81 e82 e83
      subst e81 e83
      have hll : (ys.set m ⟨x0.host, x0.rule, x.lines⟩).length = ys.length := List.length_set
      rw [← HYS.out]
      exact ⟨some ⟨g, 0, none⟩, c4, by rw [hll]; rfl, by rw [hll]; exact hc8, hm8, hr8, hfin⟩
end Go.Proofs.Ytiogpomgpknjlaa
