/- Copying between rows of elements of several cells; rows that are turned whole. No condition. -/
import Derived.Test.YtiogpomgpknjlaaFlat
import Derived.Laws.CopyRow
import Derived.Lib.Overlaps
import Derived.Lib.AppendZerosOnto
import Derived.Lib.AppendZeros
import Derived.Laws.Externs
namespace Go.Proofs.Ytiogpomgpknjlaa
open Go.RowKit
set_option linter.unusedVariables false
set_option linter.unusedSimpArgs false

theorem run_copyK {P : Program} (w : World) (dT sT ty elem : TypeId) (z g o dLen dCap : Nat) (a : Addr) (sLen sCap : Nat) (cur : Array Value) (t : TypeId) (cs : List Value)
    (hu : P.underlying dT = some (.slice elem)) (hs : (P.info? elem).map (·.size) = some z)
    (hg : w.heap[g]? = some (.cells cur t (0, 0))) (hn : cs.length = Nat.min sLen dLen * z)
    (hsrc : ∀ j v, cs[j]? = some v → w.cell? (a.add j) = some v) (hfit : o + cs.length ≤ cur.size) (h1 : ∀ v ∈ cs, v.oneCell' = true) :
    (Builtin.copy_ #[dT, sT] ty #[.slice (some ⟨g, o, none⟩) dLen dCap, .slice (some a) sLen sCap]).run P w =
      .ok (goInt (Nat.min sLen dLen)) (w.setRow g (cur.toList.take o ++ cs ++ cur.toList.drop (o + cs.length)).toArray) := by
  have hl := run_loadCells_list (P := P) w a cs hsrc
  have hst := run_storeCells_at P g o t cs 0 cur w hg (by simpa using hfit) h1
  cases hq : P.info? elem with
  | none => simp [hq] at hs
  | some i =>
    have hi : i.size = z := by simpa [hq] using hs
    rw [hn] at hl
    simp only [Nat.add_zero] at hst
    simp [Builtin.copy_, run_underlying hu, Builtin.lenOf, Builtin.firstCells, sizeOf, typeInfo, hq, hi, hl]
    rw [hst]
    simp
theorem wpList_copyK {P : Program} {w : World} {ops : Array Oper} {rest : List Oper} {o : Oper} {a : Act} {Q : Exit → Act → World → Prop} (hgd : o.guard = none) (d s : Operand) (t t' : TypeId)
    (ho : o.op = .call { callee := .builtin .copy, args := #[d, s], argTypes := #[t, t'] }) (v u : Value) (hd : a.eval d = v) (hs : a.eval s = u) {v' : Value} {w' : World}
    (hr : ∀ ty, (Builtin.copy_ #[t, t'] ty #[v, u]).run P w = .ok v' w') (h : wpList P ops Q rest (a.put o.dst v') w') : wpList P ops Q (o :: rest) a w :=
  wpList_plain hgd fun K hK => by
    unfold Oper.wp execOp
    simp only [ho, resolve, invoke, builtin, Sem.run_bind, Sem.run_pure, Result.andThen_ok, List.map_toArray, List.map_cons, List.map_nil, hd, hs, hr]
    exact hK _ _ h
theorem grown_setRow (w : World) (g : Nat) (cs : Array Value) : w.grownBy (w.setRow g cs) (some g) :=
  ⟨rfl, rfl, rfl, by simp [World.setRow], fun k hk hne => setRow_other w g k cs (fun e => hne (by rw [e]))⟩
theorem own_setRow {w : World} {base e z g n c : Nat} {cur cs : Array Value} {xs : List Value} (hg : w.heap[g]? = some (.cells cur e (0, 0))) (hb : base ≤ g) (hn : n ≤ c) (hm : c ≤ maxLen) (hs : cs.size = c * z) (hl : xs.length = n * z) (ht : cs.toList.take (n * z) = xs) :
    (w.setRow g cs).ownsRow base e z (.slice (some ⟨g, 0, none⟩) n c) n xs :=
  ⟨hl, .inr ⟨g, c, cs, rfl, hb, setRow_heap w g cur cs e (0, 0) hg, hn, hm, hs, ht⟩⟩
/-- from place i on one further: first what stands there, then the new element -/
theorem ins_cur {cur A B X : List Value} {z n i : Nat} (ht : cur.take (n * z) = A ++ B) (hA : A.length = i * z) (hB : B.length = (n - i) * z) (hi : i ≤ n) (hX : X.length = z) (hc : (n + 1) * z ≤ cur.length) {cur1 cur2 : List Value}
    (h1 : cur1 = cur.take ((i + 1) * z) ++ B ++ cur.drop ((i + 1) * z + B.length)) (h2 : cur2 = cur1.take (i * z) ++ X ++ cur1.drop (i * z + X.length)) :
    cur1.length = cur.length ∧ cur2.length = cur.length ∧ cur2.take ((n + 1) * z) = A ++ X ++ B := by
  have e1 : (i + 1) * z = i * z + z := Nat.succ_mul i z
  have e2 : (n + 1) * z = n * z + z := Nat.succ_mul n z
  have e3 : i * z + (n - i) * z = n * z := by rw [← Nat.add_mul]; congr 1; omega
  have l1 : (cur.take ((i + 1) * z)).length = (i + 1) * z := by rw [List.length_take]; omega
  have k1 : cur1.length = cur.length := by rw [h1]; simp only [List.length_append, List.length_drop, l1]; omega
  have k2 : cur2.length = cur.length := by rw [h2]; simp only [List.length_append, List.length_drop, List.length_take]; omega
  refine ⟨k1, k2, ?_⟩
  have a1 : cur1.take (i * z) = A := by
    rw [h1, List.append_assoc, List.take_append_of_le_length (by omega), List.take_take, Nat.min_eq_left (by omega)]
    have : (cur.take (n * z)).take (i * z) = A := by rw [ht, ← hA, List.take_left']; rfl
    rw [List.take_take, Nat.min_eq_left (by omega)] at this
    exact this
  have a2 : cur1.drop (i * z + X.length) = B ++ cur.drop ((i + 1) * z + B.length) := by
    rw [h1, List.append_assoc, List.drop_left' (by omega)]
  rw [h2, a1, a2, ← List.append_assoc, List.take_left']
  simp only [List.length_append]
  omega
/-- into a new row: the element, then what stood from its place on -/
theorem ins_new {row A Z B X : List Value} {z n i : Nat} (hr : row = A ++ Z) (hA : A.length = i * z) (hB : B.length = (n - i) * z) (hi : i ≤ n) (hX : X.length = z) (hc : (n + 1) * z ≤ row.length) {row1 row2 : List Value}
    (h1 : row1 = row.take (i * z) ++ X ++ row.drop (i * z + X.length)) (h2 : row2 = row1.take ((i + 1) * z) ++ B ++ row1.drop ((i + 1) * z + B.length)) :
    row1.length = row.length ∧ row2.length = row.length ∧ row2.take ((n + 1) * z) = A ++ X ++ B := by
  have e1 : (i + 1) * z = i * z + z := Nat.succ_mul i z
  have e2 : (n + 1) * z = n * z + z := Nat.succ_mul n z
  have e3 : i * z + (n - i) * z = n * z := by rw [← Nat.add_mul]; congr 1; omega
  have k1 : row1.length = row.length := by rw [h1]; simp only [List.length_append, List.length_drop, List.length_take]; omega
  have k2 : row2.length = row.length := by rw [h2]; simp only [List.length_append, List.length_drop, List.length_take]; omega
  refine ⟨k1, k2, ?_⟩
  have a1 : row.take (i * z) = A := by rw [hr, ← hA, List.take_left']; rfl
  have a2 : row1.take ((i + 1) * z) = A ++ X := by
    rw [h1, a1, List.take_left']
    simp only [List.length_append]; omega
  rw [h2, a2, List.take_left']
  simp only [List.length_append]
  omega
theorem own_cellR {w : World} {base e size g n c k : Nat} {xs : List Value} (h : w.ownsRow base e size (.slice (some ⟨g, 0, none⟩) n c) n xs) (hk : k < n * size) : w.cell? ⟨g, k, none⟩ = xs[k]? ∧ w.frozen? ⟨g, k, none⟩ = false := by
  obtain ⟨hl, h2⟩ := h
  rcases h2 with ⟨h3, _⟩ | ⟨g', cap, cur, h3, h4, h5, h6, h7, h8, h9⟩
  · cases h3
  · injection h3 with e1 e2 e3
    injection e1 with e1
    injection e1 with e1
    subst e1 e3
    have hB : Blk w g e cur := h5
    refine ⟨?_, hB.frozen k⟩
    rw [hB.cell k, ← h9, List.getElem?_take_of_lt (by omega), Array.getElem?_toList]
end Go.Proofs.Ytiogpomgpknjlaa
