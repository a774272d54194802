/- Rows of elements of several cells; an append behind a new block. No condition. -/
import Derived.Test.YtfkgcighooijhaaGreatDoorDraw
namespace Go.Proofs.YtfkgcighooijhaaGreatDoor
open Go.RowKit
set_option linter.unusedVariables false
set_option linter.unusedSimpArgs false

theorem flat_at {α : Type} (f : α → List Value) (z : Nat) (hf : ∀ x, (f x).length = z) (l : List α) : ∀ (i j : Nat) (hi : i < l.length), j < z → (l.flatMap f)[i * z + j]? = (f l[i])[j]? := by
  induction l with
  | nil => intro i j hi; simp at hi
  | cons x l ih =>
    intro i j hi hj
    rw [List.flatMap_cons]
    cases i with
    | zero => rw [List.getElem?_append_left (by rw [hf]; omega)]; simp
    | succ i =>
      rw [List.getElem?_append_right (by rw [hf, Nat.add_mul]; omega), hf]
      have : (i + 1) * z + j - z = i * z + j := by rw [Nat.add_mul]; omega
      rw [this]
      exact ih i j (by simpa using hi) hj
theorem flat_len {α : Type} (f : α → List Value) (z : Nat) (hf : ∀ x, (f x).length = z) (l : List α) : (l.flatMap f).length = l.length * z := by
  induction l with
  | nil => simp
  | cons x l ih => rw [List.flatMap_cons, List.length_append, hf, ih, List.length_cons, Nat.add_mul]; omega
theorem flat_take {α : Type} {f : α → List Value} {z : Nat} (hf : ∀ x, (f x).length = z) (l : List α) (n : Nat) : (l.take n).flatMap f = (l.flatMap f).take (n * z) := by
  induction l generalizing n with
  | nil => simp
  | cons x l ih =>
    cases n with
    | zero => simp
    | succ n =>
      have h1 : (f x).take ((n + 1) * z) = f x := List.take_of_length_le (by rw [hf, Nat.add_mul]; omega)
      have h2 : (n + 1) * z - (f x).length = n * z := by rw [hf, Nat.add_mul]; omega
      rw [List.take_succ_cons, List.flatMap_cons, List.flatMap_cons, ih, List.take_append, h1, h2]
theorem flat_drop {α : Type} {f : α → List Value} {z : Nat} (hf : ∀ x, (f x).length = z) (l : List α) (n : Nat) : (l.drop n).flatMap f = (l.flatMap f).drop (n * z) := by
  induction l generalizing n with
  | nil => simp
  | cons x l ih =>
    cases n with
    | zero => simp
    | succ n =>
      have h1 : (f x).drop ((n + 1) * z) = [] := List.drop_of_length_le (by rw [hf, Nat.add_mul]; omega)
      have h2 : (n + 1) * z - (f x).length = n * z := by rw [hf, Nat.add_mul]; omega
      rw [List.drop_succ_cons, List.flatMap_cons, ih, List.drop_append, h1, h2, List.nil_append]
theorem flat_set {α : Type} {f : α → List Value} {z : Nat} (hf : ∀ x, (f x).length = z) (l : List α) : ∀ (i j : Nat) (hi : i < l.length) (y : α) (u : Value), j < z → (f l[i]).set j u = f y → (l.flatMap f).set (i * z + j) u = (l.set i y).flatMap f := by
  induction l with
  | nil => intro i j hi; simp at hi
  | cons x l ih =>
    intro i j hi y u hj h
    cases i with
    | zero =>
      simp only [List.getElem_cons_zero] at h
      rw [List.flatMap_cons, List.set_cons_zero, List.flatMap_cons, List.set_append, if_pos (by rw [hf]; omega)]
      rw [Nat.zero_mul, Nat.zero_add, h]
    | succ i =>
      rw [List.flatMap_cons, List.set_cons_succ, List.flatMap_cons, List.set_append, if_neg (by rw [hf, Nat.add_mul]; omega)]
      have e : (i + 1) * z + j - (f x).length = i * z + j := by rw [hf, Nat.add_mul]; omega
      rw [e, ih i j (by simpa using hi) y u hj (by simpa using h)]
theorem flat_one {α : Type} {f : α → List Value} (h : ∀ x, ∀ u ∈ f x, u.oneCell' = true) (l : List α) : ∀ u ∈ l.flatMap f, u.oneCell' = true := by
  intro u hu
  obtain ⟨x, _, hx⟩ := List.mem_flatMap.1 hu
  exact h x u hx
/-- append of one element that has just been laid in block H -/
theorem wpList_append1h {P : Program} {ops : Array Oper} {rest : List Oper} {o : Oper} {a : Act} {Q : Exit → Act → World → Prop} (hgd : o.guard = none) (s x : Operand) (t : TypeId)
    (ho : o.op = .call { callee := .builtin .append, args := #[s, x], argTypes := #[t, t] })
    (base : Nat) {e : TypeId} {z : Value} {size bytes : Nat} (ht : P.underlying t = some (.slice e)) (hi : (P.info? e).map (fun i => (i.zero, i.size, i.bytes)) = some (some z, size, bytes)) (hzs : z.cells.size = size) (hsz : 0 < size)
    {v : Value} {n : Nat} {xs : List Value} (hs : a.eval s = v) {w0 : World} {cs : Array Value} (hown : w0.ownsRow base e size v n xs) (H : Nat) (hH : w0.heap.size = H)
    (hx : a.eval x = .slice (some ⟨H, 0, none⟩) 1 1) (hl : cs.size = size) (h1 : ∀ u ∈ cs.toList, u.oneCell' = true)
    (hb : bytes ≤ 1000) (hn : n ≤ 10000000) (hbase : base ≤ H)
    (h : ∀ v' w', w'.ownsRow base e size v' (n + 1) (xs ++ cs.toList) → w0.grownBy w' v.ownBlock → (v'.ownBlock = v.ownBlock ∨ v'.ownBlock = some (H + 1)) → wpList P ops Q rest (a.put o.dst v') w') : wpList P ops Q (o :: rest) a (w0.alloc (.cells cs e)) := by
  subst hH
  exact wpList_append1 hgd s x t ho base ht hi hzs hsz hs hown hx hl h1 hb hn hbase h
end Go.Proofs.YtfkgcighooijhaaGreatDoor
