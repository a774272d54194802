/- Rows of bytes that grow: words for 'append to what came in'. No condition. -/
import Derived.Test.YtfkgcighooijhaaGreatDoorBase
import Derived.Lib.AppendStr
import Derived.IntWalk
namespace Go.Proofs.YtfkgcighooijhaaGreatDoor
open Go.RowKit
set_option linter.unusedVariables false
set_option linter.unusedSimpArgs false

theorem byteInfo : (Tryz.prog.info? 5).map (fun i => (i.zero, i.size, i.bytes)) = some (some (.int .u8 0), 1, 1) := by kernel_rfl

/-- the row v has grown to v' -/
def Onto (w : World) (v v' : Value) (w' : World) : Prop := w.grownBy w' v.ownBlock ∧ (v'.ownBlock = v.ownBlock ∨ ∃ k, w.heap.size ≤ k ∧ v'.ownBlock = some k)
theorem Onto.refl (w : World) (v : Value) : Onto w v v w := ⟨only_refl _ _, .inl rfl⟩
theorem Onto.trans {w w1 w2 : World} {v v1 v2 : Value} (h : Onto w v v1 w1) (k : Onto w1 v1 v2 w2) : Onto w v v2 w2 := by
  obtain ⟨hg, ho⟩ := h
  obtain ⟨kg, ko⟩ := k
  have hz := hg.size
  refine ⟨?_, ?_⟩
  · rcases ho with e | ⟨j, hj, e⟩
    · rw [e] at kg; exact only_trans hg kg
    · rw [e] at kg; exact only_fresh hg kg hj
  · rcases ko with e | ⟨j, hj, e⟩
    · rw [e]; exact ho
    · exact .inr ⟨j, by omega, e⟩
theorem Onto.drewN {w w1 : World} {v v1 : Value} (h : Onto w v v1 w1) (n : Nat) : Onto w v v1 (w1.drewN n) := ⟨only_drewN h.1 n, h.2⟩
theorem Onto.drew {w w1 : World} {v v1 : Value} (h : Onto w v v1 w1) : Onto w v v1 w1.drew := ⟨only_drew h.1, h.2⟩
/-- a frame over a row of the call's own -/
theorem Onto.only {a w w' : World} {base e size n : Nat} {v v' : Value} {xs : List Value} {row : Option Nat} (k : Onto w v v' w') (h : a.grownBy w row) (ho : w.ownsRow base e size v n xs) (hb : a.heap.size ≤ base) : a.grownBy w' row := only_own h k.1 ho hb
theorem onto_ap {w0 w1 : World} {v v' : Value} (hg : w0.grownBy w1 v.ownBlock) (hob : v'.ownBlock = v.ownBlock ∨ v'.ownBlock = some (w0.heap.size + 1)) : Onto w0 v v' w1 :=
  ⟨hg, hob.elim .inl fun h => .inr ⟨_, by omega, h⟩⟩
theorem Rd.onto {S : Nat → Prop} {w w' : World} {v v' : Value} {A : Option Addr} {xs : List Value} (h : Rd S w A xs) (k : Onto w v v' w') (hne : ∀ b, S b → some b ≠ v.ownBlock) : Rd S w' A xs := h.grown k.1 hne
/-- what was apart from the old row is apart from the grown one -/
theorem Onto.ne {S : Nat → Prop} {w w' : World} {v v' : Value} (k : Onto w v v' w') (hS : ∀ b, S b → b < w.heap.size) (hne : ∀ b, S b → some b ≠ v.ownBlock) : ∀ b, S b → some b ≠ v'.ownBlock := fun b hb e => by
  rcases k.2 with h | ⟨j, hj, h⟩
  · rw [h] at e; exact hne b hb e
  · rw [h] at e; injection e with e; have := hS b hb; omega
/-- bytes in a row that this call or its caller made -/
def Byts (base : Nat) (w : World) (v : Value) (xs : List Int) : Prop := w.ownsRow base 5 1 v xs.length (xs.map (.int .u8))
theorem Byts.snoc {base : Nat} {w : World} {v : Value} {xs : List Int} {x : Int} (h : w.ownsRow base 5 1 v (xs.length + 1) (xs.map (.int .u8) ++ #[Value.int .u8 x].toList)) : Byts base w v (xs ++ [x]) := own_snoc_int h
def bts (s : ByteArray) : List Int := s.data.toList.map (fun b => (b.toNat : Int))
theorem bts_len (s : ByteArray) : (bts s).length = s.size := by simp [bts]
theorem bts_cells (s : ByteArray) : (bts s).map (.int .u8) = Lib.strCells s := by simp [bts, Lib.strCells]
theorem Byts.str {base : Nat} {w : World} {v : Value} {xs : List Int} {s : ByteArray} (h : w.ownsRow base 5 1 v (xs.length + s.size) (xs.map (.int .u8) ++ Lib.strCells s)) : Byts base w v (xs ++ bts s) := by
  unfold Byts; rw [List.map_append, bts_cells, List.length_append, bts_len]; exact h
theorem Byts.drewN {base : Nat} {w : World} {v : Value} {xs : List Int} (h : Byts base w v xs) (n : Nat) : Byts base (w.drewN n) v xs := h
theorem Byts.rd {base : Nat} {w : World} {v : Value} {xs : List Int} (h : Byts base w v xs) : ∃ A c, v = .slice A xs.length c ∧ xs.length ≤ c ∧ c ≤ maxLen ∧ Rd (base ≤ ·) w A (xs.map (.int .u8)) := by
  obtain ⟨A, c, h1, h2, h3, _, h4⟩ := Rd.of_own h (by decide)
  exact ⟨A, c, h1, h2, h3, h4⟩
theorem Byts.nil (base : Nat) (w : World) : Byts base w (.slice none 0 0) [] := World.ownsRow_nil _ _ _ _
theorem Byts.only {a w w' : World} {base : Nat} {v v' : Value} {xs : List Int} {row : Option Nat} (h : Byts base w v xs) (k : Onto w v v' w') (hg : a.grownBy w row) (hb : a.heap.size ≤ base) : a.grownBy w' row := only_own hg k.1 h hb
def VPost (base : Nat) (w : World) (v : Value) (xs : List Int) (e : Ending) (w' : World) : Prop := ∃ v', e = .returned v' ∧ Byts base w' v' xs ∧ Onto w v v' w'

/-- a number in base 128 -/
def vint (n : Nat) : List Int := if n < 128 then [(n : Int)] else ((n % 128 + 128 : Nat) : Int) :: vint (n / 128)
theorem vint_lt {n : Nat} (h : n < 128) : vint n = [(n : Int)] := by rw [vint, if_pos h]
theorem vint_ge {n : Nat} (h : ¬ n < 128) : vint n = ((n % 128 + 128 : Nat) : Int) :: vint (n / 128) := by rw [vint, if_neg h]
theorem vint_len (n : Nat) : (vint n).length ≤ n + 1 := by
  fun_induction vint n with
  | case1 n h => simp
  | case2 n h ih => simp; omega
theorem wpList_appendS {P : Program} {ops : Array Oper} {rest : List Oper} {o : Oper} {a : Act} {w : World} {Q : Exit → Act → World → Prop} (hgd : o.guard = none) (sl x : Operand) (t u : TypeId)
    (ho : o.op = .call { callee := .builtin .append, args := #[sl, x], argTypes := #[t, u] })
    (base : Nat) (ht : P.underlying t = some (.slice 5)) (hu : P.underlying u = some .string) (hi : (P.info? 5).map (fun i => (i.zero, i.size, i.bytes)) = some (some (.int .u8 0), 1, 1))
    {v : Value} {xs : List Int} (hs : a.eval sl = v) (hown : Byts base w v xs) (s : ByteArray) (hx : a.eval x = .string s)
    (hn : xs.length + s.size ≤ 100000000000) (hbase : base ≤ w.heap.size)
    (h : ∀ v' w', Byts base w' v' (xs ++ bts s) → w.grownBy w' v.ownBlock → wpList P ops Q rest (a.put o.dst v') w') : wpList P ops Q (o :: rest) a w := by
  obtain ⟨i0, hi0, hz0, hz1, hz2⟩ := info_parts hi
  exact Lib.wpList_append_own_string w hgd sl x t u ho base _ i0 ht hu hi0 hz0 hz1 hz2 v _ _ hs hown s hx (by unfold maxLen; omega) (by omega) hbase fun v' w' h1 h2 _ => h v' w' (Byts.str h1) h2
theorem bts_at (s : ByteArray) {k : Nat} (h : k < s.size) : (bts s)[k]? = some ((s[k]'h).toNat : Int) := by
  unfold bts
  rw [List.getElem?_map, Array.getElem?_toList, Array.getElem?_eq_getElem (by simpa using h)]
  rfl
theorem bts_length (s : ByteArray) : (bts s).length = s.size := by unfold bts; simp
end Go.Proofs.YtfkgcighooijhaaGreatDoor
