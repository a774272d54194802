/- XNatB: what this seat has of them (joined by partseat.py). Conditions: as there. -/
import Derived.Test.YtodaabofpkafjaaGreatBase
import Derived.Lib.ConvBytes
import Derived.Shelf.Bytes.SlEqualAll
import Derived.Lib.ItoaLen
import Derived.Lib.AppendStr
import Derived.IntWalk
import Derived.Deep.DeepCutAuto
import Derived.Lib.Strings
namespace Go.Proofs.YtodaabofpkafjaaGreat
open Go.RowKit
set_option linter.unusedVariables false
set_option linter.unusedSimpArgs false

theorem u8Info27 : (Tryz.prog.info? 5).map (fun i => (i.zero, i.size, i.bytes)) = some (some (.int .u8 0), 1, 1) := by kernel_rfl
theorem bytesin_rd {S : Nat → Prop} {w : World} {A : Option Addr} {bs : List Int} (h : Rd S w A (bs.map (.int .u8))) : Lib.BytesIn w A bs.length bs := by
  intro h0
  obtain ⟨b, o, rfl, -, -, hc⟩ := h (by simpa using h0)
  refine ⟨b, o, rfl, fun j hj => ?_⟩
  exact hc j _ (by rw [List.getElem?_map, List.getElem?_eq_getElem hj, List.getD_eq_getElem?_getD, List.getElem?_eq_getElem hj]; rfl)
def natB (l : List UInt8) : List Int := l.map (fun b => (b.toNat : Int))
theorem dig_toNat {d : Nat} (h : d < 10) : ((UInt8.ofNat (48 + d)).toNat : Int) = 48 + d := by
  have : (UInt8.ofNat (48 + d)).toNat = 48 + d := by simp [UInt8.toNat_ofNat]; omega
  rw [this]; omega
theorem nDigits_le : ∀ (k u : Nat), 1 ≤ k → u < 10 ^ k → Lib.nDigits u ≤ k
  | 0, _, h, _ => by omega
  | k + 1, u, _, h => by
    by_cases h10 : u < 10
    · rw [Lib.nDigits_small h10]; omega
    · rw [Lib.nDigits_big h10]
      by_cases hk : k = 0
      · subst hk; simp at h; omega
      · have := nDigits_le k (u / 10) (by omega) (by rw [Nat.pow_succ] at h; omega)
        omega
end Go.Proofs.YtodaabofpkafjaaGreat

namespace Go.Proofs.YtodaabofpkafjaaGreat
open Go.RowKit
set_option linter.unusedVariables false
set_option linter.unusedSimpArgs false

theorem byteInfo : (Tryz.prog.info? 5).map (fun i => (i.zero, i.size, i.bytes)) = some (some (.int .u8 0), 1, 1) := by kernel_rfl

/-- the row v has grown to v' -/
def Onto (w : World) (v v' : Value) (w' : World) : Prop := w.grownBy w' v.ownBlock ∧ (v'.ownBlock = v.ownBlock ∨ ∃ k, w.heap.size ≤ k ∧ v'.ownBlock = some k)
theorem Onto.refl (w : World) (v : Value) : Onto w v v w := ⟨only_refl _ _, .inl rfl⟩
theorem Onto.trans {w w1 w2 : World} {v v1 v2 : Value} (h : Onto w v v1 w1) (k : Onto w1 v1 v2 w2) : Onto w v v2 w2 := by
  obtain ⟨hg, ho⟩ := h
  obtain ⟨kg, ko⟩ := k
  have hz := hg.size
  refine ⟨?_, ?_⟩
  · rcases ho with e | ⟨j, hj, e⟩
    · rw [e] at kg; exact only_trans hg kg
    · rw [e] at kg; exact only_fresh hg kg hj
  · rcases ko with e | ⟨j, hj, e⟩
    · rw [e]; exact ho
    · exact .inr ⟨j, by omega, e⟩
theorem Onto.drewN {w w1 : World} {v v1 : Value} (h : Onto w v v1 w1) (n : Nat) : Onto w v v1 (w1.drewN n) := ⟨only_drewN h.1 n, h.2⟩
theorem Onto.drew {w w1 : World} {v v1 : Value} (h : Onto w v v1 w1) : Onto w v v1 w1.drew := ⟨only_drew h.1, h.2⟩
/-- a frame over a row of the call's own -/
theorem Onto.only {a w w' : World} {base e size n : Nat} {v v' : Value} {xs : List Value} {row : Option Nat} (k : Onto w v v' w') (h : a.grownBy w row) (ho : w.ownsRow base e size v n xs) (hb : a.heap.size ≤ base) : a.grownBy w' row := only_own h k.1 ho hb
theorem onto_ap {w0 w1 : World} {v v' : Value} (hg : w0.grownBy w1 v.ownBlock) (hob : v'.ownBlock = v.ownBlock ∨ v'.ownBlock = some (w0.heap.size + 1)) : Onto w0 v v' w1 :=
  ⟨hg, hob.elim .inl fun h => .inr ⟨_, by omega, h⟩⟩
theorem Rd.onto {S : Nat → Prop} {w w' : World} {v v' : Value} {A : Option Addr} {xs : List Value} (h : Rd S w A xs) (k : Onto w v v' w') (hne : ∀ b, S b → some b ≠ v.ownBlock) : Rd S w' A xs := h.grown k.1 hne
/-- what was apart from the old row is apart from the grown one -/
theorem Onto.ne {S : Nat → Prop} {w w' : World} {v v' : Value} (k : Onto w v v' w') (hS : ∀ b, S b → b < w.heap.size) (hne : ∀ b, S b → some b ≠ v.ownBlock) : ∀ b, S b → some b ≠ v'.ownBlock := fun b hb e => by
  rcases k.2 with h | ⟨j, hj, h⟩
  · rw [h] at e; exact hne b hb e
  · rw [h] at e; injection e with e; have := hS b hb; omega
/-- bytes in a row that this call or its caller made -/
def Byts (base : Nat) (w : World) (v : Value) (xs : List Int) : Prop := w.ownsRow base 5 1 v xs.length (xs.map (.int .u8))
theorem Byts.snoc {base : Nat} {w : World} {v : Value} {xs : List Int} {x : Int} (h : w.ownsRow base 5 1 v (xs.length + 1) (xs.map (.int .u8) ++ #[Value.int .u8 x].toList)) : Byts base w v (xs ++ [x]) := own_snoc_int h
def bts (s : ByteArray) : List Int := s.data.toList.map (fun b => (b.toNat : Int))
theorem bts_len (s : ByteArray) : (bts s).length = s.size := by simp [bts]
theorem bts_cells (s : ByteArray) : (bts s).map (.int .u8) = Lib.strCells s := by simp [bts, Lib.strCells]
theorem Byts.str {base : Nat} {w : World} {v : Value} {xs : List Int} {s : ByteArray} (h : w.ownsRow base 5 1 v (xs.length + s.size) (xs.map (.int .u8) ++ Lib.strCells s)) : Byts base w v (xs ++ bts s) := by
  unfold Byts; rw [List.map_append, bts_cells, List.length_append, bts_len]; exact h
theorem Byts.drewN {base : Nat} {w : World} {v : Value} {xs : List Int} (h : Byts base w v xs) (n : Nat) : Byts base (w.drewN n) v xs := h
theorem Byts.rd {base : Nat} {w : World} {v : Value} {xs : List Int} (h : Byts base w v xs) : ∃ A c, v = .slice A xs.length c ∧ xs.length ≤ c ∧ c ≤ maxLen ∧ Rd (base ≤ ·) w A (xs.map (.int .u8)) := by
  obtain ⟨A, c, h1, h2, h3, _, h4⟩ := Rd.of_own h (by decide)
  exact ⟨A, c, h1, h2, h3, h4⟩
theorem Byts.nil (base : Nat) (w : World) : Byts base w (.slice none 0 0) [] := World.ownsRow_nil _ _ _ _
theorem Byts.only {a w w' : World} {base : Nat} {v v' : Value} {xs : List Int} {row : Option Nat} (h : Byts base w v xs) (k : Onto w v v' w') (hg : a.grownBy w row) (hb : a.heap.size ≤ base) : a.grownBy w' row := only_own hg k.1 h hb
def VPost (base : Nat) (w : World) (v : Value) (xs : List Int) (e : Ending) (w' : World) : Prop := ∃ v', e = .returned v' ∧ Byts base w' v' xs ∧ Onto w v v' w'

/-- a number in base 128 -/
def vint (n : Nat) : List Int := if n < 128 then [(n : Int)] else ((n % 128 + 128 : Nat) : Int) :: vint (n / 128)
theorem vint_lt {n : Nat} (h : n < 128) : vint n = [(n : Int)] := by rw [vint, if_pos h]
theorem vint_ge {n : Nat} (h : ¬ n < 128) : vint n = ((n % 128 + 128 : Nat) : Int) :: vint (n / 128) := by rw [vint, if_neg h]
theorem vint_len (n : Nat) : (vint n).length ≤ n + 1 := by
  fun_induction vint n with
  | case1 n h => simp
  | case2 n h ih => simp; omega
theorem wpList_appendS {P : Program} {ops : Array Oper} {rest : List Oper} {o : Oper} {a : Act} {w : World} {Q : Exit → Act → World → Prop} (hgd : o.guard = none) (sl x : Operand) (t u : TypeId)
    (ho : o.op = .call { callee := .builtin .append, args := #[sl, x], argTypes := #[t, u] })
    (base : Nat) (ht : P.underlying t = some (.slice 5)) (hu : P.underlying u = some .string) (hi : (P.info? 5).map (fun i => (i.zero, i.size, i.bytes)) = some (some (.int .u8 0), 1, 1))
    {v : Value} {xs : List Int} (hs : a.eval sl = v) (hown : Byts base w v xs) (s : ByteArray) (hx : a.eval x = .string s)
    (hn : xs.length + s.size ≤ 100000000000) (hbase : base ≤ w.heap.size)
    (h : ∀ v' w', Byts base w' v' (xs ++ bts s) → w.grownBy w' v.ownBlock → wpList P ops Q rest (a.put o.dst v') w') : wpList P ops Q (o :: rest) a w := by
  obtain ⟨i0, hi0, hz0, hz1, hz2⟩ := info_parts hi
  exact Lib.wpList_append_own_string w hgd sl x t u ho base _ i0 ht hu hi0 hz0 hz1 hz2 v _ _ hs hown s hx (by unfold maxLen; omega) (by omega) hbase fun v' w' h1 h2 _ => h v' w' (Byts.str h1) h2
theorem bts_at (s : ByteArray) {k : Nat} (h : k < s.size) : (bts s)[k]? = some ((s[k]'h).toNat : Int) := by
  unfold bts
  rw [List.getElem?_map, Array.getElem?_toList, Array.getElem?_eq_getElem (by simpa using h)]
  rfl
theorem bts_length (s : ByteArray) : (bts s).length = s.size := by unfold bts; simp
end Go.Proofs.YtodaabofpkafjaaGreat

namespace Go.Proofs.YtodaabofpkafjaaGreat
open Go.RowKit
set_option linter.unusedVariables false
set_option linter.unusedSimpArgs false

/-- a letter in lower case -/
def lowI (c : Int) : Option Int := if 65 ≤ c ∧ c ≤ 90 then some (c + 32) else if (97 ≤ c ∧ c ≤ 122) ∨ (48 ≤ c ∧ c ≤ 57) ∨ c = 95 then some c else none
def flushW (cur : List Int) (out : List ByteArray) : List ByteArray := if 0 < cur.length ∧ cur.length ≤ 40 then out ++ [strOfNums cur] else out
def stepW (st : List Int × List ByteArray) (c : Int) : List Int × List ByteArray := match lowI c with
  | some d => (st.1 ++ [d], st.2)
  | none => ([], flushW st.1 st.2)
def wst (cs : List Int) : List Int × List ByteArray := cs.foldl stepW ([], [])
/-- all words, one after the other -/
def rawW (cs : List Int) : List ByteArray := flushW (wst cs).1 (wst cs).2
theorem wst_snoc (cs : List Int) (c : Int) : wst (cs ++ [c]) = stepW (wst cs) c := by unfold wst; rw [List.foldl_append]; rfl
theorem wst_len : ∀ (n : Nat) (cs : List Int), cs.length ≤ n → (wst cs).1.length ≤ cs.length ∧ (wst cs).2.length ≤ cs.length := by
  intro n
  induction n with
  | zero => intro cs h; have : cs = [] := List.eq_nil_of_length_eq_zero (by omega); subst this; simp [wst]
  | succ n ih =>
    intro cs h
    rcases List.eq_nil_or_concat cs with rfl | ⟨l, c, rfl⟩
    · simp [wst]
    · have e : l.concat c = l ++ [c] := List.concat_eq_append
      rw [e] at h ⊢
      rw [wst_snoc]
      have hl : l.length ≤ n := by simp at h; omega
      obtain ⟨h1, h2⟩ := ih l hl
      unfold stepW
      cases lowI c with
      | some d =>
        show ((wst l).1 ++ [d]).length ≤ _ ∧ (wst l).2.length ≤ _
        simp only [List.length_append, List.length_singleton]
        omega
      | none =>
        show ([] : List Int).length ≤ _ ∧ (flushW (wst l).1 (wst l).2).length ≤ _
        unfold flushW
        simp only [List.length_append, List.length_singleton, List.length_nil]
        split
        · rw [List.length_append, List.length_singleton]; omega
        · omega
theorem rawW_len (cs : List Int) : (rawW cs).length ≤ cs.length + 1 := by
  have h := wst_len cs.length cs (Nat.le_refl _)
  unfold rawW flushW
  split
  · rw [List.length_append, List.length_singleton]; omega
  · omega
theorem lowI_in {c d : Int} (h : lowI c = some d) : 0 ≤ d ∧ d ≤ 255 ∧ d ≠ 0 := by
  unfold lowI at h
  split at h
  · injection h; omega
  · split at h
    · injection h; omega
    · cases h
theorem wst_bytes : ∀ (cs : List Int), ∀ x ∈ (wst cs).1, 0 ≤ x ∧ x ≤ 255 := by
  intro cs
  have key : ∀ (n : Nat) (cs : List Int), cs.length ≤ n → ∀ x ∈ (wst cs).1, 0 ≤ x ∧ x ≤ 255 := by
    intro n
    induction n with
    | zero => intro cs h; have : cs = [] := List.eq_nil_of_length_eq_zero (by omega); subst this; simp [wst]
    | succ n ih =>
      intro cs h
      rcases List.eq_nil_or_concat cs with rfl | ⟨l, c, rfl⟩
      · simp [wst]
      · rw [show l.concat c = l ++ [c] from List.concat_eq_append, wst_snoc]
        have hl : l.length ≤ n := by simp at h; omega
        unfold stepW
        cases hc : lowI c with
        | some d =>
          intro x hx
          rcases List.mem_append.1 hx with hx | hx
          · exact ih l hl x hx
          · rw [List.mem_singleton.1 hx]; have := lowI_in hc; omega
        | none => intro x hx; cases hx
  exact key cs.length cs (Nat.le_refl _)
end Go.Proofs.YtodaabofpkafjaaGreat
namespace Go.Proofs.YtodaabofpkafjaaGreat
open Go.RowKit
set_option linter.unusedVariables false
set_option linter.unusedSimpArgs false

def LowP (c : Int) (w : World) (e : Ending) (w' : World) : Prop := e = .returned (.tuple #[.int .u8 ((lowI c).getD 0), .bool (lowI c).isSome]) ∧ w' = w
def LetP (c : Int) (w : World) (e : Ending) (w' : World) : Prop := e = .returned (.int .u8 ((lowI c).getD 0)) ∧ w' = w
theorem lowI_up {c : Int} (h1 : 65 ≤ c) (h2 : c ≤ 90) : lowI c = some (c + 32) := by unfold lowI; rw [if_pos ⟨h1, h2⟩]
theorem lowI_lo {c : Int} (h : (97 ≤ c ∧ c ≤ 122) ∨ (48 ≤ c ∧ c ≤ 57) ∨ c = 95) : lowI c = some c := by unfold lowI; rw [if_neg (by omega), if_pos h]
theorem lowI_no {c : Int} (h1 : ¬ (65 ≤ c ∧ c ≤ 90)) (h : ¬ ((97 ≤ c ∧ c ≤ 122) ∨ (48 ≤ c ∧ c ≤ 57) ∨ c = 95)) : lowI c = none := by unfold lowI; rw [if_neg h1, if_neg h]
theorem nine (c : Int) : c ≤ 47 ∨ (48 ≤ c ∧ c ≤ 57) ∨ (58 ≤ c ∧ c ≤ 64) ∨ (65 ≤ c ∧ c ≤ 90) ∨ (91 ≤ c ∧ c ≤ 94) ∨ c = 95 ∨ c = 96 ∨ (97 ≤ c ∧ c ≤ 122) ∨ 123 ≤ c := by omega
set_option maxHeartbeats 2000000 in
set_option maxRecDepth 100000 in
theorem letter_any (c : Int) (w : World) (h0 : 0 ≤ c) (h255 : c ≤ 255) : Calls Tryz.prog 33 #[.int .u8 c] w (LetP c w) := by
  rcases nine c with h | ⟨h, h'⟩ | ⟨h, h'⟩ | ⟨h, h'⟩ | ⟨h, h'⟩ | h | h | ⟨h, h'⟩ | h
  · have HV := Lib.hid (lowI_no (c := c) (by omega) (by omega))
    have a1 : ¬ (65 ≤ c) := by omega
    have a2 : ¬ (97 ≤ c) := by omega
    have a3 : ¬ (48 ≤ c) := by omega
    have a4 : (c == 95) = false := by simp; omega
    go_enter Tryz.func33, Tryz.ntmps33
    go_wp2
    go_ret
    exact ⟨by rw [HV.out]; rfl, rfl⟩
  · have HV := Lib.hid (lowI_lo (c := c) (by omega))
    have a2 : ¬ (97 ≤ c) := by omega
    go_enter Tryz.func33, Tryz.ntmps33
    go_wp2
    go_ret
    exact ⟨by rw [HV.out]; rfl, rfl⟩
  · have HV := Lib.hid (lowI_no (c := c) (by omega) (by omega))
    have a1 : ¬ (65 ≤ c) := by omega
    have a2 : ¬ (97 ≤ c) := by omega
    have a3 : (48 ≤ c) := by omega
    have a5 : ¬ (c ≤ 57) := by omega
    have a4 : (c == 95) = false := by simp; omega
    go_enter Tryz.func33, Tryz.ntmps33
    go_wp2
    go_ret
    exact ⟨by rw [HV.out]; rfl, rfl⟩
  · have HV := Lib.hid (lowI_up (c := c) h h')
    have hw2 : IntKind.u8.wrap (c + 32) = c + 32 := IntWalk.u8_in _ (by omega)
    have a2 : ¬ (97 ≤ c) := by omega
    have a3 : (48 ≤ c) := by omega
    have a5 : ¬ (c ≤ 57) := by omega
    have a4 : (c == 95) = false := by simp; omega
    go_enter Tryz.func33, Tryz.ntmps33
    go_wp2
    go_ret
    exact ⟨by rw [HV.out]; rfl, rfl⟩
  · have HV := Lib.hid (lowI_no (c := c) (by omega) (by omega))
    have a1 : (65 ≤ c) := by omega
    have a6 : ¬ (c ≤ 90) := by omega
    have a2 : ¬ (97 ≤ c) := by omega
    have a3 : (48 ≤ c) := by omega
    have a5 : ¬ (c ≤ 57) := by omega
    have a4 : (c == 95) = false := by simp; omega
    go_enter Tryz.func33, Tryz.ntmps33
    go_wp2
    go_ret
    exact ⟨by rw [HV.out]; rfl, rfl⟩
  · subst h
    go_enter Tryz.func33, Tryz.ntmps33
    go_wp2
    go_ret
    exact ⟨rfl, rfl⟩
  · subst h
    go_enter Tryz.func33, Tryz.ntmps33
    go_wp2
    go_ret
    exact ⟨rfl, rfl⟩
  · have HV := Lib.hid (lowI_lo (c := c) (by omega))
    go_enter Tryz.func33, Tryz.ntmps33
    go_wp2
    go_ret
    exact ⟨by rw [HV.out]; rfl, rfl⟩
  · have HV := Lib.hid (lowI_no (c := c) (by omega) (by omega))
    have a1 : (65 ≤ c) := by omega
    have a6 : ¬ (c ≤ 90) := by omega
    have a2 : (97 ≤ c) := by omega
    have a7 : ¬ (c ≤ 122) := by omega
    have a3 : (48 ≤ c) := by omega
    have a5 : ¬ (c ≤ 57) := by omega
    have a4 : (c == 95) = false := by simp; omega
    go_enter Tryz.func33, Tryz.ntmps33
    go_wp2
    go_ret
    exact ⟨by rw [HV.out]; rfl, rfl⟩
end Go.Proofs.YtodaabofpkafjaaGreat

namespace Go.Proofs.YtodaabofpkafjaaGreat
open Go.RowKit
set_option linter.unusedVariables false
set_option linter.unusedSimpArgs false

theorem bl_irrefl : ∀ x : List UInt8, Op.bytesLess x x = false
  | [] => rfl
  | a :: x => by simp [Op.bytesLess, bl_irrefl x]
theorem bl_trans : ∀ x y z : List UInt8, Op.bytesLess x y = true → Op.bytesLess y z = true → Op.bytesLess x z = true
  | _, [], _, h, _ => by simp [Op.bytesLess] at h
  | _, _ :: _, [], _, h => by simp [Op.bytesLess] at h
  | [], _ :: _, _ :: _, _, _ => rfl
  | a :: x, b :: y, c :: z, h1, h2 => by
    simp only [Op.bytesLess, Bool.or_eq_true, decide_eq_true_eq, Bool.and_eq_true, beq_iff_eq] at h1 h2 ⊢
    rcases h1 with h1 | ⟨rfl, h1⟩
    · rcases h2 with h2 | ⟨rfl, h2⟩
      · exact .inl (UInt8.lt_trans h1 h2)
      · exact .inl h1
    · rcases h2 with h2 | ⟨rfl, h2⟩
      · exact .inl h2
      · exact .inr ⟨rfl, bl_trans x y z h1 h2⟩
theorem bl_tri : ∀ x y : List UInt8, Op.bytesLess x y = false → Op.bytesLess y x = false → x = y
  | [], [], _, _ => rfl
  | [], _ :: _, h, _ => by simp [Op.bytesLess] at h
  | _ :: _, [], _, h => by simp [Op.bytesLess] at h
  | a :: x, b :: y, h1, h2 => by
    simp only [Op.bytesLess, Bool.or_eq_false_iff, decide_eq_false_iff_not, Bool.and_eq_false_iff, beq_eq_false_iff_ne] at h1 h2
    have hab : a = b := by
      have h3 := h1.1
      have h4 := h2.1
      exact UInt8.le_antisymm (UInt8.not_lt.1 h4) (UInt8.not_lt.1 h3)
    subst hab
    have e1 : Op.bytesLess x y = false := by rcases h1.2 with h | h; exact absurd rfl h; exact h
    have e2 : Op.bytesLess y x = false := by rcases h2.2 with h | h; exact absurd rfl h; exact h
    rw [bl_tri x y e1 e2]
theorem bl_asymm (x y : List UInt8) (h : Op.bytesLess x y = true) : Op.bytesLess y x = false := by
  cases h' : Op.bytesLess y x with
  | false => rfl
  | true => have := bl_trans x y x h h'; rw [bl_irrefl] at this; cases this

/-- the order of strings -/
def sl (a b : ByteArray) : Bool := Op.bytesLess a.toList b.toList
theorem toList_inj {a b : ByteArray} (h : a.toList = b.toList) : a = b := by
  rw [ByteArray.toList_eq, ByteArray.toList_eq] at h
  cases a with | mk a => cases b with | mk b => cases a with | mk a => cases b with | mk b => simp at h; rw [h]
theorem sl_irrefl (a : ByteArray) : sl a a = false := bl_irrefl _
theorem sl_trans {a b c : ByteArray} (h1 : sl a b = true) (h2 : sl b c = true) : sl a c = true := bl_trans _ _ _ h1 h2
theorem sl_tri {a b : ByteArray} (h1 : sl a b = false) (h2 : sl b a = false) : a = b := toList_inj (bl_tri _ _ h1 h2)
theorem sl_asymm {a b : ByteArray} (h : sl a b = true) : sl b a = false := bl_asymm _ _ h
/-- not greater, then less: less -/
theorem sl_of_ge {a b c : ByteArray} (h1 : sl b a = false) (h2 : sl b c = true) : sl a c = true := by
  cases h : sl a b with
  | true => exact sl_trans h h2
  | false => rw [sl_tri h h1]; exact h2
theorem sl_lt_of_le {a b c : ByteArray} (h1 : sl a b = true) (h2 : sl c b = false) : sl a c = true := by
  cases h : sl b c with
  | true => exact sl_trans h1 h
  | false => rw [← sl_tri h h2]; exact h1

theorem Rd.str_at {S : Nat → Prop} {w : World} {A : Option Addr} {k : Nat} {vs : List ByteArray} (h : Rd S w A (vs.map .string)) (hk : k < vs.length) :
    ∃ b off x, A = some ⟨b, off, none⟩ ∧ w.cell? ⟨b, off + k, none⟩ = some (.string x) ∧ Hid (vs[k]? = some x) := by
  obtain ⟨b, off, e, _, _, hc⟩ := h (by simp; omega)
  exact ⟨b, off, vs[k], e, hc k _ (by simp [hk]), List.getElem?_eq_getElem hk⟩
theorem Rd.str_at' {S : Nat → Prop} {w : World} {b off k : Nat} {vs : List ByteArray} (h : Rd S w (some ⟨b, off, none⟩) (vs.map .string)) (hk : k < vs.length) :
    ∃ x, w.cell? ⟨b, off + k, none⟩ = some (.string x) ∧ Hid (vs[k]? = some x) := by
  obtain ⟨b', off', e, _, _, hc⟩ := h (by simp; omega)
  injection e with e
  injection e with e1 e2
  subst e1 e2
  exact ⟨vs[k], hc k _ (by simp [hk]), List.getElem?_eq_getElem hk⟩
/-- a result and a world that has only drawn -/
def Quiet (v : Value) (w : World) (e : Ending) (w' : World) : Prop := e = .returned v ∧ ∃ n, w' = w.drewN n
theorem quiet_of {P : Program} {f : FuncId} {args : Array Value} {w : World} {a n : Nat} {v : Value}
    (h : Calls P f args (w.drewN (a + n)) (Quiet v (w.drewN (a + n)))) :
    Calls P f args (w.drewN (a + n)) fun e w'' => e = .returned v ∧ ∃ m, w'' = w.drewN (a + m) :=
  h.mono fun _ _ ⟨he, m, hm⟩ => ⟨he, n + m, by rw [hm, World.drewN_drewN, Nat.add_assoc]⟩
theorem quiet_of0 {P : Program} {f : FuncId} {args : Array Value} {w : World} {n : Nat} {v : Value}
    (h : Calls P f args (w.drewN n) (Quiet v (w.drewN n))) :
    Calls P f args (w.drewN n) fun e w'' => e = .returned v ∧ ∃ m, w'' = w.drewN m :=
  h.mono fun _ _ ⟨he, m, hm⟩ => ⟨he, n + m, by rw [hm, World.drewN_drewN]⟩
theorem strInfo : (Tryz.prog.info? 9).map (fun i => (i.zero, i.size, i.bytes)) = some (some (.string ⟨#[]⟩), 1, 16) := by kernel_rfl
theorem own_dn {w : World} {base base' : Nat} {e : TypeId} {size : Nat} {v : Value} {n : Nat} {xs : List Value} (h : w.ownsRow base e size v n xs) (hb : base' ≤ base) : w.ownsRow base' e size v n xs :=
  ⟨h.1, h.2.imp id fun ⟨g, cap, cur, h1, h2, h3⟩ => ⟨g, cap, cur, h1, Nat.le_trans hb h2, h3⟩⟩
theorem bts_size (nm : ByteArray) : nm.toList.length = nm.size := by rw [ByteArray.toList_eq]; rfl
end Go.Proofs.YtodaabofpkafjaaGreat
