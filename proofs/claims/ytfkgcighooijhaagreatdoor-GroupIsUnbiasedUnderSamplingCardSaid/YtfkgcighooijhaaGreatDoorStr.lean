/- Strings as plain data: their order, prefixes; slices of strings. No condition. -/
import Derived.Test.YtfkgcighooijhaaGreatDoorBase
import Derived.Lib.Strings
namespace Go.Proofs.YtfkgcighooijhaaGreatDoor
open Go.RowKit
set_option linter.unusedVariables false
set_option linter.unusedSimpArgs false

theorem bl_irrefl : ∀ x : List UInt8, Op.bytesLess x x = false
  | [] => rfl
  | a :: x => by simp [Op.bytesLess, bl_irrefl x]
theorem bl_trans : ∀ x y z : List UInt8, Op.bytesLess x y = true → Op.bytesLess y z = true → Op.bytesLess x z = true
  | _, [], _, h, _ => by simp [Op.bytesLess] at h
  | _, _ :: _, [], _, h => by simp [Op.bytesLess] at h
  | [], _ :: _, _ :: _, _, _ => rfl
  | a :: x, b :: y, c :: z, h1, h2 => by
    simp only [Op.bytesLess, Bool.or_eq_true, decide_eq_true_eq, Bool.and_eq_true, beq_iff_eq] at h1 h2 ⊢
    rcases h1 with h1 | ⟨rfl, h1⟩
    · rcases h2 with h2 | ⟨rfl, h2⟩
      · exact .inl (UInt8.lt_trans h1 h2)
      · exact .inl h1
    · rcases h2 with h2 | ⟨rfl, h2⟩
      · exact .inl h2
      · exact .inr ⟨rfl, bl_trans x y z h1 h2⟩
theorem bl_tri : ∀ x y : List UInt8, Op.bytesLess x y = false → Op.bytesLess y x = false → x = y
  | [], [], _, _ => rfl
  | [], _ :: _, h, _ => by simp [Op.bytesLess] at h
  | _ :: _, [], _, h => by simp [Op.bytesLess] at h
  | a :: x, b :: y, h1, h2 => by
    simp only [Op.bytesLess, Bool.or_eq_false_iff, decide_eq_false_iff_not, Bool.and_eq_false_iff, beq_eq_false_iff_ne] at h1 h2
    have hab : a = b := by
      have h3 := h1.1
      have h4 := h2.1
      exact UInt8.le_antisymm (UInt8.not_lt.1 h4) (UInt8.not_lt.1 h3)
    subst hab
    have e1 : Op.bytesLess x y = false := by rcases h1.2 with h | h; exact absurd rfl h; exact h
    have e2 : Op.bytesLess y x = false := by rcases h2.2 with h | h; exact absurd rfl h; exact h
    rw [bl_tri x y e1 e2]
theorem bl_asymm (x y : List UInt8) (h : Op.bytesLess x y = true) : Op.bytesLess y x = false := by
  cases h' : Op.bytesLess y x with
  | false => rfl
  | true => have := bl_trans x y x h h'; rw [bl_irrefl] at this; cases this

/-- the order of strings -/
def sl (a b : ByteArray) : Bool := Op.bytesLess a.toList b.toList
theorem toList_inj {a b : ByteArray} (h : a.toList = b.toList) : a = b := by
  rw [ByteArray.toList_eq, ByteArray.toList_eq] at h
  cases a with | mk a => cases b with | mk b => cases a with | mk a => cases b with | mk b => simp at h; rw [h]
theorem sl_irrefl (a : ByteArray) : sl a a = false := bl_irrefl _
theorem sl_trans {a b c : ByteArray} (h1 : sl a b = true) (h2 : sl b c = true) : sl a c = true := bl_trans _ _ _ h1 h2
theorem sl_tri {a b : ByteArray} (h1 : sl a b = false) (h2 : sl b a = false) : a = b := toList_inj (bl_tri _ _ h1 h2)
theorem sl_asymm {a b : ByteArray} (h : sl a b = true) : sl b a = false := bl_asymm _ _ h
/-- not greater, then less: less -/
theorem sl_of_ge {a b c : ByteArray} (h1 : sl b a = false) (h2 : sl b c = true) : sl a c = true := by
  cases h : sl a b with
  | true => exact sl_trans h h2
  | false => rw [sl_tri h h1]; exact h2
theorem sl_lt_of_le {a b c : ByteArray} (h1 : sl a b = true) (h2 : sl c b = false) : sl a c = true := by
  cases h : sl b c with
  | true => exact sl_trans h1 h
  | false => rw [← sl_tri h h2]; exact h1

theorem Rd.str_at {S : Nat → Prop} {w : World} {A : Option Addr} {k : Nat} {vs : List ByteArray} (h : Rd S w A (vs.map .string)) (hk : k < vs.length) :
    ∃ b off x, A = some ⟨b, off, none⟩ ∧ w.cell? ⟨b, off + k, none⟩ = some (.string x) ∧ Hid (vs[k]? = some x) := by
  obtain ⟨b, off, e, _, _, hc⟩ := h (by simp; omega)
  exact ⟨b, off, vs[k], e, hc k _ (by simp [hk]), List.getElem?_eq_getElem hk⟩
theorem Rd.str_at' {S : Nat → Prop} {w : World} {b off k : Nat} {vs : List ByteArray} (h : Rd S w (some ⟨b, off, none⟩) (vs.map .string)) (hk : k < vs.length) :
    ∃ x, w.cell? ⟨b, off + k, none⟩ = some (.string x) ∧ Hid (vs[k]? = some x) := by
  obtain ⟨b', off', e, _, _, hc⟩ := h (by simp; omega)
  injection e with e
  injection e with e1 e2
  subst e1 e2
  exact ⟨vs[k], hc k _ (by simp [hk]), List.getElem?_eq_getElem hk⟩
/-- a result and a world that has only drawn -/
def Quiet (v : Value) (w : World) (e : Ending) (w' : World) : Prop := e = .returned v ∧ ∃ n, w' = w.drewN n
theorem quiet_of {P : Program} {f : FuncId} {args : Array Value} {w : World} {a n : Nat} {v : Value}
    (h : Calls P f args (w.drewN (a + n)) (Quiet v (w.drewN (a + n)))) :
    Calls P f args (w.drewN (a + n)) fun e w'' => e = .returned v ∧ ∃ m, w'' = w.drewN (a + m) :=
  h.mono fun _ _ ⟨he, m, hm⟩ => ⟨he, n + m, by rw [hm, World.drewN_drewN, Nat.add_assoc]⟩
theorem quiet_of0 {P : Program} {f : FuncId} {args : Array Value} {w : World} {n : Nat} {v : Value}
    (h : Calls P f args (w.drewN n) (Quiet v (w.drewN n))) :
    Calls P f args (w.drewN n) fun e w'' => e = .returned v ∧ ∃ m, w'' = w.drewN m :=
  h.mono fun _ _ ⟨he, m, hm⟩ => ⟨he, n + m, by rw [hm, World.drewN_drewN]⟩
theorem strInfo : (Tryz.prog.info? 9).map (fun i => (i.zero, i.size, i.bytes)) = some (some (.string ⟨#[]⟩), 1, 16) := by kernel_rfl
theorem own_dn {w : World} {base base' : Nat} {e : TypeId} {size : Nat} {v : Value} {n : Nat} {xs : List Value} (h : w.ownsRow base e size v n xs) (hb : base' ≤ base) : w.ownsRow base' e size v n xs :=
  ⟨h.1, h.2.imp id fun ⟨g, cap, cur, h1, h2, h3⟩ => ⟨g, cap, cur, h1, Nat.le_trans hb h2, h3⟩⟩
theorem bts_size (nm : ByteArray) : nm.toList.length = nm.size := by rw [ByteArray.toList_eq]; rfl
end Go.Proofs.YtfkgcighooijhaaGreatDoor
