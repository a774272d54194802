/- Tests as plain data, and how they lie in memory. No condition. -/
import Derived.Test.YtceebhgbebkafaaGreatDoorFlat
namespace Go.Proofs.YtceebhgbebkafaaGreatDoor
open Go.RowKit
set_option linter.unusedVariables false
set_option linter.unusedSimpArgs false

/-- a test, with the place of its kids -/
inductive TT where
  | mk (op : Int) (nm tx : ByteArray) (num : Int) (ka : Option Addr) (kc : Nat) (kids : List TT) : TT
def TT.op : TT → Int | .mk op _ _ _ _ _ _ => op
def TT.nm : TT → ByteArray | .mk _ nm _ _ _ _ _ => nm
def TT.tx : TT → ByteArray | .mk _ _ tx _ _ _ _ => tx
def TT.num : TT → Int | .mk _ _ _ num _ _ _ => num
def TT.ka : TT → Option Addr | .mk _ _ _ _ ka _ _ => ka
def TT.kc : TT → Nat | .mk _ _ _ _ _ kc _ => kc
def TT.kids : TT → List TT | .mk _ _ _ _ _ _ kids => kids
def TT.cells (t : TT) : List Value := [.int .i64 t.op, .string t.nm, .string t.tx, .int .i64 t.num, .slice t.ka t.kids.length t.kc]
theorem TT.cells_len (t : TT) : t.cells.length = 5 := rfl
theorem TT.cells_one (t : TT) : ∀ u ∈ t.cells, u.oneCell' = true := by
  intro u hu
  simp only [TT.cells, List.mem_cons, List.not_mem_nil, or_false] at hu
  rcases hu with rfl | rfl | rfl | rfl | rfl <;> rfl
def TT.Sub : Nat → (Nat → Prop) → World → TT → Prop
  | 0, _, _, _ => False
  | n + 1, S, w, t => Rd S w t.ka (t.kids.flatMap TT.cells) ∧ t.kids.length ≤ t.kc ∧ t.kc ≤ maxLen ∧ ∀ k ∈ t.kids, TT.Sub n S w k
theorem TT.Sub.grown {S : Nat → Prop} {w w' : World} {row : Option Nat} (hg : w.grownBy w' row) (hr : ∀ b, S b → some b ≠ row) : ∀ {n : Nat} {t : TT}, t.Sub n S w → t.Sub n S w'
  | 0, _, h => h
  | n + 1, _, h => ⟨h.1.grown hg hr, h.2.1, h.2.2.1, fun k hk => TT.Sub.grown hg hr (h.2.2.2 k hk)⟩
theorem TT.Sub.mono {S S' : Nat → Prop} {w : World} (hS : ∀ b, S b → b < w.heap.size → S' b) : ∀ {n : Nat} {t : TT}, t.Sub n S w → t.Sub n S' w
  | 0, _, h => h
  | n + 1, _, h => ⟨h.1.mono hS, h.2.1, h.2.2.1, fun k hk => TT.Sub.mono hS (h.2.2.2 k hk)⟩
theorem TT.Sub.up {S : Nat → Prop} {w : World} : ∀ {n : Nat} {t : TT}, t.Sub n S w → t.Sub (n + 1) S w
  | 0, _, h => h.elim
  | n + 1, _, h => ⟨h.1, h.2.1, h.2.2.1, fun k hk => TT.Sub.up (h.2.2.2 k hk)⟩
theorem TT.Sub.drewN {S : Nat → Prop} {w : World} {t : TT} {n : Nat} (h : t.Sub n S w) (k : Nat) : t.Sub n S (w.drewN k) := h.grown (only_drewN (only_refl _ _) k) (by simp) (row := none)
theorem TT.Sub.leaf {n : Nat} {S : Nat → Prop} {w : World} {op num : Int} {nm tx : ByteArray} : (TT.mk op nm tx num none 0 []).Sub (n + 1) S w := ⟨Rd.nil, Nat.le_refl _, Nat.zero_le _, by intro k hk; cases hk⟩
def TT.Ok : Nat → TT → Prop
  | 0, _ => False
  | n + 1, t => (0 ≤ t.op ∧ t.op ≤ 11) ∧ (t.nm.size ≤ 20 ∧ t.tx.size ≤ 20) ∧ (-5 ≤ t.num ∧ t.num ≤ 999999999999999999) ∧ (t.kids = [] ∨ t.op = 5 ∧ t.kids.length = 1 ∨ (t.op = 6 ∨ t.op = 7) ∧ 2 ≤ t.kids.length ∧ t.kids.length ≤ 3) ∧ ((t.op = 5 ∨ t.op = 6 ∨ t.op = 7) → t.kids ≠ []) ∧ ∀ k ∈ t.kids, TT.Ok n k
theorem TT.Ok.up : ∀ {n : Nat} {t : TT}, t.Ok n → t.Ok (n + 1)
  | 0, _, h => h.elim
  | n + 1, _, h => ⟨h.1, h.2.1, h.2.2.1, h.2.2.2.1, h.2.2.2.2.1, fun k hk => TT.Ok.up (h.2.2.2.2.2 k hk)⟩
theorem TT.Ok.leaf {n : Nat} {op num : Int} {nm tx : ByteArray} (h1 : 0 ≤ op ∧ op ≤ 11) (h2 : nm.size ≤ 20 ∧ tx.size ≤ 20) (h3 : -5 ≤ num ∧ num ≤ 999999999999999999) (h4 : op ≠ 5 ∧ op ≠ 6 ∧ op ≠ 7) : (TT.mk op nm tx num none 0 []).Ok (n + 1) :=
  ⟨h1, h2, h3, .inl rfl, by simp only [TT.op, TT.kids]; omega, by intro k hk; cases hk⟩
theorem TT.Ok.len {n : Nat} {t : TT} (h : t.Ok n) : t.kids.length ≤ 3 := by
  cases n with
  | zero => exact h.elim
  | succ n =>
    obtain ⟨-, -, -, h, -, -⟩ := h
    rcases h with h | ⟨_, h⟩ | ⟨_, _, h⟩
    · rw [h]; simp
    · omega
    · exact h
/-- the cells of kid i in the row of kids -/
theorem TT.kid_at {S : Nat → Prop} {w : World} {b off : Nat} {xs : List TT} (h : Rd S w (some ⟨b, off, none⟩) (xs.flatMap TT.cells)) {i : Nat} {y : TT} (hy : xs[i]? = some y) :
    w.cell? ⟨b, off + i * 5, none⟩ = some (.int .i64 y.op) ∧ w.cell? ⟨b, off + i * 5 + 1, none⟩ = some (.string y.nm) ∧ w.cell? ⟨b, off + i * 5 + 2, none⟩ = some (.string y.tx) ∧ w.cell? ⟨b, off + i * 5 + 3, none⟩ = some (.int .i64 y.num) ∧ w.cell? ⟨b, off + i * 5 + 4, none⟩ = some (.slice y.ka y.kids.length y.kc) := by
  obtain ⟨hi, hyi⟩ := List.getElem?_eq_some_iff.1 hy
  have key : ∀ j, j < 5 → w.cell? ⟨b, off + i * 5 + j, none⟩ = y.cells[j]? := by
    intro j hj
    obtain ⟨b', off', e, _, _, hc⟩ := h (by rw [flat_len _ 5 TT.cells_len]; omega)
    injection e with e
    injection e with e1 e2
    subst e1 e2
    have h1 := flat_at TT.cells 5 TT.cells_len xs i j hi hj
    rw [hyi] at h1
    have hlt : j < y.cells.length := by rw [TT.cells_len]; exact hj
    rw [List.getElem?_eq_getElem hlt] at h1 ⊢
    rw [Nat.add_assoc]
    exact hc _ _ h1
  exact ⟨key 0 (by omega), key 1 (by omega), key 2 (by omega), key 3 (by omega), key 4 (by omega)⟩
end Go.Proofs.YtceebhgbebkafaaGreatDoor
