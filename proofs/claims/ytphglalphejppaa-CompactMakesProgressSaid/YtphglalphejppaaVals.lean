/- slices.Values, AppendSeq and Collect at integers. Condition: sizes. -/
import Derived.Test.YtphglalphejppaaDRng
import Derived.OwnWalkIn
import Derived.TacticsInMore
import Derived.LoopNIn
import Derived.LoopIn
import Derived.Deep.DeepCutAuto
namespace Go.Proofs.Ytphglalphejppaa
open Go.RowKit
set_option linter.unusedVariables false
set_option linter.unusedSimpArgs false
attribute [local go_sem] Oper.semAt_some

/-- what the body of a round keeps: all blocks below lim but the variable's -/
def KpS (lim bd : Nat) (W W' : World) : Prop := W.heap.size ≤ W'.heap.size ∧ ∀ b, b < lim → b ≠ bd → W'.heap[b]? = W.heap[b]?
theorem KpS.trans_ {lim bd : Nat} {A B C : World} (h : KpS lim bd A B) (k : KpS lim bd B C) : KpS lim bd A C := ⟨Nat.le_trans h.1 k.1, fun b h1 h2 => (k.2 b h1 h2).trans (h.2 b h1 h2)⟩
theorem KpS.putObj {lim bd : Nat} (W : World) (l : Nat) (o : Obj) (h : lim ≤ l) : KpS lim bd W (W.putObj l o) :=
  ⟨by have := (grownBy_putObj' W l o).size; exact this, fun b hb _ => World.putObj_heap_other (by omega)⟩
theorem KpS.blk {lim bd g t : Nat} {W W' : World} {cs : Array Value} (h : KpS lim bd W W') (hB : Blk W g t cs) (h1 : g < lim) (h2 : g ≠ bd) : Blk W' g t cs := (h.2 g h1 h2).trans hB
theorem KpS.rd {lim bd : Nat} {W W' : World} {A : Option Addr} {xs : List Value} (h : KpS lim bd W W') (hR : Rd (fun b => b < lim ∧ b ≠ bd) W A xs) : Rd (fun b => b < lim ∧ b ≠ bd) W' A xs := hR.keep (fun b hb hlt => h.2 b hb.1 hb.2) h.1
def VIterPost (J : List Int → World → Prop) (zs : List Int) (e : Ending) (w' : World) : Prop := (∃ v, e = .returned v) ∧ J zs w'
theorem Rd.int_atS {S : Nat → Prop} {w : World} {A : Option Addr} {zs : List Int} (h : Rd S w A (zs.map (.int .i64))) {k : Nat} (hk : k < zs.length) : ∃ b o x, A = some ⟨b, o, none⟩ ∧ w.cell? ⟨b, o + k, none⟩ = some (.int .i64 x) ∧ Hid (zs[k]? = some x) := by
  obtain ⟨b, o, rfl, -, -, hc⟩ := h (by simp; omega)
  refine ⟨b, o, zs[k], rfl, hc k _ (by rw [List.getElem?_map, List.getElem?_eq_getElem hk]; rfl), Lib.hid (List.getElem?_eq_getElem hk)⟩
set_option maxHeartbeats 4000000 in
set_option maxRecDepth 100000 in
theorem values_iter (m l Bs lim bd : Nat) (A : Option Addr) (zs : List Int) (c : Nat) (J : List Int → World → Prop) (W : World)
    (hY : ∀ pre x W1, J pre W1 → pre.length ≤ 1000000 → YieldAt .wide m Try.prog l #[.int .i64 x] W1 fun e W' => e = .returned (.bool true) ∧ J (pre ++ [x]) W' ∧ KpS lim bd W1 W')
    (h0 : J [] W) (hB : Blk W Bs 45 #[.slice A zs.length c]) (hR : Rd (fun b => b < lim ∧ b ≠ bd) W A (zs.map (.int .i64))) (hn : zs.length ≤ 100000) :
    Calls Try.prog 58 #[.func (.yield l) #[] #[], .pointer (some ⟨Bs, 0, none⟩)] W (VIterPost J zs) := by
  have HY := Lib.hid hY
  have H0 := Lib.hid h0
  have HR := Lib.hid hR
  have n0 := hB.cell 0
  simp at n0
  clear hY h0 hR hB
  go_enter Try.func58, Try.ntmps58
  go_wp2_with fail
  clear n0
  go_loopw [7] (fun i wr => ∃ (k : Nat), k ≤ zs.length ∧ i = .int .i64 k ∧ J (zs.take k) wr ∧ Rd (fun b => b < lim ∧ b ≠ bd) wr A (zs.map (.int .i64))) (fun i _ => zs.length - (intOf i).toNat)
  case atStart => exact ⟨0, Nat.zero_le _, rfl, H0.out, HR.out⟩
  case round =>
    obtain ⟨k, hk, rfl, hJ1, hR1⟩ := hrel
    have J1 := Lib.hid hJ1
    have R1 := Lib.hid hR1
    clear hJ1 hR1 H0 HR
    by_cases hlt : k < zs.length
    · obtain ⟨b, o, x, rfl, hc, hx⟩ := R1.out.int_atS hlt
      have kI : (k : Int) < (zs.length : Int) := by omega
      have kI0 : (0 : Int) ≤ (k : Int) := by omega
      obtain ⟨fn, tmps, assign, body, hy, hRd⟩ := HY.out (zs.take k) x wr J1.out (by rw [List.length_take]; omega)
      refine (wpIn_wide (n := m + 1)).1 ?_
      gi_wp2
      refine hRd.mono ?_
      rintro e w5 ⟨rfl, hJ5, hk5⟩
      have R5 := Lib.hid (hk5.rd R1.out)
      have HT : Hid (zs.take (k + 1) = zs.take k ++ [x]) := Lib.hid (by
        obtain ⟨q1, q2⟩ := List.getElem?_eq_some_iff.1 hx.out
        rw [List.take_succ_eq_append_getElem q1, q2])
      have J5 : Hid (J (zs.take (k + 1)) w5) := Lib.hid (by rw [HT.out]; exact hJ5)
      clear hJ5 hk5 hc R1 J1 hRd hy
      gi_wp2
      go_wp2_with fail
      go_roundw
      case rel => exact ⟨k + 1, by omega, by go_num, J5.out, R5.out⟩
      case measure => simp [intOf]; omega
    · have kI : ¬ (k : Int) < (zs.length : Int) := by omega
      have HJ : Hid (J zs wr) := Lib.hid (by have := J1.out; rw [List.take_of_length_le (by omega)] at this; exact this)
      go_wp2_with fail
      go_end0
      exact ⟨⟨_, rfl⟩, HJ.out⟩
theorem values_any (A : Option Addr) (n c : Nat) (w : World) : Calls Try.prog 44 #[.slice A n c] w (fun e w' => e = .returned (.func (.func 58) #[] #[.pointer (some ⟨w.heap.size, 0, none⟩)]) ∧ w' = w.alloc (.cells #[.slice A n c] 45)) := by
  go_enter Try.func44, Try.ntmps44
  go_wp2
  go_ret
  exact ⟨rfl, rfl⟩
theorem intInfoS : (Try.prog.info? 3).map (fun i => (i.zero, i.size, i.bytes)) = some (some (.int .i64 0), 1, 8) := by kernel_rfl
theorem one_newI (W : World) (x : Int) : ∀ j u, ([Value.int .i64 x] : List Value)[j]? = some u → (W.alloc (.cells #[.int .i64 x] 3)).cell? ((⟨W.heap.size, 0, none⟩ : Addr).add j) = some u := by
  intro j u hu
  have hj : j = 0 := by
    rcases j with _ | j
    · rfl
    · simp at hu
  subst hj
  simp at hu
  subst hu
  exact (Blk.new W 3 #[.int .i64 x]).cell 0
/-- what the loop's variable holds between the rounds -/
def IRow (w0 : World) (Bs bd base : Nat) (pre : List Int) (X : World) : Prop :=
  ∃ v, Blk X bd 45 #[v] ∧ X.ownsRow base 3 1 v pre.length (pre.map (.int .i64)) ∧ w0.grownBy X (some Bs)
theorem IRow.still {w0 : World} {Bs bd base : Nat} {pre : List Int} {A B : World} {r : Nat} (h : IRow w0 Bs bd base pre A) (hg : A.grownBy B (some r)) (h1 : bd ≠ r) (h2 : r < base) (h3 : w0.heap.size ≤ r) : IRow w0 Bs bd base pre B := by
  obtain ⟨v, a, b, c⟩ := h
  exact ⟨v, a.grown hg (by simp; omega), b.kept hg (by
    cases hu : v.ownBlock with
    | none => exact .inl rfl
    | some j => have := (b.lt j hu).1; exact .inr (by intro e; injection e with e; omega)), only_fresh c hg h3⟩
/-- a new row of these integers -/
def IRowPost (w : World) (Bs : Nat) (zs : List Int) (e : Ending) (w' : World) : Prop := ∃ v, e = .returned v ∧ w'.ownsRow w.heap.size 3 1 v zs.length (zs.map (.int .i64)) ∧ w.grownBy w' (some Bs)
end Go.Proofs.Ytphglalphejppaa
