/- tiers.Get; awake of chapter 33. Condition: sizes. -/
import Derived.Test.YtganfhmjklcchaaBsfB
import Derived.Test.YtganfhmjklcchaaCloneY
import Derived.Deep.DeepCutAuto
namespace Go.Proofs.Ytganfhmjklcchaa
open Go.RowKit
set_option linter.unusedVariables false
set_option linter.unusedSimpArgs false

def Blt (a b : BlobD) : Prop := a.id < b.id ∨ (a.id = b.id ∧ a.tier < b.tier)
def BSrt (bs : List BlobD) : Prop := bs.Pairwise Blt
theorem cfBlob_lt {x : BlobD} {i t : Int} : cfBlob i t x < 0 ↔ (x.id < i ∨ (x.id = i ∧ x.tier < t)) := by
  unfold cfBlob cmpI
  (repeat' split) <;> omega
theorem cfBlob_eq {x : BlobD} {i t : Int} : cfBlob i t x = 0 ↔ (x.id = i ∧ x.tier = t) := by
  unfold cfBlob cmpI
  (repeat' split) <;> omega
theorem BSrt.mono {bs : List BlobD} (h : BSrt bs) (i t : Int) : MonoC (cfBlob i t) bs := by
  intro p q x y hpq hx hy hc
  obtain ⟨p1, p2⟩ := List.getElem?_eq_some_iff.1 hx
  obtain ⟨q1, q2⟩ := List.getElem?_eq_some_iff.1 hy
  have := List.pairwise_iff_getElem.1 h p q p1 q1 hpq
  rw [p2, q2] at this
  rw [cfBlob_lt] at hc ⊢
  unfold Blt at this
  omega
/-- the data of a blob, if it is there -/
def getB (bs : List BlobD) (i t : Int) : Option (List Int) := if okC (cfBlob i t) bs = true then (bs[lowC (cfBlob i t) bs]?).map (·.data) else none
def GetPost (w : World) (r : Option (List Int)) (e : Ending) (w' : World) : Prop :=
  w.grownBy w' none ∧ match r with
    | some d => ∃ A c, e = .returned (.tuple #[.slice A d.length c, .bool true]) ∧ d.length ≤ c ∧ c ≤ maxLen ∧ Rd (w.heap.size ≤ ·) w' A (d.map (.int .u8))
    | none => e = .returned (.tuple #[.slice none 0 0, .bool false])
theorem okC_some {α : Type} {cf : α → Int} {xs : List α} (h : okC cf xs = true) : ∃ x, xs[lowC cf xs]? = some x ∧ cf x = 0 := by
  unfold okC at h
  cases hx : xs[lowC cf xs]? with
  | none => rw [hx] at h; cases h
  | some x => rw [hx] at h; exact ⟨x, rfl, by simpa using h⟩
set_option maxHeartbeats 2000000 in
set_option maxRecDepth 100000 in
theorem get_any {S S2 : Nat → Prop} (A : Option Addr) (bs : List BlobD) (c : Nat) (i t : Int) (w : World) (hr : Rd S w A (bs.flatMap BlobD.cells)) (hs : ∀ x ∈ bs, x.Sub S2 w) (hl : bs.length ≤ 100000) (hb : BSrt bs) :
    Calls Try.prog 13 #[.slice A bs.length c, .int .i64 i, .int .i64 t] w (GetPost w (getB bs i t)) := by
  have HR := Lib.hid hr
  have HS := Lib.hid hs
  have K := Lib.hid (findBlob_any A bs c i t w hr hl (hb.mono i t))
  have hlow := lowC_le (cf := cfBlob i t) bs
  clear hr hs hb
  go_enter Try.func13, Try.ntmps13
  go_wp2_with fail
  refine K.out.mono ?_
  rintro e w1 ⟨rfl, hg⟩
  have G := Lib.hid hg
  clear hg
  cases hok : okC (cfBlob i t) bs with
  | false =>
    have HV : Hid (getB bs i t = none) := Lib.hid (by unfold getB; rw [hok]; simp)
    clear hok
    go_wp2_with fail
    go_ret2
    exact ⟨G.out, by rw [HV.out]; rfl⟩
  | true =>
    obtain ⟨x, hx, -⟩ := okC_some hok
    have HV : Hid (getB bs i t = some x.data) := Lib.hid (by unfold getB; rw [hok, if_pos rfl, hx]; rfl)
    obtain ⟨m, hm⟩ : ∃ m, m = lowC (cfBlob i t) bs := ⟨_, rfl⟩
    rw [← hm] at hx hlow ⊢
    have hml : m < bs.length := (List.getElem?_eq_some_iff.1 hx).1
    have HX := Lib.hid hx
    have hSub := HS.out x (List.mem_of_getElem? hx)
    obtain ⟨b, o, rfl, -, -, -⟩ := HR.out (by rw [flat_len _ 3 BlobD.cells_len]; omega)
    have d2 : w1.cell? ⟨b, o + m * 3 + 2, none⟩ = some (.slice x.A x.data.length x.c) := (HR.out.grown G.out (by simp)).flatAt BlobD.cells_len hx 2 (by omega)
    have i1 : (m : Int) < (bs.length : Int) := by omega
    have KC := Lib.hid (cloneBy_any x.A x.data.length x.c (x.data.map (.int .u8)) w1 (hSub.1.grown G.out (by simp)) (by simp) hSub.2.2.2 (by simp [Value.oneCell']) (fun hA => by
      by_cases h0 : 0 < (x.data.map (Value.int .u8)).length
      · obtain ⟨b', o', e', -⟩ := hSub.1 h0; rw [hA] at e'; cases e'
      · simpa using h0))
    clear hok hm hx hSub
    go_wp2_with fail
    refine KC.out.mono ?_
    rintro e w2 ⟨A2, c2, rfl, ho, hg2⟩
    obtain ⟨A9, c9, e9, hc9, hm9, -, hr9⟩ := Rd.of_own ho (by decide)
    injection e9 with e91 e92 e93
    subst e91 e93
    have HR9 := Lib.hid hr9
    have G2 := Lib.hid (only_trans G.out hg2)
    have hs1 := G.out.size
    clear ho hg2 hr9 d2
    go_wp2_with fail
    go_ret2
    exact ⟨G2.out, by rw [HV.out]; exact ⟨A2, c2, rfl, hc9, hm9, HR9.out.mono (fun b hb _ => Nat.le_trans hs1 hb)⟩⟩
def TrueExt (w : World) (e : Ending) (w' : World) : Prop := e = .returned (.bool true) ∧ w.grownBy w' none
set_option maxHeartbeats 2000000 in
set_option maxRecDepth 100000 in
theorem awake33_any (w : World) : Calls Try.prog 5 #[] w (TrueExt w) := by
  obtain ⟨W1, hW1⟩ : ∃ W, W = (w.alloc (.cells #[.int .u8 7] 5)).alloc (.cells #[.int .i64 1, .int .i64 2, .slice (some ⟨w.heap.size, 0, none⟩) 1 1] 30) := ⟨_, rfl⟩
  have G1 : Hid (w.grownBy W1 none) := Lib.hid (by rw [hW1]; exact only_alloc (only_alloc (only_refl _ _) _) _)
  obtain ⟨x, hx⟩ : ∃ x : BlobD, x = ⟨1, 2, [7], some ⟨w.heap.size, 0, none⟩, 1⟩ := ⟨_, rfl⟩
  have hB0 : Blk W1 w.heap.size 5 #[.int .u8 7] := by rw [hW1]; exact (Blk.new w _ _).alloc _
  have hB1 : Blk W1 (w.heap.size + 1) 30 x.cells.toArray := by
    have := Blk.new (w.alloc (.cells #[.int .u8 7] 5)) 30 #[.int .i64 1, .int .i64 2, .slice (some ⟨w.heap.size, 0, none⟩) 1 1]
    rw [World.size_alloc] at this
    rw [hW1, hx]; simpa [BlobD.cells] using this
  have hr : Rd (fun _ => True) W1 (some ⟨w.heap.size + 1, 0, none⟩) ([x].flatMap BlobD.cells) := fun _ => ⟨_, 0, rfl, trivial, hB1.lt, fun j u hu => by rw [Nat.zero_add, hB1.cell j]; simpa using hu⟩
  have hs : ∀ y ∈ [x], y.Sub (fun _ => True) W1 := fun y hy => by
    rw [List.mem_singleton.1 hy, hx]
    exact ⟨fun _ => ⟨_, 0, rfl, trivial, hB0.lt, fun j u hu => by rw [Nat.zero_add, hB0.cell j]; simpa using hu⟩, by simp, by unfold maxLen; simp, by simp⟩
  have hg : getB [x] 1 2 = some [7] := by rw [hx]; rfl
  have K := Lib.hid (get_any (some ⟨w.heap.size + 1, 0, none⟩) [x] 1 1 2 W1 hr hs (by simp) (List.pairwise_singleton _ _))
  rw [hg] at K
  have HW := Lib.hid hW1.symm
  clear hW1 hx hB0 hB1 hr hs hg
  go_enter Try.func5, Try.ntmps5
  go_wp2_with fail
  rw [HW.out]
  refine K.out.mono ?_
  rintro e w2 ⟨hg2, A, c, rfl, -, -, -⟩
  have G2 := Lib.hid (only_trans G1.out hg2)
  clear hg2
  go_wp2_with fail
  go_ret
  exact ⟨rfl, G2.out⟩
end Go.Proofs.Ytganfhmjklcchaa
