/- The draw of an item. No condition. -/
import Derived.Test.YtpaiideboodaeaaGreatDoorJFlat
import Derived.Test.YtpaiideboodaeaaGreatDoorJInsert
import Derived.Test.YtpaiideboodaeaaGreatDoorJStepR
import Derived.Deep.DeepCutAuto
import Derived.Deep.DeepMust
namespace Go.Proofs.YtpaiideboodaeaaGreatDoor
open Go.RowKit
set_option linter.unusedVariables false
set_option linter.unusedSimpArgs false

theorem lineInfo : (Tryz.prog.info? 117).map (fun i => (i.zero, i.size, i.bytes)) = some (some (.agg #[.int .i64 0, .int .i64 0, .string ⟨#[]⟩]), 3, 32) := by kernel_rfl
theorem grown_setCell (w : World) (p : Addr) (u : Value) : w.grownBy (w.setCell p u) (some p.block) :=
  ⟨rfl, rfl, rfl, by simp [World.setCell], fun k _ hne => Below.heap_setCell w p u k (fun e => hne (by rw [e]))⟩
def FullEv (e : Ev) : Prop := 0 ≤ e.time ∧ e.time ≤ 253402300799999 ∧ IsWeight e.weight ∧ e.trace.size ≤ 10 ∧ e.stream.size ≤ 10 ∧ FieldsOk 4 e.fields
def SkipEv (e : Ev) : Prop := e.time = 0 ∧ e.weight = 0 ∧ e.trace = ⟨#[]⟩ ∧ e.stream = ⟨#[]⟩ ∧ e.fields = [] ∧ ∀ x ∈ e.lines, x.text = ⟨#[]⟩
def ItOk (host file beg : Int) (x : It) : Prop :=
  x.ev.host = host ∧ x.ev.file = file ∧ x.ev.beg = beg ∧ Chain beg x.ev.lines x.ev.fin ∧ 1 ≤ x.ev.lines.length ∧ x.ev.lines.length ≤ 3 ∧
  ((x.rule = ⟨#[]⟩ ∧ FullEv x.ev) ∨ (1 ≤ x.rule.size ∧ x.rule.size ≤ 10 ∧ SkipEv x.ev))
def ItemPost (w : World) (g : Nat) (l : List Int) (host file beg : Int) (e : Ending) (w' : World) : Prop :=
  ∃ (x : It) (k : Nat), e = .returned (.agg x.cells.toArray) ∧ ItOk host file beg x ∧ x.ev.Sub (w.heap.size ≤ ·) w' ∧ CodesAt w' g l k ∧ w.grownBy w' (some g)

def zeroIt : Array Value := #[.string ⟨#[]⟩, .int .i64 0, .int .i64 0, .int .i64 0, .int .i64 0, .slice none 0 0, .int .i64 0, .int .i64 0, .string ⟨#[]⟩, .string ⟨#[]⟩, .slice none 0 0]
def evSoFar (host file beg fin : Int) (v : Value) : Array Value := #[.int .i64 host, .int .i64 file, .int .i64 beg, .int .i64 fin, v, .int .i64 0, .int .i64 0, .string ⟨#[]⟩, .string ⟨#[]⟩, .slice none 0 0]
/-- the head of a round of the first loop -/
def ItemRel (w : World) (r g : Nat) (l : List Int) (host file beg : Int) (a : Int) (m : Int) (wr : World) (v : Value) (xs : List LineD) (k : Nat) : Prop :=
  Blk wr r 102 zeroIt ∧ Blk wr (r + 1) 44 (evSoFar host file beg 0 v) ∧ wr.ownsRow (r + 2) 117 3 v xs.length (xs.flatMap LineD.cells) ∧ Chain beg xs a ∧ (xs.length : Int) + m ≤ 3 ∧ 1 ≤ (xs.length : Int) + m ∧ CodesAt wr g l k ∧ w.grownBy wr (some g)

theorem Blk.set11 {w : World} {r t : Nat} (h : Blk w r t zeroIt) (v0 v1 v2 v3 v4 v5 v6 v7 v8 v9 v10 : Value) : Blk (((((((((((w.setCell ⟨r, 0, none⟩ v0).setCell ⟨r, 1, none⟩ v1).setCell ⟨r, 2, none⟩ v2).setCell ⟨r, 3, none⟩ v3).setCell ⟨r, 4, none⟩ v4).setCell ⟨r, 5, none⟩ v5).setCell ⟨r, 6, none⟩ v6).setCell ⟨r, 7, none⟩ v7).setCell ⟨r, 8, none⟩ v8).setCell ⟨r, 9, none⟩ v9).setCell ⟨r, 10, none⟩ v10) r t #[v0, v1, v2, v3, v4, v5, v6, v7, v8, v9, v10] := by
  have := (((((((((((h.set_ 0 v0).set_ 1 v1).set_ 2 v2).set_ 3 v3).set_ 4 v4).set_ 5 v5).set_ 6 v6).set_ 7 v7).set_ 8 v8).set_ 9 v9).set_ 10 v10)
  simpa [zeroIt] using this
theorem Chain.clear {a b : Int} {xs : List LineD} (h : Chain a xs b) : ∀ (i : Nat) (x : LineD), xs[i]? = some x → Chain a (xs.set i ⟨x.off, x.len, ⟨#[]⟩⟩) b := by
  induction xs generalizing a with
  | nil => intro i x hx; simp at hx
  | cons y ys ih =>
    intro i x hx
    cases i with
    | zero =>
      simp at hx; subst hx
      refine ⟨h.1, ?_, h.2.2.1, h.2.2.2⟩
      have := h.2.1
      simp only [ByteArray.size] at this ⊢
      simp; omega
    | succ i => exact ⟨h.1, h.2.1, h.2.2.1, ih h.2.2.2 i x (by simpa using hx)⟩
def isStrIn (n m : Nat) : Value → Bool | .string s => decide (n ≤ s.size ∧ s.size ≤ m) | _ => false
theorem tab_str2 {cs : Array Value} {n m : Nat} (h : cs.toList.all (isStrIn n m) = true) {j : Nat} (hj : j < cs.size) : ∃ s, cs[j]? = some (.string s) ∧ Hid (n ≤ s.size ∧ s.size ≤ m) := by
  have h1 := List.all_eq_true.1 h cs[j] (by rw [Array.mem_toList_iff]; exact Array.getElem_mem hj)
  rw [Array.getElem?_eq_getElem hj]
  revert h1
  cases hv : cs[j] with
  | string s => intro h1; exact ⟨_, rfl, (show n ≤ s.size ∧ s.size ≤ m by simpa [isStrIn] using h1)⟩
  | _ => intro h1; simp [isStrIn] at h1
/-- only the blocks r and r + 1 have turned -/
def Kept2 (r : Nat) (w w' : World) : Prop := w'.os = w.os ∧ w'.tape = w.tape ∧ w'.output = w.output ∧ w.heap.size = w'.heap.size ∧ ∀ k, k ≠ r → k ≠ r + 1 → w'.heap[k]? = w.heap[k]?
theorem Kept2.refl (r : Nat) (w : World) : Kept2 r w w := ⟨rfl, rfl, rfl, rfl, fun _ _ _ => rfl⟩
theorem Kept2.set0 {r : Nat} {w w' : World} (h : Kept2 r w w') (i : Nat) (u : Value) : Kept2 r w (w'.setCell ⟨r, i, none⟩ u) :=
  ⟨h.1, h.2.1, h.2.2.1, by simpa [World.setCell] using h.2.2.2.1, fun k h1 h2 => (Below.heap_setCell w' ⟨r, i, none⟩ u k h1).trans (h.2.2.2.2 k h1 h2)⟩
theorem Kept2.set1 {r : Nat} {w w' : World} (h : Kept2 r w w') (i : Nat) (u : Value) : Kept2 r w (w'.setCell ⟨r + 1, i, none⟩ u) :=
  ⟨h.1, h.2.1, h.2.2.1, by simpa [World.setCell] using h.2.2.2.1, fun k h1 h2 => (Below.heap_setCell w' ⟨r + 1, i, none⟩ u k h2).trans (h.2.2.2.2 k h1 h2)⟩
theorem Kept2.codes {r g k : Nat} {l : List Int} {w w' : World} (h : Kept2 r w w') (hC : CodesAt w g l k) (hg : g < r) : CodesAt w' g l k := by
  obtain ⟨A, c, hb, hr, h3⟩ := hC
  exact ⟨A, c, (h.2.2.2.2 g (by omega) (by omega)).trans hb, hr.keep (fun b hb _ => h.2.2.2.2 b (by omega) (by omega)) (by have := h.2.2.2.1; omega), h3⟩
theorem Kept2.rd {r : Nat} {S : Nat → Prop} {w w' : World} {A : Option Addr} {ys : List Value} (h : Kept2 r w w') (hr : Rd S w A ys) (hS : ∀ b, S b → r + 1 < b) : Rd S w' A ys :=
  hr.keep (fun b hb _ => h.2.2.2.2 b (by have := hS b hb; omega) (by have := hS b hb; omega)) (by have := h.2.2.2.1; omega)
theorem Kept2.only {r g : Nat} {a w w' : World} (h : Kept2 r w w') (hg : a.grownBy w (some g)) (hr : a.heap.size ≤ r) : a.grownBy w' (some g) :=
  ⟨h.1.trans hg.os, h.2.1.trans hg.tape, h.2.2.1.trans hg.output, by have := hg.size; have := h.2.2.2.1; omega, fun k hk hne => (h.2.2.2.2 k (by omega) (by omega)).trans (hg.block k hk hne)⟩

/-- the memory of the call while the last fields of the event are set -/
def Mid (w : World) (r g : Nat) (l : List Int) (host file beg a t6 t7 : Int) (v : Value) (xs : List LineD) (tr st : ByteArray) (wx : World) : Prop :=
  Blk wx r 102 zeroIt ∧ Blk wx (r + 1) 44 #[.int .i64 host, .int .i64 file, .int .i64 beg, .int .i64 a, v, .int .i64 t6, .int .i64 t7, .string tr, .string st, .slice none 0 0] ∧ wx.ownsRow (r + 2) 117 3 v xs.length (xs.flatMap LineD.cells) ∧ (∃ k, CodesAt wx g l k) ∧ w.grownBy wx (some g) ∧ g < r ∧ w.heap.size ≤ r
section
variable {w : World} {r g : Nat} {l : List Int} {host file beg a t6 t7 : Int} {v : Value} {xs : List LineD} {tr st : ByteArray} {wx w' : World}
theorem Mid.drew (h : Mid w r g l host file beg a t6 t7 v xs tr st wx) : Mid w r g l host file beg a t6 t7 v xs tr st wx.drew := ⟨h.1, h.2.1, h.2.2.1, h.2.2.2.1, only_drew h.2.2.2.2.1, h.2.2.2.2.2⟩
theorem Mid.alloc (h : Mid w r g l host file beg a t6 t7 v xs tr st wx) (o : Obj) : Mid w r g l host file beg a t6 t7 v xs tr st (wx.alloc o) := by
  obtain ⟨h1, h2, h3, ⟨k, h4⟩, h5, h6⟩ := h
  exact ⟨h1.alloc o, h2.alloc o, h3.alloc o, ⟨k, h4.alloc o⟩, only_alloc h5 o, h6⟩
theorem Mid.next (h : Mid w r g l host file beg a t6 t7 v xs tr st wx) (hg : wx.grownBy w' (some g)) {k : Nat} (hC : CodesAt w' g l k) : Mid w r g l host file beg a t6 t7 v xs tr st w' := by
  obtain ⟨h1, h2, h3, h4, h5, h6, h7⟩ := h
  exact ⟨h1.grown hg (by simp; omega), h2.grown hg (by simp; omega), own_only h3 hg (by omega), ⟨k, hC⟩, only_trans h5 hg, h6, h7⟩
theorem Mid.set7 (h : Mid w r g l host file beg a t6 t7 v xs tr st wx) (x : ByteArray) : Mid w r g l host file beg a t6 t7 v xs x st (wx.setCell ⟨r + 1, 7, none⟩ (.string x)) := by
  obtain ⟨h1, h2, h3, ⟨k, h4⟩, h5, h6, h7⟩ := h
  exact ⟨h1.grown (grown_setCell wx ⟨r + 1, 7, none⟩ (.string x)) (by simp), by simpa using h2.set_ 7 (.string x), ownsRow_setCell_below h3 (by simp) _, ⟨k, h4.grown (grown_setCell wx ⟨r + 1, 7, none⟩ (.string x)) (fun b hb e => by injection e; simp at *; omega)⟩, only_fresh h5 (grown_setCell _ _ _) (by simp; omega), h6, h7⟩
theorem Mid.set8 (h : Mid w r g l host file beg a t6 t7 v xs tr st wx) (x : ByteArray) : Mid w r g l host file beg a t6 t7 v xs tr x (wx.setCell ⟨r + 1, 8, none⟩ (.string x)) := by
  obtain ⟨h1, h2, h3, ⟨k, h4⟩, h5, h6, h7⟩ := h
  exact ⟨h1.grown (grown_setCell wx ⟨r + 1, 8, none⟩ (.string x)) (by simp), by simpa using h2.set_ 8 (.string x), ownsRow_setCell_below h3 (by simp) _, ⟨k, h4.grown (grown_setCell wx ⟨r + 1, 8, none⟩ (.string x)) (fun b hb e => by injection e; simp at *; omega)⟩, only_fresh h5 (grown_setCell _ _ _) (by simp; omega), h6, h7⟩
end

theorem ltsz {x n : Nat} {a : Array Value} (h : x < n) (e : a.size = n := by rfl) : x < a.size := by omega
/-- the memory of the call while a skip is put together -/
def Mid6 (w : World) (r g : Nat) (l : List Int) (host file beg a : Int) (gb n c : Nat) (zs : List Value) (wx : World) : Prop :=
  Blk wx r 102 zeroIt ∧ Blk wx (r + 1) 44 (evSoFar host file beg a (.slice (some ⟨gb, 0, none⟩) n c)) ∧ Rd (r + 2 ≤ ·) wx (some ⟨gb, 0, none⟩) zs ∧ (∃ k, CodesAt wx g l k) ∧ w.grownBy wx (some g) ∧ g < r ∧ w.heap.size ≤ r
section
variable {w : World} {r g : Nat} {l : List Int} {host file beg a : Int} {gb n c : Nat} {zs : List Value} {wx w' : World}
theorem Mid6.drew (h : Mid6 w r g l host file beg a gb n c zs wx) : Mid6 w r g l host file beg a gb n c zs wx.drew := ⟨h.1, h.2.1, h.2.2.1, h.2.2.2.1, only_drew h.2.2.2.2.1, h.2.2.2.2.2⟩
theorem Mid6.alloc (h : Mid6 w r g l host file beg a gb n c zs wx) (o : Obj) : Mid6 w r g l host file beg a gb n c zs (wx.alloc o) := by
  obtain ⟨h1, h2, h3, ⟨k, h4⟩, h5, h6⟩ := h
  exact ⟨h1.alloc o, h2.alloc o, h3.alloc o, ⟨k, h4.alloc o⟩, only_alloc h5 o, h6⟩
theorem Mid6.next (h : Mid6 w r g l host file beg a gb n c zs wx) (hg : wx.grownBy w' (some g)) {k : Nat} (hC : CodesAt w' g l k) : Mid6 w r g l host file beg a gb n c zs w' := by
  obtain ⟨h1, h2, h3, h4, h5, h6, h7⟩ := h
  exact ⟨h1.grown hg (by simp; omega), h2.grown hg (by simp; omega), h3.grown hg (fun b hb => by simp; omega), ⟨k, hC⟩, only_trans h5 hg, h6, h7⟩
theorem Mid6.le (h : Mid6 w r g l host file beg a gb n c zs wx) : r + 2 ≤ wx.heap.size := h.2.1.lt
end
theorem Mid.le {w : World} {r g : Nat} {l : List Int} {host file beg a t6 t7 : Int} {v : Value} {xs : List LineD} {tr st : ByteArray} {wx : World} (h : Mid w r g l host file beg a t6 t7 v xs tr st wx) : r + 2 ≤ wx.heap.size := h.2.1.lt

set_option maxHeartbeats 8000000 in
set_option maxRecDepth 100000 in
theorem item_some (g : Nat) (l : List Int) (k : Nat) (host file beg : Int) (w : World) (h : CodesAt w g l k) (hbeg : 0 ≤ beg ∧ beg ≤ 1000000) :
    Calls Tryz.prog 79 #[.pointer (some ⟨g, 0, none⟩), .int .i64 host, .int .i64 file, .int .i64 beg] w (ItemPost w g l host file beg) := by
  have hlt0 := h.lt
  go_enter Tryz.func79, Tryz.ntmps79
  go_wp2_with fail
  refine (next_some g l k 3 _ ((h.alloc _).alloc _) (by omega) (by omega)).mono ?_
  rintro e w1 ⟨v1, k1, rfl, hv1, h1, hg1⟩
  have hB0 : Blk w1 w.heap.size 102 zeroIt := ((Blk.new w _ _).alloc _).grown hg1 (by simp; omega)
  have hB1 : Blk w1 (w.heap.size + 1) 44 (evSoFar host file beg 0 (.slice none 0 0)) := by
    have := (Blk.new (w.alloc (.cells zeroIt 102)) 44 (evSoFar host file beg 0 (.slice none 0 0))).grown hg1 (by simp; omega)
    simpa using this
  have G1 : Hid (w.grownBy w1 (some g)) := only_trans (only_alloc (only_alloc (only_refl _ _) _) _) hg1
  clear h hg1
  obtain ⟨r, hr⟩ : ∃ r, r = w.heap.size := ⟨_, rfl⟩
  rw [← hr] at hB0 hB1 hlt0 ⊢
  have HR := Lib.hid hr
  clear hr
  go_wp2_with fail
  go_loopw [10, 11] (fun a i wr => ∃ (a' m : Int) (v : Value) (xs : List LineD) (k : Nat), i = .int .i64 m ∧ 0 ≤ m ∧ a = .int .i64 a' ∧ ItemRel w r g l host file beg a' m wr v xs k) (fun _ i _ => (intOf i).toNat)
  case atStart => exact ⟨beg, 1 + v1, _, [], k1, rfl, by omega, rfl, hB0, hB1, World.ownsRow_nil _ _ _ _, rfl, by simp; omega, by simp; omega, h1, G1.out⟩
  case round =>
    obtain ⟨a, m, v, xs, k, rfl, hm, rfl, hB0, hB1, hown, hch, hx3, hx1, hC, hG⟩ := hrel
    have G := Lib.hid hG
    have CH := Lib.hid hch
    have hle := hch.le
    clear hG hch h1 G1
    by_cases hm0 : 0 < m
    · go_wp2_with fail
      refine (text_some g l k _ hC).mono ?_
      rintro e w2 ⟨s2, k2, rfl, hs2, h2, hg2⟩
      have hB02 := hB0.grown hg2 (by simp; omega)
      have hB12 := hB1.grown hg2 (by simp; omega)
      have hown2 := own_only hown hg2 (by omega)
      have G2 : Hid (w.grownBy w2 (some g)) := only_trans G.out hg2
      clear hB0 hB1 hown hg2 G hC
      go_wp2_with fail
      refine (next_some g l k2 2 _ h2 (by omega) (by omega)).mono ?_
      rintro e w3 ⟨v3, k3, rfl, hv3, h3, hg3⟩
      have hB03 := hB02.grown hg3 (by simp; omega)
      have hB13 := hB12.grown hg3 (by simp; omega)
      have hown3 := own_only hown2 hg3 (by omega)
      have G3 : Hid (w.grownBy w3 (some g)) := only_trans G2.out hg3
      have c34 := hB13.cell 4
      have f34 := hB13.frozen 4
      have hlt3 := hB13.lt
      simp [evSoFar] at c34
      clear hB02 hB12 hown2 hg3 G2 h2
      go_wp2_with (at_builtin; refine wpList_append1 rfl _ _ 41 rfl (r + 2) Tryz.underlying41 lineInfo rfl (by decide) (v := _) (by rfl) (w0 := _) (cs := (LineD.mk a ((s2.size : Int) + 1 + v3) s2).cells.toArray) hown3 (by rfl) rfl (by simp [LineD.cells, Value.oneCell']) (by decide) (by omega) (by omega) ?_; intro v9 w9 hown9 hg9 hob9; obtain ⟨A9, c9, rfl, hc9, hm9, -, -⟩ := Rd.of_own hown9 (by decide); have hB19 := hB13.grown hg9 (fun e => by have := (hown3.lt _ e.symm).1; omega); have c94 := hB19.cell 4; have f94 := hB19.frozen 4; simp [evSoFar] at c94)
      have hown9' : w9.ownsRow (r + 2) 117 3 (.slice A9 (xs.length + 1) c9) (xs ++ [LineD.mk a ((s2.size : Int) + 1 + v3) s2]).length ((xs ++ [LineD.mk a ((s2.size : Int) + 1 + v3) s2]).flatMap LineD.cells) := by simpa using hown9
      have hown10 := ownsRow_setCell_below hown9' (a := ⟨r + 1, 4, none⟩) (by simp) (.slice A9 (xs.length + 1) c9)
      have hB1' := hB19.set_ 4 (.slice A9 (xs.length + 1) c9)
      have hB0' := (hB03.grown hg9 (fun e => by have := (hown3.lt _ e.symm).1; omega)).grown (grown_setCell w9 ⟨r + 1, 4, none⟩ (.slice A9 (xs.length + 1) c9)) (by simp)
      have hC' := (h3.grown hg9 (fun b hb e => by have := (hown3.lt _ e.symm).1; omega)).grown (grown_setCell w9 ⟨r + 1, 4, none⟩ (.slice A9 (xs.length + 1) c9)) (fun b hb e => by injection e; simp at *; omega)
      have G9 : Hid (w.grownBy (w9.setCell ⟨r + 1, 4, none⟩ (.slice A9 (xs.length + 1) c9)) (some g)) := only_fresh (only_own G3.out hg9 hown3 (by have := HR.out; omega)) (grown_setCell _ _ _) (by have := HR.out; simp; omega)
      clear hown9 hown9' hg9 hob9 hB19 c94 f94 hB03 hB13 hown3 G3 c34 f34 h3
      go_roundw
      case rel => exact ⟨a + ((s2.size : Int) + 1 + v3), m - 1, .slice A9 (xs.length + 1) c9, xs ++ [LineD.mk a ((s2.size : Int) + 1 + v3) s2], k3, rfl, by omega, rfl, hB0', by simpa [evSoFar] using hB1', hown10, CH.out.snoc _ rfl (by simp; omega) (by simp; omega), by simp; omega, by simp; omega, hC', G9.out⟩
      case measure => simp [intOf]; omega
    · obtain rfl : m = 0 := by omega
      have f3 := hB1.frozen 3
      have c3 := hB1.cell 3
      simp [evSoFar] at c3
      go_wp2_with fail
      have hB1' := hB1.set_ 3 (.int .i64 a)
      have hB0' := hB0.grown (grown_setCell wr ⟨r + 1, 3, none⟩ (.int .i64 a)) (by simp)
      have hC' := hC.grown (grown_setCell wr ⟨r + 1, 3, none⟩ (.int .i64 a)) (fun b hb e => by injection e; simp at *; omega)
      have hown' := ownsRow_setCell_below hown (a := ⟨r + 1, 3, none⟩) (by simp) (.int .i64 a)
      have G' : Hid (w.grownBy (wr.setCell ⟨r + 1, 3, none⟩ (.int .i64 a)) (some g)) := only_fresh G.out (grown_setCell _ _ _) (by have := HR.out; simp; omega)
      have hB1'' : Blk (wr.setCell ⟨r + 1, 3, none⟩ (.int .i64 a)) (r + 1) 44 (evSoFar host file beg a v) := by simpa [evSoFar] using hB1'
      clear hB1' hB1 hB0 hC hown G f3 c3
      refine (next_some g l k 5 _ hC' (by omega) (by omega)).mono ?_
      rintro e w5 ⟨v5, k5, rfl, hv5, h5, hg5⟩
      have hB05 := hB0'.grown hg5 (by simp; omega)
      have hB15 := hB1''.grown hg5 (by simp; omega)
      have hown5 := own_only hown' hg5 (by omega)
      have G5 : Hid (w.grownBy w5 (some g)) := only_trans G'.out hg5
      clear hB0' hB1'' hC' hown' G' hg5
      obtain ⟨A5, c5, rfl, hc5, hm5, -, -⟩ := Rd.of_own hown5 (by decide)
      by_cases h4 : v5 = 4
      · have hb4 : (v5 == 4) = true := by simp [h4]
        clear h4
        have hlen : 1 ≤ xs.length := by omega
        have hl3 : xs.length ≤ 3 := by omega
        obtain ⟨gb, cb, hvb, hgb, hgl⟩ := hown5.form (by omega)
        injection hvb with hvb1 _ hvb2
        subst hvb1 hvb2
        unfold maxLen at hm5
        go_wp2_with fail
        go_loopw [14] (fun i wr => ∃ (j : Nat) (ys : List LineD), i = .int .i64 j ∧ j ≤ ys.length ∧ ys.length = xs.length ∧ Chain beg ys a ∧ (∀ i y, i < j → ys[i]? = some y → y.text = ⟨#[]⟩) ∧ Blk wr r 102 zeroIt ∧ Blk wr (r + 1) 44 (evSoFar host file beg a (.slice (some ⟨gb, 0, none⟩) xs.length c5)) ∧ wr.ownsRow (r + 2) 117 3 (.slice (some ⟨gb, 0, none⟩) xs.length c5) xs.length (ys.flatMap LineD.cells) ∧ CodesAt wr g l k5 ∧ w.grownBy wr (some g)) (fun i _ => xs.length - (intOf i).toNat)
        case atStart => exact ⟨0, xs, rfl, Nat.zero_le _, rfl, CH.out, (fun i y hi => absurd hi (by omega)), hB05, hB15, hown5, h5, G5.out⟩
        case round =>
          obtain ⟨j, ys, rfl, hj, hys, hch2, hcl, hB06, hB16, hown6, h6, hG6⟩ := hrel
          have G6 := Lib.hid hG6
          have CL := Lib.hid hcl
          have CH2 := Lib.hid hch2
          have HYS := Lib.hid hys
          clear hG6 hcl hch2 hB05 hB15 hown5 h5 G5 hB0 hB1
          have c64 := hB16.cell 4
          simp [evSoFar] at c64
          by_cases hjl : j < xs.length
          · have hjy : j < ys.length := by omega
            obtain ⟨y, hy⟩ : ∃ y, ys[j]? = some y := ⟨_, List.getElem?_eq_getElem hjy⟩
            have hct := hown6.cellAt (j * 3 + 2) (by omega)
            rw [flat_at LineD.cells 3 LineD.cells_len ys j 2 hjy (by omega)] at hct
            have hyj : ys[j] = y := by rw [List.getElem?_eq_getElem hjy] at hy; injection hy
            rw [hyj] at hct
            have hct' : wr.cell? ⟨gb, j * 3 + 2, none⟩ = some (.string y.text) := hct
            have hft := hown6.frozenAt (j * 3 + 2)
            have HY := Lib.hid hy
            have HYJ := Lib.hid hyj
            clear hct hy hyj hys
            go_wp2_with fail
            have hst := hown6.stored (j * 3 + 2) (.string ⟨#[]⟩)
            have e1 : (ys.flatMap LineD.cells).set (j * 3 + 2) (.string ⟨#[]⟩) = (ys.set j ⟨y.off, y.len, ⟨#[]⟩⟩).flatMap LineD.cells :=
              flat_set LineD.cells_len ys j 2 hjy ⟨y.off, y.len, ⟨#[]⟩⟩ _ (by omega) (by rw [HYJ.out]; rfl)
            rw [e1] at hst
            go_roundw
            case rel =>
              refine ⟨j + 1, ys.set j ⟨y.off, y.len, ⟨#[]⟩⟩, by go_num, by simp; omega, by simp [HYS.out], CH2.out.clear j y HY.out, fun i z hi hz => ?_, hB06.grown hst.2 (by simp; omega), hB16.grown hst.2 (by simp; omega), hst.1, h6.grown hst.2 (fun b hb e => by injection e; omega), only_fresh G6.out hst.2 (by have := HR.out; omega)⟩
              rw [List.getElem?_set] at hz
              split at hz
              · injection hz with hz; rw [← hz]
              · exact CL.out i z (by omega) hz
            case measure => simp [intOf]; omega
          · have hjx : j = xs.length := by omega
            have hys3 : ys.length = xs.length := hys
            clear hys
            have HJ := Lib.hid hjx
            clear hjx
            have hRL : Rd (r + 2 ≤ ·) wr (some ⟨gb, 0, none⟩) (ys.flatMap LineD.cells) := by
              obtain ⟨A, c, e, -, -, -, h⟩ := Rd.of_own hown6 (by decide)
              injection e with e1 e2 e3
              rw [e1]; exact h
            have HRL := Lib.hid hRL
            have HB06 := Lib.hid hB06
            have HB16 := Lib.hid hB16
            have c60 := hB16.cell 0
            have c61 := hB16.cell 1
            have c62 := hB16.cell 2
            have c63 := hB16.cell 3
            have c65 := hB16.cell 5
            have c66 := hB16.cell 6
            have c67 := hB16.cell 7
            have c68 := hB16.cell 8
            have c69 := hB16.cell 9
            simp [evSoFar] at c60 c61 c62 c63 c65 c66 c67 c68 c69
            have hlt6 := hB16.lt
            have hne1 : r + 1 ≠ g := by omega
            have hne0 : r ≠ g := by omega
            have hne2 : wr.heap.size ≠ g := by omega
            have hlt6a : r + 1 < wr.heap.size + 1 := by omega
            have HLN := Lib.hid (And.intro hlen hl3)
            have HC5 := Lib.hid (And.intro hc5 hm5)
            have HYS3 := Lib.hid hys3
            clear hown6 hRL hB06 hB16 hlen hl3 hc5 hm5 hys3 hle hbeg hv1 hm hx3 hx1 hm0 hv5 hgl hj CH
            have HM6 : Hid (Mid6 w r g l host file beg a gb xs.length c5 (ys.flatMap LineD.cells) wr) := ⟨HB06.out, HB16.out, HRL.out, ⟨_, h6⟩, G6.out, hlt0, by have := HR.out; omega⟩
            go_wp2_with fail
            clear c60 c61 c62 c63 c65 c66 c67 c68 c69 c64 hlt6 hne1 hne0 hne2 hlt6a HRL HB06 HB16 G6 h6
            refine wp_region_inv 6 (Rab (r + 2)) (Mid6 w r g l host file beg a gb xs.length c5 (ys.flatMap LineD.cells)) [IsRow0 (r + 2) 9 #[.string ⟨#[115, 97, 109, 112, 108, 101]⟩, .string ⟨#[100, 114, 111, 112]⟩, .string ⟨#[116, 111, 111, 45, 108, 111, 110, 103]⟩], (fun v _ => v = .pointer (some ⟨g, 0, none⟩)), IsIdx 3, IsAt0 (r + 2) 9 #[.string ⟨#[115, 97, 109, 112, 108, 101]⟩, .string ⟨#[100, 114, 111, 112]⟩, .string ⟨#[116, 111, 111, 45, 108, 111, 110, 103]⟩], IsStr0 1 10, (fun v _ => v = .agg (evSoFar host file beg a (.slice (some ⟨gb, 0, none⟩) xs.length c5)))] (by kernel_rfl) (by kernel_rfl) ?_ ?_ ?_ ?_
            · intro p hp
              simp only [List.mem_cons, List.not_mem_nil, or_false] at hp
              rcases hp with rfl | rfl | rfl | rfl | rfl | rfl
              · exact St.row
              · exact St.const _
              · exact St.idx
              · exact St.at_
              · exact St.str
              · exact St.const _
            · exact HM6.out.drew
            · generalize hA : Act.mk _ _ = A
              have hsz : A.tmps.size = 94 := by rw [← hA]; kernel_rfl
              have ea0 : A.eval (.tmp 0) = .pointer (some ⟨g, 0, none⟩) := by rw [← hA]; kernel_rfl
              have ea9 : A.eval (.tmp 9) = .pointer (some ⟨r + 1, 0, none⟩) := by rw [← hA]; kernel_rfl
              clear hA
              simp only [List.take_succ_cons, List.take_zero]
              refine .cons ?_ (.cons ?_ (.cons ?_ (.cons ?_ (.cons ?_ (.cons ?_ .nil)))))
              · exact st_rowlit rfl (by kernel_rfl) rfl (lit_str3 _ _ _) (fun _ o h => h.alloc o) (fun _ h => h.le) (by rfl)
              · exact st_copy (by rfl) (by kernel_rfl) (by rfl) (by kernel_rfl) ea0 (by rfl)
              · exact st_next (by rfl) (by kernel_rfl) (n := 3) (by rfl) 1 (by kernel_rfl) (by omega) (by kernel_rfl) (by rfl) (by omega) (by omega) (fun _ h => h.2.2.2.1) (fun _ _ _ h hC hg => h.next hg hC) (by omega) (by rfl)
              · exact st_ix (by rfl) (by kernel_rfl) (by rfl) Tryz.underlying39 strSize 0 2 (by kernel_rfl) (by kernel_rfl) (by omega) (by omega) (by kernel_rfl) (by kernel_rfl) (by rfl) (by rfl) (by rfl)
              · exact st_ld (by rfl) (by kernel_rfl) (by rfl) Tryz.underlying9 3 (by kernel_rfl) (by omega) (by kernel_rfl) (by rfl) (fun j hj => by obtain ⟨x, hx, HX⟩ := tab_str2 (cs := #[.string ⟨#[115, 97, 109, 112, 108, 101]⟩, .string ⟨#[100, 114, 111, 112]⟩, .string ⟨#[116, 111, 111, 45, 108, 111, 110, 103]⟩]) (n := 1) (m := 10) (by rfl) (j := j) hj; exact ⟨x, hx, HX.out⟩) (by rfl) load_str
              · exact st_load (by rfl) (by kernel_rfl) (by rfl) (by kernel_rfl) ea9 (fun _ h => load_ev _ _ _ _ _ _ _ _ _ _ _ _ _ _ _ _ h.2.1) (by rfl)
            · intro u w9 hM hu
              have e4 := hu 4 (by omega)
              have e5 := hu 5 (by omega)
              obtain ⟨x, e4, hx1, hx2⟩ := e4
              have e5' : u 5 = .agg (evSoFar host file beg a (.slice (some ⟨gb, 0, none⟩) xs.length c5)) := e5
              simp only [List.take_succ_cons, List.take_zero, List.drop_succ_cons, List.drop_zero, putAll]
              rw [e4, e5']
              obtain ⟨n1, n2, n3, ⟨k9, h9⟩, hG9, -, -⟩ := hM
              have HX : Hid (1 ≤ x.size ∧ x.size ≤ 10) := ⟨hx1, hx2⟩
              have HRL9 := Lib.hid n3
              have G9 := Lib.hid hG9
              clear hu e4 e5 e5' HM6 n3 hG9 hx1 hx2
              have d90 := n1.cell 0; have e90 := n1.frozen 0; have d91 := n1.cell 1; have e91 := n1.frozen 1; have d92 := n1.cell 2; have e92 := n1.frozen 2; have d93 := n1.cell 3; have e93 := n1.frozen 3; have d94 := n1.cell 4; have e94 := n1.frozen 4; have d95 := n1.cell 5; have e95 := n1.frozen 5; have d96 := n1.cell 6; have e96 := n1.frozen 6; have d97 := n1.cell 7; have e97 := n1.frozen 7; have d98 := n1.cell 8; have e98 := n1.frozen 8; have d99 := n1.cell 9; have e99 := n1.frozen 9; have d910 := n1.cell 10; have e910 := n1.frozen 10
              simp [zeroIt] at d90 d91 d92 d93 d94 d95 d96 d97 d98 d99 d910
              unfold evSoFar
              go_wp2_with fail
              obtain ⟨hlen, hl3⟩ := HLN.out
              obtain ⟨hc5, hm5⟩ := HC5.out
              have hys3 := HYS3.out
              have hb := Blk.set11 n1 (.string x) (.int .i64 host) (.int .i64 file) (.int .i64 beg) (.int .i64 a) (.slice (some ⟨gb, 0, none⟩) xs.length c5) (.int .i64 0) (.int .i64 0) (.string ⟨#[]⟩) (.string ⟨#[]⟩) (.slice none 0 0)
              have hK := ((((((((((((Kept2.refl r w9).set0 0 (.string x)).set0 1 (.int .i64 host)).set0 2 (.int .i64 file)).set0 3 (.int .i64 beg)).set0 4 (.int .i64 a)).set0 5 (.slice (some ⟨gb, 0, none⟩) xs.length c5)).set0 6 (.int .i64 0)).set0 7 (.int .i64 0)).set0 8 (.string ⟨#[]⟩)).set0 9 (.string ⟨#[]⟩)).set0 10 (.slice none 0 0))
              have q0 := hb.cell 0; have q1 := hb.cell 1; have q2 := hb.cell 2; have q3 := hb.cell 3; have q4 := hb.cell 4; have q5 := hb.cell 5; have q6 := hb.cell 6; have q7 := hb.cell 7; have q8 := hb.cell 8; have q9 := hb.cell 9; have q10 := hb.cell 10
              simp at q0 q1 q2 q3 q4 q5 q6 q7 q8 q9 q10
              exact bodyPost_ret (v := .agg (It.mk x (Ev.mk host file beg a ys 0 0 ⟨#[]⟩ ⟨#[]⟩ [] (some ⟨gb, 0, none⟩) c5 none 0)).cells.toArray) (by simp [results, Tryz.results79, go_sem, It.cells, Ev.cells, hys3, q0, q1, q2, q3, q4, q5, q6, q7, q8, q9, q10]) rfl ⟨It.mk x (Ev.mk host file beg a ys 0 0 ⟨#[]⟩ ⟨#[]⟩ [] (some ⟨gb, 0, none⟩) c5 none 0), k9, rfl, ⟨rfl, rfl, rfl, CH2.out, by simp only []; omega, by simp only []; omega, .inr ⟨HX.out.1, HX.out.2, rfl, rfl, rfl, rfl, rfl, fun z hz => by have hz' : z ∈ ys := hz; obtain ⟨i, hi, hiz⟩ := List.mem_iff_getElem.1 hz'; exact CL.out i z (by have := HJ.out; omega) (by rw [List.getElem?_eq_getElem hi, hiz])⟩⟩, ⟨(hK.rd HRL9.out (fun b hb => by omega)).mono (fun b hb _ => by have := HR.out; omega), Rd.nil, by simp only []; omega, by unfold maxLen; omega, Nat.zero_le _, Nat.zero_le _⟩, hK.codes h9 hlt0, hK.only G9.out (by have := HR.out; omega)⟩
      · have hb4 : (v5 == 4) = false := by simp [h4]
        clear h4
        go_wp2_with fail
        refine (time_some g l k5 _ h5).mono ?_
        rintro e w6 ⟨t6, k6, rfl, ht6, h6, hg6⟩
        have hB06 := hB05.grown hg6 (by simp; omega)
        have hB16 := hB15.grown hg6 (by simp; omega)
        have hown6 := own_only hown5 hg6 (by omega)
        have G6 : Hid (w.grownBy w6 (some g)) := only_trans G5.out hg6
        clear hB05 hB15 h5 hown5 G5 hg6
        go_wp2_with fail
        refine (weight_some g l k6 _ h6).mono ?_
        rintro e w7 ⟨t7, k7, rfl, ht7, h7, hg7⟩
        have hB07 := hB06.grown hg7 (by simp; omega)
        have hB17 := hB16.grown hg7 (by simp; omega)
        have hown7 := own_only hown6 hg7 (by omega)
        have G7 : Hid (w.grownBy w7 (some g)) := only_trans G6.out hg7
        have f5 := hB17.frozen 5
        have c5' := hB17.cell 5
        have f6 := hB17.frozen 6
        have c6' := hB17.cell 6
        simp [evSoFar] at c5' c6'
        clear hB06 hB16 h6 hown6 G6 hg7
        go_wp2_with fail
        have hB18 := (hB17.set_ 5 (.int .i64 t6)).set_ 6 (.int .i64 t7)
        have hB08 := (hB07.grown (grown_setCell w7 ⟨r + 1, 5, none⟩ (.int .i64 t6)) (by simp)).grown (grown_setCell _ ⟨r + 1, 6, none⟩ (.int .i64 t7)) (by simp)
        have h8 := (h7.grown (grown_setCell w7 ⟨r + 1, 5, none⟩ (.int .i64 t6)) (fun b hb e => by injection e; simp at *; omega)).grown (grown_setCell _ ⟨r + 1, 6, none⟩ (.int .i64 t7)) (fun b hb e => by injection e; simp at *; omega)
        have hown8 := ownsRow_setCell_below (ownsRow_setCell_below hown7 (a := ⟨r + 1, 5, none⟩) (by simp) (.int .i64 t6)) (a := ⟨r + 1, 6, none⟩) (by simp) (.int .i64 t7)
        have G8 : Hid (w.grownBy ((w7.setCell ⟨r + 1, 5, none⟩ (.int .i64 t6)).setCell ⟨r + 1, 6, none⟩ (.int .i64 t7)) (some g)) := only_fresh (only_fresh G7.out (grown_setCell _ _ _) (by have := HR.out; simp; omega)) (grown_setCell _ _ _) (by have := HR.out; simp; omega)
        obtain ⟨w8, hw8⟩ : ∃ w8, w8 = (w7.setCell ⟨r + 1, 5, none⟩ (.int .i64 t6)).setCell ⟨r + 1, 6, none⟩ (.int .i64 t7) := ⟨_, rfl⟩
        rw [← hw8] at hB18 hB08 h8 hown8 G8 ⊢
        simp [evSoFar] at hB18
        clear hw8 hB07 hB17 h7 hown7 G7 f5 c5' f6 c6'
        have HO8 := Lib.hid hown8
        have f7 := hB18.frozen 7
        have c7 := hB18.cell 7
        have f8 := hB18.frozen 8
        have c8 := hB18.cell 8
        simp at c7 c8
        have hlt8 := hB18.lt
        have hlt8a : r + 1 < w8.heap.size + 1 := by omega
        have hlt8b : r + 1 < w8.heap.size + 1 + 1 := by omega
        have hne1 : r + 1 ≠ g := by omega
        have hne2 : w8.heap.size ≠ g := by omega
        have hne3 : w8.heap.size + 1 ≠ g := by omega
        have HM8 : Hid (Mid w r g l host file beg a t6 t7 (.slice A5 xs.length c5) xs ⟨#[]⟩ ⟨#[]⟩ w8) := ⟨hB08, hB18, hown8, ⟨_, h8⟩, G8.out, hlt0, by have := HR.out; omega⟩
        have HLN : Hid (1 ≤ xs.length ∧ xs.length ≤ 3) := ⟨by omega, by omega⟩
        have HC5 := Lib.hid (And.intro hc5 hm5)
        have HT6 := Lib.hid ht6
        have HT7 := Lib.hid ht7
        clear hown8 HO8 G8 hB08 hB18 hc5 hm5 hle hbeg hv1 hm hx3 hx1 hm0 hv5 ht6 ht7
        go_cut [] (fun wx => ∃ (tr st : ByteArray), tr.size ≤ 10 ∧ st.size ≤ 10 ∧ Mid w r g l host file beg a t6 t7 (.slice A5 xs.length c5) xs tr st wx)
        case first =>
          clear f7 c7 f8 c8 hlt8 hlt8a hlt8b hne1 hne2 hne3
          refine wp_region_inv 12 (Rab (r + 2)) (fun wx => ∃ tr : ByteArray, tr.size ≤ 10 ∧ Mid w r g l host file beg a t6 t7 (.slice A5 xs.length c5) xs tr ⟨#[]⟩ wx) [IsRow0 (r + 2) 9 #[.string ⟨#[116, 49]⟩, .string ⟨#[116, 50]⟩, .string ⟨#[]⟩, .string ⟨#[49, 58, 50, 58, 48]⟩], (fun v _ => v = .pointer (some ⟨g, 0, none⟩)), IsIdx 4, IsAt0 (r + 2) 9 #[.string ⟨#[116, 49]⟩, .string ⟨#[116, 50]⟩, .string ⟨#[]⟩, .string ⟨#[49, 58, 50, 58, 48]⟩], IsStr0 0 10, IsRow0 (r + 2) 9 #[.string ⟨#[109, 97, 105, 110]⟩, .string ⟨#[100, 101, 98, 117, 103]⟩], (fun v _ => v = .pointer (some ⟨g, 0, none⟩)), IsIdx 2, IsAt0 (r + 2) 9 #[.string ⟨#[109, 97, 105, 110]⟩, .string ⟨#[100, 101, 98, 117, 103]⟩], IsStr0 0 10, (fun v _ => v = .pointer (some ⟨r + 1, 7, none⟩)), (fun _ _ => True)] (by kernel_rfl) (by kernel_rfl) ?_ ?_ ?_ ?_
          · intro p hp
            simp only [List.mem_cons, List.not_mem_nil, or_false] at hp
            rcases hp with rfl | rfl | rfl | rfl | rfl | rfl | rfl | rfl | rfl | rfl | rfl | rfl
            · exact St.row
            · exact St.const _
            · exact St.idx
            · exact St.at_
            · exact St.str
            · exact St.row
            · exact St.const _
            · exact St.idx
            · exact St.at_
            · exact St.str
            · exact St.const _
            · exact St.any
          · exact ⟨_, Nat.zero_le _, HM8.out.drew⟩
          · generalize hA : Act.mk _ _ = A
            have hsz : A.tmps.size = 94 := by rw [← hA]; kernel_rfl
            have ea0 : A.eval (.tmp 0) = .pointer (some ⟨g, 0, none⟩) := by rw [← hA]; kernel_rfl
            have ea9 : A.eval (.tmp 9) = .pointer (some ⟨r + 1, 0, none⟩) := by rw [← hA]; kernel_rfl
            clear hA
            simp only [List.take_succ_cons, List.take_zero]
            refine .cons ?_ (.cons ?_ (.cons ?_ (.cons ?_ (.cons ?_ (.cons ?_ (.cons ?_ (.cons ?_ (.cons ?_ (.cons ?_ (.cons ?_ (.cons ?_ .nil)))))))))))
            · exact st_rowlit rfl (by kernel_rfl) rfl (lit_str4 _ _ _ _) (fun _ o ⟨tr, h1, h⟩ => ⟨tr, h1, h.alloc o⟩) (fun _ ⟨_, _, h⟩ => h.le) (by rfl)
            · exact st_copy (by rfl) (by kernel_rfl) (by rfl) (by kernel_rfl) ea0 (by rfl)
            · exact st_next (by rfl) (by kernel_rfl) (n := 4) (by rfl) 1 (by kernel_rfl) (by omega) (by kernel_rfl) (by rfl) (by omega) (by omega) (fun _ ⟨_, _, h⟩ => h.2.2.2.1) (fun _ _ _ ⟨tr, h1, h⟩ hC hg => ⟨tr, h1, h.next hg hC⟩) (by omega) (by rfl)
            · exact st_ix (by rfl) (by kernel_rfl) (by rfl) Tryz.underlying39 strSize 0 2 (by kernel_rfl) (by kernel_rfl) (by omega) (by omega) (by kernel_rfl) (by kernel_rfl) (by rfl) (by rfl) (by rfl)
            · exact st_ld (by rfl) (by kernel_rfl) (by rfl) Tryz.underlying9 3 (by kernel_rfl) (by omega) (by kernel_rfl) (by rfl) (fun j hj => by obtain ⟨x, hx, HX⟩ := tab_str (cs := #[.string ⟨#[116, 49]⟩, .string ⟨#[116, 50]⟩, .string ⟨#[]⟩, .string ⟨#[49, 58, 50, 58, 48]⟩]) (m := 10) (by rfl) (j := j) hj; exact ⟨x, hx, Nat.zero_le _, HX⟩) (by rfl) load_str
            · exact st_rowlit rfl (by kernel_rfl) rfl (lit_str2 _ _) (fun _ o ⟨tr, h1, h⟩ => ⟨tr, h1, h.alloc o⟩) (fun _ ⟨_, _, h⟩ => h.le) (by rfl)
            · exact st_copy (by rfl) (by kernel_rfl) (by rfl) (by kernel_rfl) ea0 (by rfl)
            · exact st_next (by rfl) (by kernel_rfl) (n := 2) (by rfl) 6 (by kernel_rfl) (by omega) (by kernel_rfl) (by rfl) (by omega) (by omega) (fun _ ⟨_, _, h⟩ => h.2.2.2.1) (fun _ _ _ ⟨tr, h1, h⟩ hC hg => ⟨tr, h1, h.next hg hC⟩) (by omega) (by rfl)
            · exact st_ix (by rfl) (by kernel_rfl) (by rfl) Tryz.underlying39 strSize 5 7 (by kernel_rfl) (by kernel_rfl) (by omega) (by omega) (by kernel_rfl) (by kernel_rfl) (by rfl) (by rfl) (by rfl)
            · exact st_ld (by rfl) (by kernel_rfl) (by rfl) Tryz.underlying9 8 (by kernel_rfl) (by omega) (by kernel_rfl) (by rfl) (fun j hj => by obtain ⟨x, hx, HX⟩ := tab_str (cs := #[.string ⟨#[109, 97, 105, 110]⟩, .string ⟨#[100, 101, 98, 117, 103]⟩]) (m := 10) (by rfl) (j := j) hj; exact ⟨x, hx, Nat.zero_le _, HX⟩) (by rfl) load_str
            · exact st_fa (by rfl) (by kernel_rfl) (by rfl) (by kernel_rfl) ea9 (fun w => fa_ev7 w _) (by rfl)
            · exact st_store (by rfl) (by kernel_rfl) (by rfl) 10 4 (by kernel_rfl) (by kernel_rfl) (by omega) (by omega) (by kernel_rfl) (by kernel_rfl) (by rfl) (by rfl) (by show r + 1 < r + 2; omega) (fun _ s ⟨_, _, h⟩ => store_str _ _ _ s h.2.1 (by simp)) (fun _ s ⟨_, _, h⟩ _ hs => ⟨s, hs, h.set7 s⟩) (by rfl)
          · intro u w10 hM hu
            obtain ⟨tr, htr, hM⟩ := hM
            have e9 := hu 9 (by omega)
            obtain ⟨x2, e9, -, hX2⟩ := e9
            simp only [List.take_succ_cons, List.take_zero, List.drop_succ_cons, List.drop_zero, putAll]
            rw [e9]
            have HM10 := Lib.hid hM
            have HX : Hid (tr.size ≤ 10 ∧ x2.size ≤ 10) := ⟨htr, hX2⟩
            have c8x := hM.2.1.cell 8
            have f8x := hM.2.1.frozen 8
            simp at c8x
            clear hu e9 hM htr hX2 HM8 h8
            go_wp2_with fail
            go_meet
            exact ⟨tr, x2, HX.out.1, HX.out.2, HM10.out.set8 x2⟩
        case rest =>
          obtain ⟨tr, st, htr, hst, hM⟩ := hcut
          obtain ⟨hc5, hm5⟩ := HC5.out
          obtain ⟨hlen, hl3⟩ := HLN.out
          have ht6 := HT6.out
          have ht7 := HT7.out
          obtain ⟨m1, m2, m3, ⟨km, m4⟩, m5, -, -⟩ := hM
          clear h8 c7 f7 c8 f8 hlt8 hne1 hne2 hne3 hlt8a hlt8b HM8
          have M5 := Lib.hid m5
          clear m5
          go_wp2_with fail
          refine (fields_some g l km _ m4).mono ?_
          rintro e w9 ⟨A9, c9, fs, k9, rfl, hfs, hfc, hfm, hrf, h9, hg9⟩
          have n1 := m1.grown hg9 (by simp; omega)
          have n2 := m2.grown hg9 (by simp; omega)
          have n3 := own_only m3 hg9 (by omega)
          have G9 : Hid (w.grownBy w9 (some g)) := only_trans M5.out hg9
          have HF := Lib.hid hrf
          have hz9 := hg9.size
          have hlw := m2.lt
          clear m1 m2 m3 m4 M5 hg9 hrf
          have f99 := n2.frozen 9
          have c90 := n2.cell 0
          have c91 := n2.cell 1
          have c92 := n2.cell 2
          have c93 := n2.cell 3
          have c94 := n2.cell 4
          have c95 := n2.cell 5
          have c96 := n2.cell 6
          have c97 := n2.cell 7
          have c98 := n2.cell 8
          have c99 := n2.cell 9
          simp at c90 c91 c92 c93 c94 c95 c96 c97 c98 c99
          have d90 := n1.cell 0
          have e90 := n1.frozen 0
          have d91 := n1.cell 1
          have e91 := n1.frozen 1
          have d92 := n1.cell 2
          have e92 := n1.frozen 2
          have d93 := n1.cell 3
          have e93 := n1.frozen 3
          have d94 := n1.cell 4
          have e94 := n1.frozen 4
          have d95 := n1.cell 5
          have e95 := n1.frozen 5
          have d96 := n1.cell 6
          have e96 := n1.frozen 6
          have d97 := n1.cell 7
          have e97 := n1.frozen 7
          have d98 := n1.cell 8
          have e98 := n1.frozen 8
          have d99 := n1.cell 9
          have e99 := n1.frozen 9
          have d910 := n1.cell 10
          have e910 := n1.frozen 10
          simp [zeroIt] at d90 d91 d92 d93 d94 d95 d96 d97 d98 d99 d910
          have hRL : Rd (r + 2 ≤ ·) w9 A5 (xs.flatMap LineD.cells) := by
            obtain ⟨A, c, e, -, -, -, h⟩ := Rd.of_own n3 (by decide)
            injection e with e1 e2 e3
            rw [e1]; exact h
          have HRL := Lib.hid hRL
          have HFS := Lib.hid hfs
          clear n3 hRL hfs
          go_wp2_with fail
          have hb := Blk.set11 (n1.grown (grown_setCell w9 ⟨r + 1, 9, none⟩ (.slice A9 fs.length c9)) (by simp)) (.string ⟨#[]⟩) (.int .i64 host) (.int .i64 file) (.int .i64 beg) (.int .i64 a) (.slice A5 xs.length c5) (.int .i64 t6) (.int .i64 t7) (.string tr) (.string st) (.slice A9 fs.length c9)
          have hK := (((((((((((((Kept2.refl r w9).set1 9 (.slice A9 fs.length c9)).set0 0 (.string ⟨#[]⟩)).set0 1 (.int .i64 host)).set0 2 (.int .i64 file)).set0 3 (.int .i64 beg)).set0 4 (.int .i64 a)).set0 5 (.slice A5 xs.length c5)).set0 6 (.int .i64 t6)).set0 7 (.int .i64 t7)).set0 8 (.string tr)).set0 9 (.string st)).set0 10 (.slice A9 fs.length c9))
          have q0 := hb.cell 0
          have q1 := hb.cell 1
          have q2 := hb.cell 2
          have q3 := hb.cell 3
          have q4 := hb.cell 4
          have q5 := hb.cell 5
          have q6 := hb.cell 6
          have q7 := hb.cell 7
          have q8 := hb.cell 8
          have q9 := hb.cell 9
          have q10 := hb.cell 10
          simp at q0 q1 q2 q3 q4 q5 q6 q7 q8 q9 q10
          refine bodyPost_ret (v := .agg (It.mk ⟨#[]⟩ (Ev.mk host file beg a xs t6 t7 tr st fs A5 c5 A9 c9)).cells.toArray) (by simp [results, Tryz.results79, go_sem, It.cells, Ev.cells, q0, q1, q2, q3, q4, q5, q6, q7, q8, q9, q10]) rfl ⟨It.mk ⟨#[]⟩ (Ev.mk host file beg a xs t6 t7 tr st fs A5 c5 A9 c9), k9, rfl, ⟨rfl, rfl, rfl, CH.out, hlen, hl3, .inl ⟨rfl, ht6.1, ht6.2, ht7, htr, hst, HFS.out⟩⟩, ⟨(hK.rd HRL.out (fun b hb => by omega)).mono (fun b hb _ => by have := HR.out; omega), (hK.rd HF.out (fun b hb => by omega)).mono (fun b hb _ => by have := HR.out; omega), hc5, hm5, hfc, hfm⟩, hK.codes h9 hlt0, hK.only G9.out (by have := HR.out; omega)⟩
end Go.Proofs.YtpaiideboodaeaaGreatDoor
