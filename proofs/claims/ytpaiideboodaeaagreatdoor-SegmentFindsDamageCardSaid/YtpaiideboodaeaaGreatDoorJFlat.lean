/- Rows of elements of several cells; an append behind a new block. No condition. -/
import Derived.Test.YtpaiideboodaeaaGreatDoorJDraw
import Derived.Lib.Join
import Derived.Test.YtpaiideboodaeaaGreatDoorJStr
import Derived.Deep.DeepCutAuto
import Derived.Test.YtpaiideboodaeaaGreatDoorJShelf36
import Derived.Deep.RegionWith
import Derived.Deep.RegionLaw
import Derived.Deep.DeepMust
namespace Go.Proofs.YtpaiideboodaeaaGreatDoor
open Go.RowKit
set_option linter.unusedVariables false
set_option linter.unusedSimpArgs false

theorem flat_at {α : Type} (f : α → List Value) (z : Nat) (hf : ∀ x, (f x).length = z) (l : List α) : ∀ (i j : Nat) (hi : i < l.length), j < z → (l.flatMap f)[i * z + j]? = (f l[i])[j]? := by
  induction l with
  | nil => intro i j hi; simp at hi
  | cons x l ih =>
    intro i j hi hj
    rw [List.flatMap_cons]
    cases i with
    | zero => rw [List.getElem?_append_left (by rw [hf]; omega)]; simp
    | succ i =>
      rw [List.getElem?_append_right (by rw [hf, Nat.add_mul]; omega), hf]
      have : (i + 1) * z + j - z = i * z + j := by rw [Nat.add_mul]; omega
      rw [this]
      exact ih i j (by simpa using hi) hj
theorem flat_len {α : Type} (f : α → List Value) (z : Nat) (hf : ∀ x, (f x).length = z) (l : List α) : (l.flatMap f).length = l.length * z := by
  induction l with
  | nil => simp
  | cons x l ih => rw [List.flatMap_cons, List.length_append, hf, ih, List.length_cons, Nat.add_mul]; omega
theorem flat_take {α : Type} {f : α → List Value} {z : Nat} (hf : ∀ x, (f x).length = z) (l : List α) (n : Nat) : (l.take n).flatMap f = (l.flatMap f).take (n * z) := by
  induction l generalizing n with
  | nil => simp
  | cons x l ih =>
    cases n with
    | zero => simp
    | succ n =>
      have h1 : (f x).take ((n + 1) * z) = f x := List.take_of_length_le (by rw [hf, Nat.add_mul]; omega)
      have h2 : (n + 1) * z - (f x).length = n * z := by rw [hf, Nat.add_mul]; omega
      rw [List.take_succ_cons, List.flatMap_cons, List.flatMap_cons, ih, List.take_append, h1, h2]
theorem flat_drop {α : Type} {f : α → List Value} {z : Nat} (hf : ∀ x, (f x).length = z) (l : List α) (n : Nat) : (l.drop n).flatMap f = (l.flatMap f).drop (n * z) := by
  induction l generalizing n with
  | nil => simp
  | cons x l ih =>
    cases n with
    | zero => simp
    | succ n =>
      have h1 : (f x).drop ((n + 1) * z) = [] := List.drop_of_length_le (by rw [hf, Nat.add_mul]; omega)
      have h2 : (n + 1) * z - (f x).length = n * z := by rw [hf, Nat.add_mul]; omega
      rw [List.drop_succ_cons, List.flatMap_cons, ih, List.drop_append, h1, h2, List.nil_append]
theorem flat_set {α : Type} {f : α → List Value} {z : Nat} (hf : ∀ x, (f x).length = z) (l : List α) : ∀ (i j : Nat) (hi : i < l.length) (y : α) (u : Value), j < z → (f l[i]).set j u = f y → (l.flatMap f).set (i * z + j) u = (l.set i y).flatMap f := by
  induction l with
  | nil => intro i j hi; simp at hi
  | cons x l ih =>
    intro i j hi y u hj h
    cases i with
    | zero =>
      simp only [List.getElem_cons_zero] at h
      rw [List.flatMap_cons, List.set_cons_zero, List.flatMap_cons, List.set_append, if_pos (by rw [hf]; omega)]
      rw [Nat.zero_mul, Nat.zero_add, h]
    | succ i =>
      rw [List.flatMap_cons, List.set_cons_succ, List.flatMap_cons, List.set_append, if_neg (by rw [hf, Nat.add_mul]; omega)]
      have e : (i + 1) * z + j - (f x).length = i * z + j := by rw [hf, Nat.add_mul]; omega
      rw [e, ih i j (by simpa using hi) y u hj (by simpa using h)]
theorem flat_one {α : Type} {f : α → List Value} (h : ∀ x, ∀ u ∈ f x, u.oneCell' = true) (l : List α) : ∀ u ∈ l.flatMap f, u.oneCell' = true := by
  intro u hu
  obtain ⟨x, _, hx⟩ := List.mem_flatMap.1 hu
  exact h x u hx
/-- append of one element that has just been laid in block H -/
theorem wpList_append1h {P : Program} {ops : Array Oper} {rest : List Oper} {o : Oper} {a : Act} {Q : Exit → Act → World → Prop} (hgd : o.guard = none) (s x : Operand) (t : TypeId)
    (ho : o.op = .call { callee := .builtin .append, args := #[s, x], argTypes := #[t, t] })
    (base : Nat) {e : TypeId} {z : Value} {size bytes : Nat} (ht : P.underlying t = some (.slice e)) (hi : (P.info? e).map (fun i => (i.zero, i.size, i.bytes)) = some (some z, size, bytes)) (hzs : z.cells.size = size) (hsz : 0 < size)
    {v : Value} {n : Nat} {xs : List Value} (hs : a.eval s = v) {w0 : World} {cs : Array Value} (hown : w0.ownsRow base e size v n xs) (H : Nat) (hH : w0.heap.size = H)
    (hx : a.eval x = .slice (some ⟨H, 0, none⟩) 1 1) (hl : cs.size = size) (h1 : ∀ u ∈ cs.toList, u.oneCell' = true)
    (hb : bytes ≤ 1000) (hn : n ≤ 10000000) (hbase : base ≤ H)
    (h : ∀ v' w', w'.ownsRow base e size v' (n + 1) (xs ++ cs.toList) → w0.grownBy w' v.ownBlock → (v'.ownBlock = v.ownBlock ∨ v'.ownBlock = some (H + 1)) → wpList P ops Q rest (a.put o.dst v') w') : wpList P ops Q (o :: rest) a (w0.alloc (.cells cs e)) := by
  subst hH
  exact wpList_append1 hgd s x t ho base ht hi hzs hsz hs hown hx hl h1 hb hn hbase h
end Go.Proofs.YtpaiideboodaeaaGreatDoor

namespace Go.Proofs.YtpaiideboodaeaaGreatDoor
open Go.RowKit
set_option linter.unusedVariables false
set_option linter.unusedSimpArgs false

structure LineD where
  off : Int
  len : Int
  text : ByteArray
structure FieldD where
  name : ByteArray
  value : ByteArray
def LineD.cells (x : LineD) : List Value := [.int .i64 x.off, .int .i64 x.len, .string x.text]
def FieldD.cells (x : FieldD) : List Value := [.string x.name, .string x.value]
/-- an event, with the places of its lines and fields -/
structure Ev where
  host : Int
  file : Int
  beg : Int
  fin : Int
  lines : List LineD
  time : Int
  weight : Int
  trace : ByteArray
  stream : ByteArray
  fields : List FieldD
  la : Option Addr
  lc : Nat
  fa : Option Addr
  fc : Nat
def Ev.cells (e : Ev) : List Value :=
  [.int .i64 e.host, .int .i64 e.file, .int .i64 e.beg, .int .i64 e.fin, .slice e.la e.lines.length e.lc, .int .i64 e.time, .int .i64 e.weight, .string e.trace, .string e.stream, .slice e.fa e.fields.length e.fc]
structure It where
  rule : ByteArray
  ev : Ev
def It.cells (x : It) : List Value := .string x.rule :: x.ev.cells

def Ev.Sub (S : Nat → Prop) (w : World) (e : Ev) : Prop :=
  Rd S w e.la (e.lines.flatMap LineD.cells) ∧ Rd S w e.fa (e.fields.flatMap FieldD.cells) ∧ e.lines.length ≤ e.lc ∧ e.lc ≤ maxLen ∧ e.fields.length ≤ e.fc ∧ e.fc ≤ maxLen
theorem Ev.Sub.grown {S : Nat → Prop} {w w' : World} {e : Ev} {row : Option Nat} (h : e.Sub S w) (hg : w.grownBy w' row) (hr : ∀ b, S b → some b ≠ row) : e.Sub S w' :=
  ⟨h.1.grown hg hr, h.2.1.grown hg hr, h.2.2⟩
theorem Ev.Sub.mono {S S' : Nat → Prop} {w : World} {e : Ev} (h : e.Sub S w) (hS : ∀ b, S b → b < w.heap.size → S' b) : e.Sub S' w := ⟨h.1.mono hS, h.2.1.mono hS, h.2.2⟩
theorem Ev.Sub.drewN {S : Nat → Prop} {w : World} {e : Ev} (h : e.Sub S w) (n : Nat) : e.Sub S (w.drewN n) := h

/-- a slice of events -/
def Evs (S : Nat → Prop) (w : World) (A : Option Addr) (es : List Ev) : Prop := Rd S w A (es.flatMap Ev.cells) ∧ ∀ e ∈ es, e.Sub S w
theorem Evs.grown {S : Nat → Prop} {w w' : World} {A : Option Addr} {es : List Ev} {row : Option Nat} (h : Evs S w A es) (hg : w.grownBy w' row) (hr : ∀ b, S b → some b ≠ row) : Evs S w' A es :=
  ⟨h.1.grown hg hr, fun e he => (h.2 e he).grown hg hr⟩
theorem Evs.mono {S S' : Nat → Prop} {w : World} {A : Option Addr} {es : List Ev} (h : Evs S w A es) (hS : ∀ b, S b → b < w.heap.size → S' b) : Evs S' w A es :=
  ⟨h.1.mono hS, fun e he => (h.2 e he).mono hS⟩
theorem Evs.drewN {S : Nat → Prop} {w : World} {A : Option Addr} {es : List Ev} (h : Evs S w A es) (n : Nat) : Evs S (w.drewN n) A es := h

theorem Ev.cells_len (e : Ev) : e.cells.length = 10 := rfl
theorem It.cells_len (e : It) : e.cells.length = 11 := rfl
theorem LineD.cells_len (e : LineD) : e.cells.length = 3 := rfl
theorem FieldD.cells_len (e : FieldD) : e.cells.length = 2 := rfl

/-- lines that follow each other from one place of a file to another -/
def Chain : Int → List LineD → Int → Prop
  | a, [], b => a = b
  | a, x :: xs, b => x.off = a ∧ x.text.size + 1 ≤ x.len ∧ x.len ≤ 60 ∧ Chain (a + x.len) xs b
theorem Chain.snoc {a b : Int} {xs : List LineD} (h : Chain a xs b) (x : LineD) (h1 : x.off = b) (h2 : x.text.size + 1 ≤ x.len) (h3 : x.len ≤ 60) : Chain a (xs ++ [x]) (b + x.len) := by
  induction xs generalizing a with
  | nil => simp only [Chain] at h; subst h; exact ⟨h1, h2, h3, rfl⟩
  | cons y ys ih => exact ⟨h.1, h.2.1, h.2.2.1, ih h.2.2.2⟩
theorem Chain.le {a b : Int} {xs : List LineD} (h : Chain a xs b) : a + xs.length ≤ b ∧ b ≤ a + 60 * xs.length := by
  induction xs generalizing a with
  | nil => simp only [Chain] at h; simp; omega
  | cons y ys ih => have := ih h.2.2.2; have := h.2.1; have := h.2.2.1; simp; omega
end Go.Proofs.YtpaiideboodaeaaGreatDoor

namespace Go.Proofs.YtpaiideboodaeaaGreatDoor
open Go.RowKit
set_option linter.unusedVariables false
set_option linter.unusedSimpArgs false

theorem Rd.flatAt {α : Type} {f : α → List Value} {z : Nat} (hf : ∀ x, (f x).length = z) {S : Nat → Prop} {w : World} {b off : Nat} {l : List α} (h : Rd S w (some ⟨b, off, none⟩) (l.flatMap f)) {i : Nat} {x : α} (hx : l[i]? = some x) (j : Nat) (hj : j < z) : w.cell? ⟨b, off + i * z + j, none⟩ = (f x)[j]? := by
  obtain ⟨hi, hxi⟩ := List.getElem?_eq_some_iff.1 hx
  rw [Nat.add_assoc]
  obtain ⟨b', off', e, _, _, hc⟩ := h (by rw [flat_len _ z hf]; exact Nat.mul_pos (by omega) (by omega))
  injection e with e
  injection e with e1 e2
  subst e1 e2
  have h1 := flat_at f z hf l i j hi hj
  rw [hxi] at h1
  have h2 : (f x)[j]? = some ((f x)[j]'(by rw [hf]; exact hj)) := List.getElem?_eq_getElem _
  rw [h2]
  exact hc _ _ (h1.trans h2)
end Go.Proofs.YtpaiideboodaeaaGreatDoor

namespace Go.Proofs.YtpaiideboodaeaaGreatDoor
open Go.RowKit
set_option linter.unusedVariables false
set_option linter.unusedSimpArgs false

/-- the text of an event -/
def textOf (ls : List LineD) : ByteArray := ⟨(Lib.join (ls.map (·.text.data.toList)) [10]).toArray⟩
def TextP (w : World) (t : ByteArray) (e : Ending) (w' : World) : Prop := e = .returned (.string t) ∧ w.grownBy w' none
theorem join_len : ∀ (xs : List (List UInt8)) (m : Nat), (∀ x ∈ xs, x.length ≤ m) → (Lib.join xs [10]).length ≤ xs.length * (m + 1) := by
  intro xs m
  induction xs with
  | nil => intro _; simp [Lib.join]
  | cons a t ih =>
    intro h
    have h1 := h a List.mem_cons_self
    have h2 := ih (fun x hx => h x (List.mem_cons_of_mem _ hx))
    rw [List.length_cons, Nat.add_mul]
    cases t with
    | nil => simp [Lib.join]; omega
    | cons b t => simp [Lib.join] at h2 ⊢; omega
end Go.Proofs.YtpaiideboodaeaaGreatDoor
namespace Go.Proofs.YtpaiideboodaeaaGreatDoor
open Go.RowKit
set_option linter.unusedVariables false
set_option linter.unusedSimpArgs false

theorem textOf_nil : textOf [] = ⟨#[]⟩ := rfl
theorem textOf_step {ls : List LineD} {k : Nat} {y : LineD} (h : ls[k]? = some y) : textOf (ls.take (k + 1)) = if k = 0 then y.text else textOf (ls.take k) ++ ⟨#[10]⟩ ++ y.text := by
  cases ls with
  | nil => simp at h
  | cons a r =>
    rcases k with _ | k
    · simp at h
      subst h
      rw [if_pos rfl]
      simp [textOf, Lib.join_one]
    · rw [if_neg (by omega)]
      simp at h
      have e : ∀ m, textOf ((a :: r).take (m + 1)) = ⟨(a.text.data.toList ++ Lib.joinTail [10] ((r.map (·.text.data.toList)).take m)).toArray⟩ := fun m => by
        unfold textOf
        rw [List.take_succ_cons, List.map_cons, Lib.join_cons, List.map_take]
      rw [e (k + 1), e k, Lib.joinTail_take_succ [10] _ k y.text.data.toList (by rw [List.getElem?_map, h]; rfl)]
      apply ByteArray.ext
      simp [ByteArray.data_append]
theorem textOf_size {ls : List LineD} (ht : ∀ l ∈ ls, l.text.size ≤ 100000) : ∀ k, k ≤ ls.length → (textOf (ls.take k)).size ≤ k * 100001 := by
  intro k
  induction k with
  | zero => intro _; simp [textOf_nil, ByteArray.size]
  | succ k ih =>
    intro hk
    have h := ih (by omega)
    have hy : ls[k]? = some (ls[k]'(by omega)) := List.getElem?_eq_getElem _
    have hm := ht _ (List.getElem_mem (by omega : k < ls.length))
    rw [textOf_step hy]
    split
    · omega
    · rw [ByteArray.size_append, ByteArray.size_append]
      have : (⟨#[10]⟩ : ByteArray).size = 1 := rfl
      omega
set_option maxHeartbeats 2000000 in
set_option maxRecDepth 100000 in
theorem rtext_any {S : Nat → Prop} (e : Ev) (w : World) (hs : e.Sub S w) (hl : e.lines.length ≤ 1000) (ht : ∀ l ∈ e.lines, l.text.size ≤ 100000) :
    Calls Tryz.prog 37 #[.agg e.cells.toArray] w (TextP w (textOf e.lines)) := by
  obtain ⟨xb, hxb⟩ : ∃ b, b = w.heap.size := ⟨_, rfl⟩
  obtain ⟨W1, hW1⟩ : ∃ W, W = w.alloc (.cells e.cells.toArray 44) := ⟨_, rfl⟩
  have hB1 : Blk W1 xb 44 e.cells.toArray := by rw [hW1, hxb]; exact Blk.new w _ _
  have g1 : w.grownBy W1 none := by rw [hW1]; exact only_alloc (only_refl _ _) _
  have G1 := Lib.hid g1
  have HR := Lib.hid (hs.1.grown g1 (by simp))
  have HT := Lib.hid ht
  have b4 := hB1.cell 4
  simp [Ev.cells] at b4
  have HW1 := Lib.hid hW1.symm
  have HXE := Lib.hid hxb.symm
  obtain ⟨ls, hls⟩ : ∃ ls, ls = e.lines := ⟨_, rfl⟩
  rw [← hls] at HR HT b4 hl ⊢
  clear hs ht hW1 hxb hB1 g1 hls
  go_enter Tryz.func37, Tryz.ntmps37
  go_upto_region 1 with fail
  rw [HW1.out, HXE.out]
  clear HW1 HXE
  go_wp2_with fail
  go_loop [3, 4] (fun v i => ∃ k : Nat, k ≤ ls.length ∧ i = .int .i64 k ∧ v = .string (textOf (ls.take k))) (fun _ i => ls.length - (intOf i).toNat)
  case atStart => exact ⟨0, Nat.zero_le _, rfl, rfl⟩
  case round =>
    obtain ⟨k, hk, rfl, rfl⟩ := hrel
    obtain ⟨t, ht⟩ : ∃ t, t = textOf (ls.take k) := ⟨_, rfl⟩
    have hts := textOf_size HT.out k hk
    have hts2 : k * 100001 ≤ 100001000 := by omega
    rw [← ht] at hts ⊢
    have htz : t.size ≤ 100001000 := Nat.le_trans hts hts2
    have HTT := Lib.hid ht
    clear ht hts hts2
    by_cases hlt : k < ls.length
    · obtain ⟨y, hy⟩ : ∃ y, ls[k]? = some y := ⟨_, List.getElem?_eq_getElem hlt⟩
      obtain ⟨b, o, ela, hbl, -, -⟩ := HR.out (by rw [flat_len _ 3 LineD.cells_len]; omega)
      have hrr := HR.out
      rw [ela] at hrr
      have d2 : W1.cell? ⟨b, o + k * 3 + 2, none⟩ = some (.string y.text) := hrr.flatAt LineD.cells_len hy 2 (by omega)
      have i1 : (k : Int) < (ls.length : Int) := by omega
      rw [ela] at b4
      have HST := Lib.hid (textOf_step hy)
      have hyz := HT.out y (List.mem_of_getElem? hy)
      clear hy hrr hbl ela
      by_cases h0 : k = 0
      · have HV : Hid (textOf (ls.take (k + 1)) = y.text) := Lib.hid (by rw [HST.out, if_pos h0])
        have HV0 : Hid (t = ⟨#[]⟩) := Lib.hid (by rw [HTT.out, h0]; rfl)
        subst h0
        have et := HV0.out
        subst et
        have he : (⟨#[]⟩ : ByteArray) ++ y.text = y.text := ByteArray.empty_append
        go_wp2_with fail
        go_round
        case rel => exact ⟨1, by omega, by go_num, by rw [HV.out]⟩
        case measure => simp [intOf]; omega
      · have i2 : (0 : Int) < (k : Int) := by omega
        have HV : Hid (textOf (ls.take (k + 1)) = t ++ ⟨#[10]⟩ ++ y.text) := Lib.hid (by rw [HST.out, if_neg h0, HTT.out])
        have hs1 : (⟨#[10]⟩ : ByteArray).size = 1 := rfl
        have hs2 : (t ++ (⟨#[10]⟩ : ByteArray)).size ≤ 100001001 := by rw [ByteArray.size_append, hs1]; omega
        clear h0
        go_wp2_with fail
        go_round
        case rel => exact ⟨k + 1, by omega, by go_num, by rw [HV.out]⟩
        case measure => simp [intOf]; omega
    · have HE : Hid (t = textOf ls) := Lib.hid (by rw [HTT.out, List.take_of_length_le (by omega)])
      go_wp2_with fail
      go_ret
      exact ⟨by rw [← HE.out]; rfl, G1.out⟩
end Go.Proofs.YtpaiideboodaeaaGreatDoor

namespace Go.Proofs.YtpaiideboodaeaaGreatDoor
open Go.RowKit
set_option linter.unusedVariables false
set_option linter.unusedSimpArgs false

set_option maxHeartbeats 2000000 in
set_option maxRecDepth 100000 in
theorem text_any {S : Nat → Prop} (e : Ev) (w : World) (hs : e.Sub S w) (hl : e.lines.length ≤ 1000) (ht : ∀ l ∈ e.lines, l.text.size ≤ 100000) :
    Calls Tryz.prog 100 #[.agg e.cells.toArray] w (TextP w (textOf e.lines)) := by
  obtain ⟨xb, hxb⟩ : ∃ b, b = w.heap.size := ⟨_, rfl⟩
  obtain ⟨W1, hW1⟩ : ∃ W, W = w.alloc (.cells e.cells.toArray 44) := ⟨_, rfl⟩
  have hB1 : Blk W1 xb 44 e.cells.toArray := by rw [hW1, hxb]; exact Blk.new w _ _
  have g1 : w.grownBy W1 none := by rw [hW1]; exact only_alloc (only_refl _ _) _
  have G1 := Lib.hid g1
  have hsz1 := g1.size
  have HR := Lib.hid ((hs.1.mono (S' := (· < w.heap.size)) (fun b _ hlt => hlt)).grown g1 (by simp))
  have HT := Lib.hid ht
  have b4 := hB1.cell 4
  simp [Ev.cells] at b4
  have HW1 := Lib.hid hW1.symm
  have HXE := Lib.hid hxb.symm
  obtain ⟨ls, hls⟩ : ∃ ls, ls = e.lines := ⟨_, rfl⟩
  rw [← hls] at HR HT b4 hl ⊢
  clear hs ht hW1 hxb hB1 g1 hls
  go_enter Tryz.func100, Tryz.ntmps100
  go_upto_region 1 with fail
  rw [HW1.out, HXE.out]
  clear HW1 HXE
  go_wp2_with fail
  go_loopw [3, 9] (fun v i wr => ∃ k : Nat, k ≤ ls.length ∧ i = .int .i64 k ∧ wr.ownsRow W1.heap.size 9 1 v k ((ls.take k).map (fun l => .string l.text)) ∧ W1.grownBy wr none) (fun _ i _ => ls.length - (intOf i).toNat)
  case atStart => exact ⟨0, Nat.zero_le _, rfl, World.ownsRow_nil _ _ _ _, only_refl _ _⟩
  case round =>
    obtain ⟨k, hk, rfl, hO, hG⟩ := hrel
    have G := Lib.hid hG
    have hsz := hG.size
    obtain ⟨Ao, co, rfl, hoc, hom, -, hor⟩ := Rd.of_own hO (by decide)
    have OO := Lib.hid hO
    have RO := Lib.hid hor
    clear hO hG hor
    by_cases hlt : k < ls.length
    · obtain ⟨y, hy⟩ : ∃ y, ls[k]? = some y := ⟨_, List.getElem?_eq_getElem hlt⟩
      have hrr := HR.out.grown G.out (by simp)
      obtain ⟨b, o, ela, hbl, -, -⟩ := hrr (by rw [flat_len _ 3 LineD.cells_len]; omega)
      have d0 : wr.cell? ⟨b, o + k * 3, none⟩ = some (.int .i64 y.off) := by
        rw [ela] at hrr; exact hrr.flatAt LineD.cells_len hy 0 (by omega)
      have d1 : wr.cell? ⟨b, o + k * 3 + 1, none⟩ = some (.int .i64 y.len) := by
        rw [ela] at hrr; exact hrr.flatAt LineD.cells_len hy 1 (by omega)
      have d2 : wr.cell? ⟨b, o + k * 3 + 2, none⟩ = some (.string y.text) := by
        rw [ela] at hrr; exact hrr.flatAt LineD.cells_len hy 2 (by omega)
      have HTK : Hid ((ls.take (k + 1)).map (fun l => (Value.string l.text)) = (ls.take k).map (fun l => .string l.text) ++ [.string y.text]) := Lib.hid (by
        rw [List.take_succ_eq_append_getElem hlt, List.map_append]
        rw [List.getElem?_eq_getElem hlt] at hy
        injection hy with hy
        rw [hy]; rfl)
      have i1 : (k : Int) < (ls.length : Int) := by omega
      obtain ⟨W8, hW8⟩ : ∃ W, W = wr.alloc (.cells #[.int .i64 y.off, .int .i64 y.len, .string y.text] 117) := ⟨_, rfl⟩
      have hB8 : Blk W8 wr.heap.size 117 #[.int .i64 y.off, .int .i64 y.len, .string y.text] := by rw [hW8]; exact Blk.new wr _ _
      have g8 : wr.grownBy W8 none := by rw [hW8]; exact only_alloc (only_refl _ _) _
      have G8 := Lib.hid (only_trans G.out g8)
      have O8 := Lib.hid (own_ext OO.out g8)
      have hz8 := G8.out.size
      have c2 := hB8.cell 2
      simp at c2
      have HW8 := Lib.hid hW8.symm
      clear hW8 hB8 g8 hrr hy
      rw [ela]
      go_upto_region 5 with fail
      rw [HW8.out]
      clear d0 d1 d2 HW8
      go_wp2_with (at_builtin; refine wpList_append1 rfl _ _ 39 rfl W1.heap.size Tryz.underlying39 strInfo rfl (by decide) (v := .slice Ao k co) (by rfl) (w0 := W8) (cs := #[.string y.text]) O8.out (by rfl) rfl (by simp [Value.oneCell']) (by decide) (by omega) (by omega) ?_; intro v9 w9 hown9 hg9 hob9)
      have O9 : Hid (w9.ownsRow W1.heap.size 9 1 v9 (k + 1) ((ls.take (k + 1)).map (fun l => .string l.text))) := Lib.hid (by rw [HTK.out]; exact hown9)
      have G9 : Hid (W1.grownBy w9 none) := Lib.hid (only_own G8.out hg9 O8.out (Nat.le_refl _))
      clear hown9 hg9 hob9 c2
      go_wp2_with fail
      go_roundw
      case rel => exact ⟨k + 1, by omega, by go_num, O9.out, G9.out⟩
      case measure => simp [intOf]; omega
    · obtain rfl : k = ls.length := by omega
      have hR := RO.out
      rw [List.take_length] at hR
      have GF := Lib.hid (only_trans G1.out G.out)
      by_cases h0 : ls.length = 0
      · have HV : Hid (textOf ls = ⟨#[]⟩) := Lib.hid (by rw [List.eq_nil_of_length_eq_zero h0]; rfl)
        have KJ := Lib.hid (Tryz.strings_Join_none Ao co ⟨#[10]⟩ wr)
        clear hR hlt
        have i1 : ¬ (((0 : Nat) : Int) < ((0 : Nat) : Int)) := by omega
        rw [h0]
        clear h0
        go_wp2_with fail
        refine KJ.out.mono ?_
        rintro e w3 ⟨rfl, rfl⟩
        go_wp2_with fail
        go_ret
        exact ⟨by rw [HV.out]; rfl, GF.out⟩
      · obtain ⟨b, o, rfl, hb1, hb2, hcell⟩ := hR (by simp; omega)
        have hml : (ls.map (·.text)).length = ls.length := List.length_map ..
        have hjl := join_len (ls.map (·.text.data.toList)) 100000 (fun x hx => by
          obtain ⟨l, hl', rfl⟩ := List.mem_map.1 hx
          have := HT.out l hl'
          rw [Array.length_toList]; exact this)
        rw [List.length_map] at hjl
        have hjl2 : ls.length * (100000 + 1) ≤ 1000 * (100000 + 1) := Nat.mul_le_mul_right _ hl
        have KJ := Tryz.strings_Join b o co (ls.map (·.text)) ⟨#[10]⟩ wr (fun j x hx => by
          have := hcell j (.string x) (by
            rw [List.getElem?_map] at hx ⊢
            cases hj : ls[j]? with
            | none => rw [hj] at hx; cases hx
            | some l => rw [hj] at hx; injection hx with hx; rw [← hx]; rfl)
          exact this) hb2 (by rw [hml]; omega) (by rw [hml]; exact hoc) (by rw [List.map_map]; exact Nat.le_trans hjl (by omega))
        rw [hml] at KJ
        have KJ2 := Lib.hid KJ
        clear KJ hcell hR hjl hjl2 h0
        go_wp2_with fail
        refine KJ2.out.mono ?_
        rintro e w3 ⟨rfl, hbel⟩
        have g3 : wr.grownBy w3 none := ⟨hbel.os, hbel.tape, hbel.output, hbel.size, fun k hk _ => hbel.block k hk⟩
        have G3 := Lib.hid (only_trans GF.out g3)
        clear hbel g3 KJ2
        go_wp2_with fail
        go_ret
        exact ⟨rfl, G3.out⟩
end Go.Proofs.YtpaiideboodaeaaGreatDoor

namespace Go.Proofs.YtpaiideboodaeaaGreatDoor
open Go.RowKit
set_option linter.unusedVariables false
set_option linter.unusedSimpArgs false

set_option maxHeartbeats 800000 in
theorem word_some (g : Nat) (l : List Int) (k : Nat) (w : World) (h : CodesAt w g l k) :
    Calls Tryz.prog 192 #[.pointer (some ⟨g, 0, none⟩)] w (StrPost w g l 7) := by
  go_enter Tryz.func192, Tryz.ntmps192
  go_wp2_with fail
  refine (next_some g l k 14 _ (h.grown (World.grownBy_alloc _ _ none) (by simp)) (by omega) (by omega)).mono ?_
  rintro e w2 ⟨v2, k2, rfl, hv2, h2, hg2⟩
  obtain ⟨j, rfl⟩ := Int.eq_ofNat_of_zero_le hv2.1
  have hj : j < 14 := by omega
  have hlt := h.lt
  have hB := (Blk.new w _ _).grown hg2 (by simp; omega)
  obtain ⟨x, hc, HX⟩ := hB.str_at (m := 7) (by rfl) (j := j) hj
  have G2 := Lib.hid hg2
  have C2 := Lib.hid h2
  clear hg2 h2 hB
  go_wp2
  go_ret
  exact ⟨x, k2, rfl, by have := HX.out; simpa using this, C2.out, only_trans (only_alloc (only_refl _ _) _) G2.out⟩
end Go.Proofs.YtpaiideboodaeaaGreatDoor

namespace Go.Proofs.YtpaiideboodaeaaGreatDoor
open Go.RowKit
set_option linter.unusedVariables false
set_option linter.unusedSimpArgs false

def sepTab : Array Value := #[.string ⟨#[32]⟩, .string ⟨#[32]⟩, .string ⟨#[44, 32]⟩, .string ⟨#[61]⟩, .string ⟨#[]⟩]
set_option maxHeartbeats 1600000 in
theorem text_some (g : Nat) (l : List Int) (k : Nat) (w : World) (h : CodesAt w g l k) :
    Calls Tryz.prog 137 #[.pointer (some ⟨g, 0, none⟩)] w (StrPost w g l 40) := by
  go_enter Tryz.func137, Tryz.ntmps137
  go_wp2_with fail
  refine (word_some g l k _ h).mono ?_
  rintro e w1 ⟨s1, k1, rfl, hs1, h1, hg1⟩
  go_wp2_with fail
  refine (next_some g l k1 4 _ h1 (by omega) (by omega)).mono ?_
  rintro e w2 ⟨v2, k2, rfl, hv2, h2, hg2⟩
  have G2 : Hid (w.grownBy w2 (some g)) := only_trans hg1 hg2
  clear hg1 hg2 h1 h
  go_wp2_with fail
  go_loopw [3, 4] (fun s i wr => ∃ (m : Int) (s' : ByteArray) (k : Nat), i = .int .i64 m ∧ 0 ≤ m ∧ s = .string s' ∧ (s'.size : Int) + 10 * m ≤ 37 ∧ CodesAt wr g l k ∧ w.grownBy wr (some g)) (fun _ i _ => (intOf i).toNat)
  case atStart => exact ⟨v2, s1, k2, rfl, hv2.1, rfl, by omega, h2, G2.out⟩
  case round =>
    obtain ⟨m, s', k, rfl, hm, rfl, hsz, hC, hG⟩ := hrel
    have G := Lib.hid hG
    have hlt := hC.lt
    clear hG h2 G2
    by_cases hm0 : 0 < m
    · go_wp2_with fail
      go_region_with (first
        | (go_at_call 45; refine (next_some g l k 5 _ (by first | exact hC.drew | exact (hC.alloc _).drew) (by omega) (by omega)).mono ?_; rintro e w5 ⟨v5, k5, rfl, hv5, hC5, hg5⟩; obtain ⟨j, rfl⟩ := Int.eq_ofNat_of_zero_le hv5.1; obtain ⟨x, hx, hX⟩ := tab_str (cs := sepTab) (m := 2) (by rfl) (j := j) (show j < 5 by omega); simp only [sepTab] at hx; (try (have hcb := ((Blk.new _ _ _).drew.grown hg5 (by simp; omega)).cell j; rw [hx] at hcb)))
        | (go_at_call 192; refine (word_some g l k5 _ (by first | exact hC5 | exact hC5.alloc _)).mono ?_; rintro e w6 ⟨s6, k6, rfl, hs6, hC6, hg6⟩; (try (have hcb2 := ((Blk.new _ _ _).grown hg6 (by have := hC5.lt; simp; omega)).cell j; rw [hx] at hcb2)); (try (have hcb3 := hg6.cell hcb (by simp; omega)))))
      all_goals go_wp2
      all_goals go_roundw
      all_goals first
        | (refine ⟨m - 1, _, k6, rfl, by omega, rfl, ?_, by first | exact hC6 | exact hC6.alloc _, ?_⟩
           · simp only [ByteArray.size_append]; omega
           · first
             | exact only_trans (only_trans (only_drew (only_alloc G.out _)) hg5) hg6
             | exact only_trans (only_alloc (only_trans (only_drew G.out) hg5) _) hg6
             | exact only_alloc (only_trans (only_trans (only_drew G.out) hg5) hg6) _)
        | (simp [intOf]; omega)
    · go_wp2_with fail
      go_ret
      exact ⟨s', k, rfl, by omega, hC, G.out⟩
end Go.Proofs.YtpaiideboodaeaaGreatDoor

namespace Go.Proofs.YtpaiideboodaeaaGreatDoor
open Go.RowKit
set_option linter.unusedVariables false
set_option linter.unusedSimpArgs false

set_option maxHeartbeats 800000 in
theorem time_some (g : Nat) (l : List Int) (k : Nat) (w : World) (h : CodesAt w g l k) :
    Calls Tryz.prog 138 #[.pointer (some ⟨g, 0, none⟩)] w (DrawnPost w g l (fun v => 0 ≤ v ∧ v ≤ 253402300799999)) := by
  go_enter Tryz.func138, Tryz.ntmps138
  go_wp2_with fail
  refine (next_some g l k 4 _ h (by omega) (by omega)).mono ?_
  rintro e w1 ⟨v, k1, rfl, hv, h1, hg1⟩
  by_cases h0 : v = 0
  · have hb : (v == 0) = true := by simp [h0]
    clear h0
    go_wp2_with fail
    refine (next_some g l k1 40 _ h1 (by omega) (by omega)).mono ?_
    rintro e w2 ⟨v2, k2, rfl, hv2, h2, hg2⟩
    go_wp2
    go_ret
    exact ⟨_, k2, rfl, by simp; omega, h2, only_trans hg1 hg2⟩
  · have hb : (v == 0) = false := by simp [h0]
    by_cases h1' : v = 1
    · have hb : (v == 1) = true := by simp [h1']
      clear h0 h1'
      go_wp2_with fail
      refine (next_some g l k1 3 _ h1 (by omega) (by omega)).mono ?_
      rintro e w2 ⟨v2, k2, rfl, hv2, h2, hg2⟩
      go_wp2
      go_ret
      exact ⟨_, k2, rfl, by simp; omega, h2, only_trans hg1 hg2⟩
    · have hb : (v == 1) = false := by simp [h1']
      clear h0 h1'
      go_wp2_with fail
      refine (next_some g l k1 60 _ h1 (by omega) (by omega)).mono ?_
      rintro e w2 ⟨v2, k2, rfl, hv2, h2, hg2⟩
      go_wp2
      go_ret
      exact ⟨_, k2, rfl, by simp; omega, h2, only_trans hg1 hg2⟩
end Go.Proofs.YtpaiideboodaeaaGreatDoor

namespace Go.Proofs.YtpaiideboodaeaaGreatDoor
open Go.RowKit
set_option linter.unusedVariables false
set_option linter.unusedSimpArgs false

set_option maxHeartbeats 800000 in
theorem value_some (g : Nat) (l : List Int) (k : Nat) (w : World) (h : CodesAt w g l k) :
    Calls Tryz.prog 193 #[.pointer (some ⟨g, 0, none⟩)] w (StrPost w g l 20) := by
  go_enter Tryz.func193, Tryz.ntmps193
  go_wp2_with fail
  refine (next_some g l k 11 _ (h.grown (World.grownBy_alloc _ _ none) (by simp)) (by omega) (by omega)).mono ?_
  rintro e w2 ⟨v2, k2, rfl, hv2, h2, hg2⟩
  obtain ⟨j, rfl⟩ := Int.eq_ofNat_of_zero_le hv2.1
  have hj : j < 11 := by omega
  have hlt := h.lt
  have hB := (Blk.new w _ _).grown hg2 (by simp; omega)
  obtain ⟨x, hc, HX⟩ := hB.str_at (m := 20) (by rfl) (j := j) hj
  have G2 := Lib.hid hg2
  have C2 := Lib.hid h2
  clear hg2 h2 hB
  go_wp2
  go_ret
  exact ⟨x, k2, rfl, by have := HX.out; simpa using this, C2.out, only_trans (only_alloc (only_refl _ _) _) G2.out⟩

def IsWeight (v : Int) : Prop := v = 1 ∨ v = 2 ∨ v = 5 ∨ v = 10 ∨ v = 5040

set_option maxHeartbeats 800000 in
theorem weight_some (g : Nat) (l : List Int) (k : Nat) (w : World) (h : CodesAt w g l k) :
    Calls Tryz.prog 139 #[.pointer (some ⟨g, 0, none⟩)] w (DrawnPost w g l IsWeight) := by
  go_enter Tryz.func139, Tryz.ntmps139
  go_wp2_with fail
  refine (next_some g l k 6 _ (h.grown (World.grownBy_alloc _ _ none) (by simp)) (by omega) (by omega)).mono ?_
  rintro e w2 ⟨v2, k2, rfl, hv2, h2, hg2⟩
  obtain ⟨j, rfl⟩ := Int.eq_ofNat_of_zero_le hv2.1
  have hj : j < 6 := by omega
  have hlt := h.lt
  have hB := (Blk.new w _ _).grown hg2 (by simp; omega)
  obtain ⟨x, hc, HX⟩ := hB.int_at (p := fun v => v == 1 || v == 2 || v == 5 || v == 10 || v == 5040) (by rfl) (j := j) hj
  have G2 := Lib.hid hg2
  have C2 := Lib.hid h2
  clear hg2 h2 hB
  go_wp2
  go_ret
  exact ⟨x, k2, rfl, by have := HX.out; simpa [IsWeight, or_assoc] using this, C2.out, only_trans (only_alloc (only_refl _ _) _) G2.out⟩

end Go.Proofs.YtpaiideboodaeaaGreatDoor

namespace Go.Proofs.YtpaiideboodaeaaGreatDoor
open Go.RowKit
set_option linter.unusedVariables false
set_option linter.unusedSimpArgs false

theorem fieldInfo : (Tryz.prog.info? 85).map (fun i => (i.zero, i.size, i.bytes)) = some (some (.agg #[.string ⟨#[]⟩, .string ⟨#[]⟩]), 2, 32) := by kernel_rfl
def nameTab : List ByteArray := [⟨#[99, 111, 100, 101]⟩, ⟨#[108, 101, 118, 101, 108]⟩, ⟨#[109, 115]⟩, ⟨#[117, 115, 101, 114]⟩]
def FieldsOk (n : Nat) (fs : List FieldD) : Prop := (fs.map FieldD.name).Sublist (nameTab.take n) ∧ ∀ f ∈ fs, f.value.size ≤ 20
theorem FieldsOk.skip {n : Nat} {fs : List FieldD} (h : FieldsOk n fs) : FieldsOk (n + 1) fs :=
  ⟨h.1.trans (List.take_sublist_take_left (by omega)), h.2⟩
theorem FieldsOk.snoc {n : Nat} {fs : List FieldD} (h : FieldsOk n fs) (hn : n < 4) {f : FieldD} (h1 : nameTab[n]? = some f.name) (h2 : f.value.size ≤ 20) : FieldsOk (n + 1) (fs ++ [f]) := by
  refine ⟨?_, mem_snoc h.2 h2⟩
  have : nameTab.take (n + 1) = nameTab.take n ++ [f.name] := by rw [List.take_add_one, h1]; rfl
  rw [this, List.map_append]
  exact h.1.append (List.Sublist.refl _)
def FieldsPost (w : World) (g : Nat) (l : List Int) (e : Ending) (w' : World) : Prop :=
  ∃ (A : Option Addr) (c : Nat) (fs : List FieldD) (k : Nat), e = .returned (.slice A fs.length c) ∧ FieldsOk 4 fs ∧ fs.length ≤ c ∧ c ≤ maxLen ∧ Rd (w.heap.size ≤ ·) w' A (fs.flatMap FieldD.cells) ∧ CodesAt w' g l k ∧ w.grownBy w' (some g)

set_option maxHeartbeats 1600000 in
set_option maxRecDepth 100000 in
theorem fields_some (g : Nat) (l : List Int) (k : Nat) (w : World) (h : CodesAt w g l k) :
    Calls Tryz.prog 140 #[.pointer (some ⟨g, 0, none⟩)] w (FieldsPost w g l) := by
  have hlt0 := h.lt
  go_enter Tryz.func140, Tryz.ntmps140
  go_wp2_with fail
  obtain ⟨W, hW⟩ : ∃ W, W = w.alloc (Obj.cells (nameTab.map Value.string).toArray 9) := ⟨_, rfl⟩
  have hW2 : w.alloc (Obj.cells #[Value.string ⟨#[99, 111, 100, 101]⟩, Value.string ⟨#[108, 101, 118, 101, 108]⟩, Value.string ⟨#[109, 115]⟩, Value.string ⟨#[117, 115, 101, 114]⟩] 9) = W := hW.symm
  rw [hW2]
  have HC : Hid (CodesAt W g l k) := hW ▸ h.alloc _
  have HB : Hid (Blk W w.heap.size 9 (nameTab.map Value.string).toArray) := hW ▸ Blk.new w _ _
  have HG : Hid (w.grownBy W (some g)) := hW ▸ only_alloc (only_refl _ _) _
  clear hW hW2 h
  obtain ⟨tb, htb⟩ : ∃ tb, tb = w.heap.size := ⟨_, rfl⟩
  rw [← htb] at HB hlt0 ⊢
  have HTB := Lib.hid htb
  clear htb
  go_loopw [3, 5] (fun v i wr => ∃ (n k : Nat) (fs : List FieldD), n ≤ 4 ∧ fs.length ≤ n ∧ i = .int .i64 n ∧ FieldsOk n fs ∧ wr.ownsRow (tb + 1) 85 2 v fs.length (fs.flatMap FieldD.cells) ∧ CodesAt wr g l k ∧ Blk wr tb 9 (nameTab.map Value.string).toArray ∧ w.grownBy wr (some g)) (fun _ i _ => 4 - (intOf i).toNat)
  case atStart => exact ⟨0, k, [], by omega, by simp, rfl, ⟨by simp, by simp⟩, World.ownsRow_nil _ _ _ _, HC.out, HB.out, HG.out⟩
  case round =>
    obtain ⟨n, k, fs, hn, hfn, rfl, hok, hown, hC, hB, hG⟩ := hrel
    have G := Lib.hid hG
    have OK := Lib.hid hok
    have hlt := hB.lt
    clear hG hok HC HB HG
    by_cases hn4 : n < 4
    · go_wp2_with fail
      refine (next_some g l k 3 _ hC (by omega) (by omega)).mono ?_
      rintro e w2 ⟨v2, k2, rfl, hv2, h2, hg2⟩
      have hown2 := own_only hown hg2 (by omega)
      have hB2 := hB.grown hg2 (by simp; omega)
      have G2 : Hid (w.grownBy w2 (some g)) := only_trans G.out hg2
      have hlt2 := hB2.lt
      clear hC hB hown hg2 G hlt
      by_cases hv : v2 = 1
      · have hb1 : (v2 == 1) = true := by simp [hv]
        obtain ⟨nm, hnm⟩ : ∃ nm, nameTab[n]? = some nm := ⟨_, List.getElem?_eq_getElem (show n < nameTab.length from hn4)⟩
        have hcell := hB2.cell n
        have hcell' : w2.cell? ⟨tb, n, none⟩ = some (.string nm) := by rw [hcell]; simp [hnm]
        have HNM := Lib.hid hnm
        have HB2 := Lib.hid hB2
        clear hcell hnm hv hB2
        go_wp2_with fail
        go_region_law (first
          | (have htok := hown5; go_must (refine step_append1 rfl _ _ 42 rfl (tb + 1) Tryz.underlying42 fieldInfo rfl (by decide) (v := _) (by rfl) (w0 := w5) (cs := #[.string nm, .string s5]) (by rfl) (by rfl) (by rfl) (by rfl) hown5 (by rfl) rfl (by simp [Value.oneCell']) (by decide) (by omega) (by omega) ?_); intro v9 w9 hown9 hg9 hob9)
          | (go_simp; go_at_call 193; refine (value_some g l k2 _ (by exact h2.drew)).mono ?_; rintro e w5 ⟨s5, k5, rfl, hs5, hC5, hg5⟩; have hown5 := own_only (own_drew hown2) hg5 (by omega); have hlt5 := hC5.lt; have hz5 : w2.heap.size ≤ w5.heap.size := hg5.size; have hcell5 : w5.cell? ⟨tb, n, none⟩ = some (.string nm) := hg5.cell (show w2.drew.cell? _ = _ from hcell') (by simp; omega)))
        all_goals
          have hC9 := hC5.grown hg9 (fun b hb e => by have := (hown5.lt b e.symm).1; omega)
          have hB9 := (HB2.out.drew.grown hg5 (by simp; omega)).grown hg9 (fun e => by have := (hown5.lt _ e.symm).1; omega)
          have G9 : Hid (w.grownBy w9 (some g)) := only_own (only_trans (only_drew G2.out) hg5) hg9 hown5 (by have := HTB.out; omega)
          have hown9' : w9.ownsRow (tb + 1) 85 2 v9 (fs ++ [FieldD.mk nm s5]).length ((fs ++ [FieldD.mk nm s5]).flatMap FieldD.cells) := by simpa [FieldD.cells] using hown9
          clear hown9 hg9 hob9 hown5 hC5 hg5 hcell5 hown2 h2
          go_wp2_with fail
          go_roundw
          case rel => exact ⟨n + 1, k5, fs ++ [FieldD.mk nm s5], by omega, by simp; omega, by go_num, OK.out.snoc hn4 HNM.out hs5, hown9', hC9, hB9, G9.out⟩
          case measure => simp [intOf]; omega
      · have hb1 : (v2 == 1) = false := by simp [hv]
        go_wp2_with fail
        go_roundw
        case rel => exact ⟨n + 1, k2, fs, by omega, by omega, by go_num, OK.out.skip, hown2, h2, hB2, G2.out⟩
        case measure => simp [intOf]; omega
    · obtain rfl : n = 4 := by omega
      obtain ⟨A, cc, rfl, hnc, hcm, -, hrd⟩ := Rd.of_own hown (by decide)
      have HR := Lib.hid hrd
      clear hrd
      go_wp2_with fail
      go_ret
      exact ⟨A, cc, fs, k, rfl, OK.out, hnc, hcm, HR.out.mono (fun b hb _ => by have := HTB.out; omega), hC, G.out⟩
end Go.Proofs.YtpaiideboodaeaaGreatDoor

namespace Go.Proofs.YtpaiideboodaeaaGreatDoor
open Go.RowKit
set_option linter.unusedVariables false
set_option linter.unusedSimpArgs false

def Ev.less (a b : Ev) : Bool :=
  if a.time ≠ b.time then decide (a.time < b.time) else if a.host ≠ b.host then decide (a.host < b.host) else if a.file ≠ b.file then decide (a.file < b.file) else decide (a.beg < b.beg)
def BoolExt (b : Bool) (w : World) (e : Ending) (w' : World) : Prop := e = .returned (.bool b) ∧ w.grownBy w' none

set_option maxHeartbeats 1000000 in
theorem rless_any (a b : Ev) (w : World) : Calls Tryz.prog 80 #[.agg a.cells.toArray, .agg b.cells.toArray] w (BoolExt (a.less b) w) := by
  have hE : w.grownBy ((w.alloc (.cells a.cells.toArray 44)).alloc (.cells b.cells.toArray 44)) none := only_alloc (only_alloc (only_refl _ _) _) _
  have HE := Lib.hid hE
  clear hE
  simp only [Ev.cells] at HE ⊢
  by_cases h1 : a.time = b.time
  · have b1 : (a.time != b.time) = false := by simp [h1]
    by_cases h2 : a.host = b.host
    · have b2 : (a.host != b.host) = false := by simp [h2]
      by_cases h3 : a.file = b.file
      · have b3 : (a.file != b.file) = false := by simp [h3]
        have hl : a.less b = decide (a.beg < b.beg) := by simp [Ev.less, h1, h2, h3]
        rw [hl]
        clear h1 h2 h3 hl
        go_enter Tryz.func80, Tryz.ntmps80
        go_wp2
        go_ret
        exact ⟨rfl, HE.out⟩
      · have b3 : (a.file != b.file) = true := by simp [h3]
        have hl : a.less b = decide (a.file < b.file) := by simp [Ev.less, h1, h2, h3]
        rw [hl]
        clear h1 h2 h3 hl
        go_enter Tryz.func80, Tryz.ntmps80
        go_wp2
        go_ret
        exact ⟨rfl, HE.out⟩
    · have b2 : (a.host != b.host) = true := by simp [h2]
      have hl : a.less b = decide (a.host < b.host) := by simp [Ev.less, h1, h2]
      rw [hl]
      clear h1 h2 hl
      go_enter Tryz.func80, Tryz.ntmps80
      go_wp2
      go_ret
      exact ⟨rfl, HE.out⟩
  · have b1 : (a.time != b.time) = true := by simp [h1]
    have hl : a.less b = decide (a.time < b.time) := by simp [Ev.less, h1]
    rw [hl]
    clear h1 hl
    go_enter Tryz.func80, Tryz.ntmps80
    go_wp2
    go_ret
    exact ⟨rfl, HE.out⟩
end Go.Proofs.YtpaiideboodaeaaGreatDoor
