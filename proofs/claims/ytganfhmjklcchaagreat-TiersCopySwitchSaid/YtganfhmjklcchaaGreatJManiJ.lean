/- XTal, XTalA, XTalB, XTalC, XMani0, XIntake, XMani, XMFind, XMIdx, XMLev, XMSet, XMChk, XRemP, XMLevR, XRem, XAdd: what this seat has of them (joined by partseat.py). Conditions: as there. -/
import Derived.Test.YtganfhmjklcchaaGreatJBase
import Derived.ArgAppend
import Derived.Deep.DeepMust
import Derived.Test.YtganfhmjklcchaaGreatJInv
import Derived.Deep.RegionWith
import Derived.Deep.RegionLaw
import Derived.Deep.DeepCutAuto
import Derived.Test.YtganfhmjklcchaaGreatJGenC
import Derived.StillTailTactics
namespace Go.Proofs.YtganfhmjklcchaaGreat
open Go.RowKit
set_option linter.unusedVariables false
set_option linter.unusedSimpArgs false

structure Tal where
  host : Int
  rule : ByteArray
  lines : Int
def Tal.cells (t : Tal) : List Value := [.int .i64 t.host, .string t.rule, .int .i64 t.lines]
theorem Tal.cells_len (t : Tal) : t.cells.length = 3 := rfl
theorem Tal.one (t : Tal) : ∀ u ∈ t.cells, u.oneCell' = true := by simp [Tal.cells, Value.oneCell']
/-- the order of the keys -/
def kl (a b : Tal) : Prop := a.host < b.host ∨ (a.host = b.host ∧ sl a.rule b.rule = true)
instance (a b : Tal) : Decidable (kl a b) := inferInstanceAs (Decidable (_ ∨ _))
def TSrt (l : List Tal) : Prop := l.Pairwise kl
end Go.Proofs.YtganfhmjklcchaaGreat

namespace Go.Proofs.YtganfhmjklcchaaGreat
open Go.RowKit
set_option linter.unusedVariables false
set_option linter.unusedSimpArgs false

theorem tflat_at {l : List Tal} {i : Nat} {t : Tal} (h : l[i]? = some t) (j : Nat) (hj : j < 3) : (l.flatMap Tal.cells)[i * 3 + j]? = t.cells[j]? := by
  have hi : i < l.length := by
    rcases Nat.lt_or_ge i l.length with h' | h'
    · exact h'
    · rw [List.getElem?_eq_none h'] at h; cases h
  rw [flat_at Tal.cells 3 Tal.cells_len l i j hi hj]
  rw [List.getElem?_eq_getElem hi] at h
  injection h with h
  rw [h]
theorem tflat_len (l : List Tal) : (l.flatMap Tal.cells).length = l.length * 3 := flat_len _ 3 Tal.cells_len l
theorem Rd.tal {S : Nat → Prop} {w : World} {A : Option Addr} {l : List Tal} (h : Rd S w A (l.flatMap Tal.cells)) {i : Nat} {t : Tal} (ht : l[i]? = some t) :
    ∃ b off, A = some ⟨b, off, none⟩ ∧ w.cell? ⟨b, off + i * 3, none⟩ = some (.int .i64 t.host) ∧ w.cell? ⟨b, off + i * 3 + 1, none⟩ = some (.string t.rule) ∧ w.cell? ⟨b, off + i * 3 + 2, none⟩ = some (.int .i64 t.lines) := by
  have hi : i < l.length := by
    rcases Nat.lt_or_ge i l.length with h | h
    · exact h
    · rw [List.getElem?_eq_none h] at ht; cases ht
  obtain ⟨b, off, e, _, _, hc⟩ := h (by rw [tflat_len]; omega)
  refine ⟨b, off, e, hc _ _ (tflat_at ht 0 (by omega)), ?_, ?_⟩
  · rw [Nat.add_assoc]; exact hc _ _ (tflat_at ht 1 (by omega))
  · rw [Nat.add_assoc]; exact hc _ _ (tflat_at ht 2 (by omega))
end Go.Proofs.YtganfhmjklcchaaGreat

namespace Go.Proofs.YtganfhmjklcchaaGreat
open Go.RowKit
set_option linter.unusedVariables false
set_option linter.unusedSimpArgs false

end Go.Proofs.YtganfhmjklcchaaGreat

namespace Go.Proofs.YtganfhmjklcchaaGreat
open Go.RowKit
set_option linter.unusedVariables false
set_option linter.unusedSimpArgs false

section
variable {Q : Exit → Act → World → Prop} {ops : Array Oper} {hd : List Oper} {a : Act} {G : World → Prop} {φs : List (Value → World → Prop)} {i : Nat} {o : Oper} {r : Nat}
end
/-- the memory while the choices of one tally are made -/
def TG (w : World) (g : Nat) (l : List Int) (r : Nat) (A : Option Addr) (ts : List Tal) (wx : World) : Prop :=
  (∃ k, CodesAt wx g l k) ∧ Rd (w.heap.size ≤ ·) wx A (ts.flatMap Tal.cells) ∧ w.grownBy wx (some g) ∧ r ≤ wx.heap.size ∧ g < w.heap.size
theorem TG.alloc {w : World} {g : Nat} {l : List Int} {r : Nat} {A : Option Addr} {ts : List Tal} {wx : World} (h : TG w g l r A ts wx) (o : Obj) : TG w g l r A ts (wx.alloc o) := by
  obtain ⟨⟨k, h1⟩, h2, h3, h4, h5⟩ := h
  exact ⟨⟨k, h1.alloc o⟩, h2.alloc o, only_alloc h3 o, by simp; omega, h5⟩
theorem TG.next {w : World} {g : Nat} {l : List Int} {r : Nat} {A : Option Addr} {ts : List Tal} {wx w' : World} (h : TG w g l r A ts wx) (hg : wx.grownBy w' (some g)) {k : Nat} (hC : CodesAt w' g l k) : TG w g l r A ts w' := by
  obtain ⟨_, h2, h3, h4, h5⟩ := h
  exact ⟨⟨k, hC⟩, h2.grown hg (fun b hb => by intro e; injection e; omega), only_trans h3 hg, by have := hg.size; omega, h5⟩

end Go.Proofs.YtganfhmjklcchaaGreat

namespace Go.Proofs.YtganfhmjklcchaaGreat
open Go.RowKit
set_option linter.unusedVariables false
set_option linter.unusedSimpArgs false

structure MarkD where
  host : Int
  file : Int
  off : Int
def MarkD.cells (x : MarkD) : List Value := [.int .i64 x.host, .int .i64 x.file, .int .i64 x.off]
theorem MarkD.cells_len (x : MarkD) : x.cells.length = 3 := rfl
theorem MarkD.one (x : MarkD) : ∀ u ∈ x.cells, u.oneCell' = true := by simp [MarkD.cells, Value.oneCell']
structure SegD where
  id : Int
  level : Int
  tier : Int
  count : Int
  min : Int
  max : Int
  size : Int
def SegD.cells (x : SegD) : List Value := [.int .i64 x.id, .int .i64 x.level, .int .i64 x.tier, .int .i64 x.count, .int .i64 x.min, .int .i64 x.max, .int .i64 x.size]
theorem SegD.cells_len (x : SegD) : x.cells.length = 7 := rfl
theorem SegD.one (x : SegD) : ∀ u ∈ x.cells, u.oneCell' = true := by simp [SegD.cells, Value.oneCell']
theorem segInfo : (Tryz.prog.info? 54).map (fun i => (i.zero, i.size, i.bytes)) = some (some (.agg #[.int .i64 0, .int .i64 0, .int .i64 0, .int .i64 0, .int .i64 0, .int .i64 0, .int .i64 0]), 7, 56) := by kernel_rfl
def Mlt (a b : MarkD) : Prop := a.host < b.host ∨ (a.host = b.host ∧ a.file < b.file)
/-- marks drawn so far: all ahead of (host, file) -/
def MarksOk (ms : List MarkD) (host file : Int) : Prop := ms.Pairwise Mlt ∧ ∀ x ∈ ms, (x.host < host ∨ (x.host = host ∧ x.file < file)) ∧ 1 ≤ x.host ∧ 0 ≤ x.file ∧ 0 ≤ x.off
theorem MarksOk.turn {ms : List MarkD} {h f h' f' : Int} (k : MarksOk ms h f) (hl : h < h' ∨ (h = h' ∧ f ≤ f')) : MarksOk ms h' f' := ⟨k.1, fun x hx => by
  obtain ⟨a, b⟩ := k.2 x hx
  exact ⟨by omega, b⟩⟩
end Go.Proofs.YtganfhmjklcchaaGreat

namespace Go.Proofs.YtganfhmjklcchaaGreat
open Go.RowKit
set_option linter.unusedVariables false
set_option linter.unusedSimpArgs false

/-- the head of a round -/
def IR (w : World) (g : Nat) (l : List Int) (rb ib : Nat) (h f : Int) (N : Nat) (v : Value) (ms : List MarkD) (wr : World) : Prop :=
  Blk wr rb 29 #[.slice none 0 0, .slice none 0 0] ∧ Blk wr ib 29 #[v, .slice none 0 0] ∧ wr.ownsRow w.heap.size 131 3 v ms.length (ms.flatMap MarkD.cells) ∧ MarksOk ms h f ∧ ms.length ≤ N ∧ (∃ k, CodesAt wr g l k) ∧ w.grownBy wr (some g)
theorem IR.next {w wr w2 : World} {g : Nat} {l : List Int} {rb ib : Nat} {h f : Int} {N : Nat} {v : Value} {ms : List MarkD} {k : Nat} (hI : IR w g l rb ib h f N v ms wr) (hc : CodesAt w2 g l k) (hg : wr.grownBy w2 (some g)) (hlt : g < w.heap.size) (h1 : g < rb) (h2 : g < ib) : IR w g l rb ib h f N v ms w2 :=
  ⟨hI.1.grown hg (by intro e; injection e; omega), hI.2.1.grown hg (by intro e; injection e; omega), own_only hI.2.2.1 hg hlt, hI.2.2.2.1, hI.2.2.2.2.1, ⟨k, hc⟩, only_trans hI.2.2.2.2.2.2 hg⟩
theorem IR.turn {w wr : World} {g : Nat} {l : List Int} {rb ib : Nat} {h f h' f' : Int} {N N' : Nat} {v : Value} {ms : List MarkD} (hI : IR w g l rb ib h f N v ms wr) (hN : N ≤ N') (hl : h < h' ∨ (h = h' ∧ f ≤ f')) : IR w g l rb ib h' f' N' v ms wr :=
  ⟨hI.1, hI.2.1, hI.2.2.1, hI.2.2.2.1.turn hl, Nat.le_trans hI.2.2.2.2.1 hN, hI.2.2.2.2.2⟩
end Go.Proofs.YtganfhmjklcchaaGreat

namespace Go.Proofs.YtganfhmjklcchaaGreat
open Go.RowKit
set_option linter.unusedVariables false
set_option linter.unusedSimpArgs false

def SegOk (s : SegD) : Prop := 0 ≤ s.id ∧ 0 ≤ s.level ∧ s.level ≤ 2 ∧ 0 ≤ s.tier ∧ s.tier ≤ 2 ∧ 0 ≤ s.count ∧ s.count ≤ 8 ∧ 0 ≤ s.min ∧ s.min ≤ s.max ∧ s.max ≤ 253402300800010 ∧ 0 ≤ s.size ∧ s.size ≤ 255
def SegsOk (ss : List SegD) (nid : Int) : Prop := (ss.Pairwise fun a b => a.id < b.id) ∧ ∀ s ∈ ss, SegOk s ∧ s.id < nid
theorem SegsOk.turn {ss : List SegD} {n m : Int} (h : SegsOk ss n) (hn : n ≤ m) : SegsOk ss m := ⟨h.1, fun s hs => ⟨(h.2 s hs).1, by have := (h.2 s hs).2; omega⟩⟩
def zeroMani : Array Value := #[.int .i64 0, .int .i64 0, .int .i64 0, .slice none 0 0, .slice none 0 0, .slice none 0 0, .slice none 0 0]
/-- a manifest that grows -/
def MR (w : World) (g : Nat) (l : List Int) (rb mb : Nat) (num jn nid : Int) (vs : Value) (ss : List SegD) (wr : World) : Prop :=
  Blk wr rb 31 zeroMani ∧ Blk wr mb 31 #[.int .i64 num, .int .i64 nid, .int .i64 jn, vs, .slice none 0 0, .slice none 0 0, .slice none 0 0] ∧ wr.ownsRow w.heap.size 54 7 vs ss.length (ss.flatMap SegD.cells) ∧ SegsOk ss nid ∧ (∃ k, CodesAt wr g l k) ∧ w.grownBy wr (some g)
theorem MR.next {w wr w2 : World} {g : Nat} {l : List Int} {rb mb : Nat} {num jn nid : Int} {vs : Value} {ss : List SegD} {k : Nat} (h : MR w g l rb mb num jn nid vs ss wr) (hc : CodesAt w2 g l k) (hg : wr.grownBy w2 (some g)) (hlt : g < w.heap.size) (h1 : g < rb) (h2 : g < mb) : MR w g l rb mb num jn nid vs ss w2 :=
  ⟨h.1.grown hg (by intro e; injection e; omega), h.2.1.grown hg (by intro e; injection e; omega), own_only h.2.2.1 hg hlt, h.2.2.2.1, ⟨k, hc⟩, only_trans h.2.2.2.2.2 hg⟩
/-- the next identifier is turned -/
theorem MR.nid {w wr : World} {g : Nat} {l : List Int} {rb mb : Nat} {num jn nid nid' : Int} {vs : Value} {ss : List SegD} (h : MR w g l rb mb num jn nid vs ss wr) (hn : nid ≤ nid') (hlt : g < mb) (hm : w.heap.size ≤ mb) (hr : rb ≠ mb) : MR w g l rb mb num jn nid' vs ss (wr.setCell ⟨mb, 1, none⟩ (.int .i64 nid')) := by
  obtain ⟨h1, h2, h3, h4, ⟨k, h5⟩, h6⟩ := h
  have hs := only_setCell (only_refl wr (some mb)) (p := ⟨mb, 1, none⟩) (.inl rfl) (.int .i64 nid')
  exact ⟨h1.grown hs (by intro e; injection e; exact hr (by assumption)), by simpa using h2.set_ 1 (.int .i64 nid'), own_off h3 hs (blk_norow h2 h3 (by decide)), h4.turn hn, ⟨k, h5.grown hs (fun b hb e => by injection e; omega)⟩, only_fresh h6 hs hm⟩
end Go.Proofs.YtganfhmjklcchaaGreat

namespace Go.Proofs.YtganfhmjklcchaaGreat
open Go.RowKit
set_option linter.unusedVariables false
set_option linter.unusedSimpArgs false

/-- the number of the first entry with an identifier, or -1 -/
def segI (ss : List SegD) (id : Int) : Int := if ss.findIdx (fun s => s.id == id) < ss.length then (ss.findIdx (fun s => s.id == id) : Int) else -1
theorem segI_at {ss : List SegD} {id : Int} {k : Nat} {s : SegD} (hs : ss[k]? = some s) (h : s.id = id) (hno : ∀ j t, j < k → ss[j]? = some t → t.id ≠ id) : segI ss id = k := by
  obtain ⟨hk, e⟩ := List.getElem?_eq_some_iff.1 hs
  have : ss.findIdx (fun s => s.id == id) = k := by
    rw [List.findIdx_eq hk]
    refine ⟨by rw [e]; simp [h], fun j hj => ?_⟩
    have := hno j ss[j] hj (List.getElem?_eq_getElem _)
    simpa using this
  unfold segI
  rw [this, if_pos hk]
theorem segI_no {ss : List SegD} {id : Int} (hno : ∀ j t, j < ss.length → ss[j]? = some t → t.id ≠ id) : segI ss id = -1 := by
  have : ss.findIdx (fun s => s.id == id) = ss.length := by
    rw [List.findIdx_eq_length]
    intro x hx
    obtain ⟨j, hj⟩ := List.getElem?_of_mem hx
    have := hno j x (List.getElem?_eq_some_iff.1 hj).1 hj
    simpa using this
  unfold segI
  rw [this, if_neg (by omega)]
/-- the entry with an identifier -/
def segF (ss : List SegD) (id : Int) : Option SegD := ss.find? (fun s => s.id == id)
theorem segI_find {ss : List SegD} {id : Int} : (segI ss id = -1 ∧ segF ss id = none) ∨ ∃ (k : Nat) (s : SegD), segI ss id = k ∧ ss[k]? = some s ∧ segF ss id = some s := by
  cases h : segF ss id with
  | none =>
    left
    refine ⟨segI_no fun j t hj ht => ?_, rfl⟩
    have := List.find?_eq_none.1 h t (List.mem_of_getElem? ht)
    simpa using this
  | some s =>
    right
    obtain ⟨hp, k, hk, e, hno⟩ := List.find?_eq_some_iff_getElem.1 h
    have hks : ss[k]? = some s := by rw [← e]; exact List.getElem?_eq_getElem hk
    refine ⟨k, s, segI_at hks (by simpa using hp) fun j t hj ht => ?_, hks, rfl⟩
    obtain ⟨hj2, e2⟩ := List.getElem?_eq_some_iff.1 ht
    have := hno j hj
    rw [e2] at this
    simpa using this
set_option maxHeartbeats 1000000 in
theorem rsindex_any {S : Nat → Prop} (A : Option Addr) (ss : List SegD) (c : Nat) (id : Int) (w : World) (h : Rd S w A (ss.flatMap SegD.cells)) (hl : ss.length ≤ 100000) :
    Calls Tryz.prog 55 #[.slice A ss.length c, .int .i64 id] w (fun e w' => e = .returned (.int .i64 (segI ss id)) ∧ w = w') := by
  have H := Lib.hid h
  clear h
  go_enter Tryz.func55, Tryz.ntmps55
  go_wp2
  go_loop [5] (fun i => ∃ k : Nat, k ≤ ss.length ∧ i = .int .i64 k ∧ ∀ j t, j < k → ss[j]? = some t → t.id ≠ id) (fun i => ss.length - (intOf i).toNat)
  case atStart => exact ⟨0, Nat.zero_le _, rfl, fun j t hj => by omega⟩
  case round =>
    obtain ⟨k, hk, rfl, hno⟩ := hrel
    have NO := Lib.hid hno
    clear hno
    by_cases hlt : k < ss.length
    · obtain ⟨b, o, rfl, -, -, -⟩ := H.out (by rw [flat_len _ 7 SegD.cells_len]; omega)
      obtain ⟨s, hs⟩ : ∃ s, ss[k]? = some s := ⟨_, List.getElem?_eq_getElem hlt⟩
      have c0 : w.cell? ⟨b, o + k * 7, none⟩ = some (.int .i64 s.id) := H.out.flatAt SegD.cells_len hs 0 (by omega)
      have HS := Lib.hid hs
      have i1 : (k : Int) < (ss.length : Int) := by omega
      have i2 : (0 : Int) ≤ (k : Int) := by omega
      clear hs
      by_cases he : s.id = id
      · have e1 : (s.id == id) = true := by simp [he]
        have HE := Lib.hid he
        clear he
        go_wp2
        go_ret
        exact ⟨ret_int (segI_at HS.out HE.out NO.out).symm, rfl⟩
      · have e1 : (s.id == id) = false := by simp [he]
        have HE := Lib.hid he
        clear he
        go_wp2
        go_round
        case rel =>
          refine ⟨k + 1, by omega, by go_num, fun j t hj ht => ?_⟩
          by_cases e : j = k
          · subst e
            rw [HS.out] at ht; injection ht with ht; rw [← ht]; exact HE.out
          · exact NO.out j t (by omega) ht
        case measure => simp [intOf]; omega
    · have i1 : ¬ ((k : Int) < (ss.length : Int)) := by omega
      have hkk : k = ss.length := by omega
      have HK := Lib.hid hkk
      clear hkk
      go_wp2
      go_ret
      exact ⟨ret_int (segI_no (fun j t hj => NO.out j t (by have := HK.out; omega))).symm, rfl⟩
/-- what Find gives -/
def FindPost (w : World) (ss : List SegD) (id : Int) (e : Ending) (w' : World) : Prop :=
  w.grownBy w' none ∧ ((segF ss id = none ∧ e = .returned (.tuple #[.agg #[.int .i64 0, .int .i64 0, .int .i64 0, .int .i64 0, .int .i64 0, .int .i64 0, .int .i64 0], .bool false])) ∨ ∃ s, segF ss id = some s ∧ e = .returned (.tuple #[.agg s.cells.toArray, .bool true]))
set_option maxHeartbeats 2000000 in
set_option maxRecDepth 100000 in
theorem rfind_any {S : Nat → Prop} (num nid jn : Int) (A : Option Addr) (ss : List SegD) (c : Nat) (B : Option Addr) (nb d : Nat) (C : Option Addr) (nc f : Nat) (E : Option Addr) (ne h : Nat) (id : Int) (w : World) (hr : Rd S w A (ss.flatMap SegD.cells)) (hl : ss.length ≤ 100000) :
    Calls Tryz.prog 31 #[.agg #[.int .i64 num, .int .i64 nid, .int .i64 jn, .slice A ss.length c, .slice B nb d, .slice C nc f, .slice E ne h], .int .i64 id] w (FindPost w ss id) := by
  obtain ⟨W1, hW1⟩ : ∃ W1, W1 = (w.alloc (.cells #[.int .i64 num, .int .i64 nid, .int .i64 jn, .slice A ss.length c, .slice B nb d, .slice C nc f, .slice E ne h] 31)).alloc (.cells #[.int .i64 0, .int .i64 0, .int .i64 0, .int .i64 0, .int .i64 0, .int .i64 0, .int .i64 0] 54) := ⟨_, rfl⟩
  have G1 : Hid (w.grownBy W1 none) := Lib.hid (by rw [hW1]; exact only_alloc (only_alloc (only_refl _ _) _) _)
  have H1 := Lib.hid (hr.grown G1.out (by simp))
  have KI : Hid (Calls Tryz.prog 55 #[.slice A ss.length c, .int .i64 id] W1 (fun e w' => e = .returned (.int .i64 (segI ss id)) ∧ W1 = w')) := Lib.hid (rsindex_any A ss c id W1 H1.out hl)
  obtain ⟨mb, hmb⟩ : ∃ b, b = w.heap.size := ⟨_, rfl⟩
  obtain ⟨rb, hrb⟩ : ∃ b, b = w.heap.size + 1 := ⟨_, rfl⟩
  have B1 : Hid (Blk W1 mb 31 #[.int .i64 num, .int .i64 nid, .int .i64 jn, .slice A ss.length c, .slice B nb d, .slice C nc f, .slice E ne h]) := Lib.hid (by rw [hW1, hmb]; exact (Blk.new w _ _).alloc _)
  have B2 : Hid (Blk W1 rb 54 #[.int .i64 0, .int .i64 0, .int .i64 0, .int .i64 0, .int .i64 0, .int .i64 0, .int .i64 0]) := Lib.hid (by rw [hW1, hrb]; have := Blk.new (w.alloc (.cells #[.int .i64 num, .int .i64 nid, .int .i64 jn, .slice A ss.length c, .slice B nb d, .slice C nc f, .slice E ne h] 31)) 54 #[.int .i64 0, .int .i64 0, .int .i64 0, .int .i64 0, .int .i64 0, .int .i64 0, .int .i64 0]; simpa using this)
  have HW := Lib.hid hW1.symm
  have HMB := Lib.hid hmb
  have HRB := Lib.hid hrb
  have hmr : mb ≠ rb := by omega
  clear hW1 hr hmb hrb
  have c3 := B1.out.cell 3
  simp at c3
  go_enter Tryz.func31, Tryz.ntmps31
  go_upto_region 1 with fail
  rw [HW.out, ← HRB.out, ← HMB.out]
  clear HW
  have q0 := B2.out.cell 0
  have q1 := B2.out.cell 1
  have q2 := B2.out.cell 2
  have q3 := B2.out.cell 3
  have q4 := B2.out.cell 4
  have q5 := B2.out.cell 5
  have q6 := B2.out.cell 6
  have p0 := B2.out.frozen 0
  have p1 := B2.out.frozen 1
  have p2 := B2.out.frozen 2
  have p3 := B2.out.frozen 3
  have p4 := B2.out.frozen 4
  have p5 := B2.out.frozen 5
  have p6 := B2.out.frozen 6
  simp at q0 q1 q2 q3 q4 q5 q6
  have hgs : ∀ (W : World), W1.grownBy W (some rb) → w.grownBy W none := fun W hW => only_fresh G1.out hW (by have := HRB.out; omega)
  have HGS := Lib.hid hgs
  clear hgs
  rcases segI_find (ss := ss) (id := id) with ⟨hI, hF⟩ | ⟨k, s, hI, hk, hF⟩
  · rw [hI] at KI
    have HF := Lib.hid hF
    clear hI hF
    go_wp2_with fail
    refine KI.out.mono ?_
    rintro e w2 ⟨rfl, rfl⟩
    go_wp2_with fail
    exact bodyPost_ret (v := .tuple #[.agg #[.int .i64 0, .int .i64 0, .int .i64 0, .int .i64 0, .int .i64 0, .int .i64 0, .int .i64 0], .bool false]) (by simp [results, Tryz.results31, go_sem, q0, q1, q2, q3, q4, q5, q6]) rfl ⟨HGS.out _ (only_setCell (only_setCell (only_setCell (only_setCell (only_setCell (only_setCell (only_setCell (only_refl W1 (some rb)) (p := ⟨rb, 0, none⟩) (.inl rfl) (.int .i64 0)) (p := ⟨rb, 1, none⟩) (.inl rfl) (.int .i64 0)) (p := ⟨rb, 2, none⟩) (.inl rfl) (.int .i64 0)) (p := ⟨rb, 3, none⟩) (.inl rfl) (.int .i64 0)) (p := ⟨rb, 4, none⟩) (.inl rfl) (.int .i64 0)) (p := ⟨rb, 5, none⟩) (.inl rfl) (.int .i64 0)) (p := ⟨rb, 6, none⟩) (.inl rfl) (.int .i64 0)), .inl ⟨HF.out, rfl⟩⟩
  · rw [hI] at KI
    have HF := Lib.hid hF
    obtain ⟨hkl, -⟩ := List.getElem?_eq_some_iff.1 hk
    obtain ⟨b, o, rfl, -, -, -⟩ := H1.out (by rw [flat_len _ 7 SegD.cells_len]; omega)
    have d0 : W1.cell? ⟨b, o + k * 7, none⟩ = some (.int .i64 s.id) := H1.out.flatAt SegD.cells_len hk 0 (by omega)
    have d1 : W1.cell? ⟨b, o + k * 7 + 1, none⟩ = some (.int .i64 s.level) := H1.out.flatAt SegD.cells_len hk 1 (by omega)
    have d2 : W1.cell? ⟨b, o + k * 7 + 2, none⟩ = some (.int .i64 s.tier) := H1.out.flatAt SegD.cells_len hk 2 (by omega)
    have d3 : W1.cell? ⟨b, o + k * 7 + 3, none⟩ = some (.int .i64 s.count) := H1.out.flatAt SegD.cells_len hk 3 (by omega)
    have d4 : W1.cell? ⟨b, o + k * 7 + 4, none⟩ = some (.int .i64 s.min) := H1.out.flatAt SegD.cells_len hk 4 (by omega)
    have d5 : W1.cell? ⟨b, o + k * 7 + 5, none⟩ = some (.int .i64 s.max) := H1.out.flatAt SegD.cells_len hk 5 (by omega)
    have d6 : W1.cell? ⟨b, o + k * 7 + 6, none⟩ = some (.int .i64 s.size) := H1.out.flatAt SegD.cells_len hk 6 (by omega)
    have i1 : (k : Int) < (ss.length : Int) := by omega
    have i2 : (0 : Int) ≤ (k : Int) := by omega
    clear hI hF hk
    go_wp2_with fail
    refine KI.out.mono ?_
    rintro e w2 ⟨rfl, rfl⟩
    go_wp2_with fail
    exact bodyPost_ret (v := .tuple #[.agg #[.int .i64 s.id, .int .i64 s.level, .int .i64 s.tier, .int .i64 s.count, .int .i64 s.min, .int .i64 s.max, .int .i64 s.size], .bool true]) (by simp [results, Tryz.results31, go_sem, q0, q1, q2, q3, q4, q5, q6]) rfl ⟨HGS.out _ (only_setCell (only_setCell (only_setCell (only_setCell (only_setCell (only_setCell (only_setCell (only_refl W1 (some rb)) (p := ⟨rb, 0, none⟩) (.inl rfl) (.int .i64 s.id)) (p := ⟨rb, 1, none⟩) (.inl rfl) (.int .i64 s.level)) (p := ⟨rb, 2, none⟩) (.inl rfl) (.int .i64 s.tier)) (p := ⟨rb, 3, none⟩) (.inl rfl) (.int .i64 s.count)) (p := ⟨rb, 4, none⟩) (.inl rfl) (.int .i64 s.min)) (p := ⟨rb, 5, none⟩) (.inl rfl) (.int .i64 s.max)) (p := ⟨rb, 6, none⟩) (.inl rfl) (.int .i64 s.size)), .inr ⟨s, HF.out, rfl⟩⟩
end Go.Proofs.YtganfhmjklcchaaGreat

namespace Go.Proofs.YtganfhmjklcchaaGreat
open Go.RowKit
set_option linter.unusedVariables false
set_option linter.unusedSimpArgs false

def BoolExtB (b : Bool) (w : World) (e : Ending) (w' : World) : Prop := e = .returned (.bool b) ∧ w.grownBy w' none
set_option maxHeartbeats 1000000 in
theorem idx1_any (s : SegD) (id : Int) (ib : Nat) (w : World) (hc : w.cell? ⟨ib, 0, none⟩ = some (.int .i64 id)) (hlt : ib < w.heap.size) :
    Calls Tryz.prog 82 #[.agg s.cells.toArray, .pointer (some ⟨ib, 0, none⟩)] w (BoolExtB (s.id == id) w) := by
  have hne : ib ≠ w.heap.size := by omega
  simp only [SegD.cells]
  go_enter Tryz.func82, Tryz.ntmps82
  go_wp2_with fail
  go_ret
  exact ⟨rfl, only_alloc (only_refl _ _) _⟩
def SIdxPost (v : Int) (w : World) (e : Ending) (w' : World) : Prop := e = .returned (.int .i64 v) ∧ w.grownBy w' none
set_option maxHeartbeats 2000000 in
set_option maxRecDepth 100000 in
theorem indexfunc_any {S : Nat → Prop} (A : Option Addr) (ss : List SegD) (c : Nat) (id : Int) (ib : Nat) (w : World) (h : Rd S w A (ss.flatMap SegD.cells)) (hl : ss.length ≤ 100000) (hc : w.cell? ⟨ib, 0, none⟩ = some (.int .i64 id)) (hlt : ib < w.heap.size) :
    Calls Tryz.prog 81 #[.slice A ss.length c, .func (Fn.func 82) #[] #[.pointer (some ⟨ib, 0, none⟩)]] w (SIdxPost (segI ss id) w) := by
  have H := Lib.hid h
  have HC := Lib.hid hc
  clear h hc
  go_enter Tryz.func81, Tryz.ntmps81
  go_wp2_with fail
  go_loopw [8] (fun vi wr => ∃ k : Nat, vi = .int .i64 k ∧ k ≤ ss.length ∧ (∀ j t, j < k → ss[j]? = some t → t.id ≠ id) ∧ w.grownBy wr none) (fun vi _ => ss.length - (intOf vi).toNat)
  case atStart => exact ⟨0, rfl, Nat.zero_le _, fun j t hj => by omega, only_refl _ _⟩
  case round =>
    obtain ⟨k, rfl, hk, hno, hG⟩ := hrel
    have NO := Lib.hid hno
    have G := Lib.hid hG
    have hszr := hG.size
    clear hno hG
    by_cases hkl : k < ss.length
    · obtain ⟨b, o, rfl, -, -, -⟩ := H.out (by rw [flat_len _ 7 SegD.cells_len]; omega)
      obtain ⟨s, hs⟩ : ∃ s, ss[k]? = some s := ⟨_, List.getElem?_eq_getElem hkl⟩
      have hr := H.out.grown G.out (by simp)
      have d0 : wr.cell? ⟨b, o + k * 7, none⟩ = some (.int .i64 s.id) := hr.flatAt SegD.cells_len hs 0 (by omega)
      have d1 : wr.cell? ⟨b, o + k * 7 + 1, none⟩ = some (.int .i64 s.level) := hr.flatAt SegD.cells_len hs 1 (by omega)
      have d2 : wr.cell? ⟨b, o + k * 7 + 2, none⟩ = some (.int .i64 s.tier) := hr.flatAt SegD.cells_len hs 2 (by omega)
      have d3 : wr.cell? ⟨b, o + k * 7 + 3, none⟩ = some (.int .i64 s.count) := hr.flatAt SegD.cells_len hs 3 (by omega)
      have d4 : wr.cell? ⟨b, o + k * 7 + 4, none⟩ = some (.int .i64 s.min) := hr.flatAt SegD.cells_len hs 4 (by omega)
      have d5 : wr.cell? ⟨b, o + k * 7 + 5, none⟩ = some (.int .i64 s.max) := hr.flatAt SegD.cells_len hs 5 (by omega)
      have d6 : wr.cell? ⟨b, o + k * 7 + 6, none⟩ = some (.int .i64 s.size) := hr.flatAt SegD.cells_len hs 6 (by omega)
      have KC : Hid (Calls Tryz.prog 82 #[.agg s.cells.toArray, .pointer (some ⟨ib, 0, none⟩)] wr (BoolExtB (s.id == id) wr)) := Lib.hid (idx1_any s id ib wr ((World.cell?_of_block (a := ⟨ib, 0, none⟩) (G.out.block ib hlt (by simp))).trans HC.out) (by omega))
      have HS := Lib.hid hs
      have i1 : (k : Int) < (ss.length : Int) := by omega
      have i2 : (0 : Int) ≤ (k : Int) := by omega
      obtain ⟨B, hB⟩ : ∃ B : Bool, B = (s.id == id) := ⟨_, rfl⟩
      rw [← hB] at KC
      have HB := Lib.hid hB
      clear hs hr hB
      cases B with
      | true =>
        go_wp2_with fail
        refine KC.out.mono ?_
        rintro e w2 ⟨rfl, hg2⟩
        clear d0 d1 d2 d3 d4 d5 d6
        go_wp2_with fail
        go_ret
        exact ⟨ret_int (segI_at HS.out (by simpa using HB.out.symm) NO.out).symm, only_trans G.out hg2⟩
      | false =>
        go_wp2_with fail
        refine KC.out.mono ?_
        rintro e w2 ⟨rfl, hg2⟩
        have G2 : Hid (w.grownBy w2 none) := Lib.hid (only_trans G.out hg2)
        clear d0 d1 d2 d3 d4 d5 d6 hg2
        go_wp2_with fail
        go_roundw
        case rel =>
          refine ⟨k + 1, by go_num, by omega, fun j t hj ht => ?_, G2.out⟩
          by_cases e : j = k
          · subst e
            rw [HS.out] at ht; injection ht with ht; rw [← ht]
            have := HB.out
            simpa using this.symm
          · exact NO.out j t (by omega) ht
        case measure => simp [intOf]; omega
    · have i1 : ¬ ((k : Int) < (ss.length : Int)) := by omega
      have HK : Hid (k = ss.length) := Lib.hid (by omega)
      clear hkl
      go_wp2_with fail
      go_ret
      exact ⟨ret_int (segI_no (fun j t hj => NO.out j t (by have := HK.out; omega))).symm, G.out⟩
def MIdxPost (ss : List SegD) (id : Int) (w : World) (e : Ending) (w' : World) : Prop := e = .returned (.tuple #[.int .i64 (segI ss id), .bool (decide (0 ≤ segI ss id))]) ∧ w.grownBy w' none
set_option maxHeartbeats 2000000 in
set_option maxRecDepth 100000 in
theorem mindex_any {S : Nat → Prop} (num nid jn : Int) (A : Option Addr) (ss : List SegD) (c : Nat) (B : Option Addr) (nb d : Nat) (C : Option Addr) (nc f : Nat) (E : Option Addr) (ne h : Nat) (id : Int) (w : World) (hr : Rd S w A (ss.flatMap SegD.cells)) (hl : ss.length ≤ 100000) :
    Calls Tryz.prog 54 #[.agg #[.int .i64 num, .int .i64 nid, .int .i64 jn, .slice A ss.length c, .slice B nb d, .slice C nc f, .slice E ne h], .int .i64 id] w (MIdxPost ss id w) := by
  obtain ⟨W1, hW1⟩ : ∃ W1, W1 = (w.alloc (.cells #[.int .i64 num, .int .i64 nid, .int .i64 jn, .slice A ss.length c, .slice B nb d, .slice C nc f, .slice E ne h] 31)).alloc (.cells #[.int .i64 id] 3) := ⟨_, rfl⟩
  have G1 : Hid (w.grownBy W1 none) := Lib.hid (by rw [hW1]; exact only_alloc (only_alloc (only_refl _ _) _) _)
  have B2 : Hid (Blk W1 (w.heap.size + 1) 3 #[.int .i64 id]) := Lib.hid (by rw [hW1]; have := Blk.new (w.alloc (.cells #[.int .i64 num, .int .i64 nid, .int .i64 jn, .slice A ss.length c, .slice B nb d, .slice C nc f, .slice E ne h] 31)) 3 #[.int .i64 id]; simpa using this)
  have KI : Hid (Calls Tryz.prog 81 #[.slice A ss.length c, .func (Fn.func 82) #[] #[.pointer (some ⟨w.heap.size + 1, 0, none⟩)]] W1 (SIdxPost (segI ss id) W1)) := Lib.hid (indexfunc_any A ss c id (w.heap.size + 1) W1 (hr.grown G1.out (by simp)) hl (by have := B2.out.cell 0; simpa using this) B2.out.lt)
  have HW := Lib.hid hW1.symm
  clear hW1 hr
  have hv : -1 ≤ segI ss id := by unfold segI; split <;> omega
  obtain ⟨v, hI⟩ : ∃ v, segI ss id = v := ⟨_, rfl⟩
  rw [hI] at hv KI
  have HI := Lib.hid hI
  clear hI
  go_enter Tryz.func54, Tryz.ntmps54
  go_wp2_with fail
  rw [HW.out]
  refine KI.out.mono ?_
  rintro e w2 ⟨rfl, hg2⟩
  have G2 : Hid (w.grownBy w2 none) := Lib.hid (only_trans G1.out hg2)
  clear hg2 KI B2 HW
  go_wp2_with fail
  go_ret2
  exact ⟨by rw [HI.out]; rfl, G2.out⟩
set_option maxHeartbeats 2000000 in
set_option maxRecDepth 100000 in
theorem mfind_any {S : Nat → Prop} (num nid jn : Int) (A : Option Addr) (ss : List SegD) (c : Nat) (B : Option Addr) (nb d : Nat) (C : Option Addr) (nc f : Nat) (E : Option Addr) (ne h : Nat) (id : Int) (w : World) (hr : Rd S w A (ss.flatMap SegD.cells)) (hl : ss.length ≤ 100000) :
    Calls Tryz.prog 30 #[.agg #[.int .i64 num, .int .i64 nid, .int .i64 jn, .slice A ss.length c, .slice B nb d, .slice C nc f, .slice E ne h], .int .i64 id] w (FindPost w ss id) := by
  obtain ⟨W1, hW1⟩ : ∃ W1, W1 = (w.alloc (.cells #[.int .i64 num, .int .i64 nid, .int .i64 jn, .slice A ss.length c, .slice B nb d, .slice C nc f, .slice E ne h] 31)).alloc (.cells #[.int .i64 0, .int .i64 0, .int .i64 0, .int .i64 0, .int .i64 0, .int .i64 0, .int .i64 0] 54) := ⟨_, rfl⟩
  have G1 : Hid (w.grownBy W1 none) := Lib.hid (by rw [hW1]; exact only_alloc (only_alloc (only_refl _ _) _) _)
  have H1 := Lib.hid (hr.grown G1.out (by simp))
  have KI : Hid (Calls Tryz.prog 54 #[.agg #[.int .i64 num, .int .i64 nid, .int .i64 jn, .slice A ss.length c, .slice B nb d, .slice C nc f, .slice E ne h], .int .i64 id] W1 (MIdxPost ss id W1)) := Lib.hid (mindex_any num nid jn A ss c B nb d C nc f E ne h id W1 H1.out hl)
  obtain ⟨mb, hmb⟩ : ∃ b, b = w.heap.size := ⟨_, rfl⟩
  obtain ⟨rb, hrb⟩ : ∃ b, b = w.heap.size + 1 := ⟨_, rfl⟩
  have B1 : Hid (Blk W1 mb 31 #[.int .i64 num, .int .i64 nid, .int .i64 jn, .slice A ss.length c, .slice B nb d, .slice C nc f, .slice E ne h]) := Lib.hid (by rw [hW1, hmb]; exact (Blk.new w _ _).alloc _)
  have B2 : Hid (Blk W1 rb 54 #[.int .i64 0, .int .i64 0, .int .i64 0, .int .i64 0, .int .i64 0, .int .i64 0, .int .i64 0]) := Lib.hid (by rw [hW1, hrb]; have := Blk.new (w.alloc (.cells #[.int .i64 num, .int .i64 nid, .int .i64 jn, .slice A ss.length c, .slice B nb d, .slice C nc f, .slice E ne h] 31)) 54 #[.int .i64 0, .int .i64 0, .int .i64 0, .int .i64 0, .int .i64 0, .int .i64 0, .int .i64 0]; simpa using this)
  have HW := Lib.hid hW1.symm
  have HMB := Lib.hid hmb
  have HRB := Lib.hid hrb
  have hmr : mb ≠ rb := by omega
  clear hW1 hr hmb hrb
  have b0 := B1.out.cell 0
  have b1 := B1.out.cell 1
  have b2 := B1.out.cell 2
  have b3 := B1.out.cell 3
  have b4 := B1.out.cell 4
  have b5 := B1.out.cell 5
  have b6 := B1.out.cell 6
  simp at b0 b1 b2 b3 b4 b5 b6
  go_enter Tryz.func30, Tryz.ntmps30
  go_upto_region 1 with fail
  rw [HW.out, ← HRB.out, ← HMB.out]
  clear HW
  go_wp2_with fail
  refine KI.out.mono ?_
  clear b0 b1 b2 b3 b4 b5 b6
  rcases segI_find (ss := ss) (id := id) with ⟨hI, hF⟩ | ⟨k, s, hI, hk, hF⟩
  · rintro e w2 ⟨he, hg2⟩
    rw [hI] at he
    obtain rfl : e = .returned (.tuple #[.int .i64 (-1), .bool false]) := he
    have HF := Lib.hid hF
    clear hI hF
    have B1' := B1.out.grown hg2 (by simp)
    have B2' := B2.out.grown hg2 (by simp)
    have hgs : ∀ (W : World), w2.grownBy W (some rb) → w.grownBy W none := fun W hW => only_fresh (only_trans G1.out hg2) hW (by have := HRB.out; omega)
    have HGS := Lib.hid hgs
    have q0 := B2'.cell 0
    have p0 := B2'.frozen 0
    have q1 := B2'.cell 1
    have p1 := B2'.frozen 1
    have q2 := B2'.cell 2
    have p2 := B2'.frozen 2
    have q3 := B2'.cell 3
    have p3 := B2'.frozen 3
    have q4 := B2'.cell 4
    have p4 := B2'.frozen 4
    have q5 := B2'.cell 5
    have p5 := B2'.frozen 5
    have q6 := B2'.cell 6
    have p6 := B2'.frozen 6
    simp at q0 q1 q2 q3 q4 q5 q6
    have c3 := B1'.cell 3
    simp at c3
    clear hgs B1' B2' hg2
    go_wp2_with fail
    exact bodyPost_ret (v := .tuple #[.agg #[.int .i64 0, .int .i64 0, .int .i64 0, .int .i64 0, .int .i64 0, .int .i64 0, .int .i64 0], .bool false]) (by simp [results, Tryz.results30, go_sem, q0, q1, q2, q3, q4, q5, q6]) rfl ⟨HGS.out _ (only_setCell (only_setCell (only_setCell (only_setCell (only_setCell (only_setCell (only_setCell (only_refl w2 (some rb)) (p := ⟨rb, 0, none⟩) (.inl rfl) (.int .i64 0)) (p := ⟨rb, 1, none⟩) (.inl rfl) (.int .i64 0)) (p := ⟨rb, 2, none⟩) (.inl rfl) (.int .i64 0)) (p := ⟨rb, 3, none⟩) (.inl rfl) (.int .i64 0)) (p := ⟨rb, 4, none⟩) (.inl rfl) (.int .i64 0)) (p := ⟨rb, 5, none⟩) (.inl rfl) (.int .i64 0)) (p := ⟨rb, 6, none⟩) (.inl rfl) (.int .i64 0)), .inl ⟨HF.out, rfl⟩⟩
  · rintro e w2 ⟨he, hg2⟩
    rw [hI] at he
    obtain rfl : e = .returned (.tuple #[.int .i64 k, .bool true]) := by rw [he]; simp
    have HF := Lib.hid hF
    obtain ⟨hkl, -⟩ := List.getElem?_eq_some_iff.1 hk
    obtain ⟨b, o, rfl, -, -, -⟩ := H1.out (by rw [flat_len _ 7 SegD.cells_len]; omega)
    have hr := H1.out.grown hg2 (by simp)
    have d0 : w2.cell? ⟨b, o + k * 7, none⟩ = some (.int .i64 s.id) := hr.flatAt SegD.cells_len hk 0 (by omega)
    have d1 : w2.cell? ⟨b, o + k * 7 + 1, none⟩ = some (.int .i64 s.level) := hr.flatAt SegD.cells_len hk 1 (by omega)
    have d2 : w2.cell? ⟨b, o + k * 7 + 2, none⟩ = some (.int .i64 s.tier) := hr.flatAt SegD.cells_len hk 2 (by omega)
    have d3 : w2.cell? ⟨b, o + k * 7 + 3, none⟩ = some (.int .i64 s.count) := hr.flatAt SegD.cells_len hk 3 (by omega)
    have d4 : w2.cell? ⟨b, o + k * 7 + 4, none⟩ = some (.int .i64 s.min) := hr.flatAt SegD.cells_len hk 4 (by omega)
    have d5 : w2.cell? ⟨b, o + k * 7 + 5, none⟩ = some (.int .i64 s.max) := hr.flatAt SegD.cells_len hk 5 (by omega)
    have d6 : w2.cell? ⟨b, o + k * 7 + 6, none⟩ = some (.int .i64 s.size) := hr.flatAt SegD.cells_len hk 6 (by omega)
    have i1 : (k : Int) < (ss.length : Int) := by omega
    have i2 : (0 : Int) ≤ (k : Int) := by omega
    have B1' := B1.out.grown hg2 (by simp)
    have B2' := B2.out.grown hg2 (by simp)
    have hgs : ∀ (W : World), w2.grownBy W (some rb) → w.grownBy W none := fun W hW => only_fresh (only_trans G1.out hg2) hW (by have := HRB.out; omega)
    have HGS := Lib.hid hgs
    have q0 := B2'.cell 0
    have p0 := B2'.frozen 0
    have q1 := B2'.cell 1
    have p1 := B2'.frozen 1
    have q2 := B2'.cell 2
    have p2 := B2'.frozen 2
    have q3 := B2'.cell 3
    have p3 := B2'.frozen 3
    have q4 := B2'.cell 4
    have p4 := B2'.frozen 4
    have q5 := B2'.cell 5
    have p5 := B2'.frozen 5
    have q6 := B2'.cell 6
    have p6 := B2'.frozen 6
    simp at q0 q1 q2 q3 q4 q5 q6
    have c3 := B1'.cell 3
    simp at c3
    clear hI hF hk he hgs B1' B2' hg2 hr
    go_wp2_with fail
    exact bodyPost_ret (v := .tuple #[.agg #[.int .i64 s.id, .int .i64 s.level, .int .i64 s.tier, .int .i64 s.count, .int .i64 s.min, .int .i64 s.max, .int .i64 s.size], .bool true]) (by simp [results, Tryz.results30, go_sem, q0, q1, q2, q3, q4, q5, q6]) rfl ⟨HGS.out _ (only_setCell (only_setCell (only_setCell (only_setCell (only_setCell (only_setCell (only_setCell (only_refl w2 (some rb)) (p := ⟨rb, 0, none⟩) (.inl rfl) (.int .i64 s.id)) (p := ⟨rb, 1, none⟩) (.inl rfl) (.int .i64 s.level)) (p := ⟨rb, 2, none⟩) (.inl rfl) (.int .i64 s.tier)) (p := ⟨rb, 3, none⟩) (.inl rfl) (.int .i64 s.count)) (p := ⟨rb, 4, none⟩) (.inl rfl) (.int .i64 s.min)) (p := ⟨rb, 5, none⟩) (.inl rfl) (.int .i64 s.max)) (p := ⟨rb, 6, none⟩) (.inl rfl) (.int .i64 s.size)), .inr ⟨s, HF.out, rfl⟩⟩
end Go.Proofs.YtganfhmjklcchaaGreat

namespace Go.Proofs.YtganfhmjklcchaaGreat
open Go.RowKit
set_option linter.unusedVariables false
set_option linter.unusedSimpArgs false

theorem segF_mem {ss : List SegD} {id : Int} {s : SegD} (h : segF ss id = some s) : s ∈ ss := List.mem_of_find?_eq_some h
end Go.Proofs.YtganfhmjklcchaaGreat

namespace Go.Proofs.YtganfhmjklcchaaGreat
open Go.RowKit
set_option linter.unusedVariables false
set_option linter.unusedSimpArgs false

/-- the manifest's variable (block mb), its row of segments, the codes; what has turned since the law began is new -/
def LRow (w0 : World) (g : Nat) (l : List Int) (mb : Nat) (cs : Array Value) (base : Nat) (A : Option Addr) (n c : Nat) (xs : List Value) (W : World) : Prop :=
  Blk W mb 31 cs ∧ W.ownsRow base 54 7 (.slice A n c) n xs ∧ (∃ k, CodesAt W g l k) ∧ w0.grownBy W none
section
variable {w0 W W' : World} {g mb base n c : Nat} {l : List Int} {cs : Array Value} {A : Option Addr} {xs : List Value}
theorem LRow.next (h : LRow w0 g l mb cs base A n c xs W) {k : Nat} (hc : CodesAt W' g l k) (hg : W.grownBy W' (some g)) (h1 : g < base) (h2 : g ≠ mb) (h3 : w0.heap.size ≤ g) : LRow w0 g l mb cs base A n c xs W' :=
  ⟨h.1.grown hg (by intro e; injection e with e; exact h2 e.symm), h.2.1.kept hg (by
    cases hu : (Value.slice A n c).ownBlock with
    | none => exact .inl rfl
    | some j => have := (h.2.1.lt j hu).1; exact .inr (by intro e; injection e with e; omega)), ⟨k, hc⟩, only_fresh h.2.2.2 hg h3⟩
theorem LRow.quiet (h : LRow w0 g l mb cs base A n c xs W) (hg : W.grownBy W' none) : LRow w0 g l mb cs base A n c xs W' :=
  ⟨h.1.grown hg (by simp), h.2.1.kept hg (by cases (Value.slice A n c).ownBlock <;> simp), by obtain ⟨k, hk⟩ := h.2.2.1; exact ⟨k, hk.grown hg (by simp)⟩, only_trans h.2.2.2 hg⟩
theorem LRow.drewN (h : LRow w0 g l mb cs base A n c xs W) (k : Nat) : LRow w0 g l mb cs base A n c xs (W.drewN k) := h.quiet (only_drewN (only_refl _ _) k)
/-- the row's block -/
theorem LRow.row (h : LRow w0 g l mb cs base A n c xs W) (hn : 0 < n) : ∃ gr, A = some ⟨gr, 0, none⟩ ∧ base ≤ gr ∧ gr < W.heap.size ∧ gr ≠ mb := by
  have h0 := blk_norow h.1 h.2.1 (by decide)
  obtain ⟨hl, h2⟩ := h.2.1
  rcases h2 with ⟨e, h2⟩ | ⟨g', cap, cur, e, hb, hh, _⟩
  · omega
  · injection e with e1 e2 e3
    subst e1
    exact ⟨g', rfl, hb, (Array.getElem?_eq_some_iff.1 hh).1, fun e => h0 (by rw [e]; rfl)⟩
theorem LRow.cell {gr : Nat} (h : LRow w0 g l mb cs base (some ⟨gr, 0, none⟩) n c xs W) {i : Nat} {v : Value} (hv : xs[i]? = some v) : W.cell? ⟨gr, i, none⟩ = some v ∧ W.frozen? ⟨gr, i, none⟩ = false := by
  obtain ⟨hl, h2⟩ := h.2.1
  rcases h2 with ⟨e, h2⟩ | ⟨g', cap, cur, e, hb, hh, hc, hm, hs, ht⟩
  · cases e
  · injection e with e1 e2 e3
    injection e1 with e1
    injection e1 with e1
    subst e1
    have hi := (List.getElem?_eq_some_iff.1 hv).1
    refine ⟨?_, by simp [World.frozen?, hh]⟩
    rw [cell_of_row W gr i _ _ (0, 0) hh, ← Array.getElem?_toList]
    have h1 : (cur.toList.take (n * 7))[i]? = some v := by rw [ht]; exact hv
    rw [List.getElem?_take] at h1
    split at h1
    · exact h1
    · cases h1
theorem LRow.c3 {v0 v1 v2 v3 v4 v5 v6 : Value} (h : LRow w0 g l mb #[v0, v1, v2, v3, v4, v5, v6] base A n c xs W) : W.cell? ⟨mb, 3, none⟩ = some v3 := by
  have := h.1.cell 3
  simpa using this
end
/-- an entry with another level and tier -/
def SegD.at_ (s : SegD) (v t : Int) : SegD := { s with level := v, tier := t }
theorem seg_put2 {ss : List SegD} {k : Nat} {s : SegD} (hs : ss[k]? = some s) (t : Int) : (ss.flatMap SegD.cells).set (k * 7 + 2) (.int .i64 t) = (ss.set k (s.at_ s.level t)).flatMap SegD.cells := by
  obtain ⟨h1, h2⟩ := List.getElem?_eq_some_iff.1 hs
  exact flat_set SegD.cells_len ss k 2 h1 _ _ (by omega) (by rw [h2]; rfl)
theorem set_at {α : Type} {ss : List α} {k : Nat} {s y : α} (hs : ss[k]? = some s) : (ss.set k y)[k]? = some y := by
  obtain ⟨h1, h2⟩ := List.getElem?_eq_some_iff.1 hs
  rw [List.getElem?_set_self h1]
theorem SegsOk.set_ {ss : List SegD} {nid : Int} (h : SegsOk ss nid) {k : Nat} {s : SegD} (hs : ss[k]? = some s) {v t : Int} (hv : 0 ≤ v ∧ v ≤ 2) (ht : 0 ≤ t ∧ t ≤ 2) : SegsOk (ss.set k (s.at_ v t)) nid := by
  obtain ⟨h1, h2⟩ := List.getElem?_eq_some_iff.1 hs
  refine ⟨?_, fun x hx => ?_⟩
  · have e : (ss.set k (s.at_ v t)).map (·.id) = ss.map (·.id) := by
      rw [List.map_set]
      apply List.ext_getElem?
      intro i
      rw [List.getElem?_set]
      split
      · rename_i hi
        subst hi
        rw [List.length_map, if_pos h1, List.getElem?_map, hs]
        rfl
      · rfl
    have h3 : (ss.map (·.id)).Pairwise (· < ·) := List.pairwise_map.2 h.1
    rw [← e] at h3
    exact List.pairwise_map.1 h3
  · rcases List.mem_or_eq_of_mem_set hx with hx | rfl
    · exact h.2 x hx
    · have := h.2 s (List.mem_of_getElem? hs)
      unfold SegOk at this ⊢
      exact ⟨⟨this.1.1, hv.1, hv.2, ht.1, ht.2, this.1.2.2.2.2.2⟩, this.2⟩
end Go.Proofs.YtganfhmjklcchaaGreat

namespace Go.Proofs.YtganfhmjklcchaaGreat
open Go.RowKit
set_option linter.unusedVariables false
set_option linter.unusedSimpArgs false

def QuietN (v : Value) (w : World) (e : Ending) (w' : World) : Prop := e = .returned v ∧ w.grownBy w' none
theorem kl_facts {x y : Tal} (h : kl x y) : ¬ y.host < x.host ∧ ((y.host == x.host) = true → Op.bytesLess y.rule.toList x.rule.toList = false ∧ (y.rule.toList == x.rule.toList) = false) := by
  refine ⟨by unfold kl at h; omega, fun e => ?_⟩
  have e' : y.host = x.host := by simpa using e
  unfold kl at h
  rcases h with h | ⟨_, h⟩
  · omega
  · refine ⟨sl_asymm h, ?_⟩
    rw [beq_eq_false_iff_ne]; intro e2; have h2 : Op.bytesLess x.rule.toList y.rule.toList = true := h; rw [e2, bl_irrefl] at h2; cases h2
set_option maxHeartbeats 4000000 in
set_option maxRecDepth 100000 in
theorem rtallies_any {S : Nat → Prop} (A : Option Addr) (ts : List Tal) (c : Nat) (w : World) (hr : Rd S w A (ts.flatMap Tal.cells)) (hl : ts.length ≤ 100000) (hs : TSrt ts) :
    Calls Tryz.prog 79 #[.slice A ts.length c] w (Quiet (.bool true) w) := by
  have HR := Lib.hid hr
  have HS := Lib.hid hs
  clear hr hs
  go_enter Tryz.func79, Tryz.ntmps79
  go_wp2_with fail
  go_loopw [3] (fun i wr => ∃ k : Nat, k ≤ ts.length ∧ i = .int .i64 ((k : Int) + 1) ∧ ∃ q, wr = w.drewN q) (fun i _ => ts.length + 1 - (intOf i).toNat)
  case atStart => exact ⟨0, Nat.zero_le _, rfl, 0, rfl⟩
  case round =>
    obtain ⟨k, hk, rfl, q, rfl⟩ := hrel
    by_cases hlt : k + 1 < ts.length
    · obtain ⟨x, hx⟩ : ∃ x, ts[k]? = some x := ⟨_, List.getElem?_eq_getElem (by omega)⟩
      obtain ⟨y, hy⟩ : ∃ y, ts[k + 1]? = some y := ⟨_, List.getElem?_eq_getElem hlt⟩
      obtain ⟨b, o, rfl, x0, x1, x2⟩ := HR.out.tal hx
      obtain ⟨b', o', e', y0, y1, y2⟩ := HR.out.tal hy
      injection e' with e'
      injection e' with e1 e2
      subst e1 e2
      have hkl : kl x y := by
        obtain ⟨a1, a2⟩ := List.getElem?_eq_some_iff.1 hx
        obtain ⟨a3, a4⟩ := List.getElem?_eq_some_iff.1 hy
        have := List.pairwise_iff_getElem.1 HS.out k (k + 1) a1 a3 (by omega)
        rwa [a2, a4] at this
      obtain ⟨n1, n2⟩ := kl_facts hkl
      have NN := Lib.hid n2
      have t0 : decide (y.host < x.host) = false := by simpa using n1
      have i1 : (k : Int) + 1 < (ts.length : Int) := by omega
      have i2 : (k : Int) < (ts.length : Int) := by omega
      have i3 : (0 : Int) ≤ (k : Int) := by omega
      have i4 : (0 : Int) ≤ (k : Int) + 1 := by omega
      have i5 : ((k : Int) + 1).toNat = k + 1 := by omega
      have hwk : IntKind.i64.wrap (k : Int) = (k : Int) := IntWalk.i64_in _ (by omega)
      clear hx hy hkl n2
      by_cases he : (y.host == x.host) = true
      · obtain ⟨t1, t2⟩ := NN.out he
        go_wp2_with fail
        go_quiet (fail)
        go_wp2_with fail
        go_roundw
        case rel => exact ⟨k + 1, by omega, by go_num, _, rfl⟩
        case measure => simp [intOf]; omega
      · have he' : (y.host == x.host) = false := by simpa using he
        clear he
        go_wp2_with fail
        go_quiet (fail)
        go_wp2_with fail
        go_roundw
        case rel => exact ⟨k + 1, by omega, by go_num, _, rfl⟩
        case measure => simp [intOf]; omega
    · have i1 : ¬ ((k : Int) + 1 < (ts.length : Int)) := by omega
      go_wp2_with fail
      go_ret
      exact ⟨rfl, _, rfl⟩
/-- an entry that Check lets pass -/
def SegC (nid : Int) (s : SegD) : Prop := 0 ≤ s.id ∧ s.id < nid ∧ 0 ≤ s.level ∧ s.level ≤ 1000 ∧ 0 ≤ s.count ∧ 0 ≤ s.size ∧ 0 ≤ s.tier ∧ s.tier ≤ 2 ∧ s.min ≤ s.max
structure MOk (num nid jn : Int) (ss : List SegD) (ms : List MarkD) (ts xs : List Tal) : Prop where
  hnum : 0 ≤ num ∧ num ≤ 1000
  hnid : 0 ≤ nid ∧ nid ≤ 1000
  hjn : 0 ≤ jn
  len : ss.length ≤ 64
  asc : ss.Pairwise fun a b => a.id < b.id
  seg : ∀ s ∈ ss, SegC nid s
  ml : ms.length ≤ 100000
  ma : ms.Pairwise Mlt
  tl : ts.length ≤ 100000
  ta : TSrt ts
  xl : xs.length ≤ 100000
  xa : TSrt xs
theorem Rd.mark {S : Nat → Prop} {w : World} {A : Option Addr} {l : List MarkD} (h : Rd S w A (l.flatMap MarkD.cells)) {i : Nat} {t : MarkD} (ht : l[i]? = some t) :
    ∃ b off, A = some ⟨b, off, none⟩ ∧ w.cell? ⟨b, off + i * 3, none⟩ = some (.int .i64 t.host) ∧ w.cell? ⟨b, off + i * 3 + 1, none⟩ = some (.int .i64 t.file) := by
  have hi := (List.getElem?_eq_some_iff.1 ht).1
  obtain ⟨b, o, rfl, -, -, -⟩ := h (by rw [flat_len _ 3 MarkD.cells_len]; omega)
  exact ⟨b, o, rfl, h.flatAt MarkD.cells_len ht 0 (by omega), h.flatAt MarkD.cells_len ht 1 (by omega)⟩
set_option maxHeartbeats 8000000 in
set_option maxRecDepth 100000 in
theorem rcheckm_any {S S' S2 S3 : Nat → Prop} (num nid jn : Int) (A : Option Addr) (ss : List SegD) (c : Nat) (B : Option Addr) (ms : List MarkD) (d : Nat) (C : Option Addr) (ts : List Tal) (f : Nat) (E : Option Addr) (xs : List Tal) (h : Nat) (w : World) (hr : Rd S w A (ss.flatMap SegD.cells)) (hm : Rd S' w B (ms.flatMap MarkD.cells)) (ht : Rd S2 w C (ts.flatMap Tal.cells)) (hx : Rd S3 w E (xs.flatMap Tal.cells)) (hk : MOk num nid jn ss ms ts xs) :
    Calls Tryz.prog 51 #[.agg #[.int .i64 num, .int .i64 nid, .int .i64 jn, .slice A ss.length c, .slice B ms.length d, .slice C ts.length f, .slice E xs.length h]] w (QuietN (.int .i64 0) w) := by
  obtain ⟨W1, hW1⟩ : ∃ W1, W1 = w.alloc (.cells #[.int .i64 num, .int .i64 nid, .int .i64 jn, .slice A ss.length c, .slice B ms.length d, .slice C ts.length f, .slice E xs.length h] 31) := ⟨_, rfl⟩
  have G1 : Hid (w.grownBy W1 none) := Lib.hid (by rw [hW1]; exact only_alloc (only_refl _ _) _)
  obtain ⟨mb, hmb⟩ : ∃ b, b = w.heap.size := ⟨_, rfl⟩
  have B1 : Hid (Blk W1 mb 31 #[.int .i64 num, .int .i64 nid, .int .i64 jn, .slice A ss.length c, .slice B ms.length d, .slice C ts.length f, .slice E xs.length h]) := Lib.hid (by rw [hW1, hmb]; exact Blk.new w _ _)
  have HR := Lib.hid (hr.grown G1.out (by simp))
  have HM := Lib.hid (hm.grown G1.out (by simp))
  have HT := Lib.hid (ht.grown G1.out (by simp))
  have HX := Lib.hid (hx.grown G1.out (by simp))
  have HK := Lib.hid hk
  have HW := Lib.hid hW1.symm
  have HMB := Lib.hid hmb
  have q1 := hk.hnum
  have q2 := hk.hnid
  have q3 := hk.hjn
  have q4 := hk.len
  have q5 := hk.ml
  have q6 := hk.tl
  have q7 := hk.xl
  clear hW1 hmb hr hm ht hx hk
  go_enter Tryz.func51, Tryz.ntmps51
  go_upto_region 1 with fail
  rw [HW.out, ← HMB.out]
  clear HW
  have b0 := B1.out.cell 0
  have b1 := B1.out.cell 1
  have b2 := B1.out.cell 2
  have b3 := B1.out.cell 3
  simp at b0 b1 b2 b3
  go_wp2_with fail
  clear b0 b1 b2 b3
  go_loopw [3] (fun vi wr => ∃ k : Nat, vi = .int .i64 k ∧ k ≤ ss.length ∧ W1.grownBy wr none) (fun vi _ => ss.length - (intOf vi).toNat)
  case atStart => exact ⟨0, rfl, Nat.zero_le _, only_refl _ _⟩
  case round =>
    obtain ⟨k, rfl, hk, hG⟩ := hrel
    have G := Lib.hid hG
    have hB := B1.out.grown hG (by simp)
    have b1 := hB.cell 1
    have b3 := hB.cell 3
    simp at b1 b3
    have hlm := hB.lt
    have hlm2 : mb ≠ wr.heap.size := by omega
    clear hG hB
    by_cases hkl : k < ss.length
    · obtain ⟨b, o, rfl, -, hbo, -⟩ := (HR.out.grown G.out (by simp)) (by rw [flat_len _ 7 SegD.cells_len]; omega)
      obtain ⟨s, hs⟩ : ∃ s, ss[k]? = some s := ⟨_, List.getElem?_eq_getElem hkl⟩
      have hrr := HR.out.grown G.out (by simp)
      have d0 : wr.cell? ⟨b, o + k * 7, none⟩ = some (.int .i64 s.id) := hrr.flatAt SegD.cells_len hs 0 (by omega)
      have d1 : wr.cell? ⟨b, o + k * 7 + 1, none⟩ = some (.int .i64 s.level) := hrr.flatAt SegD.cells_len hs 1 (by omega)
      have d2 : wr.cell? ⟨b, o + k * 7 + 2, none⟩ = some (.int .i64 s.tier) := hrr.flatAt SegD.cells_len hs 2 (by omega)
      have d3 : wr.cell? ⟨b, o + k * 7 + 3, none⟩ = some (.int .i64 s.count) := hrr.flatAt SegD.cells_len hs 3 (by omega)
      have d4 : wr.cell? ⟨b, o + k * 7 + 4, none⟩ = some (.int .i64 s.min) := hrr.flatAt SegD.cells_len hs 4 (by omega)
      have d5 : wr.cell? ⟨b, o + k * 7 + 5, none⟩ = some (.int .i64 s.max) := hrr.flatAt SegD.cells_len hs 5 (by omega)
      have d6 : wr.cell? ⟨b, o + k * 7 + 6, none⟩ = some (.int .i64 s.size) := hrr.flatAt SegD.cells_len hs 6 (by omega)
      obtain ⟨p0, p1, p2, p3, p4, p5, p6, p7, p8⟩ := HK.out.seg s (List.mem_of_getElem? hs)
      have i1 : (k : Int) < (ss.length : Int) := by omega
      have i2 : (0 : Int) ≤ (k : Int) := by omega
      clear hrr hs
      go_wp2_with fail
      go_roundw
      case rel => exact ⟨k + 1, by go_num, by omega, only_alloc G.out _⟩
      case measure => simp [intOf]; omega
    · have i1 : ¬ ((k : Int) < (ss.length : Int)) := by omega
      go_wp2_with fail
      clear b1 b3
      go_loopw [5] (fun vi wx => ∃ j : Nat, vi = .int .i64 ((j : Int) + 1) ∧ j ≤ ss.length ∧ W1.grownBy wx none) (fun vi _ => ss.length + 1 - (intOf vi).toNat)
      case atStart => exact ⟨0, rfl, Nat.zero_le _, G.out⟩
      case round =>
        obtain ⟨j, rfl, hj, hG2⟩ := hrel
        have G2 := Lib.hid hG2
        have hB := B1.out.grown hG2 (by simp)
        have b3 := hB.cell 3
        have b4 := hB.cell 4
        simp at b3 b4
        clear hG2 hB
        by_cases hlt : j + 1 < ss.length
        · obtain ⟨x, hx⟩ : ∃ x, ss[j]? = some x := ⟨_, List.getElem?_eq_getElem (by omega)⟩
          obtain ⟨y, hy⟩ : ∃ y, ss[j + 1]? = some y := ⟨_, List.getElem?_eq_getElem hlt⟩
          have hrr := HR.out.grown G2.out (by simp)
          obtain ⟨b, o, rfl, -, hbo, -⟩ := hrr (by rw [flat_len _ 7 SegD.cells_len]; omega)
          have x0 := hrr.flatAt SegD.cells_len hx 0 (by omega)
          have y0 := hrr.flatAt SegD.cells_len hy 0 (by omega)
          simp only [SegD.cells, Nat.add_zero, List.getElem?_cons_zero] at x0 y0
          have hlt2 : x.id < y.id := by
            obtain ⟨a1, a2⟩ := List.getElem?_eq_some_iff.1 hx
            obtain ⟨a3, a4⟩ := List.getElem?_eq_some_iff.1 hy
            have := List.pairwise_iff_getElem.1 HK.out.asc j (j + 1) a1 a3 (by omega)
            rwa [a2, a4] at this
          have t0 : decide (y.id ≤ x.id) = false := by simp; omega
          have i3 : (j : Int) + 1 < (ss.length : Int) := by omega
          have i4 : (j : Int) < (ss.length : Int) := by omega
          have i5 : (0 : Int) ≤ (j : Int) := by omega
          have i6 : (0 : Int) ≤ (j : Int) + 1 := by omega
          have i7 : ((j : Int) + 1).toNat = j + 1 := by omega
          have hwk : IntKind.i64.wrap (j : Int) = (j : Int) := IntWalk.i64_in _ (by omega)
          clear hx hy hrr
          go_wp2_with fail
          go_quiet (fail)
          go_wp2_with fail
          go_roundw
          case rel => exact ⟨j + 1, by go_num, by omega, only_drewN G2.out _⟩
          case measure => simp [intOf]; omega
        · have i3 : ¬ ((j : Int) + 1 < (ss.length : Int)) := by omega
          go_wp2_with fail
          clear b3 b4
          go_loopw [7] (fun vi wy => ∃ i : Nat, vi = .int .i64 ((i : Int) + 1) ∧ i ≤ ms.length ∧ W1.grownBy wy none) (fun vi _ => ms.length + 1 - (intOf vi).toNat)
          case atStart => exact ⟨0, rfl, Nat.zero_le _, G2.out⟩
          case round =>
            obtain ⟨i, rfl, hi, hG3⟩ := hrel
            have G3 := Lib.hid hG3
            by_cases hlm3 : i + 1 < ms.length
            · obtain ⟨x, hx⟩ : ∃ x, ms[i]? = some x := ⟨_, List.getElem?_eq_getElem (by omega)⟩
              obtain ⟨y, hy⟩ : ∃ y, ms[i + 1]? = some y := ⟨_, List.getElem?_eq_getElem hlm3⟩
              obtain ⟨b, o, rfl, x0, x1⟩ := (HM.out.grown G3.out (by simp)).mark hx
              obtain ⟨b', o', e', y0, y1⟩ := (HM.out.grown G3.out (by simp)).mark hy
              injection e' with e'
              injection e' with e1 e2
              subst e1 e2
              have hkl : Mlt x y := by
                obtain ⟨a1, a2⟩ := List.getElem?_eq_some_iff.1 hx
                obtain ⟨a3, a4⟩ := List.getElem?_eq_some_iff.1 hy
                have := List.pairwise_iff_getElem.1 HK.out.ma i (i + 1) a1 a3 (by omega)
                rwa [a2, a4] at this
              have n1 : ¬ y.host < x.host := by unfold Mlt at hkl; omega
              have t0 : decide (y.host < x.host) = false := by simpa using n1
              have i4 : (i : Int) + 1 < (ms.length : Int) := by omega
              have i5 : (i : Int) < (ms.length : Int) := by omega
              have i6 : (0 : Int) ≤ (i : Int) := by omega
              have i7 : (0 : Int) ≤ (i : Int) + 1 := by omega
              have i8 : ((i : Int) + 1).toNat = i + 1 := by omega
              have hwk : IntKind.i64.wrap (i : Int) = (i : Int) := IntWalk.i64_in _ (by omega)
              have NN := Lib.hid hkl
              clear hx hy hkl hG3
              by_cases he : y.host = x.host
              · have he1 : (y.host == x.host) = true := by simp [he]
                have n2 : x.file < y.file := by have := NN.out; unfold Mlt at this; omega
                have t1 : decide (y.file ≤ x.file) = false := by simp; omega
                clear he
                go_wp2_with fail
                go_quiet (fail)
                go_wp2_with fail
                go_roundw
                case rel => exact ⟨i + 1, by go_num, by omega, only_drewN G3.out _⟩
                case measure => simp [intOf]; omega
              · have he1 : (y.host == x.host) = false := by simp [he]
                clear he
                go_wp2_with fail
                go_quiet (fail)
                go_wp2_with fail
                go_roundw
                case rel => exact ⟨i + 1, by go_num, by omega, only_drewN G3.out _⟩
                case measure => simp [intOf]; omega
            · have i4 : ¬ ((i : Int) + 1 < (ms.length : Int)) := by omega
              have hB := B1.out.grown hG3 (by simp)
              have b5 := hB.cell 5
              have b6 := hB.cell 6
              simp at b5 b6
              have K1 := Lib.hid (fun W (hW : W1.grownBy W none) => rtallies_any C ts f W (HT.out.grown hW (by simp)) q6 HK.out.ta)
              have K2 := Lib.hid (fun W (hW : W1.grownBy W none) => rtallies_any E xs h W (HX.out.grown hW (by simp)) q7 HK.out.xa)
              clear hG3 hB
              go_wp2_with fail
              refine (K1.out _ G3.out).mono ?_
              rintro e w5 ⟨rfl, n5, rfl⟩
              go_wp2_with fail
              refine (K2.out _ (only_drewN G3.out n5)).mono ?_
              rintro e w6 ⟨rfl, n6, rfl⟩
              go_wp2_with fail
              go_ret
              exact ⟨rfl, only_trans G1.out (only_drewN G3.out _)⟩
end Go.Proofs.YtganfhmjklcchaaGreat

namespace Go.Proofs.YtganfhmjklcchaaGreat
open Go.RowKit
set_option linter.unusedVariables false
set_option linter.unusedSimpArgs false

def del1 (l : List SegD) (id : Int) : List SegD := l.filter (fun s => s.id != id)
def remL (ss : List SegD) (ids : List Int) : List SegD := ids.foldl del1 ss
theorem remL_snoc (ss : List SegD) (ids : List Int) (x : Int) : remL ss (ids ++ [x]) = del1 (remL ss ids) x := by unfold remL; rw [List.foldl_append]; rfl
theorem remL_sub (ss : List SegD) (ids : List Int) : (remL ss ids).Sublist ss := by
  unfold remL
  induction ids generalizing ss with
  | nil => exact List.Sublist.refl _
  | cons x ids ih => rw [List.foldl_cons]; exact (ih _).trans (List.filter_sublist ..)
theorem remL_mem {ss : List SegD} {ids : List Int} {s : SegD} : s ∈ remL ss ids ↔ s ∈ ss ∧ s.id ∉ ids := by
  unfold remL
  induction ids generalizing ss with
  | nil => simp
  | cons x ids ih =>
    rw [List.foldl_cons, ih]
    unfold del1
    rw [List.mem_filter]
    simp
    constructor
    · rintro ⟨⟨h1, h2⟩, h3⟩; exact ⟨h1, h2, h3⟩
    · rintro ⟨h1, h2, h3⟩; exact ⟨⟨h1, h2⟩, h3⟩
def AscId (l : List SegD) : Prop := l.Pairwise fun a b => a.id < b.id
theorem remL_asc {ss : List SegD} (h : AscId ss) (ids : List Int) : AscId (remL ss ids) := h.sublist (remL_sub ss ids)
theorem del1_at {l : List SegD} (h : AscId l) {k : Nat} {s : SegD} (hs : l[k]? = some s) : l.take k ++ l.drop (k + 1) = del1 l s.id := by
  obtain ⟨h1, h2⟩ := List.getElem?_eq_some_iff.1 hs
  have e : l = l.take k ++ s :: l.drop (k + 1) := by
    rw [← h2, ← List.drop_eq_getElem_cons h1, List.take_append_drop]
  have hp : AscId (l.take k ++ s :: l.drop (k + 1)) := by rw [← e]; exact h
  have hf : del1 (l.take k ++ s :: l.drop (k + 1)) s.id = l.take k ++ l.drop (k + 1) := by
    obtain ⟨p1, p2, p3⟩ := List.pairwise_append.1 hp
    obtain ⟨p4, p5⟩ := List.pairwise_cons.1 p2
    unfold del1
    rw [List.filter_append, List.filter_cons]
    simp only [bne_self_eq_false, Bool.false_eq_true, if_false]
    rw [List.filter_eq_self.2 (fun x hx => by have := p3 x hx s (by simp); simp; omega), List.filter_eq_self.2 (fun x hx => by have := p4 x hx; simp; omega)]
  rw [← hf, ← e]
theorem del1_len {l : List SegD} (h : AscId l) {k : Nat} {s : SegD} (hs : l[k]? = some s) : (del1 l s.id).length + 1 = l.length := by
  rw [← del1_at h hs, List.length_append, List.length_take, List.length_drop]
  have := (List.getElem?_eq_some_iff.1 hs).1
  omega
/-- identifiers that are there, each once -/
def IdsIn (ss : List SegD) (ids : List Int) : Prop := ids.Nodup ∧ ∀ x ∈ ids, ∃ s ∈ ss, s.id = x
theorem IdsIn.at {ss : List SegD} {ids : List Int} (h : IdsIn ss ids) {i : Nat} {x : Int} (hx : ids[i]? = some x) : ∃ (k : Nat) (s : SegD), segI (remL ss (ids.take i)) x = k ∧ (remL ss (ids.take i))[k]? = some s ∧ s.id = x := by
  obtain ⟨s, hs, hsx⟩ := h.2 x (List.mem_of_getElem? hx)
  obtain ⟨q1, q2⟩ := List.getElem?_eq_some_iff.1 hx
  have hno : x ∉ ids.take i := fun hm => by
    obtain ⟨j, hj⟩ := List.getElem?_of_mem hm
    rw [List.getElem?_take] at hj
    split at hj
    · rename_i hji
      obtain ⟨q3, q4⟩ := List.getElem?_eq_some_iff.1 hj
      have := List.pairwise_iff_getElem.1 h.1 j i q3 q1 hji
      rw [q4, q2] at this
      exact this rfl
    · cases hj
  have hmem : s ∈ remL ss (ids.take i) := remL_mem.2 ⟨hs, by rw [hsx]; exact hno⟩
  rcases segI_find (ss := remL ss (ids.take i)) (id := x) with ⟨_, hF⟩ | ⟨k, t, hI, hk, hF⟩
  · have := List.find?_eq_none.1 hF s hmem
    simp [hsx] at this
  · exact ⟨k, t, hI, hk, by have := List.find?_some hF; simpa using this⟩
theorem IdsIn.len {ss : List SegD} (ha : AscId ss) {ids : List Int} (h : IdsIn ss ids) : ∀ i, i ≤ ids.length → (remL ss (ids.take i)).length + i = ss.length := by
  intro i
  induction i with
  | zero => intro _; simp [remL]
  | succ i ih =>
    intro hi
    have h0 := ih (by omega)
    obtain ⟨x, hx⟩ : ∃ x, ids[i]? = some x := ⟨_, List.getElem?_eq_getElem (by omega)⟩
    obtain ⟨k, s, _, hk, e⟩ := h.at hx
    obtain ⟨q1, q2⟩ := List.getElem?_eq_some_iff.1 hx
    rw [List.take_succ_eq_append_getElem q1, q2, remL_snoc, ← e]
    have := del1_len (remL_asc ha _) hk
    omega
/-- a prefix of a row, and what lies behind -/
theorem own_prefix {w : World} {base e z n k c : Nat} {A : Option Addr} {xs : List Value} (h : w.ownsRow base e z (.slice A n c) n xs) (hk : k ≤ n) (hA : 0 < n) : w.ownsRow base e z (.slice A k c) k (xs.take (k * z)) := by
  obtain ⟨hl, h2⟩ := h
  have hkn : k * z ≤ n * z := Nat.mul_le_mul_right z hk
  refine ⟨by rw [List.length_take]; omega, ?_⟩
  rcases h2 with ⟨e1, h2⟩ | ⟨g, cap, cur, e1, h3, h4, h5, h6, h7, h8⟩
  · omega
  · injection e1 with e1 e2 e3
    subst e1 e3
    exact .inr ⟨g, c, cur, rfl, h3, h4, by omega, h6, h7, by rw [← h8, List.take_take, Nat.min_eq_left hkn]⟩
end Go.Proofs.YtganfhmjklcchaaGreat

namespace Go.Proofs.YtganfhmjklcchaaGreat
open Go.RowKit
set_option linter.unusedVariables false
set_option linter.unusedSimpArgs false

def RetExtM (v : Value) (w : World) (e : Ending) (w' : World) : Prop := e = .returned v ∧ w.grownBy w' none
theorem find_none {w w' : World} {ss : List SegD} {id : Int} {e : Ending} (hF : segF ss id = none) (h : FindPost w ss id e w') : RetExtM (.tuple #[.agg #[.int .i64 0, .int .i64 0, .int .i64 0, .int .i64 0, .int .i64 0, .int .i64 0, .int .i64 0], .bool false]) w e w' := by
  obtain ⟨h1, ⟨_, h2⟩ | ⟨s, h2, _⟩⟩ := h
  · exact ⟨h2, h1⟩
  · rw [hF] at h2; cases h2
theorem find_some {w w' : World} {ss : List SegD} {id : Int} {s : SegD} {e : Ending} (hF : segF ss id = some s) (h : FindPost w ss id e w') : RetExtM (.tuple #[.agg #[.int .i64 s.id, .int .i64 s.level, .int .i64 s.tier, .int .i64 s.count, .int .i64 s.min, .int .i64 s.max, .int .i64 s.size], .bool true]) w e w' := by
  obtain ⟨h1, ⟨h2, _⟩ | ⟨t, h2, h3⟩⟩ := h
  · rw [hF] at h2; cases h2
  · rw [hF] at h2; injection h2 with h2; rw [← h2] at h3; exact ⟨h3, h1⟩
theorem ncell {W W' : World} (hg : W.grownBy W' none) : (∀ b o, b < W.heap.size → W'.cell? ⟨b, o, none⟩ = W.cell? ⟨b, o, none⟩) ∧ (∀ b o, b < W.heap.size → W'.frozen? ⟨b, o, none⟩ = W.frozen? ⟨b, o, none⟩) :=
  ⟨fun b o hb => World.cell?_of_block (w := W) (a := ⟨b, o, none⟩) (hg.block b hb (by simp)), fun b o hb => World.frozen?_of_block (w := W) (a := ⟨b, o, none⟩) (hg.block b hb (by simp))⟩
theorem sets7 {a w : World} {b : Nat} (h : a.grownBy w none) (hb : a.heap.size ≤ b) (v0 v1 v2 v3 v4 v5 v6 : Value) : a.grownBy (((((((w.setCell ⟨b, 0, none⟩ v0).setCell ⟨b, 1, none⟩ v1).setCell ⟨b, 2, none⟩ v2).setCell ⟨b, 3, none⟩ v3).setCell ⟨b, 4, none⟩ v4).setCell ⟨b, 5, none⟩ v5).setCell ⟨b, 6, none⟩ v6) none := by
  refine only_fresh h (g := b) ?_ hb
  exact only_setCell (only_setCell (only_setCell (only_setCell (only_setCell (only_setCell (only_setCell (only_refl _ _) (p := ⟨b, 0, none⟩) (.inl rfl) v0) (p := ⟨b, 1, none⟩) (.inl rfl) v1) (p := ⟨b, 2, none⟩) (.inl rfl) v2) (p := ⟨b, 3, none⟩) (.inl rfl) v3) (p := ⟨b, 4, none⟩) (.inl rfl) v4) (p := ⟨b, 5, none⟩) (.inl rfl) v5) (p := ⟨b, 6, none⟩) (.inl rfl) v6
theorem load_mani (w : World) (mb : Nat) {num nid jn : Int} {A B C E : Option Addr} {n c nb d nc f ne h : Nat} (hB : Blk w mb 31 #[.int .i64 num, .int .i64 nid, .int .i64 jn, .slice A n c, .slice B nb d, .slice C nc f, .slice E ne h]) :
    (Instr.loadAt 31 (.pointer (some ⟨mb, 0, none⟩))).run Tryz.prog w = .ok (.agg #[.int .i64 num, .int .i64 nid, .int .i64 jn, .slice A n c, .slice B nb d, .slice C nc f, .slice E ne h]) w := by
  have b0 := hB.cell 0
  have b1 := hB.cell 1
  have b2 := hB.cell 2
  have b3 := hB.cell 3
  have b4 := hB.cell 4
  have b5 := hB.cell 5
  have b6 := hB.cell 6
  simp at b0 b1 b2 b3 b4 b5 b6
  have hu := Tryz.underlying31
  simp [go_sem, b0, b1, b2, b3, b4, b5, b6]
theorem store_seg (w : World) (g : Nat) (a0 a1 a2 a3 a4 a5 a6 : Int) {t : TypeId} (h : Blk w g t #[.int .i64 0, .int .i64 0, .int .i64 0, .int .i64 0, .int .i64 0, .int .i64 0, .int .i64 0]) :
    ∃ w', (Instr.storeAt 54 (.pointer (some ⟨g, 0, none⟩)) (.agg #[.int .i64 a0, .int .i64 a1, .int .i64 a2, .int .i64 a3, .int .i64 a4, .int .i64 a5, .int .i64 a6])).run Tryz.prog w = .ok () w' ∧ Blk w' g t #[.int .i64 a0, .int .i64 a1, .int .i64 a2, .int .i64 a3, .int .i64 a4, .int .i64 a5, .int .i64 a6] ∧ w.grownBy w' (some g) := by
  have q0 := h.cell 0
  have q1 := h.cell 1
  have q2 := h.cell 2
  have q3 := h.cell 3
  have q4 := h.cell 4
  have q5 := h.cell 5
  have q6 := h.cell 6
  have p0 := h.frozen 0
  have p1 := h.frozen 1
  have p2 := h.frozen 2
  have p3 := h.frozen 3
  have p4 := h.frozen 4
  have p5 := h.frozen 5
  have p6 := h.frozen 6
  simp at q0 q1 q2 q3 q4 q5 q6
  have hu := Tryz.underlying54
  refine ⟨((((((w.setCell ⟨g, 0, none⟩ (.int .i64 a0)).setCell ⟨g, 1, none⟩ (.int .i64 a1)).setCell ⟨g, 2, none⟩ (.int .i64 a2)).setCell ⟨g, 3, none⟩ (.int .i64 a3)).setCell ⟨g, 4, none⟩ (.int .i64 a4)).setCell ⟨g, 5, none⟩ (.int .i64 a5)).setCell ⟨g, 6, none⟩ (.int .i64 a6), ?_, ?_, ?_⟩
  · simp [go_sem, q0, q1, q2, q3, q4, q5, q6, p0, p1, p2, p3, p4, p5, p6]
  · have := ((((((h.set_ 0 (.int .i64 a0)).set_ 1 (.int .i64 a1)).set_ 2 (.int .i64 a2)).set_ 3 (.int .i64 a3)).set_ 4 (.int .i64 a4)).set_ 5 (.int .i64 a5)).set_ 6 (.int .i64 a6)
    simpa using this
  · exact only_setCell (only_setCell (only_setCell (only_setCell (only_setCell (only_setCell (only_setCell (only_refl _ _) (p := ⟨g, 0, none⟩) (.inl rfl) _) (p := ⟨g, 1, none⟩) (.inl rfl) _) (p := ⟨g, 2, none⟩) (.inl rfl) _) (p := ⟨g, 3, none⟩) (.inl rfl) _) (p := ⟨g, 4, none⟩) (.inl rfl) _) (p := ⟨g, 5, none⟩) (.inl rfl) _) (p := ⟨g, 6, none⟩) (.inl rfl) _
theorem alloc_seg (ρ : Operand → Value) (w : World) {o : Oper} (ho : o.op = .alloc 54 := by rfl) : (execOp ρ o).run Tryz.prog w = .ok (.value (.pointer (some ⟨w.heap.size, 0, none⟩))) (w.alloc (.cells #[.int .i64 0, .int .i64 0, .int .i64 0, .int .i64 0, .int .i64 0, .int .i64 0, .int .i64 0] 54)) := by
  simp only [execOp, ho]
  kernel_rfl
end Go.Proofs.YtganfhmjklcchaaGreat

namespace Go.Proofs.YtganfhmjklcchaaGreat
open Go.RowKit
set_option linter.unusedVariables false
set_option linter.unusedSimpArgs false

theorem only_set7 {a w : World} {b : Nat} (h : a.grownBy w (some b)) (v0 v1 v2 v3 v4 v5 v6 : Value) : a.grownBy (((((((w.setCell ⟨b, 0, none⟩ v0).setCell ⟨b, 1, none⟩ v1).setCell ⟨b, 2, none⟩ v2).setCell ⟨b, 3, none⟩ v3).setCell ⟨b, 4, none⟩ v4).setCell ⟨b, 5, none⟩ v5).setCell ⟨b, 6, none⟩ v6) (some b) :=
  only_setCell (only_setCell (only_setCell (only_setCell (only_setCell (only_setCell (only_setCell h (p := ⟨b, 0, none⟩) (.inl rfl) v0) (p := ⟨b, 1, none⟩) (.inl rfl) v1) (p := ⟨b, 2, none⟩) (.inl rfl) v2) (p := ⟨b, 3, none⟩) (.inl rfl) v3) (p := ⟨b, 4, none⟩) (.inl rfl) v4) (p := ⟨b, 5, none⟩) (.inl rfl) v5) (p := ⟨b, 6, none⟩) (.inl rfl) v6
theorem blk_put7 {w : World} {g : Nat} {t : TypeId} {a0 a1 a2 a3 a4 a5 a6 : Value} (h : Blk w g t #[a0, a1, a2, a3, a4, a5, a6]) (v0 v1 v2 v3 v4 v5 v6 : Value) :
    Blk (((((((w.setCell ⟨g, 0, none⟩ v0).setCell ⟨g, 1, none⟩ v1).setCell ⟨g, 2, none⟩ v2).setCell ⟨g, 3, none⟩ v3).setCell ⟨g, 4, none⟩ v4).setCell ⟨g, 5, none⟩ v5).setCell ⟨g, 6, none⟩ v6) g t #[v0, v1, v2, v3, v4, v5, v6] := by
  simpa using ((((((h.set_ 0 v0).set_ 1 v1).set_ 2 v2).set_ 3 v3).set_ 4 v4).set_ 5 v5).set_ 6 v6
/-- a manifest and no error -/
def ManiOut (w : World) (num nid jn : Int) (B : Option Addr) (nb d : Nat) (C : Option Addr) (nc f : Nat) (E : Option Addr) (ne h : Nat) (ss : List SegD) (e : Ending) (w' : World) : Prop :=
  ∃ A c, e = .returned (.tuple #[.agg #[.int .i64 num, .int .i64 nid, .int .i64 jn, .slice A ss.length c, .slice B nb d, .slice C nc f, .slice E ne h], .int .i64 0]) ∧ ss.length ≤ c ∧ c ≤ maxLen ∧ Rd (w.heap.size ≤ ·) w' A (ss.flatMap SegD.cells) ∧ w.grownBy w' none
theorem seg_ones (ss : List SegD) : ∀ u ∈ ss.flatMap SegD.cells, u.oneCell' = true := by
  intro u hu
  obtain ⟨s, hs, h⟩ := List.mem_flatMap.1 hu
  exact s.one u h
end Go.Proofs.YtganfhmjklcchaaGreat

namespace Go.Proofs.YtganfhmjklcchaaGreat
open Go.RowKit
set_option linter.unusedVariables false
set_option linter.unusedSimpArgs false

theorem segF_of {ss : List SegD} (ha : AscId ss) {s : SegD} (hs : s ∈ ss) : segF ss s.id = some s := by
  cases h : segF ss s.id with
  | none => have := List.find?_eq_none.1 h s hs; simp at this
  | some t =>
    have ht := List.mem_of_find?_eq_some h
    have he : t.id = s.id := by have := List.find?_some h; simpa using this
    obtain ⟨i, hi⟩ := List.getElem?_of_mem hs
    obtain ⟨j, hj⟩ := List.getElem?_of_mem ht
    obtain ⟨i1, i2⟩ := List.getElem?_eq_some_iff.1 hi
    obtain ⟨j1, j2⟩ := List.getElem?_eq_some_iff.1 hj
    rcases Nat.lt_trichotomy i j with hl | hl | hl
    · have := List.pairwise_iff_getElem.1 ha i j i1 j1 hl; rw [i2, j2] at this; omega
    · subst hl; rw [hi] at hj; exact hj.symm
    · have := List.pairwise_iff_getElem.1 ha j i j1 i1 hl; rw [i2, j2] at this; omega
theorem MOk.add {num nid jn : Int} {ss : List SegD} {ms : List MarkD} {ts xs : List Tal} (h : MOk num nid jn ss ms ts xs) (hn : num < 1000) (hi : nid < 1000) (hl : ss.length < 64) {s : SegD} (hs : SegC (nid + 1) s) (hid : s.id = nid) : MOk (num + 1) (nid + 1) jn (ss ++ [s]) ms ts xs where
  hnum := by have := h.hnum; omega
  hnid := by have := h.hnid; omega
  hjn := h.hjn
  len := by rw [List.length_append]; simp; omega
  asc := List.pairwise_append.2 ⟨h.asc, List.pairwise_singleton _ _, fun a ha b hb => by
    rw [List.mem_singleton.1 hb, hid]; exact (h.seg a ha).2.1⟩
  seg := fun t ht => by
    rcases List.mem_append.1 ht with ht | ht
    · have := h.seg t ht; unfold SegC at this ⊢; omega
    · rw [List.mem_singleton.1 ht]; exact hs
  ml := h.ml
  ma := h.ma
  tl := h.tl
  ta := h.ta
  xl := h.xl
  xa := h.xa
theorem load_segAt (w : World) (b : Nat) (s : SegD) (h : Blk w b 54 s.cells.toArray) :
    (Instr.loadAt 54 (.pointer (some ⟨b, 0, none⟩))).run Tryz.prog w = .ok (.agg s.cells.toArray) w := by
  have b0 := h.cell 0
  have b1 := h.cell 1
  have b2 := h.cell 2
  have b3 := h.cell 3
  have b4 := h.cell 4
  have b5 := h.cell 5
  have b6 := h.cell 6
  simp [SegD.cells] at b0 b1 b2 b3 b4 b5 b6
  have hu := Tryz.underlying54
  simp [go_sem, SegD.cells, b0, b1, b2, b3, b4, b5, b6]
theorem lit_seg (ρ : Operand → Value) (w : World) {o : Oper} {x : Nat} {e : SegD} (ho : o.op = .buildSlice 25 1 #[(0, .tmp x)]) (hx : ρ (.tmp x) = .agg e.cells.toArray) : (execOp ρ o).run Tryz.prog w = .ok (.value (.slice (some ⟨w.heap.size, 0, none⟩) 1 1)) (w.alloc (.cells e.cells.toArray 54)) := by
  simp [execOp, ho, hx, go_sem, SegD.cells]
theorem rd_blk {w : World} {g t : Nat} {cs : List Value} (h : Blk w g t cs.toArray) : Rd (fun _ => True) w (some ⟨g, 0, none⟩) cs := fun _ => ⟨g, 0, rfl, trivial, h.lt, fun j u hu => by rw [Nat.zero_add, h.cell j]; simpa using hu⟩
set_option maxHeartbeats 8000000 in
set_option maxRecDepth 100000 in
theorem radd_any {S S' S2 S3 : Nat → Prop} (num nid jn : Int) (A : Option Addr) (ss : List SegD) (c : Nat) (B : Option Addr) (ms : List MarkD) (d : Nat) (C : Option Addr) (ts : List Tal) (f : Nat) (E : Option Addr) (xs : List Tal) (h : Nat) (s0 s : SegD) (w : World) (hr : Rd S w A (ss.flatMap SegD.cells)) (hm : Rd S' w B (ms.flatMap MarkD.cells)) (ht : Rd S2 w C (ts.flatMap Tal.cells)) (hx : Rd S3 w E (xs.flatMap Tal.cells)) (hk : MOk num nid jn ss ms ts xs) (hn : num < 1000) (hi : nid < 1000) (hl : ss.length < 64) (hs : SegC (nid + 1) s) (hse : s = { s0 with id := nid }) :
    Calls Tryz.prog 25 #[.agg #[.int .i64 num, .int .i64 nid, .int .i64 jn, .slice A ss.length c, .slice B ms.length d, .slice C ts.length f, .slice E xs.length h], .agg s0.cells.toArray] w (ManiOut w (num + 1) (nid + 1) jn B ms.length d C ts.length f E xs.length h (ss ++ [s])) := by
  obtain ⟨W1, hW1⟩ : ∃ W1, W1 = ((w.alloc (.cells #[.int .i64 num, .int .i64 nid, .int .i64 jn, .slice A ss.length c, .slice B ms.length d, .slice C ts.length f, .slice E xs.length h] 31)).alloc (.cells s0.cells.toArray 54)).alloc (.cells #[.int .i64 0, .int .i64 0, .int .i64 0, .slice none 0 0, .slice none 0 0, .slice none 0 0, .slice none 0 0] 31) := ⟨_, rfl⟩
  have G1 : Hid (w.grownBy W1 none) := Lib.hid (by rw [hW1]; exact only_alloc (only_alloc (only_alloc (only_refl _ _) _) _) _)
  have hs1 : w.heap.size + 3 = W1.heap.size := by rw [hW1]; simp
  obtain ⟨mb, hmb⟩ : ∃ b, b = w.heap.size := ⟨_, rfl⟩
  obtain ⟨sb, hsb⟩ : ∃ b, b = w.heap.size + 1 := ⟨_, rfl⟩
  obtain ⟨rb, hrb⟩ : ∃ b, b = w.heap.size + 2 := ⟨_, rfl⟩
  have B1 : Hid (Blk W1 mb 31 #[.int .i64 num, .int .i64 nid, .int .i64 jn, .slice A ss.length c, .slice B ms.length d, .slice C ts.length f, .slice E xs.length h]) := Lib.hid (by rw [hW1, hmb]; exact ((Blk.new w _ _).alloc _).alloc _)
  have S1 : Hid (Blk W1 sb 54 s0.cells.toArray) := Lib.hid (by
    have := Blk.new (w.alloc (.cells #[.int .i64 num, .int .i64 nid, .int .i64 jn, .slice A ss.length c, .slice B ms.length d, .slice C ts.length f, .slice E xs.length h] 31)) 54 s0.cells.toArray
    rw [World.size_alloc] at this
    rw [hW1, hsb]; exact this.alloc _)
  have R1 : Hid (Blk W1 rb 31 #[.int .i64 0, .int .i64 0, .int .i64 0, .slice none 0 0, .slice none 0 0, .slice none 0 0, .slice none 0 0]) := Lib.hid (by
    have := Blk.new ((w.alloc (.cells #[.int .i64 num, .int .i64 nid, .int .i64 jn, .slice A ss.length c, .slice B ms.length d, .slice C ts.length f, .slice E xs.length h] 31)).alloc (.cells s0.cells.toArray 54)) 31 #[.int .i64 0, .int .i64 0, .int .i64 0, .slice none 0 0, .slice none 0 0, .slice none 0 0, .slice none 0 0]
    rw [World.size_alloc, World.size_alloc] at this
    rw [hW1, hrb]; exact this)
  have HR := Lib.hid ((hr.mono (S' := (· < w.heap.size)) (fun b _ hb => hb)).grown G1.out (by simp))
  have HM := Lib.hid ((hm.mono (S' := (· < w.heap.size)) (fun b _ hb => hb)).grown G1.out (by simp))
  have HT := Lib.hid ((ht.mono (S' := (· < w.heap.size)) (fun b _ hb => hb)).grown G1.out (by simp))
  have HX := Lib.hid ((hx.mono (S' := (· < w.heap.size)) (fun b _ hb => hb)).grown G1.out (by simp))
  have HK := Lib.hid hk
  have HC := Lib.hid hs
  have HSE := Lib.hid hse
  have HW := Lib.hid hW1.symm
  have HMB := Lib.hid hmb
  have HSB := Lib.hid hsb
  have HRB := Lib.hid hrb
  have hsl := hk.len
  have hnum := hk.hnum
  have hnid := hk.hnid
  have hmr : mb ≠ rb := by omega
  have hms : mb ≠ sb := by omega
  have hsr : sb ≠ rb := by omega
  have KC := Lib.hid (fun W (hW : W1.grownBy W none) => rcheckm_any num nid jn A ss c B ms d C ts f E xs h W (HR.out.grown hW (by simp)) (HM.out.grown hW (by simp)) (HT.out.grown hW (by simp)) (HX.out.grown hW (by simp)) HK.out)
  clear hW1 hmb hsb hrb hr hm ht hx hk hs hse
  go_enter Tryz.func25, Tryz.ntmps25
  go_upto_region 1 with fail
  rw [HW.out, ← HRB.out, ← HSB.out, ← HMB.out]
  clear HW
  have b0 := B1.out.cell 0
  have b1 := B1.out.cell 1
  have b2 := B1.out.cell 2
  have b3 := B1.out.cell 3
  have b4 := B1.out.cell 4
  have b5 := B1.out.cell 5
  have b6 := B1.out.cell 6
  simp at b0 b1 b2 b3 b4 b5 b6
  go_wp2_with fail
  refine (KC.out _ (only_refl _ _)).mono ?_
  rintro e w2 ⟨rfl, hg2⟩
  clear b0 b1 b2 b3 b4 b5 b6
  have G2 := Lib.hid hg2
  have hs2 := hg2.size
  have hB2 := B1.out.grown hg2 (by simp)
  have hS2 := S1.out.grown hg2 (by simp)
  have b1 := hB2.cell 1
  have s0' := hS2.cell 0
  have z0 := hS2.frozen 0
  simp [SegD.cells] at b1 s0'
  obtain ⟨W4, hW4⟩ : ∃ W4, W4 = w2.setCell ⟨sb, 0, none⟩ (.int .i64 nid) := ⟨_, rfl⟩
  have g4 : w2.grownBy W4 (some sb) := by rw [hW4]; exact only_setCell (only_refl _ _) (p := ⟨sb, 0, none⟩) (.inl rfl) _
  have hws : w.heap.size ≤ sb := by have := HSB.out; omega
  have hwm : w.heap.size ≤ mb := by have := HMB.out; omega
  have hwr : w.heap.size ≤ rb := by have := HRB.out; omega
  have HM4 := Lib.hid (hB2.grown g4 (by intro e; injection e with e; exact hms e))
  have HS4 : Hid (Blk W4 sb 54 s.cells.toArray) := Lib.hid (by
    have := hS2.set_ 0 (.int .i64 nid)
    rw [hW4, HSE.out]; simpa [SegD.cells] using this)
  have HR4b := Lib.hid ((R1.out.grown hg2 (by simp)).grown g4 (by intro e; injection e with e; exact hsr e.symm))
  have hM4 : W1.grownBy W4 (some sb) := only_trans (only_of_none hg2 _) g4
  have hsb1 : ∀ b, b < w.heap.size → some b ≠ some sb := fun b hb e => by injection e with e; omega
  have HR4 := Lib.hid (HR.out.grown hM4 hsb1)
  have HMM4 := Lib.hid (HM.out.grown hM4 hsb1)
  have HT4 := Lib.hid (HT.out.grown hM4 hsb1)
  have HX4 := Lib.hid (HX.out.grown hM4 hsb1)
  have G4 := Lib.hid (only_fresh (only_trans G1.out hg2) g4 hws)
  have hs4 : W1.heap.size ≤ W4.heap.size := by have := g4.size; omega
  have HW4 := Lib.hid hW4.symm
  clear hg2 hB2 hS2 hW4 g4 hM4
  go_upto_region 5 with fail
  rw [HW4.out]
  clear b1 s0' z0 HW4
  refine wp_region_gen 5 (JC [some (.pointer (some ⟨mb, 3, none⟩)), some (.slice A ss.length c), none, some (.agg s.cells.toArray), none] (fun D u wx => W4.grownBy wx none ∧ (D 2 = true → ∃ A2 c2, u 2 = .slice A2 ss.length c2 ∧ wx.ownsRow W4.heap.size 54 7 (.slice A2 ss.length c2) ss.length (ss.flatMap SegD.cells)) ∧ (D 4 = true → ∃ gb, u 4 = .slice (some ⟨gb, 0, none⟩) 1 1 ∧ Blk wx gb 54 s.cells.toArray))) (by kernel_rfl) (by kernel_rfl) ?_ ?_ ?_
  · intro u
    exact ⟨(fun j c _ h => by cases h), ⟨only_drew (only_refl _ _), (fun h => by cases h), fun h => by cases h⟩⟩
  · intro AA hA
    have hasz : AA.tmps.size = 39 := by rw [hA]; kernel_rfl
    have ea2 : AA.eval (.tmp 2) = .pointer (some ⟨mb, 0, none⟩) := by rw [hA]; kernel_rfl
    have ea3 : AA.eval (.tmp 3) = .pointer (some ⟨sb, 0, none⟩) := by rw [hA]; kernel_rfl
    clear hA
    simp only [List.take_succ_cons, List.take_zero]
    refine .cons ?_ (.cons ?_ (.cons ?_ (.cons ?_ (.cons ?_ (.nil)))))
    · exact gd_gen (by kernel_rfl) (Want.none_ rfl) rfl (fun D u w v h => by simpa [updB, upd] using h) (fun D u ρ w kn => by
        have e0 := kn.own 2 (c := .pointer (some ⟨mb, 0, none⟩)) (by kernel_rfl) ea2
        simp [execOp, kn.rho.con, e0, go_sem])
    · exact gd_gen (by kernel_rfl) (Want.none_ rfl) rfl (fun D u w v h => by simpa [updB, upd] using h) (fun D u ρ w kn => by
        have e0 := kn.con 0 17 (c := .pointer (some ⟨mb, 3, none⟩)) (by kernel_rfl) (by omega) (by kernel_rfl) rfl
        have f0 := (HM4.out.grown kn.ext.1 (by simp)).cell 3
        simp [execOp, kn.rho.con, e0, f0, go_sem])
    · refine gd_eff (by kernel_rfl) (Want.none_ rfl) (fun D u ρ wx kn hD => ?_)
      have e0 := kn.con 1 18 (c := .slice A ss.length c) (by kernel_rfl) (by omega) (by kernel_rfl) rfl
      obtain ⟨x1, x2, x3⟩ := kn.ext
      obtain ⟨v', w', hr, h1, h2, -⟩ := run_appendN (P := Tryz.prog) W4.heap.size 25 25 Tryz.underlying25 segInfo rfl (by decide) (v := .slice none 0 0) (World.ownsRow_nil _ _ _ _) A ss.length c (HR4.out.grown x1 (by simp)) (flat_len _ 7 SegD.cells_len _) (seg_ones ss) (by decide) (by omega) x1.size
      simp only [Nat.zero_add, List.nil_append] at h1
      obtain ⟨A2, c2, rfl, -, -, -, -⟩ := Rd.of_own h1 (by decide)
      have h2' : wx.grownBy w' none := by simpa [Value.ownBlock] using h2
      refine ⟨_, w', ?_, (fun c h => by cases h), only_trans x1 h2', (fun _ => ⟨A2, c2, upd_at _ _ _, h1⟩), fun h => ?_⟩
      · simp only [execOp, resolve, invoke, builtin, Sem.run_bind, Sem.run_pure, Result.andThen_ok, List.map_toArray, List.map_cons, List.map_nil, e0, kn.rho.con]
        simp [hr]
      · rw [updB_ne D (show (4 : Nat) ≠ 2 by omega)] at h
        rw [upd_ne u _ (show (4 : Nat) ≠ 2 by omega)]
        obtain ⟨gb, q1, q2⟩ := x3 h
        exact ⟨gb, q1, q2.grown h2' (by simp)⟩
    · exact gd_gen (by kernel_rfl) (Want.none_ rfl) rfl (fun D u w v h => by simpa [updB, upd] using h) (fun D u ρ w kn => by
        have e0 := kn.own 3 (c := .pointer (some ⟨sb, 0, none⟩)) (by kernel_rfl) ea3
        exact run_load ρ w rfl e0 (load_segAt w sb s (HS4.out.grown kn.ext.1 (by simp))))
    · refine gd_eff (by kernel_rfl) (Want.none_ rfl) (fun D u ρ wx kn hD => ?_)
      have e0 := kn.con 3 20 (c := .agg s.cells.toArray) (by kernel_rfl) (by omega) (by kernel_rfl) rfl
      obtain ⟨x1, x2, x3⟩ := kn.ext
      refine ⟨_, _, lit_seg ρ wx rfl e0, (fun c h => by cases h), only_alloc x1 _, (fun h => ?_), (fun _ => ⟨wx.heap.size, upd_at _ _ _, Blk.new wx _ _⟩)⟩
      rw [updB_ne D (show (2 : Nat) ≠ 4 by omega)] at h
      rw [upd_ne u _ (show (2 : Nat) ≠ 4 by omega)]
      obtain ⟨A2, c2, q1, q2⟩ := x2 h
      exact ⟨A2, c2, q1, own_ext q2 (only_alloc (only_refl _ _) _)⟩
  · intro D u w5 hJ hD
    obtain ⟨hcn, x1, x2, x3⟩ := hJ
    obtain ⟨A2, c2, q1, q2⟩ := x2 (hD 2 (by omega))
    obtain ⟨gb, r1, r2⟩ := x3 (hD 4 (by omega))
    simp only [List.take_succ_cons, List.take_zero, List.drop_succ_cons, List.drop_zero, putAll]
    rw [q1, r1]
    clear hcn x2 x3 q1 r1 hD
    have hs5 := x1.size
    refine wpList_appendN rfl _ _ 25 rfl W4.heap.size Tryz.underlying25 segInfo rfl (by decide) (v := .slice A2 ss.length c2) (by kernel_rfl) q2 (some ⟨gb, 0, none⟩) 1 1 (news := s.cells) (by kernel_rfl) (rd_blk r2) rfl (SegD.one s) (by decide) (by omega) (by omega) ?_
    intro v6 w6 hown6 hg6 hob6
    have G6 : Hid (W4.grownBy w6 none) := Lib.hid (only_own x1 hg6 q2 (Nat.le_refl _))
    have hcl : ss.flatMap SegD.cells ++ s.cells = (ss ++ [s]).flatMap SegD.cells := by simp
    rw [hcl] at hown6
    obtain ⟨A6, c6, rfl, -, -, -, -⟩ := Rd.of_own hown6 (by decide)
    have O6 := Lib.hid hown6
    have HB6 := HM4.out.grown G6.out (by simp)
    have HB6' := Lib.hid HB6
    have b0 := HB6.cell 0
    have b1 := HB6.cell 1
    have b3 := HB6.cell 3
    have f0 := HB6.frozen 0
    have f1 := HB6.frozen 1
    have f3 := HB6.frozen 3
    simp at b0 b1 b3
    have hwn : IntKind.i64.wrap (num + 1) = num + 1 := IntWalk.i64_in _ (by omega)
    have hwi : IntKind.i64.wrap (nid + 1) = nid + 1 := IntWalk.i64_in _ (by omega)
    obtain ⟨n1, hn1⟩ : ∃ n1, n1 = ss.length + 1 := ⟨_, rfl⟩
    rw [← hn1] at hown6 O6 ⊢
    have HN1 : Hid (n1 = (ss ++ [s]).length) := Lib.hid (by rw [hn1]; simp)
    clear x1 q2 r2 hown6 hg6 hob6 hcl HB6 hn1
    go_simp
    go_upto_region 8 with fail
    obtain ⟨W7, hW7⟩ : ∃ W7, W7 = ((w6.setCell ⟨mb, 3, none⟩ (.slice A6 n1 c6)).setCell ⟨mb, 1, none⟩ (.int .i64 (nid + 1))).setCell ⟨mb, 0, none⟩ (.int .i64 (num + 1)) := ⟨_, rfl⟩
    have g7 : w6.grownBy W7 (some mb) := by rw [hW7]; exact only_setCell (only_setCell (only_setCell (only_refl _ _) (p := ⟨mb, 3, none⟩) (.inl rfl) _) (p := ⟨mb, 1, none⟩) (.inl rfl) _) (p := ⟨mb, 0, none⟩) (.inl rfl) _
    have B7 := Lib.hid ((show Blk W7 mb 31 #[.int .i64 (num + 1), .int .i64 (nid + 1), .int .i64 jn, .slice A6 n1 c6, .slice B ms.length d, .slice C ts.length f, .slice E xs.length h] from by
      rw [hW7]; simpa using ((HB6'.out.set_ 3 (.slice A6 n1 c6)).set_ 1 (.int .i64 (nid + 1))).set_ 0 (.int .i64 (num + 1))))
    have R7 := Lib.hid ((HR4b.out.grown G6.out (by simp)).grown g7 (by intro e; injection e with e; exact hmr e.symm))
    have hrow : ∀ b j, (Value.slice A6 n1 c6).ownBlock = some j → b < W1.heap.size → j ≠ b := fun b j hj hb e => by have := (O6.out.lt j hj).1; omega
    have O7 := Lib.hid (O6.out.kept g7 (by
      cases hu : (Value.slice A6 n1 c6).ownBlock with
      | none => exact .inl rfl
      | some j => exact .inr (by intro e; injection e with e; exact hrow mb j hu (by have := HMB.out; omega) e)))
    have G7 := Lib.hid (only_fresh (only_trans G4.out G6.out) g7 hwm)
    have hM : W4.grownBy W7 (some mb) := only_trans (only_of_none G6.out _) g7
    obtain ⟨A7, c7, e7, hc7, hm7, -, hr7⟩ := Rd.of_own O7.out (by decide)
    injection e7 with e71 e72 e73
    subst e71 e73
    have HR7 := Lib.hid hr7
    have hs7 : W4.heap.size ≤ W7.heap.size := hM.size
    have hmb1 : ∀ b, b < w.heap.size → some b ≠ some mb := fun b hb e => by injection e with e; omega
    have HMM7 := Lib.hid (HMM4.out.grown hM hmb1)
    have HT7 := Lib.hid (HT4.out.grown hM hmb1)
    have HX7 := Lib.hid (HX4.out.grown hM hmb1)
    have KC7 : Hid (Calls Tryz.prog 51 #[.agg #[.int .i64 (num + 1), .int .i64 (nid + 1), .int .i64 jn, .slice A6 n1 c6, .slice B ms.length d, .slice C ts.length f, .slice E xs.length h]] W7 (QuietN (.int .i64 0) W7)) := Lib.hid (by
      rw [HN1.out]
      exact rcheckm_any (num + 1) (nid + 1) jn A6 (ss ++ [s]) c6 B ms d C ts f E xs h W7 HR7.out HMM7.out HT7.out HX7.out (HK.out.add hn hi hl HC.out (by rw [HSE.out])))
    have HW7 := Lib.hid hW7.symm
    clear hW7 g7 hM hr7 b0 b1 b3 f0 f1 f3 O6
    rw [HW7.out]
    have b0 := B7.out.cell 0
    have b1 := B7.out.cell 1
    have b2 := B7.out.cell 2
    have b3 := B7.out.cell 3
    have b4 := B7.out.cell 4
    have b5 := B7.out.cell 5
    have b6 := B7.out.cell 6
    simp at b0 b1 b2 b3 b4 b5 b6
    go_wp2_with fail
    refine KC7.out.mono ?_
    rintro e w8 ⟨rfl, hg8⟩
    have B8 := B7.out.grown hg8 (by simp)
    have R8 := R7.out.grown hg8 (by simp)
    have O8 := Lib.hid (O7.out.kept hg8 (by cases (Value.slice A6 n1 c6).ownBlock <;> simp))
    have G8 := Lib.hid (only_trans G7.out hg8)
    have hs8 := hg8.size
    clear b0 b1 b2 b3 b4 b5 b6 hg8
    have b0 := B8.cell 0
    have b1 := B8.cell 1
    have b2 := B8.cell 2
    have b3 := B8.cell 3
    have b4 := B8.cell 4
    have b5 := B8.cell 5
    have b6 := B8.cell 6
    have r0 := R8.cell 0
    have r1 := R8.cell 1
    have r2 := R8.cell 2
    have r3 := R8.cell 3
    have r4 := R8.cell 4
    have r5 := R8.cell 5
    have r6 := R8.cell 6
    have z0 := R8.frozen 0
    have z1 := R8.frozen 1
    have z2 := R8.frozen 2
    have z3 := R8.frozen 3
    have z4 := R8.frozen 4
    have z5 := R8.frozen 5
    have z6 := R8.frozen 6
    simp at b0 b1 b2 b3 b4 b5 b6 r0 r1 r2 r3 r4 r5 r6
    have P9 := blk_put7 R8 (.int .i64 (num + 1)) (.int .i64 (nid + 1)) (.int .i64 jn) (.slice A6 n1 c6) (.slice B ms.length d) (.slice C ts.length f) (.slice E xs.length h)
    have g9 : w8.grownBy _ (some rb) := only_set7 (only_refl w8 (some rb)) (b := rb) (.int .i64 (num + 1)) (.int .i64 (nid + 1)) (.int .i64 jn) (.slice A6 n1 c6) (.slice B ms.length d) (.slice C ts.length f) (.slice E xs.length h)
    clear B8 R8
    go_wp2_with fail
    obtain ⟨W9, hW9⟩ : ∃ W9, W9 = ((((((w8.setCell ⟨rb, 0, none⟩ (.int .i64 (num + 1))).setCell ⟨rb, 1, none⟩ (.int .i64 (nid + 1))).setCell ⟨rb, 2, none⟩ (.int .i64 jn)).setCell ⟨rb, 3, none⟩ (.slice A6 n1 c6)).setCell ⟨rb, 4, none⟩ (.slice B ms.length d)).setCell ⟨rb, 5, none⟩ (.slice C ts.length f)).setCell ⟨rb, 6, none⟩ (.slice E xs.length h) := ⟨_, rfl⟩
    rw [← hW9] at P9 g9 ⊢
    clear hW9
    have q0 := P9.cell 0
    have q1 := P9.cell 1
    have q2 := P9.cell 2
    have q3 := P9.cell 3
    have q4 := P9.cell 4
    have q5 := P9.cell 5
    have q6 := P9.cell 6
    simp at q0 q1 q2 q3 q4 q5 q6
    have O9 := O8.out.kept g9 (by
      cases hu : (Value.slice A6 n1 c6).ownBlock with
      | none => exact .inl rfl
      | some j => exact .inr (by intro e; injection e with e; exact hrow rb j hu (by have := HRB.out; omega) e))
    obtain ⟨A9, c9, e9, hc9, hm9, -, hr9⟩ := Rd.of_own O9 (by decide)
    injection e9 with e91 e92 e93
    subst e91 e93
    refine bodyPost_ret (v := .tuple #[.agg #[.int .i64 (num + 1), .int .i64 (nid + 1), .int .i64 jn, .slice A6 n1 c6, .slice B ms.length d, .slice C ts.length f, .slice E xs.length h], .int .i64 0]) (by simp [results, Tryz.results25, go_sem, q0, q1, q2, q3, q4, q5, q6]) rfl ?_
    rw [HN1.out] at hc9 ⊢
    exact ⟨A6, c6, rfl, hc9, hm9, hr9.mono (fun b hb _ => by have : W4.heap.size ≤ b := hb; omega), only_fresh G8.out g9 hwr⟩
end Go.Proofs.YtganfhmjklcchaaGreat
