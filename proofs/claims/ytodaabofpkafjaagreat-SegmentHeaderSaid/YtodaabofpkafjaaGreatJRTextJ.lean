/- XText: what this seat has of them (joined by partseat.py). Conditions: as there. -/
import Derived.Lib.Join
import Derived.Test.YtodaabofpkafjaaGreatJDraw
import Derived.Test.YtodaabofpkafjaaGreatJUnion
import Derived.Deep.DeepCutAuto
import Derived.Test.YtodaabofpkafjaaGreatShelf36
namespace Go.Proofs.YtodaabofpkafjaaGreat
open Go.RowKit
set_option linter.unusedVariables false
set_option linter.unusedSimpArgs false

/-- the text of an event -/
def textOf (ls : List LineD) : ByteArray := ⟨(Lib.join (ls.map (·.text.data.toList)) [10]).toArray⟩
def TextP (w : World) (t : ByteArray) (e : Ending) (w' : World) : Prop := e = .returned (.string t) ∧ w.grownBy w' none
theorem join_len : ∀ (xs : List (List UInt8)) (m : Nat), (∀ x ∈ xs, x.length ≤ m) → (Lib.join xs [10]).length ≤ xs.length * (m + 1) := by
  intro xs m
  induction xs with
  | nil => intro _; simp [Lib.join]
  | cons a t ih =>
    intro h
    have h1 := h a List.mem_cons_self
    have h2 := ih (fun x hx => h x (List.mem_cons_of_mem _ hx))
    rw [List.length_cons, Nat.add_mul]
    cases t with
    | nil => simp [Lib.join]; omega
    | cons b t => simp [Lib.join] at h2 ⊢; omega
end Go.Proofs.YtodaabofpkafjaaGreat
namespace Go.Proofs.YtodaabofpkafjaaGreat
open Go.RowKit
set_option linter.unusedVariables false
set_option linter.unusedSimpArgs false

theorem textOf_nil : textOf [] = ⟨#[]⟩ := rfl
theorem textOf_step {ls : List LineD} {k : Nat} {y : LineD} (h : ls[k]? = some y) : textOf (ls.take (k + 1)) = if k = 0 then y.text else textOf (ls.take k) ++ ⟨#[10]⟩ ++ y.text := by
  cases ls with
  | nil => simp at h
  | cons a r =>
    rcases k with _ | k
    · simp at h
      subst h
      rw [if_pos rfl]
      simp [textOf, Lib.join_one]
    · rw [if_neg (by omega)]
      simp at h
      have e : ∀ m, textOf ((a :: r).take (m + 1)) = ⟨(a.text.data.toList ++ Lib.joinTail [10] ((r.map (·.text.data.toList)).take m)).toArray⟩ := fun m => by
        unfold textOf
        rw [List.take_succ_cons, List.map_cons, Lib.join_cons, List.map_take]
      rw [e (k + 1), e k, Lib.joinTail_take_succ [10] _ k y.text.data.toList (by rw [List.getElem?_map, h]; rfl)]
      apply ByteArray.ext
      simp [ByteArray.data_append]
theorem textOf_size {ls : List LineD} (ht : ∀ l ∈ ls, l.text.size ≤ 100000) : ∀ k, k ≤ ls.length → (textOf (ls.take k)).size ≤ k * 100001 := by
  intro k
  induction k with
  | zero => intro _; simp [textOf_nil, ByteArray.size]
  | succ k ih =>
    intro hk
    have h := ih (by omega)
    have hy : ls[k]? = some (ls[k]'(by omega)) := List.getElem?_eq_getElem _
    have hm := ht _ (List.getElem_mem (by omega : k < ls.length))
    rw [textOf_step hy]
    split
    · omega
    · rw [ByteArray.size_append, ByteArray.size_append]
      have : (⟨#[10]⟩ : ByteArray).size = 1 := rfl
      omega
set_option maxHeartbeats 2000000 in
set_option maxRecDepth 100000 in
theorem rtext_any {S : Nat → Prop} (e : Ev) (w : World) (hs : e.Sub S w) (hl : e.lines.length ≤ 1000) (ht : ∀ l ∈ e.lines, l.text.size ≤ 100000) :
    Calls Tryz.prog 30 #[.agg e.cells.toArray] w (TextP w (textOf e.lines)) := by
  obtain ⟨xb, hxb⟩ : ∃ b, b = w.heap.size := ⟨_, rfl⟩
  obtain ⟨W1, hW1⟩ : ∃ W, W = w.alloc (.cells e.cells.toArray 34) := ⟨_, rfl⟩
  have hB1 : Blk W1 xb 34 e.cells.toArray := by rw [hW1, hxb]; exact Blk.new w _ _
  have g1 : w.grownBy W1 none := by rw [hW1]; exact only_alloc (only_refl _ _) _
  have G1 := Lib.hid g1
  have HR := Lib.hid (hs.1.grown g1 (by simp))
  have HT := Lib.hid ht
  have b4 := hB1.cell 4
  simp [Ev.cells] at b4
  have HW1 := Lib.hid hW1.symm
  have HXE := Lib.hid hxb.symm
  obtain ⟨ls, hls⟩ : ∃ ls, ls = e.lines := ⟨_, rfl⟩
  rw [← hls] at HR HT b4 hl ⊢
  clear hs ht hW1 hxb hB1 g1 hls
  go_enter Tryz.func30, Tryz.ntmps30
  go_upto_region 1 with fail
  rw [HW1.out, HXE.out]
  clear HW1 HXE
  go_wp2_with fail
  go_loop [3, 4] (fun v i => ∃ k : Nat, k ≤ ls.length ∧ i = .int .i64 k ∧ v = .string (textOf (ls.take k))) (fun _ i => ls.length - (intOf i).toNat)
  case atStart => exact ⟨0, Nat.zero_le _, rfl, rfl⟩
  case round =>
    obtain ⟨k, hk, rfl, rfl⟩ := hrel
    obtain ⟨t, ht⟩ : ∃ t, t = textOf (ls.take k) := ⟨_, rfl⟩
    have hts := textOf_size HT.out k hk
    have hts2 : k * 100001 ≤ 100001000 := by omega
    rw [← ht] at hts ⊢
    have htz : t.size ≤ 100001000 := Nat.le_trans hts hts2
    have HTT := Lib.hid ht
    clear ht hts hts2
    by_cases hlt : k < ls.length
    · obtain ⟨y, hy⟩ : ∃ y, ls[k]? = some y := ⟨_, List.getElem?_eq_getElem hlt⟩
      obtain ⟨b, o, ela, hbl, -, -⟩ := HR.out (by rw [flat_len _ 3 LineD.cells_len]; omega)
      have hrr := HR.out
      rw [ela] at hrr
      have d2 : W1.cell? ⟨b, o + k * 3 + 2, none⟩ = some (.string y.text) := hrr.flatAt LineD.cells_len hy 2 (by omega)
      have i1 : (k : Int) < (ls.length : Int) := by omega
      rw [ela] at b4
      have HST := Lib.hid (textOf_step hy)
      have hyz := HT.out y (List.mem_of_getElem? hy)
      clear hy hrr hbl ela
      by_cases h0 : k = 0
      · have HV : Hid (textOf (ls.take (k + 1)) = y.text) := Lib.hid (by rw [HST.out, if_pos h0])
        have HV0 : Hid (t = ⟨#[]⟩) := Lib.hid (by rw [HTT.out, h0]; rfl)
        subst h0
        have et := HV0.out
        subst et
        have he : (⟨#[]⟩ : ByteArray) ++ y.text = y.text := ByteArray.empty_append
        go_wp2_with fail
        go_round
        case rel => exact ⟨1, by omega, by go_num, by rw [HV.out]⟩
        case measure => simp [intOf]; omega
      · have i2 : (0 : Int) < (k : Int) := by omega
        have HV : Hid (textOf (ls.take (k + 1)) = t ++ ⟨#[10]⟩ ++ y.text) := Lib.hid (by rw [HST.out, if_neg h0, HTT.out])
        have hs1 : (⟨#[10]⟩ : ByteArray).size = 1 := rfl
        have hs2 : (t ++ (⟨#[10]⟩ : ByteArray)).size ≤ 100001001 := by rw [ByteArray.size_append, hs1]; omega
        clear h0
        go_wp2_with fail
        go_round
        case rel => exact ⟨k + 1, by omega, by go_num, by rw [HV.out]⟩
        case measure => simp [intOf]; omega
    · have HE : Hid (t = textOf ls) := Lib.hid (by rw [HTT.out, List.take_of_length_le (by omega)])
      go_wp2_with fail
      go_ret
      exact ⟨by rw [← HE.out]; rfl, G1.out⟩
end Go.Proofs.YtodaabofpkafjaaGreat

namespace Go.Proofs.YtodaabofpkafjaaGreat
open Go.RowKit
set_option linter.unusedVariables false
set_option linter.unusedSimpArgs false

set_option maxHeartbeats 2000000 in
set_option maxRecDepth 100000 in
theorem text_any {S : Nat → Prop} (e : Ev) (w : World) (hs : e.Sub S w) (hl : e.lines.length ≤ 1000) (ht : ∀ l ∈ e.lines, l.text.size ≤ 100000) :
    Calls Tryz.prog 27 #[.agg e.cells.toArray] w (TextP w (textOf e.lines)) := by
  obtain ⟨xb, hxb⟩ : ∃ b, b = w.heap.size := ⟨_, rfl⟩
  obtain ⟨W1, hW1⟩ : ∃ W, W = w.alloc (.cells e.cells.toArray 34) := ⟨_, rfl⟩
  have hB1 : Blk W1 xb 34 e.cells.toArray := by rw [hW1, hxb]; exact Blk.new w _ _
  have g1 : w.grownBy W1 none := by rw [hW1]; exact only_alloc (only_refl _ _) _
  have G1 := Lib.hid g1
  have hsz1 := g1.size
  have HR := Lib.hid ((hs.1.mono (S' := (· < w.heap.size)) (fun b _ hlt => hlt)).grown g1 (by simp))
  have HT := Lib.hid ht
  have b4 := hB1.cell 4
  simp [Ev.cells] at b4
  have HW1 := Lib.hid hW1.symm
  have HXE := Lib.hid hxb.symm
  obtain ⟨ls, hls⟩ : ∃ ls, ls = e.lines := ⟨_, rfl⟩
  rw [← hls] at HR HT b4 hl ⊢
  clear hs ht hW1 hxb hB1 g1 hls
  go_enter Tryz.func27, Tryz.ntmps27
  go_upto_region 1 with fail
  rw [HW1.out, HXE.out]
  clear HW1 HXE
  go_wp2_with fail
  go_loopw [3, 9] (fun v i wr => ∃ k : Nat, k ≤ ls.length ∧ i = .int .i64 k ∧ wr.ownsRow W1.heap.size 9 1 v k ((ls.take k).map (fun l => .string l.text)) ∧ W1.grownBy wr none) (fun _ i _ => ls.length - (intOf i).toNat)
  case atStart => exact ⟨0, Nat.zero_le _, rfl, World.ownsRow_nil _ _ _ _, only_refl _ _⟩
  case round =>
    obtain ⟨k, hk, rfl, hO, hG⟩ := hrel
    have G := Lib.hid hG
    have hsz := hG.size
    obtain ⟨Ao, co, rfl, hoc, hom, -, hor⟩ := Rd.of_own hO (by decide)
    have OO := Lib.hid hO
    have RO := Lib.hid hor
    clear hO hG hor
    by_cases hlt : k < ls.length
    · obtain ⟨y, hy⟩ : ∃ y, ls[k]? = some y := ⟨_, List.getElem?_eq_getElem hlt⟩
      have hrr := HR.out.grown G.out (by simp)
      obtain ⟨b, o, ela, hbl, -, -⟩ := hrr (by rw [flat_len _ 3 LineD.cells_len]; omega)
      have d0 : wr.cell? ⟨b, o + k * 3, none⟩ = some (.int .i64 y.off) := by
        rw [ela] at hrr; exact hrr.flatAt LineD.cells_len hy 0 (by omega)
      have d1 : wr.cell? ⟨b, o + k * 3 + 1, none⟩ = some (.int .i64 y.len) := by
        rw [ela] at hrr; exact hrr.flatAt LineD.cells_len hy 1 (by omega)
      have d2 : wr.cell? ⟨b, o + k * 3 + 2, none⟩ = some (.string y.text) := by
        rw [ela] at hrr; exact hrr.flatAt LineD.cells_len hy 2 (by omega)
      have HTK : Hid ((ls.take (k + 1)).map (fun l => (Value.string l.text)) = (ls.take k).map (fun l => .string l.text) ++ [.string y.text]) := Lib.hid (by
        rw [List.take_succ_eq_append_getElem hlt, List.map_append]
        rw [List.getElem?_eq_getElem hlt] at hy
        injection hy with hy
        rw [hy]; rfl)
      have i1 : (k : Int) < (ls.length : Int) := by omega
      obtain ⟨W8, hW8⟩ : ∃ W, W = wr.alloc (.cells #[.int .i64 y.off, .int .i64 y.len, .string y.text] 90) := ⟨_, rfl⟩
      have hB8 : Blk W8 wr.heap.size 90 #[.int .i64 y.off, .int .i64 y.len, .string y.text] := by rw [hW8]; exact Blk.new wr _ _
      have g8 : wr.grownBy W8 none := by rw [hW8]; exact only_alloc (only_refl _ _) _
      have G8 := Lib.hid (only_trans G.out g8)
      have O8 := Lib.hid (own_ext OO.out g8)
      have hz8 := G8.out.size
      have c2 := hB8.cell 2
      simp at c2
      have HW8 := Lib.hid hW8.symm
      clear hW8 hB8 g8 hrr hy
      rw [ela]
      go_upto_region 5 with fail
      rw [HW8.out]
      clear d0 d1 d2 HW8
      go_wp2_with (at_builtin; refine wpList_append1 rfl _ _ 29 rfl W1.heap.size Tryz.underlying29 strInfo rfl (by decide) (v := .slice Ao k co) (by rfl) (w0 := W8) (cs := #[.string y.text]) O8.out (by rfl) rfl (by simp [Value.oneCell']) (by decide) (by omega) (by omega) ?_; intro v9 w9 hown9 hg9 hob9)
      have O9 : Hid (w9.ownsRow W1.heap.size 9 1 v9 (k + 1) ((ls.take (k + 1)).map (fun l => .string l.text))) := Lib.hid (by rw [HTK.out]; exact hown9)
      have G9 : Hid (W1.grownBy w9 none) := Lib.hid (only_own G8.out hg9 O8.out (Nat.le_refl _))
      clear hown9 hg9 hob9 c2
      go_wp2_with fail
      go_roundw
      case rel => exact ⟨k + 1, by omega, by go_num, O9.out, G9.out⟩
      case measure => simp [intOf]; omega
    · obtain rfl : k = ls.length := by omega
      have hR := RO.out
      rw [List.take_length] at hR
      have GF := Lib.hid (only_trans G1.out G.out)
      by_cases h0 : ls.length = 0
      · have HV : Hid (textOf ls = ⟨#[]⟩) := Lib.hid (by rw [List.eq_nil_of_length_eq_zero h0]; rfl)
        have KJ := Lib.hid (Tryz.strings_Join_none Ao co ⟨#[10]⟩ wr)
        clear hR hlt
        have i1 : ¬ (((0 : Nat) : Int) < ((0 : Nat) : Int)) := by omega
        rw [h0]
        clear h0
        go_wp2_with fail
        refine KJ.out.mono ?_
        rintro e w3 ⟨rfl, rfl⟩
        go_wp2_with fail
        go_ret
        exact ⟨by rw [HV.out]; rfl, GF.out⟩
      · obtain ⟨b, o, rfl, hb1, hb2, hcell⟩ := hR (by simp; omega)
        have hml : (ls.map (·.text)).length = ls.length := List.length_map ..
        have hjl := join_len (ls.map (·.text.data.toList)) 100000 (fun x hx => by
          obtain ⟨l, hl', rfl⟩ := List.mem_map.1 hx
          have := HT.out l hl'
          rw [Array.length_toList]; exact this)
        rw [List.length_map] at hjl
        have hjl2 : ls.length * (100000 + 1) ≤ 1000 * (100000 + 1) := Nat.mul_le_mul_right _ hl
        have KJ := Tryz.strings_Join b o co (ls.map (·.text)) ⟨#[10]⟩ wr (fun j x hx => by
          have := hcell j (.string x) (by
            rw [List.getElem?_map] at hx ⊢
            cases hj : ls[j]? with
            | none => rw [hj] at hx; cases hx
            | some l => rw [hj] at hx; injection hx with hx; rw [← hx]; rfl)
          exact this) hb2 (by rw [hml]; omega) (by rw [hml]; exact hoc) (by rw [List.map_map]; exact Nat.le_trans hjl (by omega))
        rw [hml] at KJ
        have KJ2 := Lib.hid KJ
        clear KJ hcell hR hjl hjl2 h0
        go_wp2_with fail
        refine KJ2.out.mono ?_
        rintro e w3 ⟨rfl, hbel⟩
        have g3 : wr.grownBy w3 none := ⟨hbel.os, hbel.tape, hbel.output, hbel.size, fun k hk _ => hbel.block k hk⟩
        have G3 := Lib.hid (only_trans GF.out g3)
        clear hbel g3 KJ2
        go_wp2_with fail
        go_ret
        exact ⟨rfl, G3.out⟩
end Go.Proofs.YtodaabofpkafjaaGreat
