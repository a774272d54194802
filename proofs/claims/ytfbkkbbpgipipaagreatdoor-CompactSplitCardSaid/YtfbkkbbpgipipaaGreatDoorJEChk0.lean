/- event.place, within, lines at good events. Conditions: good events. -/
import Derived.Test.YtfbkkbbpgipipaaGreatDoorJFiles
import Derived.Test.YtfbkkbbpgipipaaGreatDoorJEv
import Derived.Deep.DeepCutAuto
import Derived.Test.YtfbkkbbpgipipaaGreatDoorJCloneFd
import Derived.Test.YtfbkkbbpgipipaaGreatDoorJGenC
import Derived.Test.YtfbkkbbpgipipaaGreatDoorJBase
import Derived.Lib.ConvBytes
import Derived.Shelf.Bytes.SlEqualAll
import Derived.Lib.ItoaLen
import Derived.Lib.AppendStr
import Derived.IntWalk
import Derived.Deep.DeepMust
import Derived.Deep.RegionWith
namespace Go.Proofs.YtfbkkbbpgipipaaGreatDoor
open Go.RowKit
set_option linter.unusedVariables false
set_option linter.unusedSimpArgs false

def OkB (w : World) (e : Ending) (w' : World) : Prop := e = .returned (.bool true) ∧ w' = w
def OkE (w : World) (e : Ending) (w' : World) : Prop := e = .returned (.int .i64 0) ∧ w.grownBy w' none
set_option maxHeartbeats 1000000 in
theorem within_any (n lo hi : Int) (h1 : lo ≤ n) (h2 : n ≤ hi) (w : World) : Calls Tryz.prog 42 #[.int .i64 n, .int .i64 lo, .int .i64 hi] w (OkB w) := by
  go_enter Tryz.func42, Tryz.ntmps42
  go_wp2_with fail
  go_ret
  exact ⟨rfl, rfl⟩
def OkB0 (w : World) (e : Ending) (w' : World) : Prop := e = .returned (.bool true) ∧ w.grownBy w' none
set_option maxHeartbeats 4000000 in
set_option maxRecDepth 100000 in
theorem place_e (e : Ev) (h0 : 0 ≤ e.host ∧ e.host ≤ 999) (f0 : 0 ≤ e.file ∧ e.file ≤ 2147483646) (b0 : 0 ≤ e.beg) (bf : e.beg < e.fin) (f2 : e.fin ≤ 60000) (w : World) : Calls Tryz.prog 41 #[.agg e.cells.toArray] w (OkB0 w) := by
  obtain ⟨xb, hxb⟩ : ∃ b, b = w.heap.size := ⟨_, rfl⟩
  obtain ⟨W1, hW1⟩ : ∃ W, W = w.alloc (.cells #[.int .i64 e.host, .int .i64 e.file, .int .i64 e.beg, .int .i64 e.fin, .slice e.la e.lines.length e.lc, .int .i64 e.time, .int .i64 e.weight, .string e.trace, .string e.stream, .slice e.fa e.fields.length e.fc] 35) := ⟨_, rfl⟩
  have G1 : Hid (w.grownBy W1 none) := Lib.hid (by rw [hW1]; exact only_alloc (only_refl _ _) _)
  have B1 : Hid (Blk W1 xb 35 #[.int .i64 e.host, .int .i64 e.file, .int .i64 e.beg, .int .i64 e.fin, .slice e.la e.lines.length e.lc, .int .i64 e.time, .int .i64 e.weight, .string e.trace, .string e.stream, .slice e.fa e.fields.length e.fc]) := Lib.hid (by rw [hW1, hxb]; exact Blk.new w _ _)
  have KH := Lib.hid (within_any e.host 0 999 h0.1 h0.2)
  have KF := Lib.hid (within_any e.file 0 2147483646 f0.1 f0.2)
  have HW := Lib.hid hW1.symm
  have HXB := Lib.hid hxb
  clear hW1 hxb
  rw [show e.cells.toArray = #[.int .i64 e.host, .int .i64 e.file, .int .i64 e.beg, .int .i64 e.fin, .slice e.la e.lines.length e.lc, .int .i64 e.time, .int .i64 e.weight, .string e.trace, .string e.stream, .slice e.fa e.fields.length e.fc] from rfl]
  go_enter Tryz.func41, Tryz.ntmps41
  go_upto_region 1 with fail
  rw [HW.out, ← HXB.out]
  clear HW
  have c0 := B1.out.cell 0; have c1 := B1.out.cell 1; have c2 := B1.out.cell 2; have c3 := B1.out.cell 3
  simp at c0 c1 c2 c3
  go_wp2_with fail
  refine (KH.out _).mono ?_
  rintro en w2 ⟨rfl, rfl⟩
  go_wp2_with fail
  refine (KF.out _).mono ?_
  rintro en w2 ⟨rfl, rfl⟩
  go_wp2_with fail
  go_ret
  exact ⟨rfl, G1.out⟩
set_option maxHeartbeats 8000000 in
set_option maxRecDepth 100000 in
theorem lines_e {S : Nat → Prop} {w : World} (e : Ev) (tx : Int) (hs : e.Sub S w) (l0 : 1 ≤ e.lines.length) (l1 : e.lines.length ≤ 40) (b0 : 0 ≤ e.beg) (f2 : e.fin ≤ 60000) (ch : Chain e.beg e.lines e.fin) (ht : 60 ≤ tx) :
    Calls Tryz.prog 43 #[.agg e.cells.toArray, .int .i64 tx] w (OkE w) := by
  obtain ⟨xb, hxb⟩ : ∃ b, b = w.heap.size := ⟨_, rfl⟩
  obtain ⟨W1, hW1⟩ : ∃ W, W = w.alloc (.cells #[.int .i64 e.host, .int .i64 e.file, .int .i64 e.beg, .int .i64 e.fin, .slice e.la e.lines.length e.lc, .int .i64 e.time, .int .i64 e.weight, .string e.trace, .string e.stream, .slice e.fa e.fields.length e.fc] 35) := ⟨_, rfl⟩
  have g1 : w.grownBy W1 none := by rw [hW1]; exact only_alloc (only_refl _ _) _
  have G1 : Hid (w.grownBy W1 none) := Lib.hid g1
  have B1 : Hid (Blk W1 xb 35 #[.int .i64 e.host, .int .i64 e.file, .int .i64 e.beg, .int .i64 e.fin, .slice e.la e.lines.length e.lc, .int .i64 e.time, .int .i64 e.weight, .string e.trace, .string e.stream, .slice e.fa e.fields.length e.fc]) := Lib.hid (by rw [hW1, hxb]; exact Blk.new w _ _)
  have HL : Hid (Rd (fun _ => True) W1 e.la (e.lines.flatMap LineD.cells)) := Lib.hid ((hs.1.grown (row := none) g1 (by simp)).mono (fun _ _ _ => trivial))
  have HC := Lib.hid ch
  have HW := Lib.hid hW1.symm
  have HXB := Lib.hid hxb
  clear hW1 hxb g1 hs ch
  obtain ⟨lb, lo, eL, -, hlb, -⟩ := HL.out (by rw [flat_len _ 3 LineD.cells_len]; omega)
  rw [show e.cells.toArray = #[.int .i64 e.host, .int .i64 e.file, .int .i64 e.beg, .int .i64 e.fin, .slice e.la e.lines.length e.lc, .int .i64 e.time, .int .i64 e.weight, .string e.trace, .string e.stream, .slice e.fa e.fields.length e.fc] from rfl]
  rw [eL] at HL B1 HW ⊢
  go_enter Tryz.func43, Tryz.ntmps43
  go_upto_region 1 with fail
  rw [HW.out, ← HXB.out]
  clear HW eL
  have n1 : ¬ ((e.lines.length : Int) = 0) := by omega
  have n2 : ¬ ((40 : Int) < (e.lines.length : Int)) := by omega
  have n3 : ((e.lines.length : Int) == 0) = false := beq_false_of_ne n1
  have n4 : ¬ e.lines = [] := fun h => by rw [h] at l0; simp at l0
  have c2 := B1.out.cell 2; have c3 := B1.out.cell 3; have c4 := B1.out.cell 4
  simp at c2 c3 c4
  go_wp2_with fail
  go_loopw [5, 24] (fun va vi wr => ∃ (k : Nat) (at_ : Int), va = .int .i64 at_ ∧ vi = .int .i64 k ∧ k ≤ e.lines.length ∧ Chain at_ (e.lines.drop k) e.fin ∧ 0 ≤ at_ ∧ W1.grownBy wr none) (fun _ vi _ => e.lines.length - (intOf vi).toNat)
  case atStart => exact ⟨0, e.beg, rfl, rfl, Nat.zero_le _, by simpa using HC.out, b0, only_refl _ _⟩
  case round =>
    obtain ⟨k, at_, rfl, rfl, hk, hch, ha0, hG⟩ := hrel
    have G := Lib.hid hG
    have BR := Lib.hid (B1.out.grown hG (by simp))
    have hle := hch.le
    by_cases hlt : k < e.lines.length
    · obtain ⟨z, hz⟩ : ∃ z, e.lines[k]? = some z := ⟨_, List.getElem?_eq_getElem hlt⟩
      have hd : e.lines.drop k = z :: e.lines.drop (k + 1) := by
        rw [List.drop_eq_getElem_cons hlt]
        rw [List.getElem?_eq_getElem hlt] at hz
        injection hz with hz
        rw [hz]
      rw [hd] at hch
      obtain ⟨h1, h2, h3, h4⟩ := hch
      have hle4 := h4.le
      rw [List.length_drop] at hle4
      have HCH := Lib.hid h4
      have hr := HL.out.grown hG (by simp)
      have d0 : wr.cell? ⟨lb, lo + k * 3, none⟩ = some (.int .i64 z.off) := hr.flatAt LineD.cells_len hz 0 (by omega)
      have d1 : wr.cell? ⟨lb, lo + k * 3 + 1, none⟩ = some (.int .i64 z.len) := hr.flatAt LineD.cells_len hz 1 (by omega)
      have d2 : wr.cell? ⟨lb, lo + k * 3 + 2, none⟩ = some (.string z.text) := hr.flatAt LineD.cells_len hz 2 (by omega)
      have hlast : k + 1 = e.lines.length → at_ + z.len = e.fin := fun hkk => by
        have : e.lines.drop (k + 1) = [] := by rw [hkk]; simp
        rw [this] at h4
        exact h4
      obtain ⟨zl, hzl⟩ : ∃ q, q = z.len := ⟨_, rfl⟩
      obtain ⟨zo, hzo⟩ : ∃ q, q = z.off := ⟨_, rfl⟩
      rw [← hzl] at d1 h2 h3 hle4 hlast HCH
      rw [← hzo] at d0 h1
      subst h1
      have i1 : (k : Int) < (e.lines.length : Int) := by omega
      have i2 : (0 : Int) ≤ (k : Int) := by omega
      have i3 : (z.text.size : Int) ≤ 59 := by omega
      have hkb : lb < wr.heap.size := Nat.lt_of_lt_of_le hlb hG.size
      have e0 := BR.out.cell 2; have e1 := BR.out.cell 3; have e2 := BR.out.cell 4
      simp at e0 e1 e2
      have i4 : ¬ (zl < 1) := by omega
      have i5 : zl ≤ e.fin - zo := by omega
      have hxl : xb < wr.heap.size := BR.out.lt
      have hxn : xb ≠ wr.heap.size := by omega
      clear hG hr hz hd h4 hzl hzo hlb
      by_cases hl : k + 1 = e.lines.length
      · have i6 := hlast hl
        have i7 : ((k : Int) == (e.lines.length : Int) - 1) = true := by simp; omega
        have HC6 : Hid (Chain e.fin (e.lines.drop (k + 1)) e.fin) := Lib.hid (by rw [← i6]; simpa [i6] using HCH.out)
        go_wp2_with fail
        go_roundw
        case rel => exact ⟨k + 1, e.fin, rfl, by go_num, by omega, HC6.out, by omega, only_alloc G.out _⟩
        case measure => simp [intOf]; omega
      · have i7 : ((k : Int) == (e.lines.length : Int) - 1) = false := by simp; omega
        clear hlast
        go_wp2_with fail
        go_roundw
        case rel => exact ⟨k + 1, zo + zl, by go_num, by go_num, by omega, HCH.out, by omega, only_alloc G.out _⟩
        case measure => simp [intOf]; omega
    · have i1 : ¬ ((k : Int) < (e.lines.length : Int)) := by omega
      go_wp2_with fail
      go_ret
      exact ⟨rfl, only_trans G1.out G.out⟩
end Go.Proofs.YtfbkkbbpgipipaaGreatDoor

namespace Go.Proofs.YtfbkkbbpgipipaaGreatDoor
open Go.RowKit
set_option linter.unusedVariables false
set_option linter.unusedSimpArgs false

set_option maxHeartbeats 2000000 in
set_option maxRecDepth 100000 in
theorem feq_any {S S' : Nat → Prop} (A B : Option Addr) (fs : List FieldD) (c d : Nat) (w : World) (h1 : Rd S w A (fs.flatMap FieldD.cells)) (h2 : Rd S' w B (fs.flatMap FieldD.cells)) (hl : fs.length ≤ 1000) :
    Calls Tryz.prog 45 #[.slice A fs.length c, .slice B fs.length d] w (OkB0 w) := by
  have H1 := Lib.hid h1
  have H2 := Lib.hid h2
  clear h1 h2
  go_enter Tryz.func45, Tryz.ntmps45
  go_wp2_with fail
  go_loopw [13] (fun vi wr => ∃ k : Nat, vi = .int .i64 k ∧ k ≤ fs.length ∧ w.grownBy wr none) (fun vi _ => fs.length - (intOf vi).toNat)
  case atStart => exact ⟨0, rfl, Nat.zero_le _, only_refl _ _⟩
  case round =>
    obtain ⟨k, rfl, hk, hG⟩ := hrel
    have G := Lib.hid hG
    clear hG
    by_cases hlt : k < fs.length
    · obtain ⟨z, hz⟩ : ∃ z, fs[k]? = some z := ⟨_, List.getElem?_eq_getElem hlt⟩
      have r1 := H1.out.grown G.out (by simp)
      have r2 := H2.out.grown G.out (by simp)
      obtain ⟨fb, fo, rfl, -, -, -⟩ := r1 (by rw [flat_len _ 2 FieldD.cells_len]; omega)
      obtain ⟨gb, go, rfl, -, -, -⟩ := r2 (by rw [flat_len _ 2 FieldD.cells_len]; omega)
      have q0 : wr.cell? ⟨fb, fo + k * 2, none⟩ = some (.string z.name) := r1.flatAt FieldD.cells_len hz 0 (by omega)
      have q1 : wr.cell? ⟨fb, fo + k * 2 + 1, none⟩ = some (.string z.value) := r1.flatAt FieldD.cells_len hz 1 (by omega)
      have q2 : wr.cell? ⟨gb, go + k * 2, none⟩ = some (.string z.name) := r2.flatAt FieldD.cells_len hz 0 (by omega)
      have q3 : wr.cell? ⟨gb, go + k * 2 + 1, none⟩ = some (.string z.value) := r2.flatAt FieldD.cells_len hz 1 (by omega)
      have j1 : (k : Int) < (fs.length : Int) := by omega
      have j2 : (0 : Int) ≤ (k : Int) := by omega
      clear r1 r2 hz
      go_wp2_with fail
      go_quiet (fail)
      have G5 := Lib.hid (only_drewN G.out nq)
      clear q0 q1 q2 q3 G
      go_wp2_with fail
      go_roundw
      case rel => exact ⟨k + 1, by go_num, by omega, G5.out⟩
      case measure => simp [intOf]; omega
    · have j1 : ¬ ((k : Int) < (fs.length : Int)) := by omega
      go_wp2_with fail
      go_ret
      exact ⟨rfl, G.out⟩
set_option maxHeartbeats 1000000 in
theorem vlong_any (a b : ByteArray) (hb : b.size ≤ 2000) (w : World) : Calls Tryz.prog 47 #[.agg #[.string a, .string b]] w (fun e w' => e = .returned (.bool false) ∧ w.grownBy w' none) := by
  have G1 : Hid (w.grownBy (w.alloc (.cells #[.string a, .string b] 69)) none) := Lib.hid (only_alloc (only_refl _ _) _)
  have i1 : ¬ ((2000 : Int) < (b.size : Int)) := by omega
  go_enter Tryz.func47, Tryz.ntmps47
  go_wp2_with fail
  go_ret
  exact ⟨by simp, G1.out⟩
set_option maxHeartbeats 2000000 in
set_option maxRecDepth 100000 in
theorem fidx_any {S : Nat → Prop} (A : Option Addr) (fs : List FieldD) (c : Nat) (w : World) (h1 : Rd S w A (fs.flatMap FieldD.cells)) (hl : fs.length ≤ 1000) (hv : ∀ f ∈ fs, f.value.size ≤ 2000) :
    Calls Tryz.prog 64 #[.slice A fs.length c, .func (.func 47) #[] #[]] w (fun e w' => e = .returned (.int .i64 (-1)) ∧ w.grownBy w' none) := by
  have H1 := Lib.hid h1
  have HV := Lib.hid hv
  clear h1 hv
  go_enter Tryz.func64, Tryz.ntmps64
  go_wp2_with fail
  go_loopw [8] (fun vi wr => ∃ k : Nat, vi = .int .i64 k ∧ k ≤ fs.length ∧ w.grownBy wr none) (fun vi _ => fs.length - (intOf vi).toNat)
  case atStart => exact ⟨0, rfl, Nat.zero_le _, only_refl _ _⟩
  case round =>
    obtain ⟨k, rfl, hk, hG⟩ := hrel
    have G := Lib.hid hG
    clear hG
    by_cases hlt : k < fs.length
    · obtain ⟨z, hz⟩ : ∃ z, fs[k]? = some z := ⟨_, List.getElem?_eq_getElem hlt⟩
      have r1 := H1.out.grown G.out (by simp)
      obtain ⟨fb, fo, rfl, -, -, -⟩ := r1 (by rw [flat_len _ 2 FieldD.cells_len]; omega)
      have q0 : wr.cell? ⟨fb, fo + k * 2, none⟩ = some (.string z.name) := r1.flatAt FieldD.cells_len hz 0 (by omega)
      have q1 : wr.cell? ⟨fb, fo + k * 2 + 1, none⟩ = some (.string z.value) := r1.flatAt FieldD.cells_len hz 1 (by omega)
      have j1 : (k : Int) < (fs.length : Int) := by omega
      have j2 : (0 : Int) ≤ (k : Int) := by omega
      have KV := Lib.hid (vlong_any z.name z.value (HV.out z (List.mem_of_getElem? hz)) wr)
      clear r1 hz
      go_wp2_with fail
      refine KV.out.mono ?_
      rintro e w2 ⟨rfl, hg2⟩
      have G5 := Lib.hid (only_trans G.out hg2)
      clear q0 q1 G hg2 KV
      go_wp2_with fail
      go_roundw
      case rel => exact ⟨k + 1, by go_num, by omega, G5.out⟩
      case measure => simp [intOf]; omega
    · have j1 : ¬ ((k : Int) < (fs.length : Int)) := by omega
      go_wp2_with fail
      go_ret
      exact ⟨rfl, G.out⟩
set_option maxHeartbeats 1000000 in
theorem fcont_any {S : Nat → Prop} (A : Option Addr) (fs : List FieldD) (c : Nat) (w : World) (h1 : Rd S w A (fs.flatMap FieldD.cells)) (hl : fs.length ≤ 1000) (hv : ∀ f ∈ fs, f.value.size ≤ 2000) :
    Calls Tryz.prog 46 #[.slice A fs.length c, .func (.func 47) #[] #[]] w (fun e w' => e = .returned (.bool false) ∧ w.grownBy w' none) := by
  have KI := Lib.hid (fidx_any A fs c w h1 hl hv)
  clear h1 hv
  go_enter Tryz.func46, Tryz.ntmps46
  go_wp2_with fail
  refine KI.out.mono ?_
  rintro e w2 ⟨rfl, hg2⟩
  have G2 := Lib.hid hg2
  clear hg2
  go_wp2_with fail
  go_ret
  exact ⟨rfl, G2.out⟩
/-- what event.Check asks -/
structure EvO (e : Ev) : Prop where
  h0 : 0 ≤ e.host ∧ e.host ≤ 999
  f0 : 0 ≤ e.file ∧ e.file ≤ 2147483646
  b0 : 0 ≤ e.beg
  bf : e.beg < e.fin
  f2 : e.fin ≤ 60000
  t0 : 0 ≤ e.time ∧ e.time ≤ 253402300799999
  wt : IsWeight e.weight
  l0 : 1 ≤ e.lines.length
  l1 : e.lines.length ≤ 40
  ch : Chain e.beg e.lines e.fin
  tr : e.trace.size ≤ 32
  st : e.stream.size ≤ 32
  fl : e.fields.length ≤ 19
  fn : ∀ f ∈ e.fields, LowNm f.name
  fs : AscN_ e.fields
  fv : ∀ f ∈ e.fields, f.value.size ≤ 2000
  fa : e.fa = none → e.fields.length = 0
set_option maxHeartbeats 8000000 in
set_option maxRecDepth 100000 in
theorem echeck_any {S : Nat → Prop} (e : Ev) (w : World) (hs : e.Sub S w) (h : EvO e) (hK : Kinds w) :
    Calls Tryz.prog 24 #[.agg e.cells.toArray] w (OkE w) := by
  have hEV : e.cells.toArray = #[.int .i64 e.host, .int .i64 e.file, .int .i64 e.beg, .int .i64 e.fin, .slice e.la e.lines.length e.lc, .int .i64 e.time, .int .i64 e.weight, .string e.trace, .string e.stream, .slice e.fa e.fields.length e.fc] := rfl
  obtain ⟨xb, hxb⟩ : ∃ b, b = w.heap.size := ⟨_, rfl⟩
  obtain ⟨W1, hW1⟩ : ∃ W, W = w.alloc (.cells #[.int .i64 e.host, .int .i64 e.file, .int .i64 e.beg, .int .i64 e.fin, .slice e.la e.lines.length e.lc, .int .i64 e.time, .int .i64 e.weight, .string e.trace, .string e.stream, .slice e.fa e.fields.length e.fc] 35) := ⟨_, rfl⟩
  have g1 : w.grownBy W1 none := by rw [hW1]; exact only_alloc (only_refl _ _) _
  have G1 : Hid (w.grownBy W1 none) := Lib.hid g1
  have B1 : Hid (Blk W1 xb 35 #[.int .i64 e.host, .int .i64 e.file, .int .i64 e.beg, .int .i64 e.fin, .slice e.la e.lines.length e.lc, .int .i64 e.time, .int .i64 e.weight, .string e.trace, .string e.stream, .slice e.fa e.fields.length e.fc]) := Lib.hid (by rw [hW1, hxb]; exact Blk.new w _ _)
  have KP : Hid (∀ W, Calls Tryz.prog 41 #[.agg #[.int .i64 e.host, .int .i64 e.file, .int .i64 e.beg, .int .i64 e.fin, .slice e.la e.lines.length e.lc, .int .i64 e.time, .int .i64 e.weight, .string e.trace, .string e.stream, .slice e.fa e.fields.length e.fc]] W (OkB0 W)) := Lib.hid (fun W => by have := place_e e h.h0 h.f0 h.b0 h.bf h.f2 W; rwa [hEV] at this)
  have KT := Lib.hid (within_any e.time 0 253402300799999 h.t0.1 h.t0.2)
  have KL : Hid (∀ W, w.grownBy W none → Calls Tryz.prog 43 #[.agg #[.int .i64 e.host, .int .i64 e.file, .int .i64 e.beg, .int .i64 e.fin, .slice e.la e.lines.length e.lc, .int .i64 e.time, .int .i64 e.weight, .string e.trace, .string e.stream, .slice e.fa e.fields.length e.fc], .int .i64 2000] W (OkE W)) := Lib.hid (fun W hg => by have := lines_e e 2000 (hs.grown hg (by simp)) h.l0 h.l1 h.b0 h.f2 h.ch (by omega); rwa [hEV] at this)
  have KS : Hid (∀ W, w.grownBy W none → Calls Tryz.prog 44 #[.slice e.fa e.fields.length e.fc] W (PSortP W e.fields)) := Lib.hid (fun W hg => psort_any e.fa e.fields e.fc W (hs.2.1.grown hg (by simp)) h.fl h.fs h.fn (hK.grown hg (by simp)) h.fa)
  have HF := Lib.hid hs.2.1
  have HFV := Lib.hid h.fv
  have HWT := Lib.hid h.wt
  have hfl := h.fl
  have i1 : ¬ ((32 : Int) < (e.trace.size : Int)) := by have := h.tr; omega
  have i2 : ¬ ((32 : Int) < (e.stream.size : Int)) := by have := h.st; omega
  have HW := Lib.hid hW1.symm
  have HXB := Lib.hid hxb
  rw [hEV]
  clear hW1 hxb g1 hs h hK hEV
  go_enter Tryz.func24, Tryz.ntmps24
  go_upto_region 1 with fail
  rw [HW.out, ← HXB.out]
  clear HW
  have c0 := B1.out.cell 0; have c1 := B1.out.cell 1; have c2 := B1.out.cell 2; have c3 := B1.out.cell 3; have c4 := B1.out.cell 4; have c5 := B1.out.cell 5; have c6 := B1.out.cell 6; have c7 := B1.out.cell 7; have c8 := B1.out.cell 8; have c9 := B1.out.cell 9; simp at c0 c1 c2 c3 c4 c5 c6 c7 c8 c9
  go_wp2_with fail
  refine (KP.out W1).mono ?_
  rintro en w2 ⟨rfl, hg2⟩
  have G2 := Lib.hid (only_trans G1.out hg2)
  have B2 := Lib.hid (B1.out.grown hg2 (by simp))
  clear hg2 c0 c1 c2 c3 c4 c5 c6 c7 c8 c9 B1 KP
  have c0 := B2.out.cell 0; have c1 := B2.out.cell 1; have c2 := B2.out.cell 2; have c3 := B2.out.cell 3; have c4 := B2.out.cell 4; have c5 := B2.out.cell 5; have c6 := B2.out.cell 6; have c7 := B2.out.cell 7; have c8 := B2.out.cell 8; have c9 := B2.out.cell 9; simp at c0 c1 c2 c3 c4 c5 c6 c7 c8 c9
  go_wp2_with fail
  refine (KT.out w2).mono ?_
  rintro en w3 ⟨rfl, rfl⟩
  go_upto_region 3 with fail
  go_cut [16] (fun v wx => v = .bool false ∧ w.grownBy wx none ∧ Blk wx xb 35 #[.int .i64 e.host, .int .i64 e.file, .int .i64 e.beg, .int .i64 e.fin, .slice e.la e.lines.length e.lc, .int .i64 e.time, .int .i64 e.weight, .string e.trace, .string e.stream, .slice e.fa e.fields.length e.fc])
  case first =>
    obtain ⟨q, hq⟩ : ∃ q, q = e.weight := ⟨_, rfl⟩
    rw [← hq] at c6
    have HQ := HWT.out
    rw [← hq] at HQ
    have HB := Lib.hid (And.intro G2.out B2.out)
    clear hq
    rcases HQ with rfl | rfl | rfl | rfl | rfl
    all_goals go_wp2_with fail
    all_goals go_meet
    all_goals exact ⟨rfl, HB.out⟩
  case rest =>
    obtain ⟨rfl, hgc, hbc⟩ := hcut
    have G3 := Lib.hid hgc
    have B3 := Lib.hid hbc
    clear hgc hbc G2 B2 c0 c1 c2 c3 c4 c5 c6 c7 c8 c9
    have c0 := B3.out.cell 0; have c1 := B3.out.cell 1; have c2 := B3.out.cell 2; have c3 := B3.out.cell 3; have c4 := B3.out.cell 4; have c5 := B3.out.cell 5; have c6 := B3.out.cell 6; have c7 := B3.out.cell 7; have c8 := B3.out.cell 8; have c9 := B3.out.cell 9; simp at c0 c1 c2 c3 c4 c5 c6 c7 c8 c9
    go_wp2_with fail
    refine (KL.out wc G3.out).mono ?_
    rintro en w4 ⟨rfl, hg4⟩
    have G4 := Lib.hid (only_trans G3.out hg4)
    have B4 := Lib.hid (B3.out.grown hg4 (by simp))
    clear hg4 c0 c1 c2 c3 c4 c5 c6 c7 c8 c9 B3 G3 KL
    have c0 := B4.out.cell 0; have c1 := B4.out.cell 1; have c2 := B4.out.cell 2; have c3 := B4.out.cell 3; have c4 := B4.out.cell 4; have c5 := B4.out.cell 5; have c6 := B4.out.cell 6; have c7 := B4.out.cell 7; have c8 := B4.out.cell 8; have c9 := B4.out.cell 9; simp at c0 c1 c2 c3 c4 c5 c6 c7 c8 c9
    go_wp2_with fail
    refine (KS.out w4 G4.out).mono ?_
    rintro en w5 ⟨A5, cp5, rfl, hr5, hg5⟩
    have G5 := Lib.hid (only_trans G4.out hg5)
    have B5 := Lib.hid (B4.out.grown hg5 (by simp))
    have KQ := Lib.hid (feq_any A5 e.fa e.fields cp5 e.fc w5 hr5 (HF.out.grown G5.out (by simp)) (by omega))
    have R5 := Lib.hid hr5
    clear hg5 hr5 c0 c1 c2 c3 c4 c5 c6 c7 c8 c9 B4 G4 KS
    have c0 := B5.out.cell 0; have c1 := B5.out.cell 1; have c2 := B5.out.cell 2; have c3 := B5.out.cell 3; have c4 := B5.out.cell 4; have c5 := B5.out.cell 5; have c6 := B5.out.cell 6; have c7 := B5.out.cell 7; have c8 := B5.out.cell 8; have c9 := B5.out.cell 9; simp at c0 c1 c2 c3 c4 c5 c6 c7 c8 c9
    go_wp2_with fail
    refine KQ.out.mono ?_
    rintro en w6 ⟨rfl, hg6⟩
    have G6 := Lib.hid (only_trans G5.out hg6)
    have KC := Lib.hid (fcont_any A5 e.fields cp5 w6 (R5.out.grown hg6 (by simp)) (by omega) HFV.out)
    clear hg6 c0 c1 c2 c3 c4 c5 c6 c7 c8 c9 B5 G5 KQ
    go_wp2_with fail
    refine KC.out.mono ?_
    rintro en w7 ⟨rfl, hg7⟩
    have G7 := Lib.hid (only_trans G6.out hg7)
    clear hg7 KC G6
    go_wp2_with fail
    go_ret
    exact ⟨rfl, G7.out⟩
end Go.Proofs.YtfbkkbbpgipipaaGreatDoor

namespace Go.Proofs.YtfbkkbbpgipipaaGreatDoor
open Go.RowKit
set_option linter.unusedVariables false
set_option linter.unusedSimpArgs false

theorem u8Info27 : (Tryz.prog.info? 5).map (fun i => (i.zero, i.size, i.bytes)) = some (some (.int .u8 0), 1, 1) := by kernel_rfl
theorem bytesin_rd {S : Nat → Prop} {w : World} {A : Option Addr} {bs : List Int} (h : Rd S w A (bs.map (.int .u8))) : Lib.BytesIn w A bs.length bs := by
  intro h0
  obtain ⟨b, o, rfl, -, -, hc⟩ := h (by simpa using h0)
  refine ⟨b, o, rfl, fun j hj => ?_⟩
  exact hc j _ (by rw [List.getElem?_map, List.getElem?_eq_getElem hj, List.getD_eq_getElem?_getD, List.getElem?_eq_getElem hj]; rfl)
def natB (l : List UInt8) : List Int := l.map (fun b => (b.toNat : Int))
theorem dig_toNat {d : Nat} (h : d < 10) : ((UInt8.ofNat (48 + d)).toNat : Int) = 48 + d := by
  have : (UInt8.ofNat (48 + d)).toNat = 48 + d := by simp [UInt8.toNat_ofNat]; omega
  rw [this]; omega
theorem nDigits_le : ∀ (k u : Nat), 1 ≤ k → u < 10 ^ k → Lib.nDigits u ≤ k
  | 0, _, h, _ => by omega
  | k + 1, u, _, h => by
    by_cases h10 : u < 10
    · rw [Lib.nDigits_small h10]; omega
    · rw [Lib.nDigits_big h10]
      by_cases hk : k = 0
      · subst hk; simp at h; omega
      · have := nDigits_le k (u / 10) (by omega) (by rw [Nat.pow_succ] at h; omega)
        omega
end Go.Proofs.YtfbkkbbpgipipaaGreatDoor

namespace Go.Proofs.YtfbkkbbpgipipaaGreatDoor
open Go.RowKit
set_option linter.unusedVariables false
set_option linter.unusedSimpArgs false

theorem byteInfo : (Tryz.prog.info? 5).map (fun i => (i.zero, i.size, i.bytes)) = some (some (.int .u8 0), 1, 1) := by kernel_rfl

/-- the row v has grown to v' -/
def Onto (w : World) (v v' : Value) (w' : World) : Prop := w.grownBy w' v.ownBlock ∧ (v'.ownBlock = v.ownBlock ∨ ∃ k, w.heap.size ≤ k ∧ v'.ownBlock = some k)
theorem Onto.refl (w : World) (v : Value) : Onto w v v w := ⟨only_refl _ _, .inl rfl⟩
theorem Onto.trans {w w1 w2 : World} {v v1 v2 : Value} (h : Onto w v v1 w1) (k : Onto w1 v1 v2 w2) : Onto w v v2 w2 := by
  obtain ⟨hg, ho⟩ := h
  obtain ⟨kg, ko⟩ := k
  have hz := hg.size
  refine ⟨?_, ?_⟩
  · rcases ho with e | ⟨j, hj, e⟩
    · rw [e] at kg; exact only_trans hg kg
    · rw [e] at kg; exact only_fresh hg kg hj
  · rcases ko with e | ⟨j, hj, e⟩
    · rw [e]; exact ho
    · exact .inr ⟨j, by omega, e⟩
theorem Onto.drewN {w w1 : World} {v v1 : Value} (h : Onto w v v1 w1) (n : Nat) : Onto w v v1 (w1.drewN n) := ⟨only_drewN h.1 n, h.2⟩
theorem Onto.drew {w w1 : World} {v v1 : Value} (h : Onto w v v1 w1) : Onto w v v1 w1.drew := ⟨only_drew h.1, h.2⟩
/-- a frame over a row of the call's own -/
theorem Onto.only {a w w' : World} {base e size n : Nat} {v v' : Value} {xs : List Value} {row : Option Nat} (k : Onto w v v' w') (h : a.grownBy w row) (ho : w.ownsRow base e size v n xs) (hb : a.heap.size ≤ base) : a.grownBy w' row := only_own h k.1 ho hb
theorem onto_ap {w0 w1 : World} {v v' : Value} (hg : w0.grownBy w1 v.ownBlock) (hob : v'.ownBlock = v.ownBlock ∨ v'.ownBlock = some (w0.heap.size + 1)) : Onto w0 v v' w1 :=
  ⟨hg, hob.elim .inl fun h => .inr ⟨_, by omega, h⟩⟩
theorem Rd.onto {S : Nat → Prop} {w w' : World} {v v' : Value} {A : Option Addr} {xs : List Value} (h : Rd S w A xs) (k : Onto w v v' w') (hne : ∀ b, S b → some b ≠ v.ownBlock) : Rd S w' A xs := h.grown k.1 hne
/-- what was apart from the old row is apart from the grown one -/
theorem Onto.ne {S : Nat → Prop} {w w' : World} {v v' : Value} (k : Onto w v v' w') (hS : ∀ b, S b → b < w.heap.size) (hne : ∀ b, S b → some b ≠ v.ownBlock) : ∀ b, S b → some b ≠ v'.ownBlock := fun b hb e => by
  rcases k.2 with h | ⟨j, hj, h⟩
  · rw [h] at e; exact hne b hb e
  · rw [h] at e; injection e with e; have := hS b hb; omega
/-- bytes in a row that this call or its caller made -/
def Byts (base : Nat) (w : World) (v : Value) (xs : List Int) : Prop := w.ownsRow base 5 1 v xs.length (xs.map (.int .u8))
theorem Byts.snoc {base : Nat} {w : World} {v : Value} {xs : List Int} {x : Int} (h : w.ownsRow base 5 1 v (xs.length + 1) (xs.map (.int .u8) ++ #[Value.int .u8 x].toList)) : Byts base w v (xs ++ [x]) := own_snoc_int h
def bts (s : ByteArray) : List Int := s.data.toList.map (fun b => (b.toNat : Int))
theorem bts_len (s : ByteArray) : (bts s).length = s.size := by simp [bts]
theorem bts_cells (s : ByteArray) : (bts s).map (.int .u8) = Lib.strCells s := by simp [bts, Lib.strCells]
theorem Byts.str {base : Nat} {w : World} {v : Value} {xs : List Int} {s : ByteArray} (h : w.ownsRow base 5 1 v (xs.length + s.size) (xs.map (.int .u8) ++ Lib.strCells s)) : Byts base w v (xs ++ bts s) := by
  unfold Byts; rw [List.map_append, bts_cells, List.length_append, bts_len]; exact h
theorem Byts.drewN {base : Nat} {w : World} {v : Value} {xs : List Int} (h : Byts base w v xs) (n : Nat) : Byts base (w.drewN n) v xs := h
theorem Byts.rd {base : Nat} {w : World} {v : Value} {xs : List Int} (h : Byts base w v xs) : ∃ A c, v = .slice A xs.length c ∧ xs.length ≤ c ∧ c ≤ maxLen ∧ Rd (base ≤ ·) w A (xs.map (.int .u8)) := by
  obtain ⟨A, c, h1, h2, h3, _, h4⟩ := Rd.of_own h (by decide)
  exact ⟨A, c, h1, h2, h3, h4⟩
theorem Byts.nil (base : Nat) (w : World) : Byts base w (.slice none 0 0) [] := World.ownsRow_nil _ _ _ _
theorem Byts.only {a w w' : World} {base : Nat} {v v' : Value} {xs : List Int} {row : Option Nat} (h : Byts base w v xs) (k : Onto w v v' w') (hg : a.grownBy w row) (hb : a.heap.size ≤ base) : a.grownBy w' row := only_own hg k.1 h hb
def VPost (base : Nat) (w : World) (v : Value) (xs : List Int) (e : Ending) (w' : World) : Prop := ∃ v', e = .returned v' ∧ Byts base w' v' xs ∧ Onto w v v' w'

/-- a number in base 128 -/
def vint (n : Nat) : List Int := if n < 128 then [(n : Int)] else ((n % 128 + 128 : Nat) : Int) :: vint (n / 128)
theorem vint_lt {n : Nat} (h : n < 128) : vint n = [(n : Int)] := by rw [vint, if_pos h]
theorem vint_ge {n : Nat} (h : ¬ n < 128) : vint n = ((n % 128 + 128 : Nat) : Int) :: vint (n / 128) := by rw [vint, if_neg h]
theorem vint_len (n : Nat) : (vint n).length ≤ n + 1 := by
  fun_induction vint n with
  | case1 n h => simp
  | case2 n h ih => simp; omega
theorem wpList_appendS {P : Program} {ops : Array Oper} {rest : List Oper} {o : Oper} {a : Act} {w : World} {Q : Exit → Act → World → Prop} (hgd : o.guard = none) (sl x : Operand) (t u : TypeId)
    (ho : o.op = .call { callee := .builtin .append, args := #[sl, x], argTypes := #[t, u] })
    (base : Nat) (ht : P.underlying t = some (.slice 5)) (hu : P.underlying u = some .string) (hi : (P.info? 5).map (fun i => (i.zero, i.size, i.bytes)) = some (some (.int .u8 0), 1, 1))
    {v : Value} {xs : List Int} (hs : a.eval sl = v) (hown : Byts base w v xs) (s : ByteArray) (hx : a.eval x = .string s)
    (hn : xs.length + s.size ≤ 100000000000) (hbase : base ≤ w.heap.size)
    (h : ∀ v' w', Byts base w' v' (xs ++ bts s) → w.grownBy w' v.ownBlock → wpList P ops Q rest (a.put o.dst v') w') : wpList P ops Q (o :: rest) a w := by
  obtain ⟨i0, hi0, hz0, hz1, hz2⟩ := info_parts hi
  exact Lib.wpList_append_own_string w hgd sl x t u ho base _ i0 ht hu hi0 hz0 hz1 hz2 v _ _ hs hown s hx (by unfold maxLen; omega) (by omega) hbase fun v' w' h1 h2 _ => h v' w' (Byts.str h1) h2
theorem bts_at (s : ByteArray) {k : Nat} (h : k < s.size) : (bts s)[k]? = some ((s[k]'h).toNat : Int) := by
  unfold bts
  rw [List.getElem?_map, Array.getElem?_toList, Array.getElem?_eq_getElem (by simpa using h)]
  rfl
theorem bts_length (s : ByteArray) : (bts s).length = s.size := by unfold bts; simp
end Go.Proofs.YtfbkkbbpgipipaaGreatDoor

namespace Go.Proofs.YtfbkkbbpgipipaaGreatDoor
open Go.RowKit
set_option linter.unusedVariables false
set_option linter.unusedSimpArgs false

/-- a letter in lower case -/
def lowI (c : Int) : Option Int := if 65 ≤ c ∧ c ≤ 90 then some (c + 32) else if (97 ≤ c ∧ c ≤ 122) ∨ (48 ≤ c ∧ c ≤ 57) ∨ c = 95 then some c else none
def flushW (cur : List Int) (out : List ByteArray) : List ByteArray := if 0 < cur.length ∧ cur.length ≤ 40 then out ++ [strOfNums cur] else out
def stepW (st : List Int × List ByteArray) (c : Int) : List Int × List ByteArray := match lowI c with
  | some d => (st.1 ++ [d], st.2)
  | none => ([], flushW st.1 st.2)
def wst (cs : List Int) : List Int × List ByteArray := cs.foldl stepW ([], [])
/-- all words, one after the other -/
def rawW (cs : List Int) : List ByteArray := flushW (wst cs).1 (wst cs).2
theorem wst_snoc (cs : List Int) (c : Int) : wst (cs ++ [c]) = stepW (wst cs) c := by unfold wst; rw [List.foldl_append]; rfl
theorem wst_len : ∀ (n : Nat) (cs : List Int), cs.length ≤ n → (wst cs).1.length ≤ cs.length ∧ (wst cs).2.length ≤ cs.length := by
  intro n
  induction n with
  | zero => intro cs h; have : cs = [] := List.eq_nil_of_length_eq_zero (by omega); subst this; simp [wst]
  | succ n ih =>
    intro cs h
    rcases List.eq_nil_or_concat cs with rfl | ⟨l, c, rfl⟩
    · simp [wst]
    · have e : l.concat c = l ++ [c] := List.concat_eq_append
      rw [e] at h ⊢
      rw [wst_snoc]
      have hl : l.length ≤ n := by simp at h; omega
      obtain ⟨h1, h2⟩ := ih l hl
      unfold stepW
      cases lowI c with
      | some d =>
        show ((wst l).1 ++ [d]).length ≤ _ ∧ (wst l).2.length ≤ _
        simp only [List.length_append, List.length_singleton]
        omega
      | none =>
        show ([] : List Int).length ≤ _ ∧ (flushW (wst l).1 (wst l).2).length ≤ _
        unfold flushW
        simp only [List.length_append, List.length_singleton, List.length_nil]
        split
        · rw [List.length_append, List.length_singleton]; omega
        · omega
theorem rawW_len (cs : List Int) : (rawW cs).length ≤ cs.length + 1 := by
  have h := wst_len cs.length cs (Nat.le_refl _)
  unfold rawW flushW
  split
  · rw [List.length_append, List.length_singleton]; omega
  · omega
theorem lowI_in {c d : Int} (h : lowI c = some d) : 0 ≤ d ∧ d ≤ 255 ∧ d ≠ 0 := by
  unfold lowI at h
  split at h
  · injection h; omega
  · split at h
    · injection h; omega
    · cases h
theorem wst_bytes : ∀ (cs : List Int), ∀ x ∈ (wst cs).1, 0 ≤ x ∧ x ≤ 255 := by
  intro cs
  have key : ∀ (n : Nat) (cs : List Int), cs.length ≤ n → ∀ x ∈ (wst cs).1, 0 ≤ x ∧ x ≤ 255 := by
    intro n
    induction n with
    | zero => intro cs h; have : cs = [] := List.eq_nil_of_length_eq_zero (by omega); subst this; simp [wst]
    | succ n ih =>
      intro cs h
      rcases List.eq_nil_or_concat cs with rfl | ⟨l, c, rfl⟩
      · simp [wst]
      · rw [show l.concat c = l ++ [c] from List.concat_eq_append, wst_snoc]
        have hl : l.length ≤ n := by simp at h; omega
        unfold stepW
        cases hc : lowI c with
        | some d =>
          intro x hx
          rcases List.mem_append.1 hx with hx | hx
          · exact ih l hl x hx
          · rw [List.mem_singleton.1 hx]; have := lowI_in hc; omega
        | none => intro x hx; cases hx
  exact key cs.length cs (Nat.le_refl _)
end Go.Proofs.YtfbkkbbpgipipaaGreatDoor
namespace Go.Proofs.YtfbkkbbpgipipaaGreatDoor
open Go.RowKit
set_option linter.unusedVariables false
set_option linter.unusedSimpArgs false

def LowP (c : Int) (w : World) (e : Ending) (w' : World) : Prop := e = .returned (.tuple #[.int .u8 ((lowI c).getD 0), .bool (lowI c).isSome]) ∧ w' = w
def LetP (c : Int) (w : World) (e : Ending) (w' : World) : Prop := e = .returned (.int .u8 ((lowI c).getD 0)) ∧ w' = w
theorem lowI_up {c : Int} (h1 : 65 ≤ c) (h2 : c ≤ 90) : lowI c = some (c + 32) := by unfold lowI; rw [if_pos ⟨h1, h2⟩]
theorem lowI_lo {c : Int} (h : (97 ≤ c ∧ c ≤ 122) ∨ (48 ≤ c ∧ c ≤ 57) ∨ c = 95) : lowI c = some c := by unfold lowI; rw [if_neg (by omega), if_pos h]
theorem lowI_no {c : Int} (h1 : ¬ (65 ≤ c ∧ c ≤ 90)) (h : ¬ ((97 ≤ c ∧ c ≤ 122) ∨ (48 ≤ c ∧ c ≤ 57) ∨ c = 95)) : lowI c = none := by unfold lowI; rw [if_neg h1, if_neg h]
theorem nine (c : Int) : c ≤ 47 ∨ (48 ≤ c ∧ c ≤ 57) ∨ (58 ≤ c ∧ c ≤ 64) ∨ (65 ≤ c ∧ c ≤ 90) ∨ (91 ≤ c ∧ c ≤ 94) ∨ c = 95 ∨ c = 96 ∨ (97 ≤ c ∧ c ≤ 122) ∨ 123 ≤ c := by omega
set_option maxHeartbeats 2000000 in
set_option maxRecDepth 100000 in
theorem letter_any (c : Int) (w : World) (h0 : 0 ≤ c) (h255 : c ≤ 255) : Calls Tryz.prog 55 #[.int .u8 c] w (LetP c w) := by
  rcases nine c with h | ⟨h, h'⟩ | ⟨h, h'⟩ | ⟨h, h'⟩ | ⟨h, h'⟩ | h | h | ⟨h, h'⟩ | h
  · have HV := Lib.hid (lowI_no (c := c) (by omega) (by omega))
    have a1 : ¬ (65 ≤ c) := by omega
    have a2 : ¬ (97 ≤ c) := by omega
    have a3 : ¬ (48 ≤ c) := by omega
    have a4 : (c == 95) = false := by simp; omega
    go_enter Tryz.func55, Tryz.ntmps55
    go_wp2
    go_ret
    exact ⟨by rw [HV.out]; rfl, rfl⟩
  · have HV := Lib.hid (lowI_lo (c := c) (by omega))
    have a2 : ¬ (97 ≤ c) := by omega
    go_enter Tryz.func55, Tryz.ntmps55
    go_wp2
    go_ret
    exact ⟨by rw [HV.out]; rfl, rfl⟩
  · have HV := Lib.hid (lowI_no (c := c) (by omega) (by omega))
    have a1 : ¬ (65 ≤ c) := by omega
    have a2 : ¬ (97 ≤ c) := by omega
    have a3 : (48 ≤ c) := by omega
    have a5 : ¬ (c ≤ 57) := by omega
    have a4 : (c == 95) = false := by simp; omega
    go_enter Tryz.func55, Tryz.ntmps55
    go_wp2
    go_ret
    exact ⟨by rw [HV.out]; rfl, rfl⟩
  · have HV := Lib.hid (lowI_up (c := c) h h')
    have hw2 : IntKind.u8.wrap (c + 32) = c + 32 := IntWalk.u8_in _ (by omega)
    have a2 : ¬ (97 ≤ c) := by omega
    have a3 : (48 ≤ c) := by omega
    have a5 : ¬ (c ≤ 57) := by omega
    have a4 : (c == 95) = false := by simp; omega
    go_enter Tryz.func55, Tryz.ntmps55
    go_wp2
    go_ret
    exact ⟨by rw [HV.out]; rfl, rfl⟩
  · have HV := Lib.hid (lowI_no (c := c) (by omega) (by omega))
    have a1 : (65 ≤ c) := by omega
    have a6 : ¬ (c ≤ 90) := by omega
    have a2 : ¬ (97 ≤ c) := by omega
    have a3 : (48 ≤ c) := by omega
    have a5 : ¬ (c ≤ 57) := by omega
    have a4 : (c == 95) = false := by simp; omega
    go_enter Tryz.func55, Tryz.ntmps55
    go_wp2
    go_ret
    exact ⟨by rw [HV.out]; rfl, rfl⟩
  · subst h
    go_enter Tryz.func55, Tryz.ntmps55
    go_wp2
    go_ret
    exact ⟨rfl, rfl⟩
  · subst h
    go_enter Tryz.func55, Tryz.ntmps55
    go_wp2
    go_ret
    exact ⟨rfl, rfl⟩
  · have HV := Lib.hid (lowI_lo (c := c) (by omega))
    go_enter Tryz.func55, Tryz.ntmps55
    go_wp2
    go_ret
    exact ⟨by rw [HV.out]; rfl, rfl⟩
  · have HV := Lib.hid (lowI_no (c := c) (by omega) (by omega))
    have a1 : (65 ≤ c) := by omega
    have a6 : ¬ (c ≤ 90) := by omega
    have a2 : (97 ≤ c) := by omega
    have a7 : ¬ (c ≤ 122) := by omega
    have a3 : (48 ≤ c) := by omega
    have a5 : ¬ (c ≤ 57) := by omega
    have a4 : (c == 95) = false := by simp; omega
    go_enter Tryz.func55, Tryz.ntmps55
    go_wp2
    go_ret
    exact ⟨by rw [HV.out]; rfl, rfl⟩
end Go.Proofs.YtfbkkbbpgipipaaGreatDoor

namespace Go.Proofs.YtfbkkbbpgipipaaGreatDoor
open Go.RowKit
set_option linter.unusedVariables false
set_option linter.unusedSimpArgs false

def DistPost (w : World) (ws : List ByteArray) (e : Ending) (w' : World) : Prop :=
  ∃ (A : Option Addr) (c : Nat) (ds : List ByteArray), e = .returned (.slice A ds.length c) ∧ ds.length ≤ c ∧ c ≤ maxLen ∧ Srt ds ∧ (∀ s, s ∈ ds ↔ s ∈ ws) ∧ ds.length ≤ ws.length ∧ Rd (w.heap.size ≤ ·) w' A (ds.map .string) ∧ w.grownBy w' none

/-- the same, and the row is the call's own -/
def DistOwn (w : World) (ws : List ByteArray) (e : Ending) (w' : World) : Prop :=
  ∃ (A : Option Addr) (c : Nat) (ds : List ByteArray), e = .returned (.slice A ds.length c) ∧ ds.length ≤ c ∧ c ≤ maxLen ∧ Srt ds ∧ (∀ s, s ∈ ds ↔ s ∈ ws) ∧ ds.length ≤ ws.length ∧ w'.ownsRow w.heap.size 9 1 (.slice A ds.length c) ds.length (ds.map .string) ∧ w.grownBy w' none
theorem DistOwn.post {w w' : World} {ws : List ByteArray} {e : Ending} (h : DistOwn w ws e w') : DistPost w ws e w' := by
  obtain ⟨A, c, ds, h1, h2, h3, h4, h5, h6, h7, h8⟩ := h
  exact ⟨A, c, ds, h1, h2, h3, h4, h5, h6, rd_own h7 (by decide), h8⟩
set_option maxHeartbeats 1000000 in
set_option maxRecDepth 100000 in
theorem distinct_own_any (k : Nat) : ∀ (A : Option Addr) (ws : List ByteArray) (n c : Nat) (w : World), n ≤ k → ws.length = n → Rd (fun _ => True) w A (ws.map .string) → n ≤ 1000000 → n ≤ c → c ≤ maxLen →
    Calls Tryz.prog 36 #[.slice A n c] w (DistOwn w ws) := by
  induction k with
  | zero =>
    intro A ws n c w hk hn h hl hc hcm
    obtain rfl : n = 0 := by omega
    obtain rfl : ws = [] := List.eq_nil_of_length_eq_zero hn
    clear h
    go_enter Tryz.func36, Tryz.ntmps36
    go_wp2_with (at_builtin; refine wpList_appendN rfl _ _ 56 rfl w.heap.size Tryz.underlying56 strInfo rfl (by decide) (v := .slice none 0 0) (by rfl) (World.ownsRow_nil _ _ _ _) A 0 c (by rfl) (Rd.nil (S := fun _ => True)) (by simp) (by simp) (by decide) (by omega) (Nat.le_refl _) ?_; intro v5 w5 hown5 hg5 hob5)
    obtain ⟨A5, c5, rfl, hc5, hm5, -, hr5⟩ := Rd.of_own hown5 (by decide)
    go_ret
    exact ⟨A5, c5, [], by simp, by simp, hm5, List.Pairwise.nil, by simp, by simp, by simpa using hown5, by simpa [Value.ownBlock] using hg5⟩
  | succ k ih =>
    intro A ws n c w hk hn h hl hc hcm
    have H := Lib.hid h
    have HN := Lib.hid hn
    have IH := Lib.hid ih
    unfold maxLen at hcm
    clear h ih hn
    by_cases h2 : n < 2
    · go_enter Tryz.func36, Tryz.ntmps36
      go_wp2_with (at_builtin; refine wpList_appendN rfl _ _ 56 rfl w.heap.size Tryz.underlying56 strInfo rfl (by decide) (v := .slice none 0 0) (by rfl) (World.ownsRow_nil _ _ _ _) A n c (by rfl) H.out (by have := HN.out; simp; omega) (by simp [Value.oneCell']) (by decide) (by omega) (Nat.le_refl _) ?_; intro v5 w5 hown5 hg5 hob5)
      obtain ⟨A5, c5, rfl, hc5, hm5, -, hr5⟩ := Rd.of_own hown5 (by decide)
      have HR5 := Lib.hid hown5
      clear hown5 hob5 hr5
      go_ret
      have e := HN.out
      refine ⟨A5, c5, ws, by rw [e]; simp, by rw [e]; omega, hm5, ?_, fun _ => Iff.rfl, Nat.le_refl _, by rw [e]; simpa using HR5.out, by simpa [Value.ownBlock] using hg5⟩
      match ws, e with
      | [], _ => exact List.Pairwise.nil
      | [x], _ => exact List.pairwise_singleton _ _
      | x :: y :: l, e => exfalso; simp at e; omega
    · have h0 : (0 : Int) ≤ (n : Int) / 2 := by omega
      have h1 : (n : Int) / 2 ≤ (n : Int) := by omega
      have hd2 : decide ((n : Int) < 2) = false := by simp; omega
      go_enter Tryz.func36, Tryz.ntmps36
      go_wp2_with fail
      have HT : Hid (Rd (fun _ => True) w A ((ws.take (n / 2)).map .string)) := by
        have := H.out.take (n / 2)
        rwa [← List.map_take] at this
      have HD : Hid (Rd (fun _ => True) w (Option.map (fun x => x.add (n / 2)) A) ((ws.drop (n / 2)).map .string)) := by
        have := H.out.drop (n / 2)
        rwa [← List.map_drop] at this
      go_region_with (first
        | (have tk := HR6; go_at_call 56; go_must (refine (union_own A5 A6 d5 d6 c5 c6 _ (S := fun _ => True) (by exact ((rd_own HR5.out (by decide)).grown hg6 (by simp)).mono (fun _ _ _ => trivial)) (by exact (rd_own HR6.out (by decide)).mono (fun _ _ _ => trivial)) (by have := HN.out; simp at hl5; omega) (by have := HN.out; simp at hl6; omega)).mono ?_); rintro e w7 ⟨A7, c7, x7, y7, rfl, hc7, hm7, hr7, hg7⟩)
        | (have tk := HR5; go_at_call 36; go_must (refine (IH.out (Option.map (fun x => x.add (n / 2)) A) (ws.drop (n / 2)) (n - n / 2) (c - n / 2) _ (by omega) (by have := HN.out; simp; omega) (by exact (HD.out.drewN 1).grown hg5 (by simp)) (by omega) (by omega) (by unfold maxLen; omega)).mono ?_); rintro e w6 ⟨A6, c6, d6, rfl, hc6, hm6, hs6, he6, hl6, hr6, hg6⟩; have HR6 := Lib.hid hr6; have HE6 := Lib.hid he6; clear hr6 he6 tk)
        | (go_at_call 36; go_must (refine (IH.out A (ws.take (n / 2)) (n / 2) c _ (by omega) (by have := HN.out; simp; omega) (by exact HT.out.drewN 1) (by omega) (by omega) (by unfold maxLen; omega)).mono ?_); rintro e w5 ⟨A5, c5, d5, rfl, hc5, hm5, hs5, he5, hl5, hr5, hg5⟩; have HR5 := Lib.hid hr5; have HE5 := Lib.hid he5; clear hr5 he5))
      have HR7 := Lib.hid hr7
      clear hr7
      go_wp2_with fail
      go_ret
      refine ⟨A7, c7, un d5 d6, rfl, hc7, hm7, un_srt _ _ hs5 hs6, fun s => ?_, ?_, own_dn HR7.out ?_, only_trans (only_trans (only_trans (only_drew (only_refl _ _)) hg5) hg6) hg7⟩
      · rw [un_mem, HE5.out, HE6.out]
        constructor
        · rintro (h | h)
          · exact List.mem_of_mem_take h
          · exact List.mem_of_mem_drop h
        · intro h
          rw [← List.take_append_drop (n / 2) ws] at h
          exact List.mem_append.1 h
      · have := un_len d5 d6
        have := HN.out
        simp at hl5 hl6
        omega
      · have h5 := hg5.size
        have h6 := hg6.size
        have h8 : w.drew.heap.size = w.heap.size := rfl
        omega
theorem distinct_any (k : Nat) (A : Option Addr) (ws : List ByteArray) (n c : Nat) (w : World) (h1 : n ≤ k) (h2 : ws.length = n) (h3 : Rd (fun _ => True) w A (ws.map .string)) (h4 : n ≤ 1000000) (h5 : n ≤ c) (h6 : c ≤ maxLen) :
    Calls Tryz.prog 36 #[.slice A n c] w (DistPost w ws) := (distinct_own_any k A ws n c w h1 h2 h3 h4 h5 h6).mono fun _ _ h => h.post
theorem distinct_post {S : Nat → Prop} (A : Option Addr) (ws : List ByteArray) (c : Nat) (w : World) (h : Rd S w A (ws.map .string)) (hl : ws.length ≤ 1000000) (hc : ws.length ≤ c) (hm : c ≤ maxLen) :
    Calls Tryz.prog 36 #[.slice A ws.length c] w (DistPost w ws) :=
  distinct_any ws.length A ws ws.length c w (Nat.le_refl _) rfl (h.mono (fun _ _ _ => trivial)) hl hc hm
theorem distinct_own {S : Nat → Prop} (A : Option Addr) (ws : List ByteArray) (c : Nat) (w : World) (h : Rd S w A (ws.map .string)) (hl : ws.length ≤ 1000000) (hc : ws.length ≤ c) (hm : c ≤ maxLen) :
    Calls Tryz.prog 36 #[.slice A ws.length c] w (DistOwn w ws) :=
  distinct_own_any ws.length A ws ws.length c w (Nat.le_refl _) rfl (h.mono (fun _ _ _ => trivial)) hl hc hm
end Go.Proofs.YtfbkkbbpgipipaaGreatDoor
