/- The balance of an intake, of live events and of expired lines: plain. No condition. -/
import Derived.Test.YtiogpomgpknjlaaJTog42
import Derived.Test.YtiogpomgpknjlaaJBalP
import Derived.Test.YtiogpomgpknjlaaJEvIn
import Derived.Test.YtiogpomgpknjlaaJBase
import Derived.Deep.DeepCutAuto
import Derived.Test.YtiogpomgpknjlaaJAplR
import Derived.Deep.RegionLaw
namespace Go.Proofs.Ytiogpomgpknjlaa
open Go.RowKit
set_option linter.unusedVariables false
set_option linter.unusedSimpArgs false

theorem bal_in6 {ss ts : List Tal} {es : List Ev} (hi1 : TIn 3000 ss) (l1 : ss.length ≤ 400) (hi2 : TIn 1000 ts) (l2 : ts.length ≤ 200) (l3 : es.length ≤ 200) (hg : ∀ e ∈ es, 1 ≤ e.lines.length ∧ e.lines.length ≤ 6) : ∀ b ∈ balL ss ts es, BIn b := fun b hb => by
  obtain ⟨h, -, rfl⟩ := List.mem_map.1 hb
  have q2 := sumP_le p2 h hi1 (by omega)
  have q3 := sumP_le p3 h hi1 (by omega)
  have qt := sumT_le h hi2 (by omega)
  have hlv := (linT_ok es hg es.length (Nat.le_refl _))
  rw [List.take_length] at hlv
  have ql := sumT_le (n := 6 * (es.length : Int)) h hlv.2.1 (by omega)
  have hll := hlv.2.2
  have e1 : 6 * (es.length : Int) * ((linT es).length : Int) ≤ 1000000000 := by
    have a1 : 6 * (es.length : Int) ≤ 1200 := by omega
    have a2 : ((linT es).length : Int) ≤ 200 := by omega
    have := Int.mul_le_mul a1 a2 (by omega) (by omega)
    omega
  refine ⟨⟨q2.1, ?_⟩, ⟨q3.1, ?_⟩, ⟨ql.1, ?_⟩, ⟨qt.1, ?_⟩, ?_⟩
  · show sumP p2 h ss ≤ _; omega
  · show sumP p3 h ss ≤ _; omega
  · show sumT h (linT es) ≤ _; omega
  · show sumT h ts ≤ _; omega
  · show sumP p1 h ss = sumP p2 h ss + sumP p3 h ss
    rw [p3_sum h ss]; omega
theorem bal_true {ss ts : List Tal} {es : List Ev} (h : ∀ h, sumP p2 h ss = cntE h es + sumT h ts) : okL (balL ss ts es) = true := by
  unfold okL
  rw [List.all_eq_true]
  intro b hb
  obtain ⟨q, -, rfl⟩ := List.mem_map.1 hb
  show decide (sumP p2 q ss = sumT q (linT es) + sumT q ts) = true
  rw [decide_eq_true_iff, cntE_lin]
  exact h q
theorem sumP_mem (p : ByteArray → Bool) (h : Int) : ∀ {l : List Tal}, sumP p h l ≠ 0 → ∃ t ∈ l, t.host = h
  | [], hn => absurd rfl hn
  | t :: l, hn => by
    by_cases e : t.host = h
    · exact ⟨t, by simp, e⟩
    · obtain ⟨t', h1, h2⟩ := sumP_mem p h (l := l) (by
        have : sumP p h (t :: l) = (if t.host = h ∧ p t.rule = true then t.lines else 0) + sumP p h l := rfl
        rw [if_neg (fun h' => e h'.1)] at this
        omega)
      exact ⟨t', by simp [h1], h2⟩
theorem sumT_nn {n : Int} {l : List Tal} (h : Int) (hi : TIn n l) : 0 ≤ sumT h l := by
  induction l with
  | nil => simp [sumT]
  | cons a l ih =>
    have h1 := ih (fun t ht => hi t (by simp [ht]))
    have h2 := hi a (by simp)
    rw [sumT]
    split <;> omega
theorem bal_cut {ss ts : List Tal} {e : Ev} {es : List Ev} {n : Int} (h : ∀ h, sumP p2 h ss = cntE h (e :: es) + sumT h ts) (hl : 1 ≤ e.lines.length) (hi : TIn n ts) : okL (balL ss ts es) = false := by
  have h0 := h e.host
  have h1 : cntE e.host (e :: es) = (e.lines.length : Int) + cntE e.host es := by simp [cntE]
  have h2 := cntE_nn e.host es
  have h3 := sumT_nn e.host hi
  obtain ⟨t, ht, hth⟩ := sumP_mem p2 e.host (l := ss) (by omega)
  unfold okL
  rw [List.all_eq_false]
  refine ⟨balOf ss ts (linT es) e.host, List.mem_map.2 ⟨e.host, (hosts_ok _).2 _ |>.2 ?_, rfl⟩, ?_⟩
  · simp only [hostL, List.mem_append, List.mem_map]
    exact .inl (.inl ⟨t, ht, hth⟩)
  · show ¬ decide (sumP p2 e.host ss = sumT e.host (linT es) + sumT e.host ts) = true
    rw [decide_eq_true_iff, cntE_lin]
    omega
end Go.Proofs.Ytiogpomgpknjlaa

namespace Go.Proofs.Ytiogpomgpknjlaa
open Go.RowKit
set_option linter.unusedVariables false
set_option linter.unusedSimpArgs false

def getF : List FieldD → ByteArray → Option ByteArray
  | [], _ => none
  | f :: fs, nm => if f.name = nm then some f.value else getF fs nm
def valV : Option ByteArray → Value
  | some s => .tuple #[.string s, .bool true]
  | none => .tuple #[.string ⟨#[]⟩, .bool false]
def ValP (w : World) (o : Option ByteArray) (e : Ending) (w' : World) : Prop := e = .returned (valV o) ∧ w.grownBy w' none
theorem str_ne {a b : ByteArray} (h : a ≠ b) : (a.toList == b.toList) = false := by
  rw [beq_eq_false_iff_ne]; exact fun e => h (toList_inj e)
set_option maxHeartbeats 4000000 in
set_option maxRecDepth 100000 in
/-- the value of a name -/
theorem rget_any {S : Nat → Prop} (fa : Option Addr) (fields : List FieldD) (fc : Nat) (nm : ByteArray) (w : World) (hr : Rd S w fa (fields.flatMap FieldD.cells)) (hl : fields.length ≤ 1000000) :
    Calls Try.prog 106 #[.slice fa fields.length fc, .string nm] w (ValP w (getF fields nm)) := by
  have HR := Lib.hid hr
  clear hr
  go_enter Try.func106, Try.ntmps106
  go_wp2_with fail
  go_loopw [6] (fun i wr => ∃ k : Nat, i = .int .i64 k ∧ k ≤ fields.length ∧ Hid (getF fields nm = getF (fields.drop k) nm) ∧ w.grownBy wr none) (fun i _ => fields.length - (intOf i).toNat)
  case atStart => exact ⟨0, rfl, Nat.zero_le _, Lib.hid rfl, only_refl _ _⟩
  case round =>
    obtain ⟨k, rfl, hk, HN, hG⟩ := hrel
    have G := Lib.hid hG
    clear hG
    by_cases hlt : k < fields.length
    · obtain ⟨y, hy⟩ : ∃ y, fields[k]? = some y := ⟨_, List.getElem?_eq_getElem hlt⟩
      obtain ⟨kb, ko, rfl, hkw, z0, z1⟩ := fld_in (HR.out.grown G.out (by simp)) hy
      have hd : fields.drop k = y :: fields.drop (k + 1) := by
        rw [List.getElem?_eq_getElem hlt] at hy
        injection hy with hy
        rw [← List.getElem_cons_drop hlt, hy]
      have i1 : (k : Int) < (fields.length : Int) := by omega
      by_cases he : y.name = nm
      · have q1 : (y.name.toList == nm.toList) = true := by rw [he]; simp
        have HV : Hid (getF fields nm = some y.value) := Lib.hid (by rw [HN.out, hd, getF, if_pos he])
        clear hy hd he
        go_wp2_with fail
        rw [HV.out]
        exact bodyPost_ret (v := valV (some y.value)) (by simp [results, Try.results106, go_sem, valV]) rfl ⟨rfl, G.out⟩
      · have q1 : (y.name.toList == nm.toList) = false := str_ne he
        have HV : Hid (getF fields nm = getF (fields.drop (k + 1)) nm) := Lib.hid (by rw [HN.out, hd, getF, if_neg he])
        clear hy hd he
        go_wp2_with fail
        go_roundw
        case rel => exact ⟨k + 1, by go_num, by omega, HV, G.out⟩
        case measure => simp [intOf]; omega
    · have i1 : ¬ (k : Int) < (fields.length : Int) := by omega
      have HV : Hid (getF fields nm = none) := Lib.hid (by rw [HN.out, List.drop_eq_nil_of_le (by omega)]; rfl)
      go_wp2_with fail
      rw [HV.out]
      exact bodyPost_ret (v := valV none) (by simp [results, Try.results106, go_sem, valV]) rfl ⟨rfl, G.out⟩
end Go.Proofs.Ytiogpomgpknjlaa

namespace Go.Proofs.Ytiogpomgpknjlaa
open Go.RowKit
set_option linter.unusedVariables false
set_option linter.unusedSimpArgs false

structure PolD where
  name : ByteArray
  field : ByteArray
  value : ByteArray
  age : Int
def PolD.cells (x : PolD) : List Value := [.string x.name, .string x.field, .string x.value, .int .i64 x.age]
theorem PolD.cells_len (x : PolD) : x.cells.length = 4 := rfl
theorem PolD.one (x : PolD) : ∀ u ∈ x.cells, u.oneCell' = true := by simp [PolD.cells, Value.oneCell']
structure HoldD where
  name : ByteArray
  field : ByteArray
  value : ByteArray
  beg : Int
  fin : Int
def HoldD.cells (x : HoldD) : List Value := [.string x.name, .string x.field, .string x.value, .int .i64 x.beg, .int .i64 x.fin]
theorem HoldD.cells_len (x : HoldD) : x.cells.length = 5 := rfl
theorem HoldD.one (x : HoldD) : ∀ u ∈ x.cells, u.oneCell' = true := by simp [HoldD.cells, Value.oneCell']
def AnyB (w : World) (e : Ending) (w' : World) : Prop := ∃ v : Bool, e = .returned (.bool v) ∧ w.grownBy w' none
def BoolQ (b : Bool) (w : World) (e : Ending) (w' : World) : Prop := e = .returned (.bool b) ∧ w.grownBy w' none
/-- a policy's or a hold's field is met -/
def apB (f v : ByteArray) (fs : List FieldD) : Bool := f.toList.isEmpty || (match getF fs f with | none => false | some s => s.toList == v.toList)
set_option maxHeartbeats 4000000 in
set_option maxRecDepth 100000 in
theorem applies32_any {S : Nat → Prop} (f v : ByteArray) (x : Ev) (w : World) (h : x.Sub S w) (hl : x.fields.length ≤ 1000000) :
    Calls Try.prog 95 #[.string f, .string v, .agg x.cells.toArray] w (BoolQ (apB f v x.fields) w) := by
  rw [evAgg]
  obtain ⟨xb, hxb⟩ : ∃ b, b = w.heap.size := ⟨_, rfl⟩
  obtain ⟨W1, hW1⟩ : ∃ W, W = w.alloc (.cells #[.int .i64 x.host, .int .i64 x.file, .int .i64 x.beg, .int .i64 x.fin, .slice x.la x.lines.length x.lc, .int .i64 x.time, .int .i64 x.weight, .string x.trace, .string x.stream, .slice x.fa x.fields.length x.fc] 75) := ⟨_, rfl⟩
  have G1 : Hid (w.grownBy W1 none) := Lib.hid (by rw [hW1]; exact only_alloc (only_refl _ _) _)
  have B1 : Hid (Blk W1 xb 75 #[.int .i64 x.host, .int .i64 x.file, .int .i64 x.beg, .int .i64 x.fin, .slice x.la x.lines.length x.lc, .int .i64 x.time, .int .i64 x.weight, .string x.trace, .string x.stream, .slice x.fa x.fields.length x.fc]) := Lib.hid (by rw [hW1, hxb]; exact Blk.new w _ _)
  have KG := Lib.hid (rget_any x.fa x.fields x.fc f W1 (h.2.1.grown G1.out (by simp)) hl)
  have b9 := B1.out.cell 9
  simp at b9
  have HW := Lib.hid hW1.symm
  have HXB := Lib.hid hxb
  clear hW1 hxb h
  go_enter Try.func95, Try.ntmps95
  go_upto_region 1 with fail
  rw [HW.out, ← HXB.out]
  clear HW
  go_wp2_with fail
  refine KG.out.mono ?_
  rintro e w2 ⟨rfl, hg2⟩
  have G2 := Lib.hid (only_trans G1.out hg2)
  clear b9 hg2 KG
  cases hf : f.toList.isEmpty with
  | true =>
    have HV : Hid (apB f v x.fields = true) := Lib.hid (by unfold apB; rw [hf]; rfl)
    cases hv : getF x.fields f with
    | none =>
      clear hv
      unfold valV
      go_wp2_with fail
      go_ret
      exact ⟨by rw [HV.out]; rfl, G2.out⟩
    | some s =>
      clear hv
      unfold valV
      go_wp2_with fail
      go_ret
      exact ⟨by rw [HV.out]; rfl, G2.out⟩
  | false =>
    cases hv : getF x.fields f with
    | none =>
      have HV : Hid (apB f v x.fields = false) := Lib.hid (by unfold apB; rw [hf, hv]; rfl)
      clear hv
      unfold valV
      go_wp2_with fail
      go_ret
      exact ⟨by rw [HV.out]; rfl, G2.out⟩
    | some s =>
      have HV : Hid (apB f v x.fields = (s.toList == v.toList)) := Lib.hid (by unfold apB; rw [hf, hv]; rfl)
      clear hv
      unfold valV
      cases hs : (s.toList == v.toList) with
      | true =>
        have HV : Hid (apB f v x.fields = true) := Lib.hid (by rw [HV.out, hs])
        go_wp2_with fail
        go_ret
        exact ⟨by rw [HV.out]; rfl, G2.out⟩
      | false =>
        have HV : Hid (apB f v x.fields = false) := Lib.hid (by rw [HV.out, hs])
        go_wp2_with fail
        go_ret
        exact ⟨by rw [HV.out]; rfl, G2.out⟩
def PolP (n : Nat) (w : World) (e : Ending) (w' : World) : Prop := ∃ v : Int, e = .returned (.int .i64 v) ∧ (v = -1 ∨ ∃ k : Nat, k < n ∧ v = k) ∧ w.grownBy w' none
set_option maxHeartbeats 4000000 in
set_option maxRecDepth 100000 in
theorem policy32_any {S S2 : Nat → Prop} (A : Option Addr) (ps : List PolD) (c : Nat) (x : Ev) (w : World) (hr : Rd S w A (ps.flatMap PolD.cells)) (hl : ps.length ≤ 1000) (h : x.Sub S2 w) (hxl : x.fields.length ≤ 1000000) :
    Calls Try.prog 72 #[.slice A ps.length c, .agg x.cells.toArray] w (PolP ps.length w) := by
  rw [evAgg]
  obtain ⟨xb, hxb⟩ : ∃ b, b = w.heap.size := ⟨_, rfl⟩
  obtain ⟨W1, hW1⟩ : ∃ W, W = w.alloc (.cells #[.int .i64 x.host, .int .i64 x.file, .int .i64 x.beg, .int .i64 x.fin, .slice x.la x.lines.length x.lc, .int .i64 x.time, .int .i64 x.weight, .string x.trace, .string x.stream, .slice x.fa x.fields.length x.fc] 75) := ⟨_, rfl⟩
  have G1 : Hid (w.grownBy W1 none) := Lib.hid (by rw [hW1]; exact only_alloc (only_refl _ _) _)
  have B1 : Hid (Blk W1 xb 75 #[.int .i64 x.host, .int .i64 x.file, .int .i64 x.beg, .int .i64 x.fin, .slice x.la x.lines.length x.lc, .int .i64 x.time, .int .i64 x.weight, .string x.trace, .string x.stream, .slice x.fa x.fields.length x.fc]) := Lib.hid (by rw [hW1, hxb]; exact Blk.new w _ _)
  have HR := Lib.hid (hr.grown G1.out (by simp))
  have HX := Lib.hid (h.grown G1.out (by simp))
  have HW := Lib.hid hW1.symm
  have HXB := Lib.hid hxb
  clear hW1 hxb h hr
  go_enter Try.func72, Try.ntmps72
  go_upto_region 1 with fail
  rw [HW.out, ← HXB.out]
  clear HW
  go_wp2_with fail
  go_loopw [5] (fun vi wr => ∃ k : Nat, vi = .int .i64 k ∧ k ≤ ps.length ∧ W1.grownBy wr none) (fun vi _ => ps.length - (intOf vi).toNat)
  case atStart => exact ⟨0, rfl, Nat.zero_le _, only_refl _ _⟩
  case round =>
    obtain ⟨k, rfl, hk, hG⟩ := hrel
    have G := Lib.hid hG
    have BR := Lib.hid (B1.out.grown hG (by simp))
    clear hG
    by_cases hlt : k < ps.length
    · obtain ⟨y, hy⟩ : ∃ y, ps[k]? = some y := ⟨_, List.getElem?_eq_getElem hlt⟩
      have hrr := HR.out.grown G.out (by simp)
      obtain ⟨b, o, rfl, -, -, -⟩ := hrr (by rw [flat_len _ 4 PolD.cells_len]; omega)
      have d1 : wr.cell? ⟨b, o + k * 4 + 1, none⟩ = some (.string y.field) := hrr.flatAt PolD.cells_len hy 1 (by omega)
      have d2 : wr.cell? ⟨b, o + k * 4 + 2, none⟩ = some (.string y.value) := hrr.flatAt PolD.cells_len hy 2 (by omega)
      have i1 : (k : Int) < (ps.length : Int) := by omega
      have i2 : (0 : Int) ≤ (k : Int) := by omega
      have KA : Hid (Calls Try.prog 95 #[.string y.field, .string y.value, .agg #[.int .i64 x.host, .int .i64 x.file, .int .i64 x.beg, .int .i64 x.fin, .slice x.la x.lines.length x.lc, .int .i64 x.time, .int .i64 x.weight, .string x.trace, .string x.stream, .slice x.fa x.fields.length x.fc]] wr.drew (BoolQ (apB y.field y.value x.fields) wr.drew)) := Lib.hid (applies32_any y.field y.value x wr.drew (HX.out.grown (only_drew G.out) (by simp)) hxl)
      clear hy hrr
      obtain ⟨bv, hbv⟩ : ∃ b, b = apB y.field y.value x.fields := ⟨_, rfl⟩
      rw [← hbv] at KA
      clear hbv
      have x0 := (BR.out).cell 0; have x1 := (BR.out).cell 1; have x2 := (BR.out).cell 2; have x3 := (BR.out).cell 3; have x4 := (BR.out).cell 4; have x5 := (BR.out).cell 5; have x6 := (BR.out).cell 6; have x7 := (BR.out).cell 7; have x8 := (BR.out).cell 8; have x9 := (BR.out).cell 9; simp at x0 x1 x2 x3 x4 x5 x6 x7 x8 x9
      go_upto_region 4 with fail
      go_cut [23] (fun v wx => v = .bool bv ∧ wr.grownBy wx none)
      case first =>
        go_still_tail 11, (by kernel_rfl)
        change wpList _ _ _ _ _ wr.drew
        clear x0 x1 x2 x3 x4 x5 x6 x7 x8 x9 d1 d2
        go_wp2_with (go_at_call 95; refine KA.out.mono ?_; rintro e w2 ⟨rfl, hg2⟩)
        go_meet
        exact ⟨rfl, only_trans (only_drew (only_refl _ _)) hg2⟩
      case rest =>
        obtain ⟨rfl, hg⟩ := hcut
        have G2 := Lib.hid (only_trans G.out hg)
        clear hg d1 d2 x0 x1 x2 x3 x4 x5 x6 x7 x8 x9 KA
        cases bv with
        | true =>
          go_wp2_with fail
          go_ret
          exact ⟨k, rfl, .inr ⟨k, hlt, rfl⟩, only_trans G1.out G2.out⟩
        | false =>
          go_wp2_with fail
          go_roundw
          case rel => exact ⟨k + 1, by go_num, by omega, G2.out⟩
          case measure => simp [intOf]; omega
    · have i1 : ¬ ((k : Int) < (ps.length : Int)) := by omega
      go_wp2_with fail
      go_ret
      exact ⟨-1, rfl, .inl rfl, only_trans G1.out G.out⟩
end Go.Proofs.Ytiogpomgpknjlaa
