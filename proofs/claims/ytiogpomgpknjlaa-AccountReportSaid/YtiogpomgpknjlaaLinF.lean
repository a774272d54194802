/- tallies.lines with any rule wanted, tallies.hosts. Condition: sizes. -/
import Derived.Test.YtiogpomgpknjlaaHosts
import Derived.Deep.DeepCutAuto
import Derived.Lib.AppendZeros
namespace Go.Proofs.Ytiogpomgpknjlaa
open Go.RowKit
set_option linter.unusedVariables false
set_option linter.unusedSimpArgs false

def dupS : ByteArray := ⟨#[42]⟩
def p1 (s : ByteArray) : Bool := !s.toList == [42]
def p2 (s : ByteArray) : Bool := s.toList.isEmpty
def p3 (s : ByteArray) : Bool := !s.toList.isEmpty && !s.toList == [42]
def p4 (s : ByteArray) : Bool := s.toList == [42]
theorem enter_of {f : FuncId} {fn : Func} (hf : Try.prog.funcs[f]? = some fn) (hname : (fn.name == "runtime.NumGoroutine") = false) (hb : fn.body.isNone = false) (args : Array Value) (w : World) : (callFunc f args).run Try.prog w = .ok (.enter f args) w := by
  have h1 : fn.name ≠ "runtime.NumGoroutine" := by simpa using hname
  cases hc : fn.body with
  | none => rw [hc] at hb; cases hb
  | some c => simp [callFunc, hf, h1, hc]
def IsWant (f : FuncId) (p : ByteArray → Bool) : Prop := (∀ (args : Array Value) (w : World), (callFunc f args).run Try.prog w = .ok (.enter f args) w) ∧ ∀ (s : ByteArray) (w : World), Calls Try.prog f #[.string s] w (fun e w' => e = .returned (.bool (p s)) ∧ w = w')
theorem want0 : IsWant 38 (fun _ => true) := ⟨enter_of Try.func38 (by kernel_rfl) (by kernel_rfl), fun s w => anyF s w⟩
theorem want1 : IsWant 43 p1 := ⟨enter_of Try.func43 (by kernel_rfl) (by kernel_rfl), fun s w => by
  go_enter Try.func43, Try.ntmps43
  go_wp2
  go_ret
  exact ⟨rfl, rfl⟩⟩
theorem want2 : IsWant 44 p2 := ⟨enter_of Try.func44 (by kernel_rfl) (by kernel_rfl), fun s w => by
  go_enter Try.func44, Try.ntmps44
  go_wp2
  go_ret
  exact ⟨rfl, rfl⟩⟩
theorem want3 : IsWant 45 p3 := ⟨enter_of Try.func45 (by kernel_rfl) (by kernel_rfl), fun s w => by
  cases h : s.toList.isEmpty with
  | true =>
    have HP : Hid (p3 s = false) := Lib.hid (by unfold p3; rw [h]; rfl)
    go_enter Try.func45, Try.ntmps45
    go_wp2
    all_goals go_ret
    all_goals first | exact ⟨by rw [HP.out]; rfl, rfl⟩ | (exfalso; simp_all)
  | false =>
    have HP : Hid (p3 s = !s.toList == [42]) := Lib.hid (by unfold p3; rw [h]; rfl)
    go_enter Try.func45, Try.ntmps45
    go_wp2
    all_goals go_ret
    all_goals first | exact ⟨by rw [HP.out]; rfl, rfl⟩ | (exfalso; simp_all)⟩
theorem want4 : IsWant 46 p4 := ⟨enter_of Try.func46 (by kernel_rfl) (by kernel_rfl), fun s w => by
  go_enter Try.func46, Try.ntmps46
  go_wp2
  go_ret
  exact ⟨rfl, rfl⟩⟩
set_option maxHeartbeats 2000000 in
set_option maxRecDepth 100000 in
theorem linesF_any {S : Nat → Prop} (f : FuncId) (p : ByteArray → Bool) (hf : IsWant f p) (A : Option Addr) (ts : List Tal) (c : Nat) (h : Int) (w : World) (hr : Rd S w A (ts.flatMap Tal.cells)) (hl : ts.length ≤ 100000) (hi : TIn 1000000 ts) :
    Calls Try.prog 37 #[.slice A ts.length c, .int .i64 h, .func (.func f) #[] #[]] w (SumPost w (sumP p h ts)) := by
  have HR := Lib.hid (hr.mono (S' := (· < w.heap.size)) (fun b _ hb => hb))
  have HI := Lib.hid hi
  have HF := Lib.hid hf.2
  have hEN := hf.1
  clear hr hi hf
  go_enter Try.func37, Try.ntmps37
  go_wp2
  go_loopw [7, 12] (fun n i wr => ∃ k : Nat, k ≤ ts.length ∧ i = .int .i64 k ∧ n = .int .i64 (sumP p h (ts.take k)) ∧ w.grownBy wr none) (fun _ i _ => ts.length - (intOf i).toNat)
  case atStart => exact ⟨0, Nat.zero_le _, rfl, rfl, only_refl _ _⟩
  case round =>
    obtain ⟨k, hk, rfl, rfl, hG⟩ := hrel
    have G := Lib.hid hG
    have hsz := hG.size
    clear hG
    have hb := sumP_le p h (tin_take HI.out k) (by omega)
    have hlk : (ts.take k).length ≤ 100000 := by rw [List.length_take]; omega
    have hb2 : sumP p h (ts.take k) ≤ 100000000000 := by omega
    have hb1 := hb.1
    clear hb
    obtain ⟨s0, hs0⟩ : ∃ s0, s0 = sumP p h (ts.take k) := ⟨_, rfl⟩
    rw [← hs0] at hb1 hb2 ⊢
    have HS0 := Lib.hid hs0
    clear hs0
    by_cases hlt : k < ts.length
    · obtain ⟨t, ht⟩ : ∃ t, ts[k]? = some t := ⟨_, List.getElem?_eq_getElem hlt⟩
      obtain ⟨b1, o1, rfl, x0, x1, x2⟩ := (HR.out.grown G.out (by simp)).tal ht
      have hbw : b1 < wr.heap.size := by obtain ⟨b', o', e', hb', -, -⟩ := HR.out (by rw [tflat_len]; omega); injection e' with e'; injection e' with e1 e2; omega
      have hbn : b1 ≠ wr.heap.size := by omega
      have ht2 := HI.out t (List.mem_of_getElem? ht)
      have HS : Hid (sumP p h (ts.take (k + 1)) = s0 + if t.host = h ∧ p t.rule = true then t.lines else 0) := by
        rw [List.take_succ_eq_append_getElem hlt, sumP_snoc, HS0.out]
        rw [List.getElem?_eq_getElem hlt] at ht
        injection ht with ht
        rw [ht]
        exact rfl
      clear ht
      have i1 : (k : Int) < (ts.length : Int) := by omega
      by_cases hh : t.host = h
      · have d1 : (t.host == h) = true := by simp [hh]
        have HH := Lib.hid hh
        clear hh
        cases hp : p t.rule with
        | true =>
          have KF : Hid (∀ wx, Calls Try.prog f #[.string t.rule] wx (fun e w' => e = .returned (.bool true) ∧ wx = w')) := Lib.hid (fun wx => by have := HF.out t.rule wx; rw [hp] at this; exact this)
          have HP := Lib.hid hp
          clear hp
          go_wp2_with fail
          refine (KF.out _).mono ?_
          rintro e w' ⟨rfl, rfl⟩
          go_wp2_with fail
          go_roundw
          case rel => exact ⟨k + 1, by omega, by go_num, by rw [HS.out, if_pos ⟨HH.out, HP.out⟩], only_alloc G.out _⟩
          case measure => simp [intOf]; omega
        | false =>
          have KF : Hid (∀ wx, Calls Try.prog f #[.string t.rule] wx (fun e w' => e = .returned (.bool false) ∧ wx = w')) := Lib.hid (fun wx => by have := HF.out t.rule wx; rw [hp] at this; exact this)
          have HP := Lib.hid hp
          clear hp
          go_wp2_with fail
          refine (KF.out _).mono ?_
          rintro e w' ⟨rfl, rfl⟩
          go_wp2_with fail
          go_roundw
          case rel => exact ⟨k + 1, by omega, by go_num, by rw [HS.out, if_neg (by rw [HP.out]; simp), Int.add_zero], only_alloc G.out _⟩
          case measure => simp [intOf]; omega
      · have d1 : (t.host == h) = false := by simp [hh]
        have HH := Lib.hid hh
        clear hh
        go_wp2
        go_roundw
        case rel => exact ⟨k + 1, by omega, by go_num, by rw [HS.out, if_neg (fun e => HH.out e.1), Int.add_zero], only_alloc G.out _⟩
        case measure => simp [intOf]; omega
    · go_wp2
      go_ret
      exact ⟨ret_int (by rw [HS0.out, List.take_of_length_le (by omega)]), G.out⟩
/-- a row of numbers comes back -/
def IPost (w : World) (l : List Int) (e : Ending) (w' : World) : Prop :=
  ∃ v, e = .returned v ∧ w'.ownsRow w.heap.size 3 1 v l.length (l.map (.int .i64)) ∧ w.grownBy w' none
theorem intInfo42 : (Try.prog.info? 3).map (fun i => (i.zero, i.size, i.bytes)) = some (some (.int .i64 0), 1, 8) := by kernel_rfl
set_option maxHeartbeats 2000000 in
set_option maxRecDepth 100000 in
theorem hostsM_any {S : Nat → Prop} (A : Option Addr) (ts : List Tal) (c : Nat) (w : World) (hr : Rd S w A (ts.flatMap Tal.cells)) (hl : ts.length ≤ 100000) :
    Calls Try.prog 129 #[.slice A ts.length c] w (IPost w (ts.map (·.host))) := by
  have HR := Lib.hid (hr.mono (S' := (· < w.heap.size)) (fun b _ hb => hb))
  clear hr
  go_enter Try.func129, Try.ntmps129
  go_wp2
  go_loopw [3, 8] (fun v i wr => ∃ k : Nat, k ≤ ts.length ∧ i = .int .i64 k ∧ wr.ownsRow w.heap.size 3 1 v k ((ts.take k).map (fun t => .int .i64 t.host)) ∧ w.grownBy wr none) (fun _ i _ => ts.length - (intOf i).toNat)
  case atStart => exact ⟨0, Nat.zero_le _, rfl, by simpa using World.ownsRow_nil w w.heap.size 3 1, only_refl _ _⟩
  case round =>
    obtain ⟨k, hk, rfl, hO, hG⟩ := hrel
    have O := Lib.hid hO
    have G := Lib.hid hG
    have hsz := hG.size
    clear hG hO
    obtain ⟨A1, c1, rfl, -, -, -, -⟩ := Rd.of_own O.out (by decide)
    by_cases hlt : k < ts.length
    · obtain ⟨t, ht⟩ : ∃ t, ts[k]? = some t := ⟨_, List.getElem?_eq_getElem hlt⟩
      obtain ⟨b1, o1, rfl, x0, x1, x2⟩ := (HR.out.grown G.out (by simp)).tal ht
      have hbw : b1 < wr.heap.size := by obtain ⟨b', o', e', hb', -, -⟩ := HR.out (by rw [tflat_len]; omega); injection e' with e'; injection e' with e1 e2; omega
      have hbn : b1 ≠ wr.heap.size := by omega
      have HT : Hid ((ts.take (k + 1)).map (fun t => (Value.int .i64 t.host)) = (ts.take k).map (fun t => .int .i64 t.host) ++ [.int .i64 t.host]) := Lib.hid (by
        rw [List.take_succ_eq_append_getElem hlt, List.map_append]
        rw [List.getElem?_eq_getElem hlt] at ht
        injection ht with ht
        rw [ht]; rfl)
      clear ht
      have i1 : (k : Int) < (ts.length : Int) := by omega
      have hO1 := own_ext O.out (only_alloc (only_refl wr none) (.cells #[.int .i64 t.host, .string t.rule, .int .i64 t.lines] 62))
      obtain ⟨W1, hW1⟩ : ∃ W, W = wr.alloc (.cells #[.int .i64 t.host, .string t.rule, .int .i64 t.lines] 62) := ⟨_, rfl⟩
      have hB1 : Blk W1 wr.heap.size 62 #[.int .i64 t.host, .string t.rule, .int .i64 t.lines] := by rw [hW1]; exact Blk.new wr _ _
      have g1 : wr.grownBy W1 none := by rw [hW1]; exact only_alloc (only_refl _ _) _
      rw [← hW1] at hO1
      have G1 := Lib.hid (only_trans G.out g1)
      have hsz1 := G1.out.size
      have O1 := Lib.hid hO1
      have b0 := hB1.cell 0
      simp at b0
      have HW1 := Lib.hid hW1.symm
      clear hW1 hB1 g1 hO1
      go_upto_region 5 with fail
      rw [HW1.out]
      clear x0 x1 x2 HW1
      go_wp2_with (at_builtin; refine wpList_append1 rfl _ _ 33 rfl w.heap.size Try.underlying33 intInfo42 rfl (by decide) (v := .slice A1 k c1) (by rfl) (w0 := W1) (cs := #[.int .i64 t.host]) O1.out (by rfl) rfl (by simp [Value.oneCell']) (by decide) (by omega) (by omega) ?_; intro v7 w7 hown7 hg7 hob7)
      have O7 : Hid (w7.ownsRow w.heap.size 3 1 v7 (k + 1) ((ts.take (k + 1)).map (fun t => .int .i64 t.host))) := Lib.hid (by rw [HT.out]; exact hown7)
      have G7 : Hid (w.grownBy w7 none) := Lib.hid (only_own G1.out hg7 O1.out (Nat.le_refl _))
      clear hown7 hg7 hob7 b0
      go_wp2_with fail
      go_roundw
      case rel => exact ⟨k + 1, by omega, by go_num, O7.out, G7.out⟩
      case measure => simp [intOf]; omega
    · have HE : Hid (k = ts.length) := Lib.hid (by omega)
      go_wp2_with fail
      go_ret
      have := O.out
      rw [HE.out, List.take_length] at this
      refine ⟨_, rfl, ?_, G.out⟩
      rw [List.length_map, List.map_map, HE.out]
      exact this
end Go.Proofs.Ytiogpomgpknjlaa
namespace Go.Proofs.Ytiogpomgpknjlaa
open Go.RowKit
set_option linter.unusedVariables false
set_option linter.unusedSimpArgs false

def EmptyPost (w : World) (e : Ending) (w' : World) : Prop := ∃ v, e = .returned v ∧ w'.ownsRow w.heap.size 3 1 v 0 [] ∧ w.grownBy w' none
set_option maxHeartbeats 2000000 in
set_option maxRecDepth 100000 in
theorem grow_nil (n : Nat) (w : World) (hn : n ≤ 1000000) : Calls Try.prog 66 #[.slice none 0 0, .int .i64 n] w (EmptyPost w) := by
  by_cases h0 : n = 0
  · subst h0
    go_enter Try.func66, Try.ntmps66
    go_wp2_with fail
    go_ret
    exact ⟨_, rfl, World.ownsRow_nil _ _ _ _, only_refl _ _⟩
  · obtain ⟨i0, hi0, hz0, hz1, hz2⟩ := info_parts intInfo42
    obtain ⟨G, hG⟩ : ∃ G, G = grownCap w n 0 3 := ⟨_, rfl⟩
    have hGn : n ≤ G := by rw [hG]; exact grownCap_ge w _ _ _
    have hGm : G ≤ maxLen := by rw [hG]; exact grownCap_le_maxLen w _ _ _ (by unfold maxLen; omega)
    obtain ⟨ROW, hROW⟩ : ∃ ROW : Array Value, ROW = Builtin.zeroCells (.int .i64 0 : Value).cells n ++ Builtin.zeroCells (.int .i64 0 : Value).cells (G - n) := ⟨_, rfl⟩
    have hRl : ROW.size = G * 1 := by
      rw [hROW]
      simp [Builtin.zeroCells, Value.cells]
      omega
    obtain ⟨W1, hW1⟩ : ∃ W1, W1 = w.drew.alloc (.cells ROW 3) := ⟨_, rfl⟩
    obtain ⟨g1, hg1⟩ : ∃ g1, g1 = w.heap.size := ⟨_, rfl⟩
    have hr : ∀ ty, (Builtin.append_ #[33, 3] ty #[.slice none 0 0, .int .i64 n]).run Try.prog w = .ok (.slice (some ⟨g1, 0, none⟩) n G) W1 := fun ty => by
      have := Lib.run_append_nil_zeros w 33 3 ty 3 i0 (.int .i64 0) .i64 .i64 Try.underlying33 Try.underlying3 hi0 hz0 n (by omega) (by rw [hz1]; decide) (by omega) (by rw [hz2]; omega)
      rw [← hG] at this
      rw [hW1, hROW, hg1]; exact this
    have HF : Hid (EmptyPost w (.returned (.slice (some ⟨g1, 0, none⟩) 0 G)) W1) := Lib.hid (by
      refine ⟨_, rfl, ?_, ?_⟩
      · rw [hW1, hg1]
        have := World.ownsRow_made w.drew (base := w.heap.size) (e := 3) ROW G (Nat.le_refl _) hGm hRl
        exact this
      · rw [hW1]; exact only_alloc (only_drew (only_refl _ _)) _)
    have j0 : (0 : Int) < (n : Int) := by omega
    have j1 : (0 : Int) ≤ (n : Int) := by omega
    have hw0 : IntKind.i64.wrap (n : Int) = (n : Int) := IntWalk.i64_in _ (by omega)
    have j2 : ¬ ((n : Int) < 0) := by omega
    clear hW1 hg1 hG hROW hRl hi0 hz0 hz1 hz2 hGm h0
    go_enter Try.func66, Try.ntmps66
    go_wp2_with (at_builtin; refine Lib.wpList_append_run _ rfl _ _ _ _ rfl _ _ rfl rfl _ _ (hr _) ?_)
    go_ret
    exact HF.out
/-- a row at hand -/
structure Rw where
  A : Option Addr
  l : List Int
  c : Nat
def Rw.v (r : Rw) : Value := .slice r.A r.l.length r.c
def catR (rs : List Rw) : List Int := rs.flatMap (·.l)
theorem catR_snoc (rs : List Rw) (r : Rw) : catR (rs ++ [r]) = catR rs ++ r.l := by unfold catR; rw [List.flatMap_append]; simp
theorem catR_len {rs : List Rw} {m : Nat} (h : ∀ r ∈ rs, r.l.length ≤ m) : (catR rs).length ≤ rs.length * m := by
  unfold catR
  induction rs with
  | nil => simp
  | cons a t ih =>
    have h1 := h a List.mem_cons_self
    have h2 := ih (fun r hr => h r (List.mem_cons_of_mem _ hr))
    rw [List.flatMap_cons, List.length_append, List.length_cons, Nat.add_mul]; omega
set_option maxHeartbeats 4000000 in
set_option maxRecDepth 100000 in
theorem concat_any {S : Nat → Prop} (vb : Nat) (rs : List Rw) (w : World) (hB : Blk w vb 33 (rs.map Rw.v).toArray) (hr : ∀ r ∈ rs, Rd S w r.A (r.l.map (.int .i64))) (hn : rs.length ≤ 10) (hl : ∀ r ∈ rs, r.l.length ≤ 10000) :
    Calls Try.prog 40 #[.slice (some ⟨vb, 0, none⟩) rs.length rs.length] w (IPost w (catR rs)) := by
  have HB := Lib.hid hB
  have HR := Lib.hid hr
  have HL := Lib.hid hl
  clear hB hr hl
  go_enter Try.func40, Try.ntmps40
  go_wp2_with fail
  go_loop [3, 11] (fun n i => ∃ k : Nat, k ≤ rs.length ∧ i = .int .i64 k ∧ n = .int .i64 ((catR (rs.take k)).length : Nat)) (fun _ i => rs.length - (intOf i).toNat)
  case atStart => exact ⟨0, Nat.zero_le _, rfl, rfl⟩
  case round =>
    obtain ⟨k, hk, rfl, rfl⟩ := hrel
    have hcl : (catR (rs.take k)).length ≤ 100000 := by
      have := catR_len (rs := rs.take k) (m := 10000) (fun r hr => HL.out r (List.mem_of_mem_take hr))
      rw [List.length_take] at this
      have h2 : min k rs.length * 10000 ≤ 10 * 10000 := Nat.mul_le_mul_right _ (by omega)
      omega
    obtain ⟨n, hn0⟩ : ∃ n, n = (catR (rs.take k)).length := ⟨_, rfl⟩
    rw [← hn0] at hcl ⊢
    have HN := Lib.hid hn0
    clear hn0
    by_cases hlt : k < rs.length
    · obtain ⟨r, hrk⟩ : ∃ r, rs[k]? = some r := ⟨_, List.getElem?_eq_getElem hlt⟩
      have c0 := HB.out.cell k
      have hrk2 : (rs.map Rw.v).toArray[k]? = some (.slice r.A r.l.length r.c) := by simp [hrk, Rw.v]
      rw [hrk2] at c0
      have hrl := HL.out r (List.mem_of_getElem? hrk)
      have HT : Hid ((catR (rs.take (k + 1))).length = n + r.l.length) := Lib.hid (by
        have e : rs.take (k + 1) = rs.take k ++ [r] := by
          rw [List.take_succ_eq_append_getElem hlt]
          rw [List.getElem?_eq_getElem hlt] at hrk
          injection hrk with hrk
          rw [hrk]
        rw [e, catR_snoc, List.length_append, HN.out])
      have i1 : (k : Int) < (rs.length : Int) := by omega
      have i2 : ¬ ((n : Int) + (r.l.length : Int) < 0) := by omega
      have hw0 : IntKind.i64.wrap ((n : Int) + (r.l.length : Int)) = (n : Int) + (r.l.length : Int) := IntWalk.i64_in _ (by omega)
      clear hrk hrk2
      go_wp2_with fail
      go_round
      case rel => exact ⟨k + 1, by omega, by go_num, by rw [HT.out]; push_cast; rfl⟩
      case measure => simp [intOf]; omega
    · have HE : Hid (rs.take k = rs) := Lib.hid (List.take_of_length_le (by omega))
      have KG := Lib.hid (grow_nil n w (by omega))
      go_wp2_with fail
      refine KG.out.mono ?_
      rintro e w1 ⟨v1, rfl, ho1, hg1⟩
      have O1 := Lib.hid ho1
      have G1 := Lib.hid hg1
      clear ho1 hg1 KG
      go_wp2_with fail
      go_loopw [6, 27] (fun v i wr => ∃ k : Nat, k ≤ rs.length ∧ i = .int .i64 k ∧ wr.ownsRow w.heap.size 3 1 v (catR (rs.take k)).length ((catR (rs.take k)).map (.int .i64)) ∧ w.grownBy wr none) (fun _ i _ => rs.length - (intOf i).toNat)
      case atStart => exact ⟨0, Nat.zero_le _, rfl, O1.out, G1.out⟩
      case round =>
        clear O1 G1
        obtain ⟨k, hk, rfl, hO, hG⟩ := hrel
        have O := Lib.hid hO
        have G := Lib.hid hG
        have hsz := hG.size
        clear hO hG
        have hcl2 : (catR (rs.take k)).length ≤ 100000 := by
          have := catR_len (rs := rs.take k) (m := 10000) (fun r hr => HL.out r (List.mem_of_mem_take hr))
          rw [List.length_take] at this
          have h2 : min k rs.length * 10000 ≤ 10 * 10000 := Nat.mul_le_mul_right _ (by omega)
          omega
        by_cases hlt : k < rs.length
        · obtain ⟨r, hrk⟩ : ∃ r, rs[k]? = some r := ⟨_, List.getElem?_eq_getElem hlt⟩
          have c0 := (HB.out.grown G.out (by simp)).cell k
          have hrk2 : (rs.map Rw.v).toArray[k]? = some (.slice r.A r.l.length r.c) := by simp [hrk, Rw.v]
          rw [hrk2] at c0
          have hrl := HL.out r (List.mem_of_getElem? hrk)
          have RR := Lib.hid ((HR.out r (List.mem_of_getElem? hrk)).grown G.out (by simp))
          have HT : Hid (catR (rs.take (k + 1)) = catR (rs.take k) ++ r.l) := Lib.hid (by
            have e : rs.take (k + 1) = rs.take k ++ [r] := by
              rw [List.take_succ_eq_append_getElem hlt]
              rw [List.getElem?_eq_getElem hlt] at hrk
              injection hrk with hrk
              rw [hrk]
            rw [e, catR_snoc])
          have i1 : (k : Int) < (rs.length : Int) := by omega
          obtain ⟨L, hL⟩ : ∃ L, L = catR (rs.take k) := ⟨_, rfl⟩
          have O2 : Hid (wr.ownsRow w.heap.size 3 1 u6 L.length (L.map (.int .i64))) := Lib.hid (by rw [hL]; exact O.out)
          rw [← hL] at hcl2 HT
          clear hrk hrk2 hL O
          go_wp2_with (at_builtin; refine wpList_appendN rfl _ _ 33 rfl w.heap.size Try.underlying33 intInfo42 rfl (by decide) (v := _) (by rfl) O2.out r.A r.l.length r.c (news := r.l.map (.int .i64)) (by rfl) RR.out (by simp) (by simp [Value.oneCell']) (by decide) (by omega) (by omega) ?_; intro v7 w7 hown7 hg7 hob7)
          have O7 : Hid (w7.ownsRow w.heap.size 3 1 v7 (catR (rs.take (k + 1))).length ((catR (rs.take (k + 1))).map (.int .i64))) := Lib.hid (by rw [HT.out]; simpa using hown7)
          have G7 : Hid (w.grownBy w7 none) := Lib.hid (only_own G.out hg7 O2.out (Nat.le_refl _))
          clear hown7 hg7 hob7 c0
          go_wp2_with fail
          go_roundw
          case rel => exact ⟨k + 1, by omega, by go_num, O7.out, G7.out⟩
          case measure => simp [intOf]; omega
        · have HE2 : Hid (rs.take k = rs) := Lib.hid (List.take_of_length_le (by omega))
          go_wp2_with fail
          go_ret
          have := O.out
          rw [HE2.out] at this
          exact ⟨_, rfl, this, G.out⟩
end Go.Proofs.Ytiogpomgpknjlaa
