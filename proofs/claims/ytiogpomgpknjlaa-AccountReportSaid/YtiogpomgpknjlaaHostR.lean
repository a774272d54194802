/- The reference of chapter 42: host, Count; slices of hosts. Condition: sizes. -/
import Derived.Test.YtiogpomgpknjlaaHosts
import Derived.Test.YtiogpomgpknjlaaFlat
import Derived.Test.YtiogpomgpknjlaaTalB
import Derived.Deep.RegionLaw
import Derived.Deep.DeepMust
import Derived.Deep.DeepCutAuto
namespace Go.Proofs.Ytiogpomgpknjlaa
open Go.RowKit
set_option linter.unusedVariables false
set_option linter.unusedSimpArgs false

theorem insH_at : ∀ {l : List Int} {h : Int} {k : Nat}, k ≤ l.length → (∀ q x, q < k → l[q]? = some x → x < h) → (∀ x, l[k]? = some x → ¬ x < h) → insH h l = if l[k]? = some h then l else l.take k ++ h :: l.drop k
  | [], h, k, hk, _, _ => by simp at hk; subst hk; simp [insH]
  | a :: t, h, 0, _, _, h2 => by
    have := h2 a rfl
    unfold insH
    rw [if_neg this]
    by_cases e : a = h
    · rw [if_pos e, if_pos (by simp [e])]
    · rw [if_neg e, if_neg (by simpa using e)]; simp
  | a :: t, h, k + 1, hk, h1, h2 => by
    have h0 := h1 0 a (by omega) rfl
    have ih := insH_at (l := t) (h := h) (k := k) (by simpa using hk) (fun q x hq hx => h1 (q + 1) x (by omega) (by simpa using hx)) (fun x hx => h2 x (by simpa using hx))
    unfold insH
    rw [if_pos h0, ih]
    simp only [List.getElem?_cons_succ, List.take_succ_cons, List.drop_succ_cons]
    split <;> simp
def HPost (S : Nat → Prop) (w : World) (L : List Int) (e : Ending) (w' : World) : Prop :=
  ∃ (A : Option Addr) (c : Nat), e = .returned (.slice A L.length c) ∧ L.length ≤ c ∧ c ≤ maxLen ∧ (A = none → c = 0) ∧ Rd S w' A (L.map (.int .i64)) ∧ w.grownBy w' none
theorem intInfoH : (Try.prog.info? 3).map (fun i => (i.zero, i.size, i.bytes)) = some (some (.int .i64 0), 1, 8) := by kernel_rfl
theorem ione (l : List Int) : ∀ u ∈ l.map (Value.int .i64), u.oneCell' = true := by simp [Value.oneCell']
theorem own_none42 {w : World} {base e z n c n' : Nat} {xs : List Value} (h : w.ownsRow base e z (.slice none n c) n' xs) : c = 0 := by
  rcases h.2 with ⟨e, _⟩ | ⟨g', cap, cur, e, _⟩
  · injection e
  · injection e with e1; cases e1
set_option maxHeartbeats 4000000 in
set_option maxRecDepth 100000 in
theorem host_any {S : Nat → Prop} (A : Option Addr) (l : List Int) (c : Nat) (h : Int) (w : World) (hr : Rd S w A (l.map (.int .i64))) (hS : ∀ b, w.heap.size ≤ b → S b) (hl : l.length ≤ 100000) (hc : l.length ≤ c) (hcm : c ≤ maxLen) (hz : A = none → c = 0) :
    Calls Try.prog 47 #[.slice A l.length c, .int .i64 h] w (HPost S w (insH h l)) := by
  have HCM := Lib.hid hcm
  unfold maxLen at hcm
  have HR := Lib.hid hr
  have HS := Lib.hid hS
  have HZ := Lib.hid hz
  have HRW := Lib.hid (hr.mono (S' := (· < w.heap.size)) (fun b _ hlt => hlt))
  clear hr hS hz
  go_enter Try.func47, Try.ntmps47
  go_wp2_with fail
  go_loop [5] (fun i => ∃ k : Nat, k ≤ l.length ∧ i = .int .i64 k ∧ ∀ q x, q < k → l[q]? = some x → x < h) (fun i => l.length - (intOf i).toNat)
  case atStart => exact ⟨0, Nat.zero_le _, rfl, fun q x hq => absurd hq (by omega)⟩
  case round =>
    obtain ⟨k, hk, rfl, hlo⟩ := hrel
    have LO := Lib.hid hlo
    clear hlo
    by_cases hlt : k < l.length
    · obtain ⟨x, hx⟩ : ∃ x, l[k]? = some x := ⟨_, List.getElem?_eq_getElem hlt⟩
      have HX := Lib.hid hx
      obtain ⟨b, o, rfl, -, -, hcell⟩ := HR.out (by simp; omega)
      have x0 : w.cell? ⟨b, o + k, none⟩ = some (.int .i64 x) := hcell k _ (by rw [List.getElem?_map, hx]; rfl)
      have i1 : (k : Int) < (l.length : Int) := by omega
      clear hx hcell
      by_cases hxh : x < h
      · have HXH := Lib.hid hxh
        go_wp2_with fail
        go_round
        case rel => exact ⟨k + 1, by omega, by go_num, fun q y hq hy => if e : q = k then by subst e; rw [HX.out] at hy; injection hy with hy; rw [← hy]; exact HXH.out else LO.out q y (by omega) hy⟩
        case measure => simp [intOf]; omega
      · have HI := Lib.hid (insH_at hk LO.out (fun y hy => by rw [HX.out] at hy; injection hy with hy; rw [← hy]; exact hxh))
        by_cases hxe : x = h
        · have HV : Hid (insH h l = l) := Lib.hid (by rw [HI.out, if_pos (by rw [HX.out, hxe])])
          have d1 : (x == h) = true := by simp [hxe]
          have d2 : ¬ (x < h) := hxh
          clear hxe
          go_wp2_with fail
          go_ret
          exact ⟨_, _, by rw [HV.out]; rfl, by rw [HV.out]; exact hc, HCM.out, HZ.out, by rw [HV.out]; exact HR.out, only_refl _ _⟩
        · have HV : Hid (insH h l = l.take k ++ h :: l.drop k) := Lib.hid (by rw [HI.out, if_neg (by rw [HX.out]; intro e; injection e with e; exact hxe e)])
          have d1 : (x == h) = false := by simp [hxe]
          have j1 : (0 : Int) ≤ (k : Int) := by omega
          have j2 : (k : Int) ≤ (l.length : Int) := by omega
          have j3 : (k : Int) ≤ (c : Int) := by omega
          have j4 : (l.length : Int) ≤ (c : Int) := by omega
          have HTK : Hid (Rd (· < w.heap.size) w (some ⟨b, o, none⟩) ((l.take k).map (.int .i64))) := Lib.hid (by
            have := HRW.out.take k
            rwa [← List.map_take] at this)
          clear hxe
          go_wp2_with (at_builtin; refine wpList_appendN rfl _ _ 33 rfl w.heap.size Try.underlying33 intInfoH rfl (by decide) (v := .slice none 0 0) (by rfl) (World.ownsRow_nil _ _ _ _) (some ⟨b, o, none⟩) k c (by rfl) HTK.out (by rw [List.length_map, List.length_take]; omega) (ione _) (by decide) (by omega) (by omega) ?_; intro v5 w5 hown5 hg5 hob5)
          simp only [Nat.zero_add, List.nil_append] at hown5
          have hsz5 := hg5.size
          have G5 : Hid (w.grownBy w5 none) := Lib.hid (by simpa [Value.ownBlock] using hg5)
          have HR5 : Hid (Rd (· < w.heap.size) w5 (some ⟨b, o + k, none⟩) ((l.drop k).map (.int .i64))) := Lib.hid (by
            have := (HRW.out.grown G5.out (by simp)).dropS k
            rw [← List.map_drop] at this
            exact this)
          have j5 : ¬ (c = k) := by omega
          clear hob5 hg5 x0
          go_region_law (first
            | (have htok := hown7; go_must (refine step_appendN rfl _ _ 33 rfl w.heap.size Try.underlying33 intInfoH rfl (by decide) (v := _) (by rfl) hown7 _ _ _ (by rfl) HR7.out (by simp) (ione _) (by decide) (by omega) (by omega) ?_); intro v8 w8 hown8 hg8 hob8)
            | (go_must (refine step_append1 rfl _ _ 33 rfl w.heap.size Try.underlying33 intInfoH rfl (by decide) (v := _) (by rfl) (w0 := w5) (cs := #[.int .i64 h]) (by rfl) (by rfl) (by rfl) (by rfl) hown5 (by rfl) rfl (by simp [Value.oneCell']) (by decide) (by omega) (by omega) ?_); intro v7 w7 hown7 hg7 hob7; have HR7 : Hid (Rd (· < w.heap.size) w7 _ _) := Lib.hid (HR5.out.grown hg7 (fun b hb e => by have := (hown5.lt b e.symm).1; omega)); have hz7 : w5.heap.size ≤ w7.heap.size := hg7.size))
          all_goals
            have G8 : Hid (w.grownBy w8 none) := Lib.hid (only_own (only_own G5.out hg7 hown5 (Nat.le_refl _)) hg8 hown7 (Nat.le_refl _))
            have O8 : Hid (w8.ownsRow w.heap.size 3 1 v8 (insH h l).length ((insH h l).map (.int .i64))) := Lib.hid (by
              rw [HV.out]
              have e1 : (l.take k ++ h :: l.drop k).length = k + 1 + (l.length - k) := by simp; omega
              rw [e1]
              simpa using hown8)
            obtain ⟨A8, c8, rfl, hc8, hm8, -, hr8⟩ := Rd.of_own O8.out (by decide)
            have HN : Hid (A8 = none → c8 = 0) := Lib.hid (fun e => by have := O8.out; rw [e] at this; exact own_none42 this)
            have R8 := Lib.hid hr8
            clear hown5 hown7 hown8 hg7 hg8 hob7 hob8 hr8
            go_wp2
            all_goals go_ret
            all_goals exact ⟨A8, c8, rfl, hc8, hm8, HN.out, R8.out.mono (fun b hb _ => HS.out b hb), G8.out⟩
    · obtain rfl : k = l.length := by omega
      have HV : Hid (insH h l = l ++ [h]) := Lib.hid (by
        have := insH_at hk LO.out (fun y hy => by rw [List.getElem?_eq_none (Nat.le_refl _)] at hy; cases hy)
        rw [this, if_neg (by rw [List.getElem?_eq_none (Nat.le_refl _)]; simp)]; simp)
      cases A with
      | none =>
        have h0 : l.length = 0 := by
          rcases l with _ | ⟨y, ys⟩
          · rfl
          · obtain ⟨b, o, e, -⟩ := HR.out (by simp); cases e
        have hl0 : l = [] := List.eq_nil_of_length_eq_zero h0
        have hc0 := HZ.out rfl
        subst hl0 hc0
        clear h0
        go_wp2_with (at_builtin; refine wpList_appendN rfl _ _ 33 rfl w.heap.size Try.underlying33 intInfoH rfl (by decide) (v := .slice none 0 0) (by rfl) (World.ownsRow_nil _ _ _ _) (S := fun _ => True) none 0 0 (news := []) (by rfl) Rd.nil rfl (by simp) (by decide) (by omega) (by omega) ?_; intro v5 w5 hown5 hg5 hob5)
        simp only [Nat.zero_add, List.nil_append] at hown5
        have hsz5 := hg5.size
        have G5 : Hid (w.grownBy w5 none) := Lib.hid (by simpa [Value.ownBlock] using hg5)
        clear hob5 hg5
        go_region_law (first
          | (have htok := hown7; go_must (refine step_appendN rfl _ _ 33 rfl w.heap.size Try.underlying33 intInfoH rfl (by decide) (v := _) (by rfl) hown7 (S := fun _ => True) _ 0 _ (news := []) (by rfl) Rd.nil (by simp) (by simp [Value.oneCell']) (by decide) (by omega) (by omega) ?_); intro v8 w8 hown8 hg8 hob8)
          | (go_must (refine step_append1 rfl _ _ 33 rfl w.heap.size Try.underlying33 intInfoH rfl (by decide) (v := _) (by rfl) (w0 := w5) (cs := #[.int .i64 h]) (by rfl) (by rfl) (by rfl) (by rfl) hown5 (by rfl) rfl (by simp [Value.oneCell']) (by decide) (by omega) (by omega) ?_); intro v7 w7 hown7 hg7 hob7; have hz7 : w5.heap.size ≤ w7.heap.size := hg7.size))
        all_goals
          have G8 : Hid (w.grownBy w8 none) := Lib.hid (only_own (only_own G5.out hg7 hown5 (Nat.le_refl _)) hg8 hown7 (Nat.le_refl _))
          have O8 : Hid (w8.ownsRow w.heap.size 3 1 v8 (insH h []).length ((insH h []).map (.int .i64))) := Lib.hid (by
            rw [HV.out]
            have e1 : ([] ++ [h] : List Int).length = 0 + 1 + 0 := by simp
            rw [e1]
            simpa using hown8)
          obtain ⟨A8, c8, rfl, hc8, hm8, -, hr8⟩ := Rd.of_own O8.out (by decide)
          have HN : Hid (A8 = none → c8 = 0) := Lib.hid (fun e => by have := O8.out; rw [e] at this; exact own_none42 this)
          have R8 := Lib.hid hr8
          clear hown5 hown7 hown8 hg7 hg8 hob7 hob8 hr8
          go_wp2
          all_goals go_ret
          all_goals exact ⟨A8, c8, rfl, hc8, hm8, HN.out, R8.out.mono (fun b hb _ => HS.out b hb), G8.out⟩
      | some a =>
        have j1 : (0 : Int) ≤ (l.length : Int) := by omega
        have j2 : (l.length : Int) ≤ (c : Int) := by omega
        go_wp2_with (at_builtin; refine wpList_appendN rfl _ _ 33 rfl w.heap.size Try.underlying33 intInfoH rfl (by decide) (v := .slice none 0 0) (by rfl) (World.ownsRow_nil _ _ _ _) (some a) l.length c (news := l.map (.int .i64)) (by rfl) HRW.out (by simp) (ione _) (by decide) (by omega) (by omega) ?_; intro v5 w5 hown5 hg5 hob5)
        simp only [Nat.zero_add, List.nil_append] at hown5
        have hsz5 := hg5.size
        have G5 : Hid (w.grownBy w5 none) := Lib.hid (by simpa [Value.ownBlock] using hg5)
        clear hob5 hg5
        go_region_law (first
          | (have htok := hown7; go_must (refine step_appendN rfl _ _ 33 rfl w.heap.size Try.underlying33 intInfoH rfl (by decide) (v := _) (by rfl) hown7 (S := fun _ => True) _ 0 _ (news := []) (by rfl) Rd.nil (by simp) (by simp [Value.oneCell']) (by decide) (by omega) (by omega) ?_); intro v8 w8 hown8 hg8 hob8)
          | (go_must (refine step_append1 rfl _ _ 33 rfl w.heap.size Try.underlying33 intInfoH rfl (by decide) (v := _) (by rfl) (w0 := w5) (cs := #[.int .i64 h]) (by rfl) (by rfl) (by rfl) (by rfl) hown5 (by rfl) rfl (by simp [Value.oneCell']) (by decide) (by omega) (by omega) ?_); intro v7 w7 hown7 hg7 hob7; have hz7 : w5.heap.size ≤ w7.heap.size := hg7.size))
        all_goals
          have G8 : Hid (w.grownBy w8 none) := Lib.hid (only_own (only_own G5.out hg7 hown5 (Nat.le_refl _)) hg8 hown7 (Nat.le_refl _))
          have O8 : Hid (w8.ownsRow w.heap.size 3 1 v8 (insH h l).length ((insH h l).map (.int .i64))) := Lib.hid (by
            rw [HV.out]
            have e1 : (l ++ [h]).length = l.length + 1 + 0 := by simp
            rw [e1]
            simpa using hown8)
          obtain ⟨A8, c8, rfl, hc8, hm8, -, hr8⟩ := Rd.of_own O8.out (by decide)
          have HN : Hid (A8 = none → c8 = 0) := Lib.hid (fun e => by have := O8.out; rw [e] at this; exact own_none42 this)
          have R8 := Lib.hid hr8
          clear hown5 hown7 hown8 hg7 hg8 hob7 hob8 hr8
          go_wp2
          all_goals go_ret
          all_goals exact ⟨A8, c8, rfl, hc8, hm8, HN.out, R8.out.mono (fun b hb _ => HS.out b hb), G8.out⟩
end Go.Proofs.Ytiogpomgpknjlaa
namespace Go.Proofs.Ytiogpomgpknjlaa
open Go.RowKit
set_option linter.unusedVariables false
set_option linter.unusedSimpArgs false

theorem beq_list {a b : ByteArray} (h : ¬ a = b) : (a.toList == b.toList) = false := by
  cases hb : a.toList == b.toList with
  | false => rfl
  | true => exact absurd (toList_inj (by simpa using hb)) h
theorem cnt_at {ts : List Tal} {h : Int} {r : ByteArray} {k : Nat} {t : Tal} (hpre : ∀ q x, q < k → ts[q]? = some x → ¬ (x.host = h ∧ x.rule = r)) (ht : ts[k]? = some t) (hm : t.host = h ∧ t.rule = r) : cntT h r ts = t.lines := by
  induction ts generalizing k with
  | nil => simp at ht
  | cons a l ih =>
    unfold cntT
    rcases k with _ | k
    · simp at ht; subst ht; rw [if_pos hm]
    · rw [if_neg (hpre 0 a (by omega) rfl)]
      exact ih (k := k) (fun q x hq hx => hpre (q + 1) x (by omega) (by simpa using hx)) (by simpa using ht)
theorem cnt_none {ts : List Tal} {h : Int} {r : ByteArray} (hpre : ∀ q x, q < ts.length → ts[q]? = some x → ¬ (x.host = h ∧ x.rule = r)) : cntT h r ts = 0 := by
  induction ts with
  | nil => rfl
  | cons a l ih =>
    unfold cntT
    rw [if_neg (hpre 0 a (by simp) rfl)]
    exact ih (fun q x hq hx => hpre (q + 1) x (by simp; omega) (by simpa using hx))
set_option maxHeartbeats 2000000 in
set_option maxRecDepth 100000 in
theorem count_any {S : Nat → Prop} (Am : Option Addr) (nm cm : Nat) (A : Option Addr) (ts : List Tal) (c : Nat) (h : Int) (r : ByteArray) (w : World) (hr : Rd S w A (ts.flatMap Tal.cells)) (hl : ts.length ≤ 100000) :
    Calls Try.prog 48 #[.agg #[.slice Am nm cm, .slice A ts.length c], .int .i64 h, .string r] w (SumPost w (cntT h r ts)) := by
  obtain ⟨xb, hxb⟩ : ∃ b, b = w.heap.size := ⟨_, rfl⟩
  obtain ⟨W1, hW1⟩ : ∃ W, W = w.alloc (.cells #[.slice Am nm cm, .slice A ts.length c] 39) := ⟨_, rfl⟩
  have hB1 : Blk W1 xb 39 #[.slice Am nm cm, .slice A ts.length c] := by rw [hW1, hxb]; exact Blk.new w _ _
  have g1 : w.grownBy W1 none := by rw [hW1]; exact only_alloc (only_refl _ _) _
  have G1 := Lib.hid g1
  have HR := Lib.hid (hr.grown g1 (by simp))
  have b1 := hB1.cell 1
  simp at b1
  have HW1 := Lib.hid hW1.symm
  have HXE := Lib.hid hxb.symm
  clear hr hW1 hxb hB1 g1
  go_enter Try.func48, Try.ntmps48
  go_upto_region 1 with fail
  rw [HW1.out, HXE.out]
  clear HW1 HXE
  go_wp2_with fail
  go_loop [7] (fun i => ∃ k : Nat, k ≤ ts.length ∧ i = .int .i64 k ∧ ∀ q x, q < k → ts[q]? = some x → ¬ (x.host = h ∧ x.rule = r)) (fun i => ts.length - (intOf i).toNat)
  case atStart => exact ⟨0, Nat.zero_le _, rfl, fun q x hq => absurd hq (by omega)⟩
  case round =>
    obtain ⟨k, hk, rfl, hpre⟩ := hrel
    have PRE := Lib.hid hpre
    clear hpre
    by_cases hlt : k < ts.length
    · obtain ⟨t, ht⟩ : ∃ t, ts[k]? = some t := ⟨_, List.getElem?_eq_getElem hlt⟩
      obtain ⟨b, o, rfl, x0, x1, x2⟩ := HR.out.tal ht
      have HT := Lib.hid ht
      have i1 : (k : Int) < (ts.length : Int) := by omega
      clear ht
      by_cases hh : t.host = h
      · have d1 : (t.host == h) = true := by simp [hh]
        by_cases hru : t.rule = r
        · have HV := Lib.hid (cnt_at PRE.out HT.out ⟨hh, hru⟩)
          have d2 : (t.rule.toList == r.toList) = true := by simp [hru]
          clear hh hru
          go_wp2_with fail
          go_ret
          exact ⟨by rw [HV.out]; rfl, G1.out⟩
        · have d2 : (t.rule.toList == r.toList) = false := beq_list hru
          have NP : Hid (¬ (t.host = h ∧ t.rule = r)) := Lib.hid (fun e => hru e.2)
          clear hh hru
          go_wp2_with fail
          go_round
          case rel => exact ⟨k + 1, by omega, by go_num, fun q x hq hx => if e : q = k then by subst e; rw [HT.out] at hx; injection hx with hx; rw [← hx]; exact NP.out else PRE.out q x (by omega) hx⟩
          case measure => simp [intOf]; omega
      · have d1 : (t.host == h) = false := by simp [hh]
        have NP : Hid (¬ (t.host = h ∧ t.rule = r)) := Lib.hid (fun e => hh e.1)
        clear hh
        go_wp2_with fail
        go_round
        case rel => exact ⟨k + 1, by omega, by go_num, fun q x hq hx => if e : q = k then by subst e; rw [HT.out] at hx; injection hx with hx; rw [← hx]; exact NP.out else PRE.out q x (by omega) hx⟩
        case measure => simp [intOf]; omega
    · have HV := Lib.hid (cnt_none (ts := ts) (h := h) (r := r) (fun q x hq hx => PRE.out q x (by omega) hx))
      go_wp2_with fail
      go_ret
      exact ⟨by rw [HV.out]; rfl, G1.out⟩
end Go.Proofs.Ytiogpomgpknjlaa
