/- slices.IndexFunc, ContainsFunc with a method's value, and at strings; extract.Number; subject.number. Condition: sizes. -/
import Derived.Test.YtceebhgbebkafaaGreatDoorContF
import Derived.Test.YtceebhgbebkafaaGreatDoorSpec
import Derived.Lib.ItoaLen
import Derived.Test.YtceebhgbebkafaaGreatDoorPoss
import Derived.Test.YtceebhgbebkafaaGreatDoorPWords
import Derived.Deep.DeepCutAuto
namespace Go.Proofs.YtceebhgbebkafaaGreatDoor
open Go.RowKit
set_option linter.unusedVariables false
set_option linter.unusedSimpArgs false

set_option maxHeartbeats 2000000 in
theorem idxG_any {S : Nat → Prop} (g : FuncId) (eg : ∀ (args : Array Value) (w : World), (callFunc g args).run Tryz.prog w = .ok (.enter g args) w) (fs lb : Array Value) (p : TT → Bool) (ka : Option Addr) (kids : List TT) (kc : Nat) (w : World) (hr : Rd S w ka (kids.flatMap TT.cells)) (hl : kids.length ≤ 1000000)
    (hp : ∀ k ∈ kids, ∀ w', w.grownBy w' none → Calls Tryz.prog g (fs ++ #[.agg #[.int .i64 k.op, .string k.nm, .string k.tx, .int .i64 k.num, .slice k.ka k.kids.length k.kc]] ++ lb) w' (BoolP w' (p k))) :
    Calls Tryz.prog 79 #[.slice ka kids.length kc, .func (.func g) fs lb] w (IdxP w (kids.any p)) := by
  have HK := Lib.hid hr
  have HP := Lib.hid hp
  clear hr hp
  go_enter Tryz.func79, Tryz.ntmps79
  go_wp2_with fail
  go_loopw [5, 8] (fun _ i wr => ∃ k : Nat, i = .int .i64 k ∧ k ≤ kids.length ∧ Hid ((kids.take k).any p = false) ∧ w.grownBy wr none) (fun _ i _ => kids.length - (intOf i).toNat)
  case atStart => exact ⟨0, rfl, Nat.zero_le _, rfl, only_refl _ _⟩
  case round =>
    obtain ⟨k, rfl, hk, HN, hG⟩ := hrel
    have GR := Lib.hid hG
    clear hG
    by_cases hlt : k < kids.length
    · obtain ⟨y, hy⟩ : ∃ y, kids[k]? = some y := ⟨_, List.getElem?_eq_getElem hlt⟩
      obtain ⟨kb, ko, rfl, hkw, z0, z1, z2, z3, z4⟩ := kid_in (HK.out.grown GR.out (by simp)) hy
      have HI := Lib.hid (HP.out y (List.mem_of_getElem? hy) _ GR.out)
      have HY := Lib.hid hy
      have hltz : (k : Int) < (kids.length : Int) := by omega
      clear hy
      cases hq : p y with
      | true =>
        rw [hq] at HI
        have HQ := Lib.hid (any_hit HY.out hq)
        clear hq
        go_wp2_with (go_at_fn g; refine HI.out.mono ?_; rintro e w6 ⟨rfl, hg6⟩)
        go_ret
        exact idxP_mk (by omega) (by omega) (by rw [HQ.out]; simp) (only_trans GR.out hg6)
      | false =>
        rw [hq] at HI
        have HQ := Lib.hid (any_step HY.out HN.out hq)
        clear hq
        go_wp2_with (go_at_fn g; refine HI.out.mono ?_; rintro e w6 ⟨rfl, hg6⟩)
        go_roundw
        case rel => exact ⟨k + 1, by go_num, by omega, HQ, only_trans GR.out hg6⟩
        case measure => simp [intOf]; omega
    · have hltz : ¬ (k : Int) < (kids.length : Int) := by omega
      have HQ : Hid (kids.any p = false) := by have := HN.out; rw [List.take_of_length_le (by omega)] at this; exact this
      go_wp2_with fail
      go_ret
      exact idxP_mk (by omega) (by omega) (by rw [HQ.out]; decide) GR.out
set_option maxHeartbeats 2000000 in
theorem contG_any {S : Nat → Prop} (g : FuncId) (eg : ∀ (args : Array Value) (w : World), (callFunc g args).run Tryz.prog w = .ok (.enter g args) w) (fs lb : Array Value) (p : TT → Bool) (ka : Option Addr) (kids : List TT) (kc : Nat) (w : World) (hr : Rd S w ka (kids.flatMap TT.cells)) (hl : kids.length ≤ 1000000)
    (hp : ∀ k ∈ kids, ∀ w', w.grownBy w' none → Calls Tryz.prog g (fs ++ #[.agg #[.int .i64 k.op, .string k.nm, .string k.tx, .int .i64 k.num, .slice k.ka k.kids.length k.kc]] ++ lb) w' (BoolP w' (p k))) :
    Calls Tryz.prog 46 #[.slice ka kids.length kc, .func (.func g) fs lb] w (BoolP w (kids.any p)) := by
  have HI := Lib.hid (idxG_any g eg fs lb p ka kids kc w hr hl hp)
  clear hr hl hp
  go_enter Tryz.func46, Tryz.ntmps46
  go_wp2_with fail
  refine HI.out.mono ?_
  rintro e w1 ⟨i, rfl, ⟨hi1, hi2⟩, hi3, hg⟩
  go_wp2_with fail
  go_ret
  exact ⟨by rw [← hi3]; rfl, hg⟩
set_option maxHeartbeats 2000000 in
theorem idxStr_any {S : Nat → Prop} (g : FuncId) (eg : ∀ (args : Array Value) (w : World), (callFunc g args).run Tryz.prog w = .ok (.enter g args) w) (lb : Array Value) (p : ByteArray → Bool) (ka : Option Addr) (kids : List ByteArray) (kc : Nat) (w : World) (hr : Rd S w ka (kids.map .string)) (hl : kids.length ≤ 1000000)
    (hp : ∀ k ∈ kids, ∀ w', w.grownBy w' none → Calls Tryz.prog g (#[.string k] ++ lb) w' (BoolP w' (p k))) :
    Calls Tryz.prog 83 #[.slice ka kids.length kc, .func (.func g) #[] lb] w (IdxP w (kids.any p)) := by
  have HK := Lib.hid hr
  have HP := Lib.hid hp
  clear hr hp
  go_enter Tryz.func83, Tryz.ntmps83
  go_wp2_with fail
  go_loopw [5, 8] (fun _ i wr => ∃ k : Nat, i = .int .i64 k ∧ k ≤ kids.length ∧ Hid ((kids.take k).any p = false) ∧ w.grownBy wr none) (fun _ i _ => kids.length - (intOf i).toNat)
  case atStart => exact ⟨0, rfl, Nat.zero_le _, rfl, only_refl _ _⟩
  case round =>
    obtain ⟨k, rfl, hk, HN, hG⟩ := hrel
    have GR := Lib.hid hG
    clear hG
    by_cases hlt : k < kids.length
    · obtain ⟨y, hy⟩ : ∃ y, kids[k]? = some y := ⟨_, List.getElem?_eq_getElem hlt⟩
      obtain ⟨kb, ko, y', rfl, z0, hy'⟩ := (HK.out.grown GR.out (by simp)).str_at hlt
      obtain rfl : y = y' := by have := hy'.out; rw [hy] at this; injection this with this
      clear hy'
      have HI := Lib.hid (HP.out y (List.mem_of_getElem? hy) _ GR.out)
      have HY := Lib.hid hy
      have hltz : (k : Int) < (kids.length : Int) := by omega
      clear hy
      cases hq : p y with
      | true =>
        rw [hq] at HI
        have HQ := Lib.hid (any_hit HY.out hq)
        clear hq
        go_wp2_with (go_at_fn g; refine HI.out.mono ?_; rintro e w6 ⟨rfl, hg6⟩)
        go_ret
        exact idxP_mk (by omega) (by omega) (by rw [HQ.out]; simp) (only_trans GR.out hg6)
      | false =>
        rw [hq] at HI
        have HQ := Lib.hid (any_step HY.out HN.out hq)
        clear hq
        go_wp2_with (go_at_fn g; refine HI.out.mono ?_; rintro e w6 ⟨rfl, hg6⟩)
        go_roundw
        case rel => exact ⟨k + 1, by go_num, by omega, HQ, only_trans GR.out hg6⟩
        case measure => simp [intOf]; omega
    · have hltz : ¬ (k : Int) < (kids.length : Int) := by omega
      have HQ : Hid (kids.any p = false) := by have := HN.out; rw [List.take_of_length_le (by omega)] at this; exact this
      go_wp2_with fail
      go_ret
      exact idxP_mk (by omega) (by omega) (by rw [HQ.out]; decide) GR.out
set_option maxHeartbeats 2000000 in
theorem contStr_any {S : Nat → Prop} (g : FuncId) (eg : ∀ (args : Array Value) (w : World), (callFunc g args).run Tryz.prog w = .ok (.enter g args) w) (lb : Array Value) (p : ByteArray → Bool) (ka : Option Addr) (kids : List ByteArray) (kc : Nat) (w : World) (hr : Rd S w ka (kids.map .string)) (hl : kids.length ≤ 1000000)
    (hp : ∀ k ∈ kids, ∀ w', w.grownBy w' none → Calls Tryz.prog g (#[.string k] ++ lb) w' (BoolP w' (p k))) :
    Calls Tryz.prog 63 #[.slice ka kids.length kc, .func (.func g) #[] lb] w (BoolP w (kids.any p)) := by
  have HI := Lib.hid (idxStr_any g eg lb p ka kids kc w hr hl hp)
  clear hr hl hp
  go_enter Tryz.func63, Tryz.ntmps63
  go_wp2_with fail
  refine HI.out.mono ?_
  rintro e w1 ⟨i, rfl, ⟨hi1, hi2⟩, hi3, hg⟩
  go_wp2_with fail
  go_ret
  exact ⟨by rw [← hi3]; rfl, hg⟩
/-- the number of a name -/
def numOf (e : Ev) (nm : ByteArray) : Option Int := (valOf e nm).bind parseN
def EvV (e : Ev) : Prop := EvI e ∧ e.trace.size ≤ 1000 ∧ e.stream.size ≤ 1000 ∧ ∀ f ∈ e.fields, f.value.size ≤ 1000
theorem getF_mem : ∀ {fs : List FieldD} {nm v : ByteArray}, getF fs nm = some v → ∃ f ∈ fs, f.value = v
  | [], _, _, h => by cases h
  | f :: fs, nm, v, h => by
    unfold getF at h
    split at h
    · injection h with h; exact ⟨f, List.mem_cons_self .., h⟩
    · obtain ⟨g, hg, e⟩ := getF_mem h; exact ⟨g, List.mem_cons_of_mem _ hg, e⟩
theorem itoaB_size {n : Int} (h : I64 n) : (itoaB n).size ≤ 1000 := by
  have := Lib.itoa_length_le n h.1 h.2
  show (Lib.itoa n).toArray.size ≤ 1000
  simp; omega
theorem valOf_size {e : Ev} {nm v : ByteArray} (h : EvV e) (hv : valOf e nm = some v) : v.size ≤ 1000 := by
  unfold valOf at hv
  split at hv
  · injection hv with hv; rw [← hv]; exact itoaB_size h.1.1
  split at hv
  · injection hv with hv; rw [← hv]; exact itoaB_size h.1.2.1
  split at hv
  · injection hv with hv; rw [← hv]; exact itoaB_size h.1.2.2.1
  split at hv
  · injection hv with hv; rw [← hv]; exact itoaB_size h.1.2.2.2.1
  split at hv
  · injection hv with hv; rw [← hv]; exact h.2.1
  split at hv
  · injection hv with hv; rw [← hv]; exact h.2.2.1
  · obtain ⟨f, hf, rfl⟩ := getF_mem hv; exact h.2.2.2 f hf
set_option maxHeartbeats 2000000 in
theorem num_any {S : Nat → Prop} (e : Ev) (nm : ByteArray) (w : World) (hs : e.Sub S w) (hi : EvV e) (hn : nm.size ≤ maxLen) (ht : Pow10 w) :
    Calls Tryz.prog 95 #[.agg e.cells.toArray, .string nm] w (NumP w (numOf e nm)) := by
  have HV : Hid (∀ w', w.grownBy w' none → Calls Tryz.prog 67 #[.agg e.cells.toArray, .string nm] w' (ValP w' (valOf e nm))) := fun w' hg => val_any e nm w' (hs.grown hg (by simp)) hi.1 hn (ht.grown hg)
  have HZ : Hid (∀ v, valOf e nm = some v → v.size ≤ 1000) := Lib.hid (fun v hv => valOf_size hi hv)
  have HQ : Hid (numOf e nm = (valOf e nm).bind parseN) := Lib.hid rfl
  obtain ⟨o, ho⟩ : ∃ o, o = valOf e nm := ⟨_, rfl⟩
  obtain ⟨q, hq⟩ : ∃ q, q = numOf e nm := ⟨_, rfl⟩
  rw [← ho] at HV HZ HQ
  rw [← hq] at HQ ⊢
  clear ho hq hs hi hn ht
  obtain ⟨host, file, beg, fin, lines, time, weight, trace, stream, fields, la, lc, fa, fc⟩ := e
  have hcl : (Ev.mk host file beg fin lines time weight trace stream fields la lc fa fc).cells.toArray = #[.int .i64 host, .int .i64 file, .int .i64 beg, .int .i64 fin, .slice la lines.length lc, .int .i64 time, .int .i64 weight, .string trace, .string stream, .slice fa fields.length fc] := rfl
  rw [hcl] at HV ⊢
  clear hcl
  go_enter Tryz.func95, Tryz.ntmps95
  go_wp2_with fail
  refine (HV.out _ (only_alloc (only_refl _ _) _)).mono ?_
  rintro e w1 ⟨rfl, hg1⟩
  have G1 : Hid (w.grownBy w1 none) := only_trans (only_alloc (only_refl _ _) _) hg1
  clear hg1
  cases o with
  | none =>
    have HQ2 : Hid (q = none) := Lib.hid (by rw [HQ.out]; rfl)
    simp only [valV]
    go_wp2_with fail
    rw [HQ2.out]
    exact bodyPost_ret (v := numV none) (by simp [results, Tryz.results95, go_sem, numV]) rfl ⟨rfl, G1.out⟩
  | some s =>
    have HQ2 : Hid (q = parseN s) := Lib.hid (by rw [HQ.out]; rfl)
    have HPS := Lib.hid (parse_any s w1 (by have := HZ.out s rfl; omega))
    simp only [valV]
    go_wp2_with fail
    refine HPS.out.mono ?_
    obtain ⟨p, hp⟩ : ∃ p, p = parseN s := ⟨_, rfl⟩
    rw [← hp] at HQ2 ⊢
    clear hp HPS
    rintro e w2 ⟨rfl, hg2⟩
    have G2 := Lib.hid (only_trans G1.out hg2)
    clear hg2
    cases p with
    | none =>
      simp only [numV]
      go_wp2_with fail
      rw [HQ2.out]
      exact bodyPost_ret (v := numV none) (by simp [results, Tryz.results95, go_sem, numV]) rfl ⟨rfl, G2.out⟩
    | some n =>
      simp only [numV]
      go_wp2_with fail
      rw [HQ2.out]
      exact bodyPost_ret (v := numV (some n)) (by simp [results, Tryz.results95, go_sem, numV]) rfl ⟨rfl, G2.out⟩
end Go.Proofs.YtceebhgbebkafaaGreatDoor
namespace Go.Proofs.YtceebhgbebkafaaGreatDoor
open Go.RowKit
set_option linter.unusedVariables false
set_option linter.unusedSimpArgs false

/-- the words of an event, in order -/
def wsOf (e : Ev) : List ByteArray := dist (rawW (bts (textOf e.lines)))
def onNum (p : Int → Bool) : Option Int → Bool
  | none => false
  | some v => p v
def eqTo (x : ByteArray) : Option ByteArray → Bool
  | none => false
  | some v => v.toList == x.toList
/-- does a test hold -/
def holdB (e : Ev) : Nat → TT → Bool
  | 0, _ => false
  | n + 1, t =>
    if t.op = 0 then true
    else if t.op = 1 then Lib.containsS (wsOf e) t.tx
    else if t.op = 2 then (wsOf e).any (fun s => Lib.hasPrefix s.data.toList t.tx.data.toList)
    else if t.op = 3 then Lib.contains (textOf e.lines).data.toList t.tx.data.toList
    else if t.op = 4 then eqTo t.tx (valOf e t.nm)
    else if t.op = 8 then (valOf e t.nm).isSome
    else if t.op = 9 then onNum (fun v => decide (v < t.num)) (numOf e t.nm)
    else if t.op = 10 then onNum (fun v => decide (t.num < v)) (numOf e t.nm)
    else if t.op = 11 then onNum (fun v => v == t.num) (numOf e t.nm)
    else if t.op = 5 then !(t.kids.any (holdB e n))
    else if t.op = 6 then !(t.kids.any (fun k => !holdB e n k))
    else if t.op = 7 then t.kids.any (holdB e n)
    else false
def MaxL (w : World) : Prop := 1 < w.heap.size ∧ ∃ m, w.cell? ⟨1, 0, none⟩ = some (.int .i64 m)
theorem MaxL.grown {w w' : World} (h : MaxL w) (hg : w.grownBy w' none) : MaxL w' := by
  obtain ⟨h1, m, hm⟩ := h
  exact ⟨Nat.lt_of_lt_of_le h1 hg.size, m, (hg.cell_far ⟨1, 0, none⟩ h1 (by simp)).trans hm⟩
set_option maxHeartbeats 1000000 in
theorem cmpC9 (v num : Int) (b : Nat) (w : World) (hc : w.cell? ⟨b, 3, none⟩ = some (.int .i64 num)) :
    Calls Tryz.prog 69 #[.int .i64 v, .pointer (some ⟨b, 0, none⟩)] w (fun e w' => e = .returned (.bool (decide (v < num))) ∧ w' = w) := by
  go_enter Tryz.func69, Tryz.ntmps69
  go_wp2_with fail
  all_goals
    go_ret
    exact ⟨by first | rfl | simp_all, rfl⟩
set_option maxHeartbeats 1000000 in
theorem cmpC10 (v num : Int) (b : Nat) (w : World) (hc : w.cell? ⟨b, 3, none⟩ = some (.int .i64 num)) :
    Calls Tryz.prog 70 #[.int .i64 v, .pointer (some ⟨b, 0, none⟩)] w (fun e w' => e = .returned (.bool (decide (num < v))) ∧ w' = w) := by
  go_enter Tryz.func70, Tryz.ntmps70
  go_wp2_with fail
  all_goals
    go_ret
    exact ⟨by first | rfl | simp_all, rfl⟩
set_option maxHeartbeats 1000000 in
theorem cmpC11 (v num : Int) (b : Nat) (w : World) (hc : w.cell? ⟨b, 3, none⟩ = some (.int .i64 num)) :
    Calls Tryz.prog 71 #[.int .i64 v, .pointer (some ⟨b, 0, none⟩)] w (fun e w' => e = .returned (.bool (v == num)) ∧ w' = w) := by
  go_enter Tryz.func71, Tryz.ntmps71
  go_wp2_with fail
  all_goals
    go_ret
    exact ⟨by first | rfl | simp_all, rfl⟩
set_option maxHeartbeats 1000000 in
theorem preC (s tx : ByteArray) (b : Nat) (w : World) (hc : w.cell? ⟨b, 2, none⟩ = some (.string tx)) :
    Calls Tryz.prog 64 #[.string s, .pointer (some ⟨b, 0, none⟩)] w (BoolP w (Lib.hasPrefix s.data.toList tx.data.toList)) := by
  have HP := Lib.hid (Tryz.strings_HasPrefix s tx w)
  go_enter Tryz.func64, Tryz.ntmps64
  go_wp2_with fail
  refine HP.out.mono ?_
  rintro e w2 ⟨rfl, rfl⟩
  go_wp2_with fail
  go_ret
  exact ⟨rfl, only_refl _ _⟩
set_option maxHeartbeats 4000000 in
set_option maxRecDepth 100000 in
theorem number_any {S : Nat → Prop} (e : Ev) (tt : ByteArray) (A : Option Addr) (ws : List ByteArray) (c : Nat) (op : Int) (nm tx : ByteArray) (num : Int) (ka : Option Addr) (kids : List TT) (kc : Nat) (g : FuncId) (eg : ∀ (args : Array Value) (w : World), (callFunc g args).run Tryz.prog w = .ok (.enter g args) w) (b : Nat) (p : Int → Bool) (w : World)
    (hs : e.Sub S w) (hi : EvV e) (hn : nm.size ≤ maxLen) (ht : Pow10 w) (hp : ∀ v w', w.grownBy w' none → Calls Tryz.prog g #[.int .i64 v, .pointer (some ⟨b, 0, none⟩)] w' (fun en w'' => en = .returned (.bool (p v)) ∧ w'' = w')) :
    Calls Tryz.prog 68 #[.agg (e.cells ++ [Value.string tt, Value.slice A ws.length c]).toArray, .agg #[.int .i64 op, .string nm, .string tx, .int .i64 num, .slice ka kids.length kc], .func (.func g) #[] #[.pointer (some ⟨b, 0, none⟩)]] w (BoolP w (onNum p (numOf e nm))) := by
  have HN : Hid (∀ w', w.grownBy w' none → Calls Tryz.prog 95 #[.agg e.cells.toArray, .string nm] w' (NumP w' (numOf e nm))) := fun w' hg => num_any e nm w' (hs.grown hg (by simp)) hi hn (ht.grown hg)
  have HP := Lib.hid hp
  obtain ⟨o, ho⟩ : ∃ o, o = numOf e nm := ⟨_, rfl⟩
  rw [← ho] at HN ⊢
  clear ho hs hi hn ht hp
  obtain ⟨host, file, beg, fin, lines, time, weight, trace, stream, fields, la, lc, fa, fc⟩ := e
  have hcl : (Ev.mk host file beg fin lines time weight trace stream fields la lc fa fc).cells.toArray = #[.int .i64 host, .int .i64 file, .int .i64 beg, .int .i64 fin, .slice la lines.length lc, .int .i64 time, .int .i64 weight, .string trace, .string stream, .slice fa fields.length fc] := rfl
  rw [hcl] at HN
  clear hcl
  show Calls _ _ #[.agg #[.int .i64 host, .int .i64 file, .int .i64 beg, .int .i64 fin, .slice la lines.length lc, .int .i64 time, .int .i64 weight, .string trace, .string stream, .slice fa fields.length fc, .string tt, .slice A ws.length c], .agg #[.int .i64 op, .string nm, .string tx, .int .i64 num, .slice ka kids.length kc], .func (.func g) #[] #[.pointer (some ⟨b, 0, none⟩)]] w _
  go_enter Tryz.func68, Tryz.ntmps68
  go_wp2_with fail
  refine (HN.out _ (only_alloc (only_alloc (only_refl _ _) _) _)).mono ?_
  rintro en w1 ⟨rfl, hg1⟩
  have G1 : Hid (w.grownBy w1 none) := only_trans (only_alloc (only_alloc (only_refl _ _) _) _) hg1
  clear hg1
  cases o with
  | none =>
    simp only [numV]
    go_wp2_with fail
    go_ret
    exact ⟨rfl, G1.out⟩
  | some v =>
    simp only [numV]
    go_wp2_with fail
    refine (HP.out v _ G1.out).mono ?_
    rintro en w2 ⟨rfl, rfl⟩
    go_wp2_with fail
    go_ret
    exact ⟨rfl, G1.out⟩
set_option maxHeartbeats 1000000 in
theorem notC (k : TT) (v : Bool) (host file beg fin : Int) (la : Option Addr) (ln lc : Nat) (time weight : Int) (trace stream : ByteArray) (fa : Option Addr) (fn fc : Nat) (tt : ByteArray) (A : Option Addr) (wn c : Nat) (b : Nat) (w : World) (hB : Blk w b 61 #[.int .i64 host, .int .i64 file, .int .i64 beg, .int .i64 fin, .slice la ln lc, .int .i64 time, .int .i64 weight, .string trace, .string stream, .slice fa fn fc, .string tt, .slice A wn c])
    (IH : ∀ w', w.grownBy w' none → Calls Tryz.prog 33 #[.agg #[.int .i64 host, .int .i64 file, .int .i64 beg, .int .i64 fin, .slice la ln lc, .int .i64 time, .int .i64 weight, .string trace, .string stream, .slice fa fn fc, .string tt, .slice A wn c], .agg #[.int .i64 k.op, .string k.nm, .string k.tx, .int .i64 k.num, .slice k.ka k.kids.length k.kc]] w' (BoolP w' v)) :
    Calls Tryz.prog 72 #[.agg #[.int .i64 k.op, .string k.nm, .string k.tx, .int .i64 k.num, .slice k.ka k.kids.length k.kc], .pointer (some ⟨b, 0, none⟩)] w (BoolP w (!v)) := by
  have HI := Lib.hid IH
  have hlt := hB.lt
  have hne : b ≠ w.heap.size := by omega
  have s0 := hB.cell 0; have s1 := hB.cell 1; have s2 := hB.cell 2; have s3 := hB.cell 3; have s4 := hB.cell 4; have s5 := hB.cell 5; have s6 := hB.cell 6; have s7 := hB.cell 7; have s8 := hB.cell 8; have s9 := hB.cell 9; have s10 := hB.cell 10; have s11 := hB.cell 11
  simp at s0 s1 s2 s3 s4 s5 s6 s7 s8 s9 s10 s11
  clear IH hB
  go_enter Tryz.func72, Tryz.ntmps72
  go_wp2_with fail
  refine (HI.out _ (only_alloc (only_refl _ _) _)).mono ?_
  rintro e w1 ⟨rfl, hg⟩
  go_wp2_with fail
  go_ret
  exact ⟨rfl, only_trans (only_alloc (only_refl _ _) _) hg⟩
set_option maxHeartbeats 4000000 in
set_option maxRecDepth 100000 in
theorem mholds_any (e : Ev) (hi : EvV e) (htl : (textOf e.lines).size ≤ 1000000) (A : Option Addr) (c : Nat) (hwl : (wsOf e).length ≤ 1000000) (n : Nat) : ∀ (t : TT) (S T U : Nat → Prop) (w : World), t.Ok n → t.Sub n S w → e.Sub T w → Rd U w A ((wsOf e).map .string) → Pow10 w → MaxL w →
    Calls Tryz.prog 33 #[.agg (e.cells ++ [Value.string (textOf e.lines), Value.slice A (wsOf e).length c]).toArray, .agg t.cells.toArray] w (BoolP w (holdB e n t)) := by
  induction n with
  | zero => intro t S T U w hok; exact hok.elim
  | succ n IH' =>
  intro t S T U w hok hsub hes hrd htb hml
  obtain ⟨op, nm, tx, num, ka, kc, kids⟩ := t
  obtain ⟨SV, hSV⟩ : ∃ SV, SV = (e.cells ++ [Value.string (textOf e.lines), Value.slice A (wsOf e).length c]).toArray := ⟨_, rfl⟩
  have IH : Hid (∀ y ∈ kids, ∀ w', w.grownBy w' none → Calls Tryz.prog 33 #[.agg SV, .agg #[.int .i64 y.op, .string y.nm, .string y.tx, .int .i64 y.num, .slice y.ka y.kids.length y.kc]] w' (BoolP w' (holdB e n y))) := fun y hy w' hg => by
    rw [hSV]
    exact IH' y S T U w' (hok.2.2.2.2.2 y hy) ((hsub.2.2.2 y hy).grown hg (by simp)) (hes.grown hg (by simp)) (hrd.grown hg (by simp)) (htb.grown hg) (hml.grown hg)
  have HSV := Lib.hid hSV
  have HK : Hid (Rd S w ka (kids.flatMap TT.cells)) := hsub.1
  have hl3 : kids.length ≤ 3 := hok.len
  have hz1 : nm.size ≤ 20 := hok.2.1.1
  have hz2 : tx.size ≤ 20 := hok.2.1.2
  have hnm : nm.size ≤ maxLen := by unfold maxLen; omega
  have HVAL : Hid (∀ w', w.grownBy w' none → Calls Tryz.prog 67 #[.agg e.cells.toArray, .string nm] w' (ValP w' (valOf e nm))) := fun w' hg => val_any e nm w' (hes.grown hg (by simp)) hi.1 hnm (htb.grown hg)
  have HNUM : Hid (∀ (g : FuncId) (eg : ∀ (args : Array Value) (w : World), (callFunc g args).run Tryz.prog w = .ok (.enter g args) w) (b : Nat) (p : Int → Bool) (W : World), w.grownBy W none → (∀ v w', W.grownBy w' none → Calls Tryz.prog g #[.int .i64 v, .pointer (some ⟨b, 0, none⟩)] w' (fun en w'' => en = .returned (.bool (p v)) ∧ w'' = w')) → Calls Tryz.prog 68 #[.agg SV, .agg #[.int .i64 op, .string nm, .string tx, .int .i64 num, .slice ka kids.length kc], .func (.func g) #[] #[.pointer (some ⟨b, 0, none⟩)]] W (BoolP W (onNum p (numOf e nm)))) := Lib.hid (fun g eg b p W hg hp => by
    rw [hSV]
    exact number_any e (textOf e.lines) A (wsOf e) c op nm tx num ka kids kc g eg b p W (hes.grown hg (by simp)) hi hnm (htb.grown hg) hp)
  have HRD : Hid (Rd U w A ((wsOf e).map .string)) := hrd
  have HML := Lib.hid hml
  have HH : Hid (holdB e (n + 1) (TT.mk op nm tx num ka kc kids) = holdB e (n + 1) (TT.mk op nm tx num ka kc kids)) := Lib.hid rfl
  obtain ⟨R, hR⟩ : ∃ R, R = holdB e (n + 1) (TT.mk op nm tx num ka kc kids) := ⟨_, rfl⟩
  have HRR := Lib.hid hR
  rw [← hR]
  clear hR HH IH' hok hsub hes hrd htb hml
  have HCH : Hid (∀ k, holdB e n k = holdB e n k) := Lib.hid (fun _ => rfl)
  obtain ⟨hb, hhb⟩ : ∃ f : TT → Bool, f = holdB e n := ⟨_, rfl⟩
  obtain ⟨ws, hws⟩ : ∃ ws, ws = wsOf e := ⟨_, rfl⟩
  obtain ⟨tt, htt⟩ : ∃ tt, tt = textOf e.lines := ⟨_, rfl⟩
  obtain ⟨vo, hvo⟩ : ∃ vo, vo = valOf e nm := ⟨_, rfl⟩
  obtain ⟨no, hno⟩ : ∃ no, no = numOf e nm := ⟨_, rfl⟩
  have HHB := Lib.hid hhb
  have HWS := Lib.hid hws
  have HTT := Lib.hid htt
  have HVO := Lib.hid hvo
  have HNO := Lib.hid hno
  rw [← hws] at HRD hwl
  rw [← htt] at htl
  rw [← hvo] at HVAL
  rw [← hno] at HNUM
  simp only [← hhb] at IH
  have hSV2 : SV = (e.cells ++ [Value.string tt, Value.slice A ws.length c]).toArray := by rw [hSV, ← htt, ← hws]
  show Calls _ _ #[.agg (e.cells ++ [Value.string (textOf e.lines), Value.slice A (wsOf e).length c]).toArray, .agg #[.int .i64 op, .string nm, .string tx, .int .i64 num, .slice ka kids.length kc]] w _
  rw [← htt, ← hws, ← hSV2]
  clear hSV HSV hhb hws htt hvo hno HCH
  have hE : ∀ x : Ev, x = e → True := fun _ _ => trivial
  obtain ⟨e0, he0⟩ : ∃ e0, e0 = e := ⟨_, rfl⟩
  rw [← he0] at HRR HHB HWS HTT HVO HNO
  clear hE he0
  obtain ⟨host, file, beg, fin, lines, time, weight, trace, stream, fields, la, lc, fa, fc⟩ := e
  have hcl : (Ev.mk host file beg fin lines time weight trace stream fields la lc fa fc).cells.toArray = #[.int .i64 host, .int .i64 file, .int .i64 beg, .int .i64 fin, .slice la lines.length lc, .int .i64 time, .int .i64 weight, .string trace, .string stream, .slice fa fields.length fc] := rfl
  rw [hcl] at HVAL
  have hcl2 : SV = #[.int .i64 host, .int .i64 file, .int .i64 beg, .int .i64 fin, .slice la lines.length lc, .int .i64 time, .int .i64 weight, .string trace, .string stream, .slice fa fields.length fc, .string tt, .slice A ws.length c] := hSV2
  rw [hcl2] at HNUM IH ⊢
  clear hcl hcl2 hSV2 hi
  go_enter Tryz.func33, Tryz.ntmps33
  go_upto_region 1 with fail
  have hbs : Blk ((w.alloc (.cells #[.int .i64 host, .int .i64 file, .int .i64 beg, .int .i64 fin, .slice la lines.length lc, .int .i64 time, .int .i64 weight, .string trace, .string stream, .slice fa fields.length fc, .string tt, .slice A ws.length c] 61)).alloc (.cells #[.int .i64 op, .string nm, .string tx, .int .i64 num, .slice ka kids.length kc] 26)) w.heap.size 61 #[.int .i64 host, .int .i64 file, .int .i64 beg, .int .i64 fin, .slice la lines.length lc, .int .i64 time, .int .i64 weight, .string trace, .string stream, .slice fa fields.length fc, .string tt, .slice A ws.length c] := (Blk.new w _ _).alloc _
  have hbt : Blk ((w.alloc (.cells #[.int .i64 host, .int .i64 file, .int .i64 beg, .int .i64 fin, .slice la lines.length lc, .int .i64 time, .int .i64 weight, .string trace, .string stream, .slice fa fields.length fc, .string tt, .slice A ws.length c] 61)).alloc (.cells #[.int .i64 op, .string nm, .string tx, .int .i64 num, .slice ka kids.length kc] 26)) (w.heap.size + 1) 26 #[.int .i64 op, .string nm, .string tx, .int .i64 num, .slice ka kids.length kc] := by simpa using Blk.new (w.alloc (.cells #[.int .i64 host, .int .i64 file, .int .i64 beg, .int .i64 fin, .slice la lines.length lc, .int .i64 time, .int .i64 weight, .string trace, .string stream, .slice fa fields.length fc, .string tt, .slice A ws.length c] 61)) 26 #[.int .i64 op, .string nm, .string tx, .int .i64 num, .slice ka kids.length kc]
  have hg : w.grownBy ((w.alloc (.cells #[.int .i64 host, .int .i64 file, .int .i64 beg, .int .i64 fin, .slice la lines.length lc, .int .i64 time, .int .i64 weight, .string trace, .string stream, .slice fa fields.length fc, .string tt, .slice A ws.length c] 61)).alloc (.cells #[.int .i64 op, .string nm, .string tx, .int .i64 num, .slice ka kids.length kc] 26)) none := only_alloc (only_alloc (only_refl _ _) _) _
  obtain ⟨W, hW⟩ : ∃ W, W = ((w.alloc (.cells #[.int .i64 host, .int .i64 file, .int .i64 beg, .int .i64 fin, .slice la lines.length lc, .int .i64 time, .int .i64 weight, .string trace, .string stream, .slice fa fields.length fc, .string tt, .slice A ws.length c] 61)).alloc (.cells #[.int .i64 op, .string nm, .string tx, .int .i64 num, .slice ka kids.length kc] 26)) := ⟨_, rfl⟩
  rw [← hW] at hbs hbt hg ⊢
  obtain ⟨r, hr⟩ : ∃ r, r = w.heap.size := ⟨_, rfl⟩
  rw [← hr] at hbs hbt ⊢
  clear hW hr
  have BS := Lib.hid hbs; have BT := Lib.hid hbt; have G := Lib.hid hg
  have lt1 := hbs.lt
  have lt2 := hbt.lt
  have s0 := hbs.cell 0; have s1 := hbs.cell 1; have s2 := hbs.cell 2; have s3 := hbs.cell 3; have s4 := hbs.cell 4; have s5 := hbs.cell 5; have s6 := hbs.cell 6; have s7 := hbs.cell 7; have s8 := hbs.cell 8; have s9 := hbs.cell 9; have s10 := hbs.cell 10; have s11 := hbs.cell 11
  simp at s0 s1 s2 s3 s4 s5 s6 s7 s8 s9 s10 s11
  have b0 := hbt.cell 0; have b1 := hbt.cell 1; have b2 := hbt.cell 2; have b3 := hbt.cell 3; have b4 := hbt.cell 4
  simp at b0 b1 b2 b3 b4
  clear hbs hbt hg
  by_cases h0 : op = 0
  · have g0 : (op == 0) = true := by simp [h0]
    have HV : Hid (R = (true)) := Lib.hid (by rw [HRR.out, h0]; (try simp only [HHB.out, HWS.out, HTT.out, HVO.out, HNO.out]); rfl)
    clear h0
    go_wp2_with fail
    go_ret
    exact ⟨by rw [HV.out]; rfl, G.out⟩
  have g0 : (op == 0) = false := by simp [h0]
  by_cases h1 : op = 1
  · have g1 : (op == 1) = true := by simp [h1]
    have HV : Hid (R = (Lib.containsS ws tx)) := Lib.hid (by rw [HRR.out, h1]; (try simp only [HHB.out, HWS.out, HTT.out, HVO.out, HNO.out]); rfl)
    clear h0 h1
    go_wp2_with fail
    refine (contains_any A c ws tx W (HRD.out.grown G.out (by simp)) hwl).mono ?_
    rintro en w2 ⟨rfl, rfl⟩
    go_wp2_with fail
    go_ret
    exact ⟨by rw [HV.out]; rfl, G.out⟩
  have g1 : (op == 1) = false := by simp [h1]
  by_cases h2 : op = 2
  · have g2 : (op == 2) = true := by simp [h2]
    have HV : Hid (R = (ws.any (fun s => Lib.hasPrefix s.data.toList tx.data.toList))) := Lib.hid (by rw [HRR.out, h2]; (try simp only [HHB.out, HWS.out, HTT.out, HVO.out, HNO.out]); rfl)
    clear h0 h1 h2
    go_wp2_with fail
    refine (contStr_any 64 (enterF Tryz.func64 (by kernel_rfl) (by kernel_rfl)) #[.pointer (some ⟨r + 1, 0, none⟩)] (fun s => Lib.hasPrefix s.data.toList tx.data.toList) A ws c W (HRD.out.grown G.out (by simp)) hwl (fun s _ w' hg => preC s tx (r + 1) w' ((hg.cell_far ⟨r + 1, 2, none⟩ lt2 (by simp)).trans b2))).mono ?_
    rintro en w2 ⟨rfl, hg2⟩
    go_wp2_with fail
    go_ret
    exact ⟨by rw [HV.out]; rfl, only_trans G.out hg2⟩
  have g2 : (op == 2) = false := by simp [h2]
  by_cases h3 : op = 3
  · have g3 : (op == 3) = true := by simp [h3]
    have HV : Hid (R = (Lib.contains tt.data.toList tx.data.toList)) := Lib.hid (by rw [HRR.out, h3]; (try simp only [HHB.out, HWS.out, HTT.out, HVO.out, HNO.out]); rfl)
    clear h0 h1 h2 h3
    obtain ⟨-, m, hm⟩ := HML.out.grown G.out
    have KC := Lib.hid (Tryz.strings_Contains tt tx m W (by omega) hm)
    clear hm
    go_wp2_with fail
    refine KC.out.mono ?_
    rintro en w2 ⟨rfl, rfl⟩
    go_wp2_with fail
    go_ret
    exact ⟨by rw [HV.out]; rfl, G.out⟩
  have g3 : (op == 3) = false := by simp [h3]
  by_cases h4 : op = 4
  · have g4 : (op == 4) = true := by simp [h4]
    have HV : Hid (R = (eqTo tx vo)) := Lib.hid (by rw [HRR.out, h4]; (try simp only [HHB.out, HWS.out, HTT.out, HVO.out, HNO.out]); rfl)
    clear h0 h1 h2 h3 h4
    go_wp2_with fail
    refine (HVAL.out _ G.out).mono ?_
    rintro en w2 ⟨rfl, hg2⟩
    have G2 := Lib.hid (only_trans G.out hg2)
    have b2' := (BT.out.grown hg2 (by simp)).cell 2
    simp at b2'
    clear hg2 s0 s1 s2 s3 s4 s5 s6 s7 s8 s9 s10 s11 b0 b1 b2 b3 b4
    cases vo with
    | none =>
      simp only [valV]
      go_wp2_with fail
      go_ret
      exact ⟨by rw [HV.out]; rfl, G2.out⟩
    | some s =>
      simp only [valV]
      go_wp2_with fail
      go_ret
      exact ⟨by rw [HV.out]; rfl, G2.out⟩
  have g4 : (op == 4) = false := by simp [h4]
  by_cases h8 : op = 8
  · have g8 : (op == 8) = true := by simp [h8]
    have HV : Hid (R = (vo.isSome)) := Lib.hid (by rw [HRR.out, h8]; (try simp only [HHB.out, HWS.out, HTT.out, HVO.out, HNO.out]); rfl)
    clear h0 h1 h2 h3 h4 h8
    go_wp2_with fail
    refine (HVAL.out _ G.out).mono ?_
    rintro en w2 ⟨rfl, hg2⟩
    have G2 := Lib.hid (only_trans G.out hg2)
    clear hg2 s0 s1 s2 s3 s4 s5 s6 s7 s8 s9 s10 s11 b0 b1 b2 b3 b4
    cases vo with
    | none =>
      simp only [valV]
      go_wp2_with fail
      go_ret
      exact ⟨by rw [HV.out]; rfl, G2.out⟩
    | some s =>
      simp only [valV]
      go_wp2_with fail
      go_ret
      exact ⟨by rw [HV.out]; rfl, G2.out⟩
  have g8 : (op == 8) = false := by simp [h8]
  by_cases h9 : op = 9
  · have g9 : (op == 9) = true := by simp [h9]
    have HV : Hid (R = (onNum (fun v => decide (v < num)) no)) := Lib.hid (by rw [HRR.out, h9]; (try simp only [HHB.out, HWS.out, HTT.out, HVO.out, HNO.out]); rfl)
    clear h0 h1 h2 h3 h4 h8 h9
    go_wp2_with fail
    refine (HNUM.out 69 (enterF Tryz.func69 (by kernel_rfl) (by kernel_rfl)) (r + 1) (fun v => decide (v < num)) W G.out (fun v w' hg => cmpC9 v num (r + 1) w' ((hg.cell_far ⟨r + 1, 3, none⟩ lt2 (by simp)).trans b3))).mono ?_
    rintro en w2 ⟨rfl, hg2⟩
    go_wp2_with fail
    go_ret
    exact ⟨by rw [HV.out]; rfl, only_trans G.out hg2⟩
  have g9 : (op == 9) = false := by simp [h9]
  by_cases h10 : op = 10
  · have g10 : (op == 10) = true := by simp [h10]
    have HV : Hid (R = (onNum (fun v => decide (num < v)) no)) := Lib.hid (by rw [HRR.out, h10]; (try simp only [HHB.out, HWS.out, HTT.out, HVO.out, HNO.out]); rfl)
    clear h0 h1 h2 h3 h4 h8 h9 h10
    go_wp2_with fail
    refine (HNUM.out 70 (enterF Tryz.func70 (by kernel_rfl) (by kernel_rfl)) (r + 1) (fun v => decide (num < v)) W G.out (fun v w' hg => cmpC10 v num (r + 1) w' ((hg.cell_far ⟨r + 1, 3, none⟩ lt2 (by simp)).trans b3))).mono ?_
    rintro en w2 ⟨rfl, hg2⟩
    go_wp2_with fail
    go_ret
    exact ⟨by rw [HV.out]; rfl, only_trans G.out hg2⟩
  have g10 : (op == 10) = false := by simp [h10]
  by_cases h11 : op = 11
  · have g11 : (op == 11) = true := by simp [h11]
    have HV : Hid (R = (onNum (fun v => v == num) no)) := Lib.hid (by rw [HRR.out, h11]; (try simp only [HHB.out, HWS.out, HTT.out, HVO.out, HNO.out]); rfl)
    clear h0 h1 h2 h3 h4 h8 h9 h10 h11
    go_wp2_with fail
    refine (HNUM.out 71 (enterF Tryz.func71 (by kernel_rfl) (by kernel_rfl)) (r + 1) (fun v => v == num) W G.out (fun v w' hg => cmpC11 v num (r + 1) w' ((hg.cell_far ⟨r + 1, 3, none⟩ lt2 (by simp)).trans b3))).mono ?_
    rintro en w2 ⟨rfl, hg2⟩
    go_wp2_with fail
    go_ret
    exact ⟨by rw [HV.out]; rfl, only_trans G.out hg2⟩
  have g11 : (op == 11) = false := by simp [h11]
  by_cases h5 : op = 5
  · have g5 : (op == 5) = true := by simp [h5]
    have HV : Hid (R = (!(kids.any hb))) := Lib.hid (by rw [HRR.out, h5]; (try simp only [HHB.out, HWS.out, HTT.out, HVO.out, HNO.out]); rfl)
    clear h0 h1 h2 h3 h4 h8 h9 h10 h11 h5
    go_wp2_with fail
    refine (contG_any 33 (enterF Tryz.func33 (by kernel_rfl) (by kernel_rfl)) #[.agg #[.int .i64 host, .int .i64 file, .int .i64 beg, .int .i64 fin, .slice la lines.length lc, .int .i64 time, .int .i64 weight, .string trace, .string stream, .slice fa fields.length fc, .string tt, .slice A ws.length c]] #[] hb ka kids kc W (HK.out.grown G.out (by simp)) (by omega) (fun k hk w' hg => IH.out k hk w' (only_trans G.out hg))).mono ?_
    rintro en w2 ⟨rfl, hg2⟩
    go_wp2_with fail
    go_ret
    exact ⟨by rw [HV.out]; rfl, only_trans G.out hg2⟩
  have g5 : (op == 5) = false := by simp [h5]
  by_cases h6 : op = 6
  · have g6 : (op == 6) = true := by simp [h6]
    have HV : Hid (R = (!(kids.any (fun k => !hb k)))) := Lib.hid (by rw [HRR.out, h6]; (try simp only [HHB.out, HWS.out, HTT.out, HVO.out, HNO.out]); rfl)
    clear h0 h1 h2 h3 h4 h8 h9 h10 h11 h5 h6
    go_wp2_with fail
    refine (contF_any 72 (enterF Tryz.func72 (by kernel_rfl) (by kernel_rfl)) #[.pointer (some ⟨r, 0, none⟩)] (fun k => !hb k) ka kids kc W (HK.out.grown G.out (by simp)) (by omega) (fun k hk w' hg => notC k _ _ _ _ _ _ _ _ _ _ _ _ _ _ _ _ _ _ _ r w' (BS.out.grown hg (by simp)) (fun w2 hg2 => IH.out k hk w2 (only_trans G.out (only_trans hg hg2))))).mono ?_
    rintro en w2 ⟨rfl, hg2⟩
    go_wp2_with fail
    go_ret
    exact ⟨by rw [HV.out]; rfl, only_trans G.out hg2⟩
  have g6 : (op == 6) = false := by simp [h6]
  by_cases h7 : op = 7
  · have g7 : (op == 7) = true := by simp [h7]
    have HV : Hid (R = ((kids.any hb))) := Lib.hid (by rw [HRR.out, h7]; (try simp only [HHB.out, HWS.out, HTT.out, HVO.out, HNO.out]); rfl)
    clear h0 h1 h2 h3 h4 h8 h9 h10 h11 h5 h6 h7
    go_wp2_with fail
    refine (contG_any 33 (enterF Tryz.func33 (by kernel_rfl) (by kernel_rfl)) #[.agg #[.int .i64 host, .int .i64 file, .int .i64 beg, .int .i64 fin, .slice la lines.length lc, .int .i64 time, .int .i64 weight, .string trace, .string stream, .slice fa fields.length fc, .string tt, .slice A ws.length c]] #[] hb ka kids kc W (HK.out.grown G.out (by simp)) (by omega) (fun k hk w' hg => IH.out k hk w' (only_trans G.out hg))).mono ?_
    rintro en w2 ⟨rfl, hg2⟩
    go_wp2_with fail
    go_ret
    exact ⟨by rw [HV.out]; rfl, only_trans G.out hg2⟩
  have g7 : (op == 7) = false := by simp [h7]
  have HV : Hid (R = false) := Lib.hid (by rw [HRR.out]; simp [holdB, TT.op, h0, h1, h2, h3, h4, h8, h9, h10, h11, h5, h6, h7])
  clear h0 h1 h2 h3 h4 h8 h9 h10 h11 h5 h6 h7
  go_wp2_with fail
  go_ret
  exact ⟨by rw [HV.out]; rfl, G.out⟩
end Go.Proofs.YtceebhgbebkafaaGreatDoor
