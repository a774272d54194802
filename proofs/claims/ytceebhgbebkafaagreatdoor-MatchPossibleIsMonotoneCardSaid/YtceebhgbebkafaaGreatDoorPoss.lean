/- match.Possible. Condition: sizes. -/
import Derived.Test.YtceebhgbebkafaaGreatDoorTermA
import Derived.Test.YtceebhgbebkafaaGreatDoorRIdx
import Derived.Laws.EntriesVeiled
namespace Go.Proofs.YtceebhgbebkafaaGreatDoor
open Go.RowKit
set_option linter.unusedVariables false
set_option linter.unusedSimpArgs false

theorem enterF {f : FuncId} {fn : Func} (hf : Tryz.prog.funcs[f]? = some fn) (hname : (fn.name == "runtime.NumGoroutine") = false) (hb : fn.body.isNone = false) (args : Array Value) (w : World) : (callFunc f args).run Tryz.prog w = .ok (.enter f args) w := by
  have h1 : fn.name ≠ "runtime.NumGoroutine" := by simpa using hname
  cases hc : fn.body with
  | none => rw [hc] at hb; cases hb
  | some c => simp [callFunc, hf, h1, hc]
set_option maxHeartbeats 2000000 in
theorem possC1 (k : TT) (v : Bool) (A : Option Addr) (m c b : Nat) (w : World) (hc : w.cell? ⟨b, 0, none⟩ = some (.slice A m c)) (hb : b < w.heap.size)
    (IH : ∀ w', w.grownBy w' none → Calls Tryz.prog 20 #[.agg #[.int .i64 k.op, .string k.nm, .string k.tx, .int .i64 k.num, .slice k.ka k.kids.length k.kc], .slice A m c] w' (BoolP w' v)) :
    Calls Tryz.prog 45 #[.agg #[.int .i64 k.op, .string k.nm, .string k.tx, .int .i64 k.num, .slice k.ka k.kids.length k.kc], .pointer (some ⟨b, 0, none⟩)] w (BoolP w v) := by
  have HI := Lib.hid IH
  have hne : b ≠ w.heap.size := by omega
  clear IH
  go_enter Tryz.func45, Tryz.ntmps45
  go_wp2_with fail
  refine (HI.out _ (only_alloc (only_refl _ _) _)).mono ?_
  rintro e w1 ⟨rfl, hg⟩
  go_wp2_with fail
  go_ret
  exact ⟨rfl, only_trans (only_alloc (only_refl _ _) _) hg⟩
set_option maxHeartbeats 2000000 in
theorem possC2 (k : TT) (v : Bool) (A : Option Addr) (m c b d : Nat) (w : World) (hc : w.cell? ⟨b, 0, none⟩ = some (.slice A m c)) (hb : b < w.heap.size) (hd : w.cell? ⟨d, 0, none⟩ = some (.func (.func 45) #[] #[.pointer (some ⟨b, 0, none⟩)])) (hd2 : d < w.heap.size)
    (IH : ∀ w', w.grownBy w' none → Calls Tryz.prog 20 #[.agg #[.int .i64 k.op, .string k.nm, .string k.tx, .int .i64 k.num, .slice k.ka k.kids.length k.kc], .slice A m c] w' (BoolP w' v)) :
    Calls Tryz.prog 47 #[.agg #[.int .i64 k.op, .string k.nm, .string k.tx, .int .i64 k.num, .slice k.ka k.kids.length k.kc], .pointer (some ⟨d, 0, none⟩)] w (BoolP w (!v)) := by
  have H1 : Hid (∀ w', w.grownBy w' none → Calls Tryz.prog 45 #[.agg #[.int .i64 k.op, .string k.nm, .string k.tx, .int .i64 k.num, .slice k.ka k.kids.length k.kc], .pointer (some ⟨b, 0, none⟩)] w' (BoolP w' v)) := fun w' hg =>
    possC1 k v A m c b w' ((hg.cell_far ⟨b, 0, none⟩ hb (by simp)).trans hc) (Nat.lt_of_lt_of_le hb hg.size) (fun w2 hg2 => IH w2 (only_trans hg hg2))
  have hne : d ≠ w.heap.size := by omega
  clear IH hc
  go_enter Tryz.func47, Tryz.ntmps47
  go_wp2_with fail
  refine (H1.out _ (only_alloc (only_refl _ _) _)).mono ?_
  rintro e w1 ⟨rfl, hg⟩
  go_wp2_with fail
  go_ret
  exact ⟨rfl, only_trans (only_alloc (only_refl _ _) _) hg⟩
theorem possK {f : ByteArray → Bool} {n : Nat} {op num : Int} {nm tx : ByteArray} {ka : Option Addr} {kc : Nat} {kids : List TT} (h6 : op = 6) : poss f (n + 1) (TT.mk op nm tx num ka kc kids) = !(kids.any (fun k => !poss f n k)) := by
  subst h6
  simp only [poss, TT.op, TT.kids, if_pos]
  induction kids with
  | nil => rfl
  | cons x xs ih => simp only [List.all_cons, List.any_cons, ih, Bool.not_or, Bool.not_not]
theorem possO {f : ByteArray → Bool} {n : Nat} {op num : Int} {nm tx : ByteArray} {ka : Option Addr} {kc : Nat} {kids : List TT} (h7 : op = 7) : poss f (n + 1) (TT.mk op nm tx num ka kc kids) = kids.any (poss f n) := by
  subst h7
  simp [poss, TT.op, TT.kids]
theorem possL {f : ByteArray → Bool} {n : Nat} {op num : Int} {nm tx : ByteArray} {ka : Option Addr} {kc : Nat} {kids : List TT} (h6 : op ≠ 6) (h7 : op ≠ 7) : poss f (n + 1) (TT.mk op nm tx num ka kc kids) = match (TT.mk op nm tx num ka kc kids).term with | none => true | some s => f s := by
  unfold poss
  rw [if_neg (by simpa [TT.op] using h6), if_neg (by simpa [TT.op] using h7)]
  rfl
set_option maxHeartbeats 4000000 in
set_option maxRecDepth 100000 in
theorem poss_any (n : Nat) : ∀ (t : TT) (S T : Nat → Prop) (w : World) (A : Option Addr) (ts : List ByteArray) (c : Nat), t.Ok n → t.Sub n S w → Rd T w A (ts.map .string) → ts.length ≤ 1000000 →
    Calls Tryz.prog 20 #[.agg t.cells.toArray, .slice A ts.length c] w (BoolP w (poss (Lib.containsS ts) n t)) := by
  induction n with
  | zero => intro t S T w A ts c hok; exact hok.elim
  | succ n IH' =>
  intro t S T w A ts c hok hsub hrd hlt
  obtain ⟨op, nm, tx, num, ka, kc, kids⟩ := t
  have IH : Hid (∀ y ∈ kids, ∀ w', w.grownBy w' none → Calls Tryz.prog 20 #[.agg #[.int .i64 y.op, .string y.nm, .string y.tx, .int .i64 y.num, .slice y.ka y.kids.length y.kc], .slice A ts.length c] w' (BoolP w' (poss (Lib.containsS ts) n y))) := fun y hy w' hg => IH' y S T w' A ts c (hok.2.2.2.2.2 y hy) ((hsub.2.2.2 y hy).grown hg (by simp)) (hrd.grown hg (by simp)) hlt
  have HK : Hid (Rd S w ka (kids.flatMap TT.cells)) := hsub.1
  have HT : Hid (Rd T w A (ts.map .string)) := hrd
  have hl3 : kids.length ≤ 3 := hok.len
  have hz1 : nm.size ≤ 20 := hok.2.1.1
  have hz2 : tx.size ≤ 20 := hok.2.1.2
  clear IH' hok hsub hrd
  show Calls _ _ #[.agg #[.int .i64 op, .string nm, .string tx, .int .i64 num, .slice ka kids.length kc], .slice A ts.length c] w _
  go_enter Tryz.func20, Tryz.ntmps20
  go_upto_region 2 with fail
  obtain ⟨hb0, hb1, hb2, hg⟩ := three_new' (w := w) (c0 := #[.int .i64 op, .string nm, .string tx, .int .i64 num, .slice ka kids.length kc]) (c1 := #[.slice A ts.length c]) (c2 := #[.func (.func 45) #[] #[.pointer (some ⟨w.heap.size + 1, 0, none⟩)]]) (t0 := 26) (t1 := 40) (t2 := 62) (only_refl _ none)
  obtain ⟨W, hW⟩ : ∃ W, W = (((w.alloc (.cells #[.int .i64 op, .string nm, .string tx, .int .i64 num, .slice ka kids.length kc] 26)).alloc (.cells #[.slice A ts.length c] 40)).alloc (.cells #[.func (.func 45) #[] #[.pointer (some ⟨w.heap.size + 1, 0, none⟩)]] 62)) := ⟨_, rfl⟩
  rw [← hW] at hb0 hb1 hb2 hg ⊢
  obtain ⟨r, hr⟩ : ∃ r, r = w.heap.size := ⟨_, rfl⟩
  rw [← hr] at hb0 hb1 hb2 ⊢
  clear hW hr
  have B0 := Lib.hid hb0; have B1 := Lib.hid hb1; have B2 := Lib.hid hb2; have G := Lib.hid hg
  have l1 := hb1.lt
  have l2 := hb2.lt
  have e0 := hb0.cell 0; have e1 := hb0.cell 1; have e2 := hb0.cell 2; have e3 := hb0.cell 3; have e4 := hb0.cell 4
  have s0 := hb1.cell 0
  have c0 := hb2.cell 0
  simp at e0 e1 e2 e3 e4 s0 c0
  clear hb0 hb1 hb2 hg
  by_cases h6 : op = 6
  · have g6 : (op == 6) = true := by simp [h6]
    have HV := Lib.hid (possK (f := Lib.containsS ts) (n := n) (num := num) (nm := nm) (tx := tx) (ka := ka) (kc := kc) (kids := kids) h6)
    clear h6
    go_wp2_with fail
    refine (contF_any 47 (enterF Tryz.func47 (by kernel_rfl) (by kernel_rfl)) #[.pointer (some ⟨r + 1 + 1, 0, none⟩)] (fun k => !poss (Lib.containsS ts) n k) ka kids kc W (HK.out.grown G.out (by simp)) (by omega) (fun k hk w' hg => possC2 k _ A ts.length c (r + 1) (r + 1 + 1) w' ((hg.cell_far ⟨r + 1, 0, none⟩ l1 (by simp)).trans s0) (Nat.lt_of_lt_of_le l1 hg.size) ((hg.cell_far ⟨r + 1 + 1, 0, none⟩ l2 (by simp)).trans c0) (Nat.lt_of_lt_of_le l2 hg.size) (fun w2 hg2 => IH.out k hk w2 (only_trans G.out (only_trans hg hg2))))).mono ?_
    rintro e w1 ⟨rfl, hg1⟩
    go_wp2_with fail
    go_ret
    exact ⟨by rw [HV.out]; rfl, only_trans G.out hg1⟩
  have g6 : (op == 6) = false := by simp [h6]
  by_cases h7 : op = 7
  · have g7 : (op == 7) = true := by simp [h7]
    have HV := Lib.hid (possO (f := Lib.containsS ts) (n := n) (num := num) (nm := nm) (tx := tx) (ka := ka) (kc := kc) (kids := kids) h7)
    clear h6 h7
    go_wp2_with fail
    refine (contF_any 45 (enterF Tryz.func45 (by kernel_rfl) (by kernel_rfl)) #[.pointer (some ⟨r + 1, 0, none⟩)] (poss (Lib.containsS ts) n) ka kids kc W (HK.out.grown G.out (by simp)) (by omega) (fun k hk w' hg => possC1 k _ A ts.length c (r + 1) w' ((hg.cell_far ⟨r + 1, 0, none⟩ l1 (by simp)).trans s0) (Nat.lt_of_lt_of_le l1 hg.size) (fun w2 hg2 => IH.out k hk w2 (only_trans G.out (only_trans hg hg2))))).mono ?_
    rintro e w1 ⟨rfl, hg1⟩
    go_wp2_with fail
    go_ret
    exact ⟨by rw [HV.out]; rfl, only_trans G.out hg1⟩
  have g7 : (op == 7) = false := by simp [h7]
  have HV := Lib.hid (possL (f := Lib.containsS ts) (n := n) (num := num) (nm := nm) (tx := tx) (ka := ka) (kc := kc) (kids := kids) h6 h7)
  clear h6 h7
  go_wp2_with fail
  refine (term_any op nm tx num ka kc kids W hz1 hz2).mono ?_
  obtain ⟨o, ho⟩ : ∃ o, o = (TT.mk op nm tx num ka kc kids).term := ⟨_, rfl⟩
  rw [← ho] at HV ⊢
  clear ho
  rintro e w1 ⟨rfl, hg1⟩
  have G1 := Lib.hid (only_trans G.out hg1)
  have s1 := (B1.out.grown hg1 (by simp)).cell 0
  simp at s1
  clear hg1 e0 e1 e2 e3 e4 s0 c0
  cases o with
  | none =>
    simp only [termV]
    go_wp2_with fail
    go_ret
    exact ⟨by rw [HV.out]; rfl, G1.out⟩
  | some s =>
    simp only [termV]
    go_wp2_with fail
    refine (contains_any A c ts s _ (HT.out.grown G1.out (by simp)) hlt).mono ?_
    rintro e w2 ⟨rfl, rfl⟩
    go_wp2_with fail
    go_ret
    exact ⟨by rw [HV.out]; rfl, G1.out⟩
end Go.Proofs.YtceebhgbebkafaaGreatDoor
