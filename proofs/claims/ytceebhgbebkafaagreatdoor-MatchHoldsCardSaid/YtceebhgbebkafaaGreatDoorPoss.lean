/- match.Possible. Condition: sizes. -/
import Derived.Test.YtceebhgbebkafaaGreatDoorContF
import Derived.Test.YtceebhgbebkafaaGreatDoorRIdx
import Derived.Laws.EntriesVeiled
namespace Go.Proofs.YtceebhgbebkafaaGreatDoor
open Go.RowKit
set_option linter.unusedVariables false
set_option linter.unusedSimpArgs false

theorem enterF {f : FuncId} {fn : Func} (hf : Tryz.prog.funcs[f]? = some fn) (hname : (fn.name == "runtime.NumGoroutine") = false) (hb : fn.body.isNone = false) (args : Array Value) (w : World) : (callFunc f args).run Tryz.prog w = .ok (.enter f args) w := by
  have h1 : fn.name ≠ "runtime.NumGoroutine" := by simpa using hname
  cases hc : fn.body with
  | none => rw [hc] at hb; cases hb
  | some c => simp [callFunc, hf, h1, hc]
set_option maxHeartbeats 2000000 in
theorem possC1 (k : TT) (v : Bool) (A : Option Addr) (m c b : Nat) (w : World) (hc : w.cell? ⟨b, 0, none⟩ = some (.slice A m c)) (hb : b < w.heap.size)
    (IH : ∀ w', w.grownBy w' none → Calls Tryz.prog 20 #[.agg #[.int .i64 k.op, .string k.nm, .string k.tx, .int .i64 k.num, .slice k.ka k.kids.length k.kc], .slice A m c] w' (BoolP w' v)) :
    Calls Tryz.prog 45 #[.agg #[.int .i64 k.op, .string k.nm, .string k.tx, .int .i64 k.num, .slice k.ka k.kids.length k.kc], .pointer (some ⟨b, 0, none⟩)] w (BoolP w v) := by
  have HI := Lib.hid IH
  have hne : b ≠ w.heap.size := by omega
  clear IH
  go_enter Tryz.func45, Tryz.ntmps45
  go_wp2_with fail
  refine (HI.out _ (only_alloc (only_refl _ _) _)).mono ?_
  rintro e w1 ⟨rfl, hg⟩
  go_wp2_with fail
  go_ret
  exact ⟨rfl, only_trans (only_alloc (only_refl _ _) _) hg⟩
set_option maxHeartbeats 2000000 in
theorem possC2 (k : TT) (v : Bool) (A : Option Addr) (m c b d : Nat) (w : World) (hc : w.cell? ⟨b, 0, none⟩ = some (.slice A m c)) (hb : b < w.heap.size) (hd : w.cell? ⟨d, 0, none⟩ = some (.func (.func 45) #[] #[.pointer (some ⟨b, 0, none⟩)])) (hd2 : d < w.heap.size)
    (IH : ∀ w', w.grownBy w' none → Calls Tryz.prog 20 #[.agg #[.int .i64 k.op, .string k.nm, .string k.tx, .int .i64 k.num, .slice k.ka k.kids.length k.kc], .slice A m c] w' (BoolP w' v)) :
    Calls Tryz.prog 47 #[.agg #[.int .i64 k.op, .string k.nm, .string k.tx, .int .i64 k.num, .slice k.ka k.kids.length k.kc], .pointer (some ⟨d, 0, none⟩)] w (BoolP w (!v)) := by
  have H1 : Hid (∀ w', w.grownBy w' none → Calls Tryz.prog 45 #[.agg #[.int .i64 k.op, .string k.nm, .string k.tx, .int .i64 k.num, .slice k.ka k.kids.length k.kc], .pointer (some ⟨b, 0, none⟩)] w' (BoolP w' v)) := fun w' hg =>
    possC1 k v A m c b w' ((hg.cell_far ⟨b, 0, none⟩ hb (by simp)).trans hc) (Nat.lt_of_lt_of_le hb hg.size) (fun w2 hg2 => IH w2 (only_trans hg hg2))
  have hne : d ≠ w.heap.size := by omega
  clear IH hc
  go_enter Tryz.func47, Tryz.ntmps47
  go_wp2_with fail
  refine (H1.out _ (only_alloc (only_refl _ _) _)).mono ?_
  rintro e w1 ⟨rfl, hg⟩
  go_wp2_with fail
  go_ret
  exact ⟨rfl, only_trans (only_alloc (only_refl _ _) _) hg⟩
theorem possK {f : ByteArray → Bool} {n : Nat} {op num : Int} {nm tx : ByteArray} {ka : Option Addr} {kc : Nat} {kids : List TT} (h6 : op = 6) : poss f (n + 1) (TT.mk op nm tx num ka kc kids) = !(kids.any (fun k => !poss f n k)) := by
  subst h6
  simp only [poss, TT.op, TT.kids, if_pos]
  induction kids with
  | nil => rfl
  | cons x xs ih => simp only [List.all_cons, List.any_cons, ih, Bool.not_or, Bool.not_not]
theorem possO {f : ByteArray → Bool} {n : Nat} {op num : Int} {nm tx : ByteArray} {ka : Option Addr} {kc : Nat} {kids : List TT} (h7 : op = 7) : poss f (n + 1) (TT.mk op nm tx num ka kc kids) = kids.any (poss f n) := by
  subst h7
  simp [poss, TT.op, TT.kids]
theorem possL {f : ByteArray → Bool} {n : Nat} {op num : Int} {nm tx : ByteArray} {ka : Option Addr} {kc : Nat} {kids : List TT} (h6 : op ≠ 6) (h7 : op ≠ 7) : poss f (n + 1) (TT.mk op nm tx num ka kc kids) = match (TT.mk op nm tx num ka kc kids).term with | none => true | some s => f s := by
  unfold poss
  rw [if_neg (by simpa [TT.op] using h6), if_neg (by simpa [TT.op] using h7)]
  rfl
set_option maxHeartbeats 4000000 in
set_option maxRecDepth 100000 in
theorem poss_any (n : Nat) : ∀ (t : TT) (S T : Nat → Prop) (w : World) (A : Option Addr) (ts : List ByteArray) (c : Nat), t.Ok n → t.Sub n S w → Rd T w A (ts.map .string) → ts.length ≤ 1000000 →
    Calls Tryz.prog 20 #[.agg t.cells.toArray, .slice A ts.length c] w (BoolP w (poss (Lib.containsS ts) n t)) := by
  induction n with
  | zero => intro t S T w A ts c hok; exact hok.elim
  | succ n IH' =>
  intro t S T w A ts c hok hsub hrd hlt
  obtain ⟨op, nm, tx, num, ka, kc, kids⟩ := t
  have IH : Hid (∀ y ∈ kids, ∀ w', w.grownBy w' none → Calls Tryz.prog 20 #[.agg #[.int .i64 y.op, .string y.nm, .string y.tx, .int .i64 y.num, .slice y.ka y.kids.length y.kc], .slice A ts.length c] w' (BoolP w' (poss (Lib.containsS ts) n y))) := fun y hy w' hg => IH' y S T w' A ts c (hok.2.2.2.2.2 y hy) ((hsub.2.2.2 y hy).grown hg (by simp)) (hrd.grown hg (by simp)) hlt
  have HK : Hid (Rd S w ka (kids.flatMap TT.cells)) := hsub.1
  have HT : Hid (Rd T w A (ts.map .string)) := hrd
  have hl3 : kids.length ≤ 3 := hok.len
  have hz1 : nm.size ≤ 20 := hok.2.1.1
  have hz2 : tx.size ≤ 20 := hok.2.1.2
  clear IH' hok hsub hrd
  show Calls _ _ #[.agg #[.int .i64 op, .string nm, .string tx, .int .i64 num, .slice ka kids.length kc], .slice A ts.length c] w _
  go_enter Tryz.func20, Tryz.ntmps20
  go_upto_region 2 with fail
  obtain ⟨hb0, hb1, hb2, hg⟩ := three_new' (w := w) (c0 := #[.int .i64 op, .string nm, .string tx, .int .i64 num, .slice ka kids.length kc]) (c1 := #[.slice A ts.length c]) (c2 := #[.func (.func 45) #[] #[.pointer (some ⟨w.heap.size + 1, 0, none⟩)]]) (t0 := 26) (t1 := 40) (t2 := 62) (only_refl _ none)
  obtain ⟨W, hW⟩ : ∃ W, W = (((w.alloc (.cells #[.int .i64 op, .string nm, .string tx, .int .i64 num, .slice ka kids.length kc] 26)).alloc (.cells #[.slice A ts.length c] 40)).alloc (.cells #[.func (.func 45) #[] #[.pointer (some ⟨w.heap.size + 1, 0, none⟩)]] 62)) := ⟨_, rfl⟩
  rw [← hW] at hb0 hb1 hb2 hg ⊢
  obtain ⟨r, hr⟩ : ∃ r, r = w.heap.size := ⟨_, rfl⟩
  rw [← hr] at hb0 hb1 hb2 ⊢
  clear hW hr
  have B0 := Lib.hid hb0; have B1 := Lib.hid hb1; have B2 := Lib.hid hb2; have G := Lib.hid hg
  have l1 := hb1.lt
  have l2 := hb2.lt
  have e0 := hb0.cell 0; have e1 := hb0.cell 1; have e2 := hb0.cell 2; have e3 := hb0.cell 3; have e4 := hb0.cell 4
  have s0 := hb1.cell 0
  have c0 := hb2.cell 0
  simp at e0 e1 e2 e3 e4 s0 c0
  clear hb0 hb1 hb2 hg
  by_cases h6 : op = 6
  · have g6 : (op == 6) = true := by simp [h6]
    have HV := Lib.hid (possK (f := Lib.containsS ts) (n := n) (num := num) (nm := nm) (tx := tx) (ka := ka) (kc := kc) (kids := kids) h6)
    clear h6
    go_wp2_with fail
    refine (contF_any 47 (enterF Tryz.func47 (by kernel_rfl) (by kernel_rfl)) #[.pointer (some ⟨r + 1 + 1, 0, none⟩)] (fun k => !poss (Lib.containsS ts) n k) ka kids kc W (HK.out.grown G.out (by simp)) (by omega) (fun k hk w' hg => possC2 k _ A ts.length c (r + 1) (r + 1 + 1) w' ((hg.cell_far ⟨r + 1, 0, none⟩ l1 (by simp)).trans s0) (Nat.lt_of_lt_of_le l1 hg.size) ((hg.cell_far ⟨r + 1 + 1, 0, none⟩ l2 (by simp)).trans c0) (Nat.lt_of_lt_of_le l2 hg.size) (fun w2 hg2 => IH.out k hk w2 (only_trans G.out (only_trans hg hg2))))).mono ?_
    rintro e w1 ⟨rfl, hg1⟩
    go_wp2_with fail
    go_ret
    exact ⟨by rw [HV.out]; rfl, only_trans G.out hg1⟩
  have g6 : (op == 6) = false := by simp [h6]
  by_cases h7 : op = 7
  · have g7 : (op == 7) = true := by simp [h7]
    have HV := Lib.hid (possO (f := Lib.containsS ts) (n := n) (num := num) (nm := nm) (tx := tx) (ka := ka) (kc := kc) (kids := kids) h7)
    clear h6 h7
    go_wp2_with fail
    refine (contF_any 45 (enterF Tryz.func45 (by kernel_rfl) (by kernel_rfl)) #[.pointer (some ⟨r + 1, 0, none⟩)] (poss (Lib.containsS ts) n) ka kids kc W (HK.out.grown G.out (by simp)) (by omega) (fun k hk w' hg => possC1 k _ A ts.length c (r + 1) w' ((hg.cell_far ⟨r + 1, 0, none⟩ l1 (by simp)).trans s0) (Nat.lt_of_lt_of_le l1 hg.size) (fun w2 hg2 => IH.out k hk w2 (only_trans G.out (only_trans hg hg2))))).mono ?_
    rintro e w1 ⟨rfl, hg1⟩
    go_wp2_with fail
    go_ret
    exact ⟨by rw [HV.out]; rfl, only_trans G.out hg1⟩
  have g7 : (op == 7) = false := by simp [h7]
  have HV := Lib.hid (possL (f := Lib.containsS ts) (n := n) (num := num) (nm := nm) (tx := tx) (ka := ka) (kc := kc) (kids := kids) h6 h7)
  clear h6 h7
  go_wp2_with fail
  refine (term_any op nm tx num ka kc kids W hz1 hz2).mono ?_
  obtain ⟨o, ho⟩ : ∃ o, o = (TT.mk op nm tx num ka kc kids).term := ⟨_, rfl⟩
  rw [← ho] at HV ⊢
  clear ho
  rintro e w1 ⟨rfl, hg1⟩
  have G1 := Lib.hid (only_trans G.out hg1)
  have s1 := (B1.out.grown hg1 (by simp)).cell 0
  simp at s1
  clear hg1 e0 e1 e2 e3 e4 s0 c0
  cases o with
  | none =>
    simp only [termV]
    go_wp2_with fail
    go_ret
    exact ⟨by rw [HV.out]; rfl, G1.out⟩
  | some s =>
    simp only [termV]
    go_wp2_with fail
    refine (contains_any A c ts s _ (HT.out.grown G1.out (by simp)) hlt).mono ?_
    rintro e w2 ⟨rfl, rfl⟩
    go_wp2_with fail
    go_ret
    exact ⟨by rw [HV.out]; rfl, G1.out⟩
end Go.Proofs.YtceebhgbebkafaaGreatDoor
namespace Go.Proofs.YtceebhgbebkafaaGreatDoor
open Go.RowKit
set_option linter.unusedVariables false
set_option linter.unusedSimpArgs false

theorem possW {f : ByteArray → Bool} {n : Nat} {op num : Int} {nm tx : ByteArray} {ka : Option Addr} {kc : Nat} {kids : List TT} (h6 : op = 6) : poss f (n + 1) (TT.mk op nm tx num ka kc kids) = kids.all (poss f n) := by
  subst h6
  simp [poss, TT.op, TT.kids]
set_option maxHeartbeats 4000000 in
set_option maxRecDepth 100000 in
theorem rposs_any (n : Nat) : ∀ (t : TT) (S T : Nat → Prop) (w : World) (A : Option Addr) (ts : List ByteArray) (c : Nat), t.Ok n → t.Sub n S w → Rd T w A (ts.map .string) → ts.length ≤ 1000000 →
    Calls Tryz.prog 24 #[.agg t.cells.toArray, .slice A ts.length c] w (BoolP w (poss (found ts) n t)) := by
  induction n with
  | zero => intro t S T w A ts c hok; exact hok.elim
  | succ n IH' =>
  intro t S T w A ts c hok hsub hrd hlt
  obtain ⟨op, nm, tx, num, ka, kc, kids⟩ := t
  have IH : Hid (∀ y ∈ kids, ∀ w', w.grownBy w' none → Calls Tryz.prog 24 #[.agg #[.int .i64 y.op, .string y.nm, .string y.tx, .int .i64 y.num, .slice y.ka y.kids.length y.kc], .slice A ts.length c] w' (BoolP w' (poss (found ts) n y))) := fun y hy w' hg => IH' y S T w' A ts c (hok.2.2.2.2.2 y hy) ((hsub.2.2.2 y hy).grown hg (by simp)) (hrd.grown hg (by simp)) hlt
  have HK : Hid (Rd S w ka (kids.flatMap TT.cells)) := hsub.1
  have HT : Hid (Rd T w A (ts.map .string)) := hrd
  have hl3 : kids.length ≤ 3 := hok.len
  have hz1 : nm.size ≤ 20 := hok.2.1.1
  have hz2 : tx.size ≤ 20 := hok.2.1.2
  clear IH' hok hsub hrd
  show Calls _ _ #[.agg #[.int .i64 op, .string nm, .string tx, .int .i64 num, .slice ka kids.length kc], .slice A ts.length c] w _
  go_enter Tryz.func24, Tryz.ntmps24
  go_upto_region 1 with fail
  obtain ⟨w1, hw1⟩ : ∃ w1, w1 = w.alloc (.cells #[.int .i64 op, .string nm, .string tx, .int .i64 num, .slice ka kids.length kc] 26) := ⟨_, rfl⟩
  obtain ⟨r, hr⟩ : ∃ r, r = w.heap.size := ⟨_, rfl⟩
  have HB := Lib.hid (Blk.new w 26 #[.int .i64 op, .string nm, .string tx, .int .i64 num, .slice ka kids.length kc])
  have G := Lib.hid (only_alloc (only_refl w none) (.cells #[.int .i64 op, .string nm, .string tx, .int .i64 num, .slice ka kids.length kc] 26))
  rw [← hw1, ← hr] at HB ⊢
  rw [← hw1] at G
  clear hw1 hr
  have b0 := HB.out.cell 0; have b1 := HB.out.cell 1; have b2 := HB.out.cell 2; have b3 := HB.out.cell 3; have b4 := HB.out.cell 4
  simp at b0 b1 b2 b3 b4
  by_cases h1 : op = 1
  · subst h1
    have hv : Hid (poss (found ts) (n + 1) (.mk 1 nm tx num ka kc kids) = found ts tx) := Lib.hid (by rw [possL (by omega) (by omega), term_of1])
    have KD := Lib.hid (rindex_any A ts c tx w1 (HT.out.grown G.out (by simp)) (by omega))
    go_wp2_with fail
    refine KD.out.mono ?_
    rintro e w2 ⟨rfl, q, rfl⟩
    obtain ⟨ff, hff⟩ : ∃ x, x = found ts tx := ⟨_, rfl⟩
    rw [← hff] at hv ⊢
    clear hff KD
    go_wp2_with fail
    go_ret
    exact ⟨by rw [hv.out]; rfl, only_drewN G.out _⟩
  have g1 : (op == 1) = false := by simp [h1]
  by_cases h4 : op = 4
  · subst h4
    have HTM := Lib.hid (fun w' => rterm_any nm tx num ka kc kids w' hz1 hz2)
    have KD : Hid (∀ w', w1.grownBy w' none → Calls Tryz.prog 28 #[.slice A ts.length c, .string (nmeq nm tx)] w' (Quiet (.tuple #[.int .i64 (ixOf ts (nmeq nm tx)), .bool (found ts (nmeq nm tx))]) w')) := fun w' hg => rindex_any A ts c (nmeq nm tx) w' (HT.out.grown (only_trans G.out hg) (by simp)) (by omega)
    clear h1
    cases hb : atB nm with
    | true =>
      have hv : Hid (poss (found ts) (n + 1) (.mk 4 nm tx num ka kc kids) = true) := Lib.hid (by rw [possL (by omega) (by omega), term_at4 hb])
      rw [hb] at HTM
      clear hb
      go_wp2_with fail
      refine (HTM.out _).mono ?_
      rintro e w2 ⟨rfl, hg2⟩
      have G2 := Lib.hid (only_trans G.out hg2)
      clear hg2
      have g6 : ((4 : Int) == 6) = false := by decide
      have g7 : ((4 : Int) == 7) = false := by decide
      go_wp2_with fail
      go_ret
      exact ⟨by rw [hv.out]; rfl, G2.out⟩
    | false =>
      have hv : Hid (poss (found ts) (n + 1) (.mk 4 nm tx num ka kc kids) = found ts (nmeq nm tx)) := Lib.hid (by rw [possL (by omega) (by omega), term_of4 hb])
      rw [hb] at HTM
      clear hb
      obtain ⟨s, hs⟩ : ∃ s, s = nmeq nm tx := ⟨_, rfl⟩
      rw [← hs] at HTM KD hv
      clear hs
      go_wp2_with fail
      refine (HTM.out _).mono ?_
      rintro e w2 ⟨rfl, hg2⟩
      have G2 := Lib.hid (only_trans G.out hg2)
      have HG2 := Lib.hid hg2
      clear hg2
      go_wp2_with fail
      refine (KD.out _ HG2.out).mono ?_
      rintro e w3 ⟨rfl, q, rfl⟩
      obtain ⟨ff, hff⟩ : ∃ x, x = found ts s := ⟨_, rfl⟩
      rw [← hff] at hv ⊢
      clear hff KD
      go_wp2_with fail
      go_ret
      exact ⟨by rw [hv.out]; rfl, only_drewN G2.out _⟩
  have g4 : (op == 4) = false := by simp [h4]
  by_cases h6 : op = 6
  · have g6 : (op == 6) = true := by simp [h6]
    have HV := Lib.hid (possW (f := found ts) (n := n) (num := num) (nm := nm) (tx := tx) (ka := ka) (kc := kc) (kids := kids) h6)
    clear h6 h1 h4
    go_wp2_with fail
    go_loopw [11] (fun i wr => ∃ k : Nat, i = .int .i64 k ∧ k ≤ kids.length ∧ Hid ((kids.take k).all (poss (found ts) n) = true) ∧ Blk wr r 26 #[.int .i64 op, .string nm, .string tx, .int .i64 num, .slice ka kids.length kc] ∧ w.grownBy wr none) (fun i _ => kids.length - (intOf i).toNat)
    case atStart => exact ⟨0, rfl, Nat.zero_le _, rfl, HB.out, G.out⟩
    case round =>
      obtain ⟨k, rfl, hk, HN, hB, hG⟩ := hrel
      have HB' := Lib.hid hB
      have GR := Lib.hid hG
      clear hB hG HB G
      have b0 := HB'.out.cell 0; have b1 := HB'.out.cell 1; have b2 := HB'.out.cell 2; have b3 := HB'.out.cell 3; have b4 := HB'.out.cell 4
      simp at b0 b1 b2 b3 b4
      by_cases hlt : k < kids.length
      · obtain ⟨y, hy⟩ : ∃ y, kids[k]? = some y := ⟨_, List.getElem?_eq_getElem hlt⟩
        obtain ⟨kb, ko, rfl, hkw, z0, z1, z2, z3, z4⟩ := kid_in (HK.out.grown GR.out (by simp)) hy
        have HI := Lib.hid (IH.out y (List.mem_of_getElem? hy))
        have HY := Lib.hid hy
        have i1 : (k : Int) < (kids.length : Int) := by omega
        clear hy
        cases hq : poss (found ts) n y with
        | true =>
          rw [hq] at HI
          have HS := Lib.hid (all_step HY.out HN.out hq)
          clear hq
          go_wp2_with fail
          refine (HI.out _ GR.out).mono ?_
          rintro e w6 ⟨rfl, hg6⟩
          have HB6 := Lib.hid (HB'.out.grown hg6 (by simp))
          have G6 := Lib.hid (only_trans GR.out hg6)
          clear hg6 HB' GR b0 b1 b2 b3 b4 z0 z1 z2 z3 z4
          go_wp2_with fail
          go_roundw
          case rel => exact ⟨k + 1, by go_num, by omega, HS, HB6.out, G6.out⟩
          case measure => simp [intOf]; omega
        | false =>
          rw [hq] at HI
          have HS := Lib.hid (all_miss HY.out hq)
          clear hq
          go_wp2_with fail
          refine (HI.out _ GR.out).mono ?_
          rintro e w6 ⟨rfl, hg6⟩
          have G6 := Lib.hid (only_trans GR.out hg6)
          clear hg6
          go_wp2_with fail
          go_ret
          exact ⟨by rw [HV.out, HS.out]; rfl, G6.out⟩
      · have i1 : ¬ (k : Int) < (kids.length : Int) := by omega
        have HS : Hid (kids.all (poss (found ts) n) = true) := by have := HN.out; rw [List.take_of_length_le (by omega)] at this; exact this
        go_wp2_with fail
        go_ret
        exact ⟨by rw [HV.out, HS.out]; rfl, GR.out⟩
  have g6 : (op == 6) = false := by simp [h6]
  by_cases h7 : op = 7
  · have g7 : (op == 7) = true := by simp [h7]
    have HV := Lib.hid (possO (f := found ts) (n := n) (num := num) (nm := nm) (tx := tx) (ka := ka) (kc := kc) (kids := kids) h7)
    clear h6 h1 h4 h7
    go_wp2_with fail
    go_loopw [12] (fun i wr => ∃ k : Nat, i = .int .i64 k ∧ k ≤ kids.length ∧ Hid ((kids.take k).any (poss (found ts) n) = false) ∧ Blk wr r 26 #[.int .i64 op, .string nm, .string tx, .int .i64 num, .slice ka kids.length kc] ∧ w.grownBy wr none) (fun i _ => kids.length - (intOf i).toNat)
    case atStart => exact ⟨0, rfl, Nat.zero_le _, rfl, HB.out, G.out⟩
    case round =>
      obtain ⟨k, rfl, hk, HN, hB, hG⟩ := hrel
      have HB' := Lib.hid hB
      have GR := Lib.hid hG
      clear hB hG HB G
      have b0 := HB'.out.cell 0; have b1 := HB'.out.cell 1; have b2 := HB'.out.cell 2; have b3 := HB'.out.cell 3; have b4 := HB'.out.cell 4
      simp at b0 b1 b2 b3 b4
      by_cases hlt : k < kids.length
      · obtain ⟨y, hy⟩ : ∃ y, kids[k]? = some y := ⟨_, List.getElem?_eq_getElem hlt⟩
        obtain ⟨kb, ko, rfl, hkw, z0, z1, z2, z3, z4⟩ := kid_in (HK.out.grown GR.out (by simp)) hy
        have HI := Lib.hid (IH.out y (List.mem_of_getElem? hy))
        have HY := Lib.hid hy
        have i1 : (k : Int) < (kids.length : Int) := by omega
        clear hy
        cases hq : poss (found ts) n y with
        | false =>
          rw [hq] at HI
          have HS := Lib.hid (any_step HY.out HN.out hq)
          clear hq
          go_wp2_with fail
          refine (HI.out _ GR.out).mono ?_
          rintro e w6 ⟨rfl, hg6⟩
          have HB6 := Lib.hid (HB'.out.grown hg6 (by simp))
          have G6 := Lib.hid (only_trans GR.out hg6)
          clear hg6 HB' GR b0 b1 b2 b3 b4 z0 z1 z2 z3 z4
          go_wp2_with fail
          go_roundw
          case rel => exact ⟨k + 1, by go_num, by omega, HS, HB6.out, G6.out⟩
          case measure => simp [intOf]; omega
        | true =>
          rw [hq] at HI
          have HS := Lib.hid (any_hit HY.out hq)
          clear hq
          go_wp2_with fail
          refine (HI.out _ GR.out).mono ?_
          rintro e w6 ⟨rfl, hg6⟩
          have G6 := Lib.hid (only_trans GR.out hg6)
          clear hg6
          go_wp2_with fail
          go_ret
          exact ⟨by rw [HV.out, HS.out]; rfl, G6.out⟩
      · have i1 : ¬ (k : Int) < (kids.length : Int) := by omega
        have HS : Hid (kids.any (poss (found ts) n) = false) := by have := HN.out; rw [List.take_of_length_le (by omega)] at this; exact this
        go_wp2_with fail
        go_ret
        exact ⟨by rw [HV.out, HS.out]; rfl, GR.out⟩
  have g7 : (op == 7) = false := by simp [h7]
  have hv : Hid (poss (found ts) (n + 1) (.mk op nm tx num ka kc kids) = true) := Lib.hid (by rw [possL h6 h7, term_else h1 h4])
  clear h1 h4 h6 h7
  go_wp2_with fail
  go_ret
  exact ⟨by rw [hv.out]; rfl, G.out⟩
end Go.Proofs.YtceebhgbebkafaaGreatDoor
