/- match.Required. Condition: sizes. -/
import Derived.Test.YtceebhgbebkafaaGreatDoorPossP
import Derived.Test.YtceebhgbebkafaaGreatDoorShelfG
import Derived.Test.YtceebhgbebkafaaGreatDoorPoss
import Derived.Deep.DeepCutAuto
namespace Go.Proofs.YtceebhgbebkafaaGreatDoor
open Go.RowKit
set_option linter.unusedVariables false
set_option linter.unusedSimpArgs false

def ReqPost (w : World) (l : List ByteArray) (e : Ending) (w' : World) : Prop :=
  ∃ (A : Option Addr) (c : Nat), e = .returned (.slice A l.length c) ∧ l.length ≤ c ∧ c ≤ maxLen ∧ w'.ownsRow w.heap.size 9 1 (.slice A l.length c) l.length (l.map .string) ∧ w.grownBy w' none
set_option maxHeartbeats 1000000 in
theorem reqC {S : Nat → Prop} (b : Nat) (A : Option Addr) (c : Nat) (l : List ByteArray) (x : ByteArray) (w : World) (hc : w.cell? ⟨b, 0, none⟩ = some (.slice A l.length c)) (hr : Rd S w A (l.map .string)) (hl : l.length ≤ 1000000) :
    Calls Tryz.prog 55 #[.string x, .pointer (some ⟨b, 0, none⟩)] w (fun e w' => e = .returned (.bool (!Lib.containsS l x)) ∧ w' = w) := by
  have HR := Lib.hid hr
  clear hr
  go_enter Tryz.func55, Tryz.ntmps55
  go_wp2_with fail
  refine (contains_any A c l x w HR.out hl).mono ?_
  rintro e w2 ⟨rfl, rfl⟩
  go_wp2_with fail
  go_ret
  exact ⟨rfl, rfl⟩
def FSOwn (w : World) (base : Nat) (row : Option Nat) (fl : List ByteArray) (e : Ending) (w' : World) : Prop :=
  ∃ A c, e = .returned (.slice A fl.length c) ∧ w'.ownsRow base 9 1 (.slice A fl.length c) fl.length (fl.map .string) ∧ w.grownBy w' row
theorem delS_own {S : Nat → Prop} (base : Nat) (v : Value) (zs l : List ByteArray) (b : Nat) (A : Option Addr) (c : Nat) (w : World) (h : w.ownsRow base 9 1 v zs.length (zs.map .string)) (hl : zs.length ≤ 1000000) (hl2 : l.length ≤ 1000000)
    (hc : w.cell? ⟨b, 0, none⟩ = some (.slice A l.length c)) (hb : b < w.heap.size) (hne : some b ≠ v.ownBlock) (hr : Rd S w A (l.map .string)) (hS : ∀ x, S x → some x ≠ v.ownBlock) :
    Calls Tryz.prog 54 #[v, .func (.func 55) #[] #[.pointer (some ⟨b, 0, none⟩)]] w (FSOwn w base v.ownBlock (zs.filter (fun s => Lib.containsS l s))) := by
  refine (delF_own base v (zs.map ofB) (fun x => !Lib.containsS l (toB x)) 55 #[.pointer (some ⟨b, 0, none⟩)] (enterF Tryz.func55 (by kernel_rfl) (by kernel_rfl)) w (by rw [List.length_map, strEnc]; exact h) (by rw [List.length_map]; exact hl)
    (fun W x hg => (reqC b A c l (toB x) W ((hg.cell_far ⟨b, 0, none⟩ hb hne).trans hc) (hr.grown hg hS) hl2).mono fun e w' ⟨he, hw⟩ => ⟨he, 0, hw⟩)).mono ?_
  rintro e w' ⟨A5, c5, rfl, h1, h2, h3, h4, h5⟩
  rw [filt_ofB, List.length_map, strEnc] at h3
  exact ⟨A5, c5, by rw [filt_ofB, List.length_map], h3, h4⟩
set_option maxHeartbeats 4000000 in
set_option maxRecDepth 100000 in
theorem mreq_any (n : Nat) (hn : n ≤ 6) : ∀ (t : TT) (S : Nat → Prop) (w : World), t.Ok n → t.Sub n S w → Calls Tryz.prog 26 #[.agg t.cells.toArray] w (ReqPost w (req n t)) := by
  induction n with
  | zero => intro t S w hok; exact hok.elim
  | succ n IH' =>
  intro t S w hok hsub
  have HLEN : Hid (∀ y ∈ t.kids, (req n y).length ≤ 3 ^ n) := Lib.hid (fun y hy => req_len (hok.2.2.2.2.2 y hy))
  have hpow : 3 ^ n ≤ 243 := Nat.le_trans (Nat.pow_le_pow_right (by omega) (show n ≤ 5 by omega)) (by decide)
  obtain ⟨M, hM⟩ : ∃ M, M = 3 ^ n := ⟨_, rfl⟩
  rw [← hM] at HLEN hpow
  clear hM
  obtain ⟨op, nm, tx, num, ka, kc, kids⟩ := t
  have IH : Hid (∀ y ∈ kids, ∀ w', w.grownBy w' none → Calls Tryz.prog 26 #[.agg #[.int .i64 y.op, .string y.nm, .string y.tx, .int .i64 y.num, .slice y.ka y.kids.length y.kc]] w' (ReqPost w' (req n y))) := fun y hy w' hg => IH' (by omega) y S w' (hok.2.2.2.2.2 y hy) ((hsub.2.2.2 y hy).grown hg (by simp))
  have HK : Hid (Rd S w ka (kids.flatMap TT.cells)) := hsub.1
  have hl3 : kids.length ≤ 3 := hok.len
  have hz1 : nm.size ≤ 20 := hok.2.1.1
  have hz2 : tx.size ≤ 20 := hok.2.1.2
  have HQ : Hid ((TT.mk op nm tx num ka kc kids).term = none → req (n + 1) (TT.mk op nm tx num ka kc kids) = dist (rq op (kids.map (req n)))) := Lib.hid (fun h => req_rq h)
  have HQ2 : Hid (∀ s, (TT.mk op nm tx num ka kc kids).term = some s → req (n + 1) (TT.mk op nm tx num ka kc kids) = [s]) := Lib.hid (fun s h => req_leaf h)
  clear IH' hok hsub
  show Calls _ _ #[.agg #[.int .i64 op, .string nm, .string tx, .int .i64 num, .slice ka kids.length kc]] w _
  go_enter Tryz.func26, Tryz.ntmps26
  go_wp2_with fail
  refine (term_any op nm tx num ka kc kids _ hz1 hz2).mono ?_
  obtain ⟨o, ho⟩ : ∃ o, o = (TT.mk op nm tx num ka kc kids).term := ⟨_, rfl⟩
  rw [← ho] at HQ HQ2 ⊢
  clear ho
  rintro e w1 ⟨rfl, hg1⟩
  have hB1 := (Blk.new w 26 #[.int .i64 op, .string nm, .string tx, .int .i64 num, .slice ka kids.length kc]).grown hg1 (by simp)
  have G1 : Hid (w.grownBy w1 none) := only_trans (only_alloc (only_refl _ _) _) hg1
  have B1 := Lib.hid hB1
  have hr1 := hB1.lt
  obtain ⟨r, hr⟩ : ∃ r, r = w.heap.size := ⟨_, rfl⟩
  have HR := Lib.hid hr
  rw [← hr] at B1 hr1 ⊢
  clear hg1 hB1 hr
  cases o with
  | some s =>
    simp only [termV]
    go_wp2_with fail
    go_ret
    have hv := HQ2.out s rfl
    rw [hv]
    exact ⟨some ⟨w1.heap.size, 0, none⟩, 1, rfl, Nat.le_refl _, by unfold maxLen; omega, World.ownsRow_lit w1 #[.string s] 1 G1.out.size (by unfold maxLen; omega) rfl, only_alloc G1.out _⟩
  | none =>
    have HV := Lib.hid (HQ.out rfl)
    clear HQ HQ2
    simp only [termV]
    have e0 := B1.out.cell 0; have e1 := B1.out.cell 1; have e2 := B1.out.cell 2; have e3 := B1.out.cell 3; have e4 := B1.out.cell 4
    simp at e0 e1 e2 e3 e4
    go_wp2_with fail
    go_loopw [5, 20] (fun vo i wr => ∃ k : Nat, i = .int .i64 k ∧ k ≤ kids.length ∧ wr.ownsRow (r + 1) 9 1 vo (rq op ((kids.take k).map (req n))).length ((rq op ((kids.take k).map (req n))).map .string) ∧ Blk wr r 26 #[.int .i64 op, .string nm, .string tx, .int .i64 num, .slice ka kids.length kc] ∧ w.grownBy wr none) (fun _ i _ => kids.length - (intOf i).toNat)
    case atStart => exact ⟨0, rfl, Nat.zero_le _, by
      have : rq op ((kids.take 0).map (req n)) = [] := by unfold rq; simp [orF]
      rw [this]; exact World.ownsRow_nil _ _ _ _, B1.out, G1.out⟩
    case round =>
      obtain ⟨k, rfl, hk, hO, hB, hG⟩ := hrel
      obtain ⟨zs, hzs⟩ : ∃ zs, zs = rq op ((kids.take k).map (req n)) := ⟨_, rfl⟩
      rw [← hzs] at hO
      have hzl : zs.length ≤ 729 := by
        rw [hzs]
        have := rq_len (op := op) (rs := (kids.take k).map (req n)) (m := M) (fun x hx => by
          obtain ⟨y, hy, rfl⟩ := List.mem_map.1 hx
          exact HLEN.out y (List.mem_of_mem_take hy)) (by rw [List.length_map, List.length_take]; omega)
        omega
      have HZ := Lib.hid hzs
      have OO := Lib.hid hO
      have B := Lib.hid hB
      have G := Lib.hid hG
      have hrr := hB.lt
      clear hO hB hG hzs
      by_cases hlt : k < kids.length
      · obtain ⟨y, hy⟩ : ∃ y, kids[k]? = some y := ⟨_, List.getElem?_eq_getElem hlt⟩
        obtain ⟨kb, ko, rfl, hkw, z0, z1, z2, z3, z4⟩ := kid_in (HK.out.grown G.out (by simp)) hy
        have HI := Lib.hid (IH.out y (List.mem_of_getElem? hy))
        have HYL := HLEN.out y (List.mem_of_getElem? hy)
        have HT : Hid ((kids.take (k + 1)).map (req n) = (kids.take k).map (req n) ++ [req n y]) := Lib.hid (by
          rw [List.getElem?_eq_getElem hlt] at hy
          injection hy with hy
          rw [List.take_succ_eq_append_getElem hlt, List.map_append, hy]; rfl)
        obtain ⟨l, hl⟩ : ∃ l, l = req n y := ⟨_, rfl⟩
        rw [← hl] at HI HYL HT
        clear hl hy HLEN
        have i1 : (k : Int) < (kids.length : Int) := by omega
        go_upto_region 8 with fail
        have hg0 := World.grownBy_alloc wr (.cells #[.int .i64 y.op, .string y.nm, .string y.tx, .int .i64 y.num, .slice y.ka y.kids.length y.kc] 26) none
        obtain ⟨W, hW⟩ : ∃ W, W = wr.alloc (.cells #[.int .i64 y.op, .string y.nm, .string y.tx, .int .i64 y.num, .slice y.ka y.kids.length y.kc] 26) := ⟨_, rfl⟩
        have hbk : Blk W wr.heap.size 26 #[.int .i64 y.op, .string y.nm, .string y.tx, .int .i64 y.num, .slice y.ka y.kids.length y.kc] := by rw [hW]; exact Blk.new _ _ _
        rw [← hW] at hg0 ⊢
        clear hW
        have k0 := hbk.cell 0; have k1 := hbk.cell 1; have k2 := hbk.cell 2; have k3 := hbk.cell 3; have k4 := hbk.cell 4
        simp at k0 k1 k2 k3 k4
        have OW := Lib.hid (own_ext OO.out hg0)
        have BW := Lib.hid (B.out.grown hg0 (by simp))
        have GW := Lib.hid (only_trans G.out hg0)
        have OO1 := OW
        clear hbk OO B G z0 z1 z2 z3 z4 hrr hg0 e0 e1 e2 e3 e4
        go_wp2_with fail
        refine (HI.out _ GW.out).mono ?_
        rintro e w2 ⟨A2, c2, rfl, hc2, hm2, ho2, hg2⟩
        have hsz2 := hg2.size
        have hsW := GW.out.size
        have hrW := BW.out.lt
        have O2 := Lib.hid (own_ext OW.out hg2)
        have B2 := Lib.hid (BW.out.grown hg2 (by simp))
        have G2 := Lib.hid (only_trans GW.out hg2)
        have L2 := Lib.hid ho2
        clear hg2 ho2 OW BW GW k0 k1 k2 k3 k4 HI
        go_upto_region 9 with fail
        have hg0 := World.grownBy_alloc w2 (.cells #[.slice A2 l.length c2] 40) none
        obtain ⟨W3, hW3⟩ : ∃ W, W = w2.alloc (.cells #[.slice A2 l.length c2] 40) := ⟨_, rfl⟩
        have hbk : Blk W3 w2.heap.size 40 #[.slice A2 l.length c2] := by rw [hW3]; exact Blk.new _ _ _
        rw [← hW3] at hg0 ⊢
        clear hW3
        obtain ⟨b8, hb8⟩ : ∃ b, b = w2.heap.size := ⟨_, rfl⟩
        rw [← hb8] at hbk ⊢
        have O3 := Lib.hid (own_ext O2.out hg0)
        have B3 := Lib.hid (B2.out.grown hg0 (by simp))
        have G3 := Lib.hid (only_trans G2.out hg0)
        have L3 := Lib.hid (own_ext L2.out hg0)
        have R3 := Lib.hid (rd_own L3.out (by decide))
        have hz3 := hg0.size
        have hlt8 := hbk.lt
        have c8 := hbk.cell 0
        simp at c8
        have e0 := B3.out.cell 0; have e1 := B3.out.cell 1; have e2 := B3.out.cell 2; have e3 := B3.out.cell 3; have e4 := B3.out.cell 4
        simp at e0 e1 e2 e3 e4
        have K3 := Lib.hid hbk
        have hOlt : ∀ j, W.heap.size ≤ j → some j ≠ u5.ownBlock := fun j hj e => by have := (OO1.out.lt j e.symm).2; omega
        have hb8W : W.heap.size ≤ b8 := by omega
        have HOLT := Lib.hid hOlt
        have hb8r : r < b8 := by omega
        clear hb8
        clear OO1 O2 B2 G2 L2 hbk hg0 hOlt K3
        by_cases h6 : op = 6
        · have g6 : (op == 6) = true := by simp [h6]
          have hfin : Hid (rq op ((kids.take (k + 1)).map (req n)) = zs ++ l) := Lib.hid (by
            rw [HT.out, HZ.out]; unfold rq; rw [if_pos h6, if_pos h6]; simp)
          clear h6 HT HZ
          go_wp2_with (at_builtin; refine wpList_appendN rfl _ _ 40 rfl (r + 1) Tryz.underlying40 strInfo rfl (by decide) (v := u5) (by rfl) O3.out A2 l.length c2 (by rfl) R3.out (by simp) (by simp [Value.oneCell']) (by decide) (by omega) (by omega) ?_; intro v7 w7 hown7 hg7 hob7)
          have O7 : Hid (w7.ownsRow (r + 1) 9 1 v7 (rq op ((kids.take (k + 1)).map (req n))).length ((rq op ((kids.take (k + 1)).map (req n))).map .string)) := Lib.hid (by rw [hfin.out, List.length_append, List.map_append]; exact hown7)
          have B7 := Lib.hid (B3.out.grown hg7 (by intro e; have := (O3.out.lt r e.symm).1; omega))
          have G7 := Lib.hid (only_own G3.out hg7 O3.out (by have := HR.out; omega))
          clear hown7 hg7 hob7
          go_wp2_with fail
          go_roundw
          case rel => exact ⟨k + 1, by go_num, by omega, O7.out, B7.out, G7.out⟩
          case measure => simp [intOf]; omega
        have g6 : (op == 6) = false := by simp [h6]
        by_cases h7 : op = 7
        · have g7 : (op == 7) = true := by simp [h7]
          by_cases hk0 : k = 0
          · have gk : ((k : Int) == 0) = true := by simp [hk0]
            have hfin : Hid (rq op ((kids.take (k + 1)).map (req n)) = l) := Lib.hid (by
              rw [HT.out, hk0]; unfold rq; rw [if_neg h6, if_pos h7]; rfl)
            have O7 : Hid (W3.ownsRow (r + 1) 9 1 (.slice A2 l.length c2) (rq op ((kids.take (k + 1)).map (req n))).length ((rq op ((kids.take (k + 1)).map (req n))).map .string)) := Lib.hid (by rw [hfin.out]; exact own_dn L3.out (by omega))
            clear h6 h7 HT HZ hk0
            go_wp2_with fail
            go_roundw
            case rel => exact ⟨k + 1, by go_num, by omega, O7.out, B3.out, G3.out⟩
            case measure => simp [intOf]; omega
          · have gk : ((k : Int) == 0) = false := by rw [beq_eq_false_iff_ne]; omega
            have hfin : Hid (rq op ((kids.take (k + 1)).map (req n)) = zs.filter (fun s => Lib.containsS l s)) := Lib.hid (by
              rw [HT.out, HZ.out]; unfold rq; rw [if_neg h6, if_pos h7, if_neg h6, if_pos h7]
              exact orF_snoc (by intro e; rw [List.map_eq_nil_iff] at e; have h0 := congrArg List.length e; rw [List.length_take] at h0; have h1 : min k kids.length = 0 := h0; omega) l)
            have HD := Lib.hid (delS_own (r + 1) u5 zs l b8 A2 c2 W3 O3.out (by omega) (by omega) c8 (by omega) (HOLT.out b8 hb8W) R3.out HOLT.out)
            clear h6 h7 HT HZ hk0
            go_wp2_with fail
            refine HD.out.mono ?_
            obtain ⟨fl, hfl⟩ : ∃ fl, fl = zs.filter (fun s => Lib.containsS l s) := ⟨_, rfl⟩
            rw [← hfl] at hfin ⊢
            clear hfl HD
            rintro e w7 ⟨A7, c7, rfl, hown7, hg7⟩
            have O7 : Hid (w7.ownsRow (r + 1) 9 1 (.slice A7 fl.length c7) (rq op ((kids.take (k + 1)).map (req n))).length ((rq op ((kids.take (k + 1)).map (req n))).map .string)) := Lib.hid (by rw [hfin.out]; exact hown7)
            have B7 := Lib.hid (B3.out.grown hg7 (by intro e; have := (O3.out.lt r e.symm).1; omega))
            have G7 := Lib.hid (only_own G3.out hg7 O3.out (by have := HR.out; omega))
            clear hown7 hg7
            go_wp2_with fail
            go_roundw
            case rel => exact ⟨k + 1, by go_num, by omega, O7.out, B7.out, G7.out⟩
            case measure => simp [intOf]; omega
        · have g7 : (op == 7) = false := by simp [h7]
          have O7 : Hid (W3.ownsRow (r + 1) 9 1 u5 (rq op ((kids.take (k + 1)).map (req n))).length ((rq op ((kids.take (k + 1)).map (req n))).map .string)) := Lib.hid (by
            have h1 : rq op ((kids.take (k + 1)).map (req n)) = zs := by rw [HZ.out]; unfold rq; rw [if_neg h6, if_neg h7, if_neg h6, if_neg h7]
            rw [h1]; exact O3.out)
          clear h6 h7 HT HZ
          go_wp2_with fail
          go_roundw
          case rel => exact ⟨k + 1, by go_num, by omega, O7.out, B3.out, G3.out⟩
          case measure => simp [intOf]; omega
      · have i1 : ¬ (k : Int) < (kids.length : Int) := by omega
        have HE : Hid (zs = rq op (kids.map (req n))) := Lib.hid (by rw [HZ.out, List.take_of_length_le (by omega)])
        have KS := Lib.hid (sort_ownS (r + 1) u5 zs wr OO.out (by omega))
        clear e0 e1 e2 e3 e4
        go_wp2_with fail
        refine KS.out.mono ?_
        rintro e w3 ⟨rfl, ho3, hg3⟩
        have O3 := Lib.hid ho3
        have G3 := Lib.hid (only_own G.out hg3 OO.out (by have := HR.out; omega))
        have hsl : (sorted (zs.map ofB)).length = zs.length := by rw [sorted_len, List.length_map]
        have KC := Lib.hid (comp_ownO (r + 1) u5 (sorted (zs.map ofB)) w3 O3.out (by omega))
        clear ho3 hg3 KS hsl
        go_wp2_with fail
        refine KC.out.mono ?_
        rintro e w4 ⟨A4, c4, rfl, h1, h2, h3, hg4, -⟩
        have G4 := Lib.hid (only_own G3.out hg4 O3.out (by have := HR.out; omega))
        have e1 : (Lib.compact (sorted (zs.map ofB))).length = (dist zs).length := by unfold dist; rw [List.length_map]
        rw [e1] at h1 h3 ⊢
        have H3 : Hid (w4.ownsRow (r + 1) 9 1 (.slice A4 (dist zs).length c4) (dist zs).length ((dist zs).map .string)) := Lib.hid (by
          have e2 : ((dist zs).map Value.string) = (Lib.compact (sorted (zs.map ofB))).map encStr := by unfold dist; rw [← encStrB]
          rw [e2]; exact h3)
        clear h3 hg4 e1 KC O3
        go_wp2_with fail
        go_ret
        rw [HV.out, ← HE.out]
        exact ⟨A4, c4, rfl, h1, h2, own_dn H3.out (by have := HR.out; omega), G4.out⟩
end Go.Proofs.YtceebhgbebkafaaGreatDoor
namespace Go.Proofs.YtceebhgbebkafaaGreatDoor
open Go.RowKit
set_option linter.unusedVariables false
set_option linter.unusedSimpArgs false

set_option maxHeartbeats 2000000 in
theorem both_any {S T : Nat → Prop} (A B : Option Addr) (a b : List ByteArray) (c d : Nat) (w : World) (ha : Rd S w A (a.map .string)) (hb : Rd T w B (b.map .string)) (hl : a.length ≤ 1000000) (hl2 : b.length ≤ 1000000) :
    Calls Tryz.prog 58 #[.slice A a.length c, .slice B b.length d] w (ReqPost w (a.filter (found b))) := by
  have HA := Lib.hid ha
  have HB := Lib.hid hb
  clear ha hb
  go_enter Tryz.func58, Tryz.ntmps58
  go_wp2_with fail
  go_loopw [5, 6] (fun vo i wr => ∃ k : Nat, i = .int .i64 k ∧ k ≤ a.length ∧ wr.ownsRow w.heap.size 9 1 vo ((a.take k).filter (found b)).length (((a.take k).filter (found b)).map .string) ∧ w.grownBy wr none) (fun _ i _ => a.length - (intOf i).toNat)
  case atStart => exact ⟨0, rfl, Nat.zero_le _, World.ownsRow_nil _ _ _ _, only_refl _ _⟩
  case round =>
    obtain ⟨k, rfl, hk, hO, hG⟩ := hrel
    have OO := Lib.hid hO
    have G := Lib.hid hG
    have hsz := hG.size
    obtain ⟨zs, hzs⟩ : ∃ zs, zs = (a.take k).filter (found b) := ⟨_, rfl⟩
    rw [← hzs] at OO
    have hzl : zs.length ≤ k := by
      rw [hzs]
      have := List.length_filter_le (found b) (a.take k)
      rw [List.length_take] at this; omega
    have HZ := Lib.hid hzs
    clear hO hG hzs
    by_cases hlt : k < a.length
    · obtain ⟨ba, oa, x, rfl, hca, hx⟩ := (HA.out.grown G.out (by simp)).str_at hlt
      have hbw : ba < wr.heap.size := by obtain ⟨b', o', e', _, hb', -⟩ := (HA.out.grown G.out (by simp)) (by rw [List.length_map]; omega); injection e' with e'; injection e' with e1 e2; omega
      have KD := Lib.hid (rindex_any B b d x wr (HB.out.grown G.out (by simp)) (by omega))
      have HT : Hid ((a.take (k + 1)).filter (found b) = zs ++ (if found b x = true then [x] else [])) := Lib.hid (by
        have hx' := hx.out
        rw [List.getElem?_eq_getElem hlt] at hx'
        injection hx' with hx'
        rw [List.take_succ_eq_append_getElem hlt, List.filter_append, HZ.out, hx']
        congr 1
        by_cases hf : found b x = true
        · simp [hf]
        · simp [hf])
      have i1 : (k : Int) < (a.length : Int) := by omega
      clear hx HZ
      go_wp2_with fail
      refine KD.out.mono ?_
      rintro e w2 ⟨rfl, q, rfl⟩
      have OW := Lib.hid (own_drewN OO.out q)
      have hca2 : (wr.drewN q).cell? ⟨ba, oa + k, none⟩ = some (.string x) := hca
      have GW := Lib.hid (only_drewN G.out q)
      have hzw : w.heap.size ≤ (wr.drewN q).heap.size := GW.out.size
      have hbw2 : ba < (wr.drewN q).heap.size := hbw
      obtain ⟨W, hW⟩ : ∃ W, W = wr.drewN q := ⟨_, rfl⟩
      rw [← hW] at OW hca2 GW hzw hbw2 ⊢
      clear KD hca hW OO G hsz hbw
      cases hf : found b x with
      | true =>
        rw [hf] at HT
        go_wp2_with (at_builtin; refine wpList_append1 rfl _ _ 40 rfl w.heap.size Tryz.underlying40 strInfo rfl (by decide) (v := u5) (by rfl) (w0 := W) (cs := #[.string x]) OW.out (by rfl) rfl (by simp [Value.oneCell']) (by decide) (by omega) (by omega) ?_; intro v7 w7 hown7 hg7 hob7)
        have O7 : Hid (w7.ownsRow w.heap.size 9 1 v7 ((a.take (k + 1)).filter (found b)).length (((a.take (k + 1)).filter (found b)).map .string)) := Lib.hid (by rw [HT.out]; simpa using hown7)
        have G7 : Hid (w.grownBy w7 none) := Lib.hid (only_own GW.out hg7 OW.out (Nat.le_refl _))
        clear hown7 hg7 hob7 hf
        go_wp2_with fail
        go_roundw
        case rel => exact ⟨k + 1, by go_num, by omega, O7.out, G7.out⟩
        case measure => simp [intOf]; omega
      | false =>
        rw [hf] at HT
        have O7 : Hid (W.ownsRow w.heap.size 9 1 u5 ((a.take (k + 1)).filter (found b)).length (((a.take (k + 1)).filter (found b)).map .string)) := Lib.hid (by rw [HT.out]; simpa using OW.out)
        clear hf
        go_wp2_with fail
        go_roundw
        case rel => exact ⟨k + 1, by go_num, by omega, O7.out, GW.out⟩
        case measure => simp [intOf]; omega
    · have HE : Hid (zs = a.filter (found b)) := Lib.hid (by rw [HZ.out, List.take_of_length_le (by omega)])
      obtain ⟨Ao, co, hv, hoc, hom, -, -⟩ := Rd.of_own OO.out (by decide)
      have HVV := Lib.hid hv
      have O8 := OO.out
      rw [hv] at O8
      have O9 := Lib.hid O8
      clear hv O8
      go_wp2_with fail
      go_ret
      rw [← HE.out]
      exact ⟨Ao, co, by rw [← HVV.out]; rfl, hoc, hom, O9.out, G.out⟩
theorem filt_found {a r : List ByteArray} (h : Srt r) : a.filter (found r) = a.filter (fun s => Lib.containsS r s) := by
  apply List.filter_congr
  intro s _
  rw [Bool.eq_iff_iff, found_iff h, Lib.containsS_iff]
set_option maxHeartbeats 4000000 in
set_option maxRecDepth 100000 in
theorem rreq_any (n : Nat) (hn : n ≤ 6) : ∀ (t : TT) (S : Nat → Prop) (w : World), t.Ok n → t.Sub n S w → Calls Tryz.prog 27 #[.agg t.cells.toArray] w (ReqPost w (req n t)) := by
  induction n with
  | zero => intro t S w hok; exact hok.elim
  | succ n IH' =>
  intro t S w hok hsub
  have HLEN : Hid (∀ y ∈ t.kids, (req n y).length ≤ 3 ^ n) := Lib.hid (fun y hy => req_len (hok.2.2.2.2.2 y hy))
  have hpow : 3 ^ n ≤ 243 := Nat.le_trans (Nat.pow_le_pow_right (by omega) (show n ≤ 5 by omega)) (by decide)
  obtain ⟨M, hM⟩ : ∃ M, M = 3 ^ n := ⟨_, rfl⟩
  rw [← hM] at HLEN hpow
  clear hM
  obtain ⟨op, nm, tx, num, ka, kc, kids⟩ := t
  have IH : Hid (∀ y ∈ kids, ∀ w', w.grownBy w' none → Calls Tryz.prog 27 #[.agg #[.int .i64 y.op, .string y.nm, .string y.tx, .int .i64 y.num, .slice y.ka y.kids.length y.kc]] w' (ReqPost w' (req n y))) := fun y hy w' hg => IH' (by omega) y S w' (hok.2.2.2.2.2 y hy) ((hsub.2.2.2 y hy).grown hg (by simp))
  have HK : Hid (Rd S w ka (kids.flatMap TT.cells)) := hsub.1
  have hl3 : kids.length ≤ 3 := hok.len
  have hz1 : nm.size ≤ 20 := hok.2.1.1
  have hz2 : tx.size ≤ 20 := hok.2.1.2
  have HQ : Hid ((TT.mk op nm tx num ka kc kids).term = none → req (n + 1) (TT.mk op nm tx num ka kc kids) = dist (rq op (kids.map (req n)))) := Lib.hid (fun h => req_rq h)
  have HQ2 : Hid (∀ s, (TT.mk op nm tx num ka kc kids).term = some s → req (n + 1) (TT.mk op nm tx num ka kc kids) = [s]) := Lib.hid (fun s h => req_leaf h)
  clear IH' hok hsub
  show Calls _ _ #[.agg #[.int .i64 op, .string nm, .string tx, .int .i64 num, .slice ka kids.length kc]] w _
  go_enter Tryz.func27, Tryz.ntmps27
  go_upto_region 1 with fail
  obtain ⟨w1, hw1⟩ : ∃ w1, w1 = w.alloc (.cells #[.int .i64 op, .string nm, .string tx, .int .i64 num, .slice ka kids.length kc] 26) := ⟨_, rfl⟩
  obtain ⟨r, hr⟩ : ∃ r, r = w.heap.size := ⟨_, rfl⟩
  have HR := Lib.hid hr
  have HB := Lib.hid (Blk.new w 26 #[.int .i64 op, .string nm, .string tx, .int .i64 num, .slice ka kids.length kc])
  have G := Lib.hid (only_alloc (only_refl w none) (.cells #[.int .i64 op, .string nm, .string tx, .int .i64 num, .slice ka kids.length kc] 26))
  rw [← hw1, ← hr] at HB ⊢
  rw [← hw1] at G
  clear hw1 hr
  have b0 := HB.out.cell 0; have b1 := HB.out.cell 1; have b2 := HB.out.cell 2; have b3 := HB.out.cell 3; have b4 := HB.out.cell 4
  simp at b0 b1 b2 b3 b4
  have hlit : ∀ (s : ByteArray) (w2 : World), w.grownBy w2 none → ReqPost w [s] (.returned (.slice (some ⟨w2.heap.size, 0, none⟩) 1 1)) (w2.alloc (.cells #[.string s] 9)) := fun s w2 hg =>
    ⟨some ⟨w2.heap.size, 0, none⟩, 1, rfl, Nat.le_refl _, by unfold maxLen; omega, World.ownsRow_lit w2 #[.string s] 1 hg.size (by unfold maxLen; omega) rfl, only_alloc hg _⟩
  have HLIT := Lib.hid hlit
  clear hlit
  by_cases h1 : op = 1
  · subst h1
    have hv := Lib.hid (HQ2.out tx term_of1)
    clear HQ HQ2
    go_wp2_with fail
    go_ret
    rw [hv.out]
    exact HLIT.out tx _ G.out
  have g1 : (op == 1) = false := by simp [h1]
  by_cases h4 : op = 4
  · subst h4
    have HTM := Lib.hid (fun w' => rterm_any nm tx num ka kc kids w' hz1 hz2)
    clear h1
    cases hb : atB nm with
    | true =>
      have hv : Hid (req (n + 1) (.mk 4 nm tx num ka kc kids) = []) := Lib.hid (req_none (term_at4 hb) (show (4 : Int) ≠ 6 by omega) (show (4 : Int) ≠ 7 by omega))
      rw [hb] at HTM
      clear hb HQ HQ2
      go_wp2_with fail
      refine (HTM.out _).mono ?_
      rintro e w2 ⟨rfl, hg2⟩
      have G2 := Lib.hid (only_trans G.out hg2)
      clear hg2
      go_wp2_with fail
      go_ret
      rw [hv.out]
      exact ⟨none, 0, rfl, Nat.le_refl _, Nat.zero_le _, World.ownsRow_nil _ _ _ _, G2.out⟩
    | false =>
      have hv := Lib.hid (HQ2.out _ (term_of4 hb))
      rw [hb] at HTM
      clear hb HQ HQ2
      obtain ⟨s, hs⟩ : ∃ s, s = nmeq nm tx := ⟨_, rfl⟩
      rw [← hs] at HTM hv
      clear hs
      go_wp2_with fail
      refine (HTM.out _).mono ?_
      rintro e w2 ⟨rfl, hg2⟩
      have G2 := Lib.hid (only_trans G.out hg2)
      clear hg2
      go_wp2_with fail
      go_ret
      rw [hv.out]
      exact HLIT.out s _ G2.out
  have g4 : (op == 4) = false := by simp [h4]
  by_cases h6 : op = 6
  · have g6 : (op == 6) = true := by simp [h6]
    have HV := Lib.hid (HQ.out (term_else h1 h4))
    have HOP := Lib.hid h6
    clear h1 h4 h6
    go_wp2_with fail
    go_loopw [5, 6] (fun vo i wr => ∃ k : Nat, i = .int .i64 k ∧ k ≤ kids.length ∧ wr.ownsRow (r + 1) 9 1 vo (rq op ((kids.take k).map (req n))).length ((rq op ((kids.take k).map (req n))).map .string) ∧ Blk wr r 26 #[.int .i64 op, .string nm, .string tx, .int .i64 num, .slice ka kids.length kc] ∧ w.grownBy wr none) (fun _ i _ => kids.length - (intOf i).toNat)
    case atStart => exact ⟨0, rfl, Nat.zero_le _, by
      have : rq op ((kids.take 0).map (req n)) = [] := by unfold rq; simp [orF]
      rw [this]; exact World.ownsRow_nil _ _ _ _, HB.out, G.out⟩
    case round =>
      obtain ⟨k, rfl, hk, hO, hB, hG⟩ := hrel
      obtain ⟨zs, hzs⟩ : ∃ zs, zs = rq op ((kids.take k).map (req n)) := ⟨_, rfl⟩
      rw [← hzs] at hO
      have hzl : zs.length ≤ 729 := by
        rw [hzs]
        have := rq_len (op := op) (rs := (kids.take k).map (req n)) (m := M) (fun x hx => by
          obtain ⟨y, hy, rfl⟩ := List.mem_map.1 hx
          exact HLEN.out y (List.mem_of_mem_take hy)) (by rw [List.length_map, List.length_take]; omega)
        omega
      have HZ := Lib.hid hzs
      have OO := Lib.hid hO
      have B := Lib.hid hB
      have G := Lib.hid hG
      have hrr := hB.lt
      have b0 := hB.cell 0; have b1 := hB.cell 1; have b2 := hB.cell 2; have b3 := hB.cell 3; have b4 := hB.cell 4
      simp at b0 b1 b2 b3 b4
      clear hO hB hG hzs HB
      by_cases hlt : k < kids.length
      · obtain ⟨y, hy⟩ : ∃ y, kids[k]? = some y := ⟨_, List.getElem?_eq_getElem hlt⟩
        obtain ⟨kb, ko, rfl, hkw, z0, z1, z2, z3, z4⟩ := kid_in (HK.out.grown G.out (by simp)) hy
        have HI := Lib.hid (IH.out y (List.mem_of_getElem? hy))
        have HYL := HLEN.out y (List.mem_of_getElem? hy)
        have HT : Hid ((kids.take (k + 1)).map (req n) = (kids.take k).map (req n) ++ [req n y]) := Lib.hid (by
          rw [List.getElem?_eq_getElem hlt] at hy
          injection hy with hy
          rw [List.take_succ_eq_append_getElem hlt, List.map_append, hy]; rfl)
        have HSR := Lib.hid (req_srt n y)
        obtain ⟨l, hl⟩ : ∃ l, l = req n y := ⟨_, rfl⟩
        rw [← hl] at HI HYL HT HSR
        clear hl hy HLEN
        have i1 : (k : Int) < (kids.length : Int) := by omega
        go_wp2_with fail
        refine (HI.out _ G.out).mono ?_
        rintro e w2 ⟨A2, c2, rfl, hc2, hm2, ho2, hg2⟩
        have R2 := Lib.hid (rd_own ho2 (by decide))
        have O2 := Lib.hid (own_ext OO.out hg2)
        have B2 := Lib.hid (B.out.grown hg2 (by simp))
        have G2 := Lib.hid (only_trans G.out hg2)
        have hz2' := hg2.size
        have hfin : Hid (rq op ((kids.take (k + 1)).map (req n)) = zs ++ l) := Lib.hid (by
          rw [HT.out, HZ.out]; unfold rq; rw [if_pos HOP.out, if_pos HOP.out]; simp)
        clear HT HZ ho2 hg2 OO B G b0 b1 b2 b3 b4 z0 z1 z2 z3 z4
        go_wp2_with (at_builtin; refine wpList_appendN rfl _ _ 40 rfl (r + 1) Tryz.underlying40 strInfo rfl (by decide) (v := u5) (by rfl) O2.out A2 l.length c2 (by rfl) R2.out (by simp) (by simp [Value.oneCell']) (by decide) (by omega) (by omega) ?_; intro v7 w7 hown7 hg7 hob7)
        have O7 : Hid (w7.ownsRow (r + 1) 9 1 v7 (rq op ((kids.take (k + 1)).map (req n))).length ((rq op ((kids.take (k + 1)).map (req n))).map .string)) := Lib.hid (by rw [hfin.out, List.length_append, List.map_append]; exact hown7)
        have B7 := Lib.hid (B2.out.grown hg7 (by intro e; have := (O2.out.lt r e.symm).1; omega))
        have G7 := Lib.hid (only_own G2.out hg7 O2.out (by have := HR.out; omega))
        clear hown7 hg7 hob7
        go_wp2_with fail
        go_roundw
        case rel => exact ⟨k + 1, by go_num, by omega, O7.out, B7.out, G7.out⟩
        case measure => simp [intOf]; omega
      · have i1 : ¬ (k : Int) < (kids.length : Int) := by omega
        have HE : Hid (zs = rq op (kids.map (req n))) := Lib.hid (by rw [HZ.out, List.take_of_length_le (by omega)])
        obtain ⟨Ao, co, hv, hoc, hom, -, hro⟩ := Rd.of_own OO.out (by decide)
        subst hv
        have KD := Lib.hid (distinct_own Ao zs co wr hro (by omega) hoc hom)
        clear hro
        go_wp2_with fail
        refine KD.out.mono ?_
        rintro e w4 ⟨A4, c4, ds, rfl, d1, d2, d3, d4, d5, d6, hg4⟩
        have hds : ds = dist zs := srt_ext d3 (dist_srt zs) (fun s => by rw [d4 s, dist_mem])
        have G4 := Lib.hid (only_trans G.out hg4)
        have D6 := Lib.hid (own_dn d6 G.out.size)
        have HDS := Lib.hid hds
        clear d3 d4 d5 d6 hg4 hds KD
        go_wp2_with fail
        go_ret
        rw [HV.out, ← HE.out, ← HDS.out]
        exact ⟨A4, c4, rfl, d1, d2, D6.out, G4.out⟩
  have g6 : (op == 6) = false := by simp [h6]
  by_cases h7 : op = 7
  · have H6N := Lib.hid h6
    have g7 : (op == 7) = true := by simp [h7]
    have HV := Lib.hid (HQ.out (term_else h1 h4))
    have HOP := Lib.hid h7
    clear h1 h4 h6 h7
    go_wp2_with fail
    go_loopw [7, 8, 9] (fun vo i _ wr => ∃ k : Nat, i = .int .i64 k ∧ k ≤ kids.length ∧ wr.ownsRow (r + 1) 9 1 vo (rq op ((kids.take k).map (req n))).length ((rq op ((kids.take k).map (req n))).map .string) ∧ Blk wr r 26 #[.int .i64 op, .string nm, .string tx, .int .i64 num, .slice ka kids.length kc] ∧ w.grownBy wr none) (fun _ i _ _ => kids.length - (intOf i).toNat)
    case atStart => exact ⟨0, rfl, Nat.zero_le _, by
      have : rq op ((kids.take 0).map (req n)) = [] := by unfold rq; simp [orF]
      rw [this]; exact World.ownsRow_nil _ _ _ _, HB.out, G.out⟩
    case round =>
      obtain ⟨k, rfl, hk, hO, hB, hG⟩ := hrel
      obtain ⟨zs, hzs⟩ : ∃ zs, zs = rq op ((kids.take k).map (req n)) := ⟨_, rfl⟩
      rw [← hzs] at hO
      have hzl : zs.length ≤ 729 := by
        rw [hzs]
        have := rq_len (op := op) (rs := (kids.take k).map (req n)) (m := M) (fun x hx => by
          obtain ⟨y, hy, rfl⟩ := List.mem_map.1 hx
          exact HLEN.out y (List.mem_of_mem_take hy)) (by rw [List.length_map, List.length_take]; omega)
        omega
      have HZ := Lib.hid hzs
      have OO := Lib.hid hO
      have B := Lib.hid hB
      have G := Lib.hid hG
      have hrr := hB.lt
      have b0 := hB.cell 0; have b1 := hB.cell 1; have b2 := hB.cell 2; have b3 := hB.cell 3; have b4 := hB.cell 4
      simp at b0 b1 b2 b3 b4
      clear hO hB hG hzs HB
      by_cases hlt : k < kids.length
      · obtain ⟨y, hy⟩ : ∃ y, kids[k]? = some y := ⟨_, List.getElem?_eq_getElem hlt⟩
        obtain ⟨kb, ko, rfl, hkw, z0, z1, z2, z3, z4⟩ := kid_in (HK.out.grown G.out (by simp)) hy
        have HI := Lib.hid (IH.out y (List.mem_of_getElem? hy))
        have HYL := HLEN.out y (List.mem_of_getElem? hy)
        have HT : Hid ((kids.take (k + 1)).map (req n) = (kids.take k).map (req n) ++ [req n y]) := Lib.hid (by
          rw [List.getElem?_eq_getElem hlt] at hy
          injection hy with hy
          rw [List.take_succ_eq_append_getElem hlt, List.map_append, hy]; rfl)
        have HSR := Lib.hid (req_srt n y)
        obtain ⟨l, hl⟩ : ∃ l, l = req n y := ⟨_, rfl⟩
        rw [← hl] at HI HYL HT HSR
        clear hl hy HLEN
        have i1 : (k : Int) < (kids.length : Int) := by omega
        by_cases hk0 : k = 0
        · have gk : ((k : Int) == 0) = true := by simp [hk0]
          have hfin : Hid (rq op ((kids.take (k + 1)).map (req n)) = l) := Lib.hid (by
            rw [HT.out, hk0]; unfold rq; rw [if_neg H6N.out, if_pos HOP.out]; rfl)
          clear HT HZ hk0
          go_wp2_with fail
          refine (HI.out _ G.out).mono ?_
          rintro e w2 ⟨A2, c2, rfl, hc2, hm2, ho2, hg2⟩
          have O7 : Hid (w2.ownsRow (r + 1) 9 1 (.slice A2 l.length c2) (rq op ((kids.take (k + 1)).map (req n))).length ((rq op ((kids.take (k + 1)).map (req n))).map .string)) := Lib.hid (by rw [hfin.out]; exact own_dn ho2 (by omega))
          have B7 := Lib.hid (B.out.grown hg2 (by simp))
          have G7 := Lib.hid (only_trans G.out hg2)
          clear ho2 hg2
          go_wp2_with fail
          go_roundw
          case rel => exact ⟨k + 1, by go_num, by omega, O7.out, B7.out, G7.out⟩
          case measure => simp [intOf]; omega
        · have gk : ((k : Int) == 0) = false := by rw [beq_eq_false_iff_ne]; omega
          have hfin : Hid (rq op ((kids.take (k + 1)).map (req n)) = zs.filter (found l)) := Lib.hid (by
            rw [HT.out, HZ.out, filt_found HSR.out]; unfold rq; rw [if_neg H6N.out, if_pos HOP.out, if_neg H6N.out, if_pos HOP.out]
            exact orF_snoc (by intro e; rw [List.map_eq_nil_iff] at e; have h0 := congrArg List.length e; rw [List.length_take] at h0; have h1 : min k kids.length = 0 := h0; omega) l)
          clear HT HZ hk0
          obtain ⟨Ao, co, hv, hoc, hom, -, hro⟩ := Rd.of_own OO.out (by decide)
          subst hv
          have RO := Lib.hid hro
          clear hro
          go_wp2_with fail
          refine (HI.out _ G.out).mono ?_
          rintro e w2 ⟨A2, c2, rfl, hc2, hm2, ho2, hg2⟩
          have R2 := Lib.hid (rd_own ho2 (by decide))
          have B2 := Lib.hid (B.out.grown hg2 (by simp))
          have G2 := Lib.hid (only_trans G.out hg2)
          have KB := Lib.hid (both_any Ao A2 zs l co c2 w2 (RO.out.grown hg2 (by simp)) R2.out (by omega) (by omega))
          have hz2' := hg2.size
          clear ho2 hg2
          go_wp2_with fail
          refine KB.out.mono ?_
          rintro e w3 ⟨A3, c3, rfl, hc3, hm3, ho3, hg3⟩
          have O7 : Hid (w3.ownsRow (r + 1) 9 1 (.slice A3 (zs.filter (found l)).length c3) (rq op ((kids.take (k + 1)).map (req n))).length ((rq op ((kids.take (k + 1)).map (req n))).map .string)) := Lib.hid (by rw [hfin.out]; exact own_dn ho3 (by omega))
          have B7 := Lib.hid (B2.out.grown hg3 (by simp))
          have G7 := Lib.hid (only_trans G2.out hg3)
          clear ho3 hg3 KB
          go_wp2_with fail
          go_roundw
          case rel => exact ⟨k + 1, by go_num, by omega, O7.out, B7.out, G7.out⟩
          case measure => simp [intOf]; omega
      · have i1 : ¬ (k : Int) < (kids.length : Int) := by omega
        have HE : Hid (rq op (kids.map (req n)) = zs) := Lib.hid (by rw [HZ.out, List.take_of_length_le (by omega)])
        have HSZ : Hid (dist zs = zs) := Lib.hid (dist_self (by
          rw [← HE.out]; unfold rq; rw [if_neg H6N.out, if_pos HOP.out]
          refine orF_srt (fun r hr => ?_)
          obtain ⟨k, hk, rfl⟩ := List.mem_map.1 hr
          exact req_srt n k))
        obtain ⟨Ao, co, hv, hoc, hom, -, -⟩ := Rd.of_own OO.out (by decide)
        subst hv
        go_wp2_with fail
        go_ret
        rw [HV.out, HE.out, HSZ.out]
        exact ⟨Ao, co, rfl, hoc, hom, own_dn OO.out (by have := HR.out; omega), G.out⟩
  have g7 : (op == 7) = false := by simp [h7]
  have hv : Hid (req (n + 1) (.mk op nm tx num ka kc kids) = []) := Lib.hid (req_none (term_else h1 h4) h6 h7)
  clear h1 h4 h6 h7 HQ HQ2
  go_wp2_with fail
  go_ret
  rw [hv.out]
  exact ⟨none, 0, rfl, Nat.le_refl _, Nat.zero_le _, World.ownsRow_nil _ _ _ _, G.out⟩
end Go.Proofs.YtceebhgbebkafaaGreatDoor
