/- match.Select. Condition: sizes; the table of powers of ten; MaxLen holds a number. -/
import Derived.Test.YtceebhgbebkafaaGreatDoorBoundP
import Derived.Test.YtceebhgbebkafaaGreatDoorEvIn
namespace Go.Proofs.YtceebhgbebkafaaGreatDoor
open Go.RowKit
set_option linter.unusedVariables false
set_option linter.unusedSimpArgs false

/-- a slice of events of the call's own; their parts lie where S says -/
def SelPost (S : Nat → Prop) (w : World) (es : List Ev) (e : Ending) (w' : World) : Prop :=
  ∃ (A : Option Addr) (c : Nat), e = .returned (.slice A es.length c) ∧ es.length ≤ c ∧ c ≤ maxLen ∧ w'.ownsRow w.heap.size 35 10 (.slice A es.length c) es.length (es.flatMap Ev.cells) ∧ (∀ e ∈ es, e.Sub S w') ∧ w.grownBy w' none
theorem SelPost.evs {S : Nat → Prop} {w w' : World} {es : List Ev} {A : Option Addr} {c : Nat} (h1 : w'.ownsRow w.heap.size 35 10 (.slice A es.length c) es.length (es.flatMap Ev.cells)) (h2 : ∀ e ∈ es, e.Sub S w') : Evs (fun _ => True) w' A es :=
  ⟨(rd_own h1 (by decide)).mono (fun _ _ _ => trivial), fun e he => (h2 e he).mono (fun _ _ _ => trivial)⟩
set_option maxHeartbeats 4000000 in
set_option maxRecDepth 100000 in
theorem select_any {S T : Nat → Prop} (t : TT) (n : Nat) (A : Option Addr) (es : List Ev) (c : Nat) (w : World) (hok : t.Ok n) (hsub : t.Sub n S w) (hes : Evs T w A es) (hl : es.length ≤ 1000) (hev : ∀ e ∈ es, EvGood e) (htb : Pow10 w) (hml : MaxL w) :
    Calls Tryz.prog 14 #[.agg t.cells.toArray, .slice A es.length c] w (SelPost T w (es.filter (fun e => holdB e n t))) := by
  have HES := Lib.hid hes
  have HH : Hid (∀ y ∈ es, ∀ w', w.grownBy w' none → Calls Tryz.prog 11 #[.agg t.cells.toArray, .agg #[.int .i64 y.host, .int .i64 y.file, .int .i64 y.beg, .int .i64 y.fin, .slice y.la y.lines.length y.lc, .int .i64 y.time, .int .i64 y.weight, .string y.trace, .string y.stream, .slice y.fa y.fields.length y.fc]] w' (BoolP w' (holdB y n t))) := fun y hy w' hg => mHolds_any y t n w' hok (hsub.grown hg (by simp)) ((hes.2 y hy).grown hg (by simp)) (hev y hy).evT (hev y hy).evV (htb.grown hg) (hml.grown hg)
  obtain ⟨hb, hhb⟩ : ∃ f : Ev → Bool, f = fun e => holdB e n t := ⟨_, rfl⟩
  have HH2 : Hid (∀ y ∈ es, ∀ w', w.grownBy w' none → Calls Tryz.prog 11 #[.agg t.cells.toArray, .agg #[.int .i64 y.host, .int .i64 y.file, .int .i64 y.beg, .int .i64 y.fin, .slice y.la y.lines.length y.lc, .int .i64 y.time, .int .i64 y.weight, .string y.trace, .string y.stream, .slice y.fa y.fields.length y.fc]] w' (BoolP w' (hb y))) := by rw [hhb]; exact HH
  rw [← hhb]
  clear hes hok hsub hev htb hml HH hhb
  obtain ⟨op, nm, tx, num, ka, kc, kids⟩ := t
  have hcl : (TT.mk op nm tx num ka kc kids).cells.toArray = #[.int .i64 op, .string nm, .string tx, .int .i64 num, .slice ka kids.length kc] := rfl
  rw [hcl] at HH2 ⊢
  clear hcl
  go_enter Tryz.func14, Tryz.ntmps14
  go_upto_region 1 with fail
  obtain ⟨r, hr⟩ : ∃ r, r = w.heap.size := ⟨_, rfl⟩
  obtain ⟨W, hW⟩ : ∃ W, W = w.alloc (.cells #[.int .i64 op, .string nm, .string tx, .int .i64 num, .slice ka kids.length kc] 26) := ⟨_, rfl⟩
  have hB := Blk.new w 26 #[.int .i64 op, .string nm, .string tx, .int .i64 num, .slice ka kids.length kc]
  have hG : w.grownBy W none := by rw [hW]; exact only_alloc (only_refl _ _) _
  rw [← hW, ← hr] at hB
  rw [← hW, ← hr]
  have HR := Lib.hid hr
  have BW := Lib.hid hB
  have GW := Lib.hid hG
  clear hB hG hW hr
  go_wp2_with fail
  go_loopw [5, 10] (fun vo i wr => ∃ k : Nat, i = .int .i64 k ∧ k ≤ es.length ∧ wr.ownsRow (r + 1) 35 10 vo ((es.take k).filter hb).length (((es.take k).filter hb).flatMap Ev.cells) ∧ Blk wr r 26 #[.int .i64 op, .string nm, .string tx, .int .i64 num, .slice ka kids.length kc] ∧ w.grownBy wr none) (fun _ i _ => es.length - (intOf i).toNat)
  case atStart => exact ⟨0, rfl, Nat.zero_le _, World.ownsRow_nil _ _ _ _, BW.out, GW.out⟩
  case round =>
    obtain ⟨k, rfl, hk, hO, hB, hG⟩ := hrel
    obtain ⟨zs, hzs⟩ : ∃ zs, zs = (es.take k).filter hb := ⟨_, rfl⟩
    rw [← hzs] at hO
    have HZ := Lib.hid hzs
    have hzl : zs.length ≤ k := by
      rw [hzs]
      have := List.length_filter_le hb (es.take k)
      rw [List.length_take] at this; omega
    have OO := Lib.hid hO
    have B := Lib.hid hB
    have G := Lib.hid hG
    have hrr := hB.lt
    have hsz := hG.size
    obtain ⟨b0, b1, b2, b3, b4⟩ := box5 hB (only_refl wr none)
    clear hO hB hG hzs
    by_cases hlt : k < es.length
    · have i1 : (k : Int) < (es.length : Int) := by omega
      obtain ⟨y, hy⟩ : ∃ y, es[k]? = some y := ⟨_, List.getElem?_eq_getElem hlt⟩
      obtain ⟨kb, ko, rfl, hkw, z0, z1, z2, z3, z4, z5, z6, z7, z8, z9⟩ := ev_in (HES.out.grown G.out (by simp)).1 hy
      have HI := Lib.hid (HH2.out y (List.mem_of_getElem? hy))
      have HT : Hid ((es.take (k + 1)).filter hb = zs ++ (if hb y = true then [y] else [])) := Lib.hid (by
        rw [List.getElem?_eq_getElem hlt] at hy
        injection hy with hy
        rw [List.take_succ_eq_append_getElem hlt, List.filter_append, HZ.out, hy]
        congr 1
        by_cases hf : hb y = true
        · simp [hf]
        · simp [hf])
      clear hy HZ
      have hg0 := World.grownBy_alloc wr (.cells #[.int .i64 y.host, .int .i64 y.file, .int .i64 y.beg, .int .i64 y.fin, .slice y.la y.lines.length y.lc, .int .i64 y.time, .int .i64 y.weight, .string y.trace, .string y.stream, .slice y.fa y.fields.length y.fc] 35) none
      go_upto_region 5 with fail
      obtain ⟨Z, hZ⟩ : ∃ Z, Z = wr.alloc (.cells #[.int .i64 y.host, .int .i64 y.file, .int .i64 y.beg, .int .i64 y.fin, .slice y.la y.lines.length y.lc, .int .i64 y.time, .int .i64 y.weight, .string y.trace, .string y.stream, .slice y.fa y.fields.length y.fc] 35) := ⟨_, rfl⟩
      have hbk : Blk Z wr.heap.size 35 #[.int .i64 y.host, .int .i64 y.file, .int .i64 y.beg, .int .i64 y.fin, .slice y.la y.lines.length y.lc, .int .i64 y.time, .int .i64 y.weight, .string y.trace, .string y.stream, .slice y.fa y.fields.length y.fc] := by rw [hZ]; exact Blk.new _ _ _
      rw [← hZ] at hg0 ⊢
      obtain ⟨q, hq⟩ : ∃ q, q = wr.heap.size := ⟨_, rfl⟩
      rw [← hq] at hbk ⊢
      have hqr : r < q := by omega
      have OZ := Lib.hid (own_ext OO.out hg0)
      have BZ := Lib.hid (B.out.grown hg0 (by simp))
      have GZ := Lib.hid (only_trans G.out hg0)
      have KB := Lib.hid hbk
      obtain ⟨b0, b1, b2, b3, b4⟩ := box5 BZ.out (only_refl Z none)
      have y0 := hbk.cell 0; have y1 := hbk.cell 1; have y2 := hbk.cell 2; have y3 := hbk.cell 3; have y4 := hbk.cell 4; have y5 := hbk.cell 5; have y6 := hbk.cell 6; have y7 := hbk.cell 7; have y8 := hbk.cell 8; have y9 := hbk.cell 9
      simp at y0 y1 y2 y3 y4 y5 y6 y7 y8 y9
      have hqz := hbk.lt
      have OQ : ∀ j, u5.ownBlock = some j → j < q := fun j hj => by rw [hq]; exact (OO.out.lt j hj).2
      have HOQ := Lib.hid OQ
      clear hZ hg0 hbk hq OO B G z0 z1 z2 z3 z4 z5 z6 z7 z8 z9 hrr hsz OQ
      go_wp2_with fail
      refine (HI.out _ GZ.out).mono ?_
      rintro e w6 ⟨rfl, hg6⟩
      have O6 := Lib.hid (own_ext OZ.out hg6)
      have B6 := Lib.hid (BZ.out.grown hg6 (by simp))
      have G6 := Lib.hid (only_trans GZ.out hg6)
      have K6 := Lib.hid (KB.out.grown hg6 (by simp))
      have hz6 := hg6.size
      have hrw6 := B6.out.lt
      have hsz6 := G6.out.size
      have y0 := K6.out.cell 0; have y1 := K6.out.cell 1; have y2 := K6.out.cell 2; have y3 := K6.out.cell 3; have y4 := K6.out.cell 4; have y5 := K6.out.cell 5; have y6 := K6.out.cell 6; have y7 := K6.out.cell 7; have y8 := K6.out.cell 8; have y9 := K6.out.cell 9
      simp at y0 y1 y2 y3 y4 y5 y6 y7 y8 y9
      clear hg6 OZ BZ GZ KB b0 b1 b2 b3 b4 HI
      cases hf : hb y with
      | true =>
        rw [hf] at HT
        clear hf
        go_wp2_with (at_builtin; refine wpList_append1 rfl _ _ 27 rfl (r + 1) Tryz.underlying27 eventInfo rfl (by decide) (v := u5) (by rfl) (w0 := w6) (cs := #[.int .i64 y.host, .int .i64 y.file, .int .i64 y.beg, .int .i64 y.fin, .slice y.la y.lines.length y.lc, .int .i64 y.time, .int .i64 y.weight, .string y.trace, .string y.stream, .slice y.fa y.fields.length y.fc]) O6.out (by rfl) rfl (by simp [Value.oneCell']) (by decide) (by omega) (by omega) ?_; intro v7 w7 hown7 hg7 hob7)
        have O7 : Hid (w7.ownsRow (r + 1) 35 10 v7 ((es.take (k + 1)).filter hb).length (((es.take (k + 1)).filter hb).flatMap Ev.cells)) := Lib.hid (by rw [HT.out]; simpa [Ev.cells] using hown7)
        have B7 := Lib.hid (B6.out.grown hg7 (by intro e; have := (O6.out.lt r e.symm).1; omega))
        have G7 : Hid (w.grownBy w7 none) := Lib.hid (only_own G6.out hg7 O6.out (by have := HR.out; omega))
        clear hown7 hg7 hob7
        go_wp2_with fail
        go_roundw
        case rel => exact ⟨k + 1, by go_num, by omega, O7.out, B7.out, G7.out⟩
        case measure => simp [intOf]; omega
      | false =>
        rw [hf] at HT
        have O7 : Hid (w6.ownsRow (r + 1) 35 10 u5 ((es.take (k + 1)).filter hb).length (((es.take (k + 1)).filter hb).flatMap Ev.cells)) := Lib.hid (by rw [HT.out]; simpa using O6.out)
        clear hf
        go_wp2_with fail
        go_roundw
        case rel => exact ⟨k + 1, by go_num, by omega, O7.out, B6.out, G6.out⟩
        case measure => simp [intOf]; omega
    · have i1 : ¬ (k : Int) < (es.length : Int) := by omega
      have HE : Hid (zs = es.filter hb) := Lib.hid (by rw [HZ.out, List.take_of_length_le (by omega)])
      obtain ⟨Ao, co, hv, hoc, hom, -, -⟩ := Rd.of_own OO.out (by decide)
      have HVV := Lib.hid hv
      have O8 := OO.out
      rw [hv] at O8
      have O9 := Lib.hid (own_dn O8 (show w.heap.size ≤ r + 1 by have := HR.out; omega))
      clear hv O8
      go_wp2_with fail
      go_ret
      rw [← HE.out]
      exact ⟨Ao, co, by rw [← HVV.out]; rfl, hoc, hom, O9.out, fun e he => (HES.out.2 e (by rw [HE.out] at he; exact (List.mem_filter.1 he).1)).grown G.out (by simp), G.out⟩
end Go.Proofs.YtceebhgbebkafaaGreatDoor
