/- group.Add, group.Collect (printed by mkgcoll.py). Condition: sizes. -/
import Derived.Test.YtfkgcighooijhaaGreatDoorJGMerge
import Derived.Test.YtfkgcighooijhaaGreatDoorJOne
import Derived.Test.YtfkgcighooijhaaGreatDoorEvIn
namespace Go.Proofs.YtfkgcighooijhaaGreatDoor
open Go.RowKit
set_option linter.unusedVariables false
set_option linter.unusedSimpArgs false

/- sizes -/
def OkZ (n k m : Nat) (z : PP) : Prop := z.cs.length = n ∧ z.key.length ≤ k ∧ ∀ c ∈ z.cs, c.v.length ≤ m
theorem okP_of {n k m : Nat} {p : PD} (h : OkZ n k m p.pl) (hk : k ≤ 1000) (hm : m ≤ 100000) : OkP n p :=
  ⟨by have := h.1; simpa [PD.pl] using this, Nat.le_trans h.2.1 hk, fun c hc => Nat.le_trans (h.2.2 c.pl (List.mem_map.2 ⟨c, hc, rfl⟩)) hm⟩
theorem joinC_v (k : Int) (x y : CD) : (joinC k x y).v.length ≤ x.v.length + y.v.length := by
  have hch : ∀ f : Int → Int → Int, (chosenC f x y).v.length ≤ x.v.length + y.v.length := fun f => by
    unfold chosenC
    (repeat' split) <;> simp <;> omega
  have hun : (uniC x y).v.length ≤ x.v.length + y.v.length := by
    show (dist (x.v ++ y.v)).length ≤ _
    have := dist_len (x.v ++ y.v)
    rw [List.length_append] at this; exact this
  unfold joinC
  split
  · exact hch _
  · split
    · exact hch _
    · split
      · exact hch _
      · split
        · exact hch _
        · exact hun
theorem joinL_v : ∀ {ags : List AggD} {xs ys : List CD} {m1 m2 : Nat}, (∀ c ∈ xs, c.v.length ≤ m1) → (∀ c ∈ ys, c.v.length ≤ m2) → ∀ c ∈ joinL ags xs ys, c.v.length ≤ m1 + m2
  | [], _, _, _, _, _, _, c, hc => by simp [joinL] at hc
  | _ :: _, [], _, _, _, _, _, c, hc => by simp [joinL] at hc
  | _ :: _, _ :: _, [], _, _, _, _, c, hc => by simp [joinL] at hc
  | a :: ags, x :: xs, y :: ys, m1, m2, h1, h2, c, hc => by
    rw [joinL] at hc
    rcases List.mem_cons.1 hc with rfl | hc
    · have := joinC_v a.kind x y
      have := h1 x (List.mem_cons_self ..)
      have := h2 y (List.mem_cons_self ..)
      omega
    · exact joinL_v (fun d hd => h1 d (List.mem_cons_of_mem _ hd)) (fun d hd => h2 d (List.mem_cons_of_mem _ hd)) c hc
theorem okZ_up {n k m m' : Nat} {z : PP} (h : OkZ n k m z) (hm : m ≤ m') : OkZ n k m' z := ⟨h.1, h.2.1, fun c hc => Nat.le_trans (h.2.2 c hc) hm⟩
theorem merge_ok {ags : List AggD} {k m1 m2 : Nat} : ∀ {a b : List PP}, (∀ z ∈ a, OkZ ags.length k m1 z) → (∀ z ∈ b, OkZ ags.length k m2 z) → (∀ z ∈ mergeP ags a b, OkZ ags.length k (m1 + m2) z) ∧ (mergeP ags a b).length ≤ a.length + b.length
  | [], b, _, hb => by rw [mergeP]; exact ⟨fun z hz => okZ_up (hb z hz) (by omega), by simp⟩
  | x :: xs, [], ha, _ => by rw [mergeP]; exact ⟨fun z hz => okZ_up (ha z hz) (by omega), by simp⟩
  | x :: xs, y :: ys, ha, hb => by
    have a1 := ha x (List.mem_cons_self ..)
    have b1 := hb y (List.mem_cons_self ..)
    have a2 : ∀ z ∈ xs, OkZ ags.length k m1 z := fun q hq => ha q (List.mem_cons_of_mem _ hq)
    have b2 : ∀ z ∈ ys, OkZ ags.length k m2 z := fun q hq => hb q (List.mem_cons_of_mem _ hq)
    rcases ltK_cases x.key y.key with h1 | h1 | h1
    · rw [mergeP_lt h1]
      have ih := merge_ok a2 hb
      refine ⟨fun z hz => ?_, by simp at ih ⊢; omega⟩
      rcases List.mem_cons.1 hz with rfl | hz
      · exact okZ_up a1 (by omega)
      · exact ih.1 z hz
    · rw [mergeP_eq h1]
      have ih := merge_ok a2 b2
      refine ⟨fun z hz => ?_, by simp at ih ⊢; omega⟩
      rcases List.mem_cons.1 hz with rfl | hz
      · exact ⟨joinL_len a1.1 b1.1, a1.2.1, joinL_v a1.2.2 b1.2.2⟩
      · exact ih.1 z hz
    · rw [mergeP_gt h1]
      have ih := merge_ok ha b2
      refine ⟨fun z hz => ?_, by simp at ih ⊢; omega⟩
      rcases List.mem_cons.1 hz with rfl | hz
      · exact okZ_up b1 (by omega)
      · exact ih.1 z hz
termination_by a b => a.length + b.length
theorem oneC_v (a : AggD) (e : Ev) : (oneC a e).v.length ≤ 1 := by
  unfold oneC
  split
  · simp
  · split
    · split <;> simp
    · split
      · split <;> simp
      · split <;> simp
theorem oneP_ok (ns : List ByteArray) (ags : List AggD) (e : Ev) : OkZ ags.length ns.length 1 (oneP ns ags e) :=
  ⟨by simp [oneP], by simp [oneP, keyOf_], fun c hc => by obtain ⟨a, -, rfl⟩ := List.mem_map.1 hc; exact oneC_v a e⟩
theorem collF_ok (ns : List ByteArray) (ags : List AggD) (l : List Ev) : (∀ z ∈ collF ns ags l, OkZ ags.length ns.length l.length z) ∧ (collF ns ags l).length ≤ l.length := by
  have key : ∀ (l : List Ev) (p : List PP) (m : Nat), (∀ z ∈ p, OkZ ags.length ns.length m z) → (∀ z ∈ l.foldl (fun p e => mergeP ags p [oneP ns ags e]) p, OkZ ags.length ns.length (m + l.length) z) ∧ (l.foldl (fun p e => mergeP ags p [oneP ns ags e]) p).length ≤ p.length + l.length := by
    intro l
    induction l with
    | nil => intro p m h; exact ⟨fun z hz => by simpa using h z hz, by simp⟩
    | cons x xs ih =>
      intro p m h
      have h1 := merge_ok h (b := [oneP ns ags x]) (m2 := 1) (fun z hz => by rw [List.mem_singleton.1 hz]; exact oneP_ok ns ags x)
      have h2 := ih _ _ h1.1
      refine ⟨fun z hz => okZ_up (h2.1 z hz) (by simp; omega), ?_⟩
      have := h2.2
      have := h1.2
      simp at *
      omega
  have := key l [] 0 (by simp)
  refine ⟨fun z hz => okZ_up (this.1 z hz) (by omega), ?_⟩
  have := this.2
  simpa [collF] using this
/-- the row of one partial -/
theorem pds_lit {w : World} {b : Nat} {p : PD} {S : Nat → Prop} (hB : Blk w b 69 (pArr p)) (hb : S b) (hs : p.Sub S w) : PDs S w (some ⟨b, 0, none⟩) [p] :=
  ⟨fun _ => ⟨b, 0, rfl, hb, hB.lt, fun j u hu => by
    rw [Nat.zero_add, hB.cell j]
    simpa [PD.cells, StrR.val] using hu⟩, fun q hq => by rw [List.mem_singleton.1 hq]; exact hs⟩
/-- a value that is a row of partials -/
def PVal (S : Nat → Prop) (zs : List PP) (w : World) (v : Value) : Prop := ∃ A c ps, v = .slice A ps.length c ∧ ps.map PD.pl = zs ∧ ps.length ≤ c ∧ c ≤ maxLen ∧ PDs S w A ps
theorem PVal.grown {S : Nat → Prop} {zs : List PP} {w w' : World} {v : Value} (h : PVal S zs w v) (hg : w.grownBy w' none) : PVal S zs w' v := by
  obtain ⟨A, c, ps, h1, h2, h3, h4, h5⟩ := h
  exact ⟨A, c, ps, h1, h2, h3, h4, h5.grown hg (by simp)⟩
theorem evSize : (Tryz.prog.info? 35).map (·.size) = some 10 := by kernel_rfl
theorem coll_okP {ps : List PD} {names : List ByteArray} {ags : List AggD} {es : List Ev} (h : ps.map PD.pl = collF names ags es) (hn : names.length ≤ 1000) (he : es.length ≤ 50000) : (∀ p ∈ ps, OkP ags.length p) ∧ ps.length ≤ es.length := by
  have hk := collF_ok names ags es
  rw [← h] at hk
  refine ⟨fun p hp => okP_of (hk.1 p.pl (List.mem_map.2 ⟨p, hp, rfl⟩)) hn (by omega), by simpa using hk.2⟩
theorem run_cutHi (ρ : Operand → Value) (w : World) {o : Oper} {t e : TypeId} {z x y b off m n c : Nat} (ho : o.op = .slice t (.tmp x) none (some (.tmp y)) none) (ht : Tryz.prog.underlying t = some (.slice e)) (hz : (Tryz.prog.info? e).map (·.size) = some z)
    (hx : ρ (.tmp x) = .slice (some ⟨b, off, none⟩) m c) (hy : ρ (.tmp y) = .int .i64 n) (h1 : n ≤ m) (h2 : m ≤ c) : (execOp ρ o).run Tryz.prog w = .ok (.value (.slice (some ⟨b, off, none⟩) n c)) w := by
  obtain ⟨i, hi, hiz⟩ : ∃ i, Tryz.prog.info? e = some i ∧ i.size = z := by
    cases h : Tryz.prog.info? e with
    | none => rw [h] at hz; cases hz
    | some i => rw [h] at hz; exact ⟨i, rfl, by simpa using hz⟩
  have hs : (sizeOf e).run Tryz.prog w = .ok z w := by simp [sizeOf, typeInfo, hi, hiz, Sem.run_bind, go_sem]
  have e1 : (n : Int) ≤ (c : Int) := by omega
  have e2 : (0 : Int) ≤ (n : Int) := by omega
  have e3 : (0 : Int) ≤ (c : Int) := by omega
  simp [execOp, ho, hx, hy, go_sem, ht, hs, e1, e2, e3]
theorem run_cutLo (ρ : Operand → Value) (w : World) {o : Oper} {t e : TypeId} {z x y b off m n c : Nat} (ho : o.op = .slice t (.tmp x) (some (.tmp y)) none none) (ht : Tryz.prog.underlying t = some (.slice e)) (hz : (Tryz.prog.info? e).map (·.size) = some z)
    (hx : ρ (.tmp x) = .slice (some ⟨b, off, none⟩) m c) (hy : ρ (.tmp y) = .int .i64 n) (h1 : n < m) (h2 : m ≤ c) (h0 : 0 < n * z) : (execOp ρ o).run Tryz.prog w = .ok (.value (.slice (some ⟨b, off + n * z, none⟩) (m - n) (c - n))) w := by
  obtain ⟨i, hi, hiz⟩ : ∃ i, Tryz.prog.info? e = some i ∧ i.size = z := by
    cases h : Tryz.prog.info? e with
    | none => rw [h] at hz; cases hz
    | some i => rw [h] at hz; exact ⟨i, rfl, by simpa using hz⟩
  have hs : (sizeOf e).run Tryz.prog w = .ok z w := by simp [sizeOf, typeInfo, hi, hiz, Sem.run_bind, go_sem]
  have e1 : (n : Int) ≤ (m : Int) := by omega
  have e2 : (0 : Int) ≤ (n : Int) := by omega
  have e3 : (m : Int) ≤ (c : Int) := by omega
  have e4 : (n : Int) ≤ (c : Int) := by omega
  have e5 : ¬ c = n := by omega
  have e6 : ((m : Int) - (n : Int)).toNat = m - n := by omega
  have e7 : ((c : Int) - (n : Int)).toNat = c - n := by omega
  simp [execOp, ho, hx, hy, go_sem, ht, hs, e1, e2, e3, e4, e5, e6, e7]
set_option maxHeartbeats 16000000 in
set_option maxRecDepth 100000 in
theorem gcoll_any {T U : Nat → Prop} (A : Option Addr) (names : List ByteArray) (c : Nat) (Aa : Option Addr) (ags : List AggD) (ca : Nat) (w00 : World) (ha : Rd T w00 A (names.map .string)) (hl : names.length ≤ 1000) (hnm : ∀ n ∈ names, n.size ≤ 1000)
    (hag : Rd U w00 Aa (ags.flatMap AggD.cells)) (hal : ags.length ≤ 1000) (hok : ∀ a ∈ ags, AggOk a) (ht : Pow10 w00) :
    ∀ (N : Nat) (S : Nat → Prop) (E : Option Addr) (es : List Ev) (ce : Nat) (w : World), es.length ≤ N → w00.grownBy w none → Evs S w E es → es.length ≤ ce → es.length ≤ 50000 → (∀ e ∈ es, EvV e) →
    Calls Tryz.prog 10 #[.slice A names.length c, .slice Aa ags.length ca, .slice E es.length ce] w (PartsP w (collF names ags es)) := by
  have HO : Hid (∀ (S : Nat → Prop) (e : Ev) (w' : World), w00.grownBy w' none → e.Sub S w' → EvV e → Calls Tryz.prog 28 #[.slice A names.length c, .slice Aa ags.length ca, .agg e.cells.toArray] w' (PartP w' (oneP names ags e))) := Lib.hid (fun S e w' hg hs hi => one_any A names c Aa ags ca e w' (ha.grown hg (by simp)) (by omega) hnm (hag.grown hg (by simp)) hal hok hs hi (ht.grown hg))
  have HM : Hid (∀ (S : Nat → Prop) (Ax : Option Addr) (px : List PD) (cx : Nat) (Ay : Option Addr) (py : List PD) (cy : Nat) (w' : World), w00.grownBy w' none → PDs S w' Ax px → PDs S w' Ay py → px.length ≤ cx → py.length ≤ cy → (∀ p ∈ px, OkP ags.length p) → (∀ p ∈ py, OkP ags.length p) → px.length + py.length ≤ 100000 → Calls Tryz.prog 11 #[.slice Aa ags.length ca, .slice Ax px.length cx, .slice Ay py.length cy] w' (PartsP w' (mergeP ags (px.map PD.pl) (py.map PD.pl)))) := Lib.hid (fun S Ax px cx Ay py cy w' hg h1 h2 h3 h4 h5 h6 h7 => gmerge_any Aa ags ca Ax px cx Ay py cy w' (hag.grown hg (by simp)) hal hok h1 h2 h3 h4 h5 h6 h7)
  clear ha hnm hag hok ht
  intro N
  induction N with
  | zero =>
    intro S E es ce w0 hN hG hE hc hel hi
    have h0 : es = [] := List.length_eq_zero_iff.1 (by omega)
    subst h0
    clear HO HM hE hi
    go_enter Tryz.func10, Tryz.ntmps10
    go_wp2_with fail
    go_ret
    exact ⟨none, 0, [], rfl, rfl, by simp, by simp [maxLen], ⟨fun h => by simp at h, by simp⟩, only_refl _ _⟩
  | succ N ih =>
    intro S E es ce w0 hN hG hE hc hel hi
    have IH := Lib.hid ih
    have EV := Lib.hid hE
    have HI := Lib.hid hi
    have G := Lib.hid hG
    clear ih hE hi hG
    obtain ⟨RES, hRES⟩ : ∃ r, r = collF names ags es := ⟨_, rfl⟩
    have HR := Lib.hid hRES
    rw [← hRES]
    clear hRES
    match es with
    | [] =>
      have hr : RES = [] := HR.out
      subst hr
      clear HR EV HI
      go_enter Tryz.func10, Tryz.ntmps10
      go_wp2_with fail
      go_ret
      exact ⟨none, 0, [], rfl, rfl, by simp, by simp [maxLen], ⟨fun h => by simp at h, by simp⟩, only_refl _ _⟩
    | [y] =>
      have hr : RES = [oneP names ags y] := HR.out.trans (collF_one names ags y)
      subst hr
      have K1 := Lib.hid (HO.out S y w0 G.out (EV.out.2 y (by simp)) (HI.out y (by simp)))
      have hycl : y.cells.toArray = #[.int .i64 y.host, .int .i64 y.file, .int .i64 y.beg, .int .i64 y.fin, .slice y.la y.lines.length y.lc, .int .i64 y.time, .int .i64 y.weight, .string y.trace, .string y.stream, .slice y.fa y.fields.length y.fc] := rfl
      rw [hycl] at K1
      clear hycl
      obtain ⟨kb, ko, rfl, hkw, z0, z1, z2, z3, z4, z5, z6, z7, z8, z9⟩ := ev_in EV.out.1 (i := 0) (y := y) rfl
      rw [Nat.zero_mul, Nat.add_zero] at z0 z1 z2 z3 z4 z5 z6 z7 z8 z9
      obtain ⟨z, hz⟩ : ∃ z, z = oneP names ags y := ⟨_, rfl⟩
      rw [← hz] at K1 ⊢
      clear hz HR EV HI IH HO HM
      simp only [List.length_singleton, List.length_cons, List.length_nil, Nat.zero_add] at hc hel hN ⊢
      go_enter Tryz.func10, Tryz.ntmps10
      go_wp2_with fail
      refine (K1.out).mono ?_
      rintro e w1 ⟨p, rfl, hp1, hp2, hg⟩
      go_wp2_with fail
      go_ret
      have hp3 := hp2.mono (S' := fun b => w0.heap.size ≤ b) (fun b hb _ => hb)
      refine ⟨_, 1, [p], rfl, by rw [List.map_singleton, hp1], by simp, by simp [maxLen], ?_, only_alloc hg _⟩
      exact pds_lit (Blk.new w1 _ _) (by have := hg.size; omega) (PD.Sub.grown hp3 (only_alloc (only_refl _ none) _) (by simp))
    | y1 :: y2 :: ys =>
      obtain ⟨es, hes⟩ : ∃ l, l = y1 :: y2 :: ys := ⟨_, rfl⟩
      have hlen : 2 ≤ es.length := by rw [hes]; simp
      rw [← hes] at HR EV HI hN hc hel ⊢
      clear hes
      obtain ⟨m, hm⟩ : ∃ m, m = es.length / 2 := ⟨_, rfl⟩
      have hm1 : m ≤ es.length := by omega
      have hm2 : m < es.length := by omega
      have hm3 : 0 < m * 10 := by omega
      have hec : es.length ≤ ce := hc
      obtain ⟨eb, eo, hEE, -⟩ := EV.out.1 (by rw [flat_len _ 10 Ev.cells_len]; omega)
      subst hEE
      have lt1 : (es.take m).length = m := by rw [List.length_take]; omega
      have lt2 : (es.drop m).length = es.length - m := List.length_drop
      obtain ⟨za, hza⟩ : ∃ z, z = collF names ags (es.take m) := ⟨_, rfl⟩
      obtain ⟨zb, hzb⟩ : ∃ z, z = collF names ags (es.drop m) := ⟨_, rfl⟩
      have KA : Hid (∀ w', w0.grownBy w' none → Calls Tryz.prog 10 #[.slice A names.length c, .slice Aa ags.length ca, .slice (some ⟨eb, eo, none⟩) m ce] w' (PartsP w' za)) := Lib.hid (fun w' hg => by
        have h0 := IH.out S (some ⟨eb, eo, none⟩) (es.take m) ce w' (by rw [lt1]; omega) (only_trans G.out hg) ⟨by
          have := (EV.out.1.grown hg (by simp)).take (m * 10)
          rw [← flat_take Ev.cells_len] at this
          exact this, fun q hq => (EV.out.2 q (List.mem_of_mem_take hq)).grown hg (by simp)⟩ (by rw [lt1]; omega) (by rw [lt1]; omega) (fun q hq => HI.out q (List.mem_of_mem_take hq))
        rw [lt1, ← hza] at h0
        exact h0)
      have KB : Hid (∀ w', w0.grownBy w' none → Calls Tryz.prog 10 #[.slice A names.length c, .slice Aa ags.length ca, .slice (some ⟨eb, eo + m * 10, none⟩) (es.length - m) (ce - m)] w' (PartsP w' zb)) := Lib.hid (fun w' hg => by
        have h0 := IH.out S (some ⟨eb, eo + m * 10, none⟩) (es.drop m) (ce - m) w' (by rw [lt2]; omega) (only_trans G.out hg) ⟨by
          have := Rd.dropG (EV.out.1.grown hg (by simp)) (m * 10)
          rw [← flat_drop Ev.cells_len] at this
          exact this, fun q hq => (EV.out.2 q (List.mem_of_mem_drop hq)).grown hg (by simp)⟩ (by rw [lt2]; omega) (by rw [lt2]; omega) (fun q hq => HI.out q (List.mem_of_mem_drop hq))
        rw [lt2, ← hzb] at h0
        exact h0)
      have HRR : Hid (RES = mergeP ags za zb) := Lib.hid (by rw [HR.out, hza, hzb, collF_app, List.take_append_drop])
      have KM : Hid (∀ (Ax : Option Addr) (px : List PD) (cx : Nat) (Ay : Option Addr) (py : List PD) (cy : Nat) (w' : World), w0.grownBy w' none → PDs (w0.heap.size ≤ ·) w' Ax px → PDs (w0.heap.size ≤ ·) w' Ay py → px.length ≤ cx → py.length ≤ cy → px.map PD.pl = za → py.map PD.pl = zb → Calls Tryz.prog 11 #[.slice Aa ags.length ca, .slice Ax px.length cx, .slice Ay py.length cy] w' (PartsP w' RES)) := Lib.hid (fun Ax px cx Ay py cy w' hg h1 h2 h3 h4 h5 h6 => by
        have o1 := coll_okP (h5.trans hza) hl (by rw [lt1]; omega)
        have o2 := coll_okP (h6.trans hzb) hl (by rw [lt2]; omega)
        have h0 := HM.out _ Ax px cx Ay py cy w' (only_trans G.out hg) h1 h2 h3 h4 o1.1 o2.1 (by have := o1.2; have := o2.2; omega)
        rw [h5, h6, ← HRR.out] at h0
        exact h0)
      have j0 : ¬ (es.length : Int) = 0 := by omega
      have j1 : ¬ (es.length : Int) = 1 := by omega
      have J2 : Hid ((es.length : Int) / 2 = (m : Int)) := Lib.hid (by omega)
      clear HRR HR hza hzb lt1 lt2 EV HI IH HO HM G hl hal
      go_enter Tryz.func10, Tryz.ntmps10
      go_upto_region 7 with fail
      rw [J2.out]
      refine wp_region_gen 14 (JC [some (.slice Aa ags.length ca), some (.slice A names.length c), some (.slice Aa ags.length ca), some (.slice (some ⟨eb, eo, none⟩) es.length ce), some (.int .i64 (m : Int)), some (.slice (some ⟨eb, eo, none⟩) m ce), none, some (.slice A names.length c), some (.slice Aa ags.length ca), some (.slice (some ⟨eb, eo, none⟩) es.length ce), some (.int .i64 (m : Int)), some (.slice (some ⟨eb, eo + m * 10, none⟩) (es.length - m) (ce - m)), none, none] (fun D u w => w0.grownBy w none ∧ (D 6 = true → PVal (w0.heap.size ≤ ·) za w (u 6)) ∧ (D 12 = true → PVal (w0.heap.size ≤ ·) zb w (u 12)) ∧ (D 13 = true → PVal (w0.heap.size ≤ ·) RES w (u 13)))) (by kernel_rfl) (by kernel_rfl) ?_ ?_ ?_
      · intro u
        exact ⟨(fun j c _ h => by cases h), only_drew (only_refl _ _), fun h => by simp at h, fun h => by simp at h, fun h => by simp at h⟩
      · intro AA hA
        have hasz : AA.tmps.size = 38 := by rw [hA]; kernel_rfl
        have ea0 : AA.eval (.tmp 0) = .slice A names.length c := by rw [hA]; kernel_rfl
        have ea1 : AA.eval (.tmp 1) = .slice Aa ags.length ca := by rw [hA]; kernel_rfl
        have ea2 : AA.eval (.tmp 2) = .slice (some ⟨eb, eo, none⟩) es.length ce := by rw [hA]; kernel_rfl
        have ea7 : AA.eval (.tmp 7) = .int .i64 (m : Int) := by rw [hA]; kernel_rfl
        clear hA
        simp only [List.take_succ_cons, List.take_zero]
        refine .cons ?_ (.cons ?_ (.cons ?_ (.cons ?_ (.cons ?_ (.cons ?_ (.cons ?_ (.cons ?_ (.cons ?_ (.cons ?_ (.cons ?_ (.cons ?_ (.cons ?_ (.cons ?_ (.nil))))))))))))))
        · exact gd_gen (by kernel_rfl) (Want.none_ rfl) rfl (fun D u w v h => by simpa [updB, upd] using h) (fun D u ρ w kn => by
            have e0 := kn.own 1 (c := .slice Aa ags.length ca) (by kernel_rfl) ea1
            simp [execOp, kn.rho.con, e0, go_sem])
        · exact gd_gen (by kernel_rfl) (Want.none_ rfl) rfl (fun D u w v h => by simpa [updB, upd] using h) (fun D u ρ w kn => by
            have e0 := kn.own 0 (c := .slice A names.length c) (by kernel_rfl) ea0
            simp [execOp, kn.rho.con, e0, go_sem])
        · exact gd_gen (by kernel_rfl) (Want.none_ rfl) rfl (fun D u w v h => by simpa [updB, upd] using h) (fun D u ρ w kn => by
            have e0 := kn.own 1 (c := .slice Aa ags.length ca) (by kernel_rfl) ea1
            simp [execOp, kn.rho.con, e0, go_sem])
        · exact gd_gen (by kernel_rfl) (Want.none_ rfl) rfl (fun D u w v h => by simpa [updB, upd] using h) (fun D u ρ w kn => by
            have e0 := kn.own 2 (c := .slice (some ⟨eb, eo, none⟩) es.length ce) (by kernel_rfl) ea2
            simp [execOp, kn.rho.con, e0, go_sem])
        · exact gd_gen (by kernel_rfl) (Want.none_ rfl) rfl (fun D u w v h => by simpa [updB, upd] using h) (fun D u ρ w kn => by
            have e0 := kn.own 7 (c := .int .i64 (m : Int)) (by kernel_rfl) ea7
            simp [execOp, kn.rho.con, e0, go_sem])
        · exact gd_gen (by kernel_rfl) (Want.none_ rfl) rfl (fun D u w v h => by simpa [updB, upd] using h) (fun D u ρ w kn => by
            have e0 := kn.con 3 27 (c := .slice (some ⟨eb, eo, none⟩) es.length ce) (by kernel_rfl) (by omega) (by kernel_rfl) rfl
            have e1 := kn.con 4 28 (c := .int .i64 (m : Int)) (by kernel_rfl) (by omega) (by kernel_rfl) rfl
            exact run_cutHi ρ w rfl Tryz.underlying26 evSize e0 e1 hm1 hec)
        · refine gd_call (by kernel_rfl) (Want.none_ rfl) 10 (fun D u ρ w kn hD => ?_)
          have e0 := kn.con 1 25 (c := .slice A names.length c) (by kernel_rfl) (by omega) (by kernel_rfl) rfl
          have e1 := kn.con 2 26 (c := .slice Aa ags.length ca) (by kernel_rfl) (by omega) (by kernel_rfl) rfl
          have e2 := kn.con 5 29 (c := .slice (some ⟨eb, eo, none⟩) m ce) (by kernel_rfl) (by omega) (by kernel_rfl) rfl
          refine ⟨#[.slice A names.length c, .slice Aa ags.length ca, .slice (some ⟨eb, eo, none⟩) m ce], ?_, (KA.out w kn.ext.1).mono ?_⟩
          · simp only [execOp, resolve, Deferred.ofValue, List.map_toArray, List.map_cons, List.map_nil, e0, e1, e2, kn.rho.con, kn.rho.fn]
            simp [go_sem]
          · rintro e w' ⟨A1, c1, ps, rfl, hps, hpc, hpm, hPD, hg⟩
            obtain ⟨x1, x2, x3, x4⟩ := kn.ext
            exact ⟨_, rfl, (fun c h => by injection h with h; cases h), only_trans x1 hg, fun _ => by rw [upd_at]; exact ⟨_, _, ps, rfl, hps, hpc, hpm, hPD.mono (fun b hb _ => Nat.le_trans x1.size hb)⟩, fun h => by rw [updB_ne D (by omega)] at h; rw [upd_ne u _ (by omega)]; exact (x3 h).grown hg, fun h => by rw [updB_ne D (by omega)] at h; rw [upd_ne u _ (by omega)]; exact (x4 h).grown hg⟩
        · exact gd_gen (by kernel_rfl) (Want.none_ rfl) rfl (fun D u w v h => by simpa [updB, upd] using h) (fun D u ρ w kn => by
            have e0 := kn.own 0 (c := .slice A names.length c) (by kernel_rfl) ea0
            simp [execOp, kn.rho.con, e0, go_sem])
        · exact gd_gen (by kernel_rfl) (Want.none_ rfl) rfl (fun D u w v h => by simpa [updB, upd] using h) (fun D u ρ w kn => by
            have e0 := kn.own 1 (c := .slice Aa ags.length ca) (by kernel_rfl) ea1
            simp [execOp, kn.rho.con, e0, go_sem])
        · exact gd_gen (by kernel_rfl) (Want.none_ rfl) rfl (fun D u w v h => by simpa [updB, upd] using h) (fun D u ρ w kn => by
            have e0 := kn.own 2 (c := .slice (some ⟨eb, eo, none⟩) es.length ce) (by kernel_rfl) ea2
            simp [execOp, kn.rho.con, e0, go_sem])
        · exact gd_gen (by kernel_rfl) (Want.none_ rfl) rfl (fun D u w v h => by simpa [updB, upd] using h) (fun D u ρ w kn => by
            have e0 := kn.own 7 (c := .int .i64 (m : Int)) (by kernel_rfl) ea7
            simp [execOp, kn.rho.con, e0, go_sem])
        · exact gd_gen (by kernel_rfl) (Want.none_ rfl) rfl (fun D u w v h => by simpa [updB, upd] using h) (fun D u ρ w kn => by
            have e0 := kn.con 9 33 (c := .slice (some ⟨eb, eo, none⟩) es.length ce) (by kernel_rfl) (by omega) (by kernel_rfl) rfl
            have e1 := kn.con 10 34 (c := .int .i64 (m : Int)) (by kernel_rfl) (by omega) (by kernel_rfl) rfl
            exact run_cutLo ρ w rfl Tryz.underlying26 evSize e0 e1 hm2 hec hm3)
        · refine gd_call (by kernel_rfl) (Want.none_ rfl) 10 (fun D u ρ w kn hD => ?_)
          have e0 := kn.con 7 31 (c := .slice A names.length c) (by kernel_rfl) (by omega) (by kernel_rfl) rfl
          have e1 := kn.con 8 32 (c := .slice Aa ags.length ca) (by kernel_rfl) (by omega) (by kernel_rfl) rfl
          have e2 := kn.con 11 35 (c := .slice (some ⟨eb, eo + m * 10, none⟩) (es.length - m) (ce - m)) (by kernel_rfl) (by omega) (by kernel_rfl) rfl
          refine ⟨#[.slice A names.length c, .slice Aa ags.length ca, .slice (some ⟨eb, eo + m * 10, none⟩) (es.length - m) (ce - m)], ?_, (KB.out w kn.ext.1).mono ?_⟩
          · simp only [execOp, resolve, Deferred.ofValue, List.map_toArray, List.map_cons, List.map_nil, e0, e1, e2, kn.rho.con, kn.rho.fn]
            simp [go_sem]
          · rintro e w' ⟨A1, c1, ps, rfl, hps, hpc, hpm, hPD, hg⟩
            obtain ⟨x1, x2, x3, x4⟩ := kn.ext
            exact ⟨_, rfl, (fun c h => by injection h with h; cases h), only_trans x1 hg, fun h => by rw [updB_ne D (by omega)] at h; rw [upd_ne u _ (by omega)]; exact (x2 h).grown hg, fun _ => by rw [upd_at]; exact ⟨_, _, ps, rfl, hps, hpc, hpm, hPD.mono (fun b hb _ => Nat.le_trans x1.size hb)⟩, fun h => by rw [updB_ne D (by omega)] at h; rw [upd_ne u _ (by omega)]; exact (x4 h).grown hg⟩
        · refine gd_call (by kernel_rfl) (Want.none_ rfl) 11 (fun D u ρ w kn hD => ?_)
          have e0 := kn.con 0 24 (c := .slice Aa ags.length ca) (by kernel_rfl) (by omega) (by kernel_rfl) rfl
          have e1 := kn.slot 6 30 (by kernel_rfl) (by omega)
          have e2 := kn.slot 12 36 (by kernel_rfl) (by omega)
          have d1 := kn.dep 6 (by kernel_rfl)
          have d2 := kn.dep 12 (by kernel_rfl)
          obtain ⟨x1, x2, x3, x4⟩ := kn.ext
          obtain ⟨Ax, cx, px, hx1, hx2, hx3, hx4, hx5⟩ := x2 d1
          obtain ⟨Ay, cy, py, hy1, hy2, hy3, hy4, hy5⟩ := x3 d2
          rw [hx1] at e1
          rw [hy1] at e2
          refine ⟨#[.slice Aa ags.length ca, .slice Ax px.length cx, .slice Ay py.length cy], ?_, (KM.out Ax px cx Ay py cy w x1 hx5 hy5 hx3 hy3 hx2 hy2).mono ?_⟩
          · simp only [execOp, resolve, Deferred.ofValue, List.map_toArray, List.map_cons, List.map_nil, e0, e1, e2, kn.rho.con, kn.rho.fn]
            simp [go_sem]
          · rintro e w' ⟨A1, c1, ps, rfl, hps, hpc, hpm, hPD, hg⟩
            exact ⟨_, rfl, (fun c h => by injection h with h; cases h), only_trans x1 hg, fun h => by rw [updB_ne D (by omega)] at h; rw [upd_ne u _ (by omega)]; exact (x2 h).grown hg, fun h => by rw [updB_ne D (by omega)] at h; rw [upd_ne u _ (by omega)]; exact (x3 h).grown hg, fun _ => by rw [upd_at]; exact ⟨_, _, ps, rfl, hps, hpc, hpm, hPD.mono (fun b hb _ => Nat.le_trans x1.size hb)⟩⟩
      · intro D u w5 hJ hD
        obtain ⟨hc, x1, x2, x3, x4⟩ := hJ
        obtain ⟨A1, c1, ps, hv, hps, hpc, hpm, hPD⟩ := x4 (hD 13 (by omega))
        simp only [List.take_succ_cons, List.take_zero, List.drop_succ_cons, List.drop_zero, putAll]
        rw [hv]
        clear hc x2 x3 x4 hD KA KB KM
        go_wp2_with fail
        go_ret
        exact ⟨_, _, ps, rfl, hps, hpc, hpm, hPD, x1⟩
end Go.Proofs.YtfkgcighooijhaaGreatDoor
