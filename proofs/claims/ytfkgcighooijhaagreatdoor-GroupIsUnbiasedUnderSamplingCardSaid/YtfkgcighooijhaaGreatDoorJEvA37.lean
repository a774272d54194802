/- Numbers of events fit. No condition. -/
import Derived.Test.YtfkgcighooijhaaGreatDoorJGrpP
import Derived.Test.YtfkgcighooijhaaGreatDoorJRMrgM
import Derived.Test.YtfkgcighooijhaaGreatDoorJGColl
import Derived.Test.YtfkgcighooijhaaGreatDoorStr
import Derived.Test.YtfkgcighooijhaaGreatDoorJCloneBo
import Derived.Test.YtfkgcighooijhaaGreatDoorJOneI
namespace Go.Proofs.YtfkgcighooijhaaGreatDoor
open Go.RowKit
set_option linter.unusedVariables false
set_option linter.unusedSimpArgs false

theorem numF_lt : ∀ (xs : List Int) (n m : Int) (k : Nat), 0 ≤ n → n < 10 ^ k → numF xs n = some m → 0 ≤ m ∧ m < 10 ^ (k + xs.length)
  | [], n, m, k, h0, h1, h => by
    simp [numF] at h
    subst h
    exact ⟨h0, by simpa using h1⟩
  | x :: xs, n, m, k, h0, h1, h => by
    unfold numF at h
    split at h
    · rename_i hx
      have hk : (10 : Int) ^ (k + 1) = 10 ^ k * 10 := Int.pow_succ _ _
      have h2 := numF_lt xs (10 * n + (x - 48)) m (k + 1) (by omega) (by rw [hk]; omega) h
      refine ⟨h2.1, ?_⟩
      have h3 := h2.2
      rw [show k + 1 + xs.length = k + (x :: xs).length by simp; omega] at h3
      exact h3
    · cases h
theorem parseN_i64 {s : ByteArray} {n : Int} (h : parseN s = some n) : I64 n := by
  unfold parseN at h
  split at h
  · cases h
  · rename_i hl
    cases hf : numF (digsOf s) 0 with
    | none => rw [hf] at h; cases h
    | some m =>
      rw [hf] at h
      simp only [Option.map_some] at h
      have h1 := numF_lt (digsOf s) 0 m 0 (by omega) (by decide) hf
      have h2 : (10 : Int) ^ (0 + (digsOf s).length) ≤ 10 ^ 18 := by have := Nat.pow_le_pow_right (n := 10) (by decide) (show 0 + (digsOf s).length ≤ 18 by omega); exact_mod_cast this
      have h3 : (10 : Int) ^ 18 = 1000000000000000000 := by decide
      injection h with h
      unfold I64
      split at h <;> omega
theorem evA_of {e : Ev} (h : EvI e) (ags : List AggD) : EvA ags e := by
  refine ⟨h.2.2.2.1, fun a _ n hn => ?_⟩
  unfold numOf at hn
  cases hv : valOf e a.field with
  | none => rw [hv] at hn; cases hn
  | some s => rw [hv] at hn; exact parseN_i64 hn
end Go.Proofs.YtfkgcighooijhaaGreatDoor

namespace Go.Proofs.YtfkgcighooijhaaGreatDoor
open Go.RowKit
set_option linter.unusedVariables false
set_option linter.unusedSimpArgs false

set_option maxHeartbeats 8000000 in
set_option maxRecDepth 100000 in
theorem radd37_any {S T U V : Nat → Prop} (Ap : Option Addr) (ps : List PD) (cp : Nat) (A : Option Addr) (names : List ByteArray) (c : Nat) (Aa : Option Addr) (ags : List AggD) (ca : Nat) (e : Ev) (w : World) (hp : PDs V w Ap ps) (hpo : ∀ p ∈ ps, OkP ags.length p) (hpcan : CanP ags (ps.map PD.pl)) (hpl : ps.length ≤ 50000) (ha : Rd T w A (names.map .string)) (hl : names.length ≤ 1000) (hnm : ∀ n ∈ names, n.size ≤ 1000)
    (hag : Rd U w Aa (ags.flatMap AggD.cells)) (hal : ags.length ≤ 1000) (hok : ∀ a ∈ ags, AggOk a) (hs : e.Sub S w) (hi : EvV e) (hin : EvN e) :
    Calls Tryz.prog 45 #[.slice Ap ps.length cp, .slice A names.length c, .slice Aa ags.length ca, .agg e.cells.toArray] w (RPartsS V w (mergeP ags (ps.map PD.pl) [oneP names ags e])) := by
  have hki : KindsOk ags := fun a ha => ⟨(hok a ha).1, (hok a ha).2.1⟩
  have HO : Hid (∀ (w' : World), w.grownBy w' none → Calls Tryz.prog 63 #[.slice A names.length c, .slice Aa ags.length ca, .agg e.cells.toArray] w' (PartP w' (oneP names ags e))) := Lib.hid (fun w' hg => rsingle_any A names c Aa ags ca e w' (ha.grown hg (by simp)) (by omega) hnm (hag.grown hg (by simp)) hal hok (hs.grown hg (by simp)) hi hin)
  have HM : Hid (∀ (By : Option Addr) (p : PD) (cy : Nat) (w' : World), w.grownBy w' none → PDs (w.heap.size ≤ ·) w' By [p] → p.pl = oneP names ags e → Calls Tryz.prog 13 #[.slice Aa ags.length ca, .slice Ap ps.length cp, .slice By 1 cy] w' (RPartsS (fun b => (V b ∧ b < w.heap.size) ∨ w.heap.size ≤ b) w' (mergeP ags (ps.map PD.pl) [oneP names ags e]))) := Lib.hid (fun By p cy w' hg h1 h3 => by
    have h0 := rmerge37_any (S := fun b => (V b ∧ b < w.heap.size) ∨ w.heap.size ≤ b) Aa ags ca Ap ps cp By [p] cy w' (hag.grown hg (by simp)) hal hok ((hp.mono (S' := fun b => V b ∧ b < w.heap.size) (fun b h1 h2 => ⟨h1, h2⟩)).grown hg (by simp) |>.mono (fun b hb _ => .inl hb)) (h1.mono (fun b hb _ => .inr hb)) hpo (fun q hq => by
      rw [List.mem_singleton.1 hq]
      have := oneP_ok names ags e
      rw [← h3] at this
      exact okP_of this hl (by omega)) hpcan (by rw [List.map_singleton, h3]; exact one_can hki (evA_of hi.1 ags)) (by simp; omega)
    rw [List.map_singleton, h3] at h0
    exact h0)
  obtain ⟨Z, hZ⟩ : ∃ Z, Z = mergeP ags (ps.map PD.pl) [oneP names ags e] := ⟨_, rfl⟩
  obtain ⟨z, hz⟩ : ∃ z, z = oneP names ags e := ⟨_, rfl⟩
  rw [← hZ] at HM ⊢
  rw [← hz] at HM HO
  clear hp hpo ha hnm hag hok hs hi hZ hz hki hpcan hin
  obtain ⟨host, file, beg, fin, lines, time, weight, trace, stream, fields, la, lc, fa, fc⟩ := e
  have hcl : (Ev.mk host file beg fin lines time weight trace stream fields la lc fa fc).cells.toArray = #[.int .i64 host, .int .i64 file, .int .i64 beg, .int .i64 fin, .slice la lines.length lc, .int .i64 time, .int .i64 weight, .string trace, .string stream, .slice fa fields.length fc] := rfl
  rw [hcl] at HO ⊢
  clear hcl
  go_enter Tryz.func45, Tryz.ntmps45
  go_upto_region 1 with fail
  obtain ⟨WA, hWA⟩ : ∃ W, W = w.alloc (.cells #[.int .i64 host, .int .i64 file, .int .i64 beg, .int .i64 fin, .slice la lines.length lc, .int .i64 time, .int .i64 weight, .string trace, .string stream, .slice fa fields.length fc] 35) := ⟨_, rfl⟩
  have hE : Blk WA w.heap.size 35 #[.int .i64 host, .int .i64 file, .int .i64 beg, .int .i64 fin, .slice la lines.length lc, .int .i64 time, .int .i64 weight, .string trace, .string stream, .slice fa fields.length fc] := by rw [hWA]; exact Blk.new w _ _
  have GA : Hid (w.grownBy WA none) := Lib.hid (by rw [hWA]; exact only_alloc (only_refl w none) _)
  rw [← hWA]
  have e0 := hE.cell 0; have e1 := hE.cell 1; have e2 := hE.cell 2; have e3 := hE.cell 3; have e4 := hE.cell 4; have e5 := hE.cell 5; have e6 := hE.cell 6; have e7 := hE.cell 7; have e8 := hE.cell 8; have e9 := hE.cell 9
  simp at e0 e1 e2 e3 e4 e5 e6 e7 e8 e9
  clear hWA hE
  go_wp2_with fail
  refine (HO.out _ GA.out).mono ?_
  rintro e w1 ⟨p, rfl, hp1, hp2, hg1⟩
  have G1 := Lib.hid (only_trans GA.out hg1)
  clear e0 e1 e2 e3 e4 e5 e6 e7 e8 e9
  have HP1 := Lib.hid hp1
  have HP2 := Lib.hid (hp2.mono (S' := (w.heap.size ≤ ·)) (fun b hb _ => Nat.le_trans GA.out.size hb))
  clear hp1 hp2 hg1
  go_wp2_with fail
  have hgw : w1.grownBy (w1.alloc (.cells (pArr p) 69)) none := World.grownBy_alloc w1 _ none
  refine (HM.out (some ⟨w1.heap.size, 0, none⟩) p 1 _ (only_trans G1.out hgw) (pds_lit (Blk.new w1 _ _) G1.out.size (PD.Sub.grown HP2.out hgw (by simp))) HP1.out).mono ?_
  rintro e w2 ⟨AR, cR, rs, rfl, r1, r2, r3, r4, r5, hg2⟩
  have G2 := Lib.hid (only_trans (only_trans G1.out hgw) hg2)
  have hsz : w.heap.size ≤ (w1.alloc (.cells (pArr p) 69)).heap.size := Nat.le_trans G1.out.size hgw.size
  have R3 := Lib.hid r3
  have R4 := Lib.hid (r4.mono (S' := (w.heap.size ≤ ·)) (fun b hb _ => Nat.le_trans hsz hb))
  have R5 : Hid (∀ p ∈ rs, p.Sub (fun b => (V b ∧ b < w.heap.size) ∨ w.heap.size ≤ b) w2) := Lib.hid (fun p hp => (r5 p hp).mono (fun b hb _ => by
    rcases hb with hb | hb
    · exact hb.1
    · exact .inr (Nat.le_trans hsz hb)))
  clear r3 r4 r5 hgw hsz hg2
  go_wp2_with fail
  go_ret
  exact ⟨AR, cR, rs, rfl, r1, r2, R3.out, R4.out, R5.out, G2.out⟩
set_option maxHeartbeats 8000000 in
set_option maxRecDepth 100000 in
theorem rcoll37_any {S T U : Nat → Prop} (A : Option Addr) (names : List ByteArray) (c : Nat) (Aa : Option Addr) (ags : List AggD) (ca : Nat) (Ae : Option Addr) (es : List Ev) (ce : Nat) (w : World) (ha : Rd T w A (names.map .string)) (hl : names.length ≤ 1000) (hnm : ∀ n ∈ names, n.size ≤ 1000)
    (hag : Rd U w Aa (ags.flatMap AggD.cells)) (hal : ags.length ≤ 1000) (hok : ∀ a ∈ ags, AggOk a) (hev : Evs S w Ae es) (hel : es.length ≤ 40000) (hi : ∀ e ∈ es, EvV e) (hin : ∀ e ∈ es, EvN e) :
    Calls Tryz.prog 22 #[.slice A names.length c, .slice Aa ags.length ca, .slice Ae es.length ce] w (PartsP w (collF names ags es)) := by
  have hki : KindsOk ags := fun a ha => ⟨(hok a ha).1, (hok a ha).2.1⟩
  have HADD : Hid (∀ (Ap : Option Addr) (ps : List PD) (cp : Nat) (e : Ev) (k : Nat) (w' : World), w.grownBy w' none → PDs (w.heap.size ≤ ·) w' Ap ps → ps.map PD.pl = collF names ags (es.take k) → e ∈ es → Calls Tryz.prog 45 #[.slice Ap ps.length cp, .slice A names.length c, .slice Aa ags.length ca, .agg e.cells.toArray] w' (RPartsS (w.heap.size ≤ ·) w' (mergeP ags (collF names ags (es.take k)) [oneP names ags e]))) := Lib.hid (fun Ap ps cp e k w' hg h1 h2 h3 => by
    have h4 := coll_okP h2 hl (by rw [List.length_take]; omega)
    have h0 := radd37_any Ap ps cp A names c Aa ags ca e w' h1 h4.1 (by rw [h2]; exact collF_can hki (fun q hq => evA_of (hi q (List.mem_of_mem_take hq)).1 ags)) (by have := h4.2; rw [List.length_take] at this; omega) (ha.grown hg (by simp)) hl hnm (hag.grown hg (by simp)) hal hok ((hev.2 e h3).grown hg (by simp)) (hi e h3) (hin e h3)
    rw [h2] at h0
    exact h0)
  have HEV := Lib.hid hev
  have HEND : Hid (es.take es.length = es) := Lib.hid (List.take_length)
  have HSN : Hid (∀ (k : Nat) (y : Ev), es[k]? = some y → mergeP ags (collF names ags (es.take k)) [oneP names ags y] = collF names ags (es.take (k + 1))) := Lib.hid (fun k y hy => by
    obtain ⟨h1, e⟩ := List.getElem?_eq_some_iff.1 hy
    rw [List.take_succ_eq_append_getElem h1, e, collF_snoc])
  clear ha hnm hag hok hev hi hin hki
  go_enter Tryz.func22, Tryz.ntmps22
  go_wp2_with fail
  go_loopw [7, 8] (fun v7 v8 wr => ∃ (k : Nat) (Ap : Option Addr) (ps : List PD) (cp : Nat), v8 = .int .i64 k ∧ k ≤ es.length ∧ v7 = .slice Ap ps.length cp ∧ ps.map PD.pl = collF names ags (es.take k) ∧ ps.length ≤ cp ∧ cp ≤ maxLen ∧ PDs (w.heap.size ≤ ·) wr Ap ps ∧ w.grownBy wr none) (fun _ v8 _ => es.length - (intOf v8).toNat)
  case atStart => exact ⟨0, none, [], 0, rfl, Nat.zero_le _, rfl, rfl, Nat.le_refl _, Nat.zero_le _, ⟨Rd.nil, by simp⟩, only_refl _ _⟩
  case round =>
    obtain ⟨k, Ap, ps, cp, rfl, hk, rfl, hps, hcp, hcm, hP, hG⟩ := hrel
    have HPS := Lib.hid hps
    have HP := Lib.hid hP
    have G := Lib.hid hG
    have HCP := Lib.hid (And.intro hcp hcm)
    clear hps hP hG hcp hcm
    by_cases hlt : k < es.length
    · obtain ⟨y, hy⟩ : ∃ y, es[k]? = some y := ⟨_, List.getElem?_eq_getElem hlt⟩
      obtain ⟨kb, ko, eE, hkw, z0, z1, z2, z3, z4, z5, z6, z7, z8, z9⟩ := ev_in (HEV.out.1.grown G.out (by simp)) hy
      subst eE
      have KA := Lib.hid (HADD.out Ap ps cp y k wr G.out HP.out HPS.out (List.mem_of_getElem? hy))
      have hycl : y.cells.toArray = #[.int .i64 y.host, .int .i64 y.file, .int .i64 y.beg, .int .i64 y.fin, .slice y.la y.lines.length y.lc, .int .i64 y.time, .int .i64 y.weight, .string y.trace, .string y.stream, .slice y.fa y.fields.length y.fc] := rfl
      rw [hycl, HSN.out k y hy] at KA
      have i1 : (k : Int) < (es.length : Int) := by omega
      clear hy hycl
      go_wp2_with fail
      refine KA.out.mono ?_
      rintro e w2 ⟨AR, cR, rs, rfl, r1, r2, r3, r4, r5, hg2⟩
      have hz := G.out.size
      have R1 := Lib.hid r1
      have R2 := Lib.hid (And.intro r2 r3)
      have RP : Hid (PDs (w.heap.size ≤ ·) w2 AR rs) := Lib.hid ⟨r4.mono (fun b hb _ => Nat.le_trans hz hb), fun p hp => (r5 p hp).mono (fun b hb _ => by
        rcases hb with hb | hb
        · exact hb.1
        · exact Nat.le_trans hz hb)⟩
      have G2 := Lib.hid (only_trans G.out hg2)
      clear r1 r2 r3 r4 r5 hg2 hz z0 z1 z2 z3 z4 z5 z6 z7 z8 z9
      go_wp2_with fail
      go_roundw
      case rel => exact ⟨k + 1, AR, rs, cR, by go_num, by omega, rfl, R1.out, R2.out.1, R2.out.2, RP.out, G2.out⟩
      case measure => simp [intOf]; omega
    · have i1 : ¬ (k : Int) < (es.length : Int) := by omega
      have hke : k = es.length := by omega
      have HPS2 : Hid (ps.map PD.pl = collF names ags es) := Lib.hid (by rw [HPS.out, hke, HEND.out])
      clear hke
      go_wp2_with fail
      go_ret
      exact ⟨Ap, cp, ps, rfl, HPS2.out, HCP.out.1, HCP.out.2, HP.out, G.out⟩
end Go.Proofs.YtfkgcighooijhaaGreatDoor

namespace Go.Proofs.YtfkgcighooijhaaGreatDoor
open Go.RowKit
set_option linter.unusedVariables false
set_option linter.unusedSimpArgs false

set_option maxHeartbeats 8000000 in
set_option maxRecDepth 100000 in
theorem gadd_any {S T U V : Nat → Prop} (Ap : Option Addr) (ps : List PD) (cp : Nat) (A : Option Addr) (names : List ByteArray) (c : Nat) (Aa : Option Addr) (ags : List AggD) (ca : Nat) (e : Ev) (w : World) (hp : PDs V w Ap ps) (hpc : ps.length ≤ cp) (hpo : ∀ p ∈ ps, OkP ags.length p) (hpl : ps.length ≤ 50000) (ha : Rd T w A (names.map .string)) (hl : names.length ≤ 1000) (hnm : ∀ n ∈ names, n.size ≤ 1000)
    (hag : Rd U w Aa (ags.flatMap AggD.cells)) (hal : ags.length ≤ 1000) (hok : ∀ a ∈ ags, AggOk a) (hs : e.Sub S w) (hi : EvV e) (ht : Pow10 w) :
    Calls Tryz.prog 21 #[.slice Ap ps.length cp, .slice A names.length c, .slice Aa ags.length ca, .agg e.cells.toArray] w (PartsP w (mergeP ags (ps.map PD.pl) [oneP names ags e])) := by
  have HO : Hid (∀ (w' : World), w.grownBy w' none → Calls Tryz.prog 28 #[.slice A names.length c, .slice Aa ags.length ca, .agg e.cells.toArray] w' (PartP w' (oneP names ags e))) := Lib.hid (fun w' hg => one_any A names c Aa ags ca e w' (ha.grown hg (by simp)) (by omega) hnm (hag.grown hg (by simp)) hal hok (hs.grown hg (by simp)) hi (ht.grown hg))
  have HM : Hid (∀ (By : Option Addr) (p : PD) (cy : Nat) (w' : World), w.grownBy w' none → PDs (fun _ => True) w' By [p] → 1 ≤ cy → p.pl = oneP names ags e → Calls Tryz.prog 11 #[.slice Aa ags.length ca, .slice Ap ps.length cp, .slice By 1 cy] w' (PartsP w' (mergeP ags (ps.map PD.pl) [oneP names ags e]))) := Lib.hid (fun By p cy w' hg h1 h2 h3 => by
    have h0 := gmerge_any Aa ags ca Ap ps cp By [p] cy w' (hag.grown hg (by simp)) hal hok (hp.grown hg (by simp)) h1 hpc h2 hpo (fun q hq => by
      rw [List.mem_singleton.1 hq]
      have := oneP_ok names ags e
      rw [← h3] at this
      exact okP_of this hl (by omega)) (by simp; omega)
    rw [List.map_singleton, h3] at h0
    exact h0)
  obtain ⟨Z, hZ⟩ : ∃ Z, Z = mergeP ags (ps.map PD.pl) [oneP names ags e] := ⟨_, rfl⟩
  obtain ⟨z, hz⟩ : ∃ z, z = oneP names ags e := ⟨_, rfl⟩
  rw [← hZ] at HM ⊢
  rw [← hz] at HM HO
  clear hp hpo ha hnm hag hok hs hi ht hZ hz
  obtain ⟨host, file, beg, fin, lines, time, weight, trace, stream, fields, la, lc, fa, fc⟩ := e
  have hcl : (Ev.mk host file beg fin lines time weight trace stream fields la lc fa fc).cells.toArray = #[.int .i64 host, .int .i64 file, .int .i64 beg, .int .i64 fin, .slice la lines.length lc, .int .i64 time, .int .i64 weight, .string trace, .string stream, .slice fa fields.length fc] := rfl
  rw [hcl] at HO ⊢
  clear hcl
  go_enter Tryz.func21, Tryz.ntmps21
  go_upto_region 1 with fail
  obtain ⟨WA, hWA⟩ : ∃ W, W = w.alloc (.cells #[.int .i64 host, .int .i64 file, .int .i64 beg, .int .i64 fin, .slice la lines.length lc, .int .i64 time, .int .i64 weight, .string trace, .string stream, .slice fa fields.length fc] 35) := ⟨_, rfl⟩
  have hE : Blk WA w.heap.size 35 #[.int .i64 host, .int .i64 file, .int .i64 beg, .int .i64 fin, .slice la lines.length lc, .int .i64 time, .int .i64 weight, .string trace, .string stream, .slice fa fields.length fc] := by rw [hWA]; exact Blk.new w _ _
  have GA : Hid (w.grownBy WA none) := Lib.hid (by rw [hWA]; exact only_alloc (only_refl w none) _)
  rw [← hWA]
  have e0 := hE.cell 0; have e1 := hE.cell 1; have e2 := hE.cell 2; have e3 := hE.cell 3; have e4 := hE.cell 4; have e5 := hE.cell 5; have e6 := hE.cell 6; have e7 := hE.cell 7; have e8 := hE.cell 8; have e9 := hE.cell 9
  simp at e0 e1 e2 e3 e4 e5 e6 e7 e8 e9
  clear hWA hE
  go_wp2_with fail
  refine (HO.out _ GA.out).mono ?_
  rintro e w1 ⟨p, rfl, hp1, hp2, hg1⟩
  have G1 := Lib.hid (only_trans GA.out hg1)
  clear e0 e1 e2 e3 e4 e5 e6 e7 e8 e9
  have HP1 := Lib.hid hp1
  have HP2 := Lib.hid hp2
  clear hp1 hp2 hg1
  go_wp2_with fail
  have hgw : w1.grownBy (w1.alloc (.cells (pArr p) 69)) none := World.grownBy_alloc w1 _ none
  refine (HM.out (some ⟨w1.heap.size, 0, none⟩) p 1 _ (only_trans G1.out hgw) (pds_lit (Blk.new w1 _ _) trivial ((PD.Sub.grown HP2.out hgw (by simp)).mono (fun _ _ _ => trivial))) (by omega) HP1.out).mono ?_
  rintro e w2 ⟨AR, cR, rs, rfl, r1, r2, r3, r4, hg2⟩
  have G2 := Lib.hid (only_trans (only_trans G1.out hgw) hg2)
  have hsz : w.heap.size ≤ (w1.alloc (.cells (pArr p) 69)).heap.size := Nat.le_trans G1.out.size hgw.size
  have R3 := Lib.hid r3
  have R4 := Lib.hid (r4.mono (S' := (w.heap.size ≤ ·)) (fun b hb _ => Nat.le_trans hsz hb))
  clear r3 r4 hgw hsz hg2
  go_wp2_with fail
  go_ret
  exact ⟨AR, cR, rs, rfl, r1, r2, R3.out, R4.out, G2.out⟩
end Go.Proofs.YtfkgcighooijhaaGreatDoor

namespace Go.Proofs.YtfkgcighooijhaaGreatDoor
open Go.RowKit
set_option linter.unusedVariables false
set_option linter.unusedSimpArgs false

theorem Rd.i_at {S : Nat → Prop} {w : World} {A : Option Addr} {k : Nat} {vs : List Int} {kd : IntKind} (h : Rd S w A (vs.map (.int kd))) (hk : k < vs.length) :
    ∃ b off x, A = some ⟨b, off, none⟩ ∧ w.cell? ⟨b, off + k, none⟩ = some (.int kd x) ∧ Hid (vs[k]? = some x) := by
  obtain ⟨b, off, e, _, _, hc⟩ := h (by simp; omega)
  exact ⟨b, off, vs[k], e, hc k _ (by simp [hk]), List.getElem?_eq_getElem hk⟩
theorem take_eq_all {α : Type} {a b : List α} (hl : a.length = b.length) (h : ∀ i, i < a.length → a[i]? = b[i]?) : a = b := by
  apply List.ext_getElem? 
  intro i
  by_cases hi : i < a.length
  · exact h i hi
  · rw [List.getElem?_eq_none (by omega), List.getElem?_eq_none (by omega)]

end Go.Proofs.YtfkgcighooijhaaGreatDoor
namespace Go.Proofs.YtfkgcighooijhaaGreatDoor
open Go.RowKit
set_option linter.unusedVariables false
set_option linter.unusedSimpArgs false

set_option maxHeartbeats 1000000 in
theorem same_any {S S' : Nat → Prop} (A B : Option Addr) (a b : List ByteArray) (c d : Nat) (w : World) (ha : Rd S w A (a.map .string)) (hb : Rd S' w B (b.map .string)) (hl : a.length ≤ 10000000) (hl2 : b.length ≤ 10000000) (v : Bool) (hv : v = true ↔ a = b) :
    Calls Tryz.prog 20 #[.slice A a.length c, .slice B b.length d] w (Quiet (.bool v) w) := by
  have HA := Lib.hid ha
  have HB := Lib.hid hb
  have HV := Lib.hid hv
  clear ha hb hv
  by_cases hlen : a.length = b.length
  · have t1 : ((a.length : Int) != (b.length : Int)) = false := by simp [hlen]
    have HLEN := Lib.hid hlen
    have hle1 : a.length ≤ b.length := by omega
    have hle2 : b.length ≤ a.length := by omega
    clear hlen
    go_enter Tryz.func20, Tryz.ntmps20
    go_wp2
    go_loopw [5] (fun i wr => ∃ k : Nat, k ≤ a.length ∧ i = .int .i64 k ∧ (∀ i, i < k → a[i]? = b[i]?) ∧ ∃ q, wr = w.drewN q) (fun i _ => a.length - (intOf i).toNat)
    case atStart => exact ⟨0, Nat.zero_le _, rfl, fun i hi => absurd hi (by omega), 0, rfl⟩
    case round =>
      obtain ⟨k, hk, rfl, hall, q, rfl⟩ := hrel
      have AL := Lib.hid hall
      clear hall
      by_cases hlt : k < a.length
      · obtain ⟨b1, o1, x, rfl, hc1, hx⟩ := HA.out.str_at hlt
        obtain ⟨b2, o2, y, rfl, hc2, hy⟩ := HB.out.str_at (k := k) (by omega)
        have i1 : (k : Int) < (a.length : Int) := by omega
        have i2 : (k : Int) < (b.length : Int) := by omega
        by_cases hxy : x = y
        · have t2 : (!(x.toList == y.toList)) = false := by simp [hxy]
          have HXY := Lib.hid hxy
          clear hxy
          go_wp2
          go_quiet (fail)
          go_wp2
          go_roundw
          case rel =>
            refine ⟨k + 1, by omega, by go_num, fun i hi => ?_, _, rfl⟩
            rcases Nat.lt_or_ge i k with h | h
            · exact AL.out i h
            · obtain rfl : i = k := by omega
              rw [hx.out, hy.out, HXY.out]
          case measure => simp [intOf]; omega
        · have t2 : (!(x.toList == y.toList)) = true := by simp; exact fun h => hxy (toList_inj h)
          have hne : v = false := by
            cases hv : v with
            | false => rfl
            | true =>
              have := HV.out.1 hv
              rw [this] at hx
              rw [hx.out] at hy
              have := hy.out
              injection this with this
              exact absurd this hxy
          have HNE := Lib.hid hne
          clear hxy hne
          go_wp2
          go_quiet (fail)
          go_wp2
          go_ret
          exact ⟨by rw [HNE.out]; rfl, _, World.drewN_drewN _ _ _⟩
      · have hv1 : v = true := HV.out.2 (take_eq_all HLEN.out (fun i hi => AL.out i (by omega)))
        have HV1 := Lib.hid hv1
        clear hv1
        go_wp2
        go_ret
        exact ⟨by rw [HV1.out]; rfl, _, rfl⟩
  · have t1 : ((a.length : Int) != (b.length : Int)) = true := by simp; omega
    have hne : v = false := by
      cases hv : v with
      | false => rfl
      | true => exact absurd (congrArg List.length (HV.out.1 hv)) hlen
    have HNE := Lib.hid hne
    clear hlen hne
    go_enter Tryz.func20, Tryz.ntmps20
    go_wp2
    go_ret
    exact ⟨by rw [HNE.out]; rfl, 0, rfl⟩
end Go.Proofs.YtfkgcighooijhaaGreatDoor

namespace Go.Proofs.YtfkgcighooijhaaGreatDoor
open Go.RowKit
set_option linter.unusedVariables false
set_option linter.unusedSimpArgs false


set_option maxHeartbeats 1000000 in
theorem sameints_any {S S' : Nat → Prop} (A B : Option Addr) (a b : List Int) (c d : Nat) (w : World) (ha : Rd S w A (a.map (.int .i64))) (hb : Rd S' w B (b.map (.int .i64))) (hl : a.length ≤ 10000000) (hl2 : b.length ≤ 10000000) (v : Bool) (hv : v = true ↔ a = b) :
    Calls Tryz.prog 32 #[.slice A a.length c, .slice B b.length d] w (Quiet (.bool v) w) := by
  have HA := Lib.hid ha
  have HB := Lib.hid hb
  have HV := Lib.hid hv
  clear ha hb hv
  by_cases hlen : a.length = b.length
  · have t1 : ((a.length : Int) != (b.length : Int)) = false := by simp [hlen]
    have HLEN := Lib.hid hlen
    have hle1 : a.length ≤ b.length := by omega
    have hle2 : b.length ≤ a.length := by omega
    clear hlen
    go_enter Tryz.func32, Tryz.ntmps32
    go_wp2
    go_loopw [5] (fun i wr => ∃ k : Nat, k ≤ a.length ∧ i = .int .i64 k ∧ (∀ i, i < k → a[i]? = b[i]?) ∧ ∃ q, wr = w.drewN q) (fun i _ => a.length - (intOf i).toNat)
    case atStart => exact ⟨0, Nat.zero_le _, rfl, fun i hi => absurd hi (by omega), 0, rfl⟩
    case round =>
      obtain ⟨k, hk, rfl, hall, q, rfl⟩ := hrel
      have AL := Lib.hid hall
      clear hall
      by_cases hlt : k < a.length
      · obtain ⟨b1, o1, x, rfl, hc1, hx⟩ := HA.out.i_at hlt
        obtain ⟨b2, o2, y, rfl, hc2, hy⟩ := HB.out.i_at (k := k) (by omega)
        have i1 : (k : Int) < (a.length : Int) := by omega
        have i2 : (k : Int) < (b.length : Int) := by omega
        by_cases hxy : x = y
        · have t2 : (x != y) = false := by simp [hxy]
          have HXY := Lib.hid hxy
          clear hxy
          go_wp2
          go_quiet (fail)
          go_wp2
          go_roundw
          case rel =>
            refine ⟨k + 1, by omega, by go_num, fun i hi => ?_, _, rfl⟩
            rcases Nat.lt_or_ge i k with h | h
            · exact AL.out i h
            · obtain rfl : i = k := by omega
              rw [hx.out, hy.out, HXY.out]
          case measure => simp [intOf]; omega
        · have t2 : (x != y) = true := by simp [hxy]
          have hne : v = false := by
            cases hv : v with
            | false => rfl
            | true =>
              have := HV.out.1 hv
              rw [this] at hx
              rw [hx.out] at hy
              have := hy.out
              injection this with this
              exact absurd this hxy
          have HNE := Lib.hid hne
          clear hxy hne
          go_wp2
          go_quiet (fail)
          go_wp2
          go_ret
          exact ⟨by rw [HNE.out]; rfl, _, World.drewN_drewN _ _ _⟩
      · have hv1 : v = true := HV.out.2 (take_eq_all HLEN.out (fun i hi => AL.out i (by omega)))
        have HV1 := Lib.hid hv1
        clear hv1
        go_wp2
        go_ret
        exact ⟨by rw [HV1.out]; rfl, _, rfl⟩
  · have t1 : ((a.length : Int) != (b.length : Int)) = true := by simp; omega
    have hne : v = false := by
      cases hv : v with
      | false => rfl
      | true => exact absurd (congrArg List.length (HV.out.1 hv)) hlen
    have HNE := Lib.hid hne
    clear hlen hne
    go_enter Tryz.func32, Tryz.ntmps32
    go_wp2
    go_ret
    exact ⟨by rw [HNE.out]; rfl, 0, rfl⟩
end Go.Proofs.YtfkgcighooijhaaGreatDoor

namespace Go.Proofs.YtfkgcighooijhaaGreatDoor
open Go.RowKit
set_option linter.unusedVariables false
set_option linter.unusedSimpArgs false

theorem map_at2 {α β γ : Type} {f : α → γ} {g : β → γ} {xs : List α} {ys : List β} (h : xs.map f = ys.map g) {i : Nat} (hi : i < xs.length) : ∃ x y, xs[i]? = some x ∧ ys[i]? = some y ∧ f x = g y := by
  have hl : xs.length = ys.length := by simpa using congrArg List.length h
  refine ⟨xs[i], ys[i]'(by omega), List.getElem?_eq_getElem hi, List.getElem?_eq_getElem (by omega), ?_⟩
  have := congrArg (fun l => l[i]?) h
  simp only [List.getElem?_map, List.getElem?_eq_getElem hi, List.getElem?_eq_getElem (show i < ys.length by omega), Option.map_some] at this
  exact Option.some.inj this
def OkS (p : PD) : Prop := p.cs.length ≤ 1000 ∧ p.key.l.length ≤ 100000 ∧ ∀ c ∈ p.cs, c.v.l.length ≤ 100000
/-- two partials that hold the same -/
theorem pl_eq {x y : PD} (h : x.pl = y.pl) : x.key.l = y.key.l ∧ x.cs.length = y.cs.length ∧ x.cs.map (·.t) = y.cs.map (·.t) ∧ x.cs.map CM.pl = y.cs.map CM.pl := by
  have h1 : x.key.l = y.key.l := congrArg PP.key h
  have h2 : x.cs.map CM.pl = y.cs.map CM.pl := congrArg PP.cs h
  refine ⟨h1, by simpa using congrArg List.length h2, ?_, h2⟩
  have := congrArg (List.map CD.t) h2
  rw [List.map_map, List.map_map] at this
  exact this
theorem seen_at {S : Nat → Prop} {w : World} {A : Option Addr} {cs : List CM} (h : Rd S w A (sOf cs)) {i : Nat} {c : CM} (hc : cs[i]? = some c) : ∃ b o, A = some ⟨b, o, none⟩ ∧ b < w.heap.size ∧ w.cell? ⟨b, o + i, none⟩ = some (.bool c.s) := by
  obtain ⟨hi, -⟩ := List.getElem?_eq_some_iff.1 hc
  obtain ⟨b, o, rfl, -, hlt, hr⟩ := h (by rw [sOf_len]; omega)
  exact ⟨b, o, rfl, hlt, hr i _ (by unfold sOf; rw [List.getElem?_map, hc]; rfl)⟩
theorem vals_at {S : Nat → Prop} {w : World} {A : Option Addr} {cs : List CM} (h : Rd S w A (vOf cs)) {i : Nat} {c : CM} (hc : cs[i]? = some c) : ∃ b o, A = some ⟨b, o, none⟩ ∧ b < w.heap.size ∧ w.cell? ⟨b, o + i, none⟩ = some (.slice c.v.a c.v.l.length c.v.c) := by
  obtain ⟨hi, -⟩ := List.getElem?_eq_some_iff.1 hc
  obtain ⟨b, o, rfl, -, hlt, hr⟩ := h (by unfold vOf; rw [List.length_map]; omega)
  exact ⟨b, o, rfl, hlt, hr i _ (by unfold vOf; rw [List.getElem?_map, hc]; rfl)⟩
theorem load_at4 (w : World) (b o : Nat) (x y z u : Value) (h0 : w.cell? ⟨b, o, none⟩ = some x) (h1 : w.cell? ⟨b, o + 1, none⟩ = some y) (h2 : w.cell? ⟨b, o + 2, none⟩ = some z) (h3 : w.cell? ⟨b, o + 3, none⟩ = some u) (hx : x.oneCell' = true := by rfl) (hy : y.oneCell' = true := by rfl) (hz : z.oneCell' = true := by rfl) (hu : u.oneCell' = true := by rfl) :
    (Instr.loadAt 69 (.pointer (some ⟨b, o, none⟩))).run Tryz.prog w = .ok (.agg #[x, y, z, u]) w := by
  have hu := Tryz.underlying69
  simp [go_sem, h0, h1, h2, h3]
theorem store_part4 (w : World) (b : Nat) (A0 A1 A2 A3 : Option Addr) (n0 n1 n2 n3 c0 c1 c2 c3 : Nat) {t : TypeId} {v0 v1 v2 v3 : Value} (h : Blk w b t #[v0, v1, v2, v3]) :
    (Instr.storeAt 69 (.pointer (some ⟨b, 0, none⟩)) (.agg #[.slice A0 n0 c0, .slice A1 n1 c1, .slice A2 n2 c2, .slice A3 n3 c3])).run Tryz.prog w = .ok () (set4 w b (.slice A0 n0 c0) (.slice A1 n1 c1) (.slice A2 n2 c2) (.slice A3 n3 c3)) := by
  have c0 := h.cell 0; have c1 := h.cell 1; have c2 := h.cell 2; have c3 := h.cell 3
  have f0 := h.frozen 0; have f1 := h.frozen 1; have f2 := h.frozen 2; have f3 := h.frozen 3
  simp at c0 c1 c2 c3
  have hu := Tryz.underlying69
  simp [go_sem, c0, c1, c2, c3, f0, f1, f2, f3, set4]
set_option maxHeartbeats 16000000 in
set_option maxRecDepth 100000 in
theorem rsame_any {S T : Nat → Prop} (A : Option Addr) (ps : List PD) (cA : Nat) (B : Option Addr) (qs : List PD) (cB : Nat) (w0 : World) (hA : PDs S w0 A ps) (hB : PDs T w0 B qs) (he : ps.map PD.pl = qs.map PD.pl) (hl : ps.length ≤ 100000) (hok : ∀ p ∈ ps, OkS p) :
    Calls Tryz.prog 12 #[.slice A ps.length cA, .slice B qs.length cB] w0 (fun e w' => e = .returned (.bool true) ∧ w0.grownBy w' none) := by
  have hlq : qs.length = ps.length := by simpa using (congrArg List.length he).symm
  rw [hlq]
  have HA := Lib.hid hA
  have HB := Lib.hid hB
  have HE := Lib.hid he
  have HOK := Lib.hid hok
  have HLQ := Lib.hid hlq
  clear hA hB he hok hlq
  go_enter Tryz.func12, Tryz.ntmps12
  go_wp2_with fail
  go_loopw [5] (fun v1 wr => ∃ k : Nat, v1 = .int .i64 k ∧ k ≤ ps.length ∧ w0.grownBy wr none) (fun v1 _ => ps.length - (intOf v1).toNat)
  case atStart => exact ⟨0, rfl, Nat.zero_le _, only_refl _ _⟩
  case round =>
    obtain ⟨k, rfl, hk, hG⟩ := hrel
    obtain ⟨wo, rfl⟩ : ∃ w, w = wr := ⟨_, rfl⟩
    have G := Lib.hid hG
    clear hG
    by_cases hlt : k < ps.length
    · obtain ⟨x, y, hx, hy, hxy⟩ := map_at2 HE.out hlt
      obtain ⟨bA, oA, eA, hbA, a0, a1, a2, a3⟩ := pd_in (HA.out.1.grown G.out (by simp)) hx
      obtain ⟨bB, oB, eB, hbB, b0, b1, b2, b3⟩ := pd_in (HB.out.1.grown G.out (by simp)) hy
      subst eA eB
      have xs := (HA.out.2 x (List.mem_of_getElem? hx)).grown G.out (by simp)
      have ys := (HB.out.2 y (List.mem_of_getElem? hy)).grown G.out (by simp)
      have xo := HOK.out x (List.mem_of_getElem? hx)
      obtain ⟨p1, p2, p3, p4⟩ := pl_eq hxy
      have KK : Hid (∀ w', wo.grownBy w' none → Calls Tryz.prog 20 #[.slice x.key.a x.key.l.length x.key.c, .slice y.key.a x.key.l.length y.key.c] w' (Quiet (.bool true) w')) := Lib.hid (fun w' hg => by
        have h0 := same_any x.key.a y.key.a x.key.l y.key.l x.key.c y.key.c w' (xs.1.1.grown hg (by simp)) (ys.1.1.grown hg (by simp)) (by have := xo.2.1; omega) (by rw [← p1]; have := xo.2.1; omega) true ⟨fun _ => p1, fun _ => rfl⟩
        rw [← p1] at h0
        exact h0)
      have KT : Hid (∀ w', wo.grownBy w' none → Calls Tryz.prog 32 #[.slice x.ta x.cs.length x.tc, .slice y.ta x.cs.length y.tc] w' (Quiet (.bool true) w')) := Lib.hid (fun w' hg => by
        have r1 := xs.2.1.grown hg (by simp)
        have r2 := ys.2.1.grown hg (by simp)
        have h0 := sameints_any (S := S) (S' := T) x.ta y.ta (x.cs.map (·.t)) (y.cs.map (·.t)) x.tc y.tc w' (by rw [List.map_map]; exact r1) (by rw [List.map_map]; exact r2) (by rw [List.length_map]; have := xo.1; omega) (by rw [List.length_map]; have := xo.1; omega) true ⟨fun _ => p3, fun _ => rfl⟩
        rw [List.length_map, List.length_map, ← p2] at h0
        exact h0)
      have XS := Lib.hid xs.2.2.1
      have YS := Lib.hid ys.2.2.1
      have XV := Lib.hid xs.2.2.2.1
      have YV := Lib.hid ys.2.2.2.1
      have XI := Lib.hid xs.2.2.2.2.1
      have YI := Lib.hid ys.2.2.2.2.1
      have PE := Lib.hid p4
      have XO := Lib.hid xo.2.2
      have hn : x.cs.length ≤ 1000 := xo.1
      rw [← p2] at b1 b2 b3
      rw [← p1] at b0
      have HN2 := Lib.hid p2
      clear xs ys xo p1 p2 p3 p4 hxy hx hy
      obtain ⟨xc, hxc⟩ : ∃ l, l = x.cs := ⟨_, rfl⟩
      obtain ⟨yc, hyc⟩ : ∃ l, l = y.cs := ⟨_, rfl⟩
      rw [← hxc] at KT XS XV XI PE XO hn HN2 a1 a2 a3 b1 b2 b3
      rw [← hyc] at YS YV YI PE HN2
      obtain ⟨n, hnd⟩ : ∃ n, n = xc.length := ⟨_, rfl⟩
      rw [← hnd] at KT hn a1 a2 a3 b1 b2 b3
      obtain ⟨kl, hkl⟩ : ∃ l, l = x.key.l := ⟨_, rfl⟩
      rw [← hkl] at KK a0 b0
      obtain ⟨xka, h1⟩ : ∃ l, l = x.key.a := ⟨_, rfl⟩
      obtain ⟨xkc, h2⟩ : ∃ l, l = x.key.c := ⟨_, rfl⟩
      obtain ⟨yka, h3⟩ : ∃ l, l = y.key.a := ⟨_, rfl⟩
      obtain ⟨ykc, h4⟩ : ∃ l, l = y.key.c := ⟨_, rfl⟩
      rw [← h1, ← h2] at KK a0
      rw [← h3, ← h4] at KK b0
      obtain ⟨xta, i1⟩ : ∃ l, l = x.ta := ⟨_, rfl⟩
      obtain ⟨xtc, i2⟩ : ∃ l, l = x.tc := ⟨_, rfl⟩
      obtain ⟨yta, i3⟩ : ∃ l, l = y.ta := ⟨_, rfl⟩
      obtain ⟨ytc, i4⟩ : ∃ l, l = y.tc := ⟨_, rfl⟩
      rw [← i1, ← i2] at KT a1
      rw [← i3, ← i4] at KT b1
      obtain ⟨xsa, g1⟩ : ∃ l, l = x.sa := ⟨_, rfl⟩
      obtain ⟨xsc, g2⟩ : ∃ l, l = x.sc := ⟨_, rfl⟩
      obtain ⟨ysa, g3⟩ : ∃ l, l = y.sa := ⟨_, rfl⟩
      obtain ⟨ysc, g4⟩ : ∃ l, l = y.sc := ⟨_, rfl⟩
      rw [← g1] at XS a2
      rw [← g2] at a2
      rw [← g3] at YS b2
      rw [← g4] at b2
      obtain ⟨xva, f1⟩ : ∃ l, l = x.va := ⟨_, rfl⟩
      obtain ⟨xvc, f2⟩ : ∃ l, l = x.vc := ⟨_, rfl⟩
      obtain ⟨yva, f3⟩ : ∃ l, l = y.va := ⟨_, rfl⟩
      obtain ⟨yvc, f4⟩ : ∃ l, l = y.vc := ⟨_, rfl⟩
      rw [← f1] at XV a3
      rw [← f2] at a3
      rw [← f3] at YV b3
      rw [← f4] at b3
      have HND := Lib.hid hnd
      have j1 : (k : Int) < (ps.length : Int) := by omega
      clear hxc hyc hnd hkl h1 h2 h3 h4 i1 i2 i3 i4 g1 g2 g3 g4 f1 f2 f3 f4
      go_upto_region 6 with fail
      refine wp_region_gen 11 (JC [some (.slice (some ⟨bA, oA, none⟩) (ps.length) (cA)), some (.int .i64 (k)), some (.pointer (some ⟨bA, oA + k * 4, none⟩)), some (.agg #[.slice xka kl.length xkc, .slice xta n xtc, .slice xsa n xsc, .slice xva n xvc]), some (.slice (some ⟨bB, oB, none⟩) (ps.length) (cB)), some (.int .i64 (k)), some (.pointer (some ⟨bB, oB + k * 4, none⟩)), some (.agg #[.slice yka kl.length ykc, .slice yta n ytc, .slice ysa n ysc, .slice yva n yvc]), none, none, none] (fun D u w => wo.grownBy w none ∧ (D 8 = true → ∃ b, u 8 = .pointer (some ⟨b, 0, none⟩) ∧ wo.heap.size ≤ b ∧ (D 10 = false → Blk w b 69 #[.slice none 0 0, .slice none 0 0, .slice none 0 0, .slice none 0 0]) ∧ (D 10 = true → Blk w b 69 #[.slice xka kl.length xkc, .slice xta n xtc, .slice xsa n xsc, .slice xva n xvc])) ∧ (D 9 = true → ∃ b, u 9 = .pointer (some ⟨b, 0, none⟩) ∧ wo.heap.size ≤ b ∧ Blk w b 69 #[.slice none 0 0, .slice none 0 0, .slice none 0 0, .slice none 0 0]) ∧ (D 8 = true → D 9 = true → u 8 ≠ u 9) ∧ (D 10 = true → D 8 = true))) (by kernel_rfl) (by kernel_rfl) ?_ ?_ ?_
      · intro u
        exact ⟨(fun j c _ h => by cases h), only_drew (only_refl _ _), (fun h => by cases h), (fun h => by cases h), (fun h => by cases h), (fun h => by cases h)⟩
      · intro AA hA
        have hasz : AA.tmps.size = 98 := by rw [hA]; kernel_rfl
        have ea0 : AA.eval (.tmp 0) = .slice (some ⟨bA, oA, none⟩) (ps.length) (cA) := by rw [hA]; kernel_rfl
        have ea1 : AA.eval (.tmp 1) = .slice (some ⟨bB, oB, none⟩) (ps.length) (cB) := by rw [hA]; kernel_rfl
        have ea5 : AA.eval (.tmp 5) = .int .i64 (k) := by rw [hA]; kernel_rfl
        clear hA
        simp only [List.take_succ_cons, List.take_zero]
        refine .cons ?_ (.cons ?_ (.cons ?_ (.cons ?_ (.cons ?_ (.cons ?_ (.cons ?_ (.cons ?_ (.cons ?_ (.cons ?_ (.cons ?_ (.nil)))))))))))
        · exact gd_gen (by kernel_rfl) (Want.none_ rfl) rfl (fun D u w v h => by simpa [updB, upd] using h) (fun D u ρ w kn => by
            have e0 := kn.own 0 (c := .slice (some ⟨bA, oA, none⟩) (ps.length) (cA)) (by kernel_rfl) ea0
            simp [execOp, kn.rho.con, e0, go_sem])
        · exact gd_gen (by kernel_rfl) (Want.none_ rfl) rfl (fun D u w v h => by simpa [updB, upd] using h) (fun D u ρ w kn => by
            have e0 := kn.own 5 (c := .int .i64 (k)) (by kernel_rfl) ea5
            simp [execOp, kn.rho.con, e0, go_sem])
        · exact gd_gen (by kernel_rfl) (Want.none_ rfl) rfl (fun D u w v h => by simpa [updB, upd] using h) (fun D u ρ w kn => by
            have e0 := kn.con 0 21 (c := .slice (some ⟨bA, oA, none⟩) (ps.length) (cA)) (by kernel_rfl) (by omega) (by kernel_rfl) rfl
            have e1 := kn.con 1 22 (c := .int .i64 (k)) (by kernel_rfl) (by omega) (by kernel_rfl) rfl
            simp [execOp, kn.rho.con, e0, e1, go_sem, j1])
        · exact gd_gen (by kernel_rfl) (Want.none_ rfl) rfl (fun D u w v h => by simpa [updB, upd] using h) (fun D u ρ w kn => by
            have e0 := kn.con 2 23 (c := .pointer (some ⟨bA, oA + k * 4, none⟩)) (by kernel_rfl) (by omega) (by kernel_rfl) rfl
            exact run_load ρ w rfl e0 (load_at4 w bA (oA + k * 4) (.slice xka kl.length xkc) (.slice xta n xtc) (.slice xsa n xsc) (.slice xva n xvc) ((cellG kn.ext.1 hbA).trans a0) ((cellG kn.ext.1 hbA).trans a1) ((cellG kn.ext.1 hbA).trans a2) ((cellG kn.ext.1 hbA).trans a3)))
        · exact gd_gen (by kernel_rfl) (Want.none_ rfl) rfl (fun D u w v h => by simpa [updB, upd] using h) (fun D u ρ w kn => by
            have e0 := kn.own 1 (c := .slice (some ⟨bB, oB, none⟩) (ps.length) (cB)) (by kernel_rfl) ea1
            simp [execOp, kn.rho.con, e0, go_sem])
        · exact gd_gen (by kernel_rfl) (Want.none_ rfl) rfl (fun D u w v h => by simpa [updB, upd] using h) (fun D u ρ w kn => by
            have e0 := kn.own 5 (c := .int .i64 (k)) (by kernel_rfl) ea5
            simp [execOp, kn.rho.con, e0, go_sem])
        · exact gd_gen (by kernel_rfl) (Want.none_ rfl) rfl (fun D u w v h => by simpa [updB, upd] using h) (fun D u ρ w kn => by
            have e0 := kn.con 4 25 (c := .slice (some ⟨bB, oB, none⟩) (ps.length) (cB)) (by kernel_rfl) (by omega) (by kernel_rfl) rfl
            have e1 := kn.con 5 26 (c := .int .i64 (k)) (by kernel_rfl) (by omega) (by kernel_rfl) rfl
            simp [execOp, kn.rho.con, e0, e1, go_sem, j1])
        · exact gd_gen (by kernel_rfl) (Want.none_ rfl) rfl (fun D u w v h => by simpa [updB, upd] using h) (fun D u ρ w kn => by
            have e0 := kn.con 6 27 (c := .pointer (some ⟨bB, oB + k * 4, none⟩)) (by kernel_rfl) (by omega) (by kernel_rfl) rfl
            exact run_load ρ w rfl e0 (load_at4 w bB (oB + k * 4) (.slice yka kl.length ykc) (.slice yta n ytc) (.slice ysa n ysc) (.slice yva n yvc) ((cellG kn.ext.1 hbB).trans b0) ((cellG kn.ext.1 hbB).trans b1) ((cellG kn.ext.1 hbB).trans b2) ((cellG kn.ext.1 hbB).trans b3)))
        · refine gd_eff (by kernel_rfl) (Want.none_ rfl) (fun D u ρ w kn hD => ?_)
          obtain ⟨x1, x2, x3, x4, x5⟩ := kn.ext
          have hg : w.grownBy (w.alloc (.cells #[.slice none 0 0, .slice none 0 0, .slice none 0 0, .slice none 0 0] 69)) none := World.grownBy_alloc w _ none
          have d10 : D 10 = false := by cases h : D 10 with | false => rfl | true => rw [x5 h] at hD; cases hD
          exact ⟨.pointer (some ⟨w.heap.size, 0, none⟩), w.alloc (.cells #[.slice none 0 0, .slice none 0 0, .slice none 0 0, .slice none 0 0] 69), alloc_part ρ w, (fun c h => by injection h with h; cases h), only_trans x1 hg, fun _ => ⟨w.heap.size, by rw [upd_at], x1.size, fun _ => Blk.new _ _ _, (fun h => by rw [updB_ne D (by omega)] at h; rw [d10] at h; cases h)⟩, fun h => by rw [updB_ne D (by omega)] at h; rw [upd_ne u _ (by omega)]; obtain ⟨b, y1, y2, y3⟩ := x3 h; exact ⟨b, y1, y2, y3.grown hg (by simp)⟩, fun h8 h9 => by rw [updB_ne D (by omega)] at h9; rw [upd_at, upd_ne u _ (by omega)]; obtain ⟨b, y1, y2, y3⟩ := x3 h9; have hbl := y3.lt; rw [y1]; intro e; injection e with e; injection e with e; injection e with e; have := hbl; omega, fun _ => updB_at D 8⟩
        · refine gd_eff (by kernel_rfl) (Want.none_ rfl) (fun D u ρ w kn hD => ?_)
          obtain ⟨x1, x2, x3, x4, x5⟩ := kn.ext
          have hg : w.grownBy (w.alloc (.cells #[.slice none 0 0, .slice none 0 0, .slice none 0 0, .slice none 0 0] 69)) none := World.grownBy_alloc w _ none
          exact ⟨.pointer (some ⟨w.heap.size, 0, none⟩), w.alloc (.cells #[.slice none 0 0, .slice none 0 0, .slice none 0 0, .slice none 0 0] 69), alloc_part ρ w, (fun c h => by injection h with h; cases h), only_trans x1 hg, fun h => by rw [updB_ne D (by omega)] at h; rw [updB_ne D (by omega)]; rw [upd_ne u _ (by omega)]; obtain ⟨b, y1, y2, y3, y4⟩ := x2 h; exact ⟨b, y1, y2, fun h => (y3 h).grown hg (by simp), fun h => (y4 h).grown hg (by simp)⟩, fun _ => ⟨w.heap.size, by rw [upd_at], x1.size, Blk.new _ _ _⟩, fun h8 h9 => by rw [updB_ne D (by omega)] at h8; rw [upd_at, upd_ne u _ (by omega)]; obtain ⟨b, y1, y2, y3, y4⟩ := x2 h8; have hbl : b < w.heap.size := (by cases h10 : D 10 with | false => exact (y3 h10).lt | true => exact (y4 h10).lt); rw [y1]; intro e; injection e with e; injection e with e; injection e with e; have := hbl; omega, fun h => by rw [updB_ne D (by omega)] at h; rw [updB_ne D (by omega)]; exact x5 h⟩
        · refine gd_skip (by kernel_rfl) (Want.none_ rfl) rfl (fun D u ρ w kn hD => ?_)
          have e0 := kn.slot 8 6 (by kernel_rfl) (by omega)
          have e1 := kn.con 3 24 (c := .agg #[.slice xka kl.length xkc, .slice xta n xtc, .slice xsa n xsc, .slice xva n xvc]) (by kernel_rfl) (by omega) (by kernel_rfl) rfl
          have d8 := kn.dep 8 (by kernel_rfl)
          obtain ⟨x1, x2, x3, x4, x5⟩ := kn.ext
          obtain ⟨b, y1, y2, y3, -⟩ := x2 d8
          rw [y1] at e0
          have hB := y3 hD
          exact ⟨set4 w b (.slice xka kl.length xkc) (.slice xta n xtc) (.slice xsa n xsc) (.slice xva n xvc), by simp only [execOp, e0, e1, Sem.run_bind, store_part4 w b _ _ _ _ _ _ _ _ _ _ _ _ hB, Result.andThen_ok, Sem.run_pure], only_fresh x1 set4_only y2, fun h => ⟨b, by rw [upd_ne u _ (by omega)]; exact y1, y2, (fun h => by rw [updB_at] at h; cases h), fun _ => set4_blk hB⟩, fun h => by rw [updB_ne D (by omega)] at h; rw [upd_ne u _ (by omega)]; obtain ⟨q, z1, z2, z3⟩ := x3 h; have hne := x4 d8 h; exact ⟨q, z1, z2, z3.grown set4_only (by intro e; injection e with e; exact hne (by rw [y1, z1, e]))⟩, fun h8 h9 => by rw [updB_ne D (by omega)] at h8 h9; rw [upd_ne u _ (by omega), upd_ne u _ (by omega)]; exact x4 h8 h9, fun _ => by rw [updB_ne D (by omega)]; exact d8⟩
      · intro D u w3 hJ hD
        obtain ⟨hc, x1, x2, x3, x4, x5⟩ := hJ
        obtain ⟨pb, e8, hpb, -, hPB'⟩ := x2 (hD 8 (by omega))
        have hPB := hPB' (hD 10 (by omega))
        obtain ⟨qb, e9, hqb, hQB⟩ := x3 (hD 9 (by omega))
        have hne := x4 (hD 8 (by omega)) (hD 9 (by omega))
        have e7 := hc 7 _ rfl (hD 7 (by omega))
        rw [e8, e9] at hne
        have hpq : pb ≠ qb := fun e => hne (by rw [e])
        simp only [List.take_succ_cons, List.take_zero, List.drop_succ_cons, List.drop_zero, putAll]
        rw [e7, e8, e9]
        have c0 := hQB.cell 0; have c1 := hQB.cell 1; have c2 := hQB.cell 2; have c3 := hQB.cell 3
        have f0 := hQB.frozen 0; have f1 := hQB.frozen 1; have f2 := hQB.frozen 2; have f3 := hQB.frozen 3
        simp at c0 c1 c2 c3
        obtain ⟨W4, hW4⟩ : ∃ W, W = (((w3.setCell ⟨qb, 0, none⟩ (.slice yka kl.length ykc)).setCell ⟨qb, 1, none⟩ (.slice yta n ytc)).setCell ⟨qb, 2, none⟩ (.slice ysa n ysc)).setCell ⟨qb, 3, none⟩ (.slice yva n yvc) := ⟨_, rfl⟩
        have hS : W4 = set4 w3 qb (.slice yka kl.length ykc) (.slice yta n ytc) (.slice ysa n ysc) (.slice yva n yvc) := hW4
        have BQ : Hid (Blk W4 qb 69 #[.slice yka kl.length ykc, .slice yta n ytc, .slice ysa n ysc, .slice yva n yvc]) := Lib.hid (by rw [hS]; exact set4_blk hQB)
        have BP : Hid (Blk W4 pb 69 #[.slice xka kl.length xkc, .slice xta n xtc, .slice xsa n xsc, .slice xva n xvc]) := Lib.hid (by rw [hS]; exact hPB.grown set4_only (by intro e; injection e with e; exact hpq e))
        have G4 : Hid (wo.grownBy W4 none) := Lib.hid (by rw [hS]; exact only_fresh x1 set4_only hqb)
        go_upto_region 7 with fail
        rw [← hW4]
        clear hc hD x1 x2 x3 x4 x5 e7 e8 e9 hPB hPB' hQB hne c0 c1 c2 c3 f0 f1 f2 f3 hS hW4 a0 a1 a2 a3 b0 b1 b2 b3
        have p0 := BP.out.cell 0; have p1 := BP.out.cell 1; have p2 := BP.out.cell 2; have p3 := BP.out.cell 3
        have q0 := BQ.out.cell 0; have q1 := BQ.out.cell 1; have q2 := BQ.out.cell 2; have q3 := BQ.out.cell 3
        simp at p0 p1 p2 p3 q0 q1 q2 q3
        go_wp2_with fail
        refine (KK.out _ G4.out).mono ?_
        rintro e w5 ⟨rfl, hq5⟩
        have G5 : Hid (W4.grownBy w5 none) := Lib.hid (by obtain ⟨nq, rfl⟩ := hq5; exact only_drewN (only_refl W4 none) nq)
        clear p0 p1 p2 p3 q0 q1 q2 q3 hq5
        have BP5 := Lib.hid (BP.out.grown G5.out (by simp))
        have BQ5 := Lib.hid (BQ.out.grown G5.out (by simp))
        have p0 := BP5.out.cell 0; have p1 := BP5.out.cell 1; have p2 := BP5.out.cell 2; have p3 := BP5.out.cell 3
        have q0 := BQ5.out.cell 0; have q1 := BQ5.out.cell 1; have q2 := BQ5.out.cell 2; have q3 := BQ5.out.cell 3
        simp at p0 p1 p2 p3 q0 q1 q2 q3
        go_wp2_with fail
        refine (KT.out _ (only_trans G4.out G5.out)).mono ?_
        rintro e w6 ⟨rfl, hq6⟩
        have G6 : Hid (w5.grownBy w6 none) := Lib.hid (by obtain ⟨nq, rfl⟩ := hq6; exact only_drewN (only_refl w5 none) nq)
        clear p0 p1 p2 p3 q0 q1 q2 q3 hq6
        have BP6 := Lib.hid (BP5.out.grown G6.out (by simp))
        have BQ6 := Lib.hid (BQ5.out.grown G6.out (by simp))
        have GA := Lib.hid (only_trans G4.out (only_trans G5.out G6.out))
        clear KK KT BP BQ BP5 BQ5 G4 G5 G6
        have p0 := BP6.out.cell 0; have p1 := BP6.out.cell 1; have p2 := BP6.out.cell 2; have p3 := BP6.out.cell 3
        have q0 := BQ6.out.cell 0; have q1 := BQ6.out.cell 1; have q2 := BQ6.out.cell 2; have q3 := BQ6.out.cell 3
        simp at p0 p1 p2 p3 q0 q1 q2 q3
        go_wp2_with fail
        go_loopw [8] (fun v wr => ∃ j : Nat, v = .int .i64 j ∧ j ≤ n ∧ w6.grownBy wr none) (fun v _ => n - (intOf v).toNat)
        case atStart => exact ⟨0, rfl, Nat.zero_le _, only_refl _ _⟩
        case round =>
          obtain ⟨j, rfl, hj, hG7⟩ := hrel
          obtain ⟨w7, rfl⟩ : ∃ w, w = wr := ⟨_, rfl⟩
          have G7 := Lib.hid hG7
          have G7o := Lib.hid (only_trans GA.out hG7)
          have BP7 := Lib.hid (BP6.out.grown hG7 (by simp))
          have BQ7 := Lib.hid (BQ6.out.grown hG7 (by simp))
          clear hG7 p0 p1 p2 p3 q0 q1 q2 q3
          have p0 := BP7.out.cell 0; have p1 := BP7.out.cell 1; have p2 := BP7.out.cell 2; have p3 := BP7.out.cell 3
          have q0 := BQ7.out.cell 0; have q1 := BQ7.out.cell 1; have q2 := BQ7.out.cell 2; have q3 := BQ7.out.cell 3
          simp at p0 p1 p2 p3 q0 q1 q2 q3
          have hpl := BP7.out.lt
          have hql := BQ7.out.lt
          by_cases hjn : j < n
          · obtain ⟨c, d, hc, hd, hcd⟩ := map_at2 PE.out (i := j) (by rw [← HND.out]; exact hjn)
            obtain ⟨sb, so, hxsa, hsb, s0⟩ := seen_at (XS.out.grown G7o.out (by simp)) hc
            obtain ⟨tb, tt, hysa, htb, t0⟩ := seen_at (YS.out.grown G7o.out (by simp)) hd
            subst hxsa hysa
            have hs : c.s = d.s := congrArg CD.s hcd
            rw [← hs] at t0
            obtain ⟨sv, hsv⟩ : ∃ s, s = c.s := ⟨_, rfl⟩
            rw [← hsv] at s0 t0
            have i1 : (j : Int) < (n : Int) := by omega
            clear hc hd hcd hs hsv
            go_upto_region 12 with fail
            refine wp_region_gen 10 (JC [some (.pointer (some ⟨pb, 2, none⟩)), some (.slice (some ⟨sb, so, none⟩) (n) (xsc)), some (.int .i64 (j)), some (.pointer (some ⟨sb, so + j, none⟩)), some (.bool sv), some (.pointer (some ⟨qb, 2, none⟩)), some (.slice (some ⟨tb, tt, none⟩) (n) (ysc)), some (.int .i64 (j)), some (.pointer (some ⟨tb, tt + j, none⟩)), some (.bool sv)] (fun D u w => w7.grownBy w none)) (by kernel_rfl) (by kernel_rfl) ?_ ?_ ?_
            · intro u
              exact ⟨(fun j c _ h => by cases h), only_drew (only_refl _ _)⟩
            · intro AA hA
              have hasz : AA.tmps.size = 98 := by rw [hA]; kernel_rfl
              have ea6 : AA.eval (.tmp 6) = .pointer (some ⟨pb, 0, none⟩) := by rw [hA]; kernel_rfl
              have ea7 : AA.eval (.tmp 7) = .pointer (some ⟨qb, 0, none⟩) := by rw [hA]; kernel_rfl
              have ea8 : AA.eval (.tmp 8) = .int .i64 (j) := by rw [hA]; kernel_rfl
              clear hA
              simp only [List.take_succ_cons, List.take_zero]
              refine .cons ?_ (.cons ?_ (.cons ?_ (.cons ?_ (.cons ?_ (.cons ?_ (.cons ?_ (.cons ?_ (.cons ?_ (.cons ?_ (.nil))))))))))
              · exact gd_gen (by kernel_rfl) (Want.none_ rfl) rfl (fun D u w v h => h) (fun D u ρ w kn => by
                  have e0 := kn.own 6 (c := .pointer (some ⟨pb, 0, none⟩)) (by kernel_rfl) ea6
                  simp [execOp, kn.rho.con, e0, go_sem])
              · exact gd_gen (by kernel_rfl) (Want.none_ rfl) rfl (fun D u w v h => h) (fun D u ρ w kn => by
                  have e0 := kn.con 0 68 (c := .pointer (some ⟨pb, 2, none⟩)) (by kernel_rfl) (by omega) (by kernel_rfl) rfl
                  have f0 := (cellG kn.ext hpl).trans p2
                  simp [execOp, kn.rho.con, e0, f0, go_sem])
              · exact gd_gen (by kernel_rfl) (Want.none_ rfl) rfl (fun D u w v h => h) (fun D u ρ w kn => by
                  have e0 := kn.own 8 (c := .int .i64 (j)) (by kernel_rfl) ea8
                  simp [execOp, kn.rho.con, e0, go_sem])
              · exact gd_gen (by kernel_rfl) (Want.none_ rfl) rfl (fun D u w v h => h) (fun D u ρ w kn => by
                  have e0 := kn.con 1 69 (c := .slice (some ⟨sb, so, none⟩) (n) (xsc)) (by kernel_rfl) (by omega) (by kernel_rfl) rfl
                  have e1 := kn.con 2 70 (c := .int .i64 (j)) (by kernel_rfl) (by omega) (by kernel_rfl) rfl
                  simp [execOp, kn.rho.con, e0, e1, go_sem, i1])
              · exact gd_gen (by kernel_rfl) (Want.none_ rfl) rfl (fun D u w v h => h) (fun D u ρ w kn => by
                  have e0 := kn.con 3 71 (c := .pointer (some ⟨sb, so + j, none⟩)) (by kernel_rfl) (by omega) (by kernel_rfl) rfl
                  have f0 := (cellG kn.ext hsb).trans s0
                  simp [execOp, kn.rho.con, e0, f0, go_sem])
              · exact gd_gen (by kernel_rfl) (Want.none_ rfl) rfl (fun D u w v h => h) (fun D u ρ w kn => by
                  have e0 := kn.own 7 (c := .pointer (some ⟨qb, 0, none⟩)) (by kernel_rfl) ea7
                  simp [execOp, kn.rho.con, e0, go_sem])
              · exact gd_gen (by kernel_rfl) (Want.none_ rfl) rfl (fun D u w v h => h) (fun D u ρ w kn => by
                  have e0 := kn.con 5 73 (c := .pointer (some ⟨qb, 2, none⟩)) (by kernel_rfl) (by omega) (by kernel_rfl) rfl
                  have f0 := (cellG kn.ext hql).trans q2
                  simp [execOp, kn.rho.con, e0, f0, go_sem])
              · exact gd_gen (by kernel_rfl) (Want.none_ rfl) rfl (fun D u w v h => h) (fun D u ρ w kn => by
                  have e0 := kn.own 8 (c := .int .i64 (j)) (by kernel_rfl) ea8
                  simp [execOp, kn.rho.con, e0, go_sem])
              · exact gd_gen (by kernel_rfl) (Want.none_ rfl) rfl (fun D u w v h => h) (fun D u ρ w kn => by
                  have e0 := kn.con 6 74 (c := .slice (some ⟨tb, tt, none⟩) (n) (ysc)) (by kernel_rfl) (by omega) (by kernel_rfl) rfl
                  have e1 := kn.con 7 75 (c := .int .i64 (j)) (by kernel_rfl) (by omega) (by kernel_rfl) rfl
                  simp [execOp, kn.rho.con, e0, e1, go_sem, i1])
              · exact gd_gen (by kernel_rfl) (Want.none_ rfl) rfl (fun D u w v h => h) (fun D u ρ w kn => by
                  have e0 := kn.con 8 76 (c := .pointer (some ⟨tb, tt + j, none⟩)) (by kernel_rfl) (by omega) (by kernel_rfl) rfl
                  have f0 := (cellG kn.ext htb).trans t0
                  simp [execOp, kn.rho.con, e0, f0, go_sem])
            · intro D u w8 hJ hD
              obtain ⟨hc, x1⟩ := hJ
              have e4 := hc 4 _ rfl (hD 4 (by omega))
              have e9 := hc 9 _ rfl (hD 9 (by omega))
              simp only [List.take_succ_cons, List.take_zero, List.drop_succ_cons, List.drop_zero, putAll]
              rw [e4, e9]
              have G8 := Lib.hid (only_trans G7.out x1)
              have hbb : (sv != sv) = false := by cases sv <;> rfl
              clear hc x1 hD e4 e9 p0 p1 p2 p3 q0 q1 q2 q3
              go_wp2_with fail
              go_roundw
              case rel => exact ⟨j + 1, by go_num, by omega, G8.out⟩
              case measure => simp [intOf]; omega
          · have i1 : ¬ (j : Int) < (n : Int) := by omega
            go_wp2_with fail
            go_loopw [9] (fun v wr => ∃ j : Nat, v = .int .i64 j ∧ j ≤ n ∧ w7.grownBy wr none) (fun v _ => n - (intOf v).toNat)
            case atStart => exact ⟨0, rfl, Nat.zero_le _, only_refl _ _⟩
            case round =>
              obtain ⟨i, rfl, hi, hG9⟩ := hrel
              obtain ⟨w9, rfl⟩ : ∃ w, w = wr := ⟨_, rfl⟩
              have G9 := Lib.hid hG9
              have G9o := Lib.hid (only_trans G7o.out hG9)
              have BP9 := Lib.hid (BP7.out.grown hG9 (by simp))
              have BQ9 := Lib.hid (BQ7.out.grown hG9 (by simp))
              clear hG9 p0 p1 p2 p3 q0 q1 q2 q3 hpl hql
              have p0 := BP9.out.cell 0; have p1 := BP9.out.cell 1; have p2 := BP9.out.cell 2; have p3 := BP9.out.cell 3
              have q0 := BQ9.out.cell 0; have q1 := BQ9.out.cell 1; have q2 := BQ9.out.cell 2; have q3 := BQ9.out.cell 3
              simp at p0 p1 p2 p3 q0 q1 q2 q3
              have hpl := BP9.out.lt
              have hql := BQ9.out.lt
              by_cases hin : i < n
              · obtain ⟨c, d, hc, hd, hcd⟩ := map_at2 PE.out (i := i) (by rw [← HND.out]; exact hin)
                obtain ⟨sb, so, hxva, hsb, s0⟩ := vals_at (XV.out.grown G9o.out (by simp)) hc
                obtain ⟨tb, tt, hyva, htb, t0⟩ := vals_at (YV.out.grown G9o.out (by simp)) hd
                subst hxva hyva
                have hs : c.v.l = d.v.l := congrArg CD.v hcd
                have KV : Hid (∀ w', w9.grownBy w' none → Calls Tryz.prog 20 #[.slice c.v.a c.v.l.length c.v.c, .slice d.v.a c.v.l.length d.v.c] w' (Quiet (.bool true) w')) := Lib.hid (fun w' hg => by
                  have hxo := XO.out c (List.mem_of_getElem? hc)
                  have h0 := same_any c.v.a d.v.a c.v.l d.v.l c.v.c d.v.c w' ((XI.out c (List.mem_of_getElem? hc)).1.grown (only_trans G9o.out hg) (by simp)) ((YI.out d (List.mem_of_getElem? hd)).1.grown (only_trans G9o.out hg) (by simp)) (by omega) (by rw [← hs]; omega) true ⟨fun _ => hs, fun _ => rfl⟩
                  rw [← hs] at h0
                  exact h0)
                rw [← hs] at t0
                obtain ⟨sl, hsl⟩ : ∃ s, s = c.v.l := ⟨_, rfl⟩
                obtain ⟨ca, hca⟩ : ∃ s, s = c.v.a := ⟨_, rfl⟩
                obtain ⟨cc, hcc⟩ : ∃ s, s = c.v.c := ⟨_, rfl⟩
                obtain ⟨da, hda⟩ : ∃ s, s = d.v.a := ⟨_, rfl⟩
                obtain ⟨dc, hdc⟩ : ∃ s, s = d.v.c := ⟨_, rfl⟩
                rw [← hsl] at s0 t0 KV
                rw [← hca, ← hcc] at s0 KV
                rw [← hda, ← hdc] at t0 KV
                have i1 : (i : Int) < (n : Int) := by omega
                clear hc hd hcd hs hsl hca hcc hda hdc
                go_upto_region 17 with fail
                refine wp_region_gen 11 (JC [some (.pointer (some ⟨pb, 3, none⟩)), some (.slice (some ⟨sb, so, none⟩) (n) (xvc)), some (.int .i64 (i)), some (.pointer (some ⟨sb, so + i, none⟩)), some (.slice ca sl.length cc), some (.pointer (some ⟨qb, 3, none⟩)), some (.slice (some ⟨tb, tt, none⟩) (n) (yvc)), some (.int .i64 (i)), some (.pointer (some ⟨tb, tt + i, none⟩)), some (.slice da sl.length dc), some (.bool true)] (fun D u w => w9.grownBy w none)) (by kernel_rfl) (by kernel_rfl) ?_ ?_ ?_
                · intro u
                  exact ⟨(fun j c _ h => by cases h), only_drew (only_refl _ _)⟩
                · intro AA hA
                  have hasz : AA.tmps.size = 98 := by rw [hA]; kernel_rfl
                  have ea6 : AA.eval (.tmp 6) = .pointer (some ⟨pb, 0, none⟩) := by rw [hA]; kernel_rfl
                  have ea7 : AA.eval (.tmp 7) = .pointer (some ⟨qb, 0, none⟩) := by rw [hA]; kernel_rfl
                  have ea9 : AA.eval (.tmp 9) = .int .i64 (i) := by rw [hA]; kernel_rfl
                  clear hA
                  simp only [List.take_succ_cons, List.take_zero]
                  refine .cons ?_ (.cons ?_ (.cons ?_ (.cons ?_ (.cons ?_ (.cons ?_ (.cons ?_ (.cons ?_ (.cons ?_ (.cons ?_ (.cons ?_ (.nil)))))))))))
                  · exact gd_gen (by kernel_rfl) (Want.none_ rfl) rfl (fun D u w v h => h) (fun D u ρ w kn => by
                      have e0 := kn.own 6 (c := .pointer (some ⟨pb, 0, none⟩)) (by kernel_rfl) ea6
                      simp [execOp, kn.rho.con, e0, go_sem])
                  · exact gd_gen (by kernel_rfl) (Want.none_ rfl) rfl (fun D u w v h => h) (fun D u ρ w kn => by
                      have e0 := kn.con 0 86 (c := .pointer (some ⟨pb, 3, none⟩)) (by kernel_rfl) (by omega) (by kernel_rfl) rfl
                      have f0 := (cellG kn.ext hpl).trans p3
                      simp [execOp, kn.rho.con, e0, f0, go_sem])
                  · exact gd_gen (by kernel_rfl) (Want.none_ rfl) rfl (fun D u w v h => h) (fun D u ρ w kn => by
                      have e0 := kn.own 9 (c := .int .i64 (i)) (by kernel_rfl) ea9
                      simp [execOp, kn.rho.con, e0, go_sem])
                  · exact gd_gen (by kernel_rfl) (Want.none_ rfl) rfl (fun D u w v h => h) (fun D u ρ w kn => by
                      have e0 := kn.con 1 87 (c := .slice (some ⟨sb, so, none⟩) (n) (xvc)) (by kernel_rfl) (by omega) (by kernel_rfl) rfl
                      have e1 := kn.con 2 88 (c := .int .i64 (i)) (by kernel_rfl) (by omega) (by kernel_rfl) rfl
                      simp [execOp, kn.rho.con, e0, e1, go_sem, i1])
                  · exact gd_gen (by kernel_rfl) (Want.none_ rfl) rfl (fun D u w v h => h) (fun D u ρ w kn => by
                      have e0 := kn.con 3 89 (c := .pointer (some ⟨sb, so + i, none⟩)) (by kernel_rfl) (by omega) (by kernel_rfl) rfl
                      have f0 := (cellG kn.ext hsb).trans s0
                      simp [execOp, kn.rho.con, e0, f0, go_sem])
                  · exact gd_gen (by kernel_rfl) (Want.none_ rfl) rfl (fun D u w v h => h) (fun D u ρ w kn => by
                      have e0 := kn.own 7 (c := .pointer (some ⟨qb, 0, none⟩)) (by kernel_rfl) ea7
                      simp [execOp, kn.rho.con, e0, go_sem])
                  · exact gd_gen (by kernel_rfl) (Want.none_ rfl) rfl (fun D u w v h => h) (fun D u ρ w kn => by
                      have e0 := kn.con 5 91 (c := .pointer (some ⟨qb, 3, none⟩)) (by kernel_rfl) (by omega) (by kernel_rfl) rfl
                      have f0 := (cellG kn.ext hql).trans q3
                      simp [execOp, kn.rho.con, e0, f0, go_sem])
                  · exact gd_gen (by kernel_rfl) (Want.none_ rfl) rfl (fun D u w v h => h) (fun D u ρ w kn => by
                      have e0 := kn.own 9 (c := .int .i64 (i)) (by kernel_rfl) ea9
                      simp [execOp, kn.rho.con, e0, go_sem])
                  · exact gd_gen (by kernel_rfl) (Want.none_ rfl) rfl (fun D u w v h => h) (fun D u ρ w kn => by
                      have e0 := kn.con 6 92 (c := .slice (some ⟨tb, tt, none⟩) (n) (yvc)) (by kernel_rfl) (by omega) (by kernel_rfl) rfl
                      have e1 := kn.con 7 93 (c := .int .i64 (i)) (by kernel_rfl) (by omega) (by kernel_rfl) rfl
                      simp [execOp, kn.rho.con, e0, e1, go_sem, i1])
                  · exact gd_gen (by kernel_rfl) (Want.none_ rfl) rfl (fun D u w v h => h) (fun D u ρ w kn => by
                      have e0 := kn.con 8 94 (c := .pointer (some ⟨tb, tt + i, none⟩)) (by kernel_rfl) (by omega) (by kernel_rfl) rfl
                      have f0 := (cellG kn.ext htb).trans t0
                      simp [execOp, kn.rho.con, e0, f0, go_sem])
                  · refine gd_call (by kernel_rfl) (Want.none_ rfl) 20 (fun D u ρ w kn hD => ?_)
                    have e0 := kn.con 4 90 (c := .slice ca sl.length cc) (by kernel_rfl) (by omega) (by kernel_rfl) rfl
                    have e1 := kn.con 9 95 (c := .slice da sl.length dc) (by kernel_rfl) (by omega) (by kernel_rfl) rfl
                    refine ⟨#[.slice ca sl.length cc, .slice da sl.length dc], ?_, (KV.out w kn.ext).mono ?_⟩
                    · simp only [execOp, resolve, Deferred.ofValue, List.map_toArray, List.map_cons, List.map_nil, e0, e1, kn.rho.con, kn.rho.fn]
                      simp [go_sem]
                    · rintro e w' ⟨rfl, nq, rfl⟩
                      exact ⟨_, rfl, (fun c h => by injection h with h; injection h), only_drewN kn.ext nq⟩
                · intro D u w8 hJ hD
                  obtain ⟨hc, x1⟩ := hJ
                  have e10 := hc 10 _ rfl (hD 10 (by omega))
                  simp only [List.take_succ_cons, List.take_zero, List.drop_succ_cons, List.drop_zero, putAll]
                  rw [e10]
                  have G8 := Lib.hid (only_trans G9.out x1)
                  clear hc x1 hD e10 p0 p1 p2 p3 q0 q1 q2 q3 KV
                  go_wp2_with fail
                  go_roundw
                  case rel => exact ⟨i + 1, by go_num, by omega, G8.out⟩
                  case measure => simp [intOf]; omega
              · have i1 : ¬ (i : Int) < (n : Int) := by omega
                have GE := Lib.hid (only_trans G.out G9o.out)
                go_wp2_with fail
                go_roundw
                case rel => exact ⟨k + 1, by go_num, by omega, GE.out⟩
                case measure => simp [intOf]; omega
    · have j1 : ¬ (k : Int) < (ps.length : Int) := by omega
      go_wp2_with fail
      go_ret
      exact ⟨rfl, G.out⟩
end Go.Proofs.YtfkgcighooijhaaGreatDoor
