/- group.Key and the reference's Key: the values of names. Condition: sizes. -/
import Derived.Test.YtfkgcighooijhaaGreatDoorRVal
import Derived.Test.YtfkgcighooijhaaGreatDoorSpec
import Derived.Test.YtfkgcighooijhaaGreatDoorEvents

namespace Go.Proofs.YtfkgcighooijhaaGreatDoor
open Go.RowKit
set_option linter.unusedVariables false
set_option linter.unusedSimpArgs false

/-- the key of an event -/
def valD (e : Ev) (n : ByteArray) : ByteArray := (valOf e n).getD ⟨#[]⟩
def keyOf_ (names : List ByteArray) (e : Ev) : List ByteArray := names.map (valD e)
def StrsP (w : World) (ks : List ByteArray) (e : Ending) (w' : World) : Prop := ∃ A c, e = .returned (.slice A ks.length c) ∧ ks.length ≤ c ∧ c ≤ maxLen ∧ w'.ownsRow w.heap.size 9 1 (.slice A ks.length c) ks.length (ks.map .string) ∧ w.grownBy w' none
theorem valV_fst (o : Option ByteArray) : ∃ b, valV o = .tuple #[.string (o.getD ⟨#[]⟩), .bool b] := by
  cases o with
  | none => exact ⟨false, rfl⟩
  | some s => exact ⟨true, rfl⟩
theorem EvGood.evN0 {e : Ev} (h : EvGood e) : EvN e := by
  obtain ⟨hf, _, _, _, h1, h2, h3, h4, _⟩ := h
  have hw := hf.2.2.1
  have ht1 := hf.1
  have ht2 := hf.2.1
  unfold IsWeight at hw
  refine ⟨?_, ?_, ?_, ?_⟩ <;> unfold N18 <;> omega
theorem EvGood.evI0 {e : Ev} (h : EvGood e) : EvI e := by
  have hn := h.evN0
  obtain ⟨h1, h2, h3, h4⟩ := hn
  unfold N18 at h1 h2 h3 h4
  have hf := h.1.2.2.2.2.2.1.length_le
  rw [List.length_map, List.length_take] at hf
  refine ⟨?_, ?_, ?_, ?_, by omega⟩ <;> unfold I64 <;> omega
set_option maxHeartbeats 4000000 in
set_option maxRecDepth 100000 in
theorem key_any {S T : Nat → Prop} (A : Option Addr) (names : List ByteArray) (c : Nat) (e : Ev) (w : World) (ha : Rd T w A (names.map .string)) (hl : names.length ≤ 1000000) (hnm : ∀ n ∈ names, n.size ≤ 1000) (hs : e.Sub S w) (hi : EvI e) (ht : Pow10 w) :
    Calls Tryz.prog 16 #[.slice A names.length c, .agg e.cells.toArray] w (StrsP w (keyOf_ names e)) := by
  have HV : Hid (∀ w', w.grownBy w' none → ∀ n ∈ names, Calls Tryz.prog 38 #[.agg e.cells.toArray, .string n] w' (ValP w' (valOf e n))) := fun w' hg n hn => val_any e n w' (hs.grown hg (by simp)) hi (by have := hnm n hn; unfold maxLen; omega) (ht.grown hg)
  have HA := Lib.hid ha
  have HK : Hid (keyOf_ names e = names.map (valD e)) := Lib.hid rfl
  obtain ⟨ks, hks⟩ : ∃ ks, ks = keyOf_ names e := ⟨_, rfl⟩
  rw [← hks] at HK ⊢
  have HD : Hid (∀ n, valD e n = (valOf e n).getD ⟨#[]⟩) := Lib.hid (fun _ => rfl)
  obtain ⟨vf, hvf⟩ : ∃ vf, vf = valOf e := ⟨_, rfl⟩
  rw [← hvf] at HV HD
  obtain ⟨vd, hvd⟩ : ∃ vd, vd = valD e := ⟨_, rfl⟩
  rw [← hvd] at HK HD
  clear hks ha hs hi ht hnm hvf hvd
  obtain ⟨host, file, beg, fin, lines, time, weight, trace, stream, fields, la, lc, fa, fc⟩ := e
  have hcl : (Ev.mk host file beg fin lines time weight trace stream fields la lc fa fc).cells.toArray = #[.int .i64 host, .int .i64 file, .int .i64 beg, .int .i64 fin, .slice la lines.length lc, .int .i64 time, .int .i64 weight, .string trace, .string stream, .slice fa fields.length fc] := rfl
  rw [hcl] at HV ⊢
  clear hcl
  go_enter Tryz.func16, Tryz.ntmps16
  have HB0 : Hid (Blk (w.alloc (.cells #[.int .i64 host, .int .i64 file, .int .i64 beg, .int .i64 fin, .slice la lines.length lc, .int .i64 time, .int .i64 weight, .string trace, .string stream, .slice fa fields.length fc] 35)) w.heap.size 35 #[.int .i64 host, .int .i64 file, .int .i64 beg, .int .i64 fin, .slice la lines.length lc, .int .i64 time, .int .i64 weight, .string trace, .string stream, .slice fa fields.length fc]) := Blk.new w _ _
  go_wp2_with fail
  go_loopw [5, 12] (fun vo i wr => ∃ k : Nat, i = .int .i64 k ∧ k ≤ names.length ∧ wr.ownsRow (w.heap.size + 1) 9 1 vo ((names.take k).map vd).length (((names.take k).map vd).map .string) ∧ Blk wr w.heap.size 35 #[.int .i64 host, .int .i64 file, .int .i64 beg, .int .i64 fin, .slice la lines.length lc, .int .i64 time, .int .i64 weight, .string trace, .string stream, .slice fa fields.length fc] ∧ w.grownBy wr none) (fun _ i _ => names.length - (intOf i).toNat)
  case atStart => exact ⟨0, rfl, Nat.zero_le _, World.ownsRow_nil _ _ _ _, HB0.out, only_alloc (only_refl _ _) _⟩
  case round =>
    obtain ⟨k, rfl, hk, hO, hB, hG⟩ := hrel
    clear HB0
    obtain ⟨zs, hzs⟩ : ∃ zs, zs = (names.take k).map vd := ⟨_, rfl⟩
    rw [← hzs] at hO
    have HZ := Lib.hid hzs
    have hzl : zs.length ≤ 1000000 := by rw [hzs, List.length_map, List.length_take]; omega
    obtain ⟨Ao, co, rfl, hoc, hom, -, hro⟩ := Rd.of_own hO (by decide)
    have OO := Lib.hid hO
    have B := Lib.hid hB
    have G := Lib.hid hG
    have hsz := hG.size
    have hrr := hB.lt
    clear hro hzs
    by_cases hlt : k < names.length
    · obtain ⟨b1, o1, n, rfl, hc1, hn⟩ := (HA.out.grown G.out (by simp)).str_at hlt
      have e0 := hB.cell 0; have e1 := hB.cell 1; have e2 := hB.cell 2; have e3 := hB.cell 3; have e4 := hB.cell 4; have e5 := hB.cell 5; have e6 := hB.cell 6; have e7 := hB.cell 7; have e8 := hB.cell 8; have e9 := hB.cell 9
      simp at e0 e1 e2 e3 e4 e5 e6 e7 e8 e9
      have KV := Lib.hid (HV.out wr G.out n (List.mem_of_getElem? hn.out))
      obtain ⟨bb, hbb⟩ := valV_fst (vf n)
      have HT1 : Hid (zs ++ [(vf n).getD ⟨#[]⟩] = (names.take (k + 1)).map vd) := Lib.hid (by
        rw [HZ.out, List.take_succ_eq_append_getElem hlt, ← HD.out n]
        have := hn.out
        rw [List.getElem?_eq_getElem hlt] at this
        injection this with this
        rw [this]; simp)
      obtain ⟨s, hs⟩ : ∃ s, s = (vf n).getD ⟨#[]⟩ := ⟨_, rfl⟩
      rw [← hs] at HT1 hbb
      obtain ⟨vv, hvv⟩ : ∃ vv, vv = vf n := ⟨_, rfl⟩
      rw [← hvv] at KV hbb
      have i1 : (k : Int) < (names.length : Int) := by omega
      clear hs hvv HZ hO hB hG
      go_wp2_with fail
      refine KV.out.mono ?_
      rintro e w1 ⟨rfl, hg1⟩
      have O1 := Lib.hid (own_ext OO.out hg1)
      have B1 := Lib.hid (B.out.grown hg1 (by simp))
      have G1 := Lib.hid (only_trans G.out hg1)
      have hz1 := hg1.size
      have hrw := B1.out.lt
      rw [hbb]
      clear hbb hg1 OO B G KV e0 e1 e2 e3 e4 e5 e6 e7 e8 e9 hc1 hrr
      go_wp2_with (at_builtin; refine wpList_append1 rfl _ _ 24 rfl (w.heap.size + 1) Tryz.underlying24 strInfo rfl (by decide) (v := .slice Ao zs.length co) (by rfl) (w0 := w1) (cs := #[.string s]) O1.out (by rfl) rfl (by simp [Value.oneCell']) (by decide) (by omega) (by omega) ?_; intro v7 w7 hown7 hg7 hob7)
      have O7 : Hid (w7.ownsRow (w.heap.size + 1) 9 1 v7 ((names.take (k + 1)).map vd).length (((names.take (k + 1)).map vd).map .string)) := Lib.hid (by rw [← HT1.out]; simpa using hown7)
      have B7 := Lib.hid (B1.out.grown hg7 (by
        cases hv : (Value.slice Ao zs.length co).ownBlock with
        | none => simp
        | some g => have := (O1.out.lt g hv).1; intro e; injection e; omega))
      have G7 : Hid (w.grownBy w7 none) := Lib.hid (only_own G1.out hg7 O1.out (by omega))
      clear hown7 hg7 hob7
      go_wp2_with fail
      go_roundw
      case rel => exact ⟨k + 1, by go_num, by omega, O7.out, B7.out, G7.out⟩
      case measure => simp [intOf]; omega
    · have HE : Hid (zs = ks) := Lib.hid (by rw [HZ.out, HK.out, List.take_of_length_le (by omega)])
      have i1 : ¬ (k : Int) < (names.length : Int) := by omega
      clear hO hB hG
      go_wp2_with fail
      go_ret
      exact ⟨Ao, co, by rw [← HE.out]; rfl, by rw [← HE.out]; exact hoc, hom, by rw [← HE.out]; exact own_dn OO.out (by omega), G.out⟩
set_option maxHeartbeats 4000000 in
set_option maxRecDepth 100000 in
theorem rkey_any {S T : Nat → Prop} (A : Option Addr) (names : List ByteArray) (c : Nat) (e : Ev) (w : World) (ha : Rd T w A (names.map .string)) (hl : names.length ≤ 1000000) (hnm : ∀ n ∈ names, n.size ≤ 1000) (hs : e.Sub S w) (hi : EvN e) (hfl : e.fields.length ≤ 1000000) :
    Calls Tryz.prog 85 #[.slice A names.length c, .agg e.cells.toArray] w (StrsP w (keyOf_ names e)) := by
  have HV : Hid (∀ w', w.grownBy w' none → ∀ n ∈ names, Calls Tryz.prog 87 #[.agg e.cells.toArray, .string n] w' (ValP w' (valOf e n))) := fun w' hg n hn => rval_any e n w' (hs.grown hg (by simp)) hi hfl
  have HA := Lib.hid ha
  have HK : Hid (keyOf_ names e = names.map (valD e)) := Lib.hid rfl
  obtain ⟨ks, hks⟩ : ∃ ks, ks = keyOf_ names e := ⟨_, rfl⟩
  rw [← hks] at HK ⊢
  have HD : Hid (∀ n, valD e n = (valOf e n).getD ⟨#[]⟩) := Lib.hid (fun _ => rfl)
  obtain ⟨vf, hvf⟩ : ∃ vf, vf = valOf e := ⟨_, rfl⟩
  rw [← hvf] at HV HD
  obtain ⟨vd, hvd⟩ : ∃ vd, vd = valD e := ⟨_, rfl⟩
  rw [← hvd] at HK HD
  clear hks ha hs hi hfl hnm hvf hvd
  obtain ⟨host, file, beg, fin, lines, time, weight, trace, stream, fields, la, lc, fa, fc⟩ := e
  have hcl : (Ev.mk host file beg fin lines time weight trace stream fields la lc fa fc).cells.toArray = #[.int .i64 host, .int .i64 file, .int .i64 beg, .int .i64 fin, .slice la lines.length lc, .int .i64 time, .int .i64 weight, .string trace, .string stream, .slice fa fields.length fc] := rfl
  rw [hcl] at HV ⊢
  clear hcl
  go_enter Tryz.func85, Tryz.ntmps85
  have HB0 : Hid (Blk (w.alloc (.cells #[.int .i64 host, .int .i64 file, .int .i64 beg, .int .i64 fin, .slice la lines.length lc, .int .i64 time, .int .i64 weight, .string trace, .string stream, .slice fa fields.length fc] 35)) w.heap.size 35 #[.int .i64 host, .int .i64 file, .int .i64 beg, .int .i64 fin, .slice la lines.length lc, .int .i64 time, .int .i64 weight, .string trace, .string stream, .slice fa fields.length fc]) := Blk.new w _ _
  go_wp2_with fail
  go_loopw [5, 6] (fun vo i wr => ∃ k : Nat, i = .int .i64 k ∧ k ≤ names.length ∧ wr.ownsRow (w.heap.size + 1) 9 1 vo ((names.take k).map vd).length (((names.take k).map vd).map .string) ∧ Blk wr w.heap.size 35 #[.int .i64 host, .int .i64 file, .int .i64 beg, .int .i64 fin, .slice la lines.length lc, .int .i64 time, .int .i64 weight, .string trace, .string stream, .slice fa fields.length fc] ∧ w.grownBy wr none) (fun _ i _ => names.length - (intOf i).toNat)
  case atStart => exact ⟨0, rfl, Nat.zero_le _, World.ownsRow_nil _ _ _ _, HB0.out, only_alloc (only_refl _ _) _⟩
  case round =>
    obtain ⟨k, rfl, hk, hO, hB, hG⟩ := hrel
    clear HB0
    obtain ⟨zs, hzs⟩ : ∃ zs, zs = (names.take k).map vd := ⟨_, rfl⟩
    rw [← hzs] at hO
    have HZ := Lib.hid hzs
    have hzl : zs.length ≤ 1000000 := by rw [hzs, List.length_map, List.length_take]; omega
    obtain ⟨Ao, co, rfl, hoc, hom, -, hro⟩ := Rd.of_own hO (by decide)
    have OO := Lib.hid hO
    have B := Lib.hid hB
    have G := Lib.hid hG
    have hsz := hG.size
    have hrr := hB.lt
    clear hro hzs
    by_cases hlt : k < names.length
    · obtain ⟨b1, o1, n, rfl, hc1, hn⟩ := (HA.out.grown G.out (by simp)).str_at hlt
      have e0 := hB.cell 0; have e1 := hB.cell 1; have e2 := hB.cell 2; have e3 := hB.cell 3; have e4 := hB.cell 4; have e5 := hB.cell 5; have e6 := hB.cell 6; have e7 := hB.cell 7; have e8 := hB.cell 8; have e9 := hB.cell 9
      simp at e0 e1 e2 e3 e4 e5 e6 e7 e8 e9
      obtain ⟨bb, hbb⟩ := valV_fst (vf n)
      have HT1 : Hid (zs ++ [(vf n).getD ⟨#[]⟩] = (names.take (k + 1)).map vd) := Lib.hid (by
        rw [HZ.out, List.take_succ_eq_append_getElem hlt, ← HD.out n]
        have := hn.out
        rw [List.getElem?_eq_getElem hlt] at this
        injection this with this
        rw [this]; simp)
      obtain ⟨s, hs⟩ : ∃ s, s = (vf n).getD ⟨#[]⟩ := ⟨_, rfl⟩
      rw [← hs] at HT1 hbb
      have KV : Hid (∀ w', w.grownBy w' none → Calls Tryz.prog 87 #[.agg #[.int .i64 host, .int .i64 file, .int .i64 beg, .int .i64 fin, .slice la lines.length lc, .int .i64 time, .int .i64 weight, .string trace, .string stream, .slice fa fields.length fc], .string n] w' (fun e w'' => e = .returned (.tuple #[.string s, .bool bb]) ∧ w'.grownBy w'' none)) :=
        Lib.hid (fun w' hg => (HV.out w' hg n (List.mem_of_getElem? hn.out)).mono (fun e w'' h => ⟨h.1.trans (by rw [hbb]), h.2⟩))
      have i1 : (k : Int) < (names.length : Int) := by omega
      clear hs hbb HZ hO hB hG
      go_wp2_with fail
      go_region_law (go_simp; go_at_call 87; go_must (with_reducible (refine (KV.out _ (only_drew G.out)).mono ?_)); rintro e w1 ⟨rfl, hg1⟩)
      all_goals
        replace hg1 : wr.grownBy w1 none := only_trans (only_drew (only_refl wr none)) hg1
        have O1 := Lib.hid (own_ext OO.out hg1)
        have B1 := Lib.hid (B.out.grown hg1 (by simp))
        have G1 := Lib.hid (only_trans G.out hg1)
        have hz1 := hg1.size
        have hrw := B1.out.lt
        clear hg1 OO B G KV e0 e1 e2 e3 e4 e5 e6 e7 e8 e9 hc1 hrr
        go_wp2_with (at_builtin; go_must (refine wpList_append1 rfl _ _ 24 rfl (w.heap.size + 1) Tryz.underlying24 strInfo rfl (by decide) (v := .slice Ao zs.length co) (by rfl) (w0 := w1) (cs := #[.string s]) O1.out (by rfl) rfl (by simp [Value.oneCell']) (by decide) (by omega) (by omega) ?_); intro v7 w7 hown7 hg7 hob7)
        have O7 : Hid (w7.ownsRow (w.heap.size + 1) 9 1 v7 ((names.take (k + 1)).map vd).length (((names.take (k + 1)).map vd).map .string)) := Lib.hid (by rw [← HT1.out]; simpa using hown7)
        have B7 := Lib.hid (B1.out.grown hg7 (by
          cases hv : (Value.slice Ao zs.length co).ownBlock with
          | none => simp
          | some g => have := (O1.out.lt g hv).1; intro e; injection e; omega))
        have G7 : Hid (w.grownBy w7 none) := Lib.hid (only_own G1.out hg7 O1.out (by omega))
        clear hown7 hg7 hob7
        go_wp2_with fail
        go_roundw
        case rel => exact ⟨k + 1, by go_num, by omega, O7.out, B7.out, G7.out⟩
        case measure => simp [intOf]; omega
    · have HE : Hid (zs = ks) := Lib.hid (by rw [HZ.out, HK.out, List.take_of_length_le (by omega)])
      have i1 : ¬ (k : Int) < (names.length : Int) := by omega
      clear hO hB hG
      go_wp2_with fail
      go_ret
      exact ⟨Ao, co, by rw [← HE.out]; rfl, by rw [← HE.out]; exact hoc, hom, by rw [← HE.out]; exact own_dn OO.out (by omega), G.out⟩
end Go.Proofs.YtfkgcighooijhaaGreatDoor
