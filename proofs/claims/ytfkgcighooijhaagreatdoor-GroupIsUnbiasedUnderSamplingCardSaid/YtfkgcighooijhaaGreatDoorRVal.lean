/- Decimal, Get, Value of the reference. Condition: sizes. -/
import Derived.Test.YtfkgcighooijhaaGreatDoorNatB
import Derived.Test.YtfkgcighooijhaaGreatDoorSpec
import Derived.Deep.DeepCutAuto
import Derived.Deep.RegionLaw
namespace Go.Proofs.YtfkgcighooijhaaGreatDoor
open Go.RowKit
set_option linter.unusedVariables false
set_option linter.unusedSimpArgs false

theorem natB_str (l : List UInt8) : strOfNums (natB l) = ⟨l.toArray⟩ := by
  have h : (strOfNums (natB l)).toList = (⟨l.toArray⟩ : ByteArray).toList := by
    rw [Lib.strOfNums_toList, ByteArray.toList_eq]
    unfold natB Lib.bytesOf
    have hid : ((fun n : Int => UInt8.ofNat n.toNat) ∘ fun b : UInt8 => (b.toNat : Int)) = id := by funext b; simp
    simp only [List.map_map]
    rw [hid, List.map_id]
  exact toList_inj h
theorem natB_len (l : List UInt8) : (natB l).length = l.length := by simp [natB]
theorem dec_step {u : Nat} (h : 10 ≤ u) (ds : List Int) : natB (Lib.decDigits u) ++ ds = natB (Lib.decDigits (u / 10)) ++ ((48 + (u : Int) % 10) :: ds) := by
  rw [Lib.decDigits, dif_neg (by omega)]
  have h1 : natB (Lib.decDigits (u / 10) ++ [UInt8.ofNat (48 + u % 10)]) = natB (Lib.decDigits (u / 10)) ++ [48 + (u : Int) % 10] := by
    unfold natB
    rw [List.map_append]
    have := dig_toNat (d := u % 10) (by omega)
    simp only [List.map_cons, List.map_nil]
    rw [this]
    congr 2
  rw [h1, List.append_assoc]
  rfl
theorem dec_last {u : Nat} (h : u < 10) (ds : List Int) : natB (Lib.decDigits u) ++ ds = (48 + (u : Int) % 10) :: ds := by
  rw [Lib.decDigits, dif_pos h]
  have := dig_toNat h
  show ((UInt8.ofNat (48 + u)).toNat : Int) :: ds = _
  rw [this]
  congr 1; omega
set_option maxHeartbeats 4000000 in
set_option maxRecDepth 100000 in
theorem decimal_any (n : Int) (w : World) (h0 : 0 ≤ n) (h1 : n < 1000000000000000000) :
    Calls Tryz.prog 96 #[.int .i64 n] w (StrP w (itoaB n)) := by
  obtain ⟨U, rfl⟩ : ∃ u : Nat, n = u := ⟨n.toNat, by omega⟩
  have HI : Hid (itoaB (U : Int) = strOfNums (natB (Lib.decDigits U))) := Lib.hid (by rw [natB_str]; unfold itoaB; rw [Lib.itoa_nonneg])
  have hL : (natB (Lib.decDigits U)).length ≤ 18 := by
    rw [natB_len, Lib.decDigits_length]
    exact nDigits_le 18 U (by omega) (by have : (10 : Nat) ^ 18 = 1000000000000000000 := by decide
                                         omega)
  have HL := Lib.hid hL
  have hU : U < 1000000000000000000 := by omega
  clear hL h0 h1
  go_enter Tryz.func96, Tryz.ntmps96
  go_wp2_with fail
  go_loopw [3, 4] (fun vu vo wr => ∃ (u : Nat) (ds : List Int), vu = .int .u64 u ∧ u ≤ U ∧ wr.ownsRow w.heap.size 5 1 vo ds.length (ds.map (.int .u8)) ∧ Hid (natB (Lib.decDigits u) ++ ds = natB (Lib.decDigits U)) ∧ w.grownBy wr none) (fun vu _ _ => (intOf vu).toNat)
  case atStart => exact ⟨U, [], rfl, Nat.le_refl _, World.ownsRow_nil _ _ _ _, Lib.hid (by simp), only_refl _ _⟩
  case round =>
    obtain ⟨u, ds, rfl, hu, hO, HE, hG⟩ := hrel
    have hdl : ds.length ≤ 18 := by
      have := congrArg List.length HE.out
      rw [List.length_append] at this
      have := HL.out; omega
    obtain ⟨Ao, co, rfl, hoc, hom, -, hro⟩ := Rd.of_own hO (by decide)
    have OO := Lib.hid hO
    have RO := Lib.hid hro
    have G := Lib.hid hG
    have hsz := hG.size
    have hu2 : u < 1000000000000000000 := by omega
    clear hO hG hro
    have q0 : (0 : Int) ≤ (u : Int) % 10 := by omega
    have q1 : (u : Int) % 10 < 10 := by omega
    obtain ⟨dg, hdg⟩ : ∃ x, x = (48 : Int) + (u : Int) % 10 := ⟨_, rfl⟩
    have HDG := Lib.hid hdg
    have OL : Hid ((wr.alloc (.cells #[.int .u8 (48 + (u : Int) % 10)] 5)).ownsRow w.heap.size 5 1 (.slice (some ⟨wr.heap.size, 0, none⟩) 1 1) 1 #[Value.int .u8 (48 + (u : Int) % 10)].toList) := Lib.hid (World.ownsRow_lit wr #[.int .u8 (48 + (u : Int) % 10)] 1 hsz (by unfold maxLen; omega) rfl)
    have RL : Hid (Rd (w.heap.size ≤ ·) (wr.alloc (.cells #[.int .u8 (48 + (u : Int) % 10)] 5)) Ao (ds.map (.int .u8))) := Lib.hid (RO.out.alloc _)
    have hszl : w.heap.size ≤ (wr.alloc (.cells #[.int .u8 (48 + (u : Int) % 10)] 5)).heap.size := by simp; omega
    clear hdg
    by_cases hlast : u < 10
    · have z1 : ((u : Int) / 10 == 0) = true := by rw [beq_iff_eq]; omega
      have HE2 : Hid (((48 + (u : Int) % 10) :: ds) = natB (Lib.decDigits U)) := Lib.hid ((dec_last (u := u) hlast ds).symm.trans HE.out)
      clear hlast
      go_wp2_with (at_builtin; refine wpList_appendN rfl _ _ 22 rfl w.heap.size Tryz.underlying22 u8Info27 rfl (by decide) (v := .slice (some ⟨wr.heap.size, 0, none⟩) 1 1) (by rfl) OL.out Ao ds.length co (by rfl) RL.out (by simp) (by simp [Value.oneCell']) (by decide) (by omega) hszl ?_; intro v7 w7 hown7 hg7 hob7)
      have O7 : Hid (w7.ownsRow w.heap.size 5 1 v7 (natB (Lib.decDigits U)).length ((natB (Lib.decDigits U)).map (.int .u8))) := Lib.hid (by
        rw [← HE2.out, List.length_cons, List.map_cons, Nat.add_comm]; exact hown7)
      have G7 : Hid (w.grownBy w7 none) := Lib.hid (only_own (only_alloc G.out _) hg7 OL.out (Nat.le_refl _))
      obtain ⟨A7, c7, hv, -, -, -, hr7⟩ := Rd.of_own O7.out (by decide)
      have hcv := Lib.BytesIn.convert (P := Tryz.prog) (w := w7) (p := A7) (n := (natB (Lib.decDigits U)).length) (xs := natB (Lib.decDigits U)) (bytesin_rd hr7) rfl c7 22 5 9 Tryz.underlying22 Tryz.underlying5 Tryz.underlying9
      rw [← HI.out, ← hv] at hcv
      clear hown7 hg7 hob7 hv hr7
      rw [hcv]
      clear hcv
      go_simp
      go_wp2_with fail
      go_ret
      exact ⟨rfl, G7.out⟩
    · have z1 : ((u : Int) / 10 == 0) = false := by rw [beq_eq_false_iff_ne]; omega
      have HE2 : Hid (natB (Lib.decDigits (u / 10)) ++ ((48 + (u : Int) % 10) :: ds) = natB (Lib.decDigits U)) := Lib.hid ((dec_step (u := u) (by omega) ds).symm.trans HE.out)
      have hun : 10 ≤ u := by omega
      clear hlast
      go_wp2_with (at_builtin; refine wpList_appendN rfl _ _ 22 rfl w.heap.size Tryz.underlying22 u8Info27 rfl (by decide) (v := .slice (some ⟨wr.heap.size, 0, none⟩) 1 1) (by rfl) OL.out Ao ds.length co (by rfl) RL.out (by simp) (by simp [Value.oneCell']) (by decide) (by omega) hszl ?_; intro v7 w7 hown7 hg7 hob7)
      have O7 : Hid (w7.ownsRow w.heap.size 5 1 v7 ((48 + (u : Int) % 10) :: ds).length (((48 + (u : Int) % 10) :: ds).map (.int .u8))) := Lib.hid (by
        rw [List.length_cons, List.map_cons, Nat.add_comm]; exact hown7)
      have G7 : Hid (w.grownBy w7 none) := Lib.hid (only_own (only_alloc G.out _) hg7 OL.out (Nat.le_refl _))
      clear hown7 hg7 hob7
      go_wp2_with fail
      go_roundw
      case rel => exact ⟨u / 10, (48 + (u : Int) % 10) :: ds, by go_num, by omega, O7.out, HE2, G7.out⟩
      case measure => simp [intOf]; omega
end Go.Proofs.YtfkgcighooijhaaGreatDoor
namespace Go.Proofs.YtfkgcighooijhaaGreatDoor
open Go.RowKit
set_option linter.unusedVariables false
set_option linter.unusedSimpArgs false

theorem nHost_list : nHost.toList = [64, 104, 111, 115, 116] := by kernel_rfl
theorem nFile_list : nFile.toList = [64, 102, 105, 108, 101] := by kernel_rfl
theorem nTime_list : nTime.toList = [64, 116, 105, 109, 101] := by kernel_rfl
theorem nWeight_list : nWeight.toList = [64, 119, 101, 105, 103, 104, 116] := by kernel_rfl
theorem nTrace_list : nTrace.toList = [64, 116, 114, 97, 99, 101] := by kernel_rfl
theorem nStream_list : nStream.toList = [64, 115, 116, 114, 101, 97, 109] := by kernel_rfl
theorem is_list {nm x : ByteArray} {l : List UInt8} (hx : x.toList = l) (h : nm = x) : (nm.toList == l) = true := by rw [h, hx]; simp
theorem no_list {nm x : ByteArray} {l : List UInt8} (hx : x.toList = l) (h : nm ≠ x) : (nm.toList == l) = false := by
  rw [beq_eq_false_iff_ne, ← hx]; exact fun e => h (toList_inj e)
set_option maxHeartbeats 2000000 in
theorem rget_any {S : Nat → Prop} (fa : Option Addr) (fields : List FieldD) (fc : Nat) (nm : ByteArray) (w : World) (hr : Rd S w fa (fields.flatMap FieldD.cells)) (hl : fields.length ≤ 1000000) :
    Calls Tryz.prog 97 #[.slice fa fields.length fc, .string nm] w (ValP w (getF fields nm)) := by
  have HR := Lib.hid hr
  clear hr
  go_enter Tryz.func97, Tryz.ntmps97
  go_wp2_with fail
  go_loopw [6] (fun i wr => ∃ k : Nat, i = .int .i64 k ∧ k ≤ fields.length ∧ Hid (getF fields nm = getF (fields.drop k) nm) ∧ w.grownBy wr none) (fun i _ => fields.length - (intOf i).toNat)
  case atStart => exact ⟨0, rfl, Nat.zero_le _, Lib.hid rfl, only_refl _ _⟩
  case round =>
    obtain ⟨k, rfl, hk, HN, hG⟩ := hrel
    have G := Lib.hid hG
    clear hG
    by_cases hlt : k < fields.length
    · obtain ⟨y, hy⟩ : ∃ y, fields[k]? = some y := ⟨_, List.getElem?_eq_getElem hlt⟩
      obtain ⟨kb, ko, rfl, hkw, z0, z1⟩ := fld_in (HR.out.grown G.out (by simp)) hy
      have hd : fields.drop k = y :: fields.drop (k + 1) := by
        rw [List.getElem?_eq_getElem hlt] at hy
        injection hy with hy
        rw [← List.getElem_cons_drop hlt, hy]
      have i1 : (k : Int) < (fields.length : Int) := by omega
      by_cases he : y.name = nm
      · have q1 : (y.name.toList == nm.toList) = true := by rw [he]; simp
        have HV : Hid (getF fields nm = some y.value) := Lib.hid (by rw [HN.out, hd, getF, if_pos he])
        clear hy hd he
        go_wp2_with fail
        rw [HV.out]
        exact bodyPost_ret (v := valV (some y.value)) (by simp [results, Tryz.results97, go_sem, valV]) rfl ⟨rfl, G.out⟩
      · have q1 : (y.name.toList == nm.toList) = false := str_ne he
        have HV : Hid (getF fields nm = getF (fields.drop (k + 1)) nm) := Lib.hid (by rw [HN.out, hd, getF, if_neg he])
        clear hy hd he
        go_wp2_with fail
        go_roundw
        case rel => exact ⟨k + 1, by go_num, by omega, HV, G.out⟩
        case measure => simp [intOf]; omega
    · have i1 : ¬ (k : Int) < (fields.length : Int) := by omega
      have HV : Hid (getF fields nm = none) := Lib.hid (by rw [HN.out, List.drop_eq_nil_of_le (by omega)]; rfl)
      go_wp2_with fail
      rw [HV.out]
      exact bodyPost_ret (v := valV none) (by simp [results, Tryz.results97, go_sem, valV]) rfl ⟨rfl, G.out⟩
def N18 (n : Int) : Prop := 0 ≤ n ∧ n < 1000000000000000000
def EvN (e : Ev) : Prop := N18 e.host ∧ N18 e.file ∧ N18 e.time ∧ N18 e.weight
set_option maxHeartbeats 4000000 in
set_option maxRecDepth 100000 in
theorem rval_any {S : Nat → Prop} (e : Ev) (nm : ByteArray) (w : World) (hs : e.Sub S w) (hi : EvN e) (hl : e.fields.length ≤ 1000000) :
    Calls Tryz.prog 87 #[.agg e.cells.toArray, .string nm] w (ValP w (valOf e nm)) := by
  have HG : Hid (∀ w', w.grownBy w' none → Calls Tryz.prog 97 #[.slice e.fa e.fields.length e.fc, .string nm] w' (ValP w' (getF e.fields nm))) := fun w' hg => rget_any e.fa e.fields e.fc nm w' (hs.2.1.grown hg (by simp)) hl
  have HI := Lib.hid hi
  clear hs hi hl
  obtain ⟨host, file, beg, fin, lines, time, weight, trace, stream, fields, la, lc, fa, fc⟩ := e
  simp only at HG
  have hcl : (Ev.mk host file beg fin lines time weight trace stream fields la lc fa fc).cells.toArray = #[.int .i64 host, .int .i64 file, .int .i64 beg, .int .i64 fin, .slice la lines.length lc, .int .i64 time, .int .i64 weight, .string trace, .string stream, .slice fa fields.length fc] := rfl
  rw [hcl]
  clear hcl
  go_enter Tryz.func87, Tryz.ntmps87
  by_cases h1 : nm = nHost
  · have HV : Hid (valOf ⟨host, file, beg, fin, lines, time, weight, trace, stream, fields, la, lc, fa, fc⟩ nm = some (itoaB host)) := Lib.hid (by rw [h1]; rfl)
    have q1 := is_list nHost_list h1
    clear h1
    go_wp2_with fail
    refine (decimal_any host _ HI.out.1.1 HI.out.1.2).mono ?_
    rintro en w2 ⟨rfl, hg2⟩
    go_wp2_with fail
    rw [HV.out]
    exact bodyPost_ret (v := valV (some (itoaB host))) (by simp [results, Tryz.results87, go_sem, valV]) rfl ⟨rfl, only_trans (only_alloc (only_refl _ _) _) hg2⟩
  have q1 := no_list nHost_list h1
  by_cases h2 : nm = nFile
  · have HV : Hid (valOf ⟨host, file, beg, fin, lines, time, weight, trace, stream, fields, la, lc, fa, fc⟩ nm = some (itoaB file)) := Lib.hid (by rw [h2]; rfl)
    have q2 := is_list nFile_list h2
    clear h1 h2
    go_wp2_with fail
    refine (decimal_any file _ HI.out.2.1.1 HI.out.2.1.2).mono ?_
    rintro en w2 ⟨rfl, hg2⟩
    go_wp2_with fail
    rw [HV.out]
    exact bodyPost_ret (v := valV (some (itoaB file))) (by simp [results, Tryz.results87, go_sem, valV]) rfl ⟨rfl, only_trans (only_alloc (only_refl _ _) _) hg2⟩
  have q2 := no_list nFile_list h2
  by_cases h3 : nm = nTime
  · have HV : Hid (valOf ⟨host, file, beg, fin, lines, time, weight, trace, stream, fields, la, lc, fa, fc⟩ nm = some (itoaB time)) := Lib.hid (by rw [h3]; rfl)
    have q3 := is_list nTime_list h3
    clear h1 h2 h3
    go_wp2_with fail
    refine (decimal_any time _ HI.out.2.2.1.1 HI.out.2.2.1.2).mono ?_
    rintro en w2 ⟨rfl, hg2⟩
    go_wp2_with fail
    rw [HV.out]
    exact bodyPost_ret (v := valV (some (itoaB time))) (by simp [results, Tryz.results87, go_sem, valV]) rfl ⟨rfl, only_trans (only_alloc (only_refl _ _) _) hg2⟩
  have q3 := no_list nTime_list h3
  by_cases h4 : nm = nWeight
  · have HV : Hid (valOf ⟨host, file, beg, fin, lines, time, weight, trace, stream, fields, la, lc, fa, fc⟩ nm = some (itoaB weight)) := Lib.hid (by rw [h4]; rfl)
    have q4 := is_list nWeight_list h4
    clear h1 h2 h3 h4
    go_wp2_with fail
    refine (decimal_any weight _ HI.out.2.2.2.1 HI.out.2.2.2.2).mono ?_
    rintro en w2 ⟨rfl, hg2⟩
    go_wp2_with fail
    rw [HV.out]
    exact bodyPost_ret (v := valV (some (itoaB weight))) (by simp [results, Tryz.results87, go_sem, valV]) rfl ⟨rfl, only_trans (only_alloc (only_refl _ _) _) hg2⟩
  have q4 := no_list nWeight_list h4
  by_cases h5 : nm = nTrace
  · have HV : Hid (valOf ⟨host, file, beg, fin, lines, time, weight, trace, stream, fields, la, lc, fa, fc⟩ nm = some trace) := Lib.hid (by rw [h5]; rfl)
    have q5 := is_list nTrace_list h5
    clear h1 h2 h3 h4 h5
    go_wp2_with fail
    rw [HV.out]
    exact bodyPost_ret (v := valV (some trace)) (by simp [results, Tryz.results87, go_sem, valV]) rfl ⟨rfl, only_alloc (only_refl _ _) _⟩
  have q5 := no_list nTrace_list h5
  by_cases h6 : nm = nStream
  · have HV : Hid (valOf ⟨host, file, beg, fin, lines, time, weight, trace, stream, fields, la, lc, fa, fc⟩ nm = some stream) := Lib.hid (by rw [h6]; rfl)
    have q6 := is_list nStream_list h6
    clear h1 h2 h3 h4 h5 h6
    go_wp2_with fail
    rw [HV.out]
    exact bodyPost_ret (v := valV (some stream)) (by simp [results, Tryz.results87, go_sem, valV]) rfl ⟨rfl, only_alloc (only_refl _ _) _⟩
  have q6 := no_list nStream_list h6
  have HV : Hid (valOf ⟨host, file, beg, fin, lines, time, weight, trace, stream, fields, la, lc, fa, fc⟩ nm = getF fields nm) := Lib.hid (by unfold valOf; rw [if_neg h1, if_neg h2, if_neg h3, if_neg h4, if_neg h5, if_neg h6])
  clear h1 h2 h3 h4 h5 h6
  go_wp2_with fail
  refine (HG.out _ (only_alloc (only_refl _ _) _)).mono ?_
  obtain ⟨o, ho⟩ : ∃ o, o = getF fields nm := ⟨_, rfl⟩
  rw [← ho] at HV ⊢
  clear ho HG
  rintro e w2 ⟨rfl, hg2⟩
  have G2 := Lib.hid (only_trans (only_alloc (only_refl _ _) _) hg2)
  clear hg2
  cases o with
  | none =>
    simp only [valV]
    go_wp2_with fail
    rw [HV.out]
    exact bodyPost_ret (v := valV none) (by simp [results, Tryz.results87, go_sem, valV]) rfl ⟨rfl, G2.out⟩
  | some s =>
    simp only [valV]
    go_wp2_with fail
    rw [HV.out]
    exact bodyPost_ret (v := valV (some s)) (by simp [results, Tryz.results87, go_sem, valV]) rfl ⟨rfl, G2.out⟩
end Go.Proofs.YtfkgcighooijhaaGreatDoor
