/- Prefix of the reference of chapter 23 (from XDictC). No condition. -/
import Derived.Test.YtceebhgbebkafaaGreatDoorRIdx
import Derived.Test.YtceebhgbebkafaaGreatDoorBoundP
import Derived.Test.YtceebhgbebkafaaGreatDoorRWords
import Derived.Deep.DeepCutAuto
import Derived.Lib.IndexMore
import Derived.Test.YtceebhgbebkafaaGreatDoorTerms
import Derived.Deep.RegionLaw
import Derived.Test.YtceebhgbebkafaaGreatDoorSelect
namespace Go.Proofs.YtceebhgbebkafaaGreatDoor
open Go.RowKit
set_option linter.unusedVariables false
set_option linter.unusedSimpArgs false

def PrefPost (ds : List ByteArray) (t : ByteArray) (w : World) (e : Ending) (w' : World) : Prop :=
  ∃ k : Nat, e = .returned (.tuple #[.int .i64 (ixOf ds t), .int .i64 k]) ∧ ixOf ds t ≤ k ∧ k ≤ ds.length ∧ (∀ i x, ixOf ds t ≤ i → i < k → ds[i]? = some x → hp x t = true) ∧ (∀ x, ds[k]? = some x → hp x t = false) ∧ ∃ n, w' = w.drewN n
set_option maxHeartbeats 1000000 in
theorem rprefix_any {S : Nat → Prop} (A : Option Addr) (ds : List ByteArray) (c : Nat) (t : ByteArray) (w : World) (h : Rd S w A (ds.map .string)) (hl : ds.length ≤ 10000000) :
    Calls Tryz.prog 74 #[.slice A ds.length c, .string t] w (PrefPost ds t w) := by
  have H := Lib.hid h
  clear h
  have hix := ixOf_le ds t
  go_enter Tryz.func74, Tryz.ntmps74
  go_wp2_with fail
  refine (rindex_any A ds c t _ H.out hl).mono ?_
  rintro e w1 ⟨rfl, nq, rfl⟩
  obtain ⟨k0, hk0⟩ : ∃ k0, ixOf ds t = k0 := ⟨_, rfl⟩
  have HK := Lib.hid hk0
  rw [hk0] at hix ⊢
  clear hk0
  go_wp2_with fail
  go_loopw [8] (fun x wr => ∃ k : Nat, k0 ≤ k ∧ k ≤ ds.length ∧ x = .int .i64 k ∧ (∀ i x, k0 ≤ i → i < k → ds[i]? = some x → hp x t = true) ∧ ∃ q, wr = w.drewN q) (fun x _ => ds.length - (intOf x).toNat)
  case atStart => exact ⟨k0, Nat.le_refl _, hix, rfl, (fun i x h1 h2 => absurd h1 (by omega)), _, rfl⟩
  case round =>
    obtain ⟨k, hk1, hk2, rfl, hall, q, rfl⟩ := hrel
    have AL := Lib.hid hall
    clear hall
    by_cases hlt : k < ds.length
    · obtain ⟨b, off, x, rfl, hc, hx⟩ := H.out.str_at hlt
      by_cases hs : hp x t = true
      · go_wp2_with (go_at_call 96; refine (begins_any _ _ _).mono ?_; rintro e w' ⟨rfl, n, rfl⟩)
        go_roundw
        case rel =>
          refine ⟨k + 1, by omega, by omega, by go_num, fun i y h1 h2 hy => ?_, _, rfl⟩
          rcases Nat.lt_or_ge i k with h | h
          · exact AL.out i y h1 h hy
          · obtain rfl : i = k := by omega
            rw [hx.out] at hy; injection hy with hy; rw [← hy]; exact hs
        case measure => simp [intOf]; omega
      · have hs' : hp x t = false := by simpa using hs
        clear hs
        go_wp2_with (go_at_call 96; refine (begins_any _ _ _).mono ?_; rintro e w' ⟨rfl, n, rfl⟩)
        go_ret2
        exact ⟨k, by rw [HK.out]; rfl, by rw [HK.out]; exact hk1, hk2, by rw [HK.out]; exact AL.out, fun y hy => by rw [hx.out] at hy; injection hy with hy; rw [← hy]; exact hs', _, rfl⟩
    · go_wp2_with fail
      go_ret2
      exact ⟨k, by rw [HK.out]; rfl, by rw [HK.out]; exact hk1, hk2, by rw [HK.out]; exact AL.out, (fun y hy => by rw [List.getElem?_eq_none (by omega)] at hy; cases hy), _, rfl⟩

end Go.Proofs.YtceebhgbebkafaaGreatDoor
namespace Go.Proofs.YtceebhgbebkafaaGreatDoor
open Go.RowKit
set_option linter.unusedVariables false
set_option linter.unusedSimpArgs false

theorem natB_str (l : List UInt8) : strOfNums (natB l) = ⟨l.toArray⟩ := by
  have h : (strOfNums (natB l)).toList = (⟨l.toArray⟩ : ByteArray).toList := by
    rw [Lib.strOfNums_toList, ByteArray.toList_eq]
    unfold natB Lib.bytesOf
    have hid : ((fun n : Int => UInt8.ofNat n.toNat) ∘ fun b : UInt8 => (b.toNat : Int)) = id := by funext b; simp
    simp only [List.map_map]
    rw [hid, List.map_id]
  exact toList_inj h
theorem natB_len (l : List UInt8) : (natB l).length = l.length := by simp [natB]
theorem dec_step {u : Nat} (h : 10 ≤ u) (ds : List Int) : natB (Lib.decDigits u) ++ ds = natB (Lib.decDigits (u / 10)) ++ ((48 + (u : Int) % 10) :: ds) := by
  rw [Lib.decDigits, dif_neg (by omega)]
  have h1 : natB (Lib.decDigits (u / 10) ++ [UInt8.ofNat (48 + u % 10)]) = natB (Lib.decDigits (u / 10)) ++ [48 + (u : Int) % 10] := by
    unfold natB
    rw [List.map_append]
    have := dig_toNat (d := u % 10) (by omega)
    simp only [List.map_cons, List.map_nil]
    rw [this]
    congr 2
  rw [h1, List.append_assoc]
  rfl
theorem dec_last {u : Nat} (h : u < 10) (ds : List Int) : natB (Lib.decDigits u) ++ ds = (48 + (u : Int) % 10) :: ds := by
  rw [Lib.decDigits, dif_pos h]
  have := dig_toNat h
  show ((UInt8.ofNat (48 + u)).toNat : Int) :: ds = _
  rw [this]
  congr 1; omega
set_option maxHeartbeats 4000000 in
set_option maxRecDepth 100000 in
theorem decimal_any (n : Int) (w : World) (h0 : 0 ≤ n) (h1 : n < 1000000000000000000) :
    Calls Tryz.prog 75 #[.int .i64 n] w (StrP w (itoaB n)) := by
  obtain ⟨U, rfl⟩ : ∃ u : Nat, n = u := ⟨n.toNat, by omega⟩
  have HI : Hid (itoaB (U : Int) = strOfNums (natB (Lib.decDigits U))) := Lib.hid (by rw [natB_str]; unfold itoaB; rw [Lib.itoa_nonneg])
  have hL : (natB (Lib.decDigits U)).length ≤ 18 := by
    rw [natB_len, Lib.decDigits_length]
    exact nDigits_le 18 U (by omega) (by have : (10 : Nat) ^ 18 = 1000000000000000000 := by decide
                                         omega)
  have HL := Lib.hid hL
  have hU : U < 1000000000000000000 := by omega
  clear hL h0 h1
  go_enter Tryz.func75, Tryz.ntmps75
  go_wp2_with fail
  go_loopw [3, 4] (fun vu vo wr => ∃ (u : Nat) (ds : List Int), vu = .int .u64 u ∧ u ≤ U ∧ wr.ownsRow w.heap.size 5 1 vo ds.length (ds.map (.int .u8)) ∧ Hid (natB (Lib.decDigits u) ++ ds = natB (Lib.decDigits U)) ∧ w.grownBy wr none) (fun vu _ _ => (intOf vu).toNat)
  case atStart => exact ⟨U, [], rfl, Nat.le_refl _, World.ownsRow_nil _ _ _ _, Lib.hid (by simp), only_refl _ _⟩
  case round =>
    obtain ⟨u, ds, rfl, hu, hO, HE, hG⟩ := hrel
    have hdl : ds.length ≤ 18 := by
      have := congrArg List.length HE.out
      rw [List.length_append] at this
      have := HL.out; omega
    obtain ⟨Ao, co, rfl, hoc, hom, -, hro⟩ := Rd.of_own hO (by decide)
    have OO := Lib.hid hO
    have RO := Lib.hid hro
    have G := Lib.hid hG
    have hsz := hG.size
    have hu2 : u < 1000000000000000000 := by omega
    clear hO hG hro
    have q0 : (0 : Int) ≤ (u : Int) % 10 := by omega
    have q1 : (u : Int) % 10 < 10 := by omega
    obtain ⟨dg, hdg⟩ : ∃ x, x = (48 : Int) + (u : Int) % 10 := ⟨_, rfl⟩
    have HDG := Lib.hid hdg
    have OL : Hid ((wr.alloc (.cells #[.int .u8 (48 + (u : Int) % 10)] 5)).ownsRow w.heap.size 5 1 (.slice (some ⟨wr.heap.size, 0, none⟩) 1 1) 1 #[Value.int .u8 (48 + (u : Int) % 10)].toList) := Lib.hid (World.ownsRow_lit wr #[.int .u8 (48 + (u : Int) % 10)] 1 hsz (by unfold maxLen; omega) rfl)
    have RL : Hid (Rd (w.heap.size ≤ ·) (wr.alloc (.cells #[.int .u8 (48 + (u : Int) % 10)] 5)) Ao (ds.map (.int .u8))) := Lib.hid (RO.out.alloc _)
    have hszl : w.heap.size ≤ (wr.alloc (.cells #[.int .u8 (48 + (u : Int) % 10)] 5)).heap.size := by simp; omega
    clear hdg
    by_cases hlast : u < 10
    · have z1 : ((u : Int) / 10 == 0) = true := by rw [beq_iff_eq]; omega
      have HE2 : Hid (((48 + (u : Int) % 10) :: ds) = natB (Lib.decDigits U)) := Lib.hid ((dec_last (u := u) hlast ds).symm.trans HE.out)
      clear hlast
      go_wp2_with (at_builtin; refine wpList_appendN rfl _ _ 22 rfl w.heap.size Tryz.underlying22 u8Info27 rfl (by decide) (v := .slice (some ⟨wr.heap.size, 0, none⟩) 1 1) (by rfl) OL.out Ao ds.length co (by rfl) RL.out (by simp) (by simp [Value.oneCell']) (by decide) (by omega) hszl ?_; intro v7 w7 hown7 hg7 hob7)
      have O7 : Hid (w7.ownsRow w.heap.size 5 1 v7 (natB (Lib.decDigits U)).length ((natB (Lib.decDigits U)).map (.int .u8))) := Lib.hid (by
        rw [← HE2.out, List.length_cons, List.map_cons, Nat.add_comm]; exact hown7)
      have G7 : Hid (w.grownBy w7 none) := Lib.hid (only_own (only_alloc G.out _) hg7 OL.out (Nat.le_refl _))
      obtain ⟨A7, c7, hv, -, -, -, hr7⟩ := Rd.of_own O7.out (by decide)
      have hcv := Lib.BytesIn.convert (P := Tryz.prog) (w := w7) (p := A7) (n := (natB (Lib.decDigits U)).length) (xs := natB (Lib.decDigits U)) (bytesin_rd hr7) rfl c7 22 5 9 Tryz.underlying22 Tryz.underlying5 Tryz.underlying9
      rw [← HI.out, ← hv] at hcv
      clear hown7 hg7 hob7 hv hr7
      rw [hcv]
      clear hcv
      go_simp
      go_wp2_with fail
      go_ret
      exact ⟨rfl, G7.out⟩
    · have z1 : ((u : Int) / 10 == 0) = false := by rw [beq_eq_false_iff_ne]; omega
      have HE2 : Hid (natB (Lib.decDigits (u / 10)) ++ ((48 + (u : Int) % 10) :: ds) = natB (Lib.decDigits U)) := Lib.hid ((dec_step (u := u) (by omega) ds).symm.trans HE.out)
      have hun : 10 ≤ u := by omega
      clear hlast
      go_wp2_with (at_builtin; refine wpList_appendN rfl _ _ 22 rfl w.heap.size Tryz.underlying22 u8Info27 rfl (by decide) (v := .slice (some ⟨wr.heap.size, 0, none⟩) 1 1) (by rfl) OL.out Ao ds.length co (by rfl) RL.out (by simp) (by simp [Value.oneCell']) (by decide) (by omega) hszl ?_; intro v7 w7 hown7 hg7 hob7)
      have O7 : Hid (w7.ownsRow w.heap.size 5 1 v7 ((48 + (u : Int) % 10) :: ds).length (((48 + (u : Int) % 10) :: ds).map (.int .u8))) := Lib.hid (by
        rw [List.length_cons, List.map_cons, Nat.add_comm]; exact hown7)
      have G7 : Hid (w.grownBy w7 none) := Lib.hid (only_own (only_alloc G.out _) hg7 OL.out (Nat.le_refl _))
      clear hown7 hg7 hob7
      go_wp2_with fail
      go_roundw
      case rel => exact ⟨u / 10, (48 + (u : Int) % 10) :: ds, by go_num, by omega, O7.out, HE2, G7.out⟩
      case measure => simp [intOf]; omega
end Go.Proofs.YtceebhgbebkafaaGreatDoor
namespace Go.Proofs.YtceebhgbebkafaaGreatDoor
open Go.RowKit
set_option linter.unusedVariables false
set_option linter.unusedSimpArgs false

theorem nHost_list : nHost.toList = [64, 104, 111, 115, 116] := by kernel_rfl
theorem nFile_list : nFile.toList = [64, 102, 105, 108, 101] := by kernel_rfl
theorem nTime_list : nTime.toList = [64, 116, 105, 109, 101] := by kernel_rfl
theorem nWeight_list : nWeight.toList = [64, 119, 101, 105, 103, 104, 116] := by kernel_rfl
theorem nTrace_list : nTrace.toList = [64, 116, 114, 97, 99, 101] := by kernel_rfl
theorem nStream_list : nStream.toList = [64, 115, 116, 114, 101, 97, 109] := by kernel_rfl
theorem is_list {nm x : ByteArray} {l : List UInt8} (hx : x.toList = l) (h : nm = x) : (nm.toList == l) = true := by rw [h, hx]; simp
theorem no_list {nm x : ByteArray} {l : List UInt8} (hx : x.toList = l) (h : nm ≠ x) : (nm.toList == l) = false := by
  rw [beq_eq_false_iff_ne, ← hx]; exact fun e => h (toList_inj e)
set_option maxHeartbeats 2000000 in
theorem rget_any {S : Nat → Prop} (fa : Option Addr) (fields : List FieldD) (fc : Nat) (nm : ByteArray) (w : World) (hr : Rd S w fa (fields.flatMap FieldD.cells)) (hl : fields.length ≤ 1000000) :
    Calls Tryz.prog 76 #[.slice fa fields.length fc, .string nm] w (ValP w (getF fields nm)) := by
  have HR := Lib.hid hr
  clear hr
  go_enter Tryz.func76, Tryz.ntmps76
  go_wp2_with fail
  go_loopw [6] (fun i wr => ∃ k : Nat, i = .int .i64 k ∧ k ≤ fields.length ∧ Hid (getF fields nm = getF (fields.drop k) nm) ∧ w.grownBy wr none) (fun i _ => fields.length - (intOf i).toNat)
  case atStart => exact ⟨0, rfl, Nat.zero_le _, Lib.hid rfl, only_refl _ _⟩
  case round =>
    obtain ⟨k, rfl, hk, HN, hG⟩ := hrel
    have G := Lib.hid hG
    clear hG
    by_cases hlt : k < fields.length
    · obtain ⟨y, hy⟩ : ∃ y, fields[k]? = some y := ⟨_, List.getElem?_eq_getElem hlt⟩
      obtain ⟨kb, ko, rfl, hkw, z0, z1⟩ := fld_in (HR.out.grown G.out (by simp)) hy
      have hd : fields.drop k = y :: fields.drop (k + 1) := by
        rw [List.getElem?_eq_getElem hlt] at hy
        injection hy with hy
        rw [← List.getElem_cons_drop hlt, hy]
      have i1 : (k : Int) < (fields.length : Int) := by omega
      by_cases he : y.name = nm
      · have q1 : (y.name.toList == nm.toList) = true := by rw [he]; simp
        have HV : Hid (getF fields nm = some y.value) := Lib.hid (by rw [HN.out, hd, getF, if_pos he])
        clear hy hd he
        go_wp2_with fail
        rw [HV.out]
        exact bodyPost_ret (v := valV (some y.value)) (by simp [results, Tryz.results76, go_sem, valV]) rfl ⟨rfl, G.out⟩
      · have q1 : (y.name.toList == nm.toList) = false := str_ne he
        have HV : Hid (getF fields nm = getF (fields.drop (k + 1)) nm) := Lib.hid (by rw [HN.out, hd, getF, if_neg he])
        clear hy hd he
        go_wp2_with fail
        go_roundw
        case rel => exact ⟨k + 1, by go_num, by omega, HV, G.out⟩
        case measure => simp [intOf]; omega
    · have i1 : ¬ (k : Int) < (fields.length : Int) := by omega
      have HV : Hid (getF fields nm = none) := Lib.hid (by rw [HN.out, List.drop_eq_nil_of_le (by omega)]; rfl)
      go_wp2_with fail
      rw [HV.out]
      exact bodyPost_ret (v := valV none) (by simp [results, Tryz.results76, go_sem, valV]) rfl ⟨rfl, G.out⟩
def N18 (n : Int) : Prop := 0 ≤ n ∧ n < 1000000000000000000
def EvN (e : Ev) : Prop := N18 e.host ∧ N18 e.file ∧ N18 e.time ∧ N18 e.weight
set_option maxHeartbeats 4000000 in
set_option maxRecDepth 100000 in
theorem rval_any {S : Nat → Prop} (e : Ev) (nm : ByteArray) (w : World) (hs : e.Sub S w) (hi : EvN e) (hl : e.fields.length ≤ 1000000) :
    Calls Tryz.prog 38 #[.agg e.cells.toArray, .string nm] w (ValP w (valOf e nm)) := by
  have HG : Hid (∀ w', w.grownBy w' none → Calls Tryz.prog 76 #[.slice e.fa e.fields.length e.fc, .string nm] w' (ValP w' (getF e.fields nm))) := fun w' hg => rget_any e.fa e.fields e.fc nm w' (hs.2.1.grown hg (by simp)) hl
  have HI := Lib.hid hi
  clear hs hi hl
  obtain ⟨host, file, beg, fin, lines, time, weight, trace, stream, fields, la, lc, fa, fc⟩ := e
  simp only at HG
  have hcl : (Ev.mk host file beg fin lines time weight trace stream fields la lc fa fc).cells.toArray = #[.int .i64 host, .int .i64 file, .int .i64 beg, .int .i64 fin, .slice la lines.length lc, .int .i64 time, .int .i64 weight, .string trace, .string stream, .slice fa fields.length fc] := rfl
  rw [hcl]
  clear hcl
  go_enter Tryz.func38, Tryz.ntmps38
  by_cases h1 : nm = nHost
  · have HV : Hid (valOf ⟨host, file, beg, fin, lines, time, weight, trace, stream, fields, la, lc, fa, fc⟩ nm = some (itoaB host)) := Lib.hid (by rw [h1]; rfl)
    have q1 := is_list nHost_list h1
    clear h1
    go_wp2_with fail
    refine (decimal_any host _ HI.out.1.1 HI.out.1.2).mono ?_
    rintro en w2 ⟨rfl, hg2⟩
    go_wp2_with fail
    rw [HV.out]
    exact bodyPost_ret (v := valV (some (itoaB host))) (by simp [results, Tryz.results38, go_sem, valV]) rfl ⟨rfl, only_trans (only_alloc (only_refl _ _) _) hg2⟩
  have q1 := no_list nHost_list h1
  by_cases h2 : nm = nFile
  · have HV : Hid (valOf ⟨host, file, beg, fin, lines, time, weight, trace, stream, fields, la, lc, fa, fc⟩ nm = some (itoaB file)) := Lib.hid (by rw [h2]; rfl)
    have q2 := is_list nFile_list h2
    clear h1 h2
    go_wp2_with fail
    refine (decimal_any file _ HI.out.2.1.1 HI.out.2.1.2).mono ?_
    rintro en w2 ⟨rfl, hg2⟩
    go_wp2_with fail
    rw [HV.out]
    exact bodyPost_ret (v := valV (some (itoaB file))) (by simp [results, Tryz.results38, go_sem, valV]) rfl ⟨rfl, only_trans (only_alloc (only_refl _ _) _) hg2⟩
  have q2 := no_list nFile_list h2
  by_cases h3 : nm = nTime
  · have HV : Hid (valOf ⟨host, file, beg, fin, lines, time, weight, trace, stream, fields, la, lc, fa, fc⟩ nm = some (itoaB time)) := Lib.hid (by rw [h3]; rfl)
    have q3 := is_list nTime_list h3
    clear h1 h2 h3
    go_wp2_with fail
    refine (decimal_any time _ HI.out.2.2.1.1 HI.out.2.2.1.2).mono ?_
    rintro en w2 ⟨rfl, hg2⟩
    go_wp2_with fail
    rw [HV.out]
    exact bodyPost_ret (v := valV (some (itoaB time))) (by simp [results, Tryz.results38, go_sem, valV]) rfl ⟨rfl, only_trans (only_alloc (only_refl _ _) _) hg2⟩
  have q3 := no_list nTime_list h3
  by_cases h4 : nm = nWeight
  · have HV : Hid (valOf ⟨host, file, beg, fin, lines, time, weight, trace, stream, fields, la, lc, fa, fc⟩ nm = some (itoaB weight)) := Lib.hid (by rw [h4]; rfl)
    have q4 := is_list nWeight_list h4
    clear h1 h2 h3 h4
    go_wp2_with fail
    refine (decimal_any weight _ HI.out.2.2.2.1 HI.out.2.2.2.2).mono ?_
    rintro en w2 ⟨rfl, hg2⟩
    go_wp2_with fail
    rw [HV.out]
    exact bodyPost_ret (v := valV (some (itoaB weight))) (by simp [results, Tryz.results38, go_sem, valV]) rfl ⟨rfl, only_trans (only_alloc (only_refl _ _) _) hg2⟩
  have q4 := no_list nWeight_list h4
  by_cases h5 : nm = nTrace
  · have HV : Hid (valOf ⟨host, file, beg, fin, lines, time, weight, trace, stream, fields, la, lc, fa, fc⟩ nm = some trace) := Lib.hid (by rw [h5]; rfl)
    have q5 := is_list nTrace_list h5
    clear h1 h2 h3 h4 h5
    go_wp2_with fail
    rw [HV.out]
    exact bodyPost_ret (v := valV (some trace)) (by simp [results, Tryz.results38, go_sem, valV]) rfl ⟨rfl, only_alloc (only_refl _ _) _⟩
  have q5 := no_list nTrace_list h5
  by_cases h6 : nm = nStream
  · have HV : Hid (valOf ⟨host, file, beg, fin, lines, time, weight, trace, stream, fields, la, lc, fa, fc⟩ nm = some stream) := Lib.hid (by rw [h6]; rfl)
    have q6 := is_list nStream_list h6
    clear h1 h2 h3 h4 h5 h6
    go_wp2_with fail
    rw [HV.out]
    exact bodyPost_ret (v := valV (some stream)) (by simp [results, Tryz.results38, go_sem, valV]) rfl ⟨rfl, only_alloc (only_refl _ _) _⟩
  have q6 := no_list nStream_list h6
  have HV : Hid (valOf ⟨host, file, beg, fin, lines, time, weight, trace, stream, fields, la, lc, fa, fc⟩ nm = getF fields nm) := Lib.hid (by unfold valOf; rw [if_neg h1, if_neg h2, if_neg h3, if_neg h4, if_neg h5, if_neg h6])
  clear h1 h2 h3 h4 h5 h6
  go_wp2_with fail
  refine (HG.out _ (only_alloc (only_refl _ _) _)).mono ?_
  obtain ⟨o, ho⟩ : ∃ o, o = getF fields nm := ⟨_, rfl⟩
  rw [← ho] at HV ⊢
  clear ho HG
  rintro e w2 ⟨rfl, hg2⟩
  have G2 := Lib.hid (only_trans (only_alloc (only_refl _ _) _) hg2)
  clear hg2
  cases o with
  | none =>
    simp only [valV]
    go_wp2_with fail
    rw [HV.out]
    exact bodyPost_ret (v := valV none) (by simp [results, Tryz.results38, go_sem, valV]) rfl ⟨rfl, G2.out⟩
  | some s =>
    simp only [valV]
    go_wp2_with fail
    rw [HV.out]
    exact bodyPost_ret (v := valV (some s)) (by simp [results, Tryz.results38, go_sem, valV]) rfl ⟨rfl, G2.out⟩
/-- a digit -/
theorem digit_any (x : Int) (w : World) (h0 : 0 ≤ x) (h1 : x ≤ 255) : Calls Tryz.prog 127 #[.int .u8 x] w (fun e w' => e = .returned (.bool (decide (48 ≤ x ∧ x ≤ 57))) ∧ w' = w) := by
  by_cases c1 : 48 ≤ x
  · by_cases c2 : x ≤ 57
    · have hv : decide (48 ≤ x ∧ x ≤ 57) = true := by simp [c1, c2]
      rw [hv]
      go_enter Tryz.func127, Tryz.ntmps127
      go_wp2_with fail
      go_ret
      exact ⟨by simp, rfl⟩
    · have hv : decide (48 ≤ x ∧ x ≤ 57) = false := by simp [c2]
      rw [hv]
      go_enter Tryz.func127, Tryz.ntmps127
      go_wp2_with fail
      go_ret
      exact ⟨by simp, rfl⟩
  · have hv : decide (48 ≤ x ∧ x ≤ 57) = false := by simp [c1]
    rw [hv]
    go_enter Tryz.func127, Tryz.ntmps127
    go_wp2_with fail
    go_ret
    exact ⟨by simp, rfl⟩
end Go.Proofs.YtceebhgbebkafaaGreatDoor
namespace Go.Proofs.YtceebhgbebkafaaGreatDoor
open Go.RowKit
set_option linter.unusedVariables false
set_option linter.unusedSimpArgs false

theorem minus_at (s : ByteArray) (h : 0 < s.size) : minusB s = decide (((s[0]'h).toNat : Int) = 45) := by
  unfold minusB
  obtain ⟨⟨l⟩⟩ := s
  cases l with
  | nil => simp [ByteArray.size] at h
  | cons x xs =>
    show Lib.hasPrefix (x :: xs) [45] = decide ((x.toNat : Int) = 45)
    rw [Bool.eq_iff_iff]
    simp [Lib.hasPrefix]
    constructor
    · rintro rfl; rfl
    · intro e; exact (UInt8.toNat_inj.1 (by simp; omega))
theorem ext_bts (s : ByteArray) : bts (s.extract 1 s.size) = (bts s).drop 1 := by
  unfold bts
  rw [ByteArray.data_extract, Array.toList_extract, ← List.map_drop]
  congr 1
  show List.extract s.data.toList 1 s.size = _
  rw [List.extract_eq_take_drop, List.take_of_length_le]
  rw [List.length_drop]; exact Nat.le_refl _
set_option maxHeartbeats 4000000 in
set_option maxRecDepth 100000 in
theorem rnumA (s : ByteArray) (w : World) (hs : s.size ≤ 1000000) (hm : minusB s = false) :
    Calls Tryz.prog 97 #[.string s] w (NumP w (parseN s)) := by
  have HM := Lib.hid hm
  have HDO : Hid (digsOf s = bts s) := Lib.hid (by unfold digsOf; rw [hm]; rfl)
  have HL : Hid ((digsOf s).length = s.size) := Lib.hid (by rw [HDO.out, btsN_size])
  obtain ⟨d, hd⟩ : ∃ d, d = s := ⟨_, rfl⟩
  have HB : Hid (bts d = digsOf s) := Lib.hid (by rw [hd, HDO.out])
  subst hd
  by_cases h0 : d.size = 0
  · have HV : Hid (parseN d = none) := Lib.hid (by unfold parseN; rw [HL.out, if_pos (by omega)])
    have i0 : ¬ (0 : Int) < (d.size : Int) := by omega
    have i1 : (d.size : Int) < 1 := by omega
    have e0 : d.toList = [] := List.eq_nil_of_length_eq_zero (by rw [bts_size]; exact h0)
    clear hm
    go_enter Tryz.func97, Tryz.ntmps97
    go_wp2_with fail
    rw [HV.out]
    exact bodyPost_ret (v := numV none) (by simp [results, Tryz.results97, go_sem, numV]) rfl ⟨rfl, only_refl _ _⟩
  have hs0 : 0 < d.size := by omega
  have i0 : (0 : Int) < (d.size : Int) := by omega
  have hne : ¬ ((d[0]'hs0).toNat : Int) = 45 := by
    rw [minus_at d hs0] at hm
    simpa using hm
  have g1 : (((d[0]'hs0).toNat : Int) == 45) = false := by rw [beq_eq_false_iff_ne]; exact hne
  have e1 : d.toList.isEmpty = false := by
    cases h : d.toList with
    | nil => have := bts_size d; rw [h] at this; simp at this; omega
    | cons x xs => rfl
  clear hm h0 hne
  go_enter Tryz.func97, Tryz.ntmps97
  go_upto_region 4 with fail
  by_cases hlen : d.size < 1 ∨ 18 < d.size
  · have HV : Hid (parseN d = none) := Lib.hid (by unfold parseN; rw [HL.out, if_pos hlen])
    rcases hlen with h1 | h1
    · have i1 : (d.size : Int) < 1 := by omega
      go_wp2_with fail
      rw [HV.out]
      exact bodyPost_ret (v := numV none) (by simp [results, Tryz.results97, go_sem, numV]) rfl ⟨rfl, only_refl _ _⟩
    · have i1 : ¬ (d.size : Int) < 1 := by omega
      have i2 : (18 : Int) < (d.size : Int) := by omega
      go_wp2_with fail
      rw [HV.out]
      exact bodyPost_ret (v := numV none) (by simp [results, Tryz.results97, go_sem, numV]) rfl ⟨rfl, only_refl _ _⟩
  · have i1 : ¬ (d.size : Int) < 1 := by omega
    have i2 : ¬ (18 : Int) < (d.size : Int) := by omega
    have hd1 : 1 ≤ d.size := by omega
    have hd2 : d.size ≤ 18 := by omega
    have HV : Hid (parseN d = (numF (bts d) 0).map (fun n => if minusB d then -n else n)) := Lib.hid (by unfold parseN; rw [HL.out, if_neg hlen, HB.out])
    have HX : Hid (∀ x ∈ bts d, 0 ≤ x ∧ x ≤ 255) := Lib.hid (fun x hx => by
      unfold bts at hx
      obtain ⟨b, _, rfl⟩ := List.mem_map.1 hx
      have := b.toNat_lt
      omega)
    have HBL := Lib.hid (btsN_size d)
    clear hlen
    go_wp2_with fail
    go_loopw [5, 6] (fun vn i wr => ∃ (k : Nat) (n : Int), i = .int .i64 k ∧ vn = .int .i64 n ∧ k ≤ d.size ∧ Hid (numF (bts d) 0 = numF ((bts d).drop k) n) ∧ 0 ≤ n ∧ Hid (n < 10 ^ k) ∧ w.grownBy wr none) (fun _ i _ => d.size - (intOf i).toNat)
    case atStart => exact ⟨0, 0, rfl, rfl, Nat.zero_le _, Lib.hid rfl, Int.le_refl _, Lib.hid (by decide), only_refl _ _⟩
    case round =>
      obtain ⟨k, n, rfl, rfl, hk, HF, hn0, HP, hG⟩ := hrel
      have G1 := Lib.hid hG
      clear hG
      have hn1 : n < 1000000000000000000 := Int.lt_of_lt_of_le HP.out (ten_pow (by omega))
      by_cases hlt : k < d.size
      · have hx := bts_at d hlt
        obtain ⟨hx0, hx1⟩ := HX.out _ (List.mem_of_getElem? hx)
        have hd : (bts d).drop k = ((d[k]'hlt).toNat : Int) :: (bts d).drop (k + 1) := by
          obtain ⟨hkl, e⟩ := List.getElem?_eq_some_iff.1 hx
          rw [← List.getElem_cons_drop hkl, e]
        have HD := Lib.hid hd
        have j1 : (k : Int) < (d.size : Int) := by omega
        have KD := Lib.hid (fun w' => digit_any ((d[k]'hlt).toNat : Int) w' hx0 hx1)
        clear hx hd
        by_cases hdig : 48 ≤ ((d[k]'hlt).toNat : Int) ∧ ((d[k]'hlt).toNat : Int) ≤ 57
        · obtain ⟨c1, c2⟩ := hdig
          have hn2 : n < 100000000000000000 := Int.lt_of_lt_of_le HP.out (by
            have : (10 : Nat) ^ k ≤ 10 ^ 17 := Nat.pow_le_pow_right (by omega) (by omega)
            have h2 : ((10 ^ k : Nat) : Int) ≤ ((10 ^ 17 : Nat) : Int) := Int.ofNat_le.2 this
            simpa using h2)
          have HF2 : Hid (numF (bts d) 0 = numF ((bts d).drop (k + 1)) (10 * n + (((d[k]'hlt).toNat : Int) - 48))) := Lib.hid (by rw [HF.out, HD.out, numF, if_pos ⟨c1, c2⟩])
          have HP2 : Hid (10 * n + (((d[k]'hlt).toNat : Int) - 48) < 10 ^ (k + 1)) := Lib.hid (by
            have := HP.out
            rw [Int.pow_succ]; omega)
          have hdv : decide (48 ≤ ((d[k]'hlt).toNat : Int) ∧ ((d[k]'hlt).toNat : Int) ≤ 57) = true := by simp [c1, c2]
          rw [hdv] at KD
          clear hn1 hdv
          go_wp2_with fail
          refine (KD.out _).mono ?_
          rintro e w2 ⟨rfl, rfl⟩
          go_wp2_with fail
          go_roundw
          case rel => exact ⟨k + 1, 10 * n + (((d[k]'hlt).toNat : Int) - 48), by go_num, by go_num, by omega, HF2, by omega, HP2, G1.out⟩
          case measure => simp [intOf]; omega
        · have HF2 : Hid (parseN d = none) := Lib.hid (by rw [HV.out, HF.out, HD.out, numF, if_neg hdig]; rfl)
          have hdv : decide (48 ≤ ((d[k]'hlt).toNat : Int) ∧ ((d[k]'hlt).toNat : Int) ≤ 57) = false := by rw [decide_eq_false_iff_not]; exact hdig
          rw [hdv] at KD
          clear hdig hdv
          go_wp2_with fail
          refine (KD.out _).mono ?_
          rintro e w2 ⟨rfl, rfl⟩
          go_wp2_with fail
          rw [HF2.out]
          exact bodyPost_ret (v := numV none) (by simp [results, Tryz.results97, go_sem, numV]) rfl ⟨rfl, G1.out⟩
      · have j1 : ¬ (k : Int) < (d.size : Int) := by omega
        have HF2 : Hid (numF (bts d) 0 = some n) := Lib.hid (by rw [HF.out, List.drop_eq_nil_of_le (by rw [HBL.out]; omega)]; rfl)
        have HR : Hid (parseN d = some (n)) := Lib.hid (by rw [HV.out, HF2.out]; simp [HM.out])
        go_wp2_with fail
        rw [HR.out]
        exact bodyPost_ret (v := numV (some (n))) (by simp [results, Tryz.results97, go_sem, numV]) rfl ⟨rfl, G1.out⟩
set_option maxHeartbeats 4000000 in
set_option maxRecDepth 100000 in
theorem rnumB (s : ByteArray) (w : World) (hs : s.size ≤ 1000000) (hm : minusB s = true) :
    Calls Tryz.prog 97 #[.string s] w (NumP w (parseN s)) := by
  have HM := Lib.hid hm
  have hs0 : 0 < s.size := by
    rcases Nat.eq_zero_or_pos s.size with h | h
    · have e0 : s.data.toList = [] := List.eq_nil_of_length_eq_zero h
      unfold minusB at hm
      rw [e0] at hm; cases hm
    · exact h
  have heq : ((s[0]'hs0).toNat : Int) = 45 := by
    rw [minus_at s hs0] at hm
    simpa using hm
  have g1 : (((s[0]'hs0).toNat : Int) == 45) = true := by rw [heq]; rfl
  have i0 : (0 : Int) < (s.size : Int) := by omega
  have e1 : s.toList.isEmpty = false := by
    cases h : s.toList with
    | nil => have := bts_size s; rw [h] at this; simp at this; omega
    | cons x xs => rfl
  obtain ⟨d, hd⟩ : ∃ d, d = s.extract 1 s.size := ⟨_, rfl⟩
  have HB : Hid (bts d = digsOf s) := Lib.hid (by rw [hd, ext_bts]; unfold digsOf; rw [hm]; rfl)
  have hds : d.size = s.size - 1 := by rw [← btsN_size, hd, ext_bts, List.length_drop, btsN_size]
  have HL : Hid ((digsOf s).length = d.size) := Lib.hid (by rw [← HB.out, btsN_size])
  have hdlt : d.size < s.size := by omega
  have hdl2 : (d.size : Int) < (s.size : Int) := by omega
  clear hm heq hds
  go_enter Tryz.func97, Tryz.ntmps97
  go_upto_region 4 with fail
  try rw [← hd]
  clear hd
  by_cases hlen : d.size < 1 ∨ 18 < d.size
  · have HV : Hid (parseN s = none) := Lib.hid (by unfold parseN; rw [HL.out, if_pos hlen])
    rcases hlen with h1 | h1
    · have i1 : (d.size : Int) < 1 := by omega
      go_wp2_with fail
      rw [HV.out]
      exact bodyPost_ret (v := numV none) (by simp [results, Tryz.results97, go_sem, numV]) rfl ⟨rfl, only_refl _ _⟩
    · have i1 : ¬ (d.size : Int) < 1 := by omega
      have i2 : (18 : Int) < (d.size : Int) := by omega
      go_wp2_with fail
      rw [HV.out]
      exact bodyPost_ret (v := numV none) (by simp [results, Tryz.results97, go_sem, numV]) rfl ⟨rfl, only_refl _ _⟩
  · have i1 : ¬ (d.size : Int) < 1 := by omega
    have i2 : ¬ (18 : Int) < (d.size : Int) := by omega
    have hd1 : 1 ≤ d.size := by omega
    have hd2 : d.size ≤ 18 := by omega
    have HV : Hid (parseN s = (numF (bts d) 0).map (fun n => if minusB s then -n else n)) := Lib.hid (by unfold parseN; rw [HL.out, if_neg hlen, HB.out])
    have HX : Hid (∀ x ∈ bts d, 0 ≤ x ∧ x ≤ 255) := Lib.hid (fun x hx => by
      unfold bts at hx
      obtain ⟨b, _, rfl⟩ := List.mem_map.1 hx
      have := b.toNat_lt
      omega)
    have HBL := Lib.hid (btsN_size d)
    clear hlen
    go_wp2_with fail
    go_loopw [5, 6] (fun vn i wr => ∃ (k : Nat) (n : Int), i = .int .i64 k ∧ vn = .int .i64 n ∧ k ≤ d.size ∧ Hid (numF (bts d) 0 = numF ((bts d).drop k) n) ∧ 0 ≤ n ∧ Hid (n < 10 ^ k) ∧ w.grownBy wr none) (fun _ i _ => d.size - (intOf i).toNat)
    case atStart => exact ⟨0, 0, rfl, rfl, Nat.zero_le _, Lib.hid rfl, Int.le_refl _, Lib.hid (by decide), only_refl _ _⟩
    case round =>
      obtain ⟨k, n, rfl, rfl, hk, HF, hn0, HP, hG⟩ := hrel
      have G1 := Lib.hid hG
      clear hG
      have hn1 : n < 1000000000000000000 := Int.lt_of_lt_of_le HP.out (ten_pow (by omega))
      by_cases hlt : k < d.size
      · have hx := bts_at d hlt
        obtain ⟨hx0, hx1⟩ := HX.out _ (List.mem_of_getElem? hx)
        have hd : (bts d).drop k = ((d[k]'hlt).toNat : Int) :: (bts d).drop (k + 1) := by
          obtain ⟨hkl, e⟩ := List.getElem?_eq_some_iff.1 hx
          rw [← List.getElem_cons_drop hkl, e]
        have HD := Lib.hid hd
        have j1 : (k : Int) < (d.size : Int) := by omega
        have KD := Lib.hid (fun w' => digit_any ((d[k]'hlt).toNat : Int) w' hx0 hx1)
        clear hx hd
        by_cases hdig : 48 ≤ ((d[k]'hlt).toNat : Int) ∧ ((d[k]'hlt).toNat : Int) ≤ 57
        · obtain ⟨c1, c2⟩ := hdig
          have hn2 : n < 100000000000000000 := Int.lt_of_lt_of_le HP.out (by
            have : (10 : Nat) ^ k ≤ 10 ^ 17 := Nat.pow_le_pow_right (by omega) (by omega)
            have h2 : ((10 ^ k : Nat) : Int) ≤ ((10 ^ 17 : Nat) : Int) := Int.ofNat_le.2 this
            simpa using h2)
          have HF2 : Hid (numF (bts d) 0 = numF ((bts d).drop (k + 1)) (10 * n + (((d[k]'hlt).toNat : Int) - 48))) := Lib.hid (by rw [HF.out, HD.out, numF, if_pos ⟨c1, c2⟩])
          have HP2 : Hid (10 * n + (((d[k]'hlt).toNat : Int) - 48) < 10 ^ (k + 1)) := Lib.hid (by
            have := HP.out
            rw [Int.pow_succ]; omega)
          have hdv : decide (48 ≤ ((d[k]'hlt).toNat : Int) ∧ ((d[k]'hlt).toNat : Int) ≤ 57) = true := by simp [c1, c2]
          rw [hdv] at KD
          clear hn1 hdv
          go_wp2_with fail
          refine (KD.out _).mono ?_
          rintro e w2 ⟨rfl, rfl⟩
          go_wp2_with fail
          go_roundw
          case rel => exact ⟨k + 1, 10 * n + (((d[k]'hlt).toNat : Int) - 48), by go_num, by go_num, by omega, HF2, by omega, HP2, G1.out⟩
          case measure => simp [intOf]; omega
        · have HF2 : Hid (parseN s = none) := Lib.hid (by rw [HV.out, HF.out, HD.out, numF, if_neg hdig]; rfl)
          have hdv : decide (48 ≤ ((d[k]'hlt).toNat : Int) ∧ ((d[k]'hlt).toNat : Int) ≤ 57) = false := by rw [decide_eq_false_iff_not]; exact hdig
          rw [hdv] at KD
          clear hdig hdv
          go_wp2_with fail
          refine (KD.out _).mono ?_
          rintro e w2 ⟨rfl, rfl⟩
          go_wp2_with fail
          rw [HF2.out]
          exact bodyPost_ret (v := numV none) (by simp [results, Tryz.results97, go_sem, numV]) rfl ⟨rfl, G1.out⟩
      · have j1 : ¬ (k : Int) < (d.size : Int) := by omega
        have HF2 : Hid (numF (bts d) 0 = some n) := Lib.hid (by rw [HF.out, List.drop_eq_nil_of_le (by rw [HBL.out]; omega)]; rfl)
        have HR : Hid (parseN s = some (-n)) := Lib.hid (by rw [HV.out, HF2.out]; simp [HM.out])
        go_wp2_with fail
        rw [HR.out]
        exact bodyPost_ret (v := numV (some (-n))) (by simp [results, Tryz.results97, go_sem, numV]) rfl ⟨rfl, G1.out⟩
theorem rnum_any (s : ByteArray) (w : World) (hs : s.size ≤ 1000000) :
    Calls Tryz.prog 97 #[.string s] w (NumP w (parseN s)) := by
  cases h : minusB s with
  | true => exact rnumB s w hs h
  | false => exact rnumA s w hs h
end Go.Proofs.YtceebhgbebkafaaGreatDoor
namespace Go.Proofs.YtceebhgbebkafaaGreatDoor
open Go.RowKit
set_option linter.unusedVariables false
set_option linter.unusedSimpArgs false

set_option maxHeartbeats 1000000 in
theorem rparse_any (s : ByteArray) (w : World) (hs : s.size ≤ 1000000) :
    Calls Tryz.prog 77 #[.string s] w (NumP w (parseN s)) := by
  have HN := Lib.hid (rnum_any s w hs)
  obtain ⟨o, ho⟩ : ∃ o, o = parseN s := ⟨_, rfl⟩
  rw [← ho] at HN ⊢
  clear ho
  go_enter Tryz.func77, Tryz.ntmps77
  go_wp2_with fail
  refine HN.out.mono ?_
  rintro e w1 ⟨rfl, hg⟩
  cases o with
  | none =>
    simp only [numV]
    go_wp2_with fail
    exact bodyPost_ret (v := numV none) (by simp [results, Tryz.results77, go_sem, numV]) rfl ⟨rfl, hg⟩
  | some n =>
    simp only [numV]
    go_wp2_with fail
    exact bodyPost_ret (v := numV (some n)) (by simp [results, Tryz.results77, go_sem, numV]) rfl ⟨rfl, hg⟩
set_option maxHeartbeats 2000000 in
theorem rnumber_any {S : Nat → Prop} (e : Ev) (nm : ByteArray) (w : World) (hs : e.Sub S w) (hv : EvV e) (hi : EvN e) :
    Calls Tryz.prog 39 #[.agg e.cells.toArray, .string nm] w (NumP w (numOf e nm)) := by
  have HV : Hid (∀ w', w.grownBy w' none → Calls Tryz.prog 38 #[.agg e.cells.toArray, .string nm] w' (ValP w' (valOf e nm))) := fun w' hg => rval_any e nm w' (hs.grown hg (by simp)) hi hv.1.2.2.2.2
  have HZ : Hid (∀ v, valOf e nm = some v → v.size ≤ 1000) := Lib.hid (fun v h => valOf_size hv h)
  have HQ : Hid (numOf e nm = (valOf e nm).bind parseN) := Lib.hid rfl
  obtain ⟨o, ho⟩ : ∃ o, o = valOf e nm := ⟨_, rfl⟩
  obtain ⟨q, hq⟩ : ∃ q, q = numOf e nm := ⟨_, rfl⟩
  rw [← ho] at HV HZ HQ
  rw [← hq] at HQ ⊢
  clear ho hq hs hi hv
  obtain ⟨host, file, beg, fin, lines, time, weight, trace, stream, fields, la, lc, fa, fc⟩ := e
  have hcl : (Ev.mk host file beg fin lines time weight trace stream fields la lc fa fc).cells.toArray = #[.int .i64 host, .int .i64 file, .int .i64 beg, .int .i64 fin, .slice la lines.length lc, .int .i64 time, .int .i64 weight, .string trace, .string stream, .slice fa fields.length fc] := rfl
  rw [hcl] at HV ⊢
  clear hcl
  go_enter Tryz.func39, Tryz.ntmps39
  go_wp2_with fail
  refine (HV.out _ (only_alloc (only_refl _ _) _)).mono ?_
  rintro e w1 ⟨rfl, hg1⟩
  have G1 : Hid (w.grownBy w1 none) := only_trans (only_alloc (only_refl _ _) _) hg1
  clear hg1
  cases o with
  | none =>
    have HQ2 : Hid (q = none) := Lib.hid (by rw [HQ.out]; rfl)
    simp only [valV]
    go_wp2_with fail
    rw [HQ2.out]
    exact bodyPost_ret (v := numV none) (by simp [results, Tryz.results39, go_sem, numV]) rfl ⟨rfl, G1.out⟩
  | some s =>
    have HQ2 : Hid (q = parseN s) := Lib.hid (by rw [HQ.out]; rfl)
    have HPS := Lib.hid (rparse_any s w1 (by have := HZ.out s rfl; omega))
    simp only [valV]
    go_wp2_with fail
    refine HPS.out.mono ?_
    obtain ⟨p, hp⟩ : ∃ p, p = parseN s := ⟨_, rfl⟩
    rw [← hp] at HQ2 ⊢
    clear hp HPS
    rintro e w2 ⟨rfl, hg2⟩
    have G2 := Lib.hid (only_trans G1.out hg2)
    clear hg2
    cases p with
    | none =>
      simp only [numV]
      go_wp2_with fail
      rw [HQ2.out]
      exact bodyPost_ret (v := numV none) (by simp [results, Tryz.results39, go_sem, numV]) rfl ⟨rfl, G2.out⟩
    | some n =>
      simp only [numV]
      go_wp2_with fail
      rw [HQ2.out]
      exact bodyPost_ret (v := numV (some n)) (by simp [results, Tryz.results39, go_sem, numV]) rfl ⟨rfl, G2.out⟩
theorem ext_list (s : ByteArray) (i j : Nat) : (s.extract i j).toList = (s.data.toList.drop i).take (j - i) := by
  rw [ByteArray.toList_eq, ByteArray.data_extract, Array.toList_extract, List.extract_eq_take_drop]
theorem occ_ext (s t : ByteArray) (k : Nat) : ((s.extract k (k + t.size)).toList == t.toList) = Lib.occAt s.data.toList t.data.toList k := by
  rw [ext_list, show k + t.size - k = t.size by omega, ByteArray.toList_eq]
  unfold Lib.occAt
  rw [Bool.eq_iff_iff, beq_iff_eq, List.isPrefixOf_iff_prefix, List.prefix_iff_eq_take]
  show List.take t.data.toList.length _ = _ ↔ _
  exact eq_comm
set_option maxHeartbeats 2000000 in
theorem rcont_any (s t : ByteArray) (w : World) (hs : s.size ≤ 1000000) (ht : t.size ≤ 1000000) :
    Calls Tryz.prog 37 #[.string s, .string t] w (fun e w' => e = .returned (.bool (Lib.contains s.data.toList t.data.toList)) ∧ w' = w) := by
  have HC : Hid (∀ i : Nat, i + t.size ≤ s.size → Lib.occAt s.data.toList t.data.toList i = true → Lib.contains s.data.toList t.data.toList = true) := Lib.hid (fun i hi ho => by
    unfold Lib.contains
    rw [decide_eq_true_iff]
    rcases Lib.index_spec s.data.toList t.data.toList with ⟨h1, h2⟩ | ⟨j, h1, _⟩
    · have h3 : s.data.toList.length = s.size := rfl
      rw [h2 i (by omega)] at ho; cases ho
    · rw [h1]; omega)
  have HN : Hid (∀ k : Nat, s.size < k + t.size → (∀ j, j < k → Lib.occAt s.data.toList t.data.toList j = false) → Lib.contains s.data.toList t.data.toList = false) := Lib.hid (fun k hk hno => by
    unfold Lib.contains
    rw [decide_eq_false_iff_not]
    intro h0
    rcases Lib.index_spec s.data.toList t.data.toList with ⟨h1, _⟩ | ⟨j, h1, h2, h3, _⟩
    · omega
    · have hr := Lib.index_room _ _ h0
      have e1 : s.data.toList.length = s.size := rfl
      have e2 : t.data.toList.length = t.size := rfl
      rw [h1, e1, e2] at hr
      rw [hno j (by omega)] at h3; cases h3)
  obtain ⟨R, hR⟩ : ∃ R, R = Lib.contains s.data.toList t.data.toList := ⟨_, rfl⟩
  rw [← hR] at HC HN ⊢
  clear hR
  go_enter Tryz.func37, Tryz.ntmps37
  go_wp2_with fail
  go_loopw [5] (fun i wr => ∃ k : Nat, i = .int .i64 k ∧ k ≤ s.size + 1 ∧ Hid (∀ j, j < k → Lib.occAt s.data.toList t.data.toList j = false) ∧ w.grownBy wr none ∧ Hid (wr = w)) (fun i _ => s.size + 1 - (intOf i).toNat)
  case atStart => exact ⟨0, rfl, Nat.zero_le _, Lib.hid (fun j hj => absurd hj (Nat.not_lt_zero _)), only_refl _ _, Lib.hid rfl⟩
  case round =>
    obtain ⟨k, rfl, hk, HO, hG, HW⟩ := hrel
    by_cases hlt : k + t.size ≤ s.size
    · have i1 : (k : Int) + (t.size : Int) ≤ (s.size : Int) := by omega
      have hoc := occ_ext s t k
      cases hq : Lib.occAt s.data.toList t.data.toList k with
      | true =>
        rw [hq] at hoc
        have HR : Hid (R = true) := Lib.hid (HC.out k hlt hq)
        clear hq
        go_wp2_with fail
        go_ret
        exact ⟨by rw [HR.out]; rfl, HW.out⟩
      | false =>
        rw [hq] at hoc
        have HO2 : Hid (∀ j, j < k + 1 → Lib.occAt s.data.toList t.data.toList j = false) := Lib.hid (fun j hj => by
          by_cases e : j = k
          · rw [e]; exact hq
          · exact HO.out j (by omega))
        clear hq
        go_wp2_with fail
        go_roundw
        case rel => exact ⟨k + 1, by go_num, by omega, HO2, hG, HW⟩
        case measure => simp [intOf]; omega
    · have i1 : ¬ (k : Int) + (t.size : Int) ≤ (s.size : Int) := by omega
      have HR : Hid (R = false) := Lib.hid (HN.out k (by omega) HO.out)
      go_wp2_with fail
      go_ret
      exact ⟨by rw [HR.out]; rfl, HW.out⟩
theorem begins_list {ds : List ByteArray} (h : Srt ds) (t : ByteArray) {k : Nat} (h1 : ixOf ds t ≤ k) (h2 : k ≤ ds.length) (h3 : ∀ i x, ixOf ds t ≤ i → i < k → ds[i]? = some x → hp x t = true) (h4 : ∀ x, ds[k]? = some x → hp x t = false) :
    decide (ixOf ds t < k) = ds.any (fun s => hp s t) := by
  have hs := ix_split h t
  rw [Bool.eq_iff_iff, decide_eq_true_iff, List.any_eq_true]
  constructor
  · intro hlt
    obtain ⟨x, hx⟩ := some_at (ds := ds) (i := ixOf ds t) (by omega)
    exact ⟨x, List.mem_of_getElem? hx, h3 _ x (Nat.le_refl _) hlt hx⟩
  · rintro ⟨x, hx, hpx⟩
    obtain ⟨i, hi⟩ := List.mem_iff_getElem?.1 hx
    rcases Nat.lt_or_ge (ixOf ds t) k with hlt | hge
    · exact hlt
    · exfalso
      have hk : k = ixOf ds t := by omega
      have hge2 : ixOf ds t ≤ i := by
        rcases Nat.lt_or_ge i (ixOf ds t) with hlt | hge
        · have := hs.1 i x hlt hi
          rw [hp_ge hpx] at this; cases this
        · exact hge
      obtain ⟨y, hy⟩ := some_at (ds := ds) (i := k) (by have := (List.getElem?_eq_some_iff.1 hi).1; omega)
      have h5 := h4 y hy
      have h6 : sl y t = false := hs.2 k y (by omega) hy
      by_cases e : i = k
      · rw [e, hy] at hi; injection hi with hi; rw [hi, hpx] at h5; cases h5
      · have h7 : sl x y = false := by
          have := h.lt hy hi (by omega)
          exact sl_asymm this
        rw [hp_mid h6 h7 hpx] at h5; cases h5
end Go.Proofs.YtceebhgbebkafaaGreatDoor
namespace Go.Proofs.YtceebhgbebkafaaGreatDoor
open Go.RowKit
set_option linter.unusedVariables false
set_option linter.unusedSimpArgs false

theorem not_any_not (p : TT → Bool) (l : List TT) : (!(l.any (fun k => !p k))) = l.all p := by
  induction l with
  | nil => rfl
  | cons x xs ih => simp only [List.all_cons, List.any_cons, ← ih, Bool.not_or, Bool.not_not]
theorem found_cont {ts : List ByteArray} (h : Srt ts) (s : ByteArray) : found ts s = Lib.containsS ts s := by
  rw [Bool.eq_iff_iff, found_iff h, Lib.containsS_iff]
theorem EvGood.evN {e : Ev} (h : EvGood e) : EvN e := by
  obtain ⟨hf, _, _, _, h1, h2, h3, h4, _⟩ := h
  have hw := hf.2.2.1
  have ht1 := hf.1
  have ht2 := hf.2.1
  unfold IsWeight at hw
  refine ⟨?_, ?_, ?_, ?_⟩ <;> unfold N18 <;> omega
set_option maxHeartbeats 1000000 in
theorem begins36_any {S : Nat → Prop} (A : Option Addr) (ds : List ByteArray) (c : Nat) (x : ByteArray) (w : World) (h : Rd S w A (ds.map .string)) (hl : ds.length ≤ 10000000) (hs : Srt ds) :
    Calls Tryz.prog 36 #[.slice A ds.length c, .string x] w (BoolP w (ds.any (fun s => Lib.hasPrefix s.data.toList x.data.toList))) := by
  have HP := Lib.hid (rprefix_any A ds c x w h hl)
  have hix := ixOf_le ds x
  have HL : Hid (∀ k, ixOf ds x ≤ k → k ≤ ds.length → (∀ i y, ixOf ds x ≤ i → i < k → ds[i]? = some y → hp y x = true) → (∀ y, ds[k]? = some y → hp y x = false) → decide (ixOf ds x < k) = ds.any (fun s => hp s x)) := Lib.hid (fun k h1 h2 h3 h4 => begins_list hs x h1 h2 h3 h4)
  clear h hs
  go_enter Tryz.func36, Tryz.ntmps36
  go_wp2_with fail
  refine HP.out.mono ?_
  rintro e w1 ⟨k, rfl, h1, h2, h3, h4, q, rfl⟩
  have HV := Lib.hid (HL.out k h1 h2 h3 h4)
  obtain ⟨i0, hi0⟩ : ∃ i, i = ixOf ds x := ⟨_, rfl⟩
  rw [← hi0] at HV hix ⊢
  clear h1 h2 h3 h4 HP HL hi0
  go_wp2_with fail
  go_ret
  refine ⟨?_, only_drewN (only_refl _ _) q⟩
  show Ending.returned (.bool _) = Ending.returned (.bool (ds.any (fun s => hp s x)))
  rw [← HV.out]
set_option maxHeartbeats 4000000 in
set_option maxRecDepth 100000 in
theorem rholds_any (e : Ev) (hg : EvGood e) (n : Nat) : ∀ (t : TT) (S T : Nat → Prop) (w : World), t.Ok n → t.Sub n S w → e.Sub T w →
    Calls Tryz.prog 12 #[.agg t.cells.toArray, .agg e.cells.toArray] w (BoolP w (holdB e n t)) := by
  induction n with
  | zero => intro t S T w hok; exact hok.elim
  | succ n IH' =>
  intro t S T w hok hsub hes
  have hET := hg.evT
  obtain ⟨op, nm, tx, num, ka, kc, kids⟩ := t
  have IH : Hid (∀ y ∈ kids, ∀ w', w.grownBy w' none → Calls Tryz.prog 12 #[.agg #[.int .i64 y.op, .string y.nm, .string y.tx, .int .i64 y.num, .slice y.ka y.kids.length y.kc], .agg e.cells.toArray] w' (BoolP w' (holdB e n y))) := fun y hy w' hgr => IH' y S T w' (hok.2.2.2.2.2 y hy) ((hsub.2.2.2 y hy).grown hgr (by simp)) (hes.grown hgr (by simp))
  have HK : Hid (Rd S w ka (kids.flatMap TT.cells)) := hsub.1
  have hl3 : kids.length ≤ 3 := hok.len
  have hz2 : tx.size ≤ 20 := hok.2.1.2
  have hoprange : 0 ≤ op ∧ op ≤ 11 := hok.1
  have HK5 : Hid (op = 5 → kids.length = 1) := Lib.hid (fun h5 => by
    have h1 := hok.2.2.2.1
    have h2 := hok.2.2.2.2.1
    simp only [TT.op, TT.kids] at h1 h2
    rcases h1 with h | ⟨_, h⟩ | ⟨h, _⟩
    · exact absurd h (h2 (.inl h5))
    · exact h
    · omega)
  have HTX : Hid (∀ w', w.grownBy w' none → Calls Tryz.prog 35 #[.agg e.cells.toArray] w' (TextP w' (textOf e.lines))) := fun w' hgr => rtext_any e w' (hes.grown hgr (by simp)) hET.1 (fun l hl => Nat.le_trans (hET.2.1 l hl) (by omega))
  have HWD : Hid (∀ w', Calls Tryz.prog 34 #[.string (textOf e.lines)] w' (DistOwn w' (rawW (bts (textOf e.lines))))) := fun w' => rwords_own _ w' (by have := hET.2.2.1; omega)
  have HWE : Hid (∀ ds : List ByteArray, Srt ds → (∀ s, s ∈ ds ↔ s ∈ rawW (bts (textOf e.lines))) → ds = wsOf e) := Lib.hid (fun ds h1 h2 => srt_ext h1 (dist_srt _) (fun s => (h2 s).trans (dist_mem _ s).symm))
  have HCT : Hid (∀ w', Calls Tryz.prog 37 #[.string (textOf e.lines), .string tx] w' (fun en w'' => en = .returned (.bool (Lib.contains (textOf e.lines).data.toList tx.data.toList)) ∧ w'' = w')) := Lib.hid (fun w' => rcont_any _ tx w' (by have := hET.2.2.1; omega) (by omega))
  have HVAL : Hid (∀ w', w.grownBy w' none → Calls Tryz.prog 38 #[.agg e.cells.toArray, .string nm] w' (ValP w' (valOf e nm))) := fun w' hgr => rval_any e nm w' (hes.grown hgr (by simp)) hg.evN (Nat.le_trans hET.2.2.2.1 (by omega))
  have HNUM : Hid (∀ w', w.grownBy w' none → Calls Tryz.prog 39 #[.agg e.cells.toArray, .string nm] w' (NumP w' (numOf e nm))) := fun w' hgr => rnumber_any e nm w' (hes.grown hgr (by simp)) hg.evV hg.evN
  have hwl := wsOf_len hET
  obtain ⟨R, hR⟩ : ∃ R, R = holdB e (n + 1) (TT.mk op nm tx num ka kc kids) := ⟨_, rfl⟩
  have HRR := Lib.hid hR
  rw [← hR]
  clear hR IH' hok hsub hes hg hET
  obtain ⟨hb, hhb⟩ : ∃ f : TT → Bool, f = holdB e n := ⟨_, rfl⟩
  obtain ⟨ws, hws⟩ : ∃ ws, ws = wsOf e := ⟨_, rfl⟩
  obtain ⟨tt, htt⟩ : ∃ tt, tt = textOf e.lines := ⟨_, rfl⟩
  obtain ⟨vo, hvo⟩ : ∃ vo, vo = valOf e nm := ⟨_, rfl⟩
  obtain ⟨no, hno⟩ : ∃ no, no = numOf e nm := ⟨_, rfl⟩
  have HHB := Lib.hid hhb
  have HWS := Lib.hid hws
  have HTT := Lib.hid htt
  have HVO := Lib.hid hvo
  have HNO := Lib.hid hno
  rw [← hws] at hwl
  simp only [← hws, ← htt] at HWE
  simp only [← htt] at HTX HWD HCT
  rw [← hvo] at HVAL
  rw [← hno] at HNUM
  simp only [← hhb] at IH
  clear hhb hws htt hvo hno
  obtain ⟨e0, he0⟩ : ∃ e0, e0 = e := ⟨_, rfl⟩
  rw [← he0] at HRR HHB HWS HTT HVO HNO
  clear he0
  obtain ⟨host, file, beg, fin, lines, time, weight, trace, stream, fields, la, lc, fa, fc⟩ := e
  have hcl : (Ev.mk host file beg fin lines time weight trace stream fields la lc fa fc).cells.toArray = #[.int .i64 host, .int .i64 file, .int .i64 beg, .int .i64 fin, .slice la lines.length lc, .int .i64 time, .int .i64 weight, .string trace, .string stream, .slice fa fields.length fc] := rfl
  rw [hcl] at HVAL HNUM HTX IH ⊢
  clear hcl
  show Calls _ _ #[.agg #[.int .i64 op, .string nm, .string tx, .int .i64 num, .slice ka kids.length kc], .agg #[.int .i64 host, .int .i64 file, .int .i64 beg, .int .i64 fin, .slice la lines.length lc, .int .i64 time, .int .i64 weight, .string trace, .string stream, .slice fa fields.length fc]] w _
  go_enter Tryz.func12, Tryz.ntmps12
  go_upto_region 1 with fail
  have hbt : Blk ((w.alloc (.cells #[.int .i64 op, .string nm, .string tx, .int .i64 num, .slice ka kids.length kc] 26)).alloc (.cells #[.int .i64 host, .int .i64 file, .int .i64 beg, .int .i64 fin, .slice la lines.length lc, .int .i64 time, .int .i64 weight, .string trace, .string stream, .slice fa fields.length fc] 35)) w.heap.size 26 #[.int .i64 op, .string nm, .string tx, .int .i64 num, .slice ka kids.length kc] := (Blk.new w _ _).alloc _
  have hbs : Blk ((w.alloc (.cells #[.int .i64 op, .string nm, .string tx, .int .i64 num, .slice ka kids.length kc] 26)).alloc (.cells #[.int .i64 host, .int .i64 file, .int .i64 beg, .int .i64 fin, .slice la lines.length lc, .int .i64 time, .int .i64 weight, .string trace, .string stream, .slice fa fields.length fc] 35)) (w.heap.size + 1) 35 #[.int .i64 host, .int .i64 file, .int .i64 beg, .int .i64 fin, .slice la lines.length lc, .int .i64 time, .int .i64 weight, .string trace, .string stream, .slice fa fields.length fc] := by simpa using Blk.new (w.alloc (.cells #[.int .i64 op, .string nm, .string tx, .int .i64 num, .slice ka kids.length kc] 26)) 35 #[.int .i64 host, .int .i64 file, .int .i64 beg, .int .i64 fin, .slice la lines.length lc, .int .i64 time, .int .i64 weight, .string trace, .string stream, .slice fa fields.length fc]
  have hgr : w.grownBy ((w.alloc (.cells #[.int .i64 op, .string nm, .string tx, .int .i64 num, .slice ka kids.length kc] 26)).alloc (.cells #[.int .i64 host, .int .i64 file, .int .i64 beg, .int .i64 fin, .slice la lines.length lc, .int .i64 time, .int .i64 weight, .string trace, .string stream, .slice fa fields.length fc] 35)) none := only_alloc (only_alloc (only_refl _ _) _) _
  obtain ⟨W, hW⟩ : ∃ W, W = ((w.alloc (.cells #[.int .i64 op, .string nm, .string tx, .int .i64 num, .slice ka kids.length kc] 26)).alloc (.cells #[.int .i64 host, .int .i64 file, .int .i64 beg, .int .i64 fin, .slice la lines.length lc, .int .i64 time, .int .i64 weight, .string trace, .string stream, .slice fa fields.length fc] 35)) := ⟨_, rfl⟩
  rw [← hW] at hbs hbt hgr ⊢
  obtain ⟨r, hr⟩ : ∃ r, r = w.heap.size := ⟨_, rfl⟩
  rw [← hr] at hbs hbt ⊢
  clear hW hr
  have BS := Lib.hid hbs; have BT := Lib.hid hbt; have G := Lib.hid hgr
  have s0 := hbs.cell 0; have s1 := hbs.cell 1; have s2 := hbs.cell 2; have s3 := hbs.cell 3; have s4 := hbs.cell 4; have s5 := hbs.cell 5; have s6 := hbs.cell 6; have s7 := hbs.cell 7; have s8 := hbs.cell 8; have s9 := hbs.cell 9
  simp at s0 s1 s2 s3 s4 s5 s6 s7 s8 s9
  have b0 := hbt.cell 0; have b1 := hbt.cell 1; have b2 := hbt.cell 2; have b3 := hbt.cell 3; have b4 := hbt.cell 4
  simp at b0 b1 b2 b3 b4
  clear hbs hbt hgr
  have GD : Hid (w.grownBy W.drew none) := Lib.hid (only_drew G.out)
  by_cases h1 : op = 1
  · have HV : Hid (R = (Lib.containsS ws tx)) := Lib.hid (by rw [HRR.out, h1]; (try simp only [HHB.out, HWS.out, HTT.out, HVO.out, HNO.out]); rfl)
    have g1 : (op == 1) = true := by simp [h1]
    have g2 : (op == 2) = false := by simp [h1]
    have g3 : (op == 3) = false := by simp [h1]
    have g4 : (op == 4) = false := by simp [h1]
    have g8 : (op == 8) = false := by simp [h1]
    have g9 : (op == 9) = false := by simp [h1]
    have g10 : (op == 10) = false := by simp [h1]
    have g11 : (op == 11) = false := by simp [h1]
    have g5 : (op == 5) = false := by simp [h1]
    have g6 : (op == 6) = false := by simp [h1]
    have g7 : (op == 7) = false := by simp [h1]
    clear h1
    go_wp2_with fail
    go_region_law (first
      | (have htok := hst2; go_simp; go_at_call 28; go_must (refine (rindex_any A _ c tx _ RD.out (by omega)).mono ?_); rintro en w4 ⟨rfl, q, rfl⟩; clear hst2)
      | (have htok := hst1; go_simp; go_at_call 34; go_must (with_reducible (refine (HWD.out _).mono ?_)); rintro en w3 ⟨A, c, ds, rfl, -, -, d3, d4, -, d6, hg3⟩; obtain rfl := HWE.out ds d3 d4; have DS := Lib.hid d3; have RD := Lib.hid (rd_own d6 (by decide)); have HG3 : Hid (W.grownBy w3 none) := Lib.hid (only_trans HG2.out hg3); clear b2; have b2 := (BT.out.grown HG3.out (by simp)).cell 2; simp at b2; have hst2 : True := trivial; clear hst1 hg3 d3 d4 d6)
      | (go_simp; go_at_call 35; go_must (with_reducible (refine (HTX.out _ GD.out).mono ?_)); rintro en w2 ⟨rfl, hg2⟩; have HG2 : Hid (W.grownBy w2 none) := Lib.hid (only_trans (only_drew (only_refl W none)) hg2); clear b2; have b2 := (BT.out.grown HG2.out (by simp)).cell 2; simp at b2; have hst1 : True := trivial; clear hg2))
    all_goals
      have HF := Lib.hid (found_cont DS.out tx)
      obtain ⟨ff, hff⟩ : ∃ x, x = found ds tx := ⟨_, rfl⟩
      have HFF := Lib.hid hff
      rw [← hff]
      clear hff
      go_wp2_with fail
      go_ret
      exact ⟨by rw [HV.out, ← HF.out, ← HFF.out]; rfl, only_drewN (only_trans G.out HG3.out) _⟩
  have g1 : (op == 1) = false := by simp [h1]
  by_cases h2 : op = 2
  · have HV : Hid (R = (ws.any (fun s => Lib.hasPrefix s.data.toList tx.data.toList))) := Lib.hid (by rw [HRR.out, h2]; (try simp only [HHB.out, HWS.out, HTT.out, HVO.out, HNO.out]); rfl)
    have g2 : (op == 2) = true := by simp [h2]
    have g3 : (op == 3) = false := by simp [h2]
    have g4 : (op == 4) = false := by simp [h2]
    have g8 : (op == 8) = false := by simp [h2]
    have g9 : (op == 9) = false := by simp [h2]
    have g10 : (op == 10) = false := by simp [h2]
    have g11 : (op == 11) = false := by simp [h2]
    have g5 : (op == 5) = false := by simp [h2]
    have g6 : (op == 6) = false := by simp [h2]
    have g7 : (op == 7) = false := by simp [h2]
    clear h1 h2
    go_wp2_with fail
    go_region_law (first
      | (have htok := hst2; go_simp; go_at_call 36; go_must (refine (begins36_any A _ c tx _ RD.out (by omega) DS.out).mono ?_); rintro en w4 ⟨rfl, hg4⟩; clear hst2)
      | (have htok := hst1; go_simp; go_at_call 34; go_must (with_reducible (refine (HWD.out _).mono ?_)); rintro en w3 ⟨A, c, ds, rfl, -, -, d3, d4, -, d6, hg3⟩; obtain rfl := HWE.out ds d3 d4; have DS := Lib.hid d3; have RD := Lib.hid (rd_own d6 (by decide)); have HG3 : Hid (W.grownBy w3 none) := Lib.hid (only_trans HG2.out hg3); clear b2; have b2 := (BT.out.grown HG3.out (by simp)).cell 2; simp at b2; have hst2 : True := trivial; clear hst1 hg3 d3 d4 d6)
      | (go_simp; go_at_call 35; go_must (with_reducible (refine (HTX.out _ GD.out).mono ?_)); rintro en w2 ⟨rfl, hg2⟩; have HG2 : Hid (W.grownBy w2 none) := Lib.hid (only_trans (only_drew (only_refl W none)) hg2); clear b2; have b2 := (BT.out.grown HG2.out (by simp)).cell 2; simp at b2; have hst1 : True := trivial; clear hg2))
    all_goals
      go_wp2_with fail
      go_ret
      exact ⟨by rw [HV.out]; rfl, only_trans (only_trans G.out HG3.out) hg4⟩
  have g2 : (op == 2) = false := by simp [h2]
  by_cases h3 : op = 3
  · have HV : Hid (R = (Lib.contains tt.data.toList tx.data.toList)) := Lib.hid (by rw [HRR.out, h3]; (try simp only [HHB.out, HWS.out, HTT.out, HVO.out, HNO.out]); rfl)
    have g3 : (op == 3) = true := by simp [h3]
    have g4 : (op == 4) = false := by simp [h3]
    have g8 : (op == 8) = false := by simp [h3]
    have g9 : (op == 9) = false := by simp [h3]
    have g10 : (op == 10) = false := by simp [h3]
    have g11 : (op == 11) = false := by simp [h3]
    have g5 : (op == 5) = false := by simp [h3]
    have g6 : (op == 6) = false := by simp [h3]
    have g7 : (op == 7) = false := by simp [h3]
    clear h1 h2 h3
    go_wp2_with fail
    go_region_law (first
      | (have htok := hst1; go_simp; go_at_call 37; go_must (with_reducible (refine (HCT.out _).mono ?_)); rintro en w4 ⟨rfl, rfl⟩; clear hst1)
      | (go_simp; go_at_call 35; go_must (with_reducible (refine (HTX.out _ GD.out).mono ?_)); rintro en w2 ⟨rfl, hg2⟩; have HG2 : Hid (W.grownBy w2 none) := Lib.hid (only_trans (only_drew (only_refl W none)) hg2); clear b2; have b2 := (BT.out.grown HG2.out (by simp)).cell 2; simp at b2; have hst1 : True := trivial; clear hg2))
    all_goals
      go_wp2_with fail
      go_ret
      exact ⟨by rw [HV.out]; rfl, only_trans G.out HG2.out⟩
  have g3 : (op == 3) = false := by simp [h3]
  by_cases h4 : op = 4
  · have HV : Hid (R = (eqTo tx vo)) := Lib.hid (by rw [HRR.out, h4]; (try simp only [HHB.out, HWS.out, HTT.out, HVO.out, HNO.out]); rfl)
    have g4 : (op == 4) = true := by simp [h4]
    have g8 : (op == 8) = false := by simp [h4]
    have g9 : (op == 9) = false := by simp [h4]
    have g10 : (op == 10) = false := by simp [h4]
    have g11 : (op == 11) = false := by simp [h4]
    have g5 : (op == 5) = false := by simp [h4]
    have g6 : (op == 6) = false := by simp [h4]
    have g7 : (op == 7) = false := by simp [h4]
    clear h1 h2 h3 h4
    go_wp2_with fail
    refine (HVAL.out _ G.out).mono ?_
    rintro en w2 ⟨rfl, hg2⟩
    have G2 := Lib.hid (only_trans G.out hg2)
    have b2' := (BT.out.grown hg2 (by simp)).cell 2
    simp at b2'
    clear hg2 s0 s1 s2 s3 s4 s5 s6 s7 s8 s9 b0 b1 b2 b3 b4
    cases vo with
    | none =>
      simp only [valV]
      go_wp2_with fail
      go_ret
      exact ⟨by rw [HV.out]; rfl, G2.out⟩
    | some s =>
      simp only [valV]
      go_wp2_with fail
      go_ret
      exact ⟨by rw [HV.out]; rfl, G2.out⟩
  have g4 : (op == 4) = false := by simp [h4]
  by_cases h8 : op = 8
  · have HV : Hid (R = (vo.isSome)) := Lib.hid (by rw [HRR.out, h8]; (try simp only [HHB.out, HWS.out, HTT.out, HVO.out, HNO.out]); rfl)
    have g8 : (op == 8) = true := by simp [h8]
    have g9 : (op == 9) = false := by simp [h8]
    have g10 : (op == 10) = false := by simp [h8]
    have g11 : (op == 11) = false := by simp [h8]
    have g5 : (op == 5) = false := by simp [h8]
    have g6 : (op == 6) = false := by simp [h8]
    have g7 : (op == 7) = false := by simp [h8]
    clear h1 h2 h3 h4 h8
    go_wp2_with fail
    refine (HVAL.out _ G.out).mono ?_
    rintro en w2 ⟨rfl, hg2⟩
    have G2 := Lib.hid (only_trans G.out hg2)
    have b2' := (BT.out.grown hg2 (by simp)).cell 2
    simp at b2'
    clear hg2 s0 s1 s2 s3 s4 s5 s6 s7 s8 s9 b0 b1 b2 b3 b4
    cases vo with
    | none =>
      simp only [valV]
      go_wp2_with fail
      go_ret
      exact ⟨by rw [HV.out]; rfl, G2.out⟩
    | some s =>
      simp only [valV]
      go_wp2_with fail
      go_ret
      exact ⟨by rw [HV.out]; rfl, G2.out⟩
  have g8 : (op == 8) = false := by simp [h8]
  by_cases h9 : op = 9
  · have HV : Hid (R = (onNum (fun v => decide (v < num)) no)) := Lib.hid (by rw [HRR.out, h9]; (try simp only [HHB.out, HWS.out, HTT.out, HVO.out, HNO.out]); rfl)
    have g9 : (op == 9) = true := by simp [h9]
    have g10 : (op == 10) = false := by simp [h9]
    have g11 : (op == 11) = false := by simp [h9]
    have g5 : (op == 5) = false := by simp [h9]
    have g6 : (op == 6) = false := by simp [h9]
    have g7 : (op == 7) = false := by simp [h9]
    clear h1 h2 h3 h4 h8 h9
    go_wp2_with fail
    refine (HNUM.out _ G.out).mono ?_
    rintro en w2 ⟨rfl, hg2⟩
    have G2 := Lib.hid (only_trans G.out hg2)
    obtain ⟨b0', b1', b2', b3', b4'⟩ := box5 BT.out hg2
    clear hg2 s0 s1 s2 s3 s4 s5 s6 s7 s8 s9 b0 b1 b2 b3 b4
    cases no with
    | none =>
      simp only [numV]
      go_wp2_with fail
      go_ret
      exact ⟨by rw [HV.out]; rfl, G2.out⟩
    | some v =>
      simp only [numV]
      by_cases hc : v < num
      · have c1 : decide (v < num) = true := by simp [hc]
        have HV2 : Hid (R = true) := Lib.hid (by rw [HV.out]; exact c1)
        clear hc
        go_wp2_with fail
        all_goals
          go_ret
          exact ⟨by rw [HV2.out]; first | rfl | simp_all, G2.out⟩
      · have c1 : decide (v < num) = false := by simp; omega
        have HV2 : Hid (R = false) := Lib.hid (by rw [HV.out]; exact c1)
        clear hc
        go_wp2_with fail
        all_goals
          go_ret
          exact ⟨by rw [HV2.out]; first | rfl | simp_all, G2.out⟩
  have g9 : (op == 9) = false := by simp [h9]
  by_cases h10 : op = 10
  · have HV : Hid (R = (onNum (fun v => decide (num < v)) no)) := Lib.hid (by rw [HRR.out, h10]; (try simp only [HHB.out, HWS.out, HTT.out, HVO.out, HNO.out]); rfl)
    have g10 : (op == 10) = true := by simp [h10]
    have g11 : (op == 11) = false := by simp [h10]
    have g5 : (op == 5) = false := by simp [h10]
    have g6 : (op == 6) = false := by simp [h10]
    have g7 : (op == 7) = false := by simp [h10]
    clear h1 h2 h3 h4 h8 h9 h10
    go_wp2_with fail
    refine (HNUM.out _ G.out).mono ?_
    rintro en w2 ⟨rfl, hg2⟩
    have G2 := Lib.hid (only_trans G.out hg2)
    obtain ⟨b0', b1', b2', b3', b4'⟩ := box5 BT.out hg2
    clear hg2 s0 s1 s2 s3 s4 s5 s6 s7 s8 s9 b0 b1 b2 b3 b4
    cases no with
    | none =>
      simp only [numV]
      go_wp2_with fail
      go_ret
      exact ⟨by rw [HV.out]; rfl, G2.out⟩
    | some v =>
      simp only [numV]
      by_cases hc : num < v
      · have c1 : decide (num < v) = true := by simp [hc]
        have HV2 : Hid (R = true) := Lib.hid (by rw [HV.out]; exact c1)
        clear hc
        go_wp2_with fail
        all_goals
          go_ret
          exact ⟨by rw [HV2.out]; first | rfl | simp_all, G2.out⟩
      · have c1 : decide (num < v) = false := by simp; omega
        have HV2 : Hid (R = false) := Lib.hid (by rw [HV.out]; exact c1)
        clear hc
        go_wp2_with fail
        all_goals
          go_ret
          exact ⟨by rw [HV2.out]; first | rfl | simp_all, G2.out⟩
  have g10 : (op == 10) = false := by simp [h10]
  by_cases h11 : op = 11
  · have HV : Hid (R = (onNum (fun v => v == num) no)) := Lib.hid (by rw [HRR.out, h11]; (try simp only [HHB.out, HWS.out, HTT.out, HVO.out, HNO.out]); rfl)
    have g11 : (op == 11) = true := by simp [h11]
    have g5 : (op == 5) = false := by simp [h11]
    have g6 : (op == 6) = false := by simp [h11]
    have g7 : (op == 7) = false := by simp [h11]
    clear h1 h2 h3 h4 h8 h9 h10 h11
    go_wp2_with fail
    refine (HNUM.out _ G.out).mono ?_
    rintro en w2 ⟨rfl, hg2⟩
    have G2 := Lib.hid (only_trans G.out hg2)
    obtain ⟨b0', b1', b2', b3', b4'⟩ := box5 BT.out hg2
    clear hg2 s0 s1 s2 s3 s4 s5 s6 s7 s8 s9 b0 b1 b2 b3 b4
    cases no with
    | none =>
      simp only [numV]
      go_wp2_with fail
      go_ret
      exact ⟨by rw [HV.out]; rfl, G2.out⟩
    | some v =>
      simp only [numV]
      by_cases hc : v = num
      · have c1 : (v == num) = true := by simp [hc]
        have HV2 : Hid (R = true) := Lib.hid (by rw [HV.out]; exact c1)
        clear hc
        go_wp2_with fail
        all_goals
          go_ret
          exact ⟨by rw [HV2.out]; first | rfl | simp_all, G2.out⟩
      · have c1 : (v == num) = false := by simp [hc]
        have HV2 : Hid (R = false) := Lib.hid (by rw [HV.out]; exact c1)
        clear hc
        go_wp2_with fail
        all_goals
          go_ret
          exact ⟨by rw [HV2.out]; first | rfl | simp_all, G2.out⟩
  have g11 : (op == 11) = false := by simp [h11]
  by_cases h5 : op = 5
  · have HV : Hid (R = (!(kids.any hb))) := Lib.hid (by rw [HRR.out, h5]; (try simp only [HHB.out, HWS.out, HTT.out, HVO.out, HNO.out]); rfl)
    have g5 : (op == 5) = true := by simp [h5]
    have g6 : (op == 6) = false := by simp [h5]
    have g7 : (op == 7) = false := by simp [h5]
    have hk1 : kids.length = 1 := HK5.out h5
    clear h1 h2 h3 h4 h8 h9 h10 h11 h5
    obtain ⟨y, hy⟩ : ∃ y, kids[0]? = some y := ⟨_, List.getElem?_eq_getElem (by omega)⟩
    obtain ⟨kb, ko, rfl, hkw, z0, z1, z2, z3, z4⟩ := kid_in (HK.out.grown G.out (by simp)) hy
    have HI := Lib.hid (IH.out y (List.mem_of_getElem? hy))
    have HA : Hid (kids.any hb = hb y) := Lib.hid (by
      have h1 := hk1
      match kids, h1, hy with
      | [a], _, hy => simp at hy; rw [hy]; simp)
    have i1 : ((kids.length : Int) == 1) = true := by rw [beq_iff_eq]; omega
    have i2 : (0 : Int) < (kids.length : Int) := by omega
    simp only [Nat.zero_mul, Nat.add_zero] at z0 z1 z2 z3 z4
    clear hy
    go_wp2_with fail
    go_region_law (go_simp; go_at_call 12; go_must (with_reducible (refine (HI.out _ GD.out).mono ?_)); rintro en w6 ⟨rfl, hg6⟩)
    all_goals
      go_wp2_with fail
      go_ret
      exact ⟨by rw [HV.out, HA.out]; rfl, only_trans GD.out hg6⟩
  have g5 : (op == 5) = false := by simp [h5]
  by_cases h6 : op = 6
  · have HV : Hid (R = (kids.all hb)) := Lib.hid (by rw [HRR.out, h6]; (try simp only [HHB.out, HWS.out, HTT.out, HVO.out, HNO.out]); exact not_any_not _ kids)
    have g6 : (op == 6) = true := by simp [h6]
    have g7 : (op == 7) = false := by simp [h6]
    clear h1 h2 h3 h4 h8 h9 h10 h11 h5 h6
    go_wp2_with fail
    go_loopw [13] (fun i wr => ∃ k : Nat, i = .int .i64 k ∧ k ≤ kids.length ∧ Hid ((kids.take k).all hb = true) ∧ W.grownBy wr none) (fun i _ => kids.length - (intOf i).toNat)
    case atStart => exact ⟨0, rfl, Nat.zero_le _, rfl, only_refl _ _⟩
    case round =>
      obtain ⟨k, rfl, hk, HN, hG⟩ := hrel
      have GR := Lib.hid (only_trans G.out hG)
      have GW := Lib.hid hG
      clear s0 s1 s2 s3 s4 s5 s6 s7 s8 s9 b0 b1 b2 b3 b4
      have hb1 := BT.out.grown hG (by simp); have hb2 := BS.out.grown hG (by simp)
      have b0 := hb1.cell 0; have b1 := hb1.cell 1; have b2 := hb1.cell 2; have b3 := hb1.cell 3; have b4 := hb1.cell 4
      simp at b0 b1 b2 b3 b4
      have s0 := hb2.cell 0; have s1 := hb2.cell 1; have s2 := hb2.cell 2; have s3 := hb2.cell 3; have s4 := hb2.cell 4; have s5 := hb2.cell 5; have s6 := hb2.cell 6; have s7 := hb2.cell 7; have s8 := hb2.cell 8; have s9 := hb2.cell 9
      simp at s0 s1 s2 s3 s4 s5 s6 s7 s8 s9
      have l1 := hb1.lt; have l2 := hb2.lt
      clear hG hb1 hb2
      by_cases hlt : k < kids.length
      · obtain ⟨y, hy⟩ : ∃ y, kids[k]? = some y := ⟨_, List.getElem?_eq_getElem hlt⟩
        obtain ⟨kb, ko, rfl, hkw, z0, z1, z2, z3, z4⟩ := kid_in (HK.out.grown GR.out (by simp)) hy
        have HI := Lib.hid (IH.out y (List.mem_of_getElem? hy))
        have HY := Lib.hid hy
        have i1 : (k : Int) < (kids.length : Int) := by omega
        have GDR : Hid (w.grownBy wr.drew none) := Lib.hid (only_drew GR.out)
        clear hy
        go_wp2_with fail
        go_cut [146] (fun v wx => v = .bool (!hb y) ∧ wr.grownBy wx none)
        case first =>
          go_region_law (go_simp; go_at_call 12; go_must (with_reducible (refine (HI.out _ GDR.out).mono ?_)); rintro en w6 ⟨rfl, hg6⟩; have H6 : Hid (wr.grownBy w6 none) := Lib.hid (only_trans (only_drew (only_refl wr none)) hg6); clear hg6)
          all_goals
            go_wp2_with fail
            go_meet
            exact ⟨rfl, H6.out⟩
        case rest =>
          obtain ⟨rfl, hgc⟩ := hcut
          have GC := Lib.hid (only_trans GR.out hgc)
          have GCW := Lib.hid (only_trans GW.out hgc)
          clear hgc s0 s1 s2 s3 s4 s5 s6 s7 s8 s9 b0 b1 b2 b3 b4 z0 z1 z2 z3 z4
          cases hq : hb y with
          | true =>
            have HS := Lib.hid (all_step HY.out HN.out hq)
            clear hq
            go_wp2_with fail
            go_roundw
            case rel => exact ⟨k + 1, by go_num, by omega, HS, GCW.out⟩
            case measure => simp [intOf]; omega
          | false =>
            have HS := Lib.hid (all_miss HY.out hq)
            clear hq
            go_wp2_with fail
            go_ret
            exact ⟨by rw [HV.out, HS.out]; rfl, GC.out⟩
      · have i1 : ¬ (k : Int) < (kids.length : Int) := by omega
        have HS : Hid (kids.all hb = true) := by have := HN.out; rw [List.take_of_length_le (by omega)] at this; exact this
        go_wp2_with fail
        go_ret
        exact ⟨by rw [HV.out, HS.out]; rfl, GR.out⟩
  have g6 : (op == 6) = false := by simp [h6]
  by_cases h7 : op = 7
  · have HV : Hid (R = (kids.any hb)) := Lib.hid (by rw [HRR.out, h7]; (try simp only [HHB.out, HWS.out, HTT.out, HVO.out, HNO.out]); rfl)
    have g7 : (op == 7) = true := by simp [h7]
    clear h1 h2 h3 h4 h8 h9 h10 h11 h5 h6 h7
    go_wp2_with fail
    go_loopw [14] (fun i wr => ∃ k : Nat, i = .int .i64 k ∧ k ≤ kids.length ∧ Hid ((kids.take k).any hb = false) ∧ W.grownBy wr none) (fun i _ => kids.length - (intOf i).toNat)
    case atStart => exact ⟨0, rfl, Nat.zero_le _, rfl, only_refl _ _⟩
    case round =>
      obtain ⟨k, rfl, hk, HN, hG⟩ := hrel
      have GR := Lib.hid (only_trans G.out hG)
      have GW := Lib.hid hG
      clear s0 s1 s2 s3 s4 s5 s6 s7 s8 s9 b0 b1 b2 b3 b4
      have hb1 := BT.out.grown hG (by simp); have hb2 := BS.out.grown hG (by simp)
      have b0 := hb1.cell 0; have b1 := hb1.cell 1; have b2 := hb1.cell 2; have b3 := hb1.cell 3; have b4 := hb1.cell 4
      simp at b0 b1 b2 b3 b4
      have s0 := hb2.cell 0; have s1 := hb2.cell 1; have s2 := hb2.cell 2; have s3 := hb2.cell 3; have s4 := hb2.cell 4; have s5 := hb2.cell 5; have s6 := hb2.cell 6; have s7 := hb2.cell 7; have s8 := hb2.cell 8; have s9 := hb2.cell 9
      simp at s0 s1 s2 s3 s4 s5 s6 s7 s8 s9
      have l1 := hb1.lt; have l2 := hb2.lt
      clear hG hb1 hb2
      by_cases hlt : k < kids.length
      · obtain ⟨y, hy⟩ : ∃ y, kids[k]? = some y := ⟨_, List.getElem?_eq_getElem hlt⟩
        obtain ⟨kb, ko, rfl, hkw, z0, z1, z2, z3, z4⟩ := kid_in (HK.out.grown GR.out (by simp)) hy
        have HI := Lib.hid (IH.out y (List.mem_of_getElem? hy))
        have HY := Lib.hid hy
        have i1 : (k : Int) < (kids.length : Int) := by omega
        have GDR : Hid (w.grownBy wr.drew none) := Lib.hid (only_drew GR.out)
        clear hy
        go_wp2_with fail
        go_cut [162] (fun v wx => v = .bool (hb y) ∧ wr.grownBy wx none)
        case first =>
          go_region_law (go_simp; go_at_call 12; go_must (with_reducible (refine (HI.out _ GDR.out).mono ?_)); rintro en w6 ⟨rfl, hg6⟩; have H6 : Hid (wr.grownBy w6 none) := Lib.hid (only_trans (only_drew (only_refl wr none)) hg6); clear hg6)
          all_goals
            go_wp2_with fail
            go_meet
            exact ⟨rfl, H6.out⟩
        case rest =>
          obtain ⟨rfl, hgc⟩ := hcut
          have GC := Lib.hid (only_trans GR.out hgc)
          have GCW := Lib.hid (only_trans GW.out hgc)
          clear hgc s0 s1 s2 s3 s4 s5 s6 s7 s8 s9 b0 b1 b2 b3 b4 z0 z1 z2 z3 z4
          cases hq : hb y with
          | false =>
            have HS := Lib.hid (any_step HY.out HN.out hq)
            clear hq
            go_wp2_with fail
            go_roundw
            case rel => exact ⟨k + 1, by go_num, by omega, HS, GCW.out⟩
            case measure => simp [intOf]; omega
          | true =>
            have HS := Lib.hid (any_hit HY.out hq)
            clear hq
            go_wp2_with fail
            go_ret
            exact ⟨by rw [HV.out, HS.out]; rfl, GC.out⟩
      · have i1 : ¬ (k : Int) < (kids.length : Int) := by omega
        have HS : Hid (kids.any hb = false) := by have := HN.out; rw [List.take_of_length_le (by omega)] at this; exact this
        go_wp2_with fail
        go_ret
        exact ⟨by rw [HV.out, HS.out]; rfl, GR.out⟩
  have g7 : (op == 7) = false := by simp [h7]
  have h0 : op = 0 := by omega
  have HV : Hid (R = true) := Lib.hid (by rw [HRR.out, h0]; rfl)
  clear h0 h1 h2 h3 h4 h8 h9 h10 h11 h5 h6 h7
  go_wp2_with fail
  go_ret
  exact ⟨by rw [HV.out]; rfl, G.out⟩
end Go.Proofs.YtceebhgbebkafaaGreatDoor
namespace Go.Proofs.YtceebhgbebkafaaGreatDoor
open Go.RowKit
set_option linter.unusedVariables false
set_option linter.unusedSimpArgs false

set_option maxHeartbeats 4000000 in
set_option maxRecDepth 100000 in
theorem rselect_any {S T : Nat → Prop} (t : TT) (n : Nat) (A : Option Addr) (es : List Ev) (c : Nat) (w : World) (hok : t.Ok n) (hsub : t.Sub n S w) (hes : Evs T w A es) (hl : es.length ≤ 1000) (hev : ∀ e ∈ es, EvGood e) :
    Calls Tryz.prog 15 #[.agg t.cells.toArray, .slice A es.length c] w (SelPost T w (es.filter (fun e => holdB e n t))) := by
  have HES := Lib.hid hes
  have HH : Hid (∀ y ∈ es, ∀ w', w.grownBy w' none → Calls Tryz.prog 12 #[.agg t.cells.toArray, .agg #[.int .i64 y.host, .int .i64 y.file, .int .i64 y.beg, .int .i64 y.fin, .slice y.la y.lines.length y.lc, .int .i64 y.time, .int .i64 y.weight, .string y.trace, .string y.stream, .slice y.fa y.fields.length y.fc]] w' (BoolP w' (holdB y n t))) := fun y hy w' hg => rholds_any y (hev y hy) n t S T w' hok (hsub.grown hg (by simp)) ((hes.2 y hy).grown hg (by simp))
  obtain ⟨hb, hhb⟩ : ∃ f : Ev → Bool, f = fun e => holdB e n t := ⟨_, rfl⟩
  have HH2 : Hid (∀ y ∈ es, ∀ w', w.grownBy w' none → Calls Tryz.prog 12 #[.agg t.cells.toArray, .agg #[.int .i64 y.host, .int .i64 y.file, .int .i64 y.beg, .int .i64 y.fin, .slice y.la y.lines.length y.lc, .int .i64 y.time, .int .i64 y.weight, .string y.trace, .string y.stream, .slice y.fa y.fields.length y.fc]] w' (BoolP w' (hb y))) := by rw [hhb]; exact HH
  rw [← hhb]
  clear hes hok hsub hev HH hhb
  obtain ⟨op, nm, tx, num, ka, kc, kids⟩ := t
  have hcl : (TT.mk op nm tx num ka kc kids).cells.toArray = #[.int .i64 op, .string nm, .string tx, .int .i64 num, .slice ka kids.length kc] := rfl
  rw [hcl] at HH2 ⊢
  clear hcl
  go_enter Tryz.func15, Tryz.ntmps15
  go_upto_region 1 with fail
  obtain ⟨r, hr⟩ : ∃ r, r = w.heap.size := ⟨_, rfl⟩
  obtain ⟨W, hW⟩ : ∃ W, W = w.alloc (.cells #[.int .i64 op, .string nm, .string tx, .int .i64 num, .slice ka kids.length kc] 26) := ⟨_, rfl⟩
  have hB := Blk.new w 26 #[.int .i64 op, .string nm, .string tx, .int .i64 num, .slice ka kids.length kc]
  have hG : w.grownBy W none := by rw [hW]; exact only_alloc (only_refl _ _) _
  rw [← hW, ← hr] at hB
  rw [← hW, ← hr]
  have HR := Lib.hid hr
  have BW := Lib.hid hB
  have GW := Lib.hid hG
  clear hB hG hW hr
  go_wp2_with fail
  go_loopw [5, 6] (fun vo i wr => ∃ k : Nat, i = .int .i64 k ∧ k ≤ es.length ∧ wr.ownsRow (r + 1) 35 10 vo ((es.take k).filter hb).length (((es.take k).filter hb).flatMap Ev.cells) ∧ Blk wr r 26 #[.int .i64 op, .string nm, .string tx, .int .i64 num, .slice ka kids.length kc] ∧ w.grownBy wr none) (fun _ i _ => es.length - (intOf i).toNat)
  case atStart => exact ⟨0, rfl, Nat.zero_le _, World.ownsRow_nil _ _ _ _, BW.out, GW.out⟩
  case round =>
    obtain ⟨k, rfl, hk, hO, hB, hG⟩ := hrel
    obtain ⟨zs, hzs⟩ : ∃ zs, zs = (es.take k).filter hb := ⟨_, rfl⟩
    rw [← hzs] at hO
    have HZ := Lib.hid hzs
    have hzl : zs.length ≤ k := by
      rw [hzs]
      have := List.length_filter_le hb (es.take k)
      rw [List.length_take] at this; omega
    have OO := Lib.hid hO
    have B := Lib.hid hB
    have G := Lib.hid hG
    obtain ⟨b0, b1, b2, b3, b4⟩ := box5 hB (only_refl wr none)
    clear hO hB hG hzs
    by_cases hlt : k < es.length
    · have i1 : (k : Int) < (es.length : Int) := by omega
      obtain ⟨y, hy⟩ : ∃ y, es[k]? = some y := ⟨_, List.getElem?_eq_getElem hlt⟩
      obtain ⟨kb, ko, rfl, hkw, z0, z1, z2, z3, z4, z5, z6, z7, z8, z9⟩ := ev_in (HES.out.grown G.out (by simp)).1 hy
      have HI := Lib.hid (HH2.out y (List.mem_of_getElem? hy))
      have HT : Hid ((es.take (k + 1)).filter hb = zs ++ (if hb y = true then [y] else [])) := Lib.hid (by
        rw [List.getElem?_eq_getElem hlt] at hy
        injection hy with hy
        rw [List.take_succ_eq_append_getElem hlt, List.filter_append, HZ.out, hy]
        congr 1
        by_cases hf : hb y = true
        · simp [hf]
        · simp [hf])
      have HY := Lib.hid hy
      have GD : Hid (w.grownBy wr.drew none) := Lib.hid (only_drew G.out)
      clear hy HZ
      go_wp2_with fail
      go_cut [18] (fun v wx => v = .bool (hb y) ∧ wr.grownBy wx none)
      case first =>
        go_region_law (go_simp; go_at_call 12; go_must (with_reducible (refine (HI.out _ GD.out).mono ?_)); rintro en w6 ⟨rfl, hg6⟩; have H6 : Hid (wr.grownBy w6 none) := Lib.hid (only_trans (only_drew (only_refl wr none)) hg6); clear hg6)
        all_goals
          go_wp2_with fail
          go_meet
          exact ⟨rfl, H6.out⟩
      case rest =>
        obtain ⟨rfl, hgc⟩ := hcut
        have O6 := Lib.hid (own_ext OO.out hgc)
        have B6 := Lib.hid (B.out.grown hgc (by simp))
        have G6 := Lib.hid (only_trans G.out hgc)
        clear hgc OO B G b0 b1 b2 b3 b4 z0 z1 z2 z3 z4 z5 z6 z7 z8 z9 HI
        obtain ⟨kb', ko', hkb, hkw6, z0, z1, z2, z3, z4, z5, z6, z7, z8, z9⟩ := ev_in (HES.out.grown G6.out (by simp)).1 HY.out
        injection hkb with hkb
        injection hkb with hk1 hk2
        subst hk1 hk2
        have hsz6 := G6.out.size
        have hrw6 := B6.out.lt
        cases hf : hb y with
        | true =>
          rw [hf] at HT
          clear hf
          go_wp2_with (at_builtin; refine wpList_append1 rfl _ _ 27 rfl (r + 1) Tryz.underlying27 eventInfo rfl (by decide) (v := u5) (by rfl) (w0 := wc) (cs := #[.int .i64 y.host, .int .i64 y.file, .int .i64 y.beg, .int .i64 y.fin, .slice y.la y.lines.length y.lc, .int .i64 y.time, .int .i64 y.weight, .string y.trace, .string y.stream, .slice y.fa y.fields.length y.fc]) O6.out (by rfl) rfl (by simp [Value.oneCell']) (by decide) (by omega) (by omega) ?_; intro v7 w7 hown7 hg7 hob7)
          have O7 : Hid (w7.ownsRow (r + 1) 35 10 v7 ((es.take (k + 1)).filter hb).length (((es.take (k + 1)).filter hb).flatMap Ev.cells)) := Lib.hid (by rw [HT.out]; simpa [Ev.cells] using hown7)
          have B7 := Lib.hid (B6.out.grown hg7 (by intro e; have := (O6.out.lt r e.symm).1; omega))
          have G7 : Hid (w.grownBy w7 none) := Lib.hid (only_own G6.out hg7 O6.out (by have := HR.out; omega))
          clear hown7 hg7 hob7
          go_wp2_with fail
          go_roundw
          case rel => exact ⟨k + 1, by go_num, by omega, O7.out, B7.out, G7.out⟩
          case measure => simp [intOf]; omega
        | false =>
          rw [hf] at HT
          have O7 : Hid (wc.ownsRow (r + 1) 35 10 u5 ((es.take (k + 1)).filter hb).length (((es.take (k + 1)).filter hb).flatMap Ev.cells)) := Lib.hid (by rw [HT.out]; simpa using O6.out)
          clear hf
          go_wp2_with fail
          go_roundw
          case rel => exact ⟨k + 1, by go_num, by omega, O7.out, B6.out, G6.out⟩
          case measure => simp [intOf]; omega
    · have i1 : ¬ (k : Int) < (es.length : Int) := by omega
      have HE : Hid (zs = es.filter hb) := Lib.hid (by rw [HZ.out, List.take_of_length_le (by omega)])
      obtain ⟨Ao, co, hv, hoc, hom, -, -⟩ := Rd.of_own OO.out (by decide)
      have HVV := Lib.hid hv
      have O8 := OO.out
      rw [hv] at O8
      have O9 := Lib.hid (own_dn O8 (show w.heap.size ≤ r + 1 by have := HR.out; omega))
      clear hv O8
      go_wp2_with fail
      go_ret
      rw [← HE.out]
      exact ⟨Ao, co, by rw [← HVV.out]; rfl, hoc, hom, O9.out, fun e he => (HES.out.2 e (by rw [HE.out] at he; exact (List.mem_filter.1 he).1)).grown G.out (by simp), G.out⟩
end Go.Proofs.YtceebhgbebkafaaGreatDoor
