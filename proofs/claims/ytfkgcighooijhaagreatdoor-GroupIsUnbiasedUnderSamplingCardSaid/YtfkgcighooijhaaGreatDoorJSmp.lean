/- The reference of chapter 17: Valid, Weight, Hash, Keep. Condition: one rule without a prefix, of one of six weights. -/
import Derived.Test.YtfkgcighooijhaaGreatDoorOnto
import Derived.Test.YtfkgcighooijhaaGreatDoorFlat
import Derived.Test.YtfkgcighooijhaaGreatDoorSpec
import Derived.Test.YtfkgcighooijhaaGreatDoorJGrpP
import Derived.Test.YtfkgcighooijhaaGreatDoorEvIn
import Derived.Test.YtfkgcighooijhaaGreatDoorInsert
import Derived.Test.YtfkgcighooijhaaGreatDoorJGenB
import Derived.Test.YtfkgcighooijhaaGreatDoorJEvA37
import Derived.Test.YtfkgcighooijhaaGreatDoorJGColl
import Derived.Test.YtfkgcighooijhaaGreatDoorJGRows
import Derived.Test.YtfkgcighooijhaaGreatDoorItem
import Derived.Test.YtfkgcighooijhaaGreatDoorJRSameR
import Derived.Test.YtfkgcighooijhaaGreatDoorJGMerge
import Derived.Deep.DeepBigQuietO
namespace Go.Proofs.YtfkgcighooijhaaGreatDoor
open Go.RowKit
set_option linter.unusedVariables false
set_option linter.unusedSimpArgs false

def WOk (W : Int) : Prop := W = 1 ∨ W = 2 ∨ W = 3 ∨ W = 7 ∨ W = 10 ∨ W = 5040
def hstep (h b : Int) : Int := (h * 263 + b + 1) % 1000003
def hashZ (s : ByteArray) : Int := (bts s).foldl hstep 0 % 5040
theorem bts_range (s : ByteArray) : ∀ x ∈ bts s, 0 ≤ x ∧ x ≤ 255 := by
  intro x hx
  unfold bts at hx
  obtain ⟨b, -, rfl⟩ := List.mem_map.1 hx
  have := b.toNat_lt
  omega
theorem hashZ_range (s : ByteArray) : 0 ≤ hashZ s ∧ hashZ s < 5040 := by unfold hashZ; omega
set_option maxHeartbeats 4000000 in
theorem svalid_any (W : Int) (w : World) (hW : WOk W) : Calls Tryz.prog 61 #[.int .i64 W] w (fun e w' => e = .returned (.bool true) ∧ w' = w) := by
  rcases hW with rfl | rfl | rfl | rfl | rfl | rfl
  all_goals
    go_enter Tryz.func61, Tryz.ntmps61
    go_wp2_with fail
    go_ret
    exact ⟨rfl, rfl⟩
set_option maxHeartbeats 4000000 in
theorem shash_any (s : ByteArray) (w : World) (hs : s.size ≤ 1000000) : Calls Tryz.prog 62 #[.string s] w (fun e w' => e = .returned (.int .i64 (hashZ s)) ∧ w' = w) := by
  have HD : Hid (hashZ s = (bts s).foldl hstep 0 % 5040) := Lib.hid rfl
  obtain ⟨z, hz⟩ : ∃ z, z = hashZ s := ⟨_, rfl⟩
  rw [← hz] at HD ⊢
  clear hz
  go_enter Tryz.func62, Tryz.ntmps62
  go_wp2_with fail
  go_loopw [3, 4] (fun vh vi wr => ∃ (k : Nat) (h : Int), vi = .int .i64 k ∧ vh = .int .i64 h ∧ k ≤ s.size ∧ Hid (((bts s).take k).foldl hstep 0 = h) ∧ 0 ≤ h ∧ h < 1000003 ∧ wr = w) (fun _ vi _ => s.size - (intOf vi).toNat)
  case atStart => exact ⟨0, 0, rfl, rfl, Nat.zero_le _, Lib.hid rfl, by omega, by omega, rfl⟩
  case round =>
    obtain ⟨k, h, rfl, rfl, hk, HF, h0, h1, rfl⟩ := hrel
    by_cases hlt : k < s.size
    · have i1 : (k : Int) < (s.size : Int) := by omega
      have hx := bts_at s hlt
      have hb := (s[k]'hlt).toNat_lt
      have HF2 : Hid (((bts s).take (k + 1)).foldl hstep 0 = (h * 263 + ((s[k]'hlt).toNat : Int) + 1) % 1000003) := Lib.hid (by
        obtain ⟨h2, h3⟩ := List.getElem?_eq_some_iff.1 hx
        rw [List.take_succ_eq_append_getElem h2, List.foldl_append, HF.out, h3]; rfl)
      clear hx
      go_wp2_with fail
      go_roundw
      case rel => exact ⟨k + 1, (h * 263 + ((s[k]'hlt).toNat : Int) + 1) % 1000003, by go_num, rfl, by omega, HF2, by omega, by omega, trivial⟩
      case measure => simp [intOf]; omega
    · have i1 : ¬ (k : Int) < (s.size : Int) := by omega
      have HE : Hid (z = h % 5040) := Lib.hid (by have h2 := HF.out; rw [List.take_of_length_le (by rw [bts_length]; omega)] at h2; rw [HD.out, h2])
      go_wp2_with fail
      go_ret
      exact ⟨by rw [HE.out]; rfl, rfl⟩
/-- one rule without a prefix -/
def RuleAt (w : World) (b : Nat) (W : Int) : Prop := Blk w b 55 #[.string ⟨#[]⟩, .int .i64 W]
set_option maxHeartbeats 4000000 in
theorem sweight_any (b : Nat) (W : Int) (tr : ByteArray) (w : World) (hW : WOk W) (hr : RuleAt w b W) (ht : tr.size ≤ 1000000) : Calls Tryz.prog 43 #[.slice (some ⟨b, 0, none⟩) 1 1, .string tr] w (fun e w' => e = .returned (.int .i64 W) ∧ w' = w) := by
  have c0 := hr.cell 0
  have c1 := hr.cell 1
  simp at c0 c1
  have HV := Lib.hid (svalid_any W w hW)
  clear hr hW
  go_enter Tryz.func43, Tryz.ntmps43
  go_wp2_with fail
  go_loopw [5] (fun vi wr => vi = .int .i64 0 ∧ wr = w) (fun _ _ => 0)
  case atStart => exact ⟨rfl, rfl⟩
  case round =>
    obtain ⟨rfl, rfl⟩ := hrel
    go_wp2_with fail
    refine HV.out.mono ?_
    rintro e w2 ⟨rfl, rfl⟩
    go_wp2_with fail
    go_ret
    exact ⟨rfl, rfl⟩
set_option maxHeartbeats 4000000 in
theorem skeep_any (key W : Int) (tr : ByteArray) (w : World) (hW : WOk W) (hk : 0 ≤ key ∧ key < 5040) (ht : tr.size ≤ 1000000) : Calls Tryz.prog 44 #[.int .i64 key, .string tr, .int .i64 W] w (fun e w' => e = .returned (.bool (decide ((hashZ tr + key) % 5040 < 5040 / W))) ∧ ∃ q, w' = w.drewN q) := by
  have HV := Lib.hid (svalid_any W w hW)
  have HH : Hid (∀ w', Calls Tryz.prog 62 #[.string tr] w' (Quiet (.int .i64 (hashZ tr)) w')) := Lib.hid (fun w' => (shash_any tr w' ht).mono (fun _ _ h => ⟨h.1, 0, h.2⟩))
  have hz := hashZ_range tr
  obtain ⟨z, hzd⟩ : ∃ z, z = hashZ tr := ⟨_, rfl⟩
  rw [← hzd] at HH hz ⊢
  clear hzd
  obtain ⟨k1, k2⟩ := hk
  obtain ⟨z1, z2⟩ := hz
  have HKM : Hid (key % 5040 = key) := Lib.hid (Int.emod_eq_of_lt k1 k2)
  rcases hW with rfl | rfl | rfl | rfl | rfl | rfl
  all_goals
    go_enter Tryz.func44, Tryz.ntmps44
    go_wp2_with fail
    refine HV.out.mono ?_
    rintro e w2 ⟨rfl, rfl⟩
    go_wp2_with fail
    rw [HKM.out]
    go_quiet ((go_at_call 62; exact quiet_of0 (HH.out _)))
    go_wp2_with fail
    go_ret
    exact ⟨rfl, _, rfl⟩
end Go.Proofs.YtfkgcighooijhaaGreatDoor

namespace Go.Proofs.YtfkgcighooijhaaGreatDoor
open Go.RowKit
set_option linter.unusedVariables false
set_option linter.unusedSimpArgs false

def reW (W : Int) (e : Ev) : Ev := { e with weight := W }
def scC (c : CD) : CD := ⟨wrap64 (5040 * c.t), c.s, c.v⟩
def scP (p : PP) : PP := ⟨p.key, p.cs.map scC⟩
theorem wrap64_mul (k a : Int) : wrap64 (k * wrap64 a) = wrap64 (k * a) := by
  unfold wrap64
  have h : k * ((a + 9223372036854775808) % 18446744073709551616 - 9223372036854775808) + 9223372036854775808 = (k * a + 9223372036854775808) + 18446744073709551616 * (-(k * ((a + 9223372036854775808) / 18446744073709551616))) := by
    have h1 : (a + 9223372036854775808) % 18446744073709551616 = a + 9223372036854775808 - 18446744073709551616 * ((a + 9223372036854775808) / 18446744073709551616) := by omega
    rw [h1]
    generalize (a + 9223372036854775808) / 18446744073709551616 = q
    rw [Int.mul_neg, Int.mul_left_comm 18446744073709551616 k q, show a + 9223372036854775808 - 18446744073709551616 * q - 9223372036854775808 = a - 18446744073709551616 * q by omega, Int.mul_sub]
    omega
  rw [h, Int.add_mul_emod_self_left]
theorem wrap64_lr (a b : Int) : wrap64 (wrap64 a + wrap64 b) = wrap64 (a + b) := by
  rw [wrap64_l, Int.add_comm a, wrap64_l, Int.add_comm b]
theorem addW_sc (a b : Int) : addW (wrap64 (5040 * a)) (wrap64 (5040 * b)) = wrap64 (5040 * addW a b) := by
  unfold addW
  rw [wrap64_lr, wrap64_mul, Int.mul_add]
theorem chosenC_sc (x y : CD) : chosenC addW (scC x) (scC y) = scC (chosenC addW x y) := by
  obtain ⟨a, b, c⟩ := x
  obtain ⟨d, e, f⟩ := y
  cases b <;> cases e <;> simp [chosenC, scC, addW_sc]
/-- counts and sums alone -/
def CntSum (ags : List AggD) : Prop := ∀ a ∈ ags, a.kind = 0 ∨ a.kind = 1
theorem CntSum.kinds {ags : List AggD} (h : CntSum ags) : KindsOk ags := fun a ha => by have := h a ha; omega
theorem joinC_sc {k : Int} (hk : k = 0 ∨ k = 1) (x y : CD) : joinC k (scC x) (scC y) = scC (joinC k x y) := by
  unfold joinC
  rcases hk with rfl | rfl
  · simp only [if_pos]; exact chosenC_sc x y
  · rw [if_neg (by decide), if_pos rfl, if_neg (by decide), if_pos rfl]; exact chosenC_sc x y
theorem joinL_sc : ∀ {ags : List AggD} (hk : CntSum ags) (xs ys : List CD), joinL ags (xs.map scC) (ys.map scC) = (joinL ags xs ys).map scC
  | [], _, _, _ => by simp [joinL]
  | _ :: _, _, [], _ => by simp [joinL]
  | _ :: _, _, _ :: _, [] => by simp [joinL]
  | a :: ags, hk, x :: xs, y :: ys => by
    simp only [List.map_cons, joinL]
    rw [joinC_sc (hk a (List.mem_cons_self ..)), joinL_sc (fun b hb => hk b (List.mem_cons_of_mem _ hb))]
theorem mergeP_sc {ags : List AggD} (hk : CntSum ags) : ∀ (a b : List PP), mergeP ags (a.map scP) (b.map scP) = (mergeP ags a b).map scP
  | [], b => by rw [List.map_nil, mergeP, mergeP]
  | x :: xs, [] => by rw [List.map_nil, mergeP_nil, mergeP_nil]
  | x :: xs, y :: ys => by
    have hx : (scP x).key = x.key := rfl
    have hy : (scP y).key = y.key := rfl
    rcases ltK_cases x.key y.key with h1 | h1 | h1
    · have h := mergeP_sc hk xs (y :: ys)
      rw [List.map_cons] at h
      rw [List.map_cons, List.map_cons, mergeP_lt (by rw [hx, hy]; exact h1), mergeP_lt h1, List.map_cons, h]
    · have h := mergeP_sc hk xs ys
      rw [List.map_cons, List.map_cons, mergeP_eq (by rw [hx, hy]; exact h1), mergeP_eq h1, List.map_cons, h]
      show PP.mk _ _ :: _ = PP.mk _ _ :: _
      rw [← joinL_sc hk]; rfl
    · have h := mergeP_sc hk (x :: xs) ys
      rw [List.map_cons] at h
      rw [List.map_cons, List.map_cons, mergeP_gt (by rw [hx, hy]; exact h1), mergeP_gt h1, List.map_cons, h]
termination_by a b => a.length + b.length
/-- the cell of m events that are alike -/
def oneM (m W : Int) (a : AggD) (e : Ev) : CD :=
  if a.kind = 0 then ⟨wrap64 (m * W), true, []⟩ else (match numOf e a.field with | none => ⟨0, false, []⟩ | some n => ⟨wrap64 (m * (n * W)), true, []⟩)
/-- no name that a weight has -/
def NoW (ns : List ByteArray) (ags : List AggD) : Prop := (∀ n ∈ ns, n ≠ nWeight) ∧ ∀ a ∈ ags, a.field ≠ nWeight
theorem valOf_reW (W : Int) (e : Ev) {n : ByteArray} (h : n ≠ nWeight) : valOf (reW W e) n = valOf e n := by
  unfold valOf reW
  simp only [if_neg h]
theorem numOf_reW (W : Int) (e : Ev) {n : ByteArray} (h : n ≠ nWeight) : numOf (reW W e) n = numOf e n := by
  unfold numOf
  rw [valOf_reW W e h]
theorem key_reW (W : Int) (e : Ev) {ns : List ByteArray} (h : ∀ n ∈ ns, n ≠ nWeight) : keyOf_ ns (reW W e) = keyOf_ ns e := by
  unfold keyOf_
  refine List.map_congr_left (fun n hn => ?_)
  unfold valD
  rw [valOf_reW W e (h n hn)]
theorem oneC_reW {W : Int} {a : AggD} {e : Ev} (hk : a.kind = 0 ∨ a.kind = 1) (hw : a.field ≠ nWeight) (hW : I64 W) : oneC a (reW W e) = oneM 1 W a e := by
  unfold oneC oneM
  rcases hk with h | h
  · rw [if_pos h, if_pos h, Int.one_mul, wrap64_id hW]; rfl
  · rw [if_neg (by omega), if_pos h, if_neg (by omega), numOf_reW W e hw]
    cases numOf e a.field with
    | none => rfl
    | some n => simp only [Int.one_mul]; rfl
theorem oneM_succ {m W : Int} {a : AggD} {e : Ev} (hk : a.kind = 0 ∨ a.kind = 1) : joinC a.kind (oneM m W a e) (oneM 1 W a e) = oneM (m + 1) W a e := by
  unfold joinC oneM
  rcases hk with h | h
  · simp only [if_pos h]
    simp only [chosenC, if_true, addW, wrap64_lr, Int.add_mul]
  · have h0 : ¬ a.kind = 0 := by omega
    simp only [if_neg h0, if_pos h]
    cases numOf e a.field with
    | none => rfl
    | some n => simp only [chosenC, if_true, addW, wrap64_lr, Int.add_mul]
theorem oneM_sc {m W : Int} {a : AggD} {e : Ev} (hk : a.kind = 0 ∨ a.kind = 1) (hw : a.field ≠ nWeight) (h1 : m * W = 5040) : oneM m W a e = scC (oneC a (reW 1 e)) := by
  rw [oneC_reW hk hw (by unfold I64; omega)]
  unfold oneM
  rcases hk with h | h
  · simp only [if_pos h, scC, h1]; congr 1; rw [wrap64_mul]; rfl
  · simp only [if_neg (show ¬ a.kind = 0 by omega)]
    cases numOf e a.field with
    | none => simp [scC, wrap64]
    | some n =>
      simp only [scC]
      rw [wrap64_mul, show m * (n * W) = 5040 * (1 * (n * 1)) by rw [Int.one_mul, Int.mul_one, Int.mul_left_comm, h1, Int.mul_comm]]
theorem joinL_map : ∀ (ags : List AggD) (f g h : AggD → CD), (∀ a ∈ ags, joinC a.kind (f a) (g a) = h a) → joinL ags (ags.map f) (ags.map g) = ags.map h
  | [], _, _, _, _ => rfl
  | a :: ags, f, g, h, hh => by
    simp only [List.map_cons, joinL]
    rw [hh a (List.mem_cons_self ..), joinL_map ags f g h (fun b hb => hh b (List.mem_cons_of_mem _ hb))]
theorem collF_rep {ns : List ByteArray} {ags : List AggD} (hk : CntSum ags) (hn : NoW ns ags) {W : Int} (hW : I64 W) (e : Ev) : ∀ m : Nat, collF ns ags (List.replicate (m + 1) (reW W e)) = [⟨keyOf_ ns e, ags.map (oneM ((m + 1 : Nat) : Int) W · e)⟩]
  | 0 => by
    rw [show List.replicate (0 + 1) (reW W e) = [reW W e] from rfl, collF_one]
    unfold oneP
    rw [key_reW W e hn.1]
    congr 2
    exact List.map_congr_left (fun a ha => oneC_reW (hk a ha) (hn.2 a ha) hW)
  | m + 1 => by
    rw [List.replicate_succ', collF_snoc, collF_rep hk hn hW e m]
    unfold oneP
    rw [key_reW W e hn.1, mergeP_eq (x := ⟨keyOf_ ns e, ags.map (oneM ((m + 1 : Nat) : Int) W · e)⟩) (y := ⟨keyOf_ ns e, ags.map (fun a => oneC a (reW W e))⟩) rfl, mergeP_nil]
    congr 2
    rw [List.map_congr_left (fun a ha => oneC_reW (hk a ha) (hn.2 a ha) hW)]
    exact joinL_map ags _ _ _ (fun a ha => by rw [oneM_succ (hk a ha)]; rfl)
theorem collF_scale {ns : List ByteArray} {ags : List AggD} (hk : CntSum ags) (hn : NoW ns ags) {W : Int} (hW : I64 W) {m : Nat} (hm : (m : Int) * W = 5040) : ∀ l : List Ev, collF ns ags (l.flatMap (fun e => List.replicate m (reW W e))) = (collF ns ags (l.map (reW 1))).map scP
  | [] => rfl
  | e :: l => by
    obtain ⟨m', rfl⟩ : ∃ m', m = m' + 1 := ⟨m - 1, by
      rcases Nat.eq_zero_or_pos m with h | h
      · subst h; simp at hm
      · omega⟩
    rw [List.flatMap_cons, ← collF_app, collF_rep hk hn hW e m', collF_scale hk hn hW hm l, List.map_cons]
    rw [show reW 1 e :: l.map (reW 1) = [reW 1 e] ++ l.map (reW 1) from rfl, ← collF_app, ← mergeP_sc hk, collF_one]
    congr 1
    show [PP.mk _ _] = [PP.mk _ _]
    have h1 : keyOf_ ns e = keyOf_ ns (reW 1 e) := (key_reW 1 e hn.1).symm
    have h2 : ags.map (oneM ((m' + 1 : Nat) : Int) W · e) = (ags.map (fun a => oneC a (reW 1 e))).map scC := by
      rw [List.map_map]
      exact List.map_congr_left (fun a ha => oneM_sc (hk a ha) (hn.2 a ha) hm)
    rw [h1, h2]
    rfl
theorem fm_perm {α β : Type} (f g : α → List β) : ∀ ks : List α, (ks.flatMap (fun k => f k ++ g k)).Perm (ks.flatMap f ++ ks.flatMap g)
  | [] => .nil
  | k :: ks => by
    simp only [List.flatMap_cons]
    refine ((fm_perm f g ks).append_left (f k ++ g k)).trans ?_
    rw [List.append_assoc, List.append_assoc]
    refine List.Perm.append_left (f k) ?_
    rw [← List.append_assoc, ← List.append_assoc]
    exact List.perm_append_comm.append_right _
def keptK (kp : Nat → Ev → Bool) (W : Int) (l : List Ev) (k : Nat) : List Ev := (l.filter (kp k)).map (reW W)
theorem kept_one (kp : Nat → Ev → Bool) (W : Int) (e : Ev) : ∀ ks : List Nat, ks.flatMap (fun k => if kp k e then [reW W e] else []) = List.replicate (ks.filter (kp · e)).length (reW W e)
  | [] => rfl
  | k :: ks => by
    rw [List.flatMap_cons, kept_one kp W e ks, List.filter_cons]
    by_cases h : kp k e = true
    · rw [if_pos h, if_pos h]; rfl
    · rw [if_neg h, if_neg h]; rfl
theorem kept_perm (kp : Nat → Ev → Bool) (W : Int) (m : Nat) (ks : List Nat) : ∀ l : List Ev, (∀ e ∈ l, (ks.filter (kp · e)).length = m) → (ks.flatMap (keptK kp W l)).Perm (l.flatMap (fun e => List.replicate m (reW W e)))
  | [], _ => by
    have key : ∀ ks : List Nat, ks.flatMap (keptK kp W []) = [] := by
      intro ks
      induction ks with
      | nil => rfl
      | cons k ks ih => rw [List.flatMap_cons, ih]; rfl
    rw [key ks]; exact .nil
  | e :: l, hl => by
    have h0 : ks.flatMap (keptK kp W (e :: l)) = ks.flatMap (fun k => (if kp k e then [reW W e] else []) ++ keptK kp W l k) := by
      congr 1
      funext k
      unfold keptK
      rw [List.filter_cons]
      split <;> rfl
    rw [h0]
    refine (fm_perm _ _ ks).trans ?_
    rw [kept_one, hl e (List.mem_cons_self ..), List.flatMap_cons]
    exact (kept_perm kp W m ks l (fun x hx => hl x (List.mem_cons_of_mem _ hx))).append_left _
/-- how many keys keep an event -/
theorem count_rot (M h d : Nat) (hh : h < M) : ((List.range M).filter (fun k => decide ((h + k) % M < d))).length = ((List.range M).filter (fun k => decide (k < d))).length := by
  have hs : List.range M = List.range (M - h) ++ (List.range h).map (M - h + ·) := by
    rw [← List.range_add]; congr 1; omega
  have h1 : ((List.range (M - h)).filter (fun k => decide ((h + k) % M < d))).length = (((List.range (M - h)).map (h + ·)).filter (fun k => decide (k < d))).length := by
    rw [List.filter_map, List.length_map]
    congr 1
    refine List.filter_congr (fun k hk => ?_)
    have := List.mem_range.1 hk
    simp only [Function.comp]
    rw [Nat.mod_eq_of_lt (by omega)]
  have h2 : (((List.range h).map (M - h + ·)).filter (fun k => decide ((h + k) % M < d))).length = ((List.range h).filter (fun k => decide (k < d))).length := by
    rw [List.filter_map, List.length_map]
    congr 1
    refine List.filter_congr (fun k hk => ?_)
    have := List.mem_range.1 hk
    simp only [Function.comp]
    rw [show h + (M - h + k) = k + M by omega, Nat.add_mod_right, Nat.mod_eq_of_lt (by omega)]
  have h3 : List.range M = List.range h ++ (List.range (M - h)).map (h + ·) := by
    rw [← List.range_add]; congr 1; omega
  have h4 : ((List.range M).filter (fun k => decide ((h + k) % M < d))).length = ((List.range (M - h)).filter (fun k => decide ((h + k) % M < d))).length + (((List.range h).map (M - h + ·)).filter (fun k => decide ((h + k) % M < d))).length := by
    rw [← List.length_append, ← List.filter_append, ← hs]
  have h5 : ((List.range M).filter (fun k => decide (k < d))).length = ((List.range h).filter (fun k => decide (k < d))).length + (((List.range (M - h)).map (h + ·)).filter (fun k => decide (k < d))).length := by
    rw [← List.length_append, ← List.filter_append, ← h3]
  omega
theorem count_lt (d : Nat) : ∀ n, d ≤ n → ((List.range n).filter (fun k => decide (k < d))).length = d := by
  intro n
  induction n with
  | zero => intro h; have : d = 0 := by omega
            subst this; rfl
  | succ n ih =>
    intro h
    rw [List.range_succ, List.filter_append, List.length_append]
    by_cases e : d = n + 1
    · subst e
      have : (List.range n).filter (fun k => decide (k < n + 1)) = List.range n := by
        rw [List.filter_eq_self]
        intro k hk
        have := List.mem_range.1 hk
        simp; omega
      rw [this]; simp
    · rw [ih (by omega)]
      have : ¬ n < d := by omega
      simp [this]
theorem count_keep (h d : Nat) (hh : h < 5040) (hd : d ≤ 5040) : ((List.range 5040).filter (fun k => decide ((h + k) % 5040 < d))).length = d := by
  rw [count_rot 5040 h d hh, count_lt d 5040 hd]
end Go.Proofs.YtfkgcighooijhaaGreatDoor

namespace Go.Proofs.YtfkgcighooijhaaGreatDoor
open Go.RowKit
set_option linter.unusedVariables false
set_option linter.unusedSimpArgs false

/-- whether a key keeps an event -/
def kpB (W : Int) (key : Nat) (e : Ev) : Bool := decide ((hashZ e.trace + (key : Int)) % 5040 < 5040 / W)
theorem reW_cells (W : Int) (y : Ev) : (reW W y).cells = [.int .i64 y.host, .int .i64 y.file, .int .i64 y.beg, .int .i64 y.fin, .slice y.la y.lines.length y.lc, .int .i64 y.time, .int .i64 W, .string y.trace, .string y.stream, .slice y.fa y.fields.length y.fc] := rfl
def ApplyP (w : World) (ks : List Ev) (e : Ending) (w' : World) : Prop := ∃ (A : Option Addr) (c : Nat), e = .returned (.slice A ks.length c) ∧ ks.length ≤ c ∧ c ≤ maxLen ∧ Rd (w.heap.size ≤ ·) w' A (ks.flatMap Ev.cells) ∧ w.grownBy w' none
theorem kept_snoc {W : Int} {key : Nat} {es : List Ev} {k : Nat} {y : Ev} (hy : es[k]? = some y) : ((es.take (k + 1)).filter (kpB W key)).map (reW W) = ((es.take k).filter (kpB W key)).map (reW W) ++ (if kpB W key y then [reW W y] else []) := by
  obtain ⟨h1, e⟩ := List.getElem?_eq_some_iff.1 hy
  rw [List.take_succ_eq_append_getElem h1, e, List.filter_append, List.map_append, List.filter_cons]
  split <;> rfl
set_option maxHeartbeats 8000000 in
set_option maxRecDepth 100000 in
theorem sapply_any {S : Nat → Prop} (b : Nat) (W : Int) (key : Nat) (A : Option Addr) (es : List Ev) (c : Nat) (w0 : World) (hW : WOk W) (hr : RuleAt w0 b W) (hk : key < 5040) (hev : Rd S w0 A (es.flatMap Ev.cells)) (hel : es.length ≤ 1000) (ht : ∀ e ∈ es, e.trace.size ≤ 1000) :
    Calls Tryz.prog 19 #[.slice (some ⟨b, 0, none⟩) 1 1, .int .i64 (key : Int), .slice A es.length c] w0 (ApplyP w0 ((es.filter (kpB W key)).map (reW W))) := by
  have HE := Lib.hid hev
  have HT := Lib.hid ht
  have KW : Hid (∀ (y : Ev) (w' : World), y ∈ es → w0.grownBy w' none → Calls Tryz.prog 43 #[.slice (some ⟨b, 0, none⟩) 1 1, .string y.trace] w' (fun e w'' => e = .returned (.int .i64 W) ∧ w'' = w')) := Lib.hid (fun y w' hy hg => sweight_any b W y.trace w' hW (Blk.grown hr hg (by simp)) (by have := ht y hy; omega))
  have KK : Hid (∀ (y : Ev) (w' : World), y ∈ es → Calls Tryz.prog 44 #[.int .i64 (key : Int), .string y.trace, .int .i64 W] w' (fun e w'' => e = .returned (.bool (kpB W key y)) ∧ ∃ q, w'' = w'.drewN q)) := Lib.hid (fun y w' hy => skeep_any key W y.trace w' hW ⟨by omega, by omega⟩ (by have := ht y hy; omega))
  have HSN : Hid (∀ (k : Nat) (y : Ev), es[k]? = some y → ((es.take (k + 1)).filter (kpB W key)).map (reW W) = ((es.take k).filter (kpB W key)).map (reW W) ++ (if kpB W key y then [reW W y] else [])) := Lib.hid (fun k y hy => kept_snoc hy)
  obtain ⟨R, hR⟩ : ∃ R, R = (es.filter (kpB W key)).map (reW W) := ⟨_, rfl⟩
  have HR := Lib.hid hR
  rw [← hR]
  clear hev ht hW hr hR
  go_enter Tryz.func19, Tryz.ntmps19
  go_wp2_with fail
  go_loopw [7, 8] (fun v7 v8 wr => ∃ (k : Nat) (ks : List Ev), v8 = .int .i64 k ∧ k ≤ es.length ∧ ks.length ≤ k ∧ Hid (((es.take k).filter (kpB W key)).map (reW W) = ks) ∧ wr.ownsRow w0.heap.size 35 10 v7 ks.length (ks.flatMap Ev.cells) ∧ w0.grownBy wr none) (fun _ v8 _ => es.length - (intOf v8).toNat)
  case atStart => exact ⟨0, [], rfl, Nat.zero_le _, Nat.zero_le _, Lib.hid rfl, World.ownsRow_nil _ _ _ _, only_refl _ _⟩
  case round =>
    obtain ⟨k, ks, rfl, hk, hkl, HK, hO, hG⟩ := hrel
    have OO := Lib.hid hO
    have G := Lib.hid hG
    have hbase : w0.heap.size ≤ wr.heap.size := hG.size
    obtain ⟨vO, hvOd⟩ : ∃ v, v = u7 := ⟨_, rfl⟩
    rw [← hvOd] at OO ⊢
    clear hO hG hvOd
    by_cases hlt : k < es.length
    · obtain ⟨y, hy⟩ : ∃ y, es[k]? = some y := ⟨_, List.getElem?_eq_getElem hlt⟩
      obtain ⟨kb, ko, eE, hkw, z0, z1, z2, z3, z4, z5, z6, z7, z8, z9⟩ := ev_in (HE.out.grown G.out (by simp)) hy
      subst eE
      have K1 := Lib.hid (KW.out y wr (List.mem_of_getElem? hy) G.out)
      have K2 := Lib.hid (KK.out y wr (List.mem_of_getElem? hy))
      have HS := Lib.hid (HSN.out k y hy)
      have i1 : (k : Int) < (es.length : Int) := by omega
      have HY := Lib.hid hy
      clear hy
      go_wp2_with fail
      refine K1.out.mono ?_
      rintro e w2 ⟨rfl, rfl⟩
      go_wp2_with fail
      refine K2.out.mono ?_
      rintro e w3 ⟨rfl, q, hw3⟩
      have G3 : Hid (w0.grownBy w3 none) := Lib.hid (by rw [hw3]; exact only_drewN G.out q)
      have O3 : Hid (w3.ownsRow w0.heap.size 35 10 vO ks.length (ks.flatMap Ev.cells)) := Lib.hid (by rw [hw3]; exact own_drewN OO.out q)
      clear z0 z1 z2 z3 z4 z5 z6 z7 z8 z9 hw3 K1 K2 G OO hkw hbase
      obtain ⟨y', hy'⟩ : ∃ y', y' = y := ⟨_, rfl⟩
      obtain ⟨kb2, ko2, eE, hkw, z0, z1, z2, z3, z4, z5, z6, z7, z8, z9⟩ := ev_in (HE.out.grown G3.out (by simp)) HY.out
      injection eE with eE
      injection eE with e1 e2
      subst e1 e2
      clear hy'
      have hbase : w0.heap.size ≤ w3.heap.size := G3.out.size
      by_cases hkeep : kpB W key y = true
      · have HS2 : Hid (((es.take (k + 1)).filter (kpB W key)).map (reW W) = ks ++ [reW W y]) := Lib.hid (by rw [HS.out, HK.out, if_pos hkeep])
        rw [hkeep]
        clear hkeep
        go_upto_region 8 with fail
        obtain ⟨gb, hgb⟩ : ∃ g, g = w3.heap.size := ⟨_, rfl⟩
        obtain ⟨W4, hW4⟩ : ∃ W, W = w3.alloc (.cells #[.int .i64 y.host, .int .i64 y.file, .int .i64 y.beg, .int .i64 y.fin, .slice y.la y.lines.length y.lc, .int .i64 y.time, .int .i64 y.weight, .string y.trace, .string y.stream, .slice y.fa y.fields.length y.fc] 35) := ⟨_, rfl⟩
        have hB4 : Blk W4 gb 35 #[.int .i64 y.host, .int .i64 y.file, .int .i64 y.beg, .int .i64 y.fin, .slice y.la y.lines.length y.lc, .int .i64 y.time, .int .i64 y.weight, .string y.trace, .string y.stream, .slice y.fa y.fields.length y.fc] := by rw [hW4, hgb]; exact Blk.new _ _ _
        have hG4 : w3.grownBy W4 none := by rw [hW4]; exact only_alloc (only_refl w3 none) _
        have q6 := hB4.cell 6
        have f6 := hB4.frozen 6
        simp at q6
        rw [← hgb, ← hW4]
        have HB4 := Lib.hid hB4
        have HG4 := Lib.hid hG4
        have HGB := Lib.hid hgb
        clear hgb hW4 hB4 hG4 z0 z1 z2 z3 z4 z5 z6 z7 z8 z9
        go_upto_region 9 with fail
        obtain ⟨W5, hW5⟩ : ∃ W5, W5 = W4.setCell ⟨gb, 6, none⟩ (.int .i64 W) := ⟨_, rfl⟩
        have hB5 : Blk W5 gb 35 #[.int .i64 y.host, .int .i64 y.file, .int .i64 y.beg, .int .i64 y.fin, .slice y.la y.lines.length y.lc, .int .i64 y.time, .int .i64 W, .string y.trace, .string y.stream, .slice y.fa y.fields.length y.fc] := by rw [hW5]; simpa using HB4.out.set_ 6 (.int .i64 W)
        have hs5 : W4.grownBy W5 (some gb) := by rw [hW5]; exact only_setCell (only_refl _ _) (p := ⟨gb, 6, none⟩) (.inl rfl) _
        have e0 := hB5.cell 0; have e1 := hB5.cell 1; have e2 := hB5.cell 2; have e3 := hB5.cell 3; have e4 := hB5.cell 4; have e5 := hB5.cell 5; have e6 := hB5.cell 6; have e7 := hB5.cell 7; have e8 := hB5.cell 8; have e9 := hB5.cell 9
        simp at e0 e1 e2 e3 e4 e5 e6 e7 e8 e9
        have hne : Value.ownBlock vO ≠ some gb := fun e => by have h1 := (O3.out.lt _ e).2; have := HGB.out; omega
        have O5 := Lib.hid (own_off (own_ext O3.out HG4.out) hs5 hne)
        have G5 : Hid (w0.grownBy W5 none) := Lib.hid (only_fresh (only_trans G3.out HG4.out) hs5 (by have := HGB.out; omega))
        have hbase5 : w0.heap.size ≤ W5.heap.size := G5.out.size
        rw [← hW5]
        clear hW5 hB5 hs5 hne q6 f6 hbase hkw
        go_wp2_with (at_builtin; go_must (refine wpList_append1 rfl _ _ 26 rfl w0.heap.size Tryz.underlying26 eventInfo rfl (by decide) (v := vO) (by rfl) (w0 := W5) (cs := (reW W y).cells.toArray) O5.out (by rfl) rfl (by simpa using Ev.one (reW W y)) (by decide) (by omega) (by omega) ?_); intro v7 w7 hown7 hg7 hob7)
        have O7 : Hid (w7.ownsRow w0.heap.size 35 10 v7 (ks ++ [reW W y]).length ((ks ++ [reW W y]).flatMap Ev.cells)) := Lib.hid (by rw [List.length_append, List.flatMap_append]; simpa using hown7)
        have G7 : Hid (w0.grownBy w7 none) := Lib.hid (only_own G5.out hg7 O5.out (Nat.le_refl _))
        clear hown7 hg7 hob7 e0 e1 e2 e3 e4 e5 e6 e7 e8 e9
        go_wp2_with fail
        go_roundw
        case rel => exact ⟨k + 1, ks ++ [reW W y], by go_num, by omega, by simp; omega, HS2, O7.out, G7.out⟩
        case measure => simp [intOf]; omega
      · have hkeep : kpB W key y = false := by simpa using hkeep
        have HS2 : Hid (((es.take (k + 1)).filter (kpB W key)).map (reW W) = ks) := Lib.hid (by rw [HS.out, HK.out, if_neg (by simp [hkeep]), List.append_nil])
        rw [hkeep]
        clear hkeep
        go_wp2_with fail
        go_roundw
        case rel => exact ⟨k + 1, ks, by go_num, by omega, by omega, HS2, O3.out, G3.out⟩
        case measure => simp [intOf]; omega
    · have i1 : ¬ (k : Int) < (es.length : Int) := by omega
      obtain ⟨AO, cO, hv, h1, h2, -, h3⟩ := Rd.of_own OO.out (by decide)
      have H12 := Lib.hid (And.intro h1 h2)
      have H3 := Lib.hid h3
      have HRK : Hid (R = ks) := Lib.hid (by have h := HK.out; rw [List.take_of_length_le (by omega)] at h; rw [HR.out, h])
      rw [hv]
      clear hv h1 h2 h3 OO
      go_wp2_with fail
      go_ret
      rw [HRK.out]
      exact ⟨AO, cO, rfl, H12.out.1, H12.out.2, H3.out, G.out⟩
end Go.Proofs.YtfkgcighooijhaaGreatDoor

namespace Go.Proofs.YtfkgcighooijhaaGreatDoor
open Go.RowKit
set_option linter.unusedVariables false
set_option linter.unusedSimpArgs false

def unNs : List ByteArray := [⟨#[108, 101, 118, 101, 108]⟩]
def unAgs : List AggD := [⟨0, ⟨#[]⟩⟩, ⟨1, ⟨#[109, 115]⟩⟩]
theorem unAgs_cs : CntSum unAgs := by
  intro a ha
  simp only [unAgs, List.mem_cons, List.not_mem_nil, or_false] at ha
  rcases ha with rfl | rfl
  · exact .inl rfl
  · exact .inr rfl
theorem unAgs_ok : ∀ a ∈ unAgs, AggOk a := by
  intro a ha
  simp only [unAgs, List.mem_cons, List.not_mem_nil, or_false] at ha
  rcases ha with rfl | rfl <;> exact ⟨by decide, by decide, by decide⟩
theorem un_noW : NoW unNs unAgs := by
  refine ⟨fun n hn => ?_, fun a ha => ?_⟩
  · rw [List.mem_singleton.1 hn]; decide
  · simp only [unAgs, List.mem_cons, List.not_mem_nil, or_false] at ha
    rcases ha with rfl | rfl <;> decide
theorem wok_div {W : Int} (h : WOk W) : ∃ m : Nat, (5040 / W) = (m : Int) ∧ (m : Int) * W = 5040 ∧ m ≤ 5040 := by
  rcases h with rfl | rfl | rfl | rfl | rfl | rfl
  · exact ⟨5040, by decide, by decide, by decide⟩
  · exact ⟨2520, by decide, by decide, by decide⟩
  · exact ⟨1680, by decide, by decide, by decide⟩
  · exact ⟨720, by decide, by decide, by decide⟩
  · exact ⟨504, by decide, by decide, by decide⟩
  · exact ⟨1, by decide, by decide, by decide⟩
theorem wok_i64 {W : Int} (h : WOk W) : I64 W := by unfold I64; rcases h with rfl | rfl | rfl | rfl | rfl | rfl <;> omega
theorem wok_n18 {W : Int} (h : WOk W) : 0 ≤ W ∧ W ≤ 5040 := by rcases h with rfl | rfl | rfl | rfl | rfl | rfl <;> omega
theorem count_kpB {W : Int} {m : Nat} (hd : (5040 / W) = (m : Int)) (hm : m ≤ 5040) (e : Ev) : ((List.range 5040).filter (fun k => kpB W k e)).length = m := by
  obtain ⟨h0, h1⟩ := hashZ_range e.trace
  obtain ⟨z, hz⟩ : ∃ z : Nat, hashZ e.trace = (z : Int) := ⟨(hashZ e.trace).toNat, by omega⟩
  have h2 := count_keep z m (by omega) hm
  have h3 : ∀ k : Nat, kpB W k e = decide ((z + k) % 5040 < m) := fun k => by
    unfold kpB
    rw [hz, hd]
    have : ((z : Int) + (k : Int)) % 5040 = (((z + k) % 5040 : Nat) : Int) := by omega
    rw [this]
    simp only [Int.ofNat_lt]
  have h4 : (fun k => kpB W k e) = (fun k => decide ((z + k) % 5040 < m)) := funext h3
  exact (congrArg (fun f => ((List.range 5040).filter f).length) h4).trans h2
theorem evI_reW {W : Int} {e : Ev} (hW : I64 W) (h : EvI e) : EvI (reW W e) := ⟨h.1, h.2.1, h.2.2.1, hW, h.2.2.2.2⟩
def keptTo (W : Int) (es : List Ev) (k : Nat) : List Ev := (List.range k).flatMap (keptK (kpB W) W es)
theorem keptTo_succ (W : Int) (es : List Ev) (k : Nat) : keptTo W es (k + 1) = keptTo W es k ++ (es.filter (kpB W k)).map (reW W) := by
  unfold keptTo
  rw [List.range_succ, List.flatMap_append, List.flatMap_cons, List.flatMap_nil, List.append_nil]
  rfl
theorem keptTo_len (W : Int) (es : List Ev) : ∀ k : Nat, (keptTo W es k).length ≤ es.length * k
  | 0 => by simp [keptTo]
  | k + 1 => by
    rw [keptTo_succ, List.length_append, List.length_map]
    have h1 := keptTo_len W es k
    have h2 := List.length_filter_le (kpB W k) es
    rw [Nat.mul_succ]; omega
theorem keptTo_mem {W : Int} {es : List Ev} {k : Nat} {e : Ev} (h : e ∈ keptTo W es k) : ∃ y ∈ es, e = reW W y := by
  unfold keptTo at h
  obtain ⟨i, -, h⟩ := List.mem_flatMap.1 h
  unfold keptK at h
  obtain ⟨y, hy, rfl⟩ := List.mem_map.1 h
  exact ⟨y, (List.mem_filter.1 hy).1, rfl⟩
theorem unb_final {W : Int} (hW : WOk W) {es : List Ev} (h1 : ∀ e ∈ es, e.weight = 1) (hI : ∀ e ∈ es, EvI e) : collF unNs unAgs (keptTo W es 5040) = (collF unNs unAgs es).map scP := by
  obtain ⟨m, hd, hm, hm2⟩ := wok_div hW
  have hp := kept_perm (kpB W) W m (List.range 5040) es (fun e _ => count_kpB hd hm2 e)
  have h2 := collF_perm (ns := unNs) (ags := unAgs) unAgs_cs.kinds hp (fun e he => by
    obtain ⟨y, hy, rfl⟩ := keptTo_mem (k := 5040) he
    exact evA_of (evI_reW (wok_i64 hW) (hI y hy)) unAgs)
  have h3 := collF_scale (ns := unNs) (ags := unAgs) unAgs_cs un_noW (wok_i64 hW) hm es
  have h4 : es.map (reW 1) = es := by
    have key : ∀ l : List Ev, (∀ e ∈ l, e.weight = 1) → l.map (reW 1) = l := by
      intro l
      induction l with
      | nil => intro _; rfl
      | cons x xs ih =>
        intro h
        rw [List.map_cons, ih (fun e he => h e (List.mem_cons_of_mem _ he))]
        have := h x (List.mem_cons_self ..)
        obtain ⟨host, file, beg, fin, lines, time, weight, trace, stream, fields, la, lc, fa, fc⟩ := x
        simp only at this
        subst this
        rfl
    exact key es h1
  rw [h4] at h3
  exact h2.trans h3
/-- the two rows of one group -/
theorem unb_row {z : PP} {r q : RwD} (hr : r.pl = rowP (scP z)) (hq : q.pl = rowP z) (hl : z.cs.length = 2) : r.key.l = q.key.l ∧ ∃ a b, q.nl = [a, b] ∧ r.nl = [wrap64 (5040 * a), wrap64 (5040 * b)] := by
  have e1 : r.key.l = z.key := congrArg Prod.fst hr
  have e2 : q.key.l = z.key := congrArg Prod.fst hq
  have e3 : r.nl = (z.cs.map scC).map (·.t) := congrArg Prod.snd hr
  have e4 : q.nl = z.cs.map (·.t) := congrArg Prod.snd hq
  refine ⟨e1.trans e2.symm, ?_⟩
  match hz : z.cs, hl with
  | [x, y], _ =>
    rw [hz] at e3 e4
    exact ⟨x.t, y.t, e4, e3⟩
/-- the cells of an event that a draw has given -/
def EvU (e : Ev) : Prop := e.host = 1 ∧ e.file = 5 ∧ 0 ≤ e.time ∧ e.time ≤ 253402300799999 ∧ e.weight = 1 ∧ e.trace.size ≤ 10 ∧ e.stream.size ≤ 10 ∧ e.fields.length ≤ 4 ∧ ∀ f ∈ e.fields, f.value.size ≤ 1000
theorem EvU.evV {e : Ev} (h : EvU e) : EvV e := by
  obtain ⟨h1, h2, h3, h4, h5, h6, h7, h8, h9⟩ := h
  exact ⟨⟨by unfold I64; omega, by unfold I64; omega, by unfold I64; omega, by unfold I64; omega, by omega⟩, by omega, by omega, h9⟩
theorem EvU.reW_V {W : Int} (hW : WOk W) {e : Ev} (h : EvU e) : EvV (reW W e) := by
  have h0 := h.evV
  exact ⟨evI_reW (wok_i64 hW) h0.1, h0.2⟩
/-- the event that is made of a drawn one -/
def evMade (e : Ev) (tr : ByteArray) : Ev := { e with weight := 1, trace := tr }
theorem evU_of {x : It} (h : ItOk 1 5 0 x) {tr : ByteArray} (ht : tr.size ≤ 10) : EvU (evMade x.ev tr) := by
  obtain ⟨h1, h2, h3, -, -, -, h4⟩ := h
  rcases h4 with ⟨-, h5⟩ | ⟨-, -, h5⟩
  · obtain ⟨a, b, c, d, e, f⟩ := h5
    refine ⟨h1, h2, a, b, rfl, ht, e, by have h := f.1.length_le; rw [List.length_map, List.length_take] at h; show x.ev.fields.length ≤ 4; omega, fun g hg => ?_⟩
    have := f.2 g hg
    omega
  · obtain ⟨a, b, c, d, e, f⟩ := h5
    refine ⟨h1, h2, by show 0 ≤ x.ev.time; omega, by show x.ev.time ≤ _; omega, rfl, ht, by show x.ev.stream.size ≤ 10; rw [d]; decide, by show x.ev.fields.length ≤ 4; rw [e]; decide, fun g hg => ?_⟩
    have hg2 : g ∈ x.ev.fields := hg
    rw [e] at hg2; cases hg2
end Go.Proofs.YtfkgcighooijhaaGreatDoor

namespace Go.Proofs.YtfkgcighooijhaaGreatDoor
open Go.RowKit
set_option linter.unusedVariables false
set_option linter.unusedSimpArgs false

theorem item_f1 (r a0 a1 a2 a3 a4 a5 a6 a7 a8 a9 : Value) (w : World) : (Instr.field 52 (.agg #[r, a0, a1, a2, a3, a4, a5, a6, a7, a8, a9]) 1).run Tryz.prog w = .ok (.agg #[a0, a1, a2, a3, a4, a5, a6, a7, a8, a9]) w := by kernel_rfl
abbrev evArr (e : Ev) (a v : Value) : Array Value := #[.int .i64 e.host, .int .i64 e.file, .int .i64 e.beg, .int .i64 e.fin, .slice e.la e.lines.length e.lc, .int .i64 e.time, a, v, .string e.stream, .slice e.fa e.fields.length e.fc]
theorem store_int37 (w : World) (b o : Nat) (x : Int) {v : Value} (h : w.cell? ⟨b, o, none⟩ = some v) (hf : w.frozen? ⟨b, o, none⟩ = false) : (Instr.storeAt 3 (.pointer (some ⟨b, o, none⟩)) (.int .i64 x)).run Tryz.prog w = .ok () (w.setCell ⟨b, o, none⟩ (.int .i64 x)) := by
  simp [go_sem, h, hf]
theorem store_str37 (w : World) (b o : Nat) (x : ByteArray) {v : Value} (h : w.cell? ⟨b, o, none⟩ = some v) (hf : w.frozen? ⟨b, o, none⟩ = false) : (Instr.storeAt 9 (.pointer (some ⟨b, o, none⟩)) (.string x)).run Tryz.prog w = .ok () (w.setCell ⟨b, o, none⟩ (.string x)) := by
  simp [go_sem, h, hf]
theorem evArr_w {w : World} {b t : Nat} {e : Ev} {a v x : Value} (h : Blk w b t (evArr e a v)) : Blk (w.setCell ⟨b, 6, none⟩ x) b t (evArr e x v) := by simpa [evArr] using h.set_ 6 x
theorem evArr_t {w : World} {b t : Nat} {e : Ev} {a v x : Value} (h : Blk w b t (evArr e a v)) : Blk (w.setCell ⟨b, 7, none⟩ x) b t (evArr e a x) := by simpa [evArr] using h.set_ 7 x
/-- the row of events that the law makes -/
structure ERow (g base : Nat) (w : World) (v : Value) (es : List Ev) : Prop where
  own : w.ownsRow base 35 10 v es.length (es.flatMap Ev.cells)
  sub : ∀ e ∈ es, e.Sub (fun b => g < b ∧ Value.ownBlock v ≠ some b) w
theorem ERow.fr {g base : Nat} {W w : World} {v : Value} {es : List Ev} {B : Nat → Prop} (h : ERow g base W v es) (hf : FrN B W w) (h1 : ∀ b, g < b → b < W.heap.size → ¬ B b) (hb : g < base) : ERow g base w v es := by
  have key : ∀ (A : Option Addr) (xs : List Value), Rd (fun b => g < b ∧ Value.ownBlock v ≠ some b) W A xs → Rd (fun b => g < b ∧ Value.ownBlock v ≠ some b) w A xs := fun A xs hr =>
    (hf.rd (hr.mono (S' := fun b => (g < b ∧ Value.ownBlock v ≠ some b) ∧ b < W.heap.size) (fun b hb hlt => ⟨hb, hlt⟩)) (fun b hb => h1 b hb.1.1 hb.2)).mono (fun b hb _ => hb.1)
  refine ⟨?_, fun e he => ?_⟩
  · obtain ⟨hl, hx⟩ := h.own
    refine ⟨hl, ?_⟩
    rcases hx with hx | ⟨k, cap, cur, y1, y2, y3, y4⟩
    · exact .inl hx
    · have hk := (Array.getElem?_eq_some_iff.1 y3).1
      exact .inr ⟨k, cap, cur, y1, y2, (hf.2.2.2.2 k hk (h1 k (by omega) hk)).trans y3, y4⟩
  · have hs := h.sub e he
    exact ⟨key _ _ hs.1, key _ _ hs.2.1, hs.2.2⟩
theorem ERow.snoc {g base : Nat} {W w : World} {v v' : Value} {es : List Ev} {e : Ev} (h : ERow g base W v es) (ho : w.ownsRow base 35 10 v' (es.length + 1) (es.flatMap Ev.cells ++ e.cells)) (hs : e.Sub (fun b => g < b ∧ Value.ownBlock v ≠ some b) W) (hn : ∀ k, Value.ownBlock v' = some k → Value.ownBlock v = some k ∨ W.heap.size ≤ k) (hg : W.grownBy w (Value.ownBlock v)) : ERow g base w v' (es ++ [e]) := by
  have key : ∀ (A : Option Addr) (xs : List Value), Rd (fun b => g < b ∧ Value.ownBlock v ≠ some b) W A xs → Rd (fun b => g < b ∧ Value.ownBlock v' ≠ some b) w A xs := fun A xs hr =>
    ((hr.mono (S' := fun b => (g < b ∧ Value.ownBlock v ≠ some b) ∧ b < W.heap.size) (fun b hb hlt => ⟨hb, hlt⟩)).grown hg (fun b hb e => hb.1.2 e.symm)).mono (fun b hb _ => ⟨hb.1.1, fun e => by rcases hn b e with h2 | h2; exact hb.1.2 h2; have := hb.2; omega⟩)
  refine ⟨by rw [List.length_append, List.flatMap_append]; simpa using ho, fun q hq => ?_⟩
  have hq2 : q.Sub (fun b => g < b ∧ Value.ownBlock v ≠ some b) W := by
    rcases List.mem_append.1 hq with hq | hq
    · exact h.sub q hq
    · rw [List.mem_singleton.1 hq]; exact hs
  exact ⟨key _ _ hq2.1, key _ _ hq2.2.1, hq2.2.2⟩
theorem frN_g {g : Nat} {W w : World} (h : W.grownBy w (some g)) : FrN (· = g) W w := (FrN.refl _ _).grow h (fun k hk => .inl (by injection hk with hk; exact hk.symm))
theorem rd_un {w : World} {b t : Nat} (h : Blk w b t #[.string ⟨#[108, 101, 118, 101, 108]⟩]) : Rd (fun _ => True) w (some ⟨b, 0, none⟩) (unNs.map .string) := fun _ => ⟨b, 0, rfl, trivial, h.lt, fun j u hu => by
  rw [Nat.zero_add, h.cell j]
  simpa [unNs] using hu⟩
theorem rd_ua {w : World} {b t : Nat} (h : Blk w b t #[.int .i64 0, .string ⟨#[]⟩, .int .i64 1, .string ⟨#[109, 115]⟩]) : Rd (fun _ => True) w (some ⟨b, 0, none⟩) (unAgs.flatMap AggD.cells) := fun _ => ⟨b, 0, rfl, trivial, h.lt, fun j u hu => by
  rw [Nat.zero_add, h.cell j]
  simpa [unAgs, AggD.cells] using hu⟩
theorem wrapI (x : Int) : IntKind.i64.wrap x = wrap64 x := by
  simp only [IntKind.wrap]; simp [IntKind.signed, IntKind.bits]; unfold wrap64; split <;> omega
theorem rw_in37 {S : Nat → Prop} {w : World} {A : Option Addr} {ps : List RwD} (h : Rd S w A (ps.flatMap RwD.cells)) {i : Nat} {y : RwD} (hy : ps[i]? = some y) :
    ∃ b off, A = some ⟨b, off, none⟩ ∧ b < w.heap.size ∧ w.cell? ⟨b, off + i * 3, none⟩ = some (.slice y.key.a y.key.l.length y.key.c) ∧ w.cell? ⟨b, off + i * 3 + 1, none⟩ = some (.slice y.na y.nl.length y.nc) := by
  obtain ⟨hi, hyi⟩ := List.getElem?_eq_some_iff.1 hy
  obtain ⟨b, off, rfl, _, hlt, hc⟩ := h (by rw [flat_len _ 3 RwD.cells_len]; omega)
  have key : ∀ j, j < 3 → w.cell? ⟨b, off + i * 3 + j, none⟩ = y.cells[j]? := by
    intro j hj
    have h1 := flat_at RwD.cells 3 RwD.cells_len ps i j hi hj
    rw [hyi] at h1
    have hlt : j < y.cells.length := by rw [RwD.cells_len]; exact hj
    rw [List.getElem?_eq_getElem hlt] at h1 ⊢
    rw [Nat.add_assoc]
    exact hc _ _ h1
  exact ⟨b, off, rfl, hlt, key 0 (by omega), key 1 (by omega)⟩
set_option maxHeartbeats 16000000 in
set_option maxRecDepth 100000 in
theorem law_unb (A : Option Addr) (l : List Int) (c : Nat) (wt : Int) (w : World) (hPow : Pow10 w)
    (h : Rd (fun _ => True) w A (l.map (.int .u8))) (hc : l.length ≤ c) (hcm : c ≤ maxLen) (hx : ∀ x ∈ l, 0 ≤ x ∧ x ≤ 255) (hwt : 0 ≤ wt ∧ wt ≤ 255) :
    Calls Tryz.prog 5 #[.slice A l.length c, .int .u8 wt] w (fun e w' => e = .returned (.bool true) ∧ w.grownBy w' none) := by
  have HN : Hid (∀ w', w.grownBy w' none → Calls Tryz.prog 17 #[.slice A l.length c, .int .i64 (60 : Nat)] w' (NewPost w' (l.take 60))) := fun w' hg => new_any A l c 60 w' (h.grown hg (by simp)) hc hcm (by omega) hx
  have HP : Hid (∀ w', w.grownBy w' none → Pow10 w') := Lib.hid (fun w' hg => hPow.grown hg)
  obtain ⟨hw0, hw1⟩ := hwt
  clear h hc hcm hx hPow
  go_enter Tryz.func5, Tryz.ntmps5
  go_wp2_with fail
  refine (awake_any _).mono ?_
  rintro e w0 ⟨rfl, hg0⟩
  have G0 := Lib.hid hg0
  clear hg0
  go_wp2_with fail
  refine (HN.out _ G0.out).mono ?_
  rintro e w1 ⟨rfl, h1, hg1, hlt1⟩
  obtain ⟨g, hgd⟩ : ∃ g, g = w0.heap.size := ⟨_, rfl⟩
  obtain ⟨l1, hl1⟩ : ∃ l1, l1 = l.take 60 := ⟨_, rfl⟩
  have HGD := Lib.hid hgd
  rw [← hgd, ← hl1] at h1
  rw [← hgd]
  have G1 := Lib.hid (only_trans G0.out hg1)
  have HWG : Hid (w.heap.size ≤ g) := Lib.hid (by rw [hgd]; exact G0.out.size)
  have hgw1 : g < w1.heap.size := by rw [hgd]; exact hlt1
  clear HN hgd hl1 hg1 hlt1 G0
  go_wp2_with fail
  refine (next_some g l1 0 3 _ h1 (by omega) (by omega)).mono ?_
  rintro e w2 ⟨v2, k2, rfl, hv2, h2, hg2⟩
  obtain ⟨m, rfl⟩ := Int.eq_ofNat_of_zero_le hv2.1
  have hm3 : m < 3 := by omega
  have C2 := Lib.hid h2
  have G2 : Hid (w.grownBy w2 none) := Lib.hid (only_fresh G1.out hg2 HWG.out)
  have hgw2 : g < w2.heap.size := h2.lt
  clear h1 h2 hg2 hv2 G1 hgw1
  go_wp2_with fail
  go_loopw [6, 7] (fun v6 v7 wr => ∃ (n : Nat) (es : List Ev), v7 = .int .i64 n ∧ n ≤ m + 1 ∧ es.length + n = m + 1 ∧ (∀ e ∈ es, EvU e) ∧ ERow g w2.heap.size wr v6 es ∧ (∃ k, CodesAt wr g l1 k) ∧ w2.grownBy wr (some g)) (fun _ v7 _ => (intOf v7).toNat)
  case atStart => exact ⟨m + 1, [], by go_num, Nat.le_refl _, by simp, by simp, ⟨World.ownsRow_nil _ _ _ _, by simp⟩, ⟨_, C2.out⟩, only_refl _ _⟩
  case round =>
    obtain ⟨n, es, rfl, hn, hen, hU, hE, ⟨kc, hC⟩, hG⟩ := hrel
    have HU := Lib.hid hU
    have ER := Lib.hid hE
    have CC := Lib.hid hC
    have GR := Lib.hid hG
    have HEN := Lib.hid hen
    have hel : es.length ≤ 3 := by omega
    have hbase : w2.heap.size ≤ wr.heap.size := hG.size
    clear hU hE hC hG hen C2
    obtain ⟨vL, hvLd⟩ : ∃ v, v = u6 := ⟨_, rfl⟩
    rw [← hvLd] at ER ⊢
    clear hvLd
    by_cases hlt : 0 < n
    · have i1 : (0 : Int) < (n : Int) := by omega
      go_wp2_with fail
      refine (item_some g l1 kc 1 5 0 wr CC.out (by omega)).mono ?_
      rintro e w3 ⟨x, k3, rfl, hok, hsub, h3, hg3⟩
      have hcl : x.cells.toArray = #[.string x.rule, .int .i64 x.ev.host, .int .i64 x.ev.file, .int .i64 x.ev.beg, .int .i64 x.ev.fin, .slice x.ev.la x.ev.lines.length x.ev.lc, .int .i64 x.ev.time, .int .i64 x.ev.weight, .string x.ev.trace, .string x.ev.stream, .slice x.ev.fa x.ev.fields.length x.ev.fc] := rfl
      rw [hcl]
      have hf1 := item_f1 (.string x.rule) (.int .i64 x.ev.host) (.int .i64 x.ev.file) (.int .i64 x.ev.beg) (.int .i64 x.ev.fin) (.slice x.ev.la x.ev.lines.length x.ev.lc) (.int .i64 x.ev.time) (.int .i64 x.ev.weight) (.string x.ev.trace) (.string x.ev.stream) (.slice x.ev.fa x.ev.fields.length x.ev.fc)
      have OK := Lib.hid hok
      have SB := Lib.hid hsub
      have C3 := Lib.hid h3
      have G3 := Lib.hid (only_trans GR.out hg3)
      have E3 := Lib.hid (ER.out.fr (frN_g hg3) (fun b hb _ e => by omega) hgw2)
      have LT3 := Lib.hid E3.out.own.lt
      have LT0 := Lib.hid ER.out.own.lt
      clear hok hsub h3 hg3 hcl CC GR ER
      go_upto_region 9 with fail
      clear hf1
      obtain ⟨eb, hebd⟩ : ∃ b, b = w3.heap.size := ⟨_, rfl⟩
      obtain ⟨W, hW⟩ : ∃ W, W = w3.alloc (.cells (evArr x.ev (.int .i64 x.ev.weight) (.string x.ev.trace)) 35) := ⟨_, rfl⟩
      have BE : Hid (Blk W eb 35 (evArr x.ev (.int .i64 x.ev.weight) (.string x.ev.trace))) := Lib.hid (by rw [hW, hebd]; exact Blk.new _ _ _)
      have hgA : w3.grownBy W none := by rw [hW]; exact only_alloc (only_refl _ none) _
      have CW := Lib.hid (C3.out.grown hgA (by simp))
      have FW : Hid (FrN (· = g) w3 W) := Lib.hid (fr_of_none hgA)
      have hgeb : g < eb := by rw [hebd]; exact C3.out.lt
      have heb3 : w3.heap.size ≤ eb := by omega
      have HEB := Lib.hid hebd
      have hW3 : w3.heap.size ≤ W.heap.size := hgA.size
      rw [← hebd, ← hW]
      clear hebd hW hgA C3
      refine wp_region_gen 9 (JC [none, some (.pointer (some ⟨g, 0, none⟩)), none, none, none, some (.pointer (some ⟨eb, 6, none⟩)), none, some (.pointer (some ⟨eb, 7, none⟩)), none] (fun D u w => (∃ k, CodesAt w g l1 k) ∧ FrN (· = g) w3 w ∧ Blk w eb 35 (evArr x.ev (bif D 6 then .int .i64 1 else .int .i64 x.ev.weight) (bif D 8 then u 4 else .string x.ev.trace)) ∧ (D 8 = true → D 4 = true) ∧ (D 0 = true → ∃ b, u 0 = .slice (some ⟨b, 0, none⟩) 3 3 ∧ eb < b ∧ Blk w b 9 #[.string ⟨#[116, 49]⟩, .string ⟨#[116, 50]⟩, .string ⟨#[120]⟩]) ∧ (D 2 = true → ∃ j : Nat, j < 3 ∧ u 2 = .int .i64 j) ∧ (D 3 = true → ∃ b j : Nat, j < 3 ∧ u 3 = .pointer (some ⟨b, j, none⟩) ∧ eb < b ∧ Blk w b 9 #[.string ⟨#[116, 49]⟩, .string ⟨#[116, 50]⟩, .string ⟨#[120]⟩]) ∧ (D 4 = true → ∃ s : ByteArray, u 4 = .string s ∧ s.size ≤ 10))) (by kernel_rfl) (by kernel_rfl) ?_ ?_ ?_
      · intro u
        exact ⟨(fun j c _ h => by cases h), ⟨_, CW.out⟩, FW.out.drew, BE.out, (fun h => by cases h), (fun h => by cases h), (fun h => by cases h), (fun h => by cases h), (fun h => by cases h)⟩
      · intro AA hA
        have hasz : AA.tmps.size = 140 := by rw [hA]; kernel_rfl
        have ea5 : AA.eval (.tmp 5) = .pointer (some ⟨g, 0, none⟩) := by rw [hA]; kernel_rfl
        have ea8 : AA.eval (.tmp 8) = .pointer (some ⟨eb, 0, none⟩) := by rw [hA]; kernel_rfl
        clear hA
        simp only [List.take_succ_cons, List.take_zero]
        refine .cons ?_ (.cons ?_ (.cons ?_ (.cons ?_ (.cons ?_ (.cons ?_ (.cons ?_ (.cons ?_ (.cons ?_ (.nil)))))))))
        · refine gd_eff (by kernel_rfl) (Want.none_ rfl) (fun D u ρ w kn hD => ?_)
          obtain ⟨⟨kq, x1⟩, x2, x3, x4, x5, x6, x7, x8⟩ := kn.ext
          have hg : w.grownBy (w.alloc (.cells #[.string ⟨#[116, 49]⟩, .string ⟨#[116, 50]⟩, .string ⟨#[120]⟩] 9)) none := World.grownBy_alloc w _ none
          have hlt := x3.lt
          exact ⟨.slice (some ⟨w.heap.size, 0, none⟩) 3 3, w.alloc (.cells #[.string ⟨#[116, 49]⟩, .string ⟨#[116, 50]⟩, .string ⟨#[120]⟩] 9), by simp [execOp, kn.rho.con, go_sem], (fun c h => by injection h with h; cases h), ⟨(⟨kq, x1.alloc _⟩), (x2.alloc _), (by rw [updB_ne D (by omega), updB_ne D (by omega), upd_ne u _ (by omega)]; exact x3.alloc _), (by rw [updB_ne D (by omega), updB_ne D (by omega)]; exact x4), (fun _ => ⟨w.heap.size, by rw [upd_at], hlt, Blk.new _ _ _⟩), (fun h => by rw [updB_ne D (by omega)] at h; rw [upd_ne u _ (by omega)]; exact x6 h), (fun h => by rw [updB_ne D (by omega)] at h; rw [upd_ne u _ (by omega)]; obtain ⟨b, j, y0, y1, y2, y3⟩ := x7 h; exact ⟨b, j, y0, y1, y2, y3.alloc _⟩), (fun h => by rw [updB_ne D (by omega)] at h; rw [upd_ne u _ (by omega)]; exact x8 h)⟩⟩
        · exact gd_gen (by kernel_rfl) (Want.none_ rfl) rfl (fun D u w v h => by simpa [updB, upd] using h) (fun D u ρ w kn => by
            have e0 := kn.own 5 (c := .pointer (some ⟨g, 0, none⟩)) (by kernel_rfl) ea5
            simp [execOp, kn.rho.con, e0, go_sem])
        · refine gd_call (by kernel_rfl) (Want.none_ rfl) 9 (fun D u ρ w kn hD => ?_)
          have e0 := kn.con 1 33 (c := .pointer (some ⟨g, 0, none⟩)) (by kernel_rfl) (by omega) (by kernel_rfl) rfl
          obtain ⟨⟨kq, x1⟩, x2, x3, x4, x5, x6, x7, x8⟩ := kn.ext
          refine ⟨#[.pointer (some ⟨g, 0, none⟩), .int .i64 3], ?_, (next_some g l1 kq 3 w x1 (by omega) (by omega)).mono ?_⟩
          · simp only [execOp, resolve, Deferred.ofValue, List.map_toArray, List.map_cons, List.map_nil, e0, kn.rho.con, kn.rho.fn]
            try simp [go_sem]
          · rintro e w' ⟨vn, kn2, rfl, hv, hc2, hg⟩
            obtain ⟨j, rfl⟩ := Int.eq_ofNat_of_zero_le hv.1
            have hj : j < 3 := by omega
            exact ⟨_, rfl, (fun c h => by injection h with h; cases h), ⟨(⟨kn2, hc2⟩), (x2.grow hg (fun k hk => .inl (by injection hk with hk; exact hk.symm))), (by rw [updB_ne D (by omega), updB_ne D (by omega), upd_ne u _ (by omega)]; exact x3.grown hg (by intro e; injection e; omega)), (by rw [updB_ne D (by omega), updB_ne D (by omega)]; exact x4), (fun h => by rw [updB_ne D (by omega)] at h; rw [upd_ne u _ (by omega)]; obtain ⟨b, y1, y2, y3⟩ := x5 h; exact ⟨b, y1, y2, y3.grown hg (by intro e; injection e; omega)⟩), (fun _ => ⟨j, hj, by rw [upd_at]⟩), (fun h => by rw [updB_ne D (by omega)] at h; rw [upd_ne u _ (by omega)]; obtain ⟨b, j, y0, y1, y2, y3⟩ := x7 h; exact ⟨b, j, y0, y1, y2, y3.grown hg (by intro e; injection e; omega)⟩), (fun h => by rw [updB_ne D (by omega)] at h; rw [upd_ne u _ (by omega)]; exact x8 h)⟩⟩
        · refine gd_eff (by kernel_rfl) (Want.none_ rfl) (fun D u ρ w kn hD => ?_)
          have e0 := kn.slot 0 32 (by kernel_rfl) (by omega)
          have e1 := kn.slot 2 34 (by kernel_rfl) (by omega)
          have d0 := kn.dep 0 (by kernel_rfl)
          have d2 := kn.dep 2 (by kernel_rfl)
          obtain ⟨⟨kq, x1⟩, x2, x3, x4, x5, x6, x7, x8⟩ := kn.ext
          obtain ⟨b, y1, y2, y3⟩ := x5 d0
          obtain ⟨j, hj, z1⟩ := x6 d2
          rw [y1] at e0
          rw [z1] at e1
          have hj0 : (0 : Int) ≤ (j : Int) := by omega
          have hj3 : (j : Int) < 3 := by omega
          exact ⟨.pointer (some ⟨b, j, none⟩), w, by simp [execOp, kn.rho.con, e0, e1, go_sem, hj0, hj3], (fun c h => by injection h with h; cases h), ⟨(⟨kq, x1⟩), (x2), (by rw [updB_ne D (by omega), updB_ne D (by omega), upd_ne u _ (by omega)]; exact x3), (by rw [updB_ne D (by omega), updB_ne D (by omega)]; exact x4), (fun h => by rw [updB_ne D (by omega)] at h; rw [upd_ne u _ (by omega)]; obtain ⟨b, y1, y2, y3⟩ := x5 h; exact ⟨b, y1, y2, y3⟩), (fun h => by rw [updB_ne D (by omega)] at h; rw [upd_ne u _ (by omega)]; exact x6 h), (fun _ => ⟨b, j, hj, by rw [upd_at], y2, y3⟩), (fun h => by rw [updB_ne D (by omega)] at h; rw [upd_ne u _ (by omega)]; exact x8 h)⟩⟩
        · refine gd_eff (by kernel_rfl) (Want.none_ rfl) (fun D u ρ w kn hD => ?_)
          have e0 := kn.slot 3 35 (by kernel_rfl) (by omega)
          have d3 := kn.dep 3 (by kernel_rfl)
          obtain ⟨⟨kq, x1⟩, x2, x3, x4, x5, x6, x7, x8⟩ := kn.ext
          obtain ⟨b, j, hj, y1, y2, y3⟩ := x7 d3
          rw [y1] at e0
          have d8 : D 8 = false := by cases h : D 8 with | false => rfl | true => rw [x4 h] at hD; cases hD
          have hs : ∃ s : ByteArray, w.cell? ⟨b, j, none⟩ = some (.string s) ∧ s.size ≤ 10 := by
            rw [y3.cell j]
            match j, hj with
            | 0, _ => exact ⟨_, rfl, by decide⟩
            | 1, _ => exact ⟨_, rfl, by decide⟩
            | 2, _ => exact ⟨_, rfl, by decide⟩
          obtain ⟨s, hs1, hs2⟩ := hs
          exact ⟨.string s, w, by simp [execOp, kn.rho.con, e0, hs1, go_sem], (fun c h => by injection h with h; cases h), ⟨(⟨kq, x1⟩), (x2), (by rw [updB_ne D (by omega), updB_ne D (by omega), d8]; rw [d8] at x3; exact x3), ((fun _ => updB_at D 4)), (fun h => by rw [updB_ne D (by omega)] at h; rw [upd_ne u _ (by omega)]; obtain ⟨b, y1, y2, y3⟩ := x5 h; exact ⟨b, y1, y2, y3⟩), (fun h => by rw [updB_ne D (by omega)] at h; rw [upd_ne u _ (by omega)]; exact x6 h), (fun h => by rw [updB_ne D (by omega)] at h; rw [upd_ne u _ (by omega)]; obtain ⟨b, j, y0, y1, y2, y3⟩ := x7 h; exact ⟨b, j, y0, y1, y2, y3⟩), (fun _ => ⟨s, by rw [upd_at], hs2⟩)⟩⟩
        · exact gd_gen (by kernel_rfl) (Want.none_ rfl) rfl (fun D u w v h => by simpa [updB, upd] using h) (fun D u ρ w kn => by
            have e0 := kn.own 8 (c := .pointer (some ⟨eb, 0, none⟩)) (by kernel_rfl) ea8
            simp [execOp, kn.rho.con, e0, go_sem])
        · refine gd_skip (by kernel_rfl) (Want.none_ rfl) rfl (fun D u ρ w kn hD => ?_)
          have e0 := kn.con 5 37 (c := .pointer (some ⟨eb, 6, none⟩)) (by kernel_rfl) (by omega) (by kernel_rfl) rfl
          obtain ⟨⟨kq, x1⟩, x2, x3, x4, x5, x6, x7, x8⟩ := kn.ext
          have hq := x3.cell 6
          simp [evArr] at hq
          have hg : w.grownBy (w.setCell ⟨eb, 6, none⟩ (.int .i64 1)) (some eb) := only_setCell (only_refl _ _) (p := ⟨eb, 6, none⟩) (.inl rfl) _
          exact ⟨w.setCell ⟨eb, 6, none⟩ (.int .i64 1), by simp only [execOp, e0, kn.rho.con, Sem.run_bind, store_int37 w eb 6 _ hq (x3.frozen 6), Result.andThen_ok, Sem.run_pure], ⟨(⟨kq, x1.grown hg (by intro b hb e; injection e; omega)⟩), (x2.set_ (p := ⟨eb, 6, none⟩) (.inr heb3) _), (by rw [updB_at, updB_ne D (by omega), upd_ne u _ (by omega)]; exact evArr_w x3), (by rw [updB_ne D (by omega), updB_ne D (by omega)]; exact x4), (fun h => by rw [updB_ne D (by omega)] at h; rw [upd_ne u _ (by omega)]; obtain ⟨b, y1, y2, y3⟩ := x5 h; exact ⟨b, y1, y2, y3.grown hg (by intro e; injection e; omega)⟩), (fun h => by rw [updB_ne D (by omega)] at h; rw [upd_ne u _ (by omega)]; exact x6 h), (fun h => by rw [updB_ne D (by omega)] at h; rw [upd_ne u _ (by omega)]; obtain ⟨b, j, y0, y1, y2, y3⟩ := x7 h; exact ⟨b, j, y0, y1, y2, y3.grown hg (by intro e; injection e; omega)⟩), (fun h => by rw [updB_ne D (by omega)] at h; rw [upd_ne u _ (by omega)]; exact x8 h)⟩⟩
        · exact gd_gen (by kernel_rfl) (Want.none_ rfl) rfl (fun D u w v h => by simpa [updB, upd] using h) (fun D u ρ w kn => by
            have e0 := kn.own 8 (c := .pointer (some ⟨eb, 0, none⟩)) (by kernel_rfl) ea8
            simp [execOp, kn.rho.con, e0, go_sem])
        · refine gd_skip (by kernel_rfl) (Want.none_ rfl) rfl (fun D u ρ w kn hD => ?_)
          have e0 := kn.con 7 38 (c := .pointer (some ⟨eb, 7, none⟩)) (by kernel_rfl) (by omega) (by kernel_rfl) rfl
          have e1 := kn.slot 4 36 (by kernel_rfl) (by omega)
          have d4 := kn.dep 4 (by kernel_rfl)
          obtain ⟨⟨kq, x1⟩, x2, x3, x4, x5, x6, x7, x8⟩ := kn.ext
          obtain ⟨s, hs1, hs2⟩ := x8 d4
          rw [hs1] at e1
          have hq := x3.cell 7
          simp [evArr] at hq
          have hg : w.grownBy (w.setCell ⟨eb, 7, none⟩ (.string s)) (some eb) := only_setCell (only_refl _ _) (p := ⟨eb, 7, none⟩) (.inl rfl) _
          exact ⟨w.setCell ⟨eb, 7, none⟩ (.string s), by simp only [execOp, e0, e1, Sem.run_bind, store_str37 w eb 7 _ hq (x3.frozen 7), Result.andThen_ok, Sem.run_pure], ⟨(⟨kq, x1.grown hg (by intro b hb e; injection e; omega)⟩), (x2.set_ (p := ⟨eb, 7, none⟩) (.inr heb3) _), (by rw [updB_at, updB_ne D (by omega), upd_ne u _ (by omega), hs1]; exact evArr_t x3), ((fun _ => by rw [updB_ne D (by omega)]; exact d4)), (fun h => by rw [updB_ne D (by omega)] at h; rw [upd_ne u _ (by omega)]; obtain ⟨b, y1, y2, y3⟩ := x5 h; exact ⟨b, y1, y2, y3.grown hg (by intro e; injection e; omega)⟩), (fun h => by rw [updB_ne D (by omega)] at h; rw [upd_ne u _ (by omega)]; exact x6 h), (fun h => by rw [updB_ne D (by omega)] at h; rw [upd_ne u _ (by omega)]; obtain ⟨b, j, y0, y1, y2, y3⟩ := x7 h; exact ⟨b, j, y0, y1, y2, y3.grown hg (by intro e; injection e; omega)⟩), (fun h => by rw [updB_ne D (by omega)] at h; rw [upd_ne u _ (by omega)]; exact x8 h)⟩⟩
      · intro D u w5 hJ hD
        obtain ⟨hc, x1, x2, x3, x4, x5, x6, x7, x8⟩ := hJ
        obtain ⟨tr, hu4, htr⟩ := x8 (hD 4 (by omega))
        rw [hD 6 (by omega), hD 8 (by omega), hu4] at x3
        simp only [cond_true] at x3
        have hcm : evArr x.ev (.int .i64 1) (.string tr) = (evMade x.ev tr).cells.toArray := rfl
        have d0 := x3.cell 0; have d1 := x3.cell 1; have d2 := x3.cell 2; have d3 := x3.cell 3; have d4 := x3.cell 4; have d5 := x3.cell 5; have d6 := x3.cell 6; have d7 := x3.cell 7; have d8 := x3.cell 8; have d9 := x3.cell 9
        simp [evArr] at d0 d1 d2 d3 d4 d5 d6 d7 d8 d9
        have C5 : Hid (∃ k, CodesAt w5 g l1 k) := Lib.hid x1
        have E5 := Lib.hid (E3.out.fr x2 (fun b hb _ e => by omega) hgw2)
        have S5 : Hid ((evMade x.ev tr).Sub (fun b => g < b ∧ Value.ownBlock vL ≠ some b) w5) := Lib.hid (by
          have key : ∀ (A : Option Addr) (xs : List Value), Rd (wr.heap.size ≤ ·) w3 A xs → Rd (fun b => g < b ∧ Value.ownBlock vL ≠ some b) w5 A xs := fun A xs hr =>
            (x2.rd hr (fun b hb e => by have hq : wr.heap.size ≤ b := hb; omega)).mono (fun b hb _ => ⟨by have hq : wr.heap.size ≤ b := hb; omega, fun e => by have := (LT0.out b e).2; have hq : wr.heap.size ≤ b := hb; omega⟩)
          exact ⟨key _ _ SB.out.1, key _ _ SB.out.2.1, SB.out.2.2⟩)
        have U5 := Lib.hid (evU_of OK.out htr)
        have G5 : Hid (w2.grownBy w5 (some g)) := Lib.hid ⟨x2.1.trans G3.out.os, x2.2.1.trans G3.out.tape, x2.2.2.1.trans G3.out.output, Nat.le_trans G3.out.size x2.2.2.2.1, fun i hi hne => (x2.2.2.2.2 i (Nat.lt_of_lt_of_le hi G3.out.size) (fun e => hne (by rw [e]))).trans (G3.out.block i hi hne)⟩
        have hb5 : w2.heap.size ≤ w5.heap.size := G5.out.size
        simp only [List.take_succ_cons, List.take_zero, List.drop_succ_cons, List.drop_zero, putAll]
        clear hc x1 x2 x3 x4 x5 x6 x7 x8 hD hu4 htr hcm CW BE FW SB OK E3 G3
        go_wp2_with (at_builtin; go_must (refine wpList_append1 rfl _ _ 26 rfl w2.heap.size Tryz.underlying26 eventInfo rfl (by decide) (v := vL) (by rfl) (w0 := w5) (cs := (evMade x.ev tr).cells.toArray) E5.out.own (by rfl) rfl (by simpa using Ev.one (evMade x.ev tr)) (by decide) (by omega) (by omega) ?_); intro v7 w7 hown7 hg7 hob7)
        have E7 := Lib.hid (E5.out.snoc (v' := v7) (w := w7) (by simpa using hown7) S5.out (fun k hk => by rcases hob7 with h2 | h2; exact .inl (h2.symm.trans hk); rw [h2] at hk; injection hk with hk; exact .inr (by omega)) hg7)
        have hcg : some g ≠ Value.ownBlock vL := fun e => by have := (E5.out.own.lt g e.symm).1; omega
        have C7 : Hid (∃ k, CodesAt w7 g l1 k) := Lib.hid (by
          obtain ⟨k, hk⟩ := C5.out
          exact ⟨k, hk.grown hg7 (fun b hb e => by have := (E5.out.own.lt b e.symm).1; omega)⟩)
        have G7 : Hid (w2.grownBy w7 (some g)) := Lib.hid (by
          have hor : ∀ k, Value.ownBlock vL = some k → w2.heap.size ≤ k := fun k e => (E5.out.own.lt k e).1
          exact ⟨hg7.os.trans G5.out.os, hg7.tape.trans G5.out.tape, hg7.output.trans G5.out.output, Nat.le_trans G5.out.size hg7.size, fun i hi hne => (hg7.block i (Nat.lt_of_lt_of_le hi G5.out.size) (fun e => by have := hor i e.symm; omega)).trans (G5.out.block i hi hne)⟩)
        have HU7 : Hid (∀ e ∈ es ++ [evMade x.ev tr], EvU e) := Lib.hid (mem_snoc HU.out U5.out)
        clear hown7 hg7 hob7 hcg d0 d1 d2 d3 d4 d5 d6 d7 d8 d9
        go_wp2_with fail
        go_roundw
        case rel => exact ⟨n - 1, es ++ [evMade x.ev tr], by go_num, by omega, by have := HEN.out; simp; omega, HU7.out, E7.out, C7.out, G7.out⟩
        case measure => simp [intOf]; omega
    · have i1 : ¬ (0 : Int) < (n : Int) := by omega
      have hel2 : es.length = m + 1 := by have := HEN.out; omega
      obtain ⟨AL, cL, hvL, hL1, hL2, -, hL3⟩ := Rd.of_own ER.out.own (by decide)
      have HL12 := Lib.hid (And.intro hL1 hL2)
      have EV : Hid (Evs (fun _ => True) wr AL es) := Lib.hid ⟨hL3.mono (fun _ _ _ => trivial), fun e he => (ER.out.sub e he).mono (fun _ _ _ => trivial)⟩
      have GWR : Hid (w.grownBy wr none) := Lib.hid (only_fresh G2.out GR.out HWG.out)
      have PT := Lib.hid (HP.out _ GWR.out)
      rw [hvL]
      obtain ⟨W, rfl⟩ : ∃ W, W = wr := ⟨_, rfl⟩
      clear hvL hL1 hL2 hL3 ER CC GR HEN hbase hel2 HP G2
      go_upto_region 11 with fail
      go_cut [9] (fun v wx => ∃ (b : Nat) (W' : Int), v = .slice (some ⟨b, 0, none⟩) 1 1 ∧ WOk W' ∧ RuleAt wx b W' ∧ W.grownBy wx none)
      case first =>
        have hcase : wt % 6 = 0 ∨ wt % 6 = 1 ∨ wt % 6 = 2 ∨ wt % 6 = 3 ∨ wt % 6 = 4 ∨ wt % 6 = 5 := by omega
        rcases hcase with hm | hm | hm | hm | hm | hm
        · go_wp2_with fail
          go_meet
          refine ⟨_, 1, rfl, .inl rfl, ?_, only_alloc (only_alloc (only_refl _ _) _) _⟩
          have h9 := Blk.new (W.alloc (.cells #[.int .i64 1, .int .i64 2, .int .i64 3, .int .i64 7, .int .i64 10, .int .i64 5040] 3)) 55 #[.string ⟨#[]⟩, .int .i64 1]
          simpa [RuleAt] using h9
        · go_wp2_with fail
          go_meet
          refine ⟨_, 2, rfl, .inr (.inl rfl), ?_, only_alloc (only_alloc (only_refl _ _) _) _⟩
          have h9 := Blk.new (W.alloc (.cells #[.int .i64 1, .int .i64 2, .int .i64 3, .int .i64 7, .int .i64 10, .int .i64 5040] 3)) 55 #[.string ⟨#[]⟩, .int .i64 2]
          simpa [RuleAt] using h9
        · go_wp2_with fail
          go_meet
          refine ⟨_, 3, rfl, .inr (.inr (.inl rfl)), ?_, only_alloc (only_alloc (only_refl _ _) _) _⟩
          have h9 := Blk.new (W.alloc (.cells #[.int .i64 1, .int .i64 2, .int .i64 3, .int .i64 7, .int .i64 10, .int .i64 5040] 3)) 55 #[.string ⟨#[]⟩, .int .i64 3]
          simpa [RuleAt] using h9
        · go_wp2_with fail
          go_meet
          refine ⟨_, 7, rfl, .inr (.inr (.inr (.inl rfl))), ?_, only_alloc (only_alloc (only_refl _ _) _) _⟩
          have h9 := Blk.new (W.alloc (.cells #[.int .i64 1, .int .i64 2, .int .i64 3, .int .i64 7, .int .i64 10, .int .i64 5040] 3)) 55 #[.string ⟨#[]⟩, .int .i64 7]
          simpa [RuleAt] using h9
        · go_wp2_with fail
          go_meet
          refine ⟨_, 10, rfl, .inr (.inr (.inr (.inr (.inl rfl)))), ?_, only_alloc (only_alloc (only_refl _ _) _) _⟩
          have h9 := Blk.new (W.alloc (.cells #[.int .i64 1, .int .i64 2, .int .i64 3, .int .i64 7, .int .i64 10, .int .i64 5040] 3)) 55 #[.string ⟨#[]⟩, .int .i64 10]
          simpa [RuleAt] using h9
        · go_wp2_with fail
          go_meet
          refine ⟨_, 5040, rfl, .inr (.inr (.inr (.inr (.inr rfl)))), ?_, only_alloc (only_alloc (only_refl _ _) _) _⟩
          have h9 := Blk.new (W.alloc (.cells #[.int .i64 1, .int .i64 2, .int .i64 3, .int .i64 7, .int .i64 10, .int .i64 5040] 3)) 55 #[.string ⟨#[]⟩, .int .i64 5040]
          simpa [RuleAt] using h9
      case rest =>
      obtain ⟨rb, WW, rfl, hWO, hRU, hgc⟩ := hcut
      have HWO := Lib.hid hWO
      go_upto_region 13 with fail
      obtain ⟨bn, hbn⟩ : ∃ b, b = wc.heap.size := ⟨_, rfl⟩
      obtain ⟨WN, hWN⟩ : ∃ W, W = (wc.alloc (.cells #[.string ⟨#[108, 101, 118, 101, 108]⟩] 9)).alloc (.cells #[.int .i64 0, .string ⟨#[]⟩, .int .i64 1, .string ⟨#[109, 115]⟩] 42) := ⟨_, rfl⟩
      have hBN : Blk WN bn 9 #[.string ⟨#[108, 101, 118, 101, 108]⟩] := by rw [hWN, hbn]; exact (Blk.new wc _ _).alloc _
      have hBA : Blk WN (bn + 1) 42 #[.int .i64 0, .string ⟨#[]⟩, .int .i64 1, .string ⟨#[109, 115]⟩] := by
        rw [hWN, hbn]
        have := Blk.new (wc.alloc (.cells #[.string ⟨#[108, 101, 118, 101, 108]⟩] 9)) 42 #[.int .i64 0, .string ⟨#[]⟩, .int .i64 1, .string ⟨#[109, 115]⟩]
        simpa using this
      have hgn : W.grownBy WN none := by rw [hWN]; exact only_alloc (only_alloc hgc _) _
      have RNS := Lib.hid (rd_un hBN)
      have RAG := Lib.hid (rd_ua hBA)
      have RUL : Hid (RuleAt WN rb WW) := Lib.hid (by rw [hWN]; exact (Blk.alloc (Blk.alloc hRU _) _))
      have EVN := Lib.hid (EV.out.grown hgn (by simp))
      have PTN := Lib.hid (PT.out.grown hgn)
      have GN : Hid (w.grownBy WN none) := Lib.hid (only_trans GWR.out hgn)
      rw [← hbn, ← hWN]
      have hNS : ∀ n ∈ unNs, n.size ≤ 1000 := by intro n hn; rw [List.mem_singleton.1 hn]; decide
      have HCOL : Hid (∀ (Ae : Option Addr) (ks : List Ev) (ce : Nat) (w' : World), WN.grownBy w' none → Evs (fun _ => True) w' Ae ks → ks.length ≤ ce → ks.length ≤ 50000 → (∀ e ∈ ks, EvV e) → Calls Tryz.prog 10 #[.slice (some ⟨bn, 0, none⟩) 1 1, .slice (some ⟨bn + 1, 0, none⟩) 2 2, .slice Ae ks.length ce] w' (PartsP w' (collF unNs unAgs ks))) := Lib.hid (fun Ae ks ce w' hg h1 h2 h3 h4 =>
        gcoll_any (some ⟨bn, 0, none⟩) unNs 1 (some ⟨bn + 1, 0, none⟩) unAgs 2 w' (RNS.out.grown hg (by simp)) (by decide) hNS (RAG.out.grown hg (by simp)) (by decide) unAgs_ok (PTN.out.grown hg) ks.length _ Ae ks ce w' (Nat.le_refl _) (only_refl _ _) h1 h2 h3 h4)
      have HMRG : Hid (∀ (Ax : Option Addr) (px : List PD) (cx : Nat) (Ay : Option Addr) (py : List PD) (cy : Nat) (lx ly : List Ev) (w' : World), WN.grownBy w' none → PDs (fun _ => True) w' Ax px → PDs (fun _ => True) w' Ay py → px.length ≤ cx → py.length ≤ cy → px.map PD.pl = collF unNs unAgs lx → py.map PD.pl = collF unNs unAgs ly → lx.length ≤ 30000 → ly.length ≤ 30000 → Calls Tryz.prog 11 #[.slice (some ⟨bn + 1, 0, none⟩) 2 2, .slice Ax px.length cx, .slice Ay py.length cy] w' (PartsP w' (collF unNs unAgs (lx ++ ly)))) := Lib.hid (fun Ax px cx Ay py cy lx ly w' hg h1 h2 h3 h4 h5 h6 h7 h8 => by
        have o1 := coll_okP h5 (by decide) (by omega)
        have o2 := coll_okP h6 (by decide) (by omega)
        have h0 := gmerge_any (some ⟨bn + 1, 0, none⟩) unAgs 2 Ax px cx Ay py cy w' (RAG.out.grown hg (by simp)) (by decide) unAgs_ok h1 h2 h3 h4 o1.1 o2.1 (by have := o1.2; have := o2.2; omega)
        rw [h5, h6, collF_app] at h0
        exact h0)
      have HAPP : Hid (∀ (k : Nat) (w' : World), k < 5040 → WN.grownBy w' none → Calls Tryz.prog 19 #[.slice (some ⟨rb, 0, none⟩) 1 1, .int .i64 (k : Int), .slice AL es.length cL] w' (ApplyP w' ((es.filter (kpB WW k)).map (reW WW)))) := Lib.hid (fun k w' hk hg => sapply_any rb WW k AL es cL w' HWO.out (Blk.grown RUL.out hg (by simp)) hk (EVN.out.1.grown hg (by simp)) (by omega) (fun e he => by have := (HU.out e he).2.2.2.2.2.1; omega))
      clear hbn hWN hBN hBA hgn hRU hgc hNS hWO RNS RAG RUL PTN PT EV
      go_wp2_with fail
      refine (HCOL.out AL es cL WN (only_refl _ _) EVN.out HL12.out.1 (by omega) (fun e he => (HU.out e he).evV)).mono ?_
      rintro e w5 ⟨AP, cP, ps, rfl, p1, p2, p3, p4, hg5⟩
      have hok5 := coll_okP p1 (by decide) (by omega)
      have P1 := Lib.hid p1
      have P4 := Lib.hid p4
      have G5 := Lib.hid hg5
      have HOK5 := Lib.hid hok5
      clear p1 p2 p3 p4 hg5 hok5
      go_wp2_with fail
      refine (grows_any (some ⟨bn + 1, 0, none⟩) 2 2 AP ps cP w5 P4.out (by have := HOK5.out.2; omega) (fun p hp => ⟨by have h := (HOK5.out.1 p hp).1; rw [h]; decide, by have := (HOK5.out.1 p hp).2.1; omega⟩)).mono ?_
      rintro e w6 ⟨AQ, cQ, qs, rfl, q1, q2, q3, q4, hg6⟩
      have Q1 : Hid (qs.map RwD.pl = (collF unNs unAgs es).map rowP) := Lib.hid (by rw [q1, P1.out])
      have Q4 := Lib.hid q4
      have G6 : Hid (WN.grownBy w6 none) := Lib.hid (only_trans G5.out hg6)
      clear q1 q2 q3 q4 hg6 P1 P4 G5 HOK5
      go_wp2_with fail
      go_loopw [13, 14] (fun v13 v14 wr => ∃ (k : Nat) (Ap : Option Addr) (ps : List PD) (cp : Nat), v14 = .int .i64 k ∧ k ≤ 5040 ∧ v13 = .slice Ap ps.length cp ∧ ps.map PD.pl = collF unNs unAgs (keptTo WW es k) ∧ ps.length ≤ cp ∧ PDs (fun _ => True) wr Ap ps ∧ w6.grownBy wr none) (fun _ v14 _ => 5040 - (intOf v14).toNat)
      case atStart => exact ⟨0, none, [], 0, rfl, Nat.zero_le _, rfl, rfl, Nat.le_refl _, ⟨Rd.nil, by simp⟩, only_refl _ _⟩
      case round =>
        obtain ⟨k, Ap, ps, cp, rfl, hk, rfl, hps, hcp, hP, hG⟩ := hrel
        have HPS := Lib.hid hps
        have HPD := Lib.hid hP
        have G := Lib.hid hG
        have HCP := Lib.hid hcp
        clear hps hP hG hcp
        by_cases hlt : k < 5040
        · have i1 : (k : Int) < 5040 := by omega
          have GA7 : Hid (WN.grownBy wr none) := Lib.hid (only_trans G6.out G.out)
          have HKL : Hid ((keptTo WW es k).length ≤ 30000) := Lib.hid (by
            have h1 := keptTo_len WW es k
            have h2 : es.length * k ≤ 3 * 5040 := Nat.mul_le_mul hel hk
            omega)
          have HSC : Hid (keptTo WW es (k + 1) = keptTo WW es k ++ (es.filter (kpB WW k)).map (reW WW)) := Lib.hid (keptTo_succ WW es k)
          have HKV : Hid (∀ e ∈ (es.filter (kpB WW k)).map (reW WW), EvV e) := Lib.hid (fun e he => by
            obtain ⟨y, hy, rfl⟩ := List.mem_map.1 he
            exact (HU.out y (List.mem_filter.1 hy).1).reW_V HWO.out)
          have HKS : Hid (∀ w', WN.grownBy w' none → ∀ e ∈ (es.filter (kpB WW k)).map (reW WW), e.Sub (fun _ => True) w') := Lib.hid (fun w' hg e he => by
            obtain ⟨y, hy, rfl⟩ := List.mem_map.1 he
            exact (EVN.out.2 y (List.mem_filter.1 hy).1).grown hg (by simp))
          have HKB : Hid (((es.filter (kpB WW k)).map (reW WW)).length ≤ 3) := Lib.hid (by rw [List.length_map]; have := List.length_filter_le (kpB WW k) es; omega)
          have KAP := Lib.hid (HAPP.out k wr hlt GA7.out)
          obtain ⟨ks, hks⟩ : ∃ l, l = (es.filter (kpB WW k)).map (reW WW) := ⟨_, rfl⟩
          rw [← hks] at HSC HKV HKS HKB KAP
          clear hks
          go_wp2_with fail
          refine KAP.out.mono ?_
          rintro e w7 ⟨AK, cK, rfl, k1, k2, k3, hg7⟩
          have G7 := Lib.hid (only_trans GA7.out hg7)
          have GG7 := Lib.hid (only_trans G.out hg7)
          have HPD7 := Lib.hid (HPD.out.grown hg7 (by simp))
          have EK : Hid (Evs (fun _ => True) w7 AK ks) := Lib.hid ⟨k3.mono (fun _ _ _ => trivial), HKS.out w7 G7.out⟩
          have K1 := Lib.hid k1
          clear k1 k2 k3 hg7 HPD G GA7 KAP
          by_cases hpos : 0 < ks.length
          · have i2 : (0 : Int) < (ks.length : Int) := by omega
            go_wp2_with fail
            refine (HCOL.out AK ks cK w7 G7.out EK.out K1.out (by have := HKB.out; omega) HKV.out).mono ?_
            rintro e w8 ⟨AY, cY, ys, rfl, y1, y2, y3, y4, hg8⟩
            have G8 := Lib.hid (only_trans G7.out hg8)
            have GG8 := Lib.hid (only_trans GG7.out hg8)
            have HPD8 := Lib.hid (HPD7.out.grown hg8 (by simp))
            have Y4 := Lib.hid (y4.mono (S' := fun _ => True) (fun _ _ _ => trivial))
            have Y1 := Lib.hid y1
            have Y2 := Lib.hid y2
            clear y1 y2 y3 y4 hg8
            go_wp2_with fail
            refine (HMRG.out Ap ps cp AY ys cY _ _ w8 G8.out HPD8.out Y4.out HCP.out Y2.out HPS.out Y1.out HKL.out (by have := HKB.out; omega)).mono ?_
            rintro e w9 ⟨AZ, cZ, zs, rfl, z1, z2, z3, z4, hg9⟩
            have GG9 := Lib.hid (only_trans GG8.out hg9)
            have Z1 : Hid (zs.map PD.pl = collF unNs unAgs (keptTo WW es (k + 1))) := Lib.hid (by rw [z1, HSC.out])
            have Z2 := Lib.hid z2
            have Z4 := Lib.hid (z4.mono (S' := fun _ => True) (fun _ _ _ => trivial))
            clear z1 z2 z3 z4 hg9
            go_wp2_with fail
            go_roundw
            case rel => exact ⟨k + 1, AZ, zs, cZ, by go_num, by omega, rfl, Z1.out, Z2.out, Z4.out, GG9.out⟩
            case measure => simp [intOf]; omega
          · have i2 : ¬ (0 : Int) < (ks.length : Int) := by omega
            have HSC2 : Hid (keptTo WW es (k + 1) = keptTo WW es k) := Lib.hid (by rw [HSC.out, List.eq_nil_of_length_eq_zero (show ks.length = 0 by omega), List.append_nil])
            go_wp2_with fail
            go_roundw
            case rel => exact ⟨k + 1, Ap, ps, cp, by go_num, by omega, rfl, by rw [HSC2.out]; exact HPS.out, HCP.out, HPD7.out, GG7.out⟩
            case measure => simp [intOf]; omega
        · have i1 : ¬ (k : Int) < 5040 := by omega
          have hke : k = 5040 := by omega
          have HPS2 : Hid (ps.map PD.pl = (collF unNs unAgs es).map scP) := Lib.hid (by
            rw [HPS.out, hke]
            exact unb_final HWO.out (fun e he => (HU.out e he).2.2.2.2.1) (fun e he => (HU.out e he).evV.1))
          have hck := coll_okP HPS.out (by decide) (by
            have h1 := keptTo_len WW es k
            have h2 : es.length * k ≤ 3 * 5040 := Nat.mul_le_mul hel hk
            omega)
          have HCK := Lib.hid hck
          have hpl : ps.length ≤ 30000 := by
            have h1 := keptTo_len WW es k
            have h2 : es.length * k ≤ 3 * 5040 := Nat.mul_le_mul hel hk
            have := hck.2; omega
          clear hke HPS hck
          go_wp2_with fail
          refine (grows_any (some ⟨bn + 1, 0, none⟩) 2 2 Ap ps cp wr HPD.out (by omega) (fun p hp => ⟨by have h := (HCK.out.1 p hp).1; rw [h]; decide, by have := (HCK.out.1 p hp).2.1; omega⟩)).mono ?_
          rintro e w8 ⟨AR, cR, rs, rfl, r1, r2, r3, r4, hg8⟩
          have R1 : Hid (rs.map RwD.pl = ((collF unNs unAgs es).map scP).map rowP) := Lib.hid (by rw [r1, HPS2.out])
          have R4 := Lib.hid r4
          have Q8 := Lib.hid (Q4.out.grown (only_trans G.out hg8) (by simp))
          have G8 : Hid (w.grownBy w8 none) := Lib.hid (only_trans (only_trans (only_trans GN.out G6.out) G.out) hg8)
          have hlen : rs.length = qs.length := by
            have h1 := congrArg List.length R1.out
            have h2 := congrArg List.length Q1.out
            simp at h1 h2
            omega
          have HKEY : Hid (∀ z ∈ collF unNs unAgs es, z.key.length ≤ 1000) := Lib.hid (fun z hz => Nat.le_trans ((collF_ok unNs unAgs es).1 z hz).2.1 (by decide))
          have HROW : Hid (∀ (j : Nat) (r q : RwD), rs[j]? = some r → qs[j]? = some q → (r.key.l = q.key.l ∧ ∃ a b, q.nl = [a, b] ∧ r.nl = [wrap64 (5040 * a), wrap64 (5040 * b)]) ∧ q.key.l.length ≤ 1000) := Lib.hid (fun j r q hr hq => by
            have h1 := congrArg (fun l => l[j]?) R1.out
            have h2 := congrArg (fun l => l[j]?) Q1.out
            simp only [List.getElem?_map, hr, hq, Option.map_some] at h1 h2
            cases hz : (collF unNs unAgs es)[j]? with
            | none => rw [hz] at h1; cases h1
            | some z =>
              rw [hz] at h1 h2
              simp only [Option.map_some] at h1 h2
              injection h1 with h1
              injection h2 with h2
              have hcl : z.cs.length = 2 := by
                have hz2 := (collF_can (ns := unNs) unAgs_cs.kinds (fun e he => evA_of (HU.out e he).evV.1 unAgs)) z (List.mem_of_getElem? hz)
                exact hz2.len
              refine ⟨unb_row h1 h2 hcl, ?_⟩
              have e2 : q.key.l = z.key := congrArg Prod.fst h2
              rw [e2]
              exact HKEY.out z (List.mem_of_getElem? hz))
          have hrl : rs.length ≤ 30000 := by
            have h1 := congrArg List.length r1
            simp at h1
            omega
          have HLEN := Lib.hid hlen
          rw [hlen]
          rw [hlen] at hrl
          obtain ⟨n, hn⟩ : ∃ n, n = qs.length := ⟨_, rfl⟩
          have HNN := Lib.hid hn
          rw [← hn] at hrl ⊢
          clear r1 r2 r3 r4 hg8 HPS2 HCK hpl hlen hn HPD G
          go_wp2_with fail
          go_loopw [17] (fun v17 wr => ∃ (j : Nat), v17 = .int .i64 j ∧ j ≤ n ∧ w8.grownBy wr none) (fun v17 _ => n - (intOf v17).toNat)
          case atStart => exact ⟨0, rfl, Nat.zero_le _, only_refl _ _⟩
          case round =>
            obtain ⟨j, rfl, hj, hGJ⟩ := hrel
            have GJ := Lib.hid hGJ
            clear hGJ
            by_cases hlt2 : j < n
            · have i2 : (j : Int) < (n : Int) := by omega
              obtain ⟨r, hr⟩ : ∃ r, rs[j]? = some r := ⟨_, List.getElem?_eq_getElem (by rw [HLEN.out, ← HNN.out]; exact hlt2)⟩
              obtain ⟨q, hq⟩ : ∃ q, qs[j]? = some q := ⟨_, List.getElem?_eq_getElem (by rw [← HNN.out]; exact hlt2)⟩
              obtain ⟨⟨hkey, ta, tb, hqn, hrn⟩, hkl⟩ := HROW.out j r q hr hq
              obtain ⟨bR, oR, eR, hbR, r0, r1⟩ := rw_in37 R4.out.1 hr
              obtain ⟨bQ, oQ, eQ, hbQ, q1, q2⟩ := rw_in37 Q8.out.1 hq
              subst eR eQ
              have sr := R4.out.2 r (List.mem_of_getElem? hr)
              have sq := Q8.out.2 q (List.mem_of_getElem? hq)
              have hr2 := sr.2.1
              have hq2 := sq.2.1
              rw [hrn] at hr2 r1
              rw [hqn] at hq2 q2
              obtain ⟨bT, oT, eT, -, hbT, cT⟩ := hr2 (by simp)
              obtain ⟨bU, oU, eU, -, hbU, cU⟩ := hq2 (by simp)
              rw [eT] at r1
              rw [eU] at q2
              have t0 := cT 0 _ rfl
              have t1 := cT 1 _ rfl
              have u0 := cU 0 _ rfl
              have u1 := cU 1 _ rfl
              simp only [Nat.add_zero] at t0 u0
              have KS : Hid (∀ w', w8.grownBy w' none → Calls Tryz.prog 20 #[.slice r.key.a r.key.l.length r.key.c, .slice q.key.a q.key.l.length q.key.c] w' (Quiet (.bool true) w')) := Lib.hid (fun w' hg => same_any r.key.a q.key.a r.key.l q.key.l r.key.c q.key.c w' (sr.1.1.grown hg (by simp)) (sq.1.1.grown hg (by simp)) (by rw [hkey]; omega) (by omega) true (by simp [hkey]))
              have r1' : w8.cell? ⟨bR, oR + j * 3 + 1, none⟩ = some (.slice (some ⟨bT, oT, none⟩) 2 r.nc) := r1
              have q2' : w8.cell? ⟨bQ, oQ + j * 3 + 1, none⟩ = some (.slice (some ⟨bU, oU, none⟩) 2 q.nc) := q2
              clear hr hq hkey hqn hrn sr sq hr2 hq2 eT eU cT cU hkl r1 q2
              go_upto_region 27 with fail
              go_cut [139] (fun v wx => v = .bool false ∧ w8.grownBy wx none)
              case first =>
                refine wp_region_gen 48 (JC (some (.slice (some ⟨bR, oR, none⟩) (n) (cR)) :: some (.int .i64 (j)) :: some (.pointer (some ⟨bR, oR + j * 3, none⟩)) :: some (.pointer (some ⟨bR, oR + j * 3, none⟩)) :: some (.slice r.key.a r.key.l.length r.key.c) :: some (.slice (some ⟨bQ, oQ, none⟩) (n) (cQ)) :: some (.int .i64 (j)) :: some (.pointer (some ⟨bQ, oQ + j * 3, none⟩)) :: some (.pointer (some ⟨bQ, oQ + j * 3, none⟩)) :: some (.slice q.key.a q.key.l.length q.key.c) :: some (.bool true) :: some (.bool false) :: some (.bool false) :: some (.slice (some ⟨bR, oR, none⟩) (n) (cR)) :: some (.int .i64 (j)) :: some (.pointer (some ⟨bR, oR + j * 3, none⟩)) :: some (.pointer (some ⟨bR, oR + j * 3 + 1, none⟩)) :: some (.slice (some ⟨bT, oT, none⟩) (2) (r.nc)) :: some (.pointer (some ⟨bT, oT, none⟩)) :: some (.int .i64 (wrap64 (5040 * ta))) :: some (.slice (some ⟨bQ, oQ, none⟩) (n) (cQ)) :: some (.int .i64 (j)) :: some (.pointer (some ⟨bQ, oQ + j * 3, none⟩)) :: some (.pointer (some ⟨bQ, oQ + j * 3 + 1, none⟩)) :: some (.slice (some ⟨bU, oU, none⟩) (2) (q.nc)) :: some (.pointer (some ⟨bU, oU, none⟩)) :: some (.int .i64 (ta)) :: some (.int .i64 (wrap64 (5040 * ta))) :: some (.bool false) :: some (.bool false) :: some (.bool false) :: some (.slice (some ⟨bR, oR, none⟩) (n) (cR)) :: some (.int .i64 (j)) :: some (.pointer (some ⟨bR, oR + j * 3, none⟩)) :: some (.pointer (some ⟨bR, oR + j * 3 + 1, none⟩)) :: some (.slice (some ⟨bT, oT, none⟩) (2) (r.nc)) :: some (.pointer (some ⟨bT, oT + 1, none⟩)) :: some (.int .i64 (wrap64 (5040 * tb))) :: some (.slice (some ⟨bQ, oQ, none⟩) (n) (cQ)) :: some (.int .i64 (j)) :: some (.pointer (some ⟨bQ, oQ + j * 3, none⟩)) :: some (.pointer (some ⟨bQ, oQ + j * 3 + 1, none⟩)) :: some (.slice (some ⟨bU, oU, none⟩) (2) (q.nc)) :: some (.pointer (some ⟨bU, oU + 1, none⟩)) :: some (.int .i64 (tb)) :: some (.int .i64 (wrap64 (5040 * tb))) :: some (.bool false) :: some (.bool false) :: []) (fun D u w => w8.grownBy w none)) (by kernel_rfl) (by kernel_rfl) ?_ ?_ ?_
                · intro u
                  exact ⟨(fun j c _ h => by cases h), only_drew GJ.out⟩
                · intro AA hA
                  have hasz : AA.tmps.size = 140 := by rw [hA]; kernel_rfl
                  have ea12 : AA.eval (.tmp 12) = .slice (some ⟨bQ, oQ, none⟩) (n) (cQ) := by rw [hA]; kernel_rfl
                  have ea16 : AA.eval (.tmp 16) = .slice (some ⟨bR, oR, none⟩) (n) (cR) := by rw [hA]; kernel_rfl
                  have ea17 : AA.eval (.tmp 17) = .int .i64 (j) := by rw [hA]; kernel_rfl
                  clear hA
                  simp only [List.take_succ_cons, List.take_zero]
                  refine .cons ?_ (.cons ?_ (.cons ?_ (.cons ?_ (.cons ?_ (.cons ?_ (.cons ?_ (.cons ?_ (.cons ?_ (.cons ?_ (.cons ?_ (.cons ?_ (.cons ?_ (.cons ?_ (.cons ?_ (.cons ?_ (.cons ?_ (.cons ?_ (.cons ?_ (.cons ?_ (.cons ?_ (.cons ?_ (.cons ?_ (.cons ?_ (.cons ?_ (.cons ?_ (.cons ?_ (.cons ?_ (.cons ?_ (.cons ?_ (.cons ?_ (.cons ?_ (.cons ?_ (.cons ?_ (.cons ?_ (.cons ?_ (.cons ?_ (.cons ?_ (.cons ?_ (.cons ?_ (.cons ?_ (.cons ?_ (.cons ?_ (.cons ?_ (.cons ?_ (.cons ?_ (.cons ?_ (.cons ?_ (.nil))))))))))))))))))))))))))))))))))))))))))))))))
                  · exact gd_gen (by kernel_rfl) (Want.none_ rfl) rfl (fun D u w v h => h) (fun D u ρ w kn => by
                      have e0 := kn.own 16 (c := .slice (some ⟨bR, oR, none⟩) (n) (cR)) (by kernel_rfl) ea16
                      simp [execOp, kn.rho.con, e0, go_sem])
                  · exact gd_gen (by kernel_rfl) (Want.none_ rfl) rfl (fun D u w v h => h) (fun D u ρ w kn => by
                      have e0 := kn.own 17 (c := .int .i64 (j)) (by kernel_rfl) ea17
                      simp [execOp, kn.rho.con, e0, go_sem])
                  · exact gd_gen (by kernel_rfl) (Want.none_ rfl) rfl (fun D u w v h => h) (fun D u ρ w kn => by
                      have e0 := kn.con 0 92 (c := .slice (some ⟨bR, oR, none⟩) (n) (cR)) (by kernel_rfl) (by omega) (by kernel_rfl) rfl
                      have e1 := kn.con 1 93 (c := .int .i64 (j)) (by kernel_rfl) (by omega) (by kernel_rfl) rfl
                      simp [execOp, kn.rho.con, e0, e1, go_sem, i2])
                  · exact gd_gen (by kernel_rfl) (Want.none_ rfl) rfl (fun D u w v h => h) (fun D u ρ w kn => by
                      have e0 := kn.con 2 94 (c := .pointer (some ⟨bR, oR + j * 3, none⟩)) (by kernel_rfl) (by omega) (by kernel_rfl) rfl
                      simp [execOp, kn.rho.con, e0, go_sem])
                  · exact gd_gen (by kernel_rfl) (Want.none_ rfl) rfl (fun D u w v h => h) (fun D u ρ w kn => by
                      have e0 := kn.con 3 95 (c := .pointer (some ⟨bR, oR + j * 3, none⟩)) (by kernel_rfl) (by omega) (by kernel_rfl) rfl
                      have f0 := (cellG kn.ext hbR).trans r0
                      simp [execOp, kn.rho.con, e0, f0, go_sem])
                  · exact gd_gen (by kernel_rfl) (Want.none_ rfl) rfl (fun D u w v h => h) (fun D u ρ w kn => by
                      have e0 := kn.own 12 (c := .slice (some ⟨bQ, oQ, none⟩) (n) (cQ)) (by kernel_rfl) ea12
                      simp [execOp, kn.rho.con, e0, go_sem])
                  · exact gd_gen (by kernel_rfl) (Want.none_ rfl) rfl (fun D u w v h => h) (fun D u ρ w kn => by
                      have e0 := kn.own 17 (c := .int .i64 (j)) (by kernel_rfl) ea17
                      simp [execOp, kn.rho.con, e0, go_sem])
                  · exact gd_gen (by kernel_rfl) (Want.none_ rfl) rfl (fun D u w v h => h) (fun D u ρ w kn => by
                      have e0 := kn.con 5 97 (c := .slice (some ⟨bQ, oQ, none⟩) (n) (cQ)) (by kernel_rfl) (by omega) (by kernel_rfl) rfl
                      have e1 := kn.con 6 98 (c := .int .i64 (j)) (by kernel_rfl) (by omega) (by kernel_rfl) rfl
                      simp [execOp, kn.rho.con, e0, e1, go_sem, i2])
                  · exact gd_gen (by kernel_rfl) (Want.none_ rfl) rfl (fun D u w v h => h) (fun D u ρ w kn => by
                      have e0 := kn.con 7 99 (c := .pointer (some ⟨bQ, oQ + j * 3, none⟩)) (by kernel_rfl) (by omega) (by kernel_rfl) rfl
                      simp [execOp, kn.rho.con, e0, go_sem])
                  · exact gd_gen (by kernel_rfl) (Want.none_ rfl) rfl (fun D u w v h => h) (fun D u ρ w kn => by
                      have e0 := kn.con 8 100 (c := .pointer (some ⟨bQ, oQ + j * 3, none⟩)) (by kernel_rfl) (by omega) (by kernel_rfl) rfl
                      have f0 := (cellG kn.ext hbQ).trans q1
                      simp [execOp, kn.rho.con, e0, f0, go_sem])
                  · refine gd_call (by kernel_rfl) (Want.none_ rfl) 20 (fun D u ρ w kn hD => ?_)
                    have e0 := kn.con 4 96 (c := .slice r.key.a r.key.l.length r.key.c) (by kernel_rfl) (by omega) (by kernel_rfl) rfl
                    have e1 := kn.con 9 101 (c := .slice q.key.a q.key.l.length q.key.c) (by kernel_rfl) (by omega) (by kernel_rfl) rfl
                    refine ⟨#[.slice r.key.a r.key.l.length r.key.c, .slice q.key.a q.key.l.length q.key.c], ?_, (KS.out w kn.ext).mono ?_⟩
                    · simp only [execOp, resolve, Deferred.ofValue, List.map_toArray, List.map_cons, List.map_nil, e0, e1, kn.rho.con, kn.rho.fn]
                      simp [go_sem]
                    · rintro e w' ⟨rfl, nq, rfl⟩
                      exact ⟨_, rfl, (fun c h => by injection h with h; injection h), only_drewN kn.ext nq⟩
                  · exact gd_gen (by kernel_rfl) (Want.none_ rfl) rfl (fun D u w v h => h) (fun D u ρ w kn => by
                      have e0 := kn.con 10 102 (c := .bool true) (by kernel_rfl) (by omega) (by kernel_rfl) rfl
                      simp [execOp, kn.rho.con, e0, go_sem])
                  · exact gd_gen (by kernel_rfl) (Want.none_ rfl) rfl (fun D u w v h => h) (fun D u ρ w kn => by
                      have e0 := kn.con 11 103 (c := .bool false) (by kernel_rfl) (by omega) (by kernel_rfl) rfl
                      simp [execOp, kn.rho.con, e0, go_sem])
                  · exact gd_gen (by kernel_rfl) (Want.some_ (g := 12) (v := false) rfl rfl (by kernel_rfl) (by omega) rfl rfl (by kernel_rfl)) rfl (fun D u w v h => h) (fun D u ρ w kn => by
                      have e0 := kn.own 16 (c := .slice (some ⟨bR, oR, none⟩) (n) (cR)) (by kernel_rfl) ea16
                      simp [execOp, kn.rho.con, e0, go_sem])
                  · exact gd_gen (by kernel_rfl) (Want.some_ (g := 12) (v := false) rfl rfl (by kernel_rfl) (by omega) rfl rfl (by kernel_rfl)) rfl (fun D u w v h => h) (fun D u ρ w kn => by
                      have e0 := kn.own 17 (c := .int .i64 (j)) (by kernel_rfl) ea17
                      simp [execOp, kn.rho.con, e0, go_sem])
                  · exact gd_gen (by kernel_rfl) (Want.some_ (g := 12) (v := false) rfl rfl (by kernel_rfl) (by omega) rfl rfl (by kernel_rfl)) rfl (fun D u w v h => h) (fun D u ρ w kn => by
                      have e0 := kn.con 13 105 (c := .slice (some ⟨bR, oR, none⟩) (n) (cR)) (by kernel_rfl) (by omega) (by kernel_rfl) rfl
                      have e1 := kn.con 14 106 (c := .int .i64 (j)) (by kernel_rfl) (by omega) (by kernel_rfl) rfl
                      simp [execOp, kn.rho.con, e0, e1, go_sem, i2])
                  · exact gd_gen (by kernel_rfl) (Want.some_ (g := 12) (v := false) rfl rfl (by kernel_rfl) (by omega) rfl rfl (by kernel_rfl)) rfl (fun D u w v h => h) (fun D u ρ w kn => by
                      have e0 := kn.con 15 107 (c := .pointer (some ⟨bR, oR + j * 3, none⟩)) (by kernel_rfl) (by omega) (by kernel_rfl) rfl
                      simp [execOp, kn.rho.con, e0, go_sem])
                  · exact gd_gen (by kernel_rfl) (Want.some_ (g := 12) (v := false) rfl rfl (by kernel_rfl) (by omega) rfl rfl (by kernel_rfl)) rfl (fun D u w v h => h) (fun D u ρ w kn => by
                      have e0 := kn.con 16 108 (c := .pointer (some ⟨bR, oR + j * 3 + 1, none⟩)) (by kernel_rfl) (by omega) (by kernel_rfl) rfl
                      have f0 := (cellG kn.ext hbR).trans r1'
                      simp [execOp, kn.rho.con, e0, f0, go_sem])
                  · exact gd_gen (by kernel_rfl) (Want.some_ (g := 12) (v := false) rfl rfl (by kernel_rfl) (by omega) rfl rfl (by kernel_rfl)) rfl (fun D u w v h => h) (fun D u ρ w kn => by
                      have e0 := kn.con 17 109 (c := .slice (some ⟨bT, oT, none⟩) (2) (r.nc)) (by kernel_rfl) (by omega) (by kernel_rfl) rfl
                      simp [execOp, kn.rho.con, e0, go_sem])
                  · exact gd_gen (by kernel_rfl) (Want.some_ (g := 12) (v := false) rfl rfl (by kernel_rfl) (by omega) rfl rfl (by kernel_rfl)) rfl (fun D u w v h => h) (fun D u ρ w kn => by
                      have e0 := kn.con 18 110 (c := .pointer (some ⟨bT, oT, none⟩)) (by kernel_rfl) (by omega) (by kernel_rfl) rfl
                      have f0 := (cellG kn.ext hbT).trans t0
                      simp [execOp, kn.rho.con, e0, f0, go_sem])
                  · exact gd_gen (by kernel_rfl) (Want.some_ (g := 12) (v := false) rfl rfl (by kernel_rfl) (by omega) rfl rfl (by kernel_rfl)) rfl (fun D u w v h => h) (fun D u ρ w kn => by
                      have e0 := kn.own 12 (c := .slice (some ⟨bQ, oQ, none⟩) (n) (cQ)) (by kernel_rfl) ea12
                      simp [execOp, kn.rho.con, e0, go_sem])
                  · exact gd_gen (by kernel_rfl) (Want.some_ (g := 12) (v := false) rfl rfl (by kernel_rfl) (by omega) rfl rfl (by kernel_rfl)) rfl (fun D u w v h => h) (fun D u ρ w kn => by
                      have e0 := kn.own 17 (c := .int .i64 (j)) (by kernel_rfl) ea17
                      simp [execOp, kn.rho.con, e0, go_sem])
                  · exact gd_gen (by kernel_rfl) (Want.some_ (g := 12) (v := false) rfl rfl (by kernel_rfl) (by omega) rfl rfl (by kernel_rfl)) rfl (fun D u w v h => h) (fun D u ρ w kn => by
                      have e0 := kn.con 20 112 (c := .slice (some ⟨bQ, oQ, none⟩) (n) (cQ)) (by kernel_rfl) (by omega) (by kernel_rfl) rfl
                      have e1 := kn.con 21 113 (c := .int .i64 (j)) (by kernel_rfl) (by omega) (by kernel_rfl) rfl
                      simp [execOp, kn.rho.con, e0, e1, go_sem, i2])
                  · exact gd_gen (by kernel_rfl) (Want.some_ (g := 12) (v := false) rfl rfl (by kernel_rfl) (by omega) rfl rfl (by kernel_rfl)) rfl (fun D u w v h => h) (fun D u ρ w kn => by
                      have e0 := kn.con 22 114 (c := .pointer (some ⟨bQ, oQ + j * 3, none⟩)) (by kernel_rfl) (by omega) (by kernel_rfl) rfl
                      simp [execOp, kn.rho.con, e0, go_sem])
                  · exact gd_gen (by kernel_rfl) (Want.some_ (g := 12) (v := false) rfl rfl (by kernel_rfl) (by omega) rfl rfl (by kernel_rfl)) rfl (fun D u w v h => h) (fun D u ρ w kn => by
                      have e0 := kn.con 23 115 (c := .pointer (some ⟨bQ, oQ + j * 3 + 1, none⟩)) (by kernel_rfl) (by omega) (by kernel_rfl) rfl
                      have f0 := (cellG kn.ext hbQ).trans q2'
                      simp [execOp, kn.rho.con, e0, f0, go_sem])
                  · exact gd_gen (by kernel_rfl) (Want.some_ (g := 12) (v := false) rfl rfl (by kernel_rfl) (by omega) rfl rfl (by kernel_rfl)) rfl (fun D u w v h => h) (fun D u ρ w kn => by
                      have e0 := kn.con 24 116 (c := .slice (some ⟨bU, oU, none⟩) (2) (q.nc)) (by kernel_rfl) (by omega) (by kernel_rfl) rfl
                      simp [execOp, kn.rho.con, e0, go_sem])
                  · exact gd_gen (by kernel_rfl) (Want.some_ (g := 12) (v := false) rfl rfl (by kernel_rfl) (by omega) rfl rfl (by kernel_rfl)) rfl (fun D u w v h => h) (fun D u ρ w kn => by
                      have e0 := kn.con 25 117 (c := .pointer (some ⟨bU, oU, none⟩)) (by kernel_rfl) (by omega) (by kernel_rfl) rfl
                      have f0 := (cellG kn.ext hbU).trans u0
                      simp [execOp, kn.rho.con, e0, f0, go_sem])
                  · exact gd_gen (by kernel_rfl) (Want.some_ (g := 12) (v := false) rfl rfl (by kernel_rfl) (by omega) rfl rfl (by kernel_rfl)) rfl (fun D u w v h => h) (fun D u ρ w kn => by
                      have e0 := kn.con 26 118 (c := .int .i64 (ta)) (by kernel_rfl) (by omega) (by kernel_rfl) rfl
                      simp [execOp, kn.rho.con, e0, go_sem, wrapI])
                  · exact gd_gen (by kernel_rfl) (Want.some_ (g := 12) (v := false) rfl rfl (by kernel_rfl) (by omega) rfl rfl (by kernel_rfl)) rfl (fun D u w v h => h) (fun D u ρ w kn => by
                      have e0 := kn.con 19 111 (c := .int .i64 (wrap64 (5040 * ta))) (by kernel_rfl) (by omega) (by kernel_rfl) rfl
                      have e1 := kn.con 27 119 (c := .int .i64 (wrap64 (5040 * ta))) (by kernel_rfl) (by omega) (by kernel_rfl) rfl
                      simp [execOp, kn.rho.con, e0, e1, go_sem])
                  · exact gd_gen (by kernel_rfl) (Want.none_ rfl) rfl (fun D u w v h => h) (fun D u ρ w kn => by
                      have e0 := kn.con 12 104 (c := .bool false) (by kernel_rfl) (by omega) (by kernel_rfl) rfl
                      have e1 := kn.con 28 120 (c := .bool false) (by kernel_rfl) (by omega) (by kernel_rfl) rfl
                      simp [execOp, kn.rho.con, e0, e1, go_sem])
                  · exact gd_gen (by kernel_rfl) (Want.none_ rfl) rfl (fun D u w v h => h) (fun D u ρ w kn => by
                      have e0 := kn.con 29 121 (c := .bool false) (by kernel_rfl) (by omega) (by kernel_rfl) rfl
                      simp [execOp, kn.rho.con, e0, go_sem])
                  · exact gd_gen (by kernel_rfl) (Want.some_ (g := 30) (v := false) rfl rfl (by kernel_rfl) (by omega) rfl rfl (by kernel_rfl)) rfl (fun D u w v h => h) (fun D u ρ w kn => by
                      have e0 := kn.own 16 (c := .slice (some ⟨bR, oR, none⟩) (n) (cR)) (by kernel_rfl) ea16
                      simp [execOp, kn.rho.con, e0, go_sem])
                  · exact gd_gen (by kernel_rfl) (Want.some_ (g := 30) (v := false) rfl rfl (by kernel_rfl) (by omega) rfl rfl (by kernel_rfl)) rfl (fun D u w v h => h) (fun D u ρ w kn => by
                      have e0 := kn.own 17 (c := .int .i64 (j)) (by kernel_rfl) ea17
                      simp [execOp, kn.rho.con, e0, go_sem])
                  · exact gd_gen (by kernel_rfl) (Want.some_ (g := 30) (v := false) rfl rfl (by kernel_rfl) (by omega) rfl rfl (by kernel_rfl)) rfl (fun D u w v h => h) (fun D u ρ w kn => by
                      have e0 := kn.con 31 123 (c := .slice (some ⟨bR, oR, none⟩) (n) (cR)) (by kernel_rfl) (by omega) (by kernel_rfl) rfl
                      have e1 := kn.con 32 124 (c := .int .i64 (j)) (by kernel_rfl) (by omega) (by kernel_rfl) rfl
                      simp [execOp, kn.rho.con, e0, e1, go_sem, i2])
                  · exact gd_gen (by kernel_rfl) (Want.some_ (g := 30) (v := false) rfl rfl (by kernel_rfl) (by omega) rfl rfl (by kernel_rfl)) rfl (fun D u w v h => h) (fun D u ρ w kn => by
                      have e0 := kn.con 33 125 (c := .pointer (some ⟨bR, oR + j * 3, none⟩)) (by kernel_rfl) (by omega) (by kernel_rfl) rfl
                      simp [execOp, kn.rho.con, e0, go_sem])
                  · exact gd_gen (by kernel_rfl) (Want.some_ (g := 30) (v := false) rfl rfl (by kernel_rfl) (by omega) rfl rfl (by kernel_rfl)) rfl (fun D u w v h => h) (fun D u ρ w kn => by
                      have e0 := kn.con 34 126 (c := .pointer (some ⟨bR, oR + j * 3 + 1, none⟩)) (by kernel_rfl) (by omega) (by kernel_rfl) rfl
                      have f0 := (cellG kn.ext hbR).trans r1'
                      simp [execOp, kn.rho.con, e0, f0, go_sem])
                  · exact gd_gen (by kernel_rfl) (Want.some_ (g := 30) (v := false) rfl rfl (by kernel_rfl) (by omega) rfl rfl (by kernel_rfl)) rfl (fun D u w v h => h) (fun D u ρ w kn => by
                      have e0 := kn.con 35 127 (c := .slice (some ⟨bT, oT, none⟩) (2) (r.nc)) (by kernel_rfl) (by omega) (by kernel_rfl) rfl
                      simp [execOp, kn.rho.con, e0, go_sem])
                  · exact gd_gen (by kernel_rfl) (Want.some_ (g := 30) (v := false) rfl rfl (by kernel_rfl) (by omega) rfl rfl (by kernel_rfl)) rfl (fun D u w v h => h) (fun D u ρ w kn => by
                      have e0 := kn.con 36 128 (c := .pointer (some ⟨bT, oT + 1, none⟩)) (by kernel_rfl) (by omega) (by kernel_rfl) rfl
                      have f0 := (cellG kn.ext hbT).trans t1
                      simp [execOp, kn.rho.con, e0, f0, go_sem])
                  · exact gd_gen (by kernel_rfl) (Want.some_ (g := 30) (v := false) rfl rfl (by kernel_rfl) (by omega) rfl rfl (by kernel_rfl)) rfl (fun D u w v h => h) (fun D u ρ w kn => by
                      have e0 := kn.own 12 (c := .slice (some ⟨bQ, oQ, none⟩) (n) (cQ)) (by kernel_rfl) ea12
                      simp [execOp, kn.rho.con, e0, go_sem])
                  · exact gd_gen (by kernel_rfl) (Want.some_ (g := 30) (v := false) rfl rfl (by kernel_rfl) (by omega) rfl rfl (by kernel_rfl)) rfl (fun D u w v h => h) (fun D u ρ w kn => by
                      have e0 := kn.own 17 (c := .int .i64 (j)) (by kernel_rfl) ea17
                      simp [execOp, kn.rho.con, e0, go_sem])
                  · exact gd_gen (by kernel_rfl) (Want.some_ (g := 30) (v := false) rfl rfl (by kernel_rfl) (by omega) rfl rfl (by kernel_rfl)) rfl (fun D u w v h => h) (fun D u ρ w kn => by
                      have e0 := kn.con 38 130 (c := .slice (some ⟨bQ, oQ, none⟩) (n) (cQ)) (by kernel_rfl) (by omega) (by kernel_rfl) rfl
                      have e1 := kn.con 39 131 (c := .int .i64 (j)) (by kernel_rfl) (by omega) (by kernel_rfl) rfl
                      simp [execOp, kn.rho.con, e0, e1, go_sem, i2])
                  · exact gd_gen (by kernel_rfl) (Want.some_ (g := 30) (v := false) rfl rfl (by kernel_rfl) (by omega) rfl rfl (by kernel_rfl)) rfl (fun D u w v h => h) (fun D u ρ w kn => by
                      have e0 := kn.con 40 132 (c := .pointer (some ⟨bQ, oQ + j * 3, none⟩)) (by kernel_rfl) (by omega) (by kernel_rfl) rfl
                      simp [execOp, kn.rho.con, e0, go_sem])
                  · exact gd_gen (by kernel_rfl) (Want.some_ (g := 30) (v := false) rfl rfl (by kernel_rfl) (by omega) rfl rfl (by kernel_rfl)) rfl (fun D u w v h => h) (fun D u ρ w kn => by
                      have e0 := kn.con 41 133 (c := .pointer (some ⟨bQ, oQ + j * 3 + 1, none⟩)) (by kernel_rfl) (by omega) (by kernel_rfl) rfl
                      have f0 := (cellG kn.ext hbQ).trans q2'
                      simp [execOp, kn.rho.con, e0, f0, go_sem])
                  · exact gd_gen (by kernel_rfl) (Want.some_ (g := 30) (v := false) rfl rfl (by kernel_rfl) (by omega) rfl rfl (by kernel_rfl)) rfl (fun D u w v h => h) (fun D u ρ w kn => by
                      have e0 := kn.con 42 134 (c := .slice (some ⟨bU, oU, none⟩) (2) (q.nc)) (by kernel_rfl) (by omega) (by kernel_rfl) rfl
                      simp [execOp, kn.rho.con, e0, go_sem])
                  · exact gd_gen (by kernel_rfl) (Want.some_ (g := 30) (v := false) rfl rfl (by kernel_rfl) (by omega) rfl rfl (by kernel_rfl)) rfl (fun D u w v h => h) (fun D u ρ w kn => by
                      have e0 := kn.con 43 135 (c := .pointer (some ⟨bU, oU + 1, none⟩)) (by kernel_rfl) (by omega) (by kernel_rfl) rfl
                      have f0 := (cellG kn.ext hbU).trans u1
                      simp [execOp, kn.rho.con, e0, f0, go_sem])
                  · exact gd_gen (by kernel_rfl) (Want.some_ (g := 30) (v := false) rfl rfl (by kernel_rfl) (by omega) rfl rfl (by kernel_rfl)) rfl (fun D u w v h => h) (fun D u ρ w kn => by
                      have e0 := kn.con 44 136 (c := .int .i64 (tb)) (by kernel_rfl) (by omega) (by kernel_rfl) rfl
                      simp [execOp, kn.rho.con, e0, go_sem, wrapI])
                  · exact gd_gen (by kernel_rfl) (Want.some_ (g := 30) (v := false) rfl rfl (by kernel_rfl) (by omega) rfl rfl (by kernel_rfl)) rfl (fun D u w v h => h) (fun D u ρ w kn => by
                      have e0 := kn.con 37 129 (c := .int .i64 (wrap64 (5040 * tb))) (by kernel_rfl) (by omega) (by kernel_rfl) rfl
                      have e1 := kn.con 45 137 (c := .int .i64 (wrap64 (5040 * tb))) (by kernel_rfl) (by omega) (by kernel_rfl) rfl
                      simp [execOp, kn.rho.con, e0, e1, go_sem])
                  · exact gd_gen (by kernel_rfl) (Want.none_ rfl) rfl (fun D u w v h => h) (fun D u ρ w kn => by
                      have e0 := kn.con 30 122 (c := .bool false) (by kernel_rfl) (by omega) (by kernel_rfl) rfl
                      have e1 := kn.con 46 138 (c := .bool false) (by kernel_rfl) (by omega) (by kernel_rfl) rfl
                      simp [execOp, kn.rho.con, e0, e1, go_sem])
                · intro D u w9 hJ hD
                  simp only [List.take_succ_cons, List.take_zero, List.drop_succ_cons, List.drop_zero, putAll]
                  have hc := hJ.1
                  have x1 := hJ.2
                  have e47 : u 47 = .bool false := hc 47 _ rfl (hD 47 (by omega))
                  rw [e47]
                  have G9 := Lib.hid x1
                  clear hJ hc hD x1 e47 r0 r1' q1 q2' t0 t1 u0 u1 KS
                  go_simp
                  go_wp2_with fail
                  go_meet
                  exact ⟨rfl, G9.out⟩
              case rest =>
              obtain ⟨rfl, hg9⟩ := hcut
              have G9 := Lib.hid hg9
              clear hg9 r0 r1' q1 q2' t0 t1 u0 u1 KS
              go_wp2_with fail
              go_roundw
              case rel => exact ⟨j + 1, by go_num, by omega, G9.out⟩
              case measure => simp [intOf]; omega
            · have i2 : ¬ (j : Int) < (n : Int) := by omega
              have GF := Lib.hid (only_trans G8.out GJ.out)
              go_wp2_with fail
              go_ret
              exact ⟨rfl, GF.out⟩
end Go.Proofs.YtfkgcighooijhaaGreatDoor
