/- slices.Insert of one element at api.Tally (printed by mkins.py). Condition: sizes. -/
import Derived.Test.YtiogpomgpknjlaaTalM
import Derived.Test.YtiogpomgpknjlaaRowK
import Derived.Test.YtiogpomgpknjlaaCutG
import Derived.StillTailTactics
import Derived.Deep.DeepCutAuto
namespace Go.Proofs.Ytiogpomgpknjlaa
open Go.RowKit
set_option linter.unusedVariables false
set_option linter.unusedSimpArgs false

def InsTalPost (w : World) (base : Nat) (row : Option Nat) (ys : List Tal) (e : Ending) (w' : World) : Prop :=
  ∃ A' c', e = .returned (.slice A' ys.length c') ∧ w'.ownsRow base 62 3 (.slice A' ys.length c') ys.length (ys.flatMap Tal.cells) ∧ w.grownBy w' row
theorem zs3 (n : Nat) : (Builtin.zeroCells (.agg #[.int .i64 0, .string ⟨#[]⟩, .int .i64 0] : Value).cells n).size = n * 3 := by simp [Builtin.zeroCells, Value.cells]
set_option maxHeartbeats 4000000 in
set_option maxRecDepth 100000 in
theorem insertTal_any (A : Option Addr) (xs : List Tal) (c i vb base : Nat) (x : Tal) (w : World) (hown : w.ownsRow base 62 3 (.slice A xs.length c) xs.length (xs.flatMap Tal.cells)) (hx : Blk w vb 62 x.cells.toArray) (hi : i ≤ xs.length) (hl : xs.length ≤ 1000000) (hne : (Value.slice A xs.length c).ownBlock ≠ some vb) (hbase : base ≤ w.heap.size) :
    Calls Try.prog 65 #[.slice A xs.length c, .int .i64 i, .slice (some ⟨vb, 0, none⟩) 1 1] w (InsTalPost w base (Value.slice A xs.length c).ownBlock (xs.take i ++ x :: xs.drop i)) := by
  have O := Lib.hid hown
  have HX := Lib.hid hx
  have hrx : Rd (fun _ => True) w (some ⟨vb, 0, none⟩) x.cells := fun _ => ⟨vb, 0, rfl, trivial, hx.lt, fun j u hu => by rw [Nat.zero_add, hx.cell j]; simpa using hu⟩
  have HRX := Lib.hid hrx
  have hlen : (xs.take i ++ x :: xs.drop i).length = xs.length + 1 := by simp; omega
  have HLEN := Lib.hid hlen
  obtain ⟨n, hn⟩ : ∃ n, n = xs.length := ⟨_, rfl⟩
  clear hrx hlen
  by_cases hin : i = xs.length
  · have hy : xs.take i ++ x :: xs.drop i = xs ++ [x] := by rw [List.take_of_length_le (by omega), List.drop_of_length_le (by omega)]
    rw [hy]
    have hi1 : (i : Int) = (xs.length : Int) := by omega
    obtain ⟨A9, c9, e9, hc9, hm9, -, hr9⟩ := Rd.of_own hown (by decide)
    injection e9 with e91 e92 e93
    subst e91 e93
    unfold maxLen at hm9
    subst hin
    clear hx hown hr9 hy hn hi1
    have i1 : (xs.length : Int) ≤ (c : Int) := by omega
    by_cases hcn : c = xs.length
    · subst hcn
      go_enter Try.func65, Try.ntmps65
      go_wp2_with (at_builtin; refine wpList_appendN rfl _ _ 26 rfl base Try.underlying26 talInfo rfl (by decide) (v := .slice A xs.length xs.length) (by rfl) O.out (some ⟨vb, 0, none⟩) 1 1 (news := x.cells) (by rfl) HRX.out rfl (Tal.one x) (by decide) (by omega) hbase ?_; intro v3 w3 hown3 hg3 hob3)
      have O3 : Hid (w3.ownsRow base 62 3 v3 (xs ++ [x]).length ((xs ++ [x]).flatMap Tal.cells)) := Lib.hid (by simpa using hown3)
      have G3 := Lib.hid hg3
      clear hown3 hg3 hob3
      obtain ⟨A3, c3, rfl, -, -, -, -⟩ := Rd.of_own O3.out (by decide)
      go_wp2_with fail
      go_ret
      exact ⟨A3, c3, rfl, O3.out, G3.out⟩
    · skip
      go_enter Try.func65, Try.ntmps65
      go_wp2_with (at_builtin; refine wpList_appendN rfl _ _ 26 rfl base Try.underlying26 talInfo rfl (by decide) (v := .slice A xs.length c) (by rfl) O.out (some ⟨vb, 0, none⟩) 1 1 (news := x.cells) (by rfl) HRX.out rfl (Tal.one x) (by decide) (by omega) hbase ?_; intro v3 w3 hown3 hg3 hob3)
      have O3 : Hid (w3.ownsRow base 62 3 v3 (xs ++ [x]).length ((xs ++ [x]).flatMap Tal.cells)) := Lib.hid (by simpa using hown3)
      have G3 := Lib.hid hg3
      clear hown3 hg3 hob3
      obtain ⟨A3, c3, rfl, -, -, -, -⟩ := Rd.of_own O3.out (by decide)
      go_wp2_with fail
      go_ret
      exact ⟨A3, c3, rfl, O3.out, G3.out⟩
  · have hlt : i < n := by omega
    rcases hown.2 with ⟨e, h0⟩ | ⟨g, cap, cur, e, hb, hh, hnc, hcm, hcs, ht⟩
    · omega
    · injection e with e1 e2 e3
      subst e1 e3
      have hvb : vb ≠ g := fun e => hne (by rw [e]; rfl)
      have hbl := hx
      have hsz : ∀ m, (flat_len Tal.cells 3 Tal.cells_len (xs.take m)) = (flat_len Tal.cells 3 Tal.cells_len (xs.take m)) := fun _ => rfl
      have lA : ((xs.take i).flatMap Tal.cells).length = i * 3 := by rw [flat_len _ 3 Tal.cells_len, List.length_take]; omega
      have lB : ((xs.drop i).flatMap Tal.cells).length = (xs.length - i) * 3 := by rw [flat_len _ 3 Tal.cells_len, List.length_drop]
      have hAB : cur.toList.take (xs.length * 3) = (xs.take i).flatMap Tal.cells ++ (xs.drop i).flatMap Tal.cells := by rw [ht, ← List.flatMap_append, List.take_append_drop]
      have hcl : cur.toList.length = c * 3 := by simpa using hcs
      have hmx := hcm
      unfold maxLen at hmx
      have hinfo : (Try.prog.info? 62).map (·.size) = some 3 := talSize
      have hrow : ∀ j u, ((xs.drop i).flatMap Tal.cells)[j]? = some u → w.cell? ⟨g, i * 3 + j, none⟩ = some u := fun j u hu => by
        have hj := (List.getElem?_eq_some_iff.1 hu).1
        rw [cell_of_row w g (i * 3 + j) cur 62 (0, 0) hh, ← Array.getElem?_toList]
        have h1 : (cur.toList.take (xs.length * 3))[i * 3 + j]? = some u := by
          rw [hAB, List.getElem?_append_right (by omega), lA]
          rw [show i * 3 + j - i * 3 = j by omega]; exact hu
        rw [List.getElem?_take] at h1
        split at h1
        · exact h1
        · cases h1
      have h1A : ∀ u ∈ (xs.drop i).flatMap Tal.cells, u.oneCell' = true := flat_one Tal.one _
      have h1X : ∀ u ∈ x.cells, u.oneCell' = true := Tal.one x
      have hlx : x.cells.length = 3 := rfl
      have i2 : ¬ ((i : Int) = (xs.length : Int)) := by omega
      have i3 : (0 : Int) ≤ (i : Int) := by omega
      have i4 : (i : Int) ≤ (xs.length : Int) := by omega
      have i5 : (xs.length : Int) ≤ (c : Int) := by omega
      have hwi : IntKind.i64.wrap ((i : Int) + 1) = (i : Int) + 1 := IntWalk.i64_in _ (by omega)
      have hwn : IntKind.i64.wrap ((xs.length : Int) + 1) = (xs.length : Int) + 1 := IntWalk.i64_in _ (by omega)
      have hci : ¬ (c = i) := by omega
      by_cases hroom : xs.length + 1 ≤ c
      · have i6 : ¬ ((c : Int) < (xs.length : Int) + 1) := by omega
        obtain ⟨cur1, hc1⟩ : ∃ cur1, cur1 = cur.toList.take ((i + 1) * 3) ++ (xs.drop i).flatMap Tal.cells ++ cur.toList.drop ((i + 1) * 3 + ((xs.drop i).flatMap Tal.cells).length) := ⟨_, rfl⟩
        obtain ⟨cur2, hc2⟩ : ∃ cur2, cur2 = cur1.take (i * 3) ++ x.cells ++ cur1.drop (i * 3 + x.cells.length) := ⟨_, rfl⟩
        obtain ⟨k1, k2, k3⟩ := ins_cur hAB lA lB hi hlx (by rw [hcl]; exact Nat.mul_le_mul_right 3 hroom) hc1 hc2
        obtain ⟨W1, hW1⟩ : ∃ W1, W1 = w.drew.setRow g cur1.toArray := ⟨_, rfl⟩
        obtain ⟨W2, hW2⟩ : ∃ W2, W2 = W1.setRow g cur2.toArray := ⟨_, rfl⟩
        have hh1 : W1.heap[g]? = some (.cells cur1.toArray 62 (0, 0)) := by rw [hW1]; exact setRow_heap w.drew g cur _ 62 (0, 0) hh
        have hcp1 : ∀ ty dc sc, (Builtin.copy_ #[26, 26] ty #[.slice (some ⟨g, cutG 0 3 c (i + 1), none⟩) (xs.length - i) dc, .slice (some ⟨g, i * 3, none⟩) (xs.length + 1 - i) sc]).run Try.prog w.drew = .ok (goInt (Nat.min (xs.length + 1 - i) (xs.length - i))) W1 := fun ty dc sc => by
          have e1 : cutG 0 3 c (i + 1) = (i + 1) * 3 := by unfold cutG; rw [if_neg (by omega)]; omega
          rw [e1, hW1, hc1]
          exact run_copyK w.drew _ _ ty 62 3 g ((i + 1) * 3) _ dc ⟨g, i * 3, none⟩ _ sc cur 62 ((xs.drop i).flatMap Tal.cells) Try.underlying26 hinfo hh (by rw [lB]; congr 1; simp only [Nat.min_def]; split <;> omega)
            (fun j v hj => by rw [Addr.add_lit]; exact hrow j v hj) (by rw [lB]; simp only [← Array.length_toList, hcl]; omega) h1A
        have hcp2 : ∀ ty dc, (Builtin.copy_ #[26, 26] ty #[.slice (some ⟨g, i * 3, none⟩) (xs.length + 1 - i) dc, .slice (some ⟨vb, 0, none⟩) 1 1]).run Try.prog W1 = .ok (goInt (Nat.min 1 (xs.length + 1 - i))) W2 := fun ty dc => by
          rw [hW2, hc2]
          have := run_copyK W1 26 26 ty 62 3 g (i * 3) (xs.length + 1 - i) dc ⟨vb, 0, none⟩ 1 1 cur1.toArray 62 x.cells Try.underlying26 hinfo hh1 (by rw [hlx]; simp only [Nat.min_def]; split <;> omega)
            (fun j v hj => by
              rw [Addr.add_lit, Nat.zero_add]
              have hB1 : Blk W1 vb 62 x.cells.toArray := by rw [hW1]; exact (Blk.drew hbl).grown (grown_setRow _ _ _) (by intro e; injection e with e; exact hvb e)
              rw [hB1.cell j]; simpa using hj) (by rw [hlx]; simp only [List.size_toArray, k1, hcl]; omega) h1X
          simpa using this
        have hov : ∀ o lb cb, (callFunc 79 #[.slice (some ⟨vb, 0, none⟩) 1 1, .slice (some ⟨g, o, none⟩) lb cb]).run Try.prog w = .ok (.value (.bool false)) w := fun o lb cb => by
          rw [run_callFunc_extern Try.func79 (by kernel_rfl) (by kernel_rfl) (by kernel_rfl) (e := Extern.SlicesOverlaps.overlaps #[26, 26] #[4]) (by kernel_rfl),
            Lib.run_overlaps_apart w 26 4 62 Try.underlying26 3 Try.sizeOf62 ⟨vb, 0, none⟩ ⟨g, o, none⟩ 1 1 lb cb hvb 62 62 3 cur.size (by simp [World.shape?, show w.heap[vb]? = _ from hbl, Tal.cells_len]) (by simp [World.shape?, hh]) (by rw [hcs]; omega) (hbl.frozen 0) (hbl.frozen 3)]
          rfl
        have HF : Hid (InsTalPost w base (some g) (xs.take i ++ x :: xs.drop i) (.returned (.slice (some ⟨g, 0, none⟩) (xs.length + 1) c)) W2) := Lib.hid (by
          refine ⟨some ⟨g, 0, none⟩, c, by rw [HLEN.out], ?_, ?_⟩
          · rw [HLEN.out, hW2]
            refine own_setRow hh1 hb hroom hcm (by simp only [List.size_toArray, k2, hcl]) (by rw [flat_len _ 3 Tal.cells_len, HLEN.out]) ?_
            simpa [List.flatMap_append] using k3
          · rw [hW2, hW1]; exact only_trans (only_trans (only_drew (only_refl w _)) (grown_setRow _ _ _)) (grown_setRow _ _ _))
        clear hx hown hh hnc hcm hcs ht hne hbl hsz lA lB hAB hcl hrow h1A h1X hW1 hW2 hc1 hc2 k1 k2 k3 hh1 hn hinfo hlx
        have i7 : ¬ (c = i + 1) := by omega
        have i8 : (xs.length : Int) + 1 ≤ (c : Int) := by omega
        have i9 : (i : Int) + 1 ≤ (xs.length : Int) + 1 := by omega
        have i10 : (i : Int) ≤ (xs.length : Int) + 1 := by omega
        go_enter Try.func65, Try.ntmps65
        go_upto_region 15 with (simp only [hov])
        go_still_tail 8, (by kernel_rfl)
        refine wpStill_cutG (k := i + 1) rfl rfl Try.underlying26 talSize (by rfl) (by rfl) (by omega) (by omega) ?_
        repeat still_step
        refine wpStill_nil ?_
        change wpList _ _ _ _ _ w.drew
        refine wpList_copyK rfl _ _ 26 26 rfl _ _ (by rfl) (by rfl) (fun ty => hcp1 ty _ _) ?_
        clear hcp1 hov
        go_wp2_with (at_builtin; refine wpList_copyK rfl _ _ 26 26 rfl _ _ (by rfl) (by rfl) (fun ty => hcp2 ty _) ?_)
        go_wp2_with fail
        go_ret
        exact HF.out
      · obtain rfl : c = xs.length := by omega
        have hni : ¬ (xs.length = i) := hci
        have i6 : (xs.length : Int) < (xs.length : Int) + 1 := by omega
        obtain ⟨i0, hi0, hz0, hz1, hz2⟩ := info_parts talInfo
        obtain ⟨g1, hg1⟩ : ∃ g1, g1 = w.heap.size := ⟨_, rfl⟩
        obtain ⟨G, hG⟩ : ∃ G, G = grownCap w (xs.length + 1) xs.length 62 := ⟨_, rfl⟩
        have hGn : xs.length + 1 ≤ G := by rw [hG]; exact grownCap_ge w _ _ _
        have hGm : G ≤ maxLen := by rw [hG]; exact grownCap_le_maxLen w _ _ _ (by unfold maxLen; omega)
        have hG63 := hGm
        unfold maxLen at hG63
        obtain ⟨ROW, hROW⟩ : ∃ ROW : Array Value, ROW = ((xs.take i).flatMap Tal.cells).toArray ++ Builtin.zeroCells (.agg #[.int .i64 0, .string ⟨#[]⟩, .int .i64 0] : Value).cells (xs.length + 1 - i) ++ Builtin.zeroCells (.agg #[.int .i64 0, .string ⟨#[]⟩, .int .i64 0] : Value).cells (G - (xs.length + 1)) := ⟨_, rfl⟩
        have hRl : ROW.toList.length = G * 3 := by
          rw [hROW]
          simp only [Array.length_toList, Array.size_append, zs3, List.size_toArray, lA]
          omega
        have hRA : ROW.toList = (xs.take i).flatMap Tal.cells ++ ((Builtin.zeroCells (.agg #[.int .i64 0, .string ⟨#[]⟩, .int .i64 0] : Value).cells (xs.length + 1 - i)).toList ++ (Builtin.zeroCells (.agg #[.int .i64 0, .string ⟨#[]⟩, .int .i64 0] : Value).cells (G - (xs.length + 1))).toList) := by
          rw [hROW]; simp
        obtain ⟨W1, hW1⟩ : ∃ W1, W1 = w.drew.alloc (.cells ROW 62) := ⟨_, rfl⟩
        have hold : (Builtin.firstCells i0.size i (.slice (some ⟨g, 0, none⟩) i xs.length)).run Try.prog w.drew = .ok ((xs.take i).flatMap Tal.cells).toArray w.drew := by
          rw [hz1]
          refine run_firstCells_some w.drew 3 i ⟨g, 0, none⟩ i xs.length ((xs.take i).flatMap Tal.cells) lA (fun j v hj => ?_)
          rw [Addr.add_lit, Nat.zero_add]
          have hjl := (List.getElem?_eq_some_iff.1 hj).1
          show w.cell? ⟨g, j, none⟩ = some v
          rw [cell_of_row w g j cur 62 (0, 0) hh, ← Array.getElem?_toList]
          have h1 : (cur.toList.take (xs.length * 3))[j]? = some v := by
            rw [hAB, List.getElem?_append_left hjl]; exact hj
          rw [List.getElem?_take] at h1
          split at h1
          · exact h1
          · cases h1
        have hkk : (xs.length : Int) + 1 - (i : Int) = ((xs.length + 1 - i : Nat) : Int) := by omega
        have hik : i + (xs.length + 1 - i) = xs.length + 1 := by omega
        have hrz : ∀ ty, (Builtin.append_ #[26, 3] ty #[.slice (some ⟨g, 0, none⟩) i xs.length, .int .i64 ((xs.length : Int) + 1 - (i : Int))]).run Try.prog w = .ok (.slice (some ⟨g1, 0, none⟩) (xs.length + 1) G) W1 := fun ty => by
          have h := Lib.run_append_grow_zeros w 26 3 ty 62 i0 (.agg #[.int .i64 0, .string ⟨#[]⟩, .int .i64 0]) .i64 .i64 Try.underlying26 Try.underlying3 hi0 hz0 (some ⟨g, 0, none⟩) i xs.length ((xs.take i).flatMap Tal.cells) hold (xs.length + 1 - i) (by omega) (by rw [hz1]; decide) (by omega) (by omega) (by rw [hz2]; omega) (by rw [hz2, hik]; exact growslice_fits (by omega) (by omega))
          rw [hik, ← hG] at h
          rw [hkk, hW1, hROW, hg1]
          exact h
        obtain ⟨row1, hr1⟩ : ∃ row1, row1 = ROW.toList.take (i * 3) ++ x.cells ++ ROW.toList.drop (i * 3 + x.cells.length) := ⟨_, rfl⟩
        obtain ⟨row2, hr2⟩ : ∃ row2, row2 = row1.take ((i + 1) * 3) ++ (xs.drop i).flatMap Tal.cells ++ row1.drop ((i + 1) * 3 + ((xs.drop i).flatMap Tal.cells).length) := ⟨_, rfl⟩
        obtain ⟨k1, k2, k3⟩ := ins_new hRA lA lB hi hlx (by rw [hRl]; exact Nat.mul_le_mul_right 3 hGn) hr1 hr2
        obtain ⟨W2, hW2⟩ : ∃ W2, W2 = W1.setRow g1 row1.toArray := ⟨_, rfl⟩
        obtain ⟨W3, hW3⟩ : ∃ W3, W3 = W2.drew.setRow g1 row2.toArray := ⟨_, rfl⟩
        have hN1 : W1.heap[g1]? = some (.cells ROW 62 (0, 0)) := by rw [hW1, hg1]; exact Blk.new w.drew 62 ROW
        have hN2 : W2.heap[g1]? = some (.cells row1.toArray 62 (0, 0)) := by rw [hW2]; exact setRow_heap W1 g1 ROW _ 62 (0, 0) hN1
        have hgw : g < w.heap.size := (Array.getElem?_eq_some_iff.1 hh).1
        have hgg : g ≠ g1 := by omega
        have hvw : vb < w.heap.size := hbl.lt
        have hx1 : Blk W1 vb 62 x.cells.toArray := by rw [hW1]; exact (Blk.drew hbl).alloc _
        have hg2 : W2.heap[g]? = some (.cells cur 62 (0, 0)) := by
          rw [hW2, setRow_other _ _ _ _ hgg, hW1]; exact (Below.heap_alloc w.drew _ g hgw).trans hh
        have hcpA : ∀ ty dc, (Builtin.copy_ #[26, 26] ty #[.slice (some ⟨g1, i * 3, none⟩) (xs.length + 1 - i) dc, .slice (some ⟨vb, 0, none⟩) 1 1]).run Try.prog W1 = .ok (goInt (Nat.min 1 (xs.length + 1 - i))) W2 := fun ty dc => by
          rw [hW2, hr1]
          exact run_copyK W1 26 26 ty 62 3 g1 (i * 3) (xs.length + 1 - i) dc ⟨vb, 0, none⟩ 1 1 ROW 62 x.cells Try.underlying26 hinfo hN1 (by rw [hlx]; simp only [Nat.min_def]; split <;> omega)
            (fun j v hj => by rw [Addr.add_lit, Nat.zero_add, hx1.cell j]; simpa using hj) (by rw [hlx]; simp only [← Array.length_toList, hRl]; omega) h1X
        have hcpB : ∀ ty dc sc, (Builtin.copy_ #[26, 26] ty #[.slice (some ⟨g1, cutG 0 3 G (i + 1), none⟩) (xs.length - i) dc, .slice (some ⟨g, i * 3, none⟩) (xs.length - i) sc]).run Try.prog W2.drew = .ok (goInt (Nat.min (xs.length - i) (xs.length - i))) W3 := fun ty dc sc => by
          have e1 : cutG 0 3 G (i + 1) = (i + 1) * 3 := by unfold cutG; rw [if_neg (by omega)]; omega
          rw [e1, hW3, hr2]
          have := run_copyK W2.drew 26 26 ty 62 3 g1 ((i + 1) * 3) (xs.length - i) dc ⟨g, i * 3, none⟩ (xs.length - i) sc row1.toArray 62 ((xs.drop i).flatMap Tal.cells) Try.underlying26 hinfo hN2 (by rw [lB]; congr 1; simp only [Nat.min_def]; split <;> omega)
            (fun j v hj => by
              rw [Addr.add_lit]
              have h1 := hrow j v hj
              rw [cell_of_row w g _ cur 62 (0, 0) hh] at h1
              rw [cell_of_row W2.drew g _ cur 62 (0, 0) hg2]; exact h1) (by rw [lB]; simp only [List.size_toArray, k1, hRl]; omega) h1A
          simpa using this
        have HF : Hid (InsTalPost w base (some g) (xs.take i ++ x :: xs.drop i) (.returned (.slice (some ⟨g1, 0, none⟩) (xs.length + 1) G)) W3) := Lib.hid (by
          refine ⟨some ⟨g1, 0, none⟩, G, by rw [HLEN.out], ?_, ?_⟩
          · rw [HLEN.out, hW3]
            refine own_setRow (w := W2.drew) hN2 (by omega) hGn hGm (by simp only [List.size_toArray, k2, hRl]) (by rw [flat_len _ 3 Tal.cells_len, HLEN.out]) ?_
            simpa [List.flatMap_append] using k3
          · rw [hW3, hW2, hW1]
            exact only_fresh (only_drew (only_fresh (only_alloc (only_drew (only_refl w _)) _) (grown_setRow _ g1 _) (by omega))) (grown_setRow _ g1 _) (by omega))
        have hGi : ¬ (G = i) := by omega
        have hGi1 : ¬ (G = i + 1) := by omega
        have j1 : (i : Int) ≤ (xs.length : Int) + 1 := by omega
        have j2 : (xs.length : Int) + 1 ≤ (G : Int) := by omega
        have j3 : (0 : Int) ≤ (xs.length : Int) + 1 - (i : Int) := by omega
        have hwm : IntKind.i64.wrap ((xs.length : Int) + 1 - (i : Int)) = (xs.length : Int) + 1 - (i : Int) := IntWalk.i64_in _ (by omega)
        clear hx hown hh hnc hcm hcs ht hne hbl hsz lA lB hAB hcl hrow h1A h1X hW1 hW2 hW3 hr1 hr2 k1 k2 k3 hN1 hN2 hn hinfo hlx hi0 hz0 hz1 hz2 hg1 hG hROW hRl hRA hold hkk hik hgw hgg hvw hx1 hg2 hci
        go_enter Try.func65, Try.ntmps65
        go_wp2_with (first
          | (at_builtin; refine Lib.wpList_append_run _ rfl _ _ _ _ rfl _ _ rfl rfl _ _ (hrz _) ?_)
          | (at_builtin; refine wpList_copyK rfl _ _ 26 26 rfl _ _ (by rfl) (by rfl) (fun ty => hcpA ty _) ?_))
        go_still_tail 8, (by kernel_rfl)
        refine wpStill_cutG (k := i + 1) rfl rfl Try.underlying26 talSize (by rfl) (by rfl) (by omega) (by omega) ?_
        repeat still_step
        refine wpStill_nil ?_
        change wpList _ _ _ _ _ W2.drew
        refine wpList_copyK rfl _ _ 26 26 rfl _ _ (by rfl) (by rfl) (fun ty => hcpB ty _ _) ?_
        clear hcpA hcpB hrz
        go_wp2_with fail
        go_ret
        exact HF.out
end Go.Proofs.Ytiogpomgpknjlaa
