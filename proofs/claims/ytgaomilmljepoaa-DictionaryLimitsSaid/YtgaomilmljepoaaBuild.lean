/- Build of dictionaries, both texts. Condition: sizes. -/
import Derived.Test.YtgaomilmljepoaaSorted
import Derived.Test.YtgaomilmljepoaaShelf23
import Derived.Test.YtgaomilmljepoaaCheck
import Derived.Test.YtgaomilmljepoaaDistinct
import Derived.Sort.OwnSorted
namespace Go.Proofs.Ytgaomilmljepoaa
open Go.RowKit
set_option linter.unusedVariables false
set_option linter.unusedSimpArgs false

theorem dist_long (ws : List ByteArray) : Long (dist ws) ↔ Long ws :=
  ⟨fun ⟨x, hx, h⟩ => ⟨x, (dist_mem ws x).1 hx, h⟩, fun ⟨x, hx, h⟩ => ⟨x, (dist_mem ws x).2 hx, h⟩⟩
open Classical in
noncomputable def bErr (ws : List ByteArray) : Int := if Long ws then 3 else if 32768 < (dist ws).length then 4 else 0
open Classical in
noncomputable def bOut (ws : List ByteArray) : List ByteArray := if bErr ws = 0 then dist ws else []
def BPost (w : World) (ws : List ByteArray) (e : Ending) (w' : World) : Prop :=
  ∃ A c, e = .returned (.tuple #[.slice A (bOut ws).length c, .int .i64 (bErr ws)]) ∧ Rd (w.heap.size ≤ ·) w' A ((bOut ws).map .string) ∧ w.grownBy w' none
theorem only_below {w w' : World} (h : Below w.heap.size w w') : w.grownBy w' none := ⟨h.os, h.tape, h.output, h.size, fun k hk _ => h.block k hk⟩
theorem str_enc (ws : List ByteArray) : (ws.map ofB).map encStr = ws.map .string := by
  rw [List.map_map]
  apply List.map_congr_left
  intro s _
  show Value.string ⟨(ofB s).toArray⟩ = Value.string s
  exact congrArg Value.string (toB_ofB s)
theorem enc_str (ls : List (List UInt8)) : ls.map encStr = (ls.map toB).map .string := by
  rw [List.map_map]; rfl
theorem compact_le (ls : List (List UInt8)) : (Lib.compact ls).length ≤ ls.length := by
  unfold Lib.compact Lib.compactUpTo
  rw [List.length_map]
  exact Nat.le_trans (List.length_filter_le _ _) (by simp)

open Classical in
set_option maxHeartbeats 2000000 in
set_option maxRecDepth 100000 in
theorem build_any {S : Nat → Prop} (A : Option Addr) (ws : List ByteArray) (c : Nat) (w : World) (h : Rd S w A (ws.map .string)) (hl : ws.length ≤ 1000000) (hc : ws.length ≤ c) (hnil : A = none → c = 0) :
    Calls Try.prog 30 #[.slice A ws.length c] w (BPost w ws) := by
  have H := Lib.hid h
  clear h
  by_cases h0 : ws.length = 0
  · obtain rfl : ws = [] := List.eq_nil_of_length_eq_zero h0
    have HE : Hid (bErr [] = 0 ∧ bOut [] = []) := by
      have hd : dist [] = [] := by
        apply List.eq_nil_iff_forall_not_mem.2
        intro x hx
        have := (dist_mem [] x).1 hx
        simp at this
      have he : bErr [] = 0 := by unfold bErr; rw [if_neg (fun ⟨x, hx, _⟩ => by simp at hx), if_neg (by rw [hd]; simp)]
      exact ⟨he, by unfold bOut; rw [if_pos he, hd]⟩
    have hLn : decide (Long ([] : List ByteArray)) = false := by simp [Long]
    clear h0
    cases A with
    | none =>
      obtain rfl : c = 0 := hnil rfl
      clear hnil
      go_enter Try.func30, Try.ntmps30
      go_wp2_with fail
      refine (Try.slices_Clone_string_nil 0 0 _).mono ?_
      rintro e w1 ⟨rfl, rfl⟩
      go_wp2_with fail
      refine (Try.slices_Sort_string_none none 0 _).mono ?_
      rintro e w2 ⟨rfl, rfl⟩
      go_wp2_with fail
      refine (Try.slices_Compact_string_empty none 0 _).mono ?_
      rintro e w3 ⟨rfl, rfl⟩
      go_wp2_with fail
      refine (contains_any none [] 0 _ (Rd.nil (S := fun _ => True)) (by simp)).mono ?_
      rw [hLn]
      rintro e w4 ⟨rfl, n4, rfl⟩
      go_wp2_with fail
      go_ret2
      exact ⟨none, 0, by rw [HE.out.1, HE.out.2]; rfl, by rw [HE.out.2]; exact Rd.nil, only_drewN (only_refl _ _) _⟩
    | some a =>
      clear hnil
      go_enter Try.func30, Try.ntmps30
      go_wp2_with fail
      refine (Try.slices_Clone_string_zero a c _).mono ?_
      rintro e w1 ⟨v1, rfl, hown, -, hbel⟩
      obtain ⟨A1, c1, rfl, hc1, hm1, -, -⟩ := Rd.of_own hown (by decide)
      have G1 : Hid (w.grownBy w1 none) := only_below hbel
      clear hown hbel
      go_wp2_with fail
      refine (Try.slices_Sort_string_none A1 c1 _).mono ?_
      rintro e w2 ⟨rfl, rfl⟩
      go_wp2_with fail
      refine (Try.slices_Compact_string_empty A1 c1 _).mono ?_
      rintro e w3 ⟨rfl, rfl⟩
      go_wp2_with fail
      refine (contains_any A1 [] c1 _ (Rd.nil (S := fun _ => True)) (by simp)).mono ?_
      rw [hLn]
      rintro e w4 ⟨rfl, n4, rfl⟩
      go_wp2_with fail
      go_ret2
      exact ⟨A1, c1, by rw [HE.out.1, HE.out.2]; rfl, by rw [HE.out.2]; exact Rd.nil, only_drewN G1.out _⟩
  · obtain ⟨b, off, rfl, -, hb, hcell⟩ := H.out (by simp; omega)
    have HC := Lib.hid hcell
    have hp : 0 < ws.length := by omega
    clear hcell h0 hnil
    go_enter Try.func30, Try.ntmps30
    go_wp2_with fail
    refine (Try.slices_Clone_string b off ws.length c ws _ (Nat.le_refl _) (by omega) (fun j hj => HC.out j _ (by rw [getD_lt ws _ hj]; simp [hj]))).mono ?_
    rintro e w1 ⟨v1, rfl, hown, -, hbel⟩
    have hg1 := only_below hbel
    rw [List.take_length] at hown
    obtain ⟨-, hown2⟩ := hown
    rcases hown2 with ⟨-, h2⟩ | ⟨g, cap, cur, rfl, hg, hblk, hnc, hcm, hcs, htk⟩
    · omega
    have hH1 : Go.Sort.Holds encStr w1 g 0 (ws.map ofB).toArray := holds_of_block hblk (by rw [List.length_map, str_enc]; simpa using htk)
    have hgl : g < w1.heap.size := (Array.getElem?_eq_some_iff.1 hblk).1
    have H1 := Lib.hid hH1
    have G1 := Lib.hid hg1
    have BK := Lib.hid hblk
    clear hH1 hg1 hblk htk hbel
    go_wp2_with fail
    have c1 := Try.slices_Sort_string g 0 cap (ws.map ofB) w1 H1.out hgl (by rw [List.length_map]; omega)
    rw [List.length_map] at c1
    refine c1.mono ?_
    clear c1
    rintro e w2 ⟨rfl, n2, os, hw2⟩
    have hb2 : w2.heap[g]? = some (.cells (Go.Sort.putCells encStr 0 (sorted (ws.map ofB)).toArray cur) 9 (0, 0)) := by rw [hw2]; exact heap_sorted _ BK.out
    have hg2 : w1.grownBy w2 (some g) := by rw [hw2]; exact grownBy_sorted _
    have ht2 : (Go.Sort.putCells encStr 0 (sorted (ws.map ofB)).toArray cur).toList.take (sorted (ws.map ofB)).length = (sorted (ws.map ofB)).map encStr := take_putCells cur _ (by rw [sorted_len, List.length_map]; omega)
    have hH2 : Go.Sort.Holds encStr w2 g 0 (sorted (ws.map ofB)).toArray := holds_of_block hb2 ht2
    have hz2 : (Go.Sort.putCells encStr 0 (sorted (ws.map ofB)).toArray cur).size = cur.size := by simp [Go.Sort.putCells]
    have H2 := Lib.hid hH2
    have G2 : Hid (w.grownBy w2 none) := only_fresh G1.out hg2 hg
    have B2 := Lib.hid (And.intro hb2 hz2)
    clear hw2 hb2 hg2 ht2 hH2 hz2 H1 G1 BK
    have hsl : (sorted (ws.map ofB)).length = ws.length := by rw [sorted_len, List.length_map]
    have HSL := Lib.hid hsl
    go_wp2_with fail
    have c1 := Try.slices_Compact_string g 0 cap (sorted (ws.map ofB)) w2 H2.out (by omega) (by omega)
    rw [HSL.out] at c1
    refine c1.mono ?_
    clear c1 hsl
    rintro e w3 ⟨rfl, q3, hw3⟩
    have hw3' : w3 = Go.Sort.grow (Go.Sort.putRow encStr (Go.Sort.ahead w2 q3) g 0 (Lib.compact (sorted (ws.map ofB)) ++ List.replicate ((sorted (ws.map ofB)).length - (Lib.compact (sorted (ws.map ofB))).length) []).toArray) #[] := by rw [Go.Sort.grow_empty, HSL.out]; exact hw3
    have hb3 := heap_sorted (n := q3) (os := #[]) (Lib.compact (sorted (ws.map ofB)) ++ List.replicate ((sorted (ws.map ofB)).length - (Lib.compact (sorted (ws.map ofB))).length) []).toArray B2.out.1
    rw [← hw3'] at hb3
    have hg3 : w2.grownBy w3 (some g) := by rw [hw3']; exact grownBy_sorted _
    have hcl := compact_le (sorted (ws.map ofB))
    have htl : (Lib.compact (sorted (ws.map ofB)) ++ List.replicate ((sorted (ws.map ofB)).length - (Lib.compact (sorted (ws.map ofB))).length) ([] : List UInt8)).length = ws.length := by
      rw [List.length_append, List.length_replicate, HSL.out] at *; omega
    have ht3 := take_putCells (Go.Sort.putCells encStr 0 (sorted (ws.map ofB)).toArray cur) (Lib.compact (sorted (ws.map ofB)) ++ List.replicate ((sorted (ws.map ofB)).length - (Lib.compact (sorted (ws.map ofB))).length) []) (by rw [htl, B2.out.2]; omega)
    have hR : Rd (w.heap.size ≤ ·) w3 (some ⟨g, 0, none⟩) ((dist ws).map .string) := fun _ => by
      refine ⟨g, 0, rfl, hg, (Array.getElem?_eq_some_iff.1 hb3).1, fun j u hu => ?_⟩
      rw [Nat.zero_add, cell_of_row w3 g j _ _ (0, 0) hb3, ← Array.getElem?_toList]
      have hj : j < (Lib.compact (sorted (ws.map ofB))).length := by
        have := (List.getElem?_eq_some_iff.1 hu).1
        simpa [dist] using this
      have h1 := congrArg (fun l => l[j]?) ht3
      rw [List.getElem?_take_of_lt (by rw [List.length_append]; omega)] at h1
      rw [h1, List.map_append, List.getElem?_append_left (by simpa using hj), enc_str]
      exact hu
    have R3 := Lib.hid hR
    have G3 : Hid (w.grownBy w3 none) := only_fresh G2.out hg3 hg
    have hdl : (Lib.compact (sorted (ws.map ofB))).length = (dist ws).length := by simp [dist]
    have hd1 : (dist ws).length ≤ 1000000 := by rw [← hdl]; rw [HSL.out] at hcl; omega
    rw [hdl]
    clear hw3 hw3' hb3 hg3 hcl htl ht3 hR hdl H2 B2 G2 HC H
    go_wp2_with fail
    refine (contains_any (some ⟨g, 0, none⟩) (dist ws) cap _ R3.out (by omega)).mono ?_
    by_cases hL : Long ws
    · have hd : decide (Long (dist ws)) = true := by simp [dist_long, hL]
      have HE : Hid (bErr ws = 3 ∧ bOut ws = []) := by
        have he : bErr ws = 3 := by unfold bErr; rw [if_pos hL]
        exact ⟨he, by unfold bOut; rw [if_neg (by rw [he]; decide)]⟩
      clear hL
      rw [hd]
      rintro e w4 ⟨rfl, n4, rfl⟩
      go_wp2_with fail
      go_ret2
      exact ⟨none, 0, by rw [HE.out.1, HE.out.2]; rfl, by rw [HE.out.2]; exact Rd.nil, only_drewN G3.out _⟩
    · have hd : decide (Long (dist ws)) = false := by simp [dist_long, hL]
      rw [hd]
      rintro e w4 ⟨rfl, n4, rfl⟩
      by_cases hbig : 32768 < (dist ws).length
      · have HE : Hid (bErr ws = 4 ∧ bOut ws = []) := by
          have he : bErr ws = 4 := by unfold bErr; rw [if_neg hL, if_pos hbig]
          exact ⟨he, by unfold bOut; rw [if_neg (by rw [he]; decide)]⟩
        have d1 : decide ((32768 : Int) < ((dist ws).length : Int)) = true := decide_eq_true (by omega)
        clear hL hd
        go_wp2_with fail
        go_ret2
        exact ⟨none, 0, by rw [HE.out.1, HE.out.2]; rfl, by rw [HE.out.2]; exact Rd.nil, only_drewN G3.out _⟩
      · have HE : Hid (bErr ws = 0 ∧ bOut ws = dist ws) := by
          have he : bErr ws = 0 := by unfold bErr; rw [if_neg hL, if_neg hbig]
          exact ⟨he, by unfold bOut; rw [if_pos he]⟩
        have d1 : decide ((32768 : Int) < ((dist ws).length : Int)) = false := decide_eq_false (by omega)
        clear hL hd
        go_wp2_with fail
        go_ret2
        exact ⟨_, cap, by rw [HE.out.1, HE.out.2]; rfl, by rw [HE.out.2]; exact R3.out, only_drewN G3.out _⟩
end Go.Proofs.Ytgaomilmljepoaa
