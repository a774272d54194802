/- slices.Clone at []api.Field (printed by mkclone.py). Condition: sizes. -/
import Derived.Test.YtfbkkbbpgipipaaGreatDoorJGenC
import Derived.Lib.SliceRun
import Derived.StillTailTactics
import Derived.Test.YtfbkkbbpgipipaaGreatDoorJBase
import Derived.Deep.RegionWith
import Derived.Test.YtfbkkbbpgipipaaGreatDoorJEv
import Derived.Deep.RegionLaw
namespace Go.Proofs.YtfbkkbbpgipipaaGreatDoor
open Go.RowKit
set_option linter.unusedVariables false
set_option linter.unusedSimpArgs false

def CloneFdPost (w : World) (n : Nat) (xs : List Value) (e : Ending) (w' : World) : Prop := ∃ A' c', e = .returned (.slice A' n c') ∧ w'.ownsRow w.heap.size 69 2 (.slice A' n c') n xs ∧ w.grownBy w' none
set_option maxHeartbeats 1000000 in
set_option maxRecDepth 100000 in
theorem cloneFd_any {S : Nat → Prop} (A : Option Addr) (n c : Nat) (xs : List Value) (w : World) (hr : Rd S w A xs) (hn : xs.length = n * 2) (hl : n ≤ 1000000) (h1 : ∀ u ∈ xs, u.oneCell' = true) (hA : A = none → n = 0) :
    Calls Tryz.prog 60 #[.slice A n c] w (CloneFdPost w n xs) := by
  have q22 : ∀ (w : World) (a : Option Addr) (n c n' c' : Nat), (binOp .eql 33 (.slice a n c) (.slice none n' c')).run Tryz.prog w = .ok (.bool a.isNone) w := fun w a n c n' c' => Lib.run_eql_slice_nil w _ _ a n c n' c' Tryz.underlying33
  have H1 := Lib.hid h1
  have HR := Lib.hid hr
  clear h1 hr
  cases A with
  | none =>
    obtain rfl := hA rfl
    obtain rfl : xs = [] := List.eq_nil_of_length_eq_zero (by omega)
    clear hA
    go_enter Tryz.func60, Tryz.ntmps60
    go_wp2_with fail
    go_ret
    exact ⟨none, 0, rfl, World.ownsRow_nil _ _ _ _, only_refl _ _⟩
  | some a =>
    clear hA
    go_enter Tryz.func60, Tryz.ntmps60
    go_wp2_with (at_builtin; refine wpList_appendN rfl _ _ 33 rfl w.heap.size Tryz.underlying33 fieldInfo rfl (by decide) (v := .slice (some ⟨w.heap.size, 0, none⟩) 0 0) (by rfl) (World.ownsRow_made w #[] 0 (Nat.le_refl _) (Nat.zero_le _) (by simp)) (some a) n c (news := xs) (by rfl) (HR.out.alloc _) hn H1.out (by decide) (by omega) (by simp) ?_; intro v3 w3 hown3 hg3 hob3)
    have O3 : Hid (w3.ownsRow w.heap.size 69 2 v3 n xs) := Lib.hid (by simpa using hown3)
    have G3 : Hid (w.grownBy w3 none) := Lib.hid (only_fresh (only_alloc (only_refl _ _) _) (by simpa [Value.ownBlock] using hg3) (Nat.le_refl _))
    clear hown3 hg3 hob3
    obtain ⟨A3, c3, rfl, -, -, -, -⟩ := Rd.of_own O3.out (by decide)
    go_wp2_with fail
    go_ret
    exact ⟨A3, c3, rfl, O3.out, G3.out⟩
end Go.Proofs.YtfbkkbbpgipipaaGreatDoor

namespace Go.Proofs.YtfbkkbbpgipipaaGreatDoor
open Go.RowKit
set_option linter.unusedVariables false
set_option linter.unusedSimpArgs false

def AscN_ (fs : List FieldD) : Prop := (fs.map FieldD.name).Pairwise (fun a b => a.data.toList < b.data.toList)
set_option maxHeartbeats 2000000 in
set_option maxRecDepth 100000 in
theorem stable_any {S : Nat → Prop} (fb fo : Nat) (fs : List FieldD) (c : Nat) (w : World) (hr : Rd S w (some ⟨fb, fo, none⟩) (fs.flatMap FieldD.cells)) (hl : fs.length ≤ 19) (hs : AscN_ fs) :
    Calls Tryz.prog 74 #[.slice (some ⟨fb, fo, none⟩) fs.length c, .int .i64 fs.length, .func (.func 62) #[] #[]] w (QuietV w) := by
  have KI := Lib.hid (insc_any fb fo fs c w hr (by omega) hs)
  have i1 : ¬ ((20 : Int) ≤ (fs.length : Int)) := by omega
  have i2 : ¬ ((20 : Int) < (fs.length : Int)) := by omega
  clear hr hs
  go_enter Tryz.func74, Tryz.ntmps74
  go_wp2_with fail
  go_loopw [7, 8] (fun va vb wr => va = .int .i64 0 ∧ vb = .int .i64 20 ∧ wr = w) (fun _ _ _ => 0)
  case atStart => exact ⟨rfl, rfl, rfl⟩
  case round =>
    obtain ⟨rfl, rfl, rfl⟩ := hrel
    go_wp2_with fail
    refine KI.out.mono ?_
    rintro e w1 ⟨rfl, hg1⟩
    have G1 := Lib.hid hg1
    clear hg1
    go_wp2_with fail
    go_loopw [6] (fun vb wr => vb = .int .i64 20 ∧ wr = w1) (fun _ _ => 0)
    case atStart => exact ⟨rfl, rfl⟩
    case round =>
      obtain ⟨rfl, rfl⟩ := hrel
      go_wp2_with fail
      exact bodyPost_ret (v := .tuple #[]) (by simp [results, Tryz.results74, go_sem]) rfl ⟨rfl, G1.out⟩
set_option maxHeartbeats 1000000 in
set_option maxRecDepth 100000 in
theorem stablef_any {S : Nat → Prop} (fb fo : Nat) (fs : List FieldD) (c : Nat) (w : World) (hr : Rd S w (some ⟨fb, fo, none⟩) (fs.flatMap FieldD.cells)) (hl : fs.length ≤ 19) (hs : AscN_ fs) :
    Calls Tryz.prog 61 #[.slice (some ⟨fb, fo, none⟩) fs.length c, .func (.func 62) #[] #[]] w (QuietV w) := by
  have KI := Lib.hid (stable_any fb fo fs c w hr hl hs)
  clear hr hs
  go_enter Tryz.func61, Tryz.ntmps61
  go_wp2_with fail
  refine KI.out.mono ?_
  rintro e w1 ⟨rfl, hg1⟩
  have G1 := Lib.hid hg1
  clear hg1
  go_wp2_with fail
  exact bodyPost_ret (v := .tuple #[]) (by simp [results, Tryz.results61, go_sem]) rfl ⟨rfl, G1.out⟩
set_option maxHeartbeats 1000000 in
set_option maxRecDepth 100000 in
theorem insc_nil (A : Option Addr) (c : Nat) (w : World) :
    Calls Tryz.prog 82 #[.slice A 0 c, .int .i64 0, .int .i64 0, .func (.func 62) #[] #[]] w (QuietV w) := by
  go_enter Tryz.func82, Tryz.ntmps82
  go_wp2_with fail
  go_loopw [8] (fun vi wr => vi = .int .i64 1 ∧ wr = w) (fun _ _ => 0)
  case atStart => exact ⟨rfl, rfl⟩
  case round =>
    obtain ⟨rfl, rfl⟩ := hrel
    go_wp2_with fail
    exact bodyPost_ret (v := .tuple #[]) (by simp [results, Tryz.results82, go_sem]) rfl ⟨rfl, only_refl _ _⟩
set_option maxHeartbeats 2000000 in
set_option maxRecDepth 100000 in
theorem stable_nil (A : Option Addr) (c : Nat) (w : World) :
    Calls Tryz.prog 74 #[.slice A 0 c, .int .i64 0, .func (.func 62) #[] #[]] w (QuietV w) := by
  have KI := Lib.hid (insc_nil A c w)
  go_enter Tryz.func74, Tryz.ntmps74
  go_wp2_with fail
  go_loopw [7, 8] (fun va vb wr => va = .int .i64 0 ∧ vb = .int .i64 20 ∧ wr = w) (fun _ _ _ => 0)
  case atStart => exact ⟨rfl, rfl, rfl⟩
  case round =>
    obtain ⟨rfl, rfl, rfl⟩ := hrel
    go_wp2_with fail
    refine KI.out.mono ?_
    rintro e w1 ⟨rfl, hg1⟩
    have G1 := Lib.hid hg1
    clear hg1
    go_wp2_with fail
    go_loopw [6] (fun vb wr => vb = .int .i64 20 ∧ wr = w1) (fun _ _ => 0)
    case atStart => exact ⟨rfl, rfl⟩
    case round =>
      obtain ⟨rfl, rfl⟩ := hrel
      go_wp2_with fail
      exact bodyPost_ret (v := .tuple #[]) (by simp [results, Tryz.results74, go_sem]) rfl ⟨rfl, G1.out⟩
set_option maxHeartbeats 1000000 in
set_option maxRecDepth 100000 in
theorem stablef_all {S : Nat → Prop} (A : Option Addr) (fs : List FieldD) (c : Nat) (w : World) (hr : Rd S w A (fs.flatMap FieldD.cells)) (hl : fs.length ≤ 19) (hs : AscN_ fs) :
    Calls Tryz.prog 61 #[.slice A fs.length c, .func (.func 62) #[] #[]] w (QuietV w) := by
  cases fs with
  | nil =>
    have KI := Lib.hid (stable_nil A c w)
    go_enter Tryz.func61, Tryz.ntmps61
    go_wp2_with fail
    refine KI.out.mono ?_
    rintro e w1 ⟨rfl, hg1⟩
    have G1 := Lib.hid hg1
    clear hg1
    go_wp2_with fail
    exact bodyPost_ret (v := .tuple #[]) (by simp [results, Tryz.results61, go_sem]) rfl ⟨rfl, G1.out⟩
  | cons f fs =>
    obtain ⟨b, o, rfl, -, -, -⟩ := hr (by rw [flat_len _ 2 FieldD.cells_len]; simp)
    exact stablef_any b o (f :: fs) c w hr hl hs
def PSortP (w : World) (fs : List FieldD) (e : Ending) (w' : World) : Prop :=
  ∃ (A : Option Addr) (c : Nat), e = .returned (.tuple #[.slice A fs.length c, .int .i64 0]) ∧ Rd (w.heap.size ≤ ·) w' A (fs.flatMap FieldD.cells) ∧ w.grownBy w' none
set_option maxHeartbeats 8000000 in
set_option maxRecDepth 100000 in
theorem psort_any {S : Nat → Prop} (A : Option Addr) (fs : List FieldD) (c : Nat) (w : World) (hr : Rd S w A (fs.flatMap FieldD.cells)) (hl : fs.length ≤ 19) (hs : AscN_ fs) (hn : ∀ f ∈ fs, LowNm f.name) (hK : Kinds w) (hA : A = none → fs.length = 0) :
    Calls Tryz.prog 44 #[.slice A fs.length c] w (PSortP w fs) := by
  have HR := Lib.hid hr
  have HS := Lib.hid hs
  have HN := Lib.hid hn
  have HK := Lib.hid hK
  have HA := Lib.hid hA
  have i1 : ¬ ((32 : Int) < (fs.length : Int)) := by omega
  clear hr hs hn hK hA
  go_enter Tryz.func44, Tryz.ntmps44
  go_wp2_with fail
  go_loopw [12] (fun vi wr => ∃ k : Nat, vi = .int .i64 k ∧ k ≤ fs.length ∧ w.grownBy wr none) (fun vi _ => fs.length - (intOf vi).toNat)
  case atStart => exact ⟨0, rfl, Nat.zero_le _, only_refl _ _⟩
  case round =>
    obtain ⟨k, rfl, hk, hG⟩ := hrel
    have G := Lib.hid hG
    clear hG
    by_cases hlt : k < fs.length
    · obtain ⟨z, hz⟩ : ∃ z, fs[k]? = some z := ⟨_, List.getElem?_eq_getElem hlt⟩
      have hrr := HR.out.grown G.out (by simp)
      obtain ⟨fb, fo, rfl, -, -, -⟩ := hrr (by rw [flat_len _ 2 FieldD.cells_len]; omega)
      have q0 : wr.cell? ⟨fb, fo + k * 2, none⟩ = some (.string z.name) := hrr.flatAt FieldD.cells_len hz 0 (by omega)
      have q1 : wr.cell? ⟨fb, fo + k * 2 + 1, none⟩ = some (.string z.value) := hrr.flatAt FieldD.cells_len hz 1 (by omega)
      have j1 : (k : Int) < (fs.length : Int) := by omega
      have j2 : (0 : Int) ≤ (k : Int) := by omega
      have KN : Hid (∀ W, w.grownBy W none → Calls Tryz.prog 59 #[.string z.name] W (OkQ W)) := Lib.hid (fun W hg => pname_any z.name (HN.out z (List.mem_of_getElem? hz)) W (HK.out.grown hg (by simp)))
      clear hrr hz
      go_wp2_with fail
      refine (KN.out _ (only_alloc G.out _)).mono ?_
      rintro e w2 ⟨rfl, hg2⟩
      have G2 := Lib.hid (only_trans (only_alloc G.out _) hg2)
      clear hg2 q0 q1 G
      go_wp2_with fail
      go_roundw
      case rel => exact ⟨k + 1, by go_num, by omega, G2.out⟩
      case measure => simp [intOf]; omega
    · have j1 : ¬ ((k : Int) < (fs.length : Int)) := by omega
      have KC := Lib.hid (cloneFd_any A fs.length c (fs.flatMap FieldD.cells) wr (HR.out.grown G.out (by simp)) (by rw [flat_len _ 2 FieldD.cells_len]) (by omega) (flat_one (fun f => by simp [FieldD.cells, Value.oneCell']) _) HA.out)
      go_wp2_with fail
      refine KC.out.mono ?_
      rintro e w2 ⟨A2, c2, rfl, ho2, hg2⟩
      have G2 := Lib.hid (only_trans G.out hg2)
      have R2 := Lib.hid (rd_own ho2 (by decide))
      have KS := Lib.hid (stablef_all A2 fs c2 w2 R2.out hl HS.out)
      obtain ⟨wo, rfl⟩ : ∃ x, x = wr := ⟨_, rfl⟩
      have hsz2 : w.heap.size ≤ wo.heap.size := G.out.size
      clear ho2 hg2 KC
      go_wp2_with fail
      refine KS.out.mono ?_
      rintro e w3 ⟨rfl, hg3⟩
      have G3 := Lib.hid (only_trans G2.out hg3)
      have R3 := Lib.hid (R2.out.grown hg3 (by simp))
      clear hg3 R2 G2 KS
      go_wp2_with fail
      go_loopw [6] (fun vi wr => ∃ k : Nat, vi = .int .i64 k ∧ 1 ≤ k ∧ k ≤ fs.length + 1 ∧ w3.grownBy wr none) (fun vi _ => fs.length + 1 - (intOf vi).toNat)
      case atStart => exact ⟨1, rfl, by omega, by omega, only_refl _ _⟩
      case round =>
        obtain ⟨k, rfl, hk1, hk2, hG⟩ := hrel
        have G4 := Lib.hid hG
        clear hG
        by_cases hlt2 : k < fs.length
        · obtain ⟨x, hx⟩ : ∃ x, fs[k]? = some x := ⟨_, List.getElem?_eq_getElem hlt2⟩
          obtain ⟨j, hj⟩ : ∃ j, k = j + 1 := ⟨k - 1, by omega⟩
          obtain ⟨y, hy⟩ : ∃ y, fs[j]? = some y := ⟨_, List.getElem?_eq_getElem (by omega)⟩
          have hne : (x.name = y.name) ↔ False := by
            constructor
            · intro e
              obtain ⟨q1, q2⟩ := List.getElem?_eq_some_iff.1 hx
              obtain ⟨q3, q4⟩ := List.getElem?_eq_some_iff.1 hy
              have := List.pairwise_iff_getElem.1 HS.out j k (by simpa using q3) (by simpa using q1) (by omega)
              rw [List.getElem_map, List.getElem_map, q2, q4, e] at this
              exact List.lt_irrefl _ this
            · exact False.elim
          have hnb : (x.name.toList == y.name.toList) = false := by
            have : x.name.toList ≠ y.name.toList := fun e => hne.1 (toList_inj e)
            simpa using this
          have hrr := R3.out.grown G4.out (by simp)
          obtain ⟨fb, fo, rfl, -, -, -⟩ := hrr (by rw [flat_len _ 2 FieldD.cells_len]; omega)
          have q0 : wr.cell? ⟨fb, fo + k * 2, none⟩ = some (.string x.name) := hrr.flatAt FieldD.cells_len hx 0 (by omega)
          have q1 : wr.cell? ⟨fb, fo + j * 2, none⟩ = some (.string y.name) := hrr.flatAt FieldD.cells_len hy 0 (by omega)
          have j1 : (k : Int) < (fs.length : Int) := by omega
          have j2 : (0 : Int) ≤ (k : Int) := by omega
          have j3 : (j : Int) < (fs.length : Int) := by omega
          have j4 : (0 : Int) ≤ (j : Int) := by omega
          have hwj : IntKind.i64.wrap ((k : Int) - 1) = (j : Int) := by rw [show (k : Int) - 1 = (j : Int) by omega]; exact IntWalk.i64_in _ (by omega)
          clear hrr hx hy hj
          go_wp2_with fail
          go_quiet (fail)
          have G5 := Lib.hid (only_drewN G4.out nq)
          clear q0 q1 G4
          go_wp2_with fail
          go_roundw
          case rel => exact ⟨k + 1, by go_num, by omega, by omega, G5.out⟩
          case measure => simp [intOf]; omega
        · have j1 : ¬ ((k : Int) < (fs.length : Int)) := by omega
          go_wp2_with fail
          go_ret2
          exact ⟨A2, c2, rfl, (R3.out.grown G4.out (by simp)).mono (fun b hb _ => by have h0 : wo.heap.size ≤ b := hb; omega), only_trans G3.out G4.out⟩
end Go.Proofs.YtfbkkbbpgipipaaGreatDoor

namespace Go.Proofs.YtfbkkbbpgipipaaGreatDoor
open Go.RowKit
set_option linter.unusedVariables false
set_option linter.unusedSimpArgs false

set_option maxHeartbeats 800000 in
theorem word_some (g : Nat) (l : List Int) (k : Nat) (w : World) (h : CodesAt w g l k) :
    Calls Tryz.prog 57 #[.pointer (some ⟨g, 0, none⟩)] w (StrPost w g l 7) := by
  go_enter Tryz.func57, Tryz.ntmps57
  go_wp2_with fail
  refine (next_some g l k 14 _ (h.grown (World.grownBy_alloc _ _ none) (by simp)) (by omega) (by omega)).mono ?_
  rintro e w2 ⟨v2, k2, rfl, hv2, h2, hg2⟩
  obtain ⟨j, rfl⟩ := Int.eq_ofNat_of_zero_le hv2.1
  have hj : j < 14 := by omega
  have hlt := h.lt
  have hB := (Blk.new w _ _).grown hg2 (by simp; omega)
  obtain ⟨x, hc, HX⟩ := hB.str_at (m := 7) (by rfl) (j := j) hj
  have G2 := Lib.hid hg2
  have C2 := Lib.hid h2
  clear hg2 h2 hB
  go_wp2
  go_ret
  exact ⟨x, k2, rfl, by have := HX.out; simpa using this, C2.out, only_trans (only_alloc (only_refl _ _) _) G2.out⟩
end Go.Proofs.YtfbkkbbpgipipaaGreatDoor

namespace Go.Proofs.YtfbkkbbpgipipaaGreatDoor
open Go.RowKit
set_option linter.unusedVariables false
set_option linter.unusedSimpArgs false

def sepTab : Array Value := #[.string ⟨#[32]⟩, .string ⟨#[32]⟩, .string ⟨#[44, 32]⟩, .string ⟨#[61]⟩, .string ⟨#[]⟩]
set_option maxHeartbeats 1600000 in
theorem text_some (g : Nat) (l : List Int) (k : Nat) (w : World) (h : CodesAt w g l k) :
    Calls Tryz.prog 37 #[.pointer (some ⟨g, 0, none⟩)] w (StrPost w g l 40) := by
  go_enter Tryz.func37, Tryz.ntmps37
  go_wp2_with fail
  refine (word_some g l k _ h).mono ?_
  rintro e w1 ⟨s1, k1, rfl, hs1, h1, hg1⟩
  go_wp2_with fail
  refine (next_some g l k1 4 _ h1 (by omega) (by omega)).mono ?_
  rintro e w2 ⟨v2, k2, rfl, hv2, h2, hg2⟩
  have G2 : Hid (w.grownBy w2 (some g)) := only_trans hg1 hg2
  clear hg1 hg2 h1 h
  go_wp2_with fail
  go_loopw [3, 4] (fun s i wr => ∃ (m : Int) (s' : ByteArray) (k : Nat), i = .int .i64 m ∧ 0 ≤ m ∧ s = .string s' ∧ (s'.size : Int) + 10 * m ≤ 37 ∧ CodesAt wr g l k ∧ w.grownBy wr (some g)) (fun _ i _ => (intOf i).toNat)
  case atStart => exact ⟨v2, s1, k2, rfl, hv2.1, rfl, by omega, h2, G2.out⟩
  case round =>
    obtain ⟨m, s', k, rfl, hm, rfl, hsz, hC, hG⟩ := hrel
    have G := Lib.hid hG
    have hlt := hC.lt
    clear hG h2 G2
    by_cases hm0 : 0 < m
    · go_wp2_with fail
      go_region_with (first
        | (go_at_call 7; refine (next_some g l k 5 _ (by first | exact hC.drew | exact (hC.alloc _).drew) (by omega) (by omega)).mono ?_; rintro e w5 ⟨v5, k5, rfl, hv5, hC5, hg5⟩; obtain ⟨j, rfl⟩ := Int.eq_ofNat_of_zero_le hv5.1; obtain ⟨x, hx, hX⟩ := tab_str (cs := sepTab) (m := 2) (by rfl) (j := j) (show j < 5 by omega); simp only [sepTab] at hx; (try (have hcb := ((Blk.new _ _ _).drew.grown hg5 (by simp; omega)).cell j; rw [hx] at hcb)))
        | (go_at_call 57; refine (word_some g l k5 _ (by first | exact hC5 | exact hC5.alloc _)).mono ?_; rintro e w6 ⟨s6, k6, rfl, hs6, hC6, hg6⟩; (try (have hcb2 := ((Blk.new _ _ _).grown hg6 (by have := hC5.lt; simp; omega)).cell j; rw [hx] at hcb2)); (try (have hcb3 := hg6.cell hcb (by simp; omega)))))
      all_goals go_wp2
      all_goals go_roundw
      all_goals first
        | (refine ⟨m - 1, _, k6, rfl, by omega, rfl, ?_, by first | exact hC6 | exact hC6.alloc _, ?_⟩
           · simp only [ByteArray.size_append]; omega
           · first
             | exact only_trans (only_trans (only_drew (only_alloc G.out _)) hg5) hg6
             | exact only_trans (only_alloc (only_trans (only_drew G.out) hg5) _) hg6
             | exact only_alloc (only_trans (only_trans (only_drew G.out) hg5) hg6) _)
        | (simp [intOf]; omega)
    · go_wp2_with fail
      go_ret
      exact ⟨s', k, rfl, by omega, hC, G.out⟩
end Go.Proofs.YtfbkkbbpgipipaaGreatDoor

namespace Go.Proofs.YtfbkkbbpgipipaaGreatDoor
open Go.RowKit
set_option linter.unusedVariables false
set_option linter.unusedSimpArgs false

def Ev.less (a b : Ev) : Bool :=
  if a.time ≠ b.time then decide (a.time < b.time) else if a.host ≠ b.host then decide (a.host < b.host) else if a.file ≠ b.file then decide (a.file < b.file) else decide (a.beg < b.beg)
def BoolExt (b : Bool) (w : World) (e : Ending) (w' : World) : Prop := e = .returned (.bool b) ∧ w.grownBy w' none

set_option maxHeartbeats 1000000 in
theorem rless_any (a b : Ev) (w : World) : Calls Tryz.prog 20 #[.agg a.cells.toArray, .agg b.cells.toArray] w (BoolExt (a.less b) w) := by
  have hE : w.grownBy ((w.alloc (.cells a.cells.toArray 35)).alloc (.cells b.cells.toArray 35)) none := only_alloc (only_alloc (only_refl _ _) _) _
  have HE := Lib.hid hE
  clear hE
  simp only [Ev.cells] at HE ⊢
  by_cases h1 : a.time = b.time
  · have b1 : (a.time != b.time) = false := by simp [h1]
    by_cases h2 : a.host = b.host
    · have b2 : (a.host != b.host) = false := by simp [h2]
      by_cases h3 : a.file = b.file
      · have b3 : (a.file != b.file) = false := by simp [h3]
        have hl : a.less b = decide (a.beg < b.beg) := by simp [Ev.less, h1, h2, h3]
        rw [hl]
        clear h1 h2 h3 hl
        go_enter Tryz.func20, Tryz.ntmps20
        go_wp2
        go_ret
        exact ⟨rfl, HE.out⟩
      · have b3 : (a.file != b.file) = true := by simp [h3]
        have hl : a.less b = decide (a.file < b.file) := by simp [Ev.less, h1, h2, h3]
        rw [hl]
        clear h1 h2 h3 hl
        go_enter Tryz.func20, Tryz.ntmps20
        go_wp2
        go_ret
        exact ⟨rfl, HE.out⟩
    · have b2 : (a.host != b.host) = true := by simp [h2]
      have hl : a.less b = decide (a.host < b.host) := by simp [Ev.less, h1, h2]
      rw [hl]
      clear h1 h2 hl
      go_enter Tryz.func20, Tryz.ntmps20
      go_wp2
      go_ret
      exact ⟨rfl, HE.out⟩
  · have b1 : (a.time != b.time) = true := by simp [h1]
    have hl : a.less b = decide (a.time < b.time) := by simp [Ev.less, h1]
    rw [hl]
    clear h1 hl
    go_enter Tryz.func20, Tryz.ntmps20
    go_wp2
    go_ret
    exact ⟨rfl, HE.out⟩
end Go.Proofs.YtfbkkbbpgipipaaGreatDoor

namespace Go.Proofs.YtfbkkbbpgipipaaGreatDoor
open Go.RowKit
set_option linter.unusedVariables false
set_option linter.unusedSimpArgs false

def zeroEv : Value := .agg #[.int .i64 0, .int .i64 0, .int .i64 0, .int .i64 0, .slice none 0 0, .int .i64 0, .int .i64 0, .string ⟨#[]⟩, .string ⟨#[]⟩, .slice none 0 0]
theorem eventInfo : (Tryz.prog.info? 35).map (fun i => (i.zero, i.size, i.bytes)) = some (some zeroEv, 10, 128) := by kernel_rfl
theorem Ev.one (e : Ev) : ∀ u ∈ e.cells, u.oneCell' = true := by simp [Ev.cells, Value.oneCell']
def insAt (es : List Ev) (e : Ev) (i : Nat) : List Ev := es.take i ++ e :: es.drop i
def InsPost (w : World) (es : List Ev) (e : Ev) (en : Ending) (w' : World) : Prop :=
  ∃ (A : Option Addr) (c i : Nat), i ≤ es.length ∧ (∀ j x, i ≤ j → es[j]? = some x → e.less x = true) ∧ (∀ x, 0 < i → es[i - 1]? = some x → e.less x = false) ∧ en = .returned (.slice A (es.length + 1) c) ∧ es.length + 1 ≤ c ∧ c ≤ maxLen ∧
    Rd (w.heap.size ≤ ·) w' A ((insAt es e i).flatMap Ev.cells) ∧ w.grownBy w' none

/-- the same, and the row is the call's own -/
def InsPostO (w : World) (es : List Ev) (e : Ev) (en : Ending) (w' : World) : Prop :=
  ∃ (A : Option Addr) (c i : Nat), i ≤ es.length ∧ (∀ j x, i ≤ j → es[j]? = some x → e.less x = true) ∧ (∀ x, 0 < i → es[i - 1]? = some x → e.less x = false) ∧ en = .returned (.slice A (es.length + 1) c) ∧ es.length + 1 ≤ c ∧ c ≤ maxLen ∧
    Rd (w.heap.size ≤ ·) w' A ((insAt es e i).flatMap Ev.cells) ∧ w.grownBy w' none ∧ w'.ownsRow w.heap.size 35 10 (.slice A (es.length + 1) c) (es.length + 1) ((insAt es e i).flatMap Ev.cells)
theorem own_base {w : World} {base base' e size n : Nat} {v : Value} {xs : List Value} (h : w.ownsRow base e size v n xs) (hb : base' ≤ base) : w.ownsRow base' e size v n xs :=
  ⟨h.1, h.2.imp id (fun ⟨g, cap, cur, h1, h2, h3⟩ => ⟨g, cap, cur, h1, Nat.le_trans hb h2, h3⟩)⟩
/-- the ten cells of one event of a slice -/
theorem Evs.cells_at {S : Nat → Prop} {w : World} {b off : Nat} {es : List Ev} (h : Rd S w (some ⟨b, off, none⟩) (es.flatMap Ev.cells)) {i : Nat} (hi : i < es.length) (j : Nat) (hj : j < 10) :
    w.cell? ⟨b, off + i * 10 + j, none⟩ = (es[i]).cells[j]? := by
  rw [Nat.add_assoc]
  obtain ⟨b', off', e, _, _, hc⟩ := h (by rw [flat_len _ 10 Ev.cells_len]; omega)
  injection e with e
  injection e with e1 e2
  subst e1 e2
  have h1 := flat_at Ev.cells 10 Ev.cells_len es i j hi hj
  have h2 : (es[i]).cells[j]? = some ((es[i]).cells[j]'(by rw [Ev.cells_len]; exact hj)) := List.getElem?_eq_getElem _
  rw [h2]
  exact hc _ _ (h1.trans h2)

theorem Evs.load10 {S : Nat → Prop} {w : World} {b off : Nat} {es : List Ev} (h : Rd S w (some ⟨b, off, none⟩) (es.flatMap Ev.cells)) {i : Nat} (hi : i < es.length) {y : Ev} (hy : es[i] = y) :
    w.cell? ⟨b, off + i * 10, none⟩ = some (.int .i64 y.host) ∧ w.cell? ⟨b, off + i * 10 + 1, none⟩ = some (.int .i64 y.file) ∧ w.cell? ⟨b, off + i * 10 + 2, none⟩ = some (.int .i64 y.beg) ∧
    w.cell? ⟨b, off + i * 10 + 3, none⟩ = some (.int .i64 y.fin) ∧ w.cell? ⟨b, off + i * 10 + 4, none⟩ = some (.slice y.la y.lines.length y.lc) ∧ w.cell? ⟨b, off + i * 10 + 5, none⟩ = some (.int .i64 y.time) ∧
    w.cell? ⟨b, off + i * 10 + 6, none⟩ = some (.int .i64 y.weight) ∧ w.cell? ⟨b, off + i * 10 + 7, none⟩ = some (.string y.trace) ∧ w.cell? ⟨b, off + i * 10 + 8, none⟩ = some (.string y.stream) ∧ w.cell? ⟨b, off + i * 10 + 9, none⟩ = some (.slice y.fa y.fields.length y.fc) := by
  subst hy
  exact ⟨Evs.cells_at h hi 0 (by omega), Evs.cells_at h hi 1 (by omega), Evs.cells_at h hi 2 (by omega), Evs.cells_at h hi 3 (by omega), Evs.cells_at h hi 4 (by omega), Evs.cells_at h hi 5 (by omega), Evs.cells_at h hi 6 (by omega), Evs.cells_at h hi 7 (by omega), Evs.cells_at h hi 8 (by omega), Evs.cells_at h hi 9 (by omega)⟩
theorem Blk.load10 {w : World} {g t : Nat} {y : Ev} (h : Blk w g t y.cells.toArray) :
    w.cell? ⟨g, 0, none⟩ = some (.int .i64 y.host) ∧ w.cell? ⟨g, 1, none⟩ = some (.int .i64 y.file) ∧ w.cell? ⟨g, 2, none⟩ = some (.int .i64 y.beg) ∧
    w.cell? ⟨g, 3, none⟩ = some (.int .i64 y.fin) ∧ w.cell? ⟨g, 4, none⟩ = some (.slice y.la y.lines.length y.lc) ∧ w.cell? ⟨g, 5, none⟩ = some (.int .i64 y.time) ∧
    w.cell? ⟨g, 6, none⟩ = some (.int .i64 y.weight) ∧ w.cell? ⟨g, 7, none⟩ = some (.string y.trace) ∧ w.cell? ⟨g, 8, none⟩ = some (.string y.stream) ∧ w.cell? ⟨g, 9, none⟩ = some (.slice y.fa y.fields.length y.fc) :=
  ⟨h.cell 0, h.cell 1, h.cell 2, h.cell 3, h.cell 4, h.cell 5, h.cell 6, h.cell 7, h.cell 8, h.cell 9⟩

set_option maxHeartbeats 1600000 in
set_option maxRecDepth 100000 in
theorem insert_own {S : Nat → Prop} (A : Option Addr) (es : List Ev) (c : Nat) (x : Ev) (w : World) (h : Rd S w A (es.flatMap Ev.cells)) (hl : es.length ≤ 100000) (hc : es.length ≤ c) (hcm : c ≤ maxLen) :
    Calls Tryz.prog 14 #[.slice A es.length c, .agg x.cells.toArray] w (InsPostO w es x) := by
  unfold maxLen at hcm
  have H := Lib.hid (h.mono (S' := (· < w.heap.size)) (fun b _ hb => hb))
  obtain ⟨W, hW⟩ : ∃ W, W = w.alloc (.cells x.cells.toArray 35) := ⟨_, rfl⟩
  have HB : Hid (Blk W w.heap.size 35 x.cells.toArray) := hW ▸ Blk.new w _ _
  have HG : Hid (w.grownBy W none) := hW ▸ only_alloc (only_refl _ _) _
  have hW2 : w.alloc (.cells #[.int .i64 x.host, .int .i64 x.file, .int .i64 x.beg, .int .i64 x.fin, .slice x.la x.lines.length x.lc, .int .i64 x.time, .int .i64 x.weight, .string x.trace, .string x.stream, .slice x.fa x.fields.length x.fc] 35) = W := hW.symm
  clear h hW
  show Calls Tryz.prog 14 #[.slice A es.length c, .agg #[.int .i64 x.host, .int .i64 x.file, .int .i64 x.beg, .int .i64 x.fin, .slice x.la x.lines.length x.lc, .int .i64 x.time, .int .i64 x.weight, .string x.trace, .string x.stream, .slice x.fa x.fields.length x.fc]] w _
  have HW2 := Lib.hid hW2
  clear hW2
  go_enter Tryz.func14, Tryz.ntmps14
  go_wp2
  rw [HW2.out]
  obtain ⟨g, hg⟩ : ∃ g, g = w.heap.size := ⟨_, rfl⟩
  rw [← hg] at HB ⊢
  have HGS := Lib.hid hg
  clear hg HW2
  go_loopw [5] (fun i wr => ∃ k : Nat, k ≤ es.length ∧ i = .int .i64 k ∧ (∀ j y, k ≤ j → es[j]? = some y → x.less y = true) ∧ Blk wr g 35 x.cells.toArray ∧ w.grownBy wr none) (fun i _ => (intOf i).toNat)
  case atStart => exact ⟨es.length, Nat.le_refl _, rfl, (fun j y hj hy => by rw [List.getElem?_eq_none hj] at hy; cases hy), HB.out, HG.out⟩
  case round =>
    obtain ⟨k, hk, rfl, hall, hB, hG⟩ := hrel
    have G := Lib.hid hG
    have AL := Lib.hid hall
    clear hG hall HB HG
    obtain ⟨b0, b1, b2, b3, b4, b5, b6, b7, b8, b9⟩ := hB.load10
    have HB := Lib.hid hB
    clear hB
    by_cases hk0 : 0 < k
    · obtain ⟨b, off, rfl, -, -, -⟩ := H.out (by rw [flat_len _ 10 Ev.cells_len]; omega)
      obtain ⟨k, rfl⟩ : ∃ k', k = k' + 1 := ⟨k - 1, by omega⟩
      have hr := (H.out.grown G.out (by simp))
      have hklt : k < es.length := by omega
      obtain ⟨y, hy⟩ : ∃ y, es[k] = y := ⟨_, rfl⟩
      obtain ⟨e0, e1, e2, e3, e4, e5, e6, e7, e8, e9⟩ := Evs.load10 hr hklt hy
      have HY := Lib.hid hy
      clear hr hy
      have hwk : IntKind.i64.wrap (k : Int) = (k : Int) := IntWalk.i64_in _ (by omega)
      have hki : (k : Int) < (es.length : Int) := by omega
      have hkn : (0 : Int) ≤ (k : Int) := by omega
      go_wp2_with fail
      by_cases hless : x.less y = true
      · go_region_with (first | (go_at_call 20; refine (rless_any x y _).mono ?_; rintro e w2 ⟨rfl, hg2⟩))
        all_goals
          have hB2 := HB.out.drew.grown hg2 (by simp)
          have G2 : Hid (w.grownBy w2 none) := only_trans (only_drew G.out) hg2
          clear hg2 e0 e1 e2 e3 e4 e5 e6 e7 e8 e9 b0 b1 b2 b3 b4 b5 b6 b7 b8 b9 hwk
          go_wp2_with fail
          go_roundw
          case rel =>
            refine ⟨k, by omega, by go_num, fun j z hj hz => ?_, hB2, G2.out⟩
            rcases Nat.lt_or_ge k j with h | h
            · exact AL.out j z h hz
            · obtain rfl : j = k := by omega
              rw [List.getElem?_eq_getElem hklt, HY.out] at hz
              injection hz with hz
              rw [← hz]; exact hless
          case measure => simp [intOf]
      · have hless' : x.less y = false := by simpa using hless
        clear hless
        go_region_with (first | (go_at_call 20; refine (rless_any x y _).mono ?_; rintro e w2 ⟨rfl, hg2⟩))
        all_goals
          have hB2 := HB.out.drew.grown hg2 (by simp)
          have G2 : Hid (w.grownBy w2 none) := only_trans (only_drew G.out) hg2
          clear hg2 e0 e1 e2 e3 e4 e5 e6 e7 e8 e9 b0 b1 b2 b3 b4 b5 b6 b7 b8 b9 hwk
          have hlen1 : ((es.take (k + 1)).flatMap Ev.cells).length = (k + 1) * 10 := by rw [flat_len _ 10 Ev.cells_len, List.length_take, Nat.min_eq_left (by omega)]
          have HR1 : Hid (Rd (· < w.heap.size) w2 (some ⟨b, off, none⟩) ((es.take (k + 1)).flatMap Ev.cells)) := by
            have := (H.out.grown G2.out (by simp)).take ((k + 1) * 10)
            rwa [← flat_take Ev.cells_len] at this
          have hgB : g < w2.heap.size := hB2.lt
          go_wp2_with (at_builtin; refine wpList_appendN rfl _ _ 27 rfl (g + 1) Tryz.underlying27 eventInfo rfl (by decide) (v := .slice none 0 0) (by rfl) (World.ownsRow_nil _ _ _ _) (some ⟨b, off, none⟩) (k + 1) c (by rfl) HR1.out hlen1 (flat_one Ev.one _) (by decide) (by omega) (by omega) ?_; intro v5 w5 hown5 hg5 hob5)
          simp only [Nat.zero_add, List.nil_append] at hown5
          have hB5 := hB2.grown hg5 (by simp [Value.ownBlock])
          have HR5 : Hid (Rd (· < w.heap.size) w5 _ _) := ((H.out.grown G2.out (by simp)).grown hg5 (by simp [Value.ownBlock]))
          have G5 : Hid (w.grownBy w5 none) := only_trans G2.out (by simpa [Value.ownBlock] using hg5)
          have hlt5 := hB5.lt
          obtain ⟨b0, b1, b2, b3, b4, b5, b6, b7, b8, b9⟩ := hB5.load10
          clear hob5 HR1 hg5
          have hkk : IntKind.i64.wrap ((k : Int) + 1) = (k : Int) + 1 := IntWalk.i64_in _ (by omega)
          have hk1 : (0 : Int) ≤ (k : Int) + 1 := by omega
          have hk2 : (k : Int) + 1 ≤ (es.length : Int) := by omega
          have hk3 : ((k : Int) + 1).toNat = k + 1 := by omega
          go_region_law (first
            | (have htok := hown7; go_must (refine step_appendN rfl _ _ 27 rfl (g + 1) Tryz.underlying27 eventInfo rfl (by decide) (v := _) (by rfl) hown7 _ _ _ (by rfl) (HR7.out.cut (n := es.length) (k := k + 1) (size := 10) (cap := c) (by rw [flat_len _ 10 Ev.cells_len]) (by omega) (by omega)) (by rw [List.length_drop, flat_len _ 10 Ev.cells_len, Nat.sub_mul]) (fun u hu => flat_one Ev.one _ u (List.mem_of_mem_drop hu)) (by decide) (by omega) (by omega) ?_); intro v8 w8 hown8 hg8 hob8)
            | (go_must (refine step_append1 rfl _ _ 27 rfl (g + 1) Tryz.underlying27 eventInfo rfl (by decide) (v := _) (by rfl) (w0 := w5) (cs := x.cells.toArray) (by rfl) (by rfl) (by rfl) (by rfl) hown5 (by rfl) rfl (by simpa using Ev.one x) (by decide) (by omega) (by omega) ?_); intro v7 w7 hown7 hg7 hob7; have HR7 : Hid (Rd (· < w.heap.size) w7 _ _) := (HR5.out.grown hg7 (fun b hb e => by have := (hown5.lt b e.symm).1; have := HGS.out; omega)); have hz7 : w5.heap.size ≤ w7.heap.size := hg7.size))
          all_goals
            have G8 : Hid (w.grownBy w8 none) := only_own (only_own G5.out hg7 hown5 (by have := HGS.out; omega)) hg8 hown7 (by have := HGS.out; omega)
            have hown9 : w8.ownsRow (g + 1) 35 10 v8 (es.length + 1) ((insAt es x (k + 1)).flatMap Ev.cells) := by
              have e1 : (k + 1) + 1 + (es.length - (k + 1)) = es.length + 1 := by omega
              rw [e1] at hown8
              simpa [insAt, flat_drop Ev.cells_len, List.flatMap_append] using hown8
            obtain ⟨A8, c8, rfl, hc8, hm8, -, hr8⟩ := Rd.of_own hown9 (by decide)
            have HR8 := Lib.hid hr8
            have HO9 := Lib.hid hown9
            clear hown5 hown7 hown8 hown9 hr8 hg7 hg8 hob7 hob8 b0 b1 b2 b3 b4 b5 b6 b7 b8 b9 hkk hk1 hk2 hk3
            go_wp2
            all_goals go_ret
            all_goals exact ⟨A8, c8, (k + 1), by omega, AL.out, (fun z hz hzz => by rw [show k + 1 - 1 = k from rfl, List.getElem?_eq_getElem hklt, HY.out] at hzz; injection hzz with hzz; rw [← hzz]; exact hless'), rfl, hc8, hm8, HR8.out.mono (fun b hb _ => by have := HGS.out; omega), G8.out, own_base HO9.out (by have := HGS.out; omega)⟩
    · obtain rfl : k = 0 := by omega
      clear b0 b1 b2 b3 b4 b5 b6 b7 b8 b9
      go_wp2_with fail
      go_quiet (fail)
      have HBq := HB.out.drewN nq
      have Gq : Hid (w.grownBy (wr.drewN nq) none) := only_drewN G.out nq
      have hlen1 : ((es.take 0).flatMap Ev.cells).length = 0 * 10 := by rw [flat_len _ 10 Ev.cells_len, List.length_take, Nat.min_eq_left (by omega)]
      have HR1 : Hid (Rd (· < w.heap.size) (wr.drewN nq) (A) ((es.take 0).flatMap Ev.cells)) := by
        have := (H.out.grown Gq.out (by simp)).take (0 * 10)
        rwa [← flat_take Ev.cells_len] at this
      have hgB : g < (wr.drewN nq).heap.size := HBq.lt
      go_wp2_with (at_builtin; refine wpList_appendN rfl _ _ 27 rfl (g + 1) Tryz.underlying27 eventInfo rfl (by decide) (v := .slice none 0 0) (by rfl) (World.ownsRow_nil _ _ _ _) (A) 0 c (by rfl) HR1.out hlen1 (flat_one Ev.one _) (by decide) (by omega) (by omega) ?_; intro v5 w5 hown5 hg5 hob5)
      simp only [Nat.zero_add, List.nil_append] at hown5
      have hB5 := HBq.grown hg5 (by simp [Value.ownBlock])
      have HR5 : Hid (Rd (· < w.heap.size) w5 _ _) := ((H.out.grown Gq.out (by simp)).grown hg5 (by simp [Value.ownBlock]))
      have G5 : Hid (w.grownBy w5 none) := only_trans Gq.out (by simpa [Value.ownBlock] using hg5)
      have hlt5 := hB5.lt
      obtain ⟨b0, b1, b2, b3, b4, b5, b6, b7, b8, b9⟩ := hB5.load10
      clear hob5 HR1 hg5
      have hk2 : (0 : Int) ≤ (es.length : Int) := by omega
      go_region_law (first
        | (have htok := hown7; go_must (refine step_appendN rfl _ _ 27 rfl (g + 1) Tryz.underlying27 eventInfo rfl (by decide) (v := _) (by rfl) hown7 _ _ _ (by rfl) HR7.out (by rw [flat_len _ 10 Ev.cells_len]) (flat_one Ev.one _) (by decide) (by omega) (by omega) ?_); intro v8 w8 hown8 hg8 hob8)
        | (go_must (refine step_append1 rfl _ _ 27 rfl (g + 1) Tryz.underlying27 eventInfo rfl (by decide) (v := _) (by rfl) (w0 := w5) (cs := x.cells.toArray) (by rfl) (by rfl) (by rfl) (by rfl) hown5 (by rfl) rfl (by simpa using Ev.one x) (by decide) (by omega) (by omega) ?_); intro v7 w7 hown7 hg7 hob7; have HR7 : Hid (Rd (· < w.heap.size) w7 _ _) := (HR5.out.grown hg7 (fun b hb e => by have := (hown5.lt b e.symm).1; have := HGS.out; omega)); have hz7 : w5.heap.size ≤ w7.heap.size := hg7.size))
      all_goals
        have G8 : Hid (w.grownBy w8 none) := only_own (only_own G5.out hg7 hown5 (by have := HGS.out; omega)) hg8 hown7 (by have := HGS.out; omega)
        have hown9 : w8.ownsRow (g + 1) 35 10 v8 (es.length + 1) ((insAt es x 0).flatMap Ev.cells) := by
          have e1 : 0 + 1 + es.length = es.length + 1 := by omega
          rw [e1] at hown8
          simpa [insAt, flat_drop Ev.cells_len, List.flatMap_append] using hown8
        obtain ⟨A8, c8, rfl, hc8, hm8, -, hr8⟩ := Rd.of_own hown9 (by decide)
        have HR8 := Lib.hid hr8
        have HO9 := Lib.hid hown9
        clear hown5 hown7 hown8 hown9 hr8 hg7 hg8 hob7 hob8 b0 b1 b2 b3 b4 b5 b6 b7 b8 b9 hk2
        go_wp2
        all_goals go_ret
        all_goals exact ⟨A8, c8, 0, by omega, AL.out, (fun z hz => absurd hz (by omega)), rfl, hc8, hm8, HR8.out.mono (fun b hb _ => by have := HGS.out; omega), G8.out, own_base HO9.out (by have := HGS.out; omega)⟩
theorem insert_any {S : Nat → Prop} (A : Option Addr) (es : List Ev) (c : Nat) (x : Ev) (w : World) (h : Rd S w A (es.flatMap Ev.cells)) (hl : es.length ≤ 100000) (hc : es.length ≤ c) (hcm : c ≤ maxLen) :
    Calls Tryz.prog 14 #[.slice A es.length c, .agg x.cells.toArray] w (InsPost w es x) :=
  (insert_own A es c x w h hl hc hcm).mono fun en w' ⟨A, c, i, h1, h2, h3, h4, h5, h6, h7, h8, _⟩ => ⟨A, c, i, h1, h2, h3, h4, h5, h6, h7, h8⟩
end Go.Proofs.YtfbkkbbpgipipaaGreatDoor
