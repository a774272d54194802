/- Merge of the reference of chapter 31. No condition. -/
import Derived.Test.YtphglalphejppaaAddRef
namespace Go.Proofs.Ytphglalphejppaa
open Go.RowKit
set_option linter.unusedVariables false
set_option linter.unusedSimpArgs false

def RM (w wr : World) (L : List (List Ev)) (A : Option Addr) (c : Nat) (out : List Ev) : Prop :=
  IsMerge L.flatten out ∧ out.length ≤ L.flatten.length ∧ out.length ≤ c ∧ c ≤ maxLen ∧ Rd (w.heap.size ≤ ·) wr A (out.flatMap Ev.cells) ∧ w.grownBy wr none
set_option maxHeartbeats 4000000 in
set_option maxRecDepth 100000 in
theorem rmerge_any {S : Nat → Prop} (A : Option Addr) (ps : List Pl) (c : Nat) (w : World) (h : Rd S w A (ps.map Pl.cell)) (hp : ∀ p ∈ ps, p.Ok S w) (hl : ps.length ≤ 1000) (ht : (ps.map (·.evs)).flatten.length ≤ 90000) :
    Calls Try.prog 17 #[.slice A ps.length c] w (MergePost w (ps.map (·.evs))) := by
  have H := Lib.hid h
  have HP : Hid (∀ p ∈ ps, p.Ok (· < w.heap.size) w) := Lib.hid (fun p hp' => (hp p hp').mono fun b _ h => h)
  have HT := Lib.hid ht
  clear h hp ht
  go_enter Try.func17, Try.ntmps17
  go_wp2_with fail
  go_loopw [4] (fun vi wr => ∃ i : Nat, vi = .int .i64 i ∧ i ≤ ps.length ∧ (∀ p ∈ ps.take i, Asc p.evs) ∧ w.grownBy wr none) (fun vi _ => ps.length - (intOf vi).toNat)
  case atStart => exact ⟨0, rfl, Nat.zero_le _, by simp, only_refl _ _⟩
  case round =>
    obtain ⟨i, rfl, hi, hA, hG⟩ := hrel
    have AS := Lib.hid hA
    have G := Lib.hid hG
    clear hA hG
    by_cases hlt : i < ps.length
    · have i1 : (i : Int) < (ps.length : Int) := by omega
      obtain ⟨p, hp⟩ : ∃ p, ps[i]? = some p := ⟨_, List.getElem?_eq_getElem hlt⟩
      have hpok := HP.out p (List.mem_of_getElem? hp)
      obtain ⟨bP, oP, rfl, -, -, -⟩ := H.out (by simp; omega)
      have c0 := (H.out.grown G.out (by simp)).cell1 (i := i) (v := p.cell) (by simp [hp])
      have HPI := Lib.hid hp
      have OK := Lib.hid hpok
      have hpl : p.evs.length ≤ 90000 := by
        have h1 := HT.out
        have h2 : ((ps.take (i + 1)).map (·.evs)).flatten.length ≤ _ := flat_mono
        rw [take_succ_map hp] at h2
        simp at h1 h2 ⊢
        omega
      clear hp hpok
      unfold Pl.cell at c0
      obtain ⟨pe, pa, pc⟩ := p
      simp only [] at c0 hpl
      have n3 : (0 : Int) ≤ (i : Int) := by omega
      have K : Hid (Calls Try.prog 37 #[.slice pa pe.length pc] wr (AscPost wr pe)) := Lib.hid (ascending_any pa pe pc wr (OK.out.1.grown G.out (by simp)) (by omega))
      go_wp2_with fail
      refine K.out.mono ?_
      rintro e w2 ⟨hg2, ⟨hasc, rfl⟩ | ⟨hasc, rfl⟩⟩
      · have HA := Lib.hid hasc
        have G2 : Hid (w.grownBy w2 none) := Lib.hid (only_trans G.out hg2)
        clear hasc hg2 K c0
        go_wp2_with fail
        go_roundw
        case rel =>
          refine ⟨i + 1, by go_num, by omega, ?_, G2.out⟩
          obtain ⟨q1, q2⟩ := List.getElem?_eq_some_iff.1 HPI.out
          rw [List.take_succ_eq_append_getElem q1, q2]
          exact mem_snoc AS.out HA.out
        case measure => simp [intOf]; omega
      · have HA := Lib.hid hasc
        have G2 : Hid (w.grownBy w2 none) := Lib.hid (only_trans G.out hg2)
        clear hasc hg2 K c0
        go_wp2_with fail
        go_ret2
        exact ⟨G2.out, .inr ⟨⟨pe, List.mem_map.2 ⟨_, List.mem_of_getElem? HPI.out, rfl⟩, HA.out⟩, rfl⟩⟩
    · have i1 : ¬ ((i : Int) < (ps.length : Int)) := by omega
      obtain rfl : i = ps.length := by omega
      have ASC : Hid (∀ l ∈ ps.map (·.evs), Asc l) := Lib.hid (by
        have := AS.out
        rw [List.take_length] at this
        intro l hl
        obtain ⟨p, hp, rfl⟩ := List.mem_map.1 hl
        exact this p hp)
      clear AS
      go_wp2_with fail
      obtain ⟨wo, rfl⟩ : ∃ wo : World, wo = wr := ⟨_, rfl⟩
      go_loopw [5, 6] (fun vo vi wr => ∃ (i : Nat) (A : Option Addr) (c : Nat) (out : List Ev), vi = .int .i64 i ∧ vo = .slice A out.length c ∧ i ≤ ps.length ∧ RM w wr ((ps.take i).map (·.evs)) A c out) (fun _ vi _ => ps.length - (intOf vi).toNat)
      case atStart => exact ⟨0, none, 0, [], rfl, rfl, Nat.zero_le _, ⟨by simpa using MInv.none.done, by simp, Nat.le_refl _, Nat.zero_le _, Rd.nil, G.out⟩⟩
      case round =>
        obtain ⟨i, A5, c5, out, rfl, rfl, hi, hR⟩ := hrel
        have R := Lib.hid hR
        clear hR
        by_cases hlt : i < ps.length
        · have i2 : (i : Int) < (ps.length : Int) := by omega
          obtain ⟨p, hp⟩ : ∃ p, ps[i]? = some p := ⟨_, List.getElem?_eq_getElem hlt⟩
          have hpok := HP.out p (List.mem_of_getElem? hp)
          obtain ⟨bP, oP, rfl, -, -, -⟩ := H.out (by simp; omega)
          have c0 := (H.out.grown R.out.2.2.2.2.2 (by simp)).cell1 (i := i) (v := p.cell) (by simp [hp])
          have HPI := Lib.hid hp
          have OK := Lib.hid hpok
          have hpl : ((ps.take i).map (·.evs)).flatten.length + p.evs.length ≤ 90000 := by
            have h1 := HT.out
            have h2 : ((ps.take (i + 1)).map (·.evs)).flatten.length ≤ _ := flat_mono
            rw [take_succ_map hp, List.flatten_append, List.length_append] at h2
            simp only [List.flatten_cons, List.flatten_nil, List.append_nil] at h2
            omega
          have hasc := ASC.out p.evs (List.mem_map.2 ⟨p, List.mem_of_getElem? hp, rfl⟩)
          clear hp hpok
          unfold Pl.cell at c0
          obtain ⟨pe, pa, pc⟩ := p
          simp only [] at c0 hpl hasc
          have hol := R.out.2.1
          have n3 : (0 : Int) ≤ (i : Int) := by omega
          have K : Hid (Calls Try.prog 38 #[.slice A5 out.length c5, .slice pa pe.length pc] wr (AddPost wr out pe)) := Lib.hid (radd_any (S := fun _ => True) A5 out c5 pa pe pc wr (R.out.2.2.2.2.1.mono fun _ _ _ => trivial) ((OK.out.1.grown R.out.2.2.2.2.2 (by simp)).mono fun _ _ _ => trivial) R.out.1.1.asc hasc (by omega))
          clear hasc
          go_wp2_with fail
          refine K.out.mono ?_
          rintro e w2 ⟨A6, c6, out6, rfl, h1, h2, h3, h4, h5, h6⟩
          have R6 : Hid (RM w w2 ((ps.take (i + 1)).map (·.evs)) A6 c6 out6) := Lib.hid (by
            obtain ⟨r1, r2, r3, r4, r5, r6⟩ := R.out
            refine ⟨?_, ?_, h3, h4, h5.mono (fun b hb _ => Nat.le_trans r6.size hb), only_trans r6 h6⟩
            · rw [take_succ_map HPI.out]
              simpa using merge_append r1 h1
            · rw [take_succ_map HPI.out, List.flatten_append, List.length_append]
              simp only [List.flatten_cons, List.flatten_nil, List.append_nil]
              omega)
          clear h1 h2 h3 h4 h5 h6 K c0
          go_wp2_with fail
          go_roundw
          case rel => exact ⟨i + 1, A6, c6, out6, by go_num, rfl, by omega, R6.out⟩
          case measure => simp [intOf]; omega
        · have i2 : ¬ ((i : Int) < (ps.length : Int)) := by omega
          have hii : i = ps.length := by omega
          have R2 : Hid (RM w wr (ps.map (·.evs)) A5 c5 out) := Lib.hid (by have := R.out; rw [hii, List.take_length] at this; exact this)
          clear R hii
          go_wp2_with fail
          go_ret2
          obtain ⟨r1, r2, r3, r4, r5, r6⟩ := R2.out
          exact ⟨r6, .inl ⟨ASC.out, A5, c5, out, rfl, r1, r2, r3, r4, r5⟩⟩
end Go.Proofs.Ytphglalphejppaa
