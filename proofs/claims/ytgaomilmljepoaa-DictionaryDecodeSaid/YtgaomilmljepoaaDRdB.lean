/- The reader of dictionaries: text. Condition: sizes. -/
import Derived.Test.YtgaomilmljepoaaDRdA
import Derived.Lib.SlBytesRow
import Derived.Shelf.Bytes.SlEqualAll
namespace Go.Proofs.Ytgaomilmljepoaa
open Go.RowKit
set_option linter.unusedVariables false
set_option linter.unusedSimpArgs false

theorem Rd.bytesIn {S : Nat → Prop} {w : World} {A : Option Addr} {a : List Int} (h : Rd S w A (a.map (.int .u8))) : Lib.BytesIn w A a.length a := by
  intro hn
  obtain ⟨b, off, rfl, -, -, hc⟩ := h (by simpa using hn)
  exact ⟨b, off, rfl, fun i hi => hc i _ (by simp [hi])⟩
/-- a string with its length in front, as the reader takes it -/
def rdT (bs : List Int) (bad : Bool) : ByteArray × List Int × Bool :=
  if (rdO 2048 bs bad).2.1.length < (rdO 2048 bs bad).1 then (⟨#[]⟩, (rdO 2048 bs bad).2.1, true)
  else (strOfNums ((rdO 2048 bs bad).2.1.take (rdO 2048 bs bad).1), (rdO 2048 bs bad).2.1.drop (rdO 2048 bs bad).1, (rdO 2048 bs bad).2.2)
def TxPost (w : World) (g : Nat) (r : ByteArray × List Int × Bool) (e : Ending) (w' : World) : Prop :=
  e = .returned (.string r.1) ∧ RdrAt w' g r.2.1 r.2.2 ∧ w.grownBy w' (some g)
theorem strOfNums_size (l : List Int) : (strOfNums l).size = l.length := by
  have h : (strOfNums l).toList.length = l.length := by rw [Lib.strOfNums_toList]; simp [Lib.bytesOf]
  rw [ByteArray.toList_eq] at h
  simpa using h
theorem rdT_le (bs : List Int) (bad : Bool) : (rdT bs bad).1.size ≤ 2048 ∧ (rdT bs bad).2.1.length ≤ bs.length := by
  have h := rdO_le 2048 bs bad
  unfold rdT
  split
  · exact ⟨Nat.zero_le _, h.2⟩
  · refine ⟨?_, ?_⟩
    · simp only [strOfNums_size, List.length_take]; omega
    · simp only [List.length_drop]; omega

set_option maxHeartbeats 1000000 in
set_option maxRecDepth 100000 in
theorem text_any (g : Nat) (bs : List Int) (bad : Bool) (w : World) (h : RdrAt w g bs bad) :
    Calls Try.prog 59 #[.pointer (some ⟨g, 0, none⟩)] w (TxPost w g (rdT bs bad)) := by
  have HN := Lib.hid (number_any g 2048 bs bad w h (by omega))
  obtain ⟨r, hr⟩ : ∃ r, r = rdO 2048 bs bad := ⟨_, rfl⟩
  have HT : Hid (rdT bs bad = if r.2.1.length < r.1 then (⟨#[]⟩, r.2.1, true) else (strOfNums (r.2.1.take r.1), r.2.1.drop r.1, r.2.2)) := Lib.hid (by rw [hr]; rfl)
  have hle := rdO_le 2048 bs bad
  rw [← hr] at HN hle
  clear hr h
  obtain ⟨n, cs, bd⟩ := r
  simp only at HT hle
  go_enter Try.func59, Try.ntmps59
  go_wp2_with fail
  refine HN.out.mono ?_
  rintro e w1 ⟨rfl, hR, hg1⟩
  replace hR : RdrAt w1 g cs bd := hR
  have H := Lib.hid hR
  have G1 := Lib.hid hg1
  obtain ⟨A, c, hb, hrd, hc, hcm, hl, hx⟩ := hR
  have c0 := hb.cell 0
  have c1 := hb.cell 1
  have f0 := hb.frozen 0
  have f1 := hb.frozen 1
  simp at c0 c1
  have HR := Lib.hid hrd
  have HB := Lib.hid hb
  have HX := Lib.hid hx
  clear hb hrd hx hg1
  unfold maxLen at hcm
  by_cases hn : cs.length < n
  · have HF : Hid (rdT bs bad = (⟨#[]⟩, cs, true)) := Lib.hid (by rw [HT.out, if_pos hn])
    have q : (cs.length : Int) < (n : Int) := by omega
    go_wp2_with fail
    go_ret
    rw [HF.out]
    exact ⟨rfl, H.out.setBad true, only_trans G1.out (only_cell _)⟩
  · have HF : Hid (rdT bs bad = (strOfNums (cs.take n), cs.drop n, bd)) := Lib.hid (by rw [HT.out, if_neg hn])
    have q : ¬ ((cs.length : Int) < (n : Int)) := by omega
    have hcv := Lib.BytesIn.convert (P := Try.prog) (xs := cs.take n) (Rd.bytesIn (S := (· < g)) (by rw [List.map_take]; exact HR.out.take n)) rfl c 22 5 9 Try.underlying22 Try.underlying5 Try.underlying9
    rw [show (cs.take n).length = n by simp; omega] at hcv
    have HXD : Hid (∀ y ∈ cs.drop n, 0 ≤ y ∧ y ≤ 255) := Lib.hid (fun y hy => HX.out y (List.mem_of_mem_drop hy))
    clear hn
    by_cases hn0 : n = 0
    · subst hn0
      go_wp2_with fail
      go_ret
      rw [HF.out]
      have hS := RdrAt.setB (A := A) (c := c) (bs := cs) HB.out HR.out hc (by unfold maxLen; omega) (by omega) HX.out
      exact ⟨rfl, by simpa using hS, only_trans G1.out (only_cell _)⟩
    · obtain ⟨b, off, rfl, -, -, -⟩ := HR.out (by simp; omega)
      have hnI : (0 : Int) < (n : Int) := by omega
      by_cases hcap : c = n
      · subst hcap
        have h0 : cs.drop c = [] := List.drop_eq_nil_of_le (by omega)
        have H0 := Lib.hid h0
        clear h0
        go_wp2_with fail
        go_ret
        rw [HF.out]
        have hS := RdrAt.setB (A := some ⟨b, off, none⟩) (c := 0) (bs := []) HB.out Rd.nil (by simp) (by unfold maxLen; omega) (by simp) (by simp)
        exact ⟨rfl, by simp only [H0.out]; simpa [show cs.length - c = 0 by omega] using hS, only_trans G1.out (only_cell _)⟩
      · have hkI : (n : Int) ≤ (c : Int) := by omega
        go_wp2_with fail
        go_ret
        rw [HF.out]
        have hd := HR.out.drop n
        have hS := RdrAt.setB (A := some ⟨b, off + n, none⟩) (c := c - n) (bs := cs.drop n) HB.out (by rw [List.map_drop]; simpa [Addr.add, hn0] using hd) (by simp; omega) (by unfold maxLen; omega) (by simp; omega) HXD.out
        rw [List.length_drop] at hS
        exact ⟨rfl, hS, only_trans G1.out (only_cell _)⟩
end Go.Proofs.Ytgaomilmljepoaa
