/- extract.Number. Condition: sizes. -/
import Derived.Test.YtfkgcighooijhaaGreatDoorNum
import Derived.Lib.ItoaLen
import Derived.Deep.DeepCutAuto
namespace Go.Proofs.YtfkgcighooijhaaGreatDoor
open Go.RowKit
set_option linter.unusedVariables false
set_option linter.unusedSimpArgs false

def numOf (e : Ev) (nm : ByteArray) : Option Int := (valOf e nm).bind parseN
def EvV (e : Ev) : Prop := EvI e ∧ e.trace.size ≤ 1000 ∧ e.stream.size ≤ 1000 ∧ ∀ f ∈ e.fields, f.value.size ≤ 1000
theorem getF_mem : ∀ {fs : List FieldD} {nm v : ByteArray}, getF fs nm = some v → ∃ f ∈ fs, f.value = v
  | [], _, _, h => by cases h
  | f :: fs, nm, v, h => by
    unfold getF at h
    split at h
    · injection h with h; exact ⟨f, List.mem_cons_self .., h⟩
    · obtain ⟨g, hg, e⟩ := getF_mem h; exact ⟨g, List.mem_cons_of_mem _ hg, e⟩
theorem itoaB_size {n : Int} (h : I64 n) : (itoaB n).size ≤ 1000 := by
  have := Lib.itoa_length_le n h.1 h.2
  show (Lib.itoa n).toArray.size ≤ 1000
  simp; omega
theorem valOf_size {e : Ev} {nm v : ByteArray} (h : EvV e) (hv : valOf e nm = some v) : v.size ≤ 1000 := by
  unfold valOf at hv
  split at hv
  · injection hv with hv; rw [← hv]; exact itoaB_size h.1.1
  split at hv
  · injection hv with hv; rw [← hv]; exact itoaB_size h.1.2.1
  split at hv
  · injection hv with hv; rw [← hv]; exact itoaB_size h.1.2.2.1
  split at hv
  · injection hv with hv; rw [← hv]; exact itoaB_size h.1.2.2.2.1
  split at hv
  · injection hv with hv; rw [← hv]; exact h.2.1
  split at hv
  · injection hv with hv; rw [← hv]; exact h.2.2.1
  · obtain ⟨f, hf, rfl⟩ := getF_mem hv; exact h.2.2.2 f hf
set_option maxHeartbeats 2000000 in
theorem num_any {S : Nat → Prop} (e : Ev) (nm : ByteArray) (w : World) (hs : e.Sub S w) (hi : EvV e) (hn : nm.size ≤ maxLen) (ht : Pow10 w) :
    Calls Tryz.prog 90 #[.agg e.cells.toArray, .string nm] w (NumP w (numOf e nm)) := by
  have HV : Hid (∀ w', w.grownBy w' none → Calls Tryz.prog 38 #[.agg e.cells.toArray, .string nm] w' (ValP w' (valOf e nm))) := fun w' hg => val_any e nm w' (hs.grown hg (by simp)) hi.1 hn (ht.grown hg)
  have HZ : Hid (∀ v, valOf e nm = some v → v.size ≤ 1000) := Lib.hid (fun v hv => valOf_size hi hv)
  have HQ : Hid (numOf e nm = (valOf e nm).bind parseN) := Lib.hid rfl
  obtain ⟨o, ho⟩ : ∃ o, o = valOf e nm := ⟨_, rfl⟩
  obtain ⟨q, hq⟩ : ∃ q, q = numOf e nm := ⟨_, rfl⟩
  rw [← ho] at HV HZ HQ
  rw [← hq] at HQ ⊢
  clear ho hq hs hi hn ht
  obtain ⟨host, file, beg, fin, lines, time, weight, trace, stream, fields, la, lc, fa, fc⟩ := e
  have hcl : (Ev.mk host file beg fin lines time weight trace stream fields la lc fa fc).cells.toArray = #[.int .i64 host, .int .i64 file, .int .i64 beg, .int .i64 fin, .slice la lines.length lc, .int .i64 time, .int .i64 weight, .string trace, .string stream, .slice fa fields.length fc] := rfl
  rw [hcl] at HV ⊢
  clear hcl
  go_enter Tryz.func90, Tryz.ntmps90
  go_wp2_with fail
  refine (HV.out _ (only_alloc (only_refl _ _) _)).mono ?_
  rintro e w1 ⟨rfl, hg1⟩
  have G1 : Hid (w.grownBy w1 none) := only_trans (only_alloc (only_refl _ _) _) hg1
  clear hg1
  cases o with
  | none =>
    have HQ2 : Hid (q = none) := Lib.hid (by rw [HQ.out]; rfl)
    simp only [valV]
    go_wp2_with fail
    rw [HQ2.out]
    exact bodyPost_ret (v := numV none) (by simp [results, Tryz.results90, go_sem, numV]) rfl ⟨rfl, G1.out⟩
  | some s =>
    have HQ2 : Hid (q = parseN s) := Lib.hid (by rw [HQ.out]; rfl)
    have HPS := Lib.hid (parse_any s w1 (by have := HZ.out s rfl; omega))
    simp only [valV]
    go_wp2_with fail
    refine HPS.out.mono ?_
    obtain ⟨p, hp⟩ : ∃ p, p = parseN s := ⟨_, rfl⟩
    rw [← hp] at HQ2 ⊢
    clear hp HPS
    rintro e w2 ⟨rfl, hg2⟩
    have G2 := Lib.hid (only_trans G1.out hg2)
    clear hg2
    cases p with
    | none =>
      simp only [numV]
      go_wp2_with fail
      rw [HQ2.out]
      exact bodyPost_ret (v := numV none) (by simp [results, Tryz.results90, go_sem, numV]) rfl ⟨rfl, G2.out⟩
    | some n =>
      simp only [numV]
      go_wp2_with fail
      rw [HQ2.out]
      exact bodyPost_ret (v := numV (some n)) (by simp [results, Tryz.results90, go_sem, numV]) rfl ⟨rfl, G2.out⟩
end Go.Proofs.YtfkgcighooijhaaGreatDoor
