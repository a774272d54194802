/- The bytes of a segment are bytes. Plain. No condition. -/
import Derived.Test.YtpaiideboodaeaaGreatDoorJHdrL
namespace Go.Proofs.YtpaiideboodaeaaGreatDoor
open Go.RowKit
set_option linter.unusedVariables false
set_option linter.unusedSimpArgs false

def U8 (bs : List Int) : Prop := ∀ x ∈ bs, 0 ≤ x ∧ x ≤ 255
theorem U8.nil : U8 [] := fun x h => by cases h
theorem U8.app {a b : List Int} (h : U8 a) (k : U8 b) : U8 (a ++ b) := fun x hx => (List.mem_append.1 hx).elim (h x) (k x)
theorem U8.one {x : Int} (h : 0 ≤ x ∧ x ≤ 255) : U8 [x] := fun y hy => by rw [List.mem_singleton.1 hy]; exact h
theorem vint_U8 (n : Nat) : U8 (vint n) := by
  fun_induction vint n with
  | case1 n h => exact U8.one (by omega)
  | case2 n h ih =>
    intro x hx
    rcases List.mem_cons.1 hx with rfl | hx
    · omega
    · exact ih x hx
theorem bts_U8 (s : ByteArray) : U8 (bts s) := bts_inb s
theorem genTo_U8 {f : Nat → List Int} (h : ∀ k, U8 (f k)) : ∀ k, U8 (genTo f k)
  | 0 => U8.nil
  | k + 1 => (genTo_U8 h k).app (h k)
theorem runsB_U8 : ∀ (n : Nat) (l : List Int), l.length ≤ n → U8 (runsB l)
  | _, [], _ => by rw [runsB_nil]; exact U8.nil
  | 0, x :: l, h => by simp at h
  | n + 1, x :: l, h => by
    rw [runsB_cons]
    refine (vint_U8 _).app ((vint_U8 _).app (runsB_U8 n _ ?_))
    rw [List.length_drop]
    simp at h
    omega
theorem packB_U8 (vs : List Int) : U8 (packB vs) := by
  unfold packB
  split
  · exact U8.nil
  · refine (vint_U8 _).app ((U8.one ?_).app ?_)
    · have := pw_le vs; omega
    · intro x hx
      obtain ⟨n, hn, rfl⟩ := List.mem_map.1 hx
      obtain ⟨i, hi⟩ := List.mem_iff_getElem?.1 hn
      have h := Bt.all vs vs.length i
      rw [List.getD_eq_getElem?_getD, hi] at h
      simp only [Option.getD_some] at h
      omega
theorem bodyB_U8 (kind : Int) (vs : List Int) : U8 (bodyB kind vs) := by
  unfold bodyB
  split
  · exact genTo_U8 (fun k => by unfold plF; exact vint_U8 _) _
  · split
    · exact genTo_U8 (fun k => by unfold dlF; exact vint_U8 _) _
    · split
      · exact runsB_U8 _ vs (Nat.le_refl _)
      · exact packB_U8 vs
theorem colB_U8 {kind : Int} (h : 0 ≤ kind ∧ kind ≤ 255) (vs : List Int) : U8 (colB kind vs) := by
  unfold colB
  split
  · exact (U8.one h).app ((vint_U8 _).app (bodyB_U8 _ _))
  · exact U8.nil
theorem sh_U8 {a b : List Int} (h : U8 a) (k : U8 b) : U8 (sh a b) := by unfold sh; split; exact h; exact k
theorem colX_U8 (vs : List Int) : U8 (colX vs) := by
  unfold colX
  rw [best_step vs (by decide : 1 ≤ 3), best_step vs (by decide : 1 ≤ 2), best_step vs (by decide : 1 ≤ 1)]
  exact sh_U8 (colB_U8 (by decide) vs) (sh_U8 (colB_U8 (by decide) vs) (sh_U8 (colB_U8 (by decide) vs) (colB_U8 (by decide) vs)))
theorem wordB_U8 (ds : List ByteArray) (i : Nat) : U8 (wordB ds i) := by
  unfold wordB
  split
  · exact U8.nil
  · split
    · exact (vint_U8 _).app (bts_U8 _)
    · split
      · exact U8.nil
      · exact (vint_U8 _).app ((vint_U8 _).app (bts_U8 _))
theorem encTo_U8 (ds : List ByteArray) : ∀ k, U8 (encTo ds k)
  | 0 => vint_U8 _
  | k + 1 => (encTo_U8 ds k).app (wordB_U8 ds k)
theorem dicX_U8 (ds : List ByteArray) : U8 (dicX ds) := by
  unfold dicX encR
  split
  · exact encTo_U8 _ _
  · exact U8.nil
theorem blkP_U8 {b : List Int} (h : U8 b) : U8 (blkP b) := (vint_U8 _).app h
theorem idxX_U8 (ts : List ByteArray) : U8 (idxX ts) := (blkP_U8 (dicX_U8 _)).app (blkP_U8 (colX_U8 _))
theorem gapTo_U8 (ds : List Int) (q : Nat) : ∀ j, U8 (gapTo ds q j)
  | 0 => U8.nil
  | j + 1 => (gapTo_U8 ds q j).app (vint_U8 _)
theorem headP_U8 (ds : List Int) : ∀ m, U8 (headP ds m)
  | 0 => vint_U8 _
  | m + 1 => (headP_U8 ds m).app ((vint_U8 _).app (vint_U8 _))
theorem bodyP_U8 (ds : List Int) : ∀ m, U8 (bodyP ds m)
  | 0 => U8.nil
  | m + 1 => (bodyP_U8 ds m).app (gapTo_U8 _ _ _)
theorem postX_U8 (ds : List Int) : U8 (postX ds) := (headP_U8 ds _).app (bodyP_U8 ds _)
theorem txtL_U8 (L : List LineD) : U8 (txtL L) := fun x hx => by
  obtain ⟨l, -, hx⟩ := List.mem_flatMap.1 hx
  exact bts_U8 _ x hx
theorem linesX_U8 (es : List Ev) : U8 (linesX es) := ((((blkP_U8 (colX_U8 _)).app (blkP_U8 (colX_U8 _))).app (blkP_U8 (colX_U8 _))).app (blkP_U8 (colX_U8 _))).app (txtL_U8 _)
theorem fieldsTo_U8 (es : List Ev) (ns : List ByteArray) : ∀ k, U8 (fieldsTo es ns k)
  | 0 => blkP_U8 (dicX_U8 _)
  | k + 1 => (fieldsTo_U8 es ns k).app (by
    split
    · exact (blkP_U8 (postX_U8 _)).app (idxX_U8 _)
    · exact U8.nil)
theorem idxTo_U8 (es : List Ev) (ds : List ByteArray) : ∀ j, U8 (idxTo es ds j)
  | 0 => blkP_U8 (dicX_U8 _)
  | j + 1 => (idxTo_U8 es ds j).app (blkP_U8 (postX_U8 _))
theorem encF_U8 (n : Nat) (xs : List Int) : U8 (encF n xs) := by
  unfold encF
  refine U8.app (fun x hx => ?_) (fun x hx => ?_)
  · simp only [List.mem_cons, List.not_mem_nil, or_false] at hx
    rcases hx with rfl | rfl | rfl <;> omega
  · obtain ⟨y, -, hx⟩ := List.mem_flatMap.1 hx
    unfold byteL at hx
    obtain ⟨k, -, rfl⟩ := List.mem_map.1 hx
    omega
theorem secX_U8 (es : List Ev) (j : Nat) : U8 (secX es j) := by
  unfold secX
  split
  · exact colX_U8 _
  · split
    · exact idxX_U8 _
    · split
      · exact linesX_U8 es
      · split
        · exact fieldsTo_U8 _ _ _
        · split
          · exact idxTo_U8 _ _ _
          · exact encF_U8 _ _
theorem bodyTo_U8 (es : List Ev) : ∀ k, U8 (bodyTo es k)
  | 0 => U8.nil
  | k + 1 => (bodyTo_U8 es k).app (secX_U8 es _)
theorem encX_U8 (es : List Ev) : U8 (encX es) := (U8.app (headTo_in es 12) (beB_in 4 _)).app (bodyTo_U8 es 12)
end Go.Proofs.YtpaiideboodaeaaGreatDoor
