/- of of the reference of chapter 31. No condition. -/
import Derived.Test.YtphglalphejppaaMLev
namespace Go.Proofs.Ytphglalphejppaa
open Go.RowKit
set_option linter.unusedVariables false
set_option linter.unusedSimpArgs false

theorem intInfoM : (Try.prog.info? 3).map (fun i => (i.zero, i.size, i.bytes)) = some (some (.int .i64 0), 1, 8) := by kernel_rfl
def isLT (lv tr : Int) (s : SegD) : Bool := s.level == lv && s.tier == tr
/-- the identifiers of a level and a tier -/
def ofL (ss : List SegD) (lv tr : Int) : List Int := (ss.filter (isLT lv tr)).map (·.id)
theorem ofL_snoc (ss : List SegD) (lv tr : Int) (s : SegD) : ofL (ss ++ [s]) lv tr = ofL ss lv tr ++ if isLT lv tr s = true then [s.id] else [] := by
  unfold ofL
  rw [List.filter_append, List.map_append]
  congr 1
  by_cases h : isLT lv tr s = true
  · simp [List.filter_cons, h]
  · simp [List.filter_cons, h]
theorem ofL_len (ss : List SegD) (lv tr : Int) : (ofL ss lv tr).length ≤ ss.length := by unfold ofL; rw [List.length_map]; exact List.length_filter_le _ _
def OfPost (w : World) (l : List Int) (e : Ending) (w' : World) : Prop :=
  ∃ (A : Option Addr) (c : Nat), e = .returned (.slice A l.length c) ∧ l.length ≤ c ∧ c ≤ maxLen ∧ Rd (w.heap.size ≤ ·) w' A (l.map (.int .i64)) ∧ w.grownBy w' none
set_option maxHeartbeats 4000000 in
set_option maxRecDepth 100000 in
theorem of_any {S : Nat → Prop} (num nid jn : Int) (A : Option Addr) (ss : List SegD) (c : Nat) (B : Option Addr) (nb d : Nat) (C : Option Addr) (nc f : Nat) (E : Option Addr) (ne h : Nat) (lv tr : Int) (w : World) (hr : Rd S w A (ss.flatMap SegD.cells)) (hl : ss.length ≤ 100000) :
    Calls Try.prog 45 #[.agg #[.int .i64 num, .int .i64 nid, .int .i64 jn, .slice A ss.length c, .slice B nb d, .slice C nc f, .slice E ne h], .int .i64 lv, .int .i64 tr] w (OfPost w (ofL ss lv tr)) := by
  obtain ⟨W1, hW1⟩ : ∃ W1, W1 = w.alloc (.cells #[.int .i64 num, .int .i64 nid, .int .i64 jn, .slice A ss.length c, .slice B nb d, .slice C nc f, .slice E ne h] 52) := ⟨_, rfl⟩
  have G1 : Hid (w.grownBy W1 none) := Lib.hid (by rw [hW1]; exact only_alloc (only_refl _ _) _)
  obtain ⟨mb, hmb⟩ : ∃ b, b = w.heap.size := ⟨_, rfl⟩
  have B1 : Hid (Blk W1 mb 52 #[.int .i64 num, .int .i64 nid, .int .i64 jn, .slice A ss.length c, .slice B nb d, .slice C nc f, .slice E ne h]) := Lib.hid (by rw [hW1, hmb]; exact Blk.new w _ _)
  have HR := Lib.hid (hr.grown G1.out (by simp))
  have HW := Lib.hid hW1.symm
  have HMB := Lib.hid hmb
  have hsz1 := G1.out.size
  clear hW1 hmb hr
  go_enter Try.func45, Try.ntmps45
  go_upto_region 1 with fail
  rw [HW.out, ← HMB.out]
  clear HW
  go_wp2_with fail
  go_loopw [7, 8] (fun vo vi wr => ∃ k : Nat, vi = .int .i64 k ∧ k ≤ ss.length ∧ wr.ownsRow W1.heap.size 3 1 vo (ofL (ss.take k) lv tr).length ((ofL (ss.take k) lv tr).map (.int .i64)) ∧ W1.grownBy wr none) (fun _ vi _ => ss.length - (intOf vi).toNat)
  case atStart => exact ⟨0, rfl, Nat.zero_le _, World.ownsRow_nil _ _ _ _, only_refl _ _⟩
  case round =>
    obtain ⟨k, rfl, hk, hO, hG⟩ := hrel
    have G := Lib.hid hG
    have O := Lib.hid hO
    have hol : (ofL (ss.take k) lv tr).length ≤ 100000 := by
      have h1 := ofL_len (ss.take k) lv tr
      have h2 := List.length_take_le k ss
      omega
    have hszr := hG.size
    have hB := B1.out.grown hG (by simp)
    have c3 := hB.cell 3
    simp at c3
    obtain ⟨Ao, co, rfl, hoc, hom, -, hro⟩ := Rd.of_own hO (by decide)
    have RO := Lib.hid hro
    clear hG hO hB hro
    by_cases hkl : k < ss.length
    · obtain ⟨b, o, rfl, -, -, -⟩ := HR.out (by rw [flat_len _ 7 SegD.cells_len]; omega)
      obtain ⟨s, hs⟩ : ∃ s, ss[k]? = some s := ⟨_, List.getElem?_eq_getElem hkl⟩
      have hr := HR.out.grown G.out (by simp)
      have d0 : wr.cell? ⟨b, o + k * 7, none⟩ = some (.int .i64 s.id) := hr.flatAt SegD.cells_len hs 0 (by omega)
      have d1 : wr.cell? ⟨b, o + k * 7 + 1, none⟩ = some (.int .i64 s.level) := hr.flatAt SegD.cells_len hs 1 (by omega)
      have d2 : wr.cell? ⟨b, o + k * 7 + 2, none⟩ = some (.int .i64 s.tier) := hr.flatAt SegD.cells_len hs 2 (by omega)
      have i1 : (k : Int) < (ss.length : Int) := by omega
      have i2 : (0 : Int) ≤ (k : Int) := by omega
      have HT : Hid (ss.take (k + 1) = ss.take k ++ [s]) := Lib.hid (by
        obtain ⟨q1, q2⟩ := List.getElem?_eq_some_iff.1 hs
        rw [List.take_succ_eq_append_getElem q1, q2])
      clear hr hs
      by_cases h1 : s.level = lv
      · have e1 : (s.level == lv) = true := by simp [h1]
        by_cases h2 : s.tier = tr
        · have e2 : (s.tier == tr) = true := by simp [h2]
          have HN : Hid (ofL (ss.take (k + 1)) lv tr = ofL (ss.take k) lv tr ++ [s.id]) := Lib.hid (by rw [HT.out, ofL_snoc, if_pos (by unfold isLT; rw [e1, e2]; rfl)])
          clear h1 h2
          go_wp2_with (at_builtin; refine wpList_append1 rfl _ _ 45 rfl W1.heap.size Try.underlying45 intInfoM rfl (by decide) (v := .slice Ao (ofL (ss.take k) lv tr).length co) (by rfl) (w0 := wr) (cs := #[.int .i64 s.id]) O.out (by rfl) rfl (by simp [Value.oneCell']) (by decide) (by omega) (by omega) ?_; intro v7 w7 hown7 hg7 hob7)
          have O7 : Hid (w7.ownsRow W1.heap.size 3 1 v7 (ofL (ss.take (k + 1)) lv tr).length ((ofL (ss.take (k + 1)) lv tr).map (.int .i64))) := Lib.hid (by rw [HN.out]; simpa using hown7)
          have G7 : Hid (W1.grownBy w7 none) := Lib.hid (only_own G.out hg7 O.out (Nat.le_refl _))
          clear hown7 hg7 hob7
          go_wp2_with fail
          go_roundw
          case rel => exact ⟨k + 1, by go_num, by omega, O7.out, G7.out⟩
          case measure => simp [intOf]; omega
        · have e2 : (s.tier == tr) = false := by simp [h2]
          have HN : Hid (ofL (ss.take (k + 1)) lv tr = ofL (ss.take k) lv tr) := Lib.hid (by rw [HT.out, ofL_snoc, if_neg (by unfold isLT; rw [e1, e2]; simp)]; simp)
          clear h1 h2
          go_wp2_with fail
          go_roundw
          case rel => exact ⟨k + 1, by go_num, by omega, by rw [HN.out]; exact O.out, G.out⟩
          case measure => simp [intOf]; omega
      · have e1 : (s.level == lv) = false := by simp [h1]
        have HN : Hid (ofL (ss.take (k + 1)) lv tr = ofL (ss.take k) lv tr) := Lib.hid (by rw [HT.out, ofL_snoc, if_neg (by unfold isLT; rw [e1]; simp)]; simp)
        clear h1
        go_wp2_with fail
        go_roundw
        case rel => exact ⟨k + 1, by go_num, by omega, by rw [HN.out]; exact O.out, G.out⟩
        case measure => simp [intOf]; omega
    · have i1 : ¬ ((k : Int) < (ss.length : Int)) := by omega
      have HT : Hid (ofL (ss.take k) lv tr = ofL ss lv tr) := Lib.hid (by rw [List.take_of_length_le (by omega)])
      go_wp2_with fail
      go_ret
      refine ⟨Ao, co, by rw [← HT.out]; rfl, by rw [← HT.out]; exact hoc, hom, by rw [← HT.out]; exact RO.out.mono (fun b hb _ => Nat.le_trans hsz1 hb), only_trans G1.out G.out⟩
end Go.Proofs.Ytphglalphejppaa
