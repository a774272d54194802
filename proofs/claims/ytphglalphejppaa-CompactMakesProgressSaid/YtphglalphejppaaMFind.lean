/- index and Find of the reference of chapter 30. No condition. -/
import Derived.Test.YtphglalphejppaaMani
namespace Go.Proofs.Ytphglalphejppaa
open Go.RowKit
set_option linter.unusedVariables false
set_option linter.unusedSimpArgs false

/-- the number of the first entry with an identifier, or -1 -/
def segI (ss : List SegD) (id : Int) : Int := if ss.findIdx (fun s => s.id == id) < ss.length then (ss.findIdx (fun s => s.id == id) : Int) else -1
theorem segI_at {ss : List SegD} {id : Int} {k : Nat} {s : SegD} (hs : ss[k]? = some s) (h : s.id = id) (hno : ∀ j t, j < k → ss[j]? = some t → t.id ≠ id) : segI ss id = k := by
  obtain ⟨hk, e⟩ := List.getElem?_eq_some_iff.1 hs
  have : ss.findIdx (fun s => s.id == id) = k := by
    rw [List.findIdx_eq hk]
    refine ⟨by rw [e]; simp [h], fun j hj => ?_⟩
    have := hno j ss[j] hj (List.getElem?_eq_getElem _)
    simpa using this
  unfold segI
  rw [this, if_pos hk]
theorem segI_no {ss : List SegD} {id : Int} (hno : ∀ j t, j < ss.length → ss[j]? = some t → t.id ≠ id) : segI ss id = -1 := by
  have : ss.findIdx (fun s => s.id == id) = ss.length := by
    rw [List.findIdx_eq_length]
    intro x hx
    obtain ⟨j, hj⟩ := List.getElem?_of_mem hx
    have := hno j x (List.getElem?_eq_some_iff.1 hj).1 hj
    simpa using this
  unfold segI
  rw [this, if_neg (by omega)]
/-- the entry with an identifier -/
def segF (ss : List SegD) (id : Int) : Option SegD := ss.find? (fun s => s.id == id)
theorem segI_find {ss : List SegD} {id : Int} : (segI ss id = -1 ∧ segF ss id = none) ∨ ∃ (k : Nat) (s : SegD), segI ss id = k ∧ ss[k]? = some s ∧ segF ss id = some s := by
  cases h : segF ss id with
  | none =>
    left
    refine ⟨segI_no fun j t hj ht => ?_, rfl⟩
    have := List.find?_eq_none.1 h t (List.mem_of_getElem? ht)
    simpa using this
  | some s =>
    right
    obtain ⟨hp, k, hk, e, hno⟩ := List.find?_eq_some_iff_getElem.1 h
    have hks : ss[k]? = some s := by rw [← e]; exact List.getElem?_eq_getElem hk
    refine ⟨k, s, segI_at hks (by simpa using hp) fun j t hj ht => ?_, hks, rfl⟩
    obtain ⟨hj2, e2⟩ := List.getElem?_eq_some_iff.1 ht
    have := hno j hj
    rw [e2] at this
    simpa using this
theorem Rd.flatAt {α : Type} {f : α → List Value} {z : Nat} (hf : ∀ x, (f x).length = z) {S : Nat → Prop} {w : World} {b off : Nat} {l : List α} (h : Rd S w (some ⟨b, off, none⟩) (l.flatMap f)) {i : Nat} {x : α} (hx : l[i]? = some x) (j : Nat) (hj : j < z) : w.cell? ⟨b, off + i * z + j, none⟩ = (f x)[j]? := by
  obtain ⟨hi, hxi⟩ := List.getElem?_eq_some_iff.1 hx
  rw [Nat.add_assoc]
  obtain ⟨b', off', e, _, _, hc⟩ := h (by rw [flat_len _ z hf]; exact Nat.mul_pos (by omega) (by omega))
  injection e with e
  injection e with e1 e2
  subst e1 e2
  have h1 := flat_at f z hf l i j hi hj
  rw [hxi] at h1
  have h2 : (f x)[j]? = some ((f x)[j]'(by rw [hf]; exact hj)) := List.getElem?_eq_getElem _
  rw [h2]
  exact hc _ _ (h1.trans h2)
set_option maxHeartbeats 1000000 in
theorem rindex_any {S : Nat → Prop} (A : Option Addr) (ss : List SegD) (c : Nat) (id : Int) (w : World) (h : Rd S w A (ss.flatMap SegD.cells)) (hl : ss.length ≤ 100000) :
    Calls Try.prog 48 #[.slice A ss.length c, .int .i64 id] w (fun e w' => e = .returned (.int .i64 (segI ss id)) ∧ w = w') := by
  have H := Lib.hid h
  clear h
  go_enter Try.func48, Try.ntmps48
  go_wp2
  go_loop [5] (fun i => ∃ k : Nat, k ≤ ss.length ∧ i = .int .i64 k ∧ ∀ j t, j < k → ss[j]? = some t → t.id ≠ id) (fun i => ss.length - (intOf i).toNat)
  case atStart => exact ⟨0, Nat.zero_le _, rfl, fun j t hj => by omega⟩
  case round =>
    obtain ⟨k, hk, rfl, hno⟩ := hrel
    have NO := Lib.hid hno
    clear hno
    by_cases hlt : k < ss.length
    · obtain ⟨b, o, rfl, -, -, -⟩ := H.out (by rw [flat_len _ 7 SegD.cells_len]; omega)
      obtain ⟨s, hs⟩ : ∃ s, ss[k]? = some s := ⟨_, List.getElem?_eq_getElem hlt⟩
      have c0 : w.cell? ⟨b, o + k * 7, none⟩ = some (.int .i64 s.id) := H.out.flatAt SegD.cells_len hs 0 (by omega)
      have HS := Lib.hid hs
      have i1 : (k : Int) < (ss.length : Int) := by omega
      have i2 : (0 : Int) ≤ (k : Int) := by omega
      clear hs
      by_cases he : s.id = id
      · have e1 : (s.id == id) = true := by simp [he]
        have HE := Lib.hid he
        clear he
        go_wp2
        go_ret
        exact ⟨ret_int (segI_at HS.out HE.out NO.out).symm, rfl⟩
      · have e1 : (s.id == id) = false := by simp [he]
        have HE := Lib.hid he
        clear he
        go_wp2
        go_round
        case rel =>
          refine ⟨k + 1, by omega, by go_num, fun j t hj ht => ?_⟩
          by_cases e : j = k
          · subst e
            rw [HS.out] at ht; injection ht with ht; rw [← ht]; exact HE.out
          · exact NO.out j t (by omega) ht
        case measure => simp [intOf]; omega
    · have i1 : ¬ ((k : Int) < (ss.length : Int)) := by omega
      have hkk : k = ss.length := by omega
      have HK := Lib.hid hkk
      clear hkk
      go_wp2
      go_ret
      exact ⟨ret_int (segI_no (fun j t hj => NO.out j t (by have := HK.out; omega))).symm, rfl⟩
/-- what Find gives -/
def FindPost (w : World) (ss : List SegD) (id : Int) (e : Ending) (w' : World) : Prop :=
  w.grownBy w' none ∧ ((segF ss id = none ∧ e = .returned (.tuple #[.agg #[.int .i64 0, .int .i64 0, .int .i64 0, .int .i64 0, .int .i64 0, .int .i64 0, .int .i64 0], .bool false])) ∨ ∃ s, segF ss id = some s ∧ e = .returned (.tuple #[.agg s.cells.toArray, .bool true]))
/-- a manifest as its seven cells -/
def maniRow (num nid jn : Int) (A : Option Addr) (n c : Nat) (B : Option Addr) (nb d : Nat) (C : Option Addr) (nc f : Nat) (E : Option Addr) (ne h : Nat) : Array Value :=
  #[.int .i64 num, .int .i64 nid, .int .i64 jn, .slice A n c, .slice B nb d, .slice C nc f, .slice E ne h]
set_option maxHeartbeats 2000000 in
set_option maxRecDepth 100000 in
theorem rfind_any {S : Nat → Prop} (num nid jn : Int) (A : Option Addr) (ss : List SegD) (c : Nat) (B : Option Addr) (nb d : Nat) (C : Option Addr) (nc f : Nat) (E : Option Addr) (ne h : Nat) (id : Int) (w : World) (hr : Rd S w A (ss.flatMap SegD.cells)) (hl : ss.length ≤ 100000) :
    Calls Try.prog 28 #[.agg #[.int .i64 num, .int .i64 nid, .int .i64 jn, .slice A ss.length c, .slice B nb d, .slice C nc f, .slice E ne h], .int .i64 id] w (FindPost w ss id) := by
  obtain ⟨W1, hW1⟩ : ∃ W1, W1 = (w.alloc (.cells #[.int .i64 num, .int .i64 nid, .int .i64 jn, .slice A ss.length c, .slice B nb d, .slice C nc f, .slice E ne h] 52)).alloc (.cells #[.int .i64 0, .int .i64 0, .int .i64 0, .int .i64 0, .int .i64 0, .int .i64 0, .int .i64 0] 29) := ⟨_, rfl⟩
  have G1 : Hid (w.grownBy W1 none) := Lib.hid (by rw [hW1]; exact only_alloc (only_alloc (only_refl _ _) _) _)
  have H1 := Lib.hid (hr.grown G1.out (by simp))
  have KI : Hid (Calls Try.prog 48 #[.slice A ss.length c, .int .i64 id] W1 (fun e w' => e = .returned (.int .i64 (segI ss id)) ∧ W1 = w')) := Lib.hid (rindex_any A ss c id W1 H1.out hl)
  obtain ⟨mb, hmb⟩ : ∃ b, b = w.heap.size := ⟨_, rfl⟩
  obtain ⟨rb, hrb⟩ : ∃ b, b = w.heap.size + 1 := ⟨_, rfl⟩
  have B1 : Hid (Blk W1 mb 52 #[.int .i64 num, .int .i64 nid, .int .i64 jn, .slice A ss.length c, .slice B nb d, .slice C nc f, .slice E ne h]) := Lib.hid (by rw [hW1, hmb]; exact (Blk.new w _ _).alloc _)
  have B2 : Hid (Blk W1 rb 29 #[.int .i64 0, .int .i64 0, .int .i64 0, .int .i64 0, .int .i64 0, .int .i64 0, .int .i64 0]) := Lib.hid (by rw [hW1, hrb]; have := Blk.new (w.alloc (.cells #[.int .i64 num, .int .i64 nid, .int .i64 jn, .slice A ss.length c, .slice B nb d, .slice C nc f, .slice E ne h] 52)) 29 #[.int .i64 0, .int .i64 0, .int .i64 0, .int .i64 0, .int .i64 0, .int .i64 0, .int .i64 0]; simpa using this)
  have HW := Lib.hid hW1.symm
  have HMB := Lib.hid hmb
  have HRB := Lib.hid hrb
  have hmr : mb ≠ rb := by omega
  clear hW1 hr hmb hrb
  have c3 := B1.out.cell 3
  simp at c3
  go_enter Try.func28, Try.ntmps28
  go_upto_region 1 with fail
  rw [HW.out, ← HRB.out, ← HMB.out]
  clear HW
  have q0 := B2.out.cell 0
  have q1 := B2.out.cell 1
  have q2 := B2.out.cell 2
  have q3 := B2.out.cell 3
  have q4 := B2.out.cell 4
  have q5 := B2.out.cell 5
  have q6 := B2.out.cell 6
  have p0 := B2.out.frozen 0
  have p1 := B2.out.frozen 1
  have p2 := B2.out.frozen 2
  have p3 := B2.out.frozen 3
  have p4 := B2.out.frozen 4
  have p5 := B2.out.frozen 5
  have p6 := B2.out.frozen 6
  simp at q0 q1 q2 q3 q4 q5 q6
  have hgs : ∀ (W : World), W1.grownBy W (some rb) → w.grownBy W none := fun W hW => only_fresh G1.out hW (by have := HRB.out; omega)
  have HGS := Lib.hid hgs
  clear hgs
  rcases segI_find (ss := ss) (id := id) with ⟨hI, hF⟩ | ⟨k, s, hI, hk, hF⟩
  · rw [hI] at KI
    have HF := Lib.hid hF
    clear hI hF
    go_wp2_with fail
    refine KI.out.mono ?_
    rintro e w2 ⟨rfl, rfl⟩
    go_wp2_with fail
    exact bodyPost_ret (v := .tuple #[.agg #[.int .i64 0, .int .i64 0, .int .i64 0, .int .i64 0, .int .i64 0, .int .i64 0, .int .i64 0], .bool false]) (by simp [results, Try.results28, go_sem, q0, q1, q2, q3, q4, q5, q6]) rfl ⟨HGS.out _ (only_setCell (only_setCell (only_setCell (only_setCell (only_setCell (only_setCell (only_setCell (only_refl W1 (some rb)) (p := ⟨rb, 0, none⟩) (.inl rfl) (.int .i64 0)) (p := ⟨rb, 1, none⟩) (.inl rfl) (.int .i64 0)) (p := ⟨rb, 2, none⟩) (.inl rfl) (.int .i64 0)) (p := ⟨rb, 3, none⟩) (.inl rfl) (.int .i64 0)) (p := ⟨rb, 4, none⟩) (.inl rfl) (.int .i64 0)) (p := ⟨rb, 5, none⟩) (.inl rfl) (.int .i64 0)) (p := ⟨rb, 6, none⟩) (.inl rfl) (.int .i64 0)), .inl ⟨HF.out, rfl⟩⟩
  · rw [hI] at KI
    have HF := Lib.hid hF
    obtain ⟨hkl, -⟩ := List.getElem?_eq_some_iff.1 hk
    obtain ⟨b, o, rfl, -, -, -⟩ := H1.out (by rw [flat_len _ 7 SegD.cells_len]; omega)
    have d0 : W1.cell? ⟨b, o + k * 7, none⟩ = some (.int .i64 s.id) := H1.out.flatAt SegD.cells_len hk 0 (by omega)
    have d1 : W1.cell? ⟨b, o + k * 7 + 1, none⟩ = some (.int .i64 s.level) := H1.out.flatAt SegD.cells_len hk 1 (by omega)
    have d2 : W1.cell? ⟨b, o + k * 7 + 2, none⟩ = some (.int .i64 s.tier) := H1.out.flatAt SegD.cells_len hk 2 (by omega)
    have d3 : W1.cell? ⟨b, o + k * 7 + 3, none⟩ = some (.int .i64 s.count) := H1.out.flatAt SegD.cells_len hk 3 (by omega)
    have d4 : W1.cell? ⟨b, o + k * 7 + 4, none⟩ = some (.int .i64 s.min) := H1.out.flatAt SegD.cells_len hk 4 (by omega)
    have d5 : W1.cell? ⟨b, o + k * 7 + 5, none⟩ = some (.int .i64 s.max) := H1.out.flatAt SegD.cells_len hk 5 (by omega)
    have d6 : W1.cell? ⟨b, o + k * 7 + 6, none⟩ = some (.int .i64 s.size) := H1.out.flatAt SegD.cells_len hk 6 (by omega)
    have i1 : (k : Int) < (ss.length : Int) := by omega
    have i2 : (0 : Int) ≤ (k : Int) := by omega
    clear hI hF hk
    go_wp2_with fail
    refine KI.out.mono ?_
    rintro e w2 ⟨rfl, rfl⟩
    go_wp2_with fail
    exact bodyPost_ret (v := .tuple #[.agg #[.int .i64 s.id, .int .i64 s.level, .int .i64 s.tier, .int .i64 s.count, .int .i64 s.min, .int .i64 s.max, .int .i64 s.size], .bool true]) (by simp [results, Try.results28, go_sem, q0, q1, q2, q3, q4, q5, q6]) rfl ⟨HGS.out _ (only_setCell (only_setCell (only_setCell (only_setCell (only_setCell (only_setCell (only_setCell (only_refl W1 (some rb)) (p := ⟨rb, 0, none⟩) (.inl rfl) (.int .i64 s.id)) (p := ⟨rb, 1, none⟩) (.inl rfl) (.int .i64 s.level)) (p := ⟨rb, 2, none⟩) (.inl rfl) (.int .i64 s.tier)) (p := ⟨rb, 3, none⟩) (.inl rfl) (.int .i64 s.count)) (p := ⟨rb, 4, none⟩) (.inl rfl) (.int .i64 s.min)) (p := ⟨rb, 5, none⟩) (.inl rfl) (.int .i64 s.max)) (p := ⟨rb, 6, none⟩) (.inl rfl) (.int .i64 s.size)), .inr ⟨s, HF.out, rfl⟩⟩
end Go.Proofs.Ytphglalphejppaa
