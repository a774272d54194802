/- add of the reference of chapter 31. No condition. -/
import Derived.Test.YtphglalphejppaaQMerge
namespace Go.Proofs.Ytphglalphejppaa
open Go.RowKit
set_option linter.unusedVariables false
set_option linter.unusedSimpArgs false

def srcOf (l : List Ev) (i : Int) : List Src := match l with
  | [] => []
  | l => [⟨l, none, 0, i⟩]
/-- two lists, of which i and k events have been taken -/
def two (a b : List Ev) (i k : Nat) : List Src := srcOf (a.drop i) 0 ++ srcOf (b.drop k) 1
theorem srcOf_cons (x : Ev) (l : List Ev) (i : Int) : srcOf (x :: l) i = [⟨x :: l, none, 0, i⟩] := rfl
theorem srcOf_mem {l : List Ev} {i : Int} {s : Src} (h : s ∈ srcOf l i) : s.rest = l ∧ s.idx = i ∧ l ≠ [] := by
  cases l with
  | nil => simp [srcOf] at h
  | cons x l => rw [srcOf_cons] at h; rw [List.mem_singleton.1 h]; simp
theorem srcOf_next (l : List Ev) (s0 : Src) : (l = [] ∧ srcOf l s0.idx = []) ∨ (l ≠ [] ∧ ∃ s1 : Src, srcOf l s0.idx = [s1] ∧ s1.rest = l ∧ s1.idx = s0.idx) := by
  cases l with
  | nil => exact .inl ⟨rfl, rfl⟩
  | cons x l => exact .inr ⟨by simp, _, rfl, rfl, rfl⟩
theorem two_start (a b : List Ev) : MInv [a, b] (two a b 0 0) [] where
  dist := by
    unfold two
    refine List.pairwise_append.2 ⟨?_, ?_, fun s hs t ht => ?_⟩
    · cases a <;> simp [srcOf]
    · cases b <;> simp [srcOf]
    · rw [(srcOf_mem hs).2.1, (srcOf_mem ht).2.1]; decide
  full := fun s hs => by
    rcases List.mem_append.1 hs with hs | hs
    · obtain ⟨h1, _, h2⟩ := srcOf_mem hs; rw [h1]; exact h2
    · obtain ⟨h1, _, h2⟩ := srcOf_mem hs; rw [h1]; exact h2
  src := fun s hs => by
    rcases List.mem_append.1 hs with hs | hs
    · obtain ⟨h1, h2, _⟩ := srcOf_mem hs; exact ⟨0, [], h2, by rw [h1]; rfl, by simp⟩
    · obtain ⟨h1, h2, _⟩ := srcOf_mem hs; exact ⟨1, [], h2, by rw [h1]; rfl, by simp⟩
  has := fun i l hl => by
    match i with
    | 0 =>
      simp at hl; subst hl
      cases a with
      | nil => exact .inr (by simp)
      | cons x l => exact .inl ⟨⟨x :: l, none, 0, 0⟩, by simp [two, srcOf], rfl⟩
    | 1 =>
      simp at hl; subst hl
      cases b with
      | nil => exact .inr (by simp)
      | cons x l => exact .inl ⟨⟨x :: l, none, 0, 1⟩, by simp [two, srcOf], rfl⟩
    | i + 2 => simp at hl
  srt := List.Pairwise.nil
  pick := by simp
  le := by simp
theorem drop_at {l : List Ev} {i : Nat} {x : Ev} (hx : l[i]? = some x) : l.drop i = x :: l.drop (i + 1) := by
  obtain ⟨h1, h2⟩ := List.getElem?_eq_some_iff.1 hx
  rw [List.drop_eq_getElem_cons h1, h2]
theorem two_a {a b out : List Ev} {i k : Nat} {x : Ev} (h : MInv [a, b] (two a b i k) out) (ha : Asc a) (hb : Asc b) (hx : a[i]? = some x) (hc : ∀ y, b[k]? = some y → y.less x = false) : MInv [a, b] (two a b (i + 1) k) (addO out x) := by
  unfold two at h ⊢
  rw [drop_at hx, srcOf_cons] at h
  refine MInv.step (s0 := ⟨x :: a.drop (i + 1), none, 0, 0⟩) h (by simp [ha, hb]) (fun s hs => ?_) rfl _ (srcOf_next _ ⟨x :: a.drop (i + 1), none, 0, 0⟩)
  obtain ⟨h1, h2, h3⟩ := srcOf_mem hs
  obtain ⟨y, l, e⟩ := List.exists_cons_of_ne_nil h3
  have hy : b[k]? = some y := by have : (b.drop k)[0]? = some y := by rw [e]; rfl
                                 simpa using this
  rw [qlt_cons (h1.trans e) rfl, hc y hy, h2]
  simp
theorem two_b {a b out : List Ev} {i k : Nat} {x : Ev} (h : MInv [a, b] (two a b i k) out) (ha : Asc a) (hb : Asc b) (hx : b[k]? = some x) (hc : ∀ y, a[i]? = some y → x.less y = true) : MInv [a, b] (two a b i (k + 1)) (addO out x) := by
  unfold two at h ⊢
  rw [drop_at hx, srcOf_cons] at h
  have h' := h.perm (List.perm_append_comm (l₁ := [⟨x :: b.drop (k + 1), none, 0, 1⟩]) (l₂ := srcOf (a.drop i) 0))
  refine (MInv.step (s0 := ⟨x :: b.drop (k + 1), none, 0, 1⟩) h' (by simp [ha, hb]) (fun s hs => ?_) rfl _ (srcOf_next _ ⟨x :: b.drop (k + 1), none, 0, 1⟩)).perm List.perm_append_comm
  obtain ⟨h1, h2, h3⟩ := srcOf_mem hs
  obtain ⟨y, l, e⟩ := List.exists_cons_of_ne_nil h3
  have hy : a[i]? = some y := by have : (a.drop i)[0]? = some y := by rw [e]; rfl
                                 simpa using this
  rw [qlt_cons (h1.trans e) rfl, hc y hy, less_asymm (hc y hy)]
  simp
theorem two_end {a b out : List Ev} {i k : Nat} (h : MInv [a, b] (two a b i k) out) (hi : a.length ≤ i) (hk : b.length ≤ k) : IsMerge (a ++ b) out := by
  unfold two at h
  rw [List.drop_of_length_le hi, List.drop_of_length_le hk] at h
  have := MInv.done (lists := [a, b]) h
  simpa using this
/-- an event stored in a box -/
def setEv (w : World) (g : Nat) (x : Ev) : World := ((((((((((w.setCell ⟨g, 0, none⟩ (.int .i64 x.host)).setCell ⟨g, 1, none⟩ (.int .i64 x.file)).setCell ⟨g, 2, none⟩ (.int .i64 x.beg)).setCell ⟨g, 3, none⟩ (.int .i64 x.fin)).setCell ⟨g, 4, none⟩ (.slice x.la x.lines.length x.lc)).setCell ⟨g, 5, none⟩ (.int .i64 x.time)).setCell ⟨g, 6, none⟩ (.int .i64 x.weight)).setCell ⟨g, 7, none⟩ (.string x.trace)).setCell ⟨g, 8, none⟩ (.string x.stream)).setCell ⟨g, 9, none⟩ (.slice x.fa x.fields.length x.fc))
theorem setEv_blk {w : World} {g t : Nat} {cs : Array Value} (x : Ev) (h : Blk w g t cs) (hs : cs.size = 10) : Blk (setEv w g x) g t x.cells.toArray ∧ w.grownBy (setEv w g x) (some g) := by
  obtain ⟨l, rfl⟩ : ∃ l : List Value, cs = l.toArray := ⟨cs.toList, by simp⟩
  have hl : l.length = 10 := by simpa using hs
  obtain ⟨v0, v1, v2, v3, v4, v5, v6, v7, v8, v9, rfl⟩ : ∃ v0 v1 v2 v3 v4 v5 v6 v7 v8 v9, l = [v0, v1, v2, v3, v4, v5, v6, v7, v8, v9] := by
    match l, hl with
    | [v0, v1, v2, v3, v4, v5, v6, v7, v8, v9], _ => exact ⟨_, _, _, _, _, _, _, _, _, _, rfl⟩
  refine ⟨?_, ?_⟩
  · have := ((((((((((h.set_ 0 (.int .i64 x.host)).set_ 1 (.int .i64 x.file)).set_ 2 (.int .i64 x.beg)).set_ 3 (.int .i64 x.fin)).set_ 4 (.slice x.la x.lines.length x.lc)).set_ 5 (.int .i64 x.time)).set_ 6 (.int .i64 x.weight)).set_ 7 (.string x.trace)).set_ 8 (.string x.stream)).set_ 9 (.slice x.fa x.fields.length x.fc))
    unfold setEv
    simpa [Ev.cells] using this
  · have g0 : w.grownBy _ (some g) := only_setCell (only_refl w (some g)) (p := ⟨g, 0, none⟩) (.inl rfl) (.int .i64 x.host)
    have g1 : w.grownBy _ (some g) := only_setCell g0 (p := ⟨g, 1, none⟩) (.inl rfl) (.int .i64 x.file)
    have g2 : w.grownBy _ (some g) := only_setCell g1 (p := ⟨g, 2, none⟩) (.inl rfl) (.int .i64 x.beg)
    have g3 : w.grownBy _ (some g) := only_setCell g2 (p := ⟨g, 3, none⟩) (.inl rfl) (.int .i64 x.fin)
    have g4 : w.grownBy _ (some g) := only_setCell g3 (p := ⟨g, 4, none⟩) (.inl rfl) (.slice x.la x.lines.length x.lc)
    have g5 : w.grownBy _ (some g) := only_setCell g4 (p := ⟨g, 5, none⟩) (.inl rfl) (.int .i64 x.time)
    have g6 : w.grownBy _ (some g) := only_setCell g5 (p := ⟨g, 6, none⟩) (.inl rfl) (.int .i64 x.weight)
    have g7 : w.grownBy _ (some g) := only_setCell g6 (p := ⟨g, 7, none⟩) (.inl rfl) (.string x.trace)
    have g8 : w.grownBy _ (some g) := only_setCell g7 (p := ⟨g, 8, none⟩) (.inl rfl) (.string x.stream)
    have g9 : w.grownBy _ (some g) := only_setCell g8 (p := ⟨g, 9, none⟩) (.inl rfl) (.slice x.fa x.fields.length x.fc)
    exact g9
def AddPost (w : World) (a b : List Ev) (e : Ending) (w' : World) : Prop :=
  ∃ (A : Option Addr) (c : Nat) (out : List Ev), e = .returned (.slice A out.length c) ∧ IsMerge (a ++ b) out ∧ out.length ≤ a.length + b.length ∧ out.length ≤ c ∧ c ≤ maxLen ∧ Rd (w.heap.size ≤ ·) w' A (out.flatMap Ev.cells) ∧ w.grownBy w' none
/-- is the next one of the first list? -/
def pickA (a b : List Ev) (i k : Nat) : Bool := match a[i]?, b[k]? with
  | some x, some y => !y.less x
  | _, none => true
  | none, _ => false
theorem pickA_no {a b : List Ev} {i k : Nat} (h : b.length ≤ k) : pickA a b i k = true := by
  unfold pickA; rw [List.getElem?_eq_none h]; cases a[i]? <;> rfl
theorem pickA_end {a b : List Ev} {i k : Nat} (h : a.length ≤ i) (h2 : k < b.length) : pickA a b i k = false := by
  unfold pickA; rw [List.getElem?_eq_none h, List.getElem?_eq_getElem h2]
theorem pickA_both {a b : List Ev} {i k : Nat} {x y : Ev} (h : a[i]? = some x) (h2 : b[k]? = some y) : pickA a b i k = !y.less x := by
  unfold pickA; rw [h, h2]
/-- the row of what is out -/
def OW (w wr : World) (vo : Value) (out : List Ev) : Prop := wr.ownsRow w.heap.size 34 10 vo out.length (out.flatMap Ev.cells) ∧ w.grownBy wr none
theorem OW.grown {w wr w2 : World} {vo : Value} {out : List Ev} (h : OW w wr vo out) (hg : wr.grownBy w2 none) : OW w w2 vo out := ⟨own_ext h.1 hg, only_trans h.2 hg⟩
theorem OW.snoc {w wr w7 : World} {vo v7 : Value} {out : List Ev} {e : Ev} (h : OW w wr vo out) (ho : w7.ownsRow w.heap.size 34 10 v7 (out.length + 1) (out.flatMap Ev.cells ++ e.cells.toArray.toList)) (hg : wr.grownBy w7 vo.ownBlock) : OW w w7 v7 (out ++ [e]) :=
  ⟨by simpa using ho, only_own h.2 hg h.1 (Nat.le_refl _)⟩
theorem OW.box {w wr : World} {vo : Value} {out : List Ev} {g : Nat} (x : Ev) (h : OW w wr vo out) {cs : Array Value} (hB : Blk wr g 34 cs) (hs : cs.size = 10) (hne : vo.ownBlock ≠ some g) (hg : w.heap.size ≤ g) : OW w (setEv wr g x) vo out :=
  ⟨own_apart h.1 (setEv_blk x hB hs).2 hne, only_fresh h.2 (setEv_blk x hB hs).2 hg⟩
theorem Blk.zero10 {w : World} {g t : Nat} (h : Blk w g t zeroRow) : w.cell? ⟨g, 0, none⟩ = some (.int .i64 0) ∧ w.cell? ⟨g, 1, none⟩ = some (.int .i64 0) ∧ w.cell? ⟨g, 2, none⟩ = some (.int .i64 0) ∧ w.cell? ⟨g, 3, none⟩ = some (.int .i64 0) ∧ w.cell? ⟨g, 4, none⟩ = some (.slice none 0 0) ∧ w.cell? ⟨g, 5, none⟩ = some (.int .i64 0) ∧ w.cell? ⟨g, 6, none⟩ = some (.int .i64 0) ∧ w.cell? ⟨g, 7, none⟩ = some (.string ⟨#[]⟩) ∧ w.cell? ⟨g, 8, none⟩ = some (.string ⟨#[]⟩) ∧ w.cell? ⟨g, 9, none⟩ = some (.slice none 0 0) :=
  ⟨h.cell 0, h.cell 1, h.cell 2, h.cell 3, h.cell 4, h.cell 5, h.cell 6, h.cell 7, h.cell 8, h.cell 9⟩
set_option maxHeartbeats 4000000 in
set_option maxRecDepth 100000 in
theorem radd_any {S : Nat → Prop} (A : Option Addr) (a : List Ev) (ca : Nat) (B : Option Addr) (b : List Ev) (cb : Nat) (w : World) (ha : Rd S w A (a.flatMap Ev.cells)) (hb : Rd S w B (b.flatMap Ev.cells)) (hA : Asc a) (hB : Asc b) (hl : a.length + b.length ≤ 90000) :
    Calls Try.prog 38 #[.slice A a.length ca, .slice B b.length cb] w (AddPost w a b) := by
  have HA : Hid (Rd (· < w.heap.size) w A (a.flatMap Ev.cells)) := Lib.hid (ha.mono fun b _ h => h)
  have HB : Hid (Rd (· < w.heap.size) w B (b.flatMap Ev.cells)) := Lib.hid (hb.mono fun b _ h => h)
  have AA := Lib.hid hA
  have AB := Lib.hid hB
  clear ha hb hA hB
  go_enter Try.func38, Try.ntmps38
  go_wp2_with fail
  go_loopw [5, 6, 7] (fun vo vi vk wr => ∃ (i k : Nat) (out : List Ev), vi = .int .i64 i ∧ vk = .int .i64 k ∧ i ≤ a.length ∧ k ≤ b.length ∧ out.length ≤ i + k ∧ MInv [a, b] (two a b i k) out ∧ OW w wr vo out) (fun _ vi vk _ => a.length + b.length - ((intOf vi).toNat + (intOf vk).toNat))
  case atStart => exact ⟨0, 0, [], rfl, rfl, Nat.zero_le _, Nat.zero_le _, Nat.zero_le _, two_start a b, World.ownsRow_nil _ _ _ _, only_refl _ _⟩
  case round =>
    obtain ⟨i, k, out, rfl, rfl, hi, hk, hol, hm, hO⟩ := hrel
    have M := Lib.hid hm
    have O := Lib.hid hO
    clear hm
    obtain ⟨Ao, co, rfl, hco, hcom, -, hro⟩ := Rd.of_own hO.1 (by decide)
    clear hO hro
    unfold maxLen at hcom
    by_cases hend : i = a.length ∧ k = b.length
    · obtain ⟨rfl, rfl⟩ := hend
      have i1 : ¬ ((a.length : Int) < (a.length : Int)) := by omega
      have i2 : ¬ ((b.length : Int) < (b.length : Int)) := by omega
      go_wp2_with fail
      go_ret
      obtain ⟨A2, c2, e, h1, h2, -, h3⟩ := Rd.of_own O.out.1 (by decide)
      injection e with e1 e2 e3
      subst e1 e3
      exact ⟨_, _, out, rfl, two_end M.out (Nat.le_refl _) (Nat.le_refl _), hol, h1, h2, h3, O.out.2⟩
    · have hT : Hid (i < a.length ∨ k < b.length) := Lib.hid (by omega)
      clear hend
      go_upto_region 3 with fail
      go_cut [18] (fun v wx => v = .bool true ∧ wr = wx)
      case first =>
        by_cases hia : i < a.length
        · have o1 : ((i : Int) < (a.length : Int)) := by omega
          go_wp2_with fail
          go_meet
          exact ⟨rfl, rfl⟩
        · have o1 : ¬ ((i : Int) < (a.length : Int)) := by omega
          have o2 : ((k : Int) < (b.length : Int)) := by have := hT.out; omega
          go_wp2_with fail
          go_meet
          exact ⟨rfl, rfl⟩
      case rest =>
      obtain ⟨rfl, rfl⟩ := hcut
      go_upto_region 4 with fail
      obtain ⟨W1, hW1⟩ : ∃ W1, W1 = wr.alloc (.cells zeroRow 34) := ⟨_, rfl⟩
      obtain ⟨gx, hgx⟩ : ∃ gx, gx = wr.heap.size := ⟨_, rfl⟩
      have O1 : Hid (OW w W1 (.slice Ao out.length co) out) := Lib.hid (by rw [hW1]; exact O.out.grown (only_alloc (only_refl _ _) _))
      have B1 : Hid (Blk W1 gx 34 zeroRow) := Lib.hid (by rw [hW1, hgx]; exact Blk.new _ _ _)
      have HNE : Hid ((Value.slice Ao out.length co).ownBlock ≠ some gx) := Lib.hid (fun e => by have := (O.out.1.lt gx e).2; omega)
      have HW1 := Lib.hid hW1.symm
      have HGX := Lib.hid hgx
      have hgxw : w.heap.size ≤ gx := by rw [hgx]; exact O.out.2.size
      clear hW1 hgx
      go_upto_region 5 with fail
      unfold zeroRow at HW1
      rw [HW1.out, ← HGX.out]
      clear HW1 O
      obtain ⟨C, hC⟩ : ∃ C, C = pickA a b i k := ⟨_, rfl⟩
      have HC := Lib.hid hC
      clear hC
      go_cut [40] (fun v wx => v = .bool C ∧ W1.grownBy wx none)
      case first =>
        by_cases hkb : k = b.length
        · have o1 : ((k : Int) == (b.length : Int)) = true := by simp [hkb]
          have HC2 : Hid (C = true) := Lib.hid (by rw [HC.out]; exact pickA_no (by omega))
          clear hkb
          go_quiet (fail)
          go_wp2
          go_meet
          exact ⟨by rw [HC2.out], only_drewN (only_refl _ _) _⟩
        · have hkl : k < b.length := by omega
          have o1 : ((k : Int) == (b.length : Int)) = false := by rw [beq_eq_false_iff_ne]; omega
          by_cases hia : i < a.length
          · have o2 : decide ((i : Int) < (a.length : Int)) = true := by simp; omega
            have o3 : decide (i < a.length) = true := by simp; omega
            obtain ⟨ba, oa, rfl, -, -, -⟩ := HA.out (by rw [flat_len _ 10 Ev.cells_len]; omega)
            obtain ⟨bb, ob, rfl, -, -, -⟩ := HB.out (by rw [flat_len _ 10 Ev.cells_len]; omega)
            obtain ⟨x, hx⟩ : ∃ x, a[i] = x := ⟨_, rfl⟩
            obtain ⟨y, hy⟩ : ∃ y, b[k] = y := ⟨_, rfl⟩
            obtain ⟨d0, d1, d2, d3, d4, d5, d6, d7, d8, d9⟩ := Evs.load10 (HA.out.grown O1.out.2 (by simp)) hia hx
            obtain ⟨e0, e1, e2, e3, e4, e5, e6, e7, e8, e9⟩ := Evs.load10 (HB.out.grown O1.out.2 (by simp)) hkl hy
            have HC2 : Hid (C = !y.less x) := Lib.hid (by rw [HC.out]; exact pickA_both (by rw [← hx]; exact List.getElem?_eq_getElem _) (by rw [← hy]; exact List.getElem?_eq_getElem _))
            have n1 : (0 : Int) ≤ (i : Int) := by omega
            have n2 : (0 : Int) ≤ (k : Int) := by omega
            have n3 : (i : Int) < (a.length : Int) := by omega
            have n4 : (k : Int) < (b.length : Int) := by omega
            clear hx hy hkb
            go_still_tail 18, (by kernel_rfl)
            change wpList _ _ _ _ _ W1.drew
            have K : Hid (Calls Try.prog 19 #[.agg y.cells.toArray, .agg x.cells.toArray] W1.drew (BoolExt (!C) W1.drew)) := Lib.hid (by rw [HC2.out, Bool.not_not]; exact rless_any y x W1.drew)
            clear d0 d1 d2 d3 d4 d5 d6 d7 d8 d9 e0 e1 e2 e3 e4 e5 e6 e7 e8 e9
            go_wp2_with (go_at_call 19; refine K.out.mono ?_; rintro e w2 ⟨rfl, hg2⟩)
            go_meet
            exact ⟨by simp, only_trans (only_drew (only_refl _ _)) hg2⟩
          · have o2 : decide ((i : Int) < (a.length : Int)) = false := by simp; omega
            have o3 : decide (i < a.length) = false := by simp; omega
            have HC2 : Hid (C = false) := Lib.hid (by rw [HC.out]; exact pickA_end (by omega) hkl)
            clear hkb
            go_quiet (fail)
            go_wp2
            go_meet
            exact ⟨by rw [HC2.out], only_drewN (only_refl _ _) _⟩
      case rest =>
        obtain ⟨rfl, hg⟩ := hcut
        have O2 := Lib.hid (O1.out.grown hg)
        have B2 := Lib.hid (B1.out.grown hg (by simp))
        clear O1 B1 hg
        go_upto_if 40 with fail
        go_cut [6, 7] (fun vi vk wx => ∃ (i' k' : Nat) (x : Ev), vi = .int .i64 i' ∧ vk = .int .i64 k' ∧ i' ≤ a.length ∧ k' ≤ b.length ∧ i' + k' = i + k + 1 ∧ MInv [a, b] (two a b i' k') (addO out x) ∧ Blk wx gx 34 x.cells.toArray ∧ OW w wx (.slice Ao out.length co) out)
        case first =>
          cases C with
          | true =>
            have hlt : i < a.length := by
              rcases Nat.lt_or_ge i a.length with h | h
              · exact h
              · have := HC.out
                rw [pickA_end h (by have := hT.out; omega)] at this
                cases this
            have f0 := B2.out.frozen 0
            have f1 := B2.out.frozen 1
            have f2 := B2.out.frozen 2
            have f3 := B2.out.frozen 3
            have f4 := B2.out.frozen 4
            have f5 := B2.out.frozen 5
            have f6 := B2.out.frozen 6
            have f7 := B2.out.frozen 7
            have f8 := B2.out.frozen 8
            have f9 := B2.out.frozen 9
            obtain ⟨z0, z1, z2, z3, z4, z5, z6, z7, z8, z9⟩ := B2.out.zero10
            obtain ⟨ba, oa, rfl, -, -, -⟩ := HA.out (by rw [flat_len _ 10 Ev.cells_len]; omega)
            obtain ⟨x, hx⟩ : ∃ x, a[i] = x := ⟨_, rfl⟩
            obtain ⟨d0, d1, d2, d3, d4, d5, d6, d7, d8, d9⟩ := Evs.load10 (HA.out.grown O2.out.2 (by simp)) hlt hx
            have HX : Hid (a[i]? = some x) := Lib.hid (by rw [← hx]; exact List.getElem?_eq_getElem _)
            have n1 : (0 : Int) ≤ (i : Int) := by omega
            have n3 : (i : Int) < (a.length : Int) := by omega
            clear hx
            go_wp2_with fail
            go_meet
            exact ⟨i + 1, k, x, by go_num, rfl, by omega, hk, by omega, two_a M.out AA.out AB.out HX.out (fun y hy => by have := HC.out; rw [pickA_both HX.out hy] at this; simpa using this.symm), (setEv_blk x B2.out rfl).1, O2.out.box x B2.out rfl HNE.out hgxw⟩
          | false =>
            have hlt : k < b.length := by
              rcases Nat.lt_or_ge k b.length with h | h
              · exact h
              · have := HC.out
                rw [pickA_no h] at this
                cases this
            have f0 := B2.out.frozen 0
            have f1 := B2.out.frozen 1
            have f2 := B2.out.frozen 2
            have f3 := B2.out.frozen 3
            have f4 := B2.out.frozen 4
            have f5 := B2.out.frozen 5
            have f6 := B2.out.frozen 6
            have f7 := B2.out.frozen 7
            have f8 := B2.out.frozen 8
            have f9 := B2.out.frozen 9
            obtain ⟨z0, z1, z2, z3, z4, z5, z6, z7, z8, z9⟩ := B2.out.zero10
            obtain ⟨ba, oa, rfl, -, -, -⟩ := HB.out (by rw [flat_len _ 10 Ev.cells_len]; omega)
            obtain ⟨x, hx⟩ : ∃ x, b[k] = x := ⟨_, rfl⟩
            obtain ⟨d0, d1, d2, d3, d4, d5, d6, d7, d8, d9⟩ := Evs.load10 (HB.out.grown O2.out.2 (by simp)) hlt hx
            have HX : Hid (b[k]? = some x) := Lib.hid (by rw [← hx]; exact List.getElem?_eq_getElem _)
            have n1 : (0 : Int) ≤ (k : Int) := by omega
            have n3 : (k : Int) < (b.length : Int) := by omega
            clear hx
            go_wp2_with fail
            go_meet
            exact ⟨i, k + 1, x, rfl, by go_num, hi, by omega, by omega, two_b M.out AA.out AB.out HX.out (fun y hy => by have := HC.out; rw [pickA_both hy HX.out] at this; simpa using this.symm), (setEv_blk x B2.out rfl).1, O2.out.box x B2.out rfl HNE.out hgxw⟩
        case rest =>
          obtain ⟨i', k', x, rfl, rfl, hi2, hk2, hik, hM2, hB3, hO3⟩ := hcut
          have M3 := Lib.hid hM2
          have B3 := Lib.hid hB3
          have O3 := Lib.hid hO3
          clear hM2 hB3 hO3 O2 B2
          obtain ⟨B, hB⟩ : ∃ B, B = lastB out x := ⟨_, rfl⟩
          have HBB := Lib.hid hB
          clear hB
          have hol2 : out.length ≤ 90000 := by omega
          obtain ⟨b0, b1, b2, b3, b4, b5, b6, b7, b8, b9⟩ := B3.out.load10
          go_upto_region 10 with fail
          go_cut [65] (fun v wx => v = .bool B ∧ wc.grownBy wx none)
          case first =>
            by_cases ho : out.length = 0
            · have o1 : ((out.length : Int) == 0) = true := by simp [ho]
              have HB2 : Hid (B = true) := Lib.hid (by rw [HBB.out]; exact lastB_nil ho x)
              clear ho
              go_quiet (fail)
              go_wp2
              go_meet
              exact ⟨by rw [HB2.out], only_drewN (only_refl _ _) _⟩
            · obtain ⟨n, hn⟩ : ∃ n, out.length = n + 1 := ⟨out.length - 1, by omega⟩
              have o1 : ((out.length : Int) == 0) = false := by rw [beq_eq_false_iff_ne]; omega
              have RO1 : Hid (Rd (w.heap.size ≤ ·) wc Ao (out.flatMap Ev.cells)) := Lib.hid (by
                obtain ⟨A2, c2, e, -, -, -, h3⟩ := Rd.of_own O3.out.1 (by decide)
                injection e with e1 e2 e3
                rw [e1]; exact h3)
              obtain ⟨bo, oo, rfl, -, -, -⟩ := RO1.out (by rw [flat_len _ 10 Ev.cells_len]; omega)
              obtain ⟨z, hz⟩ : ∃ z, out[n]'(by omega) = z := ⟨_, rfl⟩
              obtain ⟨d0, d1, d2, d3, d4, d5, d6, d7, d8, d9⟩ := Evs.load10 RO1.out (by omega) hz
              have HB2 : Hid (B = z.less x) := Lib.hid (by rw [HBB.out]; exact lastB_at hn (by rw [← hz]; exact List.getElem?_eq_getElem _) x)
              have w2 : IntKind.i64.wrap ((out.length : Int) - 1) = (n : Int) := by rw [show (out.length : Int) - 1 = n by omega]; exact IntWalk.i64_in _ (by omega)
              have n1 : (0 : Int) ≤ (n : Int) := by omega
              have n2 : (n : Int) < (out.length : Int) := by omega
              clear hz ho hn
              go_still_tail 11, (by kernel_rfl)
              change wpList _ _ _ _ _ wc.drew
              have K : Hid (Calls Try.prog 19 #[.agg z.cells.toArray, .agg x.cells.toArray] wc.drew (BoolExt B wc.drew)) := Lib.hid (by rw [HB2.out]; exact rless_any z x wc.drew)
              clear d0 d1 d2 d3 d4 d5 d6 d7 d8 d9 b0 b1 b2 b3 b4 b5 b6 b7 b8 b9 w2 n1 n2
              go_wp2_with (go_at_call 19; refine K.out.mono ?_; rintro e w2 ⟨rfl, hg2⟩)
              go_meet
              exact ⟨rfl, only_trans (only_drew (only_refl _ _)) hg2⟩
          case rest =>
            obtain ⟨rfl, hg⟩ := hcut
            have O4 := Lib.hid (O3.out.grown hg)
            have B4 := Lib.hid (B3.out.grown hg (by simp))
            clear O3 B3 hg b0 b1 b2 b3 b4 b5 b6 b7 b8 b9
            cases B with
            | true =>
              obtain ⟨b0, b1, b2, b3, b4, b5, b6, b7, b8, b9⟩ := B4.out.load10
              have hszc := O4.out.2.size
              have HB2 : Hid (addO out x = out ++ [x]) := Lib.hid (by rw [addO_eq, if_pos HBB.out.symm])
              go_wp2_with (at_builtin; refine wpList_append1 rfl _ _ 26 rfl w.heap.size Try.underlying26 eventInfo rfl (by decide) (v := .slice Ao out.length co) (by rfl) (w0 := wc) (cs := x.cells.toArray) O4.out.1 (by rfl) rfl (by simpa using Ev.one x) (by decide) (by omega) (by omega) ?_; intro v7 w7 hown7 hg7 hob7)
              have O7 := Lib.hid (O4.out.snoc hown7 hg7)
              clear hown7 hg7 hob7 b0 b1 b2 b3 b4 b5 b6 b7 b8 b9 O4 B4
              go_wp2_with fail
              go_roundw
              case rel => exact ⟨i', k', out ++ [x], rfl, rfl, hi2, hk2, by simp; omega, by rw [← HB2.out]; exact M3.out, O7.out⟩
              case measure => simp [intOf]; omega
            | false =>
              have HB2 : Hid (addO out x = out) := Lib.hid (by rw [addO_eq, if_neg (by rw [← HBB.out]; simp)])
              go_wp2_with fail
              go_roundw
              case rel => exact ⟨i', k', out, rfl, rfl, hi2, hk2, by omega, by rw [← HB2.out]; exact M3.out, O4.out⟩
              case measure => simp [intOf]; omega
end Go.Proofs.Ytphglalphejppaa
