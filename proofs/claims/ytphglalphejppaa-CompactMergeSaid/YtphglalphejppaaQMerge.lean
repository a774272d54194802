/- compact.Merge. No condition. -/
import Derived.Test.YtphglalphejppaaAscRef
import Derived.Deep.LoopGhost
import Derived.Test.YtphglalphejppaaTailG
namespace Go.Proofs.Ytphglalphejppaa
open Go.RowKit
set_option linter.unusedVariables false
set_option linter.unusedSimpArgs false

/-- what holds while the lists are pushed -/
def PushR (w : World) (ps : List Pl) (i : Nat) (v : Value) (wr : World) (ss : List Src) : Prop :=
  QSt w.heap.size wr (w.heap.size + 1) v ss ∧ Hp ss ss.length ∧ MInv ((ps.take i).map (·.evs)) ss [] ∧ (∀ s ∈ ss, SGood w s) ∧ ss.length ≤ i ∧ tot ss = ((ps.take i).map (·.evs)).flatten.length ∧ (∀ p ∈ ps.take i, Asc p.evs) ∧ w.grownBy wr none
theorem PushR.grown {w w1 w2 : World} {ps : List Pl} {i : Nat} {v : Value} {ss : List Src} (h : PushR w ps i v w1 ss) (hg : w1.grownBy w2 none) : PushR w ps i v w2 ss :=
  ⟨h.1.grown hg, h.2.1, h.2.2.1, h.2.2.2.1, h.2.2.2.2.1, h.2.2.2.2.2.1, h.2.2.2.2.2.2.1, only_trans h.2.2.2.2.2.2.2 hg⟩
theorem take_succ_map {ps : List Pl} {i : Nat} {p : Pl} (hp : ps[i]? = some p) : (ps.take (i + 1)).map (·.evs) = (ps.take i).map (·.evs) ++ [p.evs] := by
  obtain ⟨h1, h2⟩ := List.getElem?_eq_some_iff.1 hp
  rw [List.take_succ_eq_append_getElem h1, h2]; simp
theorem PushR.skip {w wr : World} {ps : List Pl} {i : Nat} {v : Value} {ss : List Src} (h : PushR w ps i v wr ss) {p : Pl} (hp : ps[i]? = some p) (he : p.evs = []) : PushR w ps (i + 1) v wr ss := by
  obtain ⟨h1, h2, h3, h4, h5, h6, h7, h8⟩ := h
  refine ⟨h1, h2, by rw [take_succ_map hp, he]; exact h3.skip, h4, by omega, by rw [take_succ_map hp, he, h6]; simp, ?_, h8⟩
  obtain ⟨q1, q2⟩ := List.getElem?_eq_some_iff.1 hp
  rw [List.take_succ_eq_append_getElem q1, q2]
  exact mem_snoc h7 (by rw [he]; exact List.Pairwise.nil)
theorem PushR.push {w wr w2 : World} {ps : List Pl} {i : Nat} {v : Value} {ss : List Src} (h : PushR w ps i v wr ss) {p : Pl} (hp : ps[i]? = some p) (hne : p.evs ≠ []) (ha : Asc p.evs) (hok : p.Ok (· < w.heap.size) w) {e : Ending}
    (hP : HeapPost w.heap.size wr (w.heap.size + 1) v (upM (ss ++ [⟨p.evs, p.a, p.c, i⟩]) ss.length) e w2) : ∃ v', PushR w ps (i + 1) v' w2 (upM (ss ++ [⟨p.evs, p.a, p.c, i⟩]) ss.length) := by
  obtain ⟨h1, h2, h3, h4, h5, h6, h7, h8⟩ := h
  obtain ⟨-, v', q1, q2, q3⟩ := hP
  have hpm := up_perm ss.length (ss ++ [⟨p.evs, p.a, p.c, i⟩])
  have hil : i < ps.length := (List.getElem?_eq_some_iff.1 hp).1
  have hm := h3.push (s := ⟨p.evs, p.a, p.c, i⟩) (by simp; omega) hne
  refine ⟨v', q1, ?_, ?_, ?_, ?_, ?_, ?_, ?_⟩
  · have := push_heap (s := ⟨p.evs, p.a, p.c, i⟩) hm.full h2
    rw [hpm.length_eq]; simpa using this
  · rw [take_succ_map hp]; exact hm.perm hpm
  · intro s hs
    rcases List.mem_append.1 (hpm.mem_iff.1 hs) with hs | hs
    · exact h4 s hs
    · rw [List.mem_singleton.1 hs]; exact ⟨⟨hne, hok.1⟩, hok.2⟩
  · rw [hpm.length_eq]; simp; omega
  · rw [tot_perm hpm, take_succ_map hp]; unfold tot at *; simp [h6]
  · obtain ⟨q1, q2⟩ := List.getElem?_eq_some_iff.1 hp
    rw [List.take_succ_eq_append_getElem q1, q2]
    exact mem_snoc h7 ha
  · exact q2.grown h8 (by omega) (own_le h1.2 (Nat.le_refl _))
theorem flat_mono {ps : List Pl} {i : Nat} : ((ps.take i).map (·.evs)).flatten.length ≤ (ps.map (·.evs)).flatten.length := by
  have : ps.map (·.evs) = (ps.take i).map (·.evs) ++ (ps.drop i).map (·.evs) := by rw [← List.map_append, List.take_append_drop]
  rw [this, List.flatten_append, List.length_append]; omega
theorem tot_cons (s : Src) (tl : List Src) : tot (s :: tl) = s.rest.length + tot tl := by simp [tot]
/-- is the event to be put out? -/
def lastB (out : List Ev) (e : Ev) : Bool := match out.getLast? with
  | none => true
  | some z => z.less e
theorem addO_eq (out : List Ev) (e : Ev) : addO out e = if lastB out e = true then out ++ [e] else out := by
  unfold addO lastB
  cases out.getLast? <;> simp
theorem lastB_nil {out : List Ev} (h : out.length = 0) (e : Ev) : lastB out e = true := by
  obtain rfl := List.eq_nil_of_length_eq_zero h; rfl
theorem lastB_at {out : List Ev} {n : Nat} (h : out.length = n + 1) {z : Ev} (hz : out[n]? = some z) (e : Ev) : lastB out e = z.less e := by
  have : out.getLast? = some z := by rw [List.getLast?_eq_getElem?, h]; exact hz
  unfold lastB; rw [this]
/-- the queue, and the row of what is out -/
def MM (w wr : World) (v : Value) (ss : List Src) (vo : Value) (out : List Ev) : Prop :=
  QSt w.heap.size wr (w.heap.size + 1) v ss ∧ wr.ownsRow w.heap.size 34 10 vo out.length (out.flatMap Ev.cells) ∧ w.grownBy wr none
theorem MM.grown {w wr w2 : World} {v : Value} {ss : List Src} {vo : Value} {out : List Ev} (h : MM w wr v ss vo out) (hg : wr.grownBy w2 none) : MM w w2 v ss vo out := ⟨h.1.grown hg, own_ext h.2.1 hg, only_trans h.2.2 hg⟩
theorem own_types {w : World} {b1 e1 z1 n1 b2 e2 z2 n2 g : Nat} {v1 v2 : Value} {x1 x2 : List Value} (h1 : w.ownsRow b1 e1 z1 v1 n1 x1) (h2 : w.ownsRow b2 e2 z2 v2 n2 x2) (hne : e1 ≠ e2) (hg : v1.ownBlock = some g) : v2.ownBlock ≠ some g := by
  rcases h1.2 with ⟨e3, _⟩ | ⟨g', cap, cur, e3, _, h5, _⟩
  · rw [e3] at hg; simp [Value.ownBlock] at hg
  · have : g' = g := by rw [e3] at hg; simpa [Value.ownBlock] using hg
    subst this
    exact blk_not_row (show Blk w g' e1 cur from h5) h2 hne
theorem MM.snoc {w wr w7 : World} {v vo v7 : Value} {ss : List Src} {out : List Ev} {e : Ev} (h : MM w wr v ss vo out) (ho : w7.ownsRow w.heap.size 34 10 v7 (out.length + 1) (out.flatMap Ev.cells ++ e.cells.toArray.toList)) (hg : wr.grownBy w7 vo.ownBlock) : MM w w7 v ss v7 (out ++ [e]) := by
  obtain ⟨⟨h1, h2⟩, h3, h4⟩ := h
  refine ⟨⟨h1.grown hg (fun e1 => blk_not_row h1 h3 (by decide) e1.symm), own_block_eq h2 fun g hg' => hg.block g (h2.lt g hg').2 (fun e1 => own_types h2 h3 (by decide) hg' e1.symm)⟩, by simpa using ho, only_own h4 hg h3 (Nat.le_refl _)⟩
theorem evSize : (Try.prog.info? 34).map (·.size) = some 10 := by kernel_rfl
/-- the plain part -/
def MP (w : World) (L : List (List Ev)) (ss : List Src) (out : List Ev) : Prop :=
  Hp ss ss.length ∧ MInv L ss out ∧ (∀ s ∈ ss, SGood w s) ∧ out.length + tot ss ≤ L.flatten.length ∧ ss.length ≤ 1000
theorem MM.tail {w wr : World} {gr cq n : Nat} {s s1 : Src} {tl : List Src} {vo : Value} {out : List Ev} (h : MM w wr (.slice (some ⟨gr, 0, none⟩) (n + 1) cq) (s :: tl) vo out) (hn : tl.length = n) (hi : s1.idx = s.idx) :
    MM w (wr.drew.setCell ⟨gr, 0, none⟩ (.slice s1.A s1.rest.length s1.c)) (.slice (some ⟨gr, 0, none⟩) (n + 1) cq) (s1 :: tl) vo out := by
  obtain ⟨⟨h1, h2⟩, h3, h4⟩ := h
  have hg : wr.grownBy (wr.drew.setCell ⟨gr, 0, none⟩ (.slice s1.A s1.rest.length s1.c)) (some gr) := only_setCell (only_drew (only_refl _ _)) (p := ⟨gr, 0, none⟩) (.inl rfl) _
  have hne : w.heap.size ≤ gr := own_le h2 (Nat.le_refl _) gr rfl
  refine ⟨⟨h1.grown hg (fun e => blk_not_row h1 h2 (by decide) (by injection e with e; rw [e]; rfl)), ?_⟩, own_apart h3 hg (own_types h2 h3 (by decide) rfl), only_fresh h4 hg hne⟩
  have h5 : wr.drew.ownsRow w.heap.size 76 2 (.slice (some ⟨gr, 0, none⟩) (n + 1) cq) (n + 1) ((s :: tl).flatMap Src.cells) := by rw [← hn]; rw [← hn] at h2; exact h2
  have a := own_setk h5 (k := 0) (u := .slice s1.A s1.rest.length s1.c) (by omega)
  have f1 := flat_set Src.cells_len (s :: tl) 0 0 (by simp) s1 (.slice s1.A s1.rest.length s1.c) (by omega) (by simp [Src.cells, hi])
  simp only [Nat.zero_mul, Nat.add_zero] at f1
  rw [f1] at a
  simpa [hn] using a
theorem MM.fr2 {w wr w2 : World} {v v' : Value} {ss ss' : List Src} {vo : Value} {out : List Ev} (h : MM w wr v ss vo out) (hq : QSt w.heap.size w2 (w.heap.size + 1) v' ss') (hf : Fr2 wr w2 (w.heap.size + 1) v.ownBlock) : MM w w2 v' ss' vo out :=
  ⟨hq, own_fr2 h.2.1 hf h.1.1 h.1.2 (by decide) (by decide), hf.grown h.2.2 (by omega) (own_le h.1.2 (Nat.le_refl _))⟩
theorem MP.min {w : World} {L : List (List Ev)} {s0 : Src} {tl : List Src} {out : List Ev} (h : MP w L (s0 :: tl) out) : ∀ s ∈ tl, qlt s s0 = false := fun s hs => by
  obtain ⟨k, hk⟩ := List.getElem?_of_mem hs
  have hkl := (List.getElem?_eq_some_iff.1 hk).1
  have := h.1.root (h.2.1.full.to _) (Nat.le_refl _) (k + 1) (by simp; omega)
  rw [lessAt_eq (show (s0 :: tl)[k + 1]? = some s by simpa using hk) (show (s0 :: tl)[0]? = some s0 from rfl)] at this
  exact this
theorem addO_len (out : List Ev) (e : Ev) : (addO out e).length ≤ out.length + 1 := by rw [addO_eq]; split <;> simp
theorem MP.fix {w : World} {L : List (List Ev)} {s0 s1 : Src} {tl : List Src} {out : List Ev} (h : MP w L (s0 :: tl) out) (ha : ∀ l ∈ L, Asc l) {e : Ev} {r : List Ev} (hr : s0.rest = e :: r) (hne : r ≠ []) (h1 : s1.rest = r) (hi : s1.idx = s0.idx) (hg : SGood w s1) :
    MP w L (downM (s1 :: tl) 0 (s1 :: tl).length).1 (addO out e) ∧ tot (downM (s1 :: tl) 0 (s1 :: tl).length).1 < tot (s0 :: tl) := by
  have hpm := down_perm (s1 :: tl).length _ 0 (s1 :: tl) (Nat.le_refl _)
  have hmin := h.min
  have ht : tot (downM (s1 :: tl) 0 (s1 :: tl).length).1 + 1 = tot (s0 :: tl) := by rw [tot_perm hpm, tot_cons, tot_cons, h1, hr]; simp; omega
  obtain ⟨a1, a2, a3, a4, a5⟩ := h
  have hst := (a2.step ha hmin hr [s1] (.inr ⟨hne, s1, rfl, h1, hi⟩))
  refine ⟨⟨?_, hst.perm hpm, ?_, ?_, ?_⟩, by omega⟩
  · rw [hpm.length_eq]
    exact fix_heap (ss := s0 :: tl) (s := s1) hst.full (by simp) a1
  · intro s hs
    rcases List.mem_cons.1 (hpm.mem_iff.1 hs) with rfl | hs
    · exact hg
    · exact a3 s (by simp [hs])
  · have := addO_len out e; omega
  · rw [hpm.length_eq]; simpa using a5
theorem MP.pop {w : World} {L : List (List Ev)} {s0 s1 : Src} {tl : List Src} {out : List Ev} (h : MP w L (s0 :: tl) out) (ha : ∀ l ∈ L, Asc l) {e : Ev} (hr : s0.rest = [e]) :
    MP w L ((downM (swapAt (s1 :: tl) 0 tl.length) 0 tl.length).1.take tl.length) (addO out e) ∧ tot ((downM (swapAt (s1 :: tl) 0 tl.length) 0 tl.length).1.take tl.length) < tot (s0 :: tl) := by
  have hpm := pop_perm (s0 := s0) (s := s1) (tl := tl) rfl
  have hmin := h.min
  have ht : tot ((downM (swapAt (s1 :: tl) 0 tl.length) 0 tl.length).1.take tl.length) + 1 = tot (s0 :: tl) := by rw [tot_perm hpm, tot_cons, hr]; simp; omega
  obtain ⟨a1, a2, a3, a4, a5⟩ := h
  have hst := (a2.step ha hmin hr [] (.inl ⟨rfl, rfl⟩))
  refine ⟨⟨?_, hst.perm hpm, ?_, ?_, ?_⟩, by omega⟩
  · rw [hpm.length_eq]
    exact (pop_heap (ss := s0 :: tl) a2.full s1 (by simp) a1).congr fun k hk => by rw [List.getElem?_take_of_lt hk]; rfl
  · intro s hs
    exact a3 s (by simp [hpm.mem_iff.1 hs])
  · have := addO_len out e; omega
  · rw [hpm.length_eq]; simp at a5; omega
set_option maxHeartbeats 4000000 in
set_option maxRecDepth 100000 in
theorem qmerge_any {S : Nat → Prop} (A : Option Addr) (ps : List Pl) (c : Nat) (w : World) (h : Rd S w A (ps.map Pl.cell)) (hp : ∀ p ∈ ps, p.Ok S w) (hl : ps.length ≤ 1000) (ht : (ps.map (·.evs)).flatten.length ≤ 90000) :
    Calls Try.prog 16 #[.slice A ps.length c] w (MergePost w (ps.map (·.evs))) := by
  have H := Lib.hid h
  have HP : Hid (∀ p ∈ ps, p.Ok (· < w.heap.size) w) := Lib.hid (fun p hp' => (hp p hp').mono fun b _ h => h)
  have HT := Lib.hid ht
  clear h hp ht
  go_enter Try.func16, Try.ntmps16
  go_wp2_with fail
  obtain ⟨gq, hgq⟩ : ∃ gq, gq = w.heap.size + 1 := ⟨_, rfl⟩
  obtain ⟨W1, hW1⟩ : ∃ W1, W1 = (w.alloc (.cells #[] 76)).alloc (.cells #[.slice (some ⟨w.heap.size, 0, none⟩) 0 0] 73) := ⟨_, rfl⟩
  have HR0 : Hid (PushR w ps 0 (.slice (some ⟨w.heap.size, 0, none⟩) 0 0) W1 []) := Lib.hid (by
    rw [hW1]
    have hb : Blk ((w.alloc (.cells #[] 76)).alloc (.cells #[.slice (some ⟨w.heap.size, 0, none⟩) 0 0] 73)) (w.heap.size + 1) 73 #[.slice (some ⟨w.heap.size, 0, none⟩) 0 0] := by
      have := Blk.new (w.alloc (.cells #[] 76)) 73 #[.slice (some ⟨w.heap.size, 0, none⟩) 0 0]
      simpa using this
    refine ⟨⟨hb, rfl, .inr ⟨w.heap.size, 0, #[], rfl, Nat.le_refl _, (Blk.new w 76 #[]).alloc _, Nat.le_refl _, by unfold maxLen; omega, rfl, rfl⟩⟩, fun k h1 h2 => by simp at h2, by simpa using MInv.none, by simp, by simp, by simp [tot], by simp, only_alloc (only_alloc (only_refl _ _) _) _⟩)
  rw [← hgq, ← hW1]
  have HGQ := Lib.hid hgq
  clear hgq hW1
  go_loopw [15] (fun vi wr => ∃ (i : Nat) (v : Value) (ss : List Src), vi = .int .i64 i ∧ i ≤ ps.length ∧ PushR w ps i v wr ss) (fun vi _ => ps.length - (intOf vi).toNat)
  case atStart => exact ⟨0, _, [], rfl, Nat.zero_le _, HR0.out⟩
  case round =>
    obtain ⟨i, v, ss, rfl, hi, hR⟩ := hrel
    have R := Lib.hid hR
    have hsz := hR.2.2.2.2.2.2.2.size
    clear hR HR0
    by_cases hlt : i < ps.length
    · have i1 : (i : Int) < (ps.length : Int) := by omega
      obtain ⟨p, hp⟩ : ∃ p, ps[i]? = some p := ⟨_, List.getElem?_eq_getElem hlt⟩
      have hpok := HP.out p (List.mem_of_getElem? hp)
      obtain ⟨bP, oP, rfl, -, -, -⟩ := H.out (by simp; omega)
      have c0 := (H.out.grown R.out.2.2.2.2.2.2.2 (by simp)).cell1 (i := i) (v := p.cell) (by simp [hp])
      have HPI := Lib.hid hp
      have OK := Lib.hid hpok
      have hpl : p.evs.length ≤ 90000 := by
        have h1 := HT.out
        have h2 : ((ps.take (i + 1)).map (·.evs)).flatten.length ≤ _ := flat_mono
        rw [take_succ_map hp] at h2
        simp at h1 h2 ⊢
        omega
      clear hp hpok
      unfold Pl.cell at c0
      obtain ⟨pe, pa, pc⟩ := p
      simp only [] at c0 hpl
      have n3 : (0 : Int) ≤ (i : Int) := by omega
      go_wp2_with fail
      obtain ⟨wo, rfl⟩ : ∃ wo : World, wo = wr := ⟨_, rfl⟩
      go_loopw [7] (fun vk wr => ∃ k : Nat, vk = .int .i64 ((k : Int) + 1) ∧ k ≤ pe.length ∧ AdjTo pe (k + 1) ∧ wo.grownBy wr none) (fun vk _ => pe.length + 1 - (intOf vk).toNat)
      case atStart => exact ⟨0, rfl, Nat.zero_le _, fun j x y h => by omega, only_refl _ _⟩
      case round =>
        obtain ⟨k, rfl, hk, hadj, hG⟩ := hrel
        have AD := Lib.hid hadj
        have G := Lib.hid hG
        clear hadj hG c0
        by_cases hkl : k + 1 < pe.length
        · have hr0 : Rd (· < w.heap.size) w pa (pe.flatMap Ev.cells) := OK.out.1
          obtain ⟨b, off, rfl, -, -, -⟩ := hr0 (by rw [flat_len _ 10 Ev.cells_len]; omega)
          have hr := hr0.grown (only_trans R.out.2.2.2.2.2.2.2 G.out) (by simp)
          obtain ⟨x, hx⟩ : ∃ x, pe[k]'(by omega) = x := ⟨_, rfl⟩
          obtain ⟨y, hy⟩ : ∃ y, pe[k + 1] = y := ⟨_, rfl⟩
          obtain ⟨d0, d1, d2, d3, d4, d5, d6, d7, d8, d9⟩ := Evs.load10 hr (by omega) hx
          obtain ⟨e0, e1, e2, e3, e4, e5, e6, e7, e8, e9⟩ := Evs.load10 hr hkl hy
          have HX : Hid (pe[k]? = some x) := Lib.hid (by rw [← hx]; exact List.getElem?_eq_getElem _)
          have HY : Hid (pe[k + 1]? = some y) := Lib.hid (by rw [← hy]; exact List.getElem?_eq_getElem _)
          clear hr hr0 hx hy
          have i2 : (k : Int) + 1 < (pe.length : Int) := by omega
          have i3 : (k : Int) < (pe.length : Int) := by omega
          have w1 : IntKind.i64.wrap (k : Int) = (k : Int) := IntWalk.i64_in _ (by omega)
          have w2 : IntKind.i64.wrap ((k : Int) + 1 - 1) = (k : Int) := by rw [show (k : Int) + 1 - 1 = k by omega]; exact w1
          have n1 : (0 : Int) ≤ (k : Int) + 1 := by omega
          have n2 : ((k : Int) + 1).toNat = k + 1 := by omega
          have n4 : (0 : Int) ≤ (k : Int) := by omega
          go_upto_region 8 with fail
          go_still_tail 9, (by kernel_rfl)
          change wpList _ _ _ _ _ wr.drew
          clear d0 d1 d2 d3 d4 d5 d6 d7 d8 d9 e0 e1 e2 e3 e4 e5 e6 e7 e8 e9 w1 w2 n1 n2
          cases hless : y.less x with
          | true =>
            have HL := Lib.hid hless
            have K : Hid (Calls Try.prog 32 #[.agg y.cells.toArray, .agg x.cells.toArray] wr.drew (BoolExt true wr.drew)) := Lib.hid (hless ▸ eless_any y x wr.drew)
            clear hless
            go_wp2_with (go_at_call 32; refine K.out.mono ?_; rintro e w2 ⟨rfl, hg2⟩)
            go_ret2
            exact ⟨only_trans (only_drew (only_trans R.out.2.2.2.2.2.2.2 G.out)) hg2, .inr ⟨⟨pe, List.mem_map.2 ⟨_, List.mem_of_getElem? HPI.out, rfl⟩, not_asc HX.out HY.out HL.out⟩, rfl⟩⟩
          | false =>
            have HL := Lib.hid hless
            have K : Hid (Calls Try.prog 32 #[.agg y.cells.toArray, .agg x.cells.toArray] wr.drew (BoolExt false wr.drew)) := Lib.hid (hless ▸ eless_any y x wr.drew)
            clear hless
            go_wp2_with (go_at_call 32; refine K.out.mono ?_; rintro e w2 ⟨rfl, hg2⟩)
            have G2 : Hid (wo.grownBy w2 none) := Lib.hid (only_trans (only_drew G.out) hg2)
            clear hg2
            go_roundw
            case rel => exact ⟨k + 1, by go_num, by omega, AD.out.step (by omega) HX.out HY.out HL.out, G2.out⟩
            case measure => simp [intOf]; omega
        · have i2 : ¬ ((k : Int) + 1 < (pe.length : Int)) := by omega
          have HA : Hid (Asc pe) := Lib.hid (asc_of_adj (fun j x y hj => AD.out j x y (by omega)))
          have R2 : Hid (PushR w ps i v wr ss) := Lib.hid (R.out.grown G.out)
          clear AD R
          by_cases hz : pe.length = 0
          · have hz1 : (pe.length : Int) = 0 := by omega
            obtain rfl : pe = [] := List.eq_nil_of_length_eq_zero hz
            clear hz hz1
            go_wp2_with fail
            go_roundw
            case rel => exact ⟨i + 1, v, ss, by go_num, by omega, R2.out.skip HPI.out rfl⟩
            case measure => simp [intOf]; omega
          · have hz1 : (0 : Int) < (pe.length : Int) := by omega
            have hne : pe ≠ [] := fun e => hz (by rw [e]; rfl)
            have KH : Hid (Calls Try.prog 33 #[.iface 71 (.pointer (some ⟨gq, 0, none⟩)), .iface 76 (.agg #[.slice pa pe.length pc, .int .i64 i])] wr (HeapPost w.heap.size wr gq v (upM (ss ++ [⟨pe, pa, pc, i⟩]) ss.length))) := Lib.hid (by
              have hR := R2.out
              rw [HGQ.out]
              exact hpush_any w.heap.size (w.heap.size + 1) v ss ⟨pe, pa, pc, i⟩ w wr hR.1 hR.2.2.2.2.2.2.2 (mem_snoc (fun t ht => (hR.2.2.2.1 t ht).1) ⟨hne, OK.out.1⟩) (Nat.le_refl _) (by have := hR.2.2.2.2.1; omega) hR.2.2.2.2.2.2.2.size (by omega))
            have HNE := Lib.hid hne
            clear hne hz
            go_wp2_with fail
            refine KH.out.mono ?_
            rintro e w2 hP
            obtain ⟨v2, hR2⟩ := R2.out.push HPI.out HNE.out HA.out OK.out (by rw [← HGQ.out]; exact hP)
            obtain ⟨⟨x2, rfl⟩, -⟩ := hP
            have R3 := Lib.hid hR2
            clear hR2 KH R2
            go_wp2_with fail
            go_roundw
            case rel => exact ⟨i + 1, v2, _, by go_num, by omega, R3.out⟩
            case measure => simp [intOf]; omega
    · have i1 : ¬ ((i : Int) < (ps.length : Int)) := by omega
      obtain rfl : i = ps.length := by omega
      have ASC : Hid (∀ l ∈ ps.map (·.evs), Asc l) := Lib.hid (by
        have := R.out.2.2.2.2.2.2.1
        rw [List.take_length] at this
        intro l hl
        obtain ⟨p, hp, rfl⟩ := List.mem_map.1 hl
        exact this p hp)
      have HM0 : Hid (MM w wr v ss (.slice none 0 0) []) := Lib.hid ⟨R.out.1, World.ownsRow_nil _ _ _ _, R.out.2.2.2.2.2.2.2⟩
      have HP0 : Hid (MP w (ps.map (·.evs)) ss []) := Lib.hid (by
        obtain ⟨h1, h2, h3, h4, h5, h6, h7, h8⟩ := R.out
        rw [List.take_length] at h3 h6
        exact ⟨h2, h3, h4, by simp only [List.length_nil]; omega, by omega⟩)
      clear R H HP
      go_wp2_with fail
      go_loopg [8] (tot ss) (fun gk vo wr => ∃ (v : Value) (ss : List Src) (out : List Ev), gk = tot ss ∧ MM w wr v ss vo out ∧ MP w (ps.map (·.evs)) ss out)
      case atStart => exact ⟨v, ss, [], rfl, HM0.out, HP0.out⟩
      case round =>
        clear HM0 HP0
        obtain ⟨v, ss, out, hgk, hM, hP⟩ := hrel
        have GK := Lib.hid hgk
        have M := Lib.hid hM
        have P := Lib.hid hP
        clear hgk hM hP
        have q0 := M.out.1.1.cell 0
        rw [← HGQ.out] at q0
        simp at q0
        cases ss with
        | nil =>
          obtain ⟨Aq, cq, rfl, -⟩ := Rd.of_own M.out.1.2 (by decide)
          obtain ⟨Ao, co, rfl, hco, hcm, -, hro⟩ := Rd.of_own M.out.2.1 (by decide)
          have RO := Lib.hid hro
          clear hro
          go_wp2_with (go_at_call 34; refine (len_any _ _ _ _ _ rfl).mono ?_; rintro e w' ⟨rfl, rfl⟩)
          go_ret2
          exact ⟨M.out.2.2, .inl ⟨ASC.out, Ao, co, out, rfl, P.out.2.1.done, by have := P.out.2.2.2.1; omega, hco, hcm, RO.out⟩⟩
        | cons s0 tl =>
          have hq2 : wr.ownsRow w.heap.size 76 2 v (tl.length + 1) ((s0 :: tl).flatMap Src.cells) := M.out.1.2
          obtain ⟨gr, cq, rfl, hgr, hcm, hlc⟩ := own_shape hq2
          have hS : SRow w.heap.size wr gr (tl.length + 1) cq (s0 :: tl) := ⟨rfl, hq2⟩
          obtain ⟨a0, a1, -, -⟩ := hS.cells (i := 0) (s := s0) rfl
          have hg0 := P.out.2.2.1 s0 (by simp)
          obtain ⟨r0, A0, c0, x0⟩ := s0
          obtain ⟨⟨h1, h2⟩, h3, h4⟩ := hg0
          simp only [] at h1 h2 h3 h4 a0 a1
          obtain ⟨e, r, rfl⟩ := List.exists_cons_of_ne_nil h1
          obtain ⟨b, off, rfl, -, hbw, -⟩ := h2 (by simp [Ev.cells])
          have hr := h2.grown M.out.2.2 (by simp)
          have hd := Evs.load10 hr (i := 0) (by simp) (y := e) rfl
          simp only [Nat.zero_mul, Nat.add_zero] at hd
          obtain ⟨d0, d1, d2, d3, d4, d5, d6, d7, d8, d9⟩ := hd
          simp only [Nat.zero_mul, Nat.zero_add, List.length_cons] at a0 a1 h3
          have HR := Lib.hid h2
          have H4 := Lib.hid h4
          have hl9 : r.length ≤ 90000 := by
            have h5 := P.out.2.2.2.1
            have h6 := HT.out
            rw [tot_cons] at h5
            simp only [List.length_cons] at h5
            omega
          have htl : tl.length ≤ 1000 := by have h5 := P.out.2.2.2.2; simp at h5; omega
          have hbr : b < wr.heap.size := Nat.lt_of_lt_of_le hbw M.out.2.2.size
          obtain ⟨Ao, co, rfl, hco, hcom, -, hro⟩ := Rd.of_own M.out.2.1 (by decide)
          have hol : out.length ≤ 90000 := by
            have h5 := P.out.2.2.2.1
            have h6 := HT.out
            omega
          obtain ⟨W1, hW1⟩ : ∃ W1, W1 = wr.alloc (.cells e.cells.toArray 34) := ⟨_, rfl⟩
          obtain ⟨ge, hge⟩ : ∃ ge, ge = wr.heap.size := ⟨_, rfl⟩
          have M1 : Hid (MM w W1 (.slice (some ⟨gr, 0, none⟩) (tl.length + 1) cq) (⟨e :: r, some ⟨b, off, none⟩, c0, x0⟩ :: tl) (.slice Ao out.length co) out) := Lib.hid (by rw [hW1]; exact M.out.grown (only_alloc (only_refl _ _) _))
          have B1 : Hid (Blk W1 ge 34 e.cells.toArray) := Lib.hid (by rw [hW1, hge]; exact Blk.new _ _ _)
          have HW1 : Hid (wr.alloc (.cells #[.int .i64 e.host, .int .i64 e.file, .int .i64 e.beg, .int .i64 e.fin, .slice e.la e.lines.length e.lc, .int .i64 e.time, .int .i64 e.weight, .string e.trace, .string e.stream, .slice e.fa e.fields.length e.fc] 34) = W1) := Lib.hid hW1.symm
          have HGE := Lib.hid hge
          have RO1 : Hid (Rd (w.heap.size ≤ ·) W1 Ao (out.flatMap Ev.cells)) := Lib.hid (by rw [hW1]; exact hro.alloc _)
          unfold maxLen at hcom hcm
          clear hW1 hge h1 h2 h4 hr hq2 hS hro
          go_upto_region 16 with (go_at_call 34; refine (len_any _ _ _ _ _ rfl).mono ?_; rintro e w' ⟨rfl, rfl⟩)
          rw [HW1.out, ← HGE.out]
          clear d0 d1 d2 d3 d4 d5 d6 d7 d8 d9 a0 a1 q0 HW1 M
          go_upto_region 17 with fail
          obtain ⟨B, hB⟩ : ∃ B, B = lastB out e := ⟨_, rfl⟩
          have HB := Lib.hid hB
          clear hB
          go_cut [72] (fun v wx => v = .bool B ∧ W1.grownBy wx none)
          case first =>
            by_cases ho : out.length = 0
            · have o1 : ((out.length : Int) == 0) = true := by simp [ho]
              have HB2 : Hid (B = true) := Lib.hid (by rw [HB.out]; exact lastB_nil ho e)
              clear ho
              go_quiet (fail)
              go_wp2
              go_meet
              exact ⟨by rw [HB2.out], only_drewN (only_refl _ _) _⟩
            · obtain ⟨n, hn⟩ : ∃ n, out.length = n + 1 := ⟨out.length - 1, by omega⟩
              have o1 : ((out.length : Int) == 0) = false := by rw [beq_eq_false_iff_ne]; omega
              obtain ⟨bo, oo, rfl, -, -, -⟩ := RO1.out (by rw [flat_len _ 10 Ev.cells_len]; omega)
              obtain ⟨z, hz⟩ : ∃ z, out[n]'(by omega) = z := ⟨_, rfl⟩
              obtain ⟨d0, d1, d2, d3, d4, d5, d6, d7, d8, d9⟩ := Evs.load10 RO1.out (by omega) hz
              obtain ⟨b0, b1, b2, b3, b4, b5, b6, b7, b8, b9⟩ := B1.out.load10
              have HB2 : Hid (B = z.less e) := Lib.hid (by rw [HB.out]; exact lastB_at hn (by rw [← hz]; exact List.getElem?_eq_getElem _) e)
              have w2 : IntKind.i64.wrap ((out.length : Int) - 1) = (n : Int) := by rw [show (out.length : Int) - 1 = n by omega]; exact IntWalk.i64_in _ (by omega)
              have n1 : (0 : Int) ≤ (n : Int) := by omega
              have n2 : (n : Int) < (out.length : Int) := by omega
              clear hz ho hn
              go_still_tail 9, (by kernel_rfl)
              change wpList _ _ _ _ _ W1.drew
              have K : Hid (Calls Try.prog 32 #[.agg z.cells.toArray, .agg e.cells.toArray] W1.drew (BoolExt B W1.drew)) := Lib.hid (by rw [HB2.out]; exact eless_any z e W1.drew)
              clear d0 d1 d2 d3 d4 d5 d6 d7 d8 d9 b0 b1 b2 b3 b4 b5 b6 b7 b8 b9 w2 n1 n2
              go_wp2_with (go_at_call 32; refine K.out.mono ?_; rintro e w2 ⟨rfl, hg2⟩)
              go_meet
              exact ⟨rfl, only_trans (only_drew (only_refl _ _)) hg2⟩
          case rest =>
            obtain ⟨rfl, hg⟩ := hcut
            have M2 := Lib.hid (M1.out.grown hg)
            have B2 := Lib.hid (B1.out.grown hg (by simp))
            clear M1 B1 RO1 hg
            go_upto_if 72 with fail
            go_cut [8] (fun v wx => MM w wx (.slice (some ⟨gr, 0, none⟩) (tl.length + 1) cq) (⟨e :: r, some ⟨b, off, none⟩, c0, x0⟩ :: tl) v (addO out e))
            case first =>
              cases B with
              | true =>
                obtain ⟨b0, b1, b2, b3, b4, b5, b6, b7, b8, b9⟩ := B2.out.load10
                have hszc := M2.out.2.2.size
                have HB2 : Hid (addO out e = out ++ [e]) := Lib.hid (by rw [addO_eq, if_pos HB.out.symm])
                go_wp2_with (at_builtin; refine wpList_append1 rfl _ _ 26 rfl w.heap.size Try.underlying26 eventInfo rfl (by decide) (v := .slice Ao out.length co) (by rfl) (w0 := wc) (cs := e.cells.toArray) M2.out.2.1 (by rfl) rfl (by simpa using Ev.one e) (by decide) (by omega) (by omega) ?_; intro v7 w7 hown7 hg7 hob7)
                go_meet
                rw [HB2.out]
                exact M2.out.snoc hown7 hg7
              | false =>
                have HB2 : Hid (addO out e = out) := Lib.hid (by rw [addO_eq, if_neg (by rw [← HB.out]; simp)])
                go_wp2_with fail
                go_meet
                rw [HB2.out]
                exact M2.out
            case rest =>
              have M3 := Lib.hid hcut
              clear hcut M2 B2
              have q0 := M3.out.1.1.cell 0
              rw [← HGQ.out] at q0
              simp at q0
              have hS : SRow w.heap.size wc gr (tl.length + 1) cq (⟨e :: r, some ⟨b, off, none⟩, c0, x0⟩ :: tl) := ⟨rfl, M3.out.1.2⟩
              obtain ⟨a0, a1, f0, -⟩ := hS.cells (i := 0) (s := ⟨e :: r, some ⟨b, off, none⟩, c0, x0⟩) rfl
              simp only [Nat.zero_mul, Nat.zero_add, List.length_cons] at a0 a1 f0
              have h4 := H4.out
              unfold maxLen at h4
              clear hS a1
              go_upto_region 19 with fail
              go_still_tail 12, (by kernel_rfl)
              refine wpStill_tailG rfl rfl Try.underlying26 evSize (by rfl) (by omega) ?_
              repeat still_step
              refine wpStill_nil ?_
              change wpList _ _ _ _ _ wc.drew
              obtain ⟨s1, hs1⟩ : ∃ s1 : Src, s1 = ⟨r, some ⟨b, tailG off 10 c0, none⟩, c0 - 1, x0⟩ := ⟨_, rfl⟩
              obtain ⟨W5, hW5⟩ : ∃ W5, W5 = wc.drew.setCell ⟨gr, 0, none⟩ (.slice (some ⟨b, tailG off 10 c0, none⟩) r.length (c0 - 1)) := ⟨_, rfl⟩
              have M5 : Hid (MM w W5 (.slice (some ⟨gr, 0, none⟩) (tl.length + 1) cq) (s1 :: tl) u8 (addO out e)) := Lib.hid (by
                have := M3.out.tail (s1 := s1) rfl (by rw [hs1])
                rw [hW5]
                rw [hs1] at this ⊢
                exact this)
              have HW5 : Hid ((wc.setCell ⟨gr, 0, none⟩ (.slice (some ⟨b, tailG off 10 c0, none⟩) r.length (c0 - 1))).drew = W5) := Lib.hid hW5.symm
              have HS1 := Lib.hid hs1
              clear hW5 hs1
              go_upto_region 20 with fail
              rw [HW5.out]
              clear q0 a0 f0 HW5 M3
              have q0 := M5.out.1.1.cell 0
              rw [← HGQ.out] at q0
              simp at q0
              have hS : SRow w.heap.size W5 gr (tl.length + 1) cq (s1 :: tl) := ⟨rfl, M5.out.1.2⟩
              obtain ⟨a0, -, -, -⟩ := hS.cells (i := 0) (s := s1) rfl
              rw [HS1.out] at a0
              simp only [Nat.zero_mul, Nat.zero_add] at a0
              clear hS
              by_cases hre : r.length = 0
              · have hr0 : r = [] := List.eq_nil_of_length_eq_zero hre
                have i3 : (r.length : Int) = 0 := by omega
                obtain ⟨hp1, hp2⟩ := P.out.pop (s1 := s1) ASC.out (e := e) (by rw [hr0])
                have KH : Hid (Calls Try.prog 36 #[.iface 71 (.pointer (some ⟨gq, 0, none⟩))] W5 (HPopPost w.heap.size W5 gq (.slice (some ⟨gr, 0, none⟩) (tl.length + 1) cq) (((downM (swapAt (s1 :: tl) 0 tl.length) 0 tl.length).1).take tl.length))) := Lib.hid (by
                  rw [HGQ.out]
                  exact hpop_any w.heap.size (w.heap.size + 1) tl.length _ (s1 :: tl) w W5 M5.out.1 rfl M5.out.2.2 (fun k s hk hs => (P.out.2.2.1 s (by
                    obtain ⟨k', rfl⟩ : ∃ k', k = k' + 1 := ⟨k - 1, by omega⟩
                    have : tl[k']? = some s := by simpa using hs
                    simp [List.mem_of_getElem? this])).1) (Nat.le_refl _) (by simp; omega) (by omega))
                have P6 := Lib.hid hp1
                have T6 := Lib.hid hp2
                clear hp1 hp2 hre hr0
                go_wp2_with fail
                refine KH.out.mono ?_
                rintro e6 w6 ⟨⟨x6, rfl⟩, v6, hq6, hf6, -⟩
                rw [HGQ.out] at hq6 hf6
                have M6 := Lib.hid (M5.out.fr2 hq6 hf6)
                clear hq6 hf6 KH q0 a0
                go_wp2_with fail
                go_roundg (tot (((downM (swapAt (s1 :: tl) 0 tl.length) 0 tl.length).1).take tl.length))
                case measure => rw [GK.out]; exact T6.out
                case rel => exact ⟨v6, _, addO out e, rfl, M6.out, P6.out⟩
              · have i3 : (0 : Int) < (r.length : Int) := by omega
                have hne : r ≠ [] := fun e => hre (by rw [e]; rfl)
                have hsg : SGood w s1 := by
                  rw [HS1.out]
                  have h4 := H4.out
                  refine ⟨⟨hne, ?_⟩, by simp only []; omega, by simp only []; omega⟩
                  have := HR.out
                  rw [List.flatMap_cons] at this
                  exact Rd.tailG_ this (Ev.cells_len e) (flat_len _ 10 Ev.cells_len r) h3
                obtain ⟨hp1, hp2⟩ := P.out.fix (s1 := s1) ASC.out (e := e) (r := r) rfl hne (by rw [HS1.out]) (by rw [HS1.out]) hsg
                have KH : Hid (Calls Try.prog 35 #[.iface 71 (.pointer (some ⟨gq, 0, none⟩)), .int .i64 0] W5 (HeapPost w.heap.size W5 gq (.slice (some ⟨gr, 0, none⟩) (tl.length + 1) cq) (downM (s1 :: tl) 0 (s1 :: tl).length).1)) := Lib.hid (by
                  rw [HGQ.out]
                  exact hfix_any w.heap.size (w.heap.size + 1) _ (s1 :: tl) w W5 M5.out.1 (by simp) M5.out.2.2 (fun s hs => by
                    rcases List.mem_cons.1 hs with rfl | hs
                    · exact hsg.1
                    · exact (P.out.2.2.1 s (by simp [hs])).1) (Nat.le_refl _) (by simp; omega) (by omega))
                have P6 := Lib.hid hp1
                have T6 := Lib.hid hp2
                clear hp1 hp2 hre hne hsg
                go_wp2_with fail
                refine KH.out.mono ?_
                rintro e6 w6 ⟨⟨x6, rfl⟩, v6, hq6, hf6, -⟩
                rw [HGQ.out] at hq6 hf6
                have M6 := Lib.hid (M5.out.fr2 hq6 hf6)
                clear hq6 hf6 KH q0 a0
                go_wp2_with fail
                go_roundg (tot (downM (s1 :: tl) 0 (s1 :: tl).length).1)
                case measure => rw [GK.out]; exact T6.out
                case rel => exact ⟨v6, _, addO out e, rfl, M6.out, P6.out⟩
end Go.Proofs.Ytphglalphejppaa
