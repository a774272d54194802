/- Together (printed by mk42k.py). Conditions: good items that follow one another. -/
import Derived.Test.YtiogpomgpknjlaaJApl28
import Derived.Deep.RegionLaw
import Derived.Test.YtiogpomgpknjlaaJFiles
namespace Go.Proofs.Ytiogpomgpknjlaa
open Go.RowKit
set_option linter.unusedVariables false
set_option linter.unusedSimpArgs false

theorem lineInfo42 : (Try.prog.info? 122).map (fun i => (i.zero, i.size, i.bytes)) = some (some (.agg #[.int .i64 0, .int .i64 0, .string ⟨#[]⟩]), 3, 32) := by kernel_rfl
theorem Chain.append {b c : Int} {ys : List LineD} (h2 : Chain b ys c) : ∀ {xs : List LineD} {a : Int}, Chain a xs b → Chain a (xs ++ ys) c
  | [], a, h => by simp only [Chain] at h; subst h; exact h2
  | x :: xs, a, h => ⟨h.1, h.2.1, h.2.2.1, Chain.append h2 h.2.2.2⟩
/-- a line, its text blanked where asked -/
def blL (b : Bool) (z : LineD) : LineD := if b then ⟨z.off, z.len, ⟨#[]⟩⟩ else z
theorem Chain.blank (b : Bool) : ∀ {xs : List LineD} {a c : Int}, Chain a xs c → Chain a (xs.map (blL b)) c
  | [], a, c, h => h
  | x :: xs, a, c, h => by
    cases b with
    | false => exact ⟨h.1, h.2.1, h.2.2.1, Chain.blank false h.2.2.2⟩
    | true => exact ⟨h.1, (show ((⟨#[]⟩ : ByteArray).size : Int) + 1 ≤ x.len by have := h.2.1; have e : (⟨#[]⟩ : ByteArray).size = 0 := rfl; omega), h.2.2.1, Chain.blank true h.2.2.2⟩
def It.tog (x y : It) (b : Bool) (A5 : Option Addr) (c5 : Nat) : It := { y with ev := { y.ev with beg := x.ev.beg, lines := (x.ev.lines ++ y.ev.lines).map (blL b), la := A5, lc := c5 } }
theorem ItG.tog {host : Int} {x y : It} (hx : ItG host x) (hy : ItG host y) (hf : x.ev.fin = y.ev.beg) (l1 : x.ev.lines.length ≤ 3) (l2 : y.ev.lines.length ≤ 3) {b : Bool} (hb : b = false ↔ y.rule = ⟨#[]⟩) (A5 : Option Addr) (c5 : Nat) : ItG host (x.tog y b A5 c5) := by
  have hch : Chain x.ev.beg ((x.ev.lines ++ y.ev.lines).map (blL b)) y.ev.fin := (hy.pl.ch.append (by rw [← hf]; exact hx.pl.ch)).blank b
  have hlen : ((x.ev.lines ++ y.ev.lines).map (blL b)).length = x.ev.lines.length + y.ev.lines.length := by simp
  have h1 := hx.pl.l0
  have h2 := hy.pl.l0
  have h3 := hx.pl.bf
  have h4 := hy.pl.bf
  have hpl : EvPl (x.tog y b A5 c5).ev := by
    refine ⟨hy.pl.h0, hy.pl.h1, hy.pl.f0, hy.pl.f1, hx.pl.b0, ?_, hy.pl.f2, ?_, ?_, hch⟩
    · show x.ev.beg < y.ev.fin; omega
    · show 1 ≤ ((x.ev.lines ++ y.ev.lines).map (blL b)).length; omega
    · show ((x.ev.lines ++ y.ev.lines).map (blL b)).length ≤ 40; omega
  refine ⟨hy.ho, hpl, ?_, ?_⟩
  · show ((x.ev.lines ++ y.ev.lines).map (blL b)).length ≤ 6; omega
  · rcases hy.kind with ⟨k1, k2⟩ | ⟨k1, k2, k3, k4, k5, k6, k7, k8⟩
    · exact .inl ⟨k1, { k2 with b0 := hpl.b0, bf := hpl.bf, l0 := hpl.l0, l1 := hpl.l1, ch := hpl.ch }⟩
    · refine .inr ⟨k1, k2, k3, k4, k5, k6, k7, fun z hz => ?_⟩
      have hbt : b = true := by
        cases b with
        | true => rfl
        | false => have := hb.1 rfl; rw [this] at k1; exact absurd k1 (by decide)
      subst hbt
      obtain ⟨z', -, rfl⟩ := List.mem_map.1 hz
      rfl
/-- the rounds of Together -/
structure ToR (w : World) (N lb xb bb rb : Nat) (x y : It) (L : List LineD) (b : Bool) (k : Nat) (Lw : List LineD) (v : Value) (wr : World) : Prop where
  fr : w.grownBy wr none
  nb : lb < N ∧ xb < N ∧ bb < N ∧ rb < N ∧ xb ≠ lb ∧ bb ≠ lb ∧ rb ≠ lb ∧ bb ≠ xb ∧ rb ≠ xb ∧ w.heap.size ≤ xb ∧ w.heap.size ≤ lb ∧ w.heap.size ≤ N
  nw : N ≤ wr.heap.size
  bk : Blk wr bb 77 #[.string y.rule, .int .i64 y.ev.host, .int .i64 y.ev.file, .int .i64 y.ev.beg, .int .i64 y.ev.fin, .slice y.ev.la y.ev.lines.length y.ev.lc, .int .i64 y.ev.time, .int .i64 y.ev.weight, .string y.ev.trace, .string y.ev.stream, .slice y.ev.fa y.ev.fields.length y.ev.fc]
  rk : Blk wr rb 77 zeroIt
  lk : ∃ cur, Blk wr lb 122 cur ∧ ∀ j z m, k ≤ j → Lw[j]? = some z → m < 3 → cur[j * 3 + m]? = z.cells[m]?
  xk : Blk wr xb 77 #[.string y.rule, .int .i64 y.ev.host, .int .i64 y.ev.file, .int .i64 x.ev.beg, .int .i64 y.ev.fin, v, .int .i64 y.ev.time, .int .i64 y.ev.weight, .string y.ev.trace, .string y.ev.stream, .slice y.ev.fa y.ev.fields.length y.ev.fc]
  own : wr.ownsRow N 122 3 v k (((L.take k).map (blL b)).flatMap LineD.cells)
section
variable {w wr w' : World} {N lb xb bb rb k : Nat} {x y : It} {L Lw : List LineD} {b : Bool} {v : Value}
theorem ToR.nown (h : ToR w N lb xb bb rb x y L b k Lw v wr) {q : Nat} (hq : q < N) : v.ownBlock ≠ some q := fun e => by have := (h.own.lt q e).1; omega
theorem ToR.blank (h : ToR w N lb xb bb rb x y L b k Lw v wr) {z : LineD} (hz : Lw[k]? = some z) : ToR w N lb xb bb rb x y L b k (Lw.set k ⟨z.off, z.len, ⟨#[]⟩⟩) v (wr.setCell ⟨lb, k * 3 + 2, none⟩ (.string ⟨#[]⟩)) := by
  obtain ⟨n1, n2, n3, n4, n5, n6, n7, n8, n9, n10, n11, n12⟩ := h.nb
  have hs : wr.grownBy (wr.setCell ⟨lb, k * 3 + 2, none⟩ (.string ⟨#[]⟩)) (some lb) := only_setCell (only_refl _ _) (p := ⟨lb, k * 3 + 2, none⟩) (.inl rfl) _
  refine ⟨only_fresh h.fr hs n11, h.nb, Nat.le_trans h.nw hs.size, h.bk.grown hs (fun e => n6 (by injection e)), h.rk.grown hs (fun e => n7 (by injection e)), ?_, h.xk.grown hs (fun e => n5 (by injection e)), h.own.kept hs (.inr (h.nown n1))⟩
  obtain ⟨cur, h1, h2⟩ := h.lk
  refine ⟨_, h1.set_ (k * 3 + 2) (.string ⟨#[]⟩), fun j z2 m hj hz2 hm => ?_⟩
  obtain ⟨hkl, -⟩ := List.getElem?_eq_some_iff.1 hz
  by_cases hjk : j = k
  · subst hjk
    rw [List.getElem?_set_self hkl] at hz2
    injection hz2 with hz2
    subst hz2
    by_cases hm2 : m = 2
    · subst hm2
      have h3 := h2 j z 2 (Nat.le_refl _) hz (by omega)
      have hlt : j * 3 + 2 < cur.size := by
        rcases Nat.lt_or_ge (j * 3 + 2) cur.size with h4 | h4
        · exact h4
        · rw [Array.getElem?_eq_none h4] at h3; simp [LineD.cells] at h3
      rw [Array.getElem?_setIfInBounds_self_of_lt hlt]
      rfl
    · rw [Array.getElem?_setIfInBounds_ne (by omega), h2 j z m (Nat.le_refl _) hz hm]
      match m, hm2, hm with
      | 0, _, _ => rfl
      | 1, _, _ => rfl
      | 2, h9, _ => exact absurd rfl h9
      | (m + 3), _, h9 => omega
  · rw [List.getElem?_set_ne (by omega)] at hz2
    rw [Array.getElem?_setIfInBounds_ne (by omega)]
    exact h2 j z2 m hj hz2 hm
theorem ToR.step (h : ToR w N lb xb bb rb x y L b k Lw v wr) {z : LineD} (hz : L[k]? = some z) (hLw : ∀ j, k < j → Lw[j]? = L[j]?) {v' : Value} (ho : w'.ownsRow N 122 3 v' (k + 1) (((L.take k).map (blL b)).flatMap LineD.cells ++ (blL b z).cells)) (hg : wr.grownBy w' v.ownBlock) : ToR w N lb xb bb rb x y L b (k + 1) L v' (w'.setCell ⟨xb, 5, none⟩ v') := by
  obtain ⟨n1, n2, n3, n4, n5, n6, n7, n8, n9, n10, n11, n12⟩ := h.nb
  have hs : w'.grownBy (w'.setCell ⟨xb, 5, none⟩ v') (some xb) := only_setCell (only_refl _ _) (p := ⟨xb, 5, none⟩) (.inl rfl) _
  have k1 : ∀ q, q < N → some q ≠ v.ownBlock := fun q hq e => h.nown hq e.symm
  have hfr : w.grownBy w' none := only_own h.fr hg h.own n12
  refine ⟨only_fresh hfr hs n10, h.nb, Nat.le_trans h.nw (Nat.le_trans hg.size hs.size), (h.bk.grown hg (k1 _ n3)).grown hs (fun e => n8 (by injection e)), (h.rk.grown hg (k1 _ n4)).grown hs (fun e => n9 (by injection e)), ?_, by simpa using (h.xk.grown hg (k1 _ n2)).set_ 5 v', ?_⟩
  · obtain ⟨cur, h1, h2⟩ := h.lk
    exact ⟨cur, (h1.grown hg (k1 _ n1)).grown hs (fun e => n5 (by injection e with e; exact e.symm)), fun j z2 m hj hz2 hm => h2 j z2 m (by omega) (by rw [hLw j (by omega)]; exact hz2) hm⟩
  · have hk : k < L.length := (List.getElem?_eq_some_iff.1 hz).1
    have e1 : L.take (k + 1) = L.take k ++ [z] := by rw [List.take_succ_eq_append_getElem hk, (List.getElem?_eq_some_iff.1 hz).2]
    rw [e1]
    have ho2 : w'.ownsRow N 122 3 v' (k + 1) (((L.take k ++ [z]).map (blL b)).flatMap LineD.cells) := by simpa using ho
    exact ho2.kept hs (.inr (fun e => by
      have := (ho.lt xb e).1
      omega))
end
def TogP (S : Nat → Prop) (host : Int) (w : World) (e : Ending) (w' : World) : Prop :=
  ∃ z : It, e = .returned (.agg z.cells.toArray) ∧ ItG host z ∧ z.ev.Sub S w' ∧ w.grownBy w' none
set_option maxHeartbeats 8000000 in
set_option maxRecDepth 100000 in
theorem together_any {S : Nat → Prop} (host : Int) (x y : It) (w : World) (hx : ItG host x) (hy : ItG host y) (hf : x.ev.fin = y.ev.beg) (l1 : x.ev.lines.length ≤ 3) (l2 : y.ev.lines.length ≤ 3) (sx : x.ev.Sub S w) (sy : y.ev.Sub S w) (hS : ∀ b, w.heap.size ≤ b → S b) :
    Calls Try.prog 52 #[.agg x.cells.toArray, .agg y.cells.toArray] w (TogP S host w) := by
  rw [itAgg x, itAgg y]
  obtain ⟨ab, hab⟩ : ∃ b, b = w.heap.size := ⟨_, rfl⟩
  obtain ⟨bb, hbb⟩ : ∃ b, b = w.heap.size + 1 := ⟨_, rfl⟩
  obtain ⟨rb, hrb⟩ : ∃ b, b = w.heap.size + 2 := ⟨_, rfl⟩
  obtain ⟨W1, hW1⟩ : ∃ W, W = ((w.alloc (.cells #[.string x.rule, .int .i64 x.ev.host, .int .i64 x.ev.file, .int .i64 x.ev.beg, .int .i64 x.ev.fin, .slice x.ev.la x.ev.lines.length x.ev.lc, .int .i64 x.ev.time, .int .i64 x.ev.weight, .string x.ev.trace, .string x.ev.stream, .slice x.ev.fa x.ev.fields.length x.ev.fc] 77)).alloc (.cells #[.string y.rule, .int .i64 y.ev.host, .int .i64 y.ev.file, .int .i64 y.ev.beg, .int .i64 y.ev.fin, .slice y.ev.la y.ev.lines.length y.ev.lc, .int .i64 y.ev.time, .int .i64 y.ev.weight, .string y.ev.trace, .string y.ev.stream, .slice y.ev.fa y.ev.fields.length y.ev.fc] 77)).alloc (.cells #[.string ⟨#[]⟩, .int .i64 0, .int .i64 0, .int .i64 0, .int .i64 0, .slice none 0 0, .int .i64 0, .int .i64 0, .string ⟨#[]⟩, .string ⟨#[]⟩, .slice none 0 0] 77) := ⟨_, rfl⟩
  have g1 : w.grownBy W1 none := by rw [hW1]; exact only_alloc (only_alloc (only_alloc (only_refl _ _) _) _) _
  have A1 : Hid (Blk W1 ab 77 #[.string x.rule, .int .i64 x.ev.host, .int .i64 x.ev.file, .int .i64 x.ev.beg, .int .i64 x.ev.fin, .slice x.ev.la x.ev.lines.length x.ev.lc, .int .i64 x.ev.time, .int .i64 x.ev.weight, .string x.ev.trace, .string x.ev.stream, .slice x.ev.fa x.ev.fields.length x.ev.fc]) := Lib.hid (by rw [hW1, hab]; exact ((Blk.new w _ _).alloc _).alloc _)
  have B1 : Hid (Blk W1 bb 77 #[.string y.rule, .int .i64 y.ev.host, .int .i64 y.ev.file, .int .i64 y.ev.beg, .int .i64 y.ev.fin, .slice y.ev.la y.ev.lines.length y.ev.lc, .int .i64 y.ev.time, .int .i64 y.ev.weight, .string y.ev.trace, .string y.ev.stream, .slice y.ev.fa y.ev.fields.length y.ev.fc]) := Lib.hid (by rw [hW1, hbb]; have := (Blk.new (w.alloc (.cells #[.string x.rule, .int .i64 x.ev.host, .int .i64 x.ev.file, .int .i64 x.ev.beg, .int .i64 x.ev.fin, .slice x.ev.la x.ev.lines.length x.ev.lc, .int .i64 x.ev.time, .int .i64 x.ev.weight, .string x.ev.trace, .string x.ev.stream, .slice x.ev.fa x.ev.fields.length x.ev.fc] 77)) 77 #[.string y.rule, .int .i64 y.ev.host, .int .i64 y.ev.file, .int .i64 y.ev.beg, .int .i64 y.ev.fin, .slice y.ev.la y.ev.lines.length y.ev.lc, .int .i64 y.ev.time, .int .i64 y.ev.weight, .string y.ev.trace, .string y.ev.stream, .slice y.ev.fa y.ev.fields.length y.ev.fc]).alloc (.cells #[.string ⟨#[]⟩, .int .i64 0, .int .i64 0, .int .i64 0, .int .i64 0, .slice none 0 0, .int .i64 0, .int .i64 0, .string ⟨#[]⟩, .string ⟨#[]⟩, .slice none 0 0] 77); simpa using this)
  have R1 : Hid (Blk W1 rb 77 zeroIt) := Lib.hid (by rw [hW1, hrb]; have := Blk.new ((w.alloc (.cells #[.string x.rule, .int .i64 x.ev.host, .int .i64 x.ev.file, .int .i64 x.ev.beg, .int .i64 x.ev.fin, .slice x.ev.la x.ev.lines.length x.ev.lc, .int .i64 x.ev.time, .int .i64 x.ev.weight, .string x.ev.trace, .string x.ev.stream, .slice x.ev.fa x.ev.fields.length x.ev.fc] 77)).alloc (.cells #[.string y.rule, .int .i64 y.ev.host, .int .i64 y.ev.file, .int .i64 y.ev.beg, .int .i64 y.ev.fin, .slice y.ev.la y.ev.lines.length y.ev.lc, .int .i64 y.ev.time, .int .i64 y.ev.weight, .string y.ev.trace, .string y.ev.stream, .slice y.ev.fa y.ev.fields.length y.ev.fc] 77)) 77 #[.string ⟨#[]⟩, .int .i64 0, .int .i64 0, .int .i64 0, .int .i64 0, .slice none 0 0, .int .i64 0, .int .i64 0, .string ⟨#[]⟩, .string ⟨#[]⟩, .slice none 0 0]; unfold zeroIt; simpa using this)
  obtain ⟨xb, hxb⟩ : ∃ b, b = W1.heap.size := ⟨_, rfl⟩
  obtain ⟨W2, hW2⟩ : ∃ W, W = W1.alloc (.cells #[.string y.rule, .int .i64 y.ev.host, .int .i64 y.ev.file, .int .i64 y.ev.beg, .int .i64 y.ev.fin, .slice y.ev.la y.ev.lines.length y.ev.lc, .int .i64 y.ev.time, .int .i64 y.ev.weight, .string y.ev.trace, .string y.ev.stream, .slice y.ev.fa y.ev.fields.length y.ev.fc] 77) := ⟨_, rfl⟩
  have X2 : Hid (Blk W2 xb 77 #[.string y.rule, .int .i64 y.ev.host, .int .i64 y.ev.file, .int .i64 y.ev.beg, .int .i64 y.ev.fin, .slice y.ev.la y.ev.lines.length y.ev.lc, .int .i64 y.ev.time, .int .i64 y.ev.weight, .string y.ev.trace, .string y.ev.stream, .slice y.ev.fa y.ev.fields.length y.ev.fc]) := Lib.hid (by rw [hW2, hxb]; exact Blk.new W1 _ _)
  have g2 : W1.grownBy W2 none := by rw [hW2]; exact only_alloc (only_refl _ _) _
  have A2 := Lib.hid (A1.out.grown g2 (by simp))
  have B2 := Lib.hid (B1.out.grown g2 (by simp))
  have R2 := Lib.hid (R1.out.grown g2 (by simp))
  have G2 := Lib.hid (only_trans g1 g2)
  have hal : ab < xb := by rw [hxb]; exact A1.out.lt
  have hbl : bb < xb := by rw [hxb]; exact B1.out.lt
  have hrl : rb < xb := by rw [hxb]; exact R1.out.lt
  have hwx : w.heap.size ≤ xb := by rw [hxb]; exact g1.size
  have hwr : w.heap.size ≤ rb := by omega
  have HX := Lib.hid hx
  have HY := Lib.hid hy
  have SX := Lib.hid sx
  have SY := Lib.hid sy
  have HS := Lib.hid hS
  have HFF := Lib.hid hf
  have HW1 := Lib.hid hW1.symm
  have HW2 := Lib.hid hW2.symm
  have HAB := Lib.hid hab
  have HBB := Lib.hid hbb
  have HRB := Lib.hid hrb
  have HXB := Lib.hid hxb
  have y0 := (B1.out).cell 0; have y1 := (B1.out).cell 1; have y2 := (B1.out).cell 2; have y3 := (B1.out).cell 3; have y4 := (B1.out).cell 4; have y5 := (B1.out).cell 5; have y6 := (B1.out).cell 6; have y7 := (B1.out).cell 7; have y8 := (B1.out).cell 8; have y9 := (B1.out).cell 9; have y10 := (B1.out).cell 10; simp at y0 y1 y2 y3 y4 y5 y6 y7 y8 y9 y10
  clear hW1 hab hbb hrb hxb hW2 g1 g2 hx hy sx sy hS hf
  go_enter Try.func52, Try.ntmps52
  go_upto_region 1 with fail
  rw [HW1.out, ← HRB.out, ← HBB.out, ← HAB.out]
  go_upto_region 2 with fail
  rw [HW2.out, ← HXB.out]
  clear y0 y1 y2 y3 y4 y5 y6 y7 y8 y9 y10
  have a0 := (A2.out).cell 0; have a1 := (A2.out).cell 1; have a2 := (A2.out).cell 2; have a3 := (A2.out).cell 3; have a4 := (A2.out).cell 4; have a5 := (A2.out).cell 5; have a6 := (A2.out).cell 6; have a7 := (A2.out).cell 7; have a8 := (A2.out).cell 8; have a9 := (A2.out).cell 9; have a10 := (A2.out).cell 10; simp at a0 a1 a2 a3 a4 a5 a6 a7 a8 a9 a10
  have x0 := (X2.out).cell 0; have x1 := (X2.out).cell 1; have x2 := (X2.out).cell 2; have x3 := (X2.out).cell 3; have x4 := (X2.out).cell 4; have x5 := (X2.out).cell 5; have x6 := (X2.out).cell 6; have x7 := (X2.out).cell 7; have x8 := (X2.out).cell 8; have x9 := (X2.out).cell 9; have x10 := (X2.out).cell 10; simp at x0 x1 x2 x3 x4 x5 x6 x7 x8 x9 x10
  have f0 := (X2.out).frozen 0; have f1 := (X2.out).frozen 1; have f2 := (X2.out).frozen 2; have f3 := (X2.out).frozen 3; have f4 := (X2.out).frozen 4; have f5 := (X2.out).frozen 5; have f6 := (X2.out).frozen 6; have f7 := (X2.out).frozen 7; have f8 := (X2.out).frozen 8; have f9 := (X2.out).frozen 9; have f10 := (X2.out).frozen 10
  obtain ⟨W3, hW3⟩ : ∃ W, W = (W2.setCell ⟨xb, 3, none⟩ (.int .i64 x.ev.beg)).setCell ⟨xb, 5, none⟩ (.slice none 0 0) := ⟨_, rfl⟩
  have g3 : W2.grownBy W3 (some xb) := by rw [hW3]; exact only_setCell (only_setCell (only_refl _ _) (p := ⟨xb, 3, none⟩) (.inl rfl) _) (p := ⟨xb, 5, none⟩) (.inl rfl) _
  have X3 : Hid (Blk W3 xb 77 #[.string y.rule, .int .i64 y.ev.host, .int .i64 y.ev.file, .int .i64 x.ev.beg, .int .i64 y.ev.fin, .slice none 0 0, .int .i64 y.ev.time, .int .i64 y.ev.weight, .string y.ev.trace, .string y.ev.stream, .slice y.ev.fa y.ev.fields.length y.ev.fc]) := Lib.hid (by rw [hW3]; simpa using (X2.out.set_ 3 (.int .i64 x.ev.beg)).set_ 5 (.slice none 0 0))
  go_upto_region 4 with fail
  rw [← hW3]
  clear hW3 x0 x1 x2 x3 x4 x5 x6 x7 x8 x9 x10 f0 f1 f2 f3 f4 f5 f6 f7 f8 f9 f10 a0 a1 a2 a3 a4 a5 a6 a7 a8 a9 a10
  have A3 := Lib.hid (A2.out.grown g3 (fun e => by injection e with e; omega))
  have B3 := Lib.hid (B2.out.grown g3 (fun e => by injection e with e; omega))
  have R3 := Lib.hid (R2.out.grown g3 (fun e => by injection e with e; omega))
  have G3 := Lib.hid (only_fresh G2.out g3 hwx)
  clear g3
  have LX := Lib.hid ((SX.out.1.mono (S' := (· < w.heap.size)) (fun b _ h => h)).grown G3.out (by simp))
  have LY := Lib.hid ((SY.out.1.mono (S' := (· < w.heap.size)) (fun b _ h => h)).grown G3.out (by simp))
  have a5 := (A3.out).cell 5; simp at a5
  have b5 := (B3.out).cell 5; simp at b5
  obtain ⟨nx, hnx⟩ : ∃ n, n = x.ev.lines.length := ⟨_, rfl⟩
  obtain ⟨ny, hny⟩ : ∃ n, n = y.ev.lines.length := ⟨_, rfl⟩
  have hxlt := X3.out.lt
  have hal3 := A3.out.lt
  have tok1 : True := trivial
  go_cut [6] (fun v wx => W3.grownBy wx none ∧ wx.ownsRow W3.heap.size 122 3 v (x.ev.lines.length + y.ev.lines.length) ((x.ev.lines ++ y.ev.lines).flatMap LineD.cells))
  case first =>
    go_region_law (first
      | (have htok := hown7; go_must (refine step_appendN rfl _ _ 72 rfl W3.heap.size Try.underlying72 lineInfo42 rfl (by decide) (v := v7) (by rfl) hown7 y.ev.la y.ev.lines.length y.ev.lc (news := y.ev.lines.flatMap LineD.cells) (by rfl) LY7.out (by rw [flat_len _ 3 LineD.cells_len]) (flat_one LineD.one _) (by decide) (by omega) (by omega) ?_); intro v8 w8 hown8 hg8 hob8)
      | (have htok := tok1; go_must (refine step_appendN rfl _ _ 72 rfl W3.heap.size Try.underlying72 lineInfo42 rfl (by decide) (v := .slice none 0 0) (by rfl) (World.ownsRow_nil _ _ _ _) x.ev.la x.ev.lines.length x.ev.lc (news := x.ev.lines.flatMap LineD.cells) (by rfl) LX.out (by rw [flat_len _ 3 LineD.cells_len]) (flat_one LineD.one _) (by decide) (by omega) (by simp) ?_); intro v7 w7 hown7 hg7 hob7; clear tok1; have g7 : W3.grownBy w7 none := only_trans (only_drew (only_refl _ _)) (by simpa [Value.ownBlock] using hg7); have LY7 := Lib.hid (LY.out.grown g7 (by simp)); have hz7 := g7.size; have q5 := (B3.out.grown g7 (by simp)).cell 5; simp at q5))
    all_goals
      have O8 : Hid (w8.ownsRow W3.heap.size 122 3 v8 (x.ev.lines.length + y.ev.lines.length) ((x.ev.lines ++ y.ev.lines).flatMap LineD.cells)) := Lib.hid (by simpa using hown8)
      have G8 : Hid (W3.grownBy w8 none) := Lib.hid (only_own g7 hg8 hown7 (Nat.le_refl _))
      clear hown7 hown8 hg7 hg8 hob7 hob8 g7
      go_wp2_with fail
      go_meet
      exact ⟨G8.out, O8.out⟩
  case rest =>
    obtain ⟨hg4, hown4⟩ := hcut
    obtain ⟨W4, rfl⟩ : ∃ q, q = wc := ⟨_, rfl⟩
    have hl1 := HX.out.pl.l0
    have hl2 := HY.out.pl.l0
    obtain ⟨L, hL⟩ : ∃ L, L = x.ev.lines ++ y.ev.lines := ⟨_, rfl⟩
    have hLn : L.length = x.ev.lines.length + y.ev.lines.length := by rw [hL]; simp
    rw [← hL, ← hLn] at hown4
    obtain ⟨hxs, ⟨-, hbad⟩ | ⟨lb, c6, cur, rfl, hlb, hcur, hc6, hcm6, hcz, htk⟩⟩ := hown4
    · omega
    obtain ⟨bl, hbl9⟩ : ∃ b : Bool, b = !y.rule.toList.isEmpty := ⟨_, rfl⟩
    have T0 : Hid (ToR w W4.heap.size lb xb bb rb x y L bl 0 L (.slice none 0 0) W4) := Lib.hid ⟨only_trans G3.out hg4, ⟨by have := (Array.getElem?_eq_some_iff.1 hcur).1; exact this, by have := hg4.size; omega, by have := hg4.size; omega, by have := hg4.size; omega, by omega, by omega, by omega, by omega, by omega, hwx, by omega, by have := hg4.size; omega⟩, Nat.le_refl _, B3.out.grown hg4 (by simp), R3.out.grown hg4 (by simp), ⟨cur, hcur, fun j z m _ hz hm => by
        obtain ⟨hjl, hjz⟩ := List.getElem?_eq_some_iff.1 hz
        have h0 := flat_at LineD.cells 3 LineD.cells_len L j m hjl hm
        rw [hjz, ← htk] at h0
        rw [← h0, List.getElem?_take_of_lt (by omega)]
        simp⟩, X3.out.grown hg4 (by simp), World.ownsRow_nil _ _ _ _⟩
    have hl6 : L.length ≤ 6 := by omega
    clear hLn
    have HL := Lib.hid hL
    have HBL := Lib.hid hbl9
    clear hg4 hxs hlb hcur hcz htk hL hbl9 a5 b5 tok1
    go_wp2_with fail
    go_loopw [7] (fun vi wr => ∃ (k : Nat) (v : Value), vi = .int .i64 k ∧ k ≤ L.length ∧ ToR w W4.heap.size lb xb bb rb x y L bl k L v wr) (fun vi _ => L.length - (intOf vi).toNat)
    case atStart => exact ⟨0, _, rfl, Nat.zero_le _, T0.out⟩
    case round =>
      obtain ⟨k, v, rfl, hk, hT⟩ := hrel
      have TR := Lib.hid hT
      clear hT
      by_cases hlt : k < L.length
      · obtain ⟨z, hz⟩ : ∃ z, L[k]? = some z := ⟨_, List.getElem?_eq_getElem hlt⟩
        have HZ := Lib.hid hz
        have i1 : (k : Int) < (L.length : Int) := by omega
        have i2 : (0 : Int) ≤ (k : Int) := by omega
        have b0 := TR.out.bk.cell 0
        simp at b0
        clear hz
        go_upto_if 32 with fail
        clear b0
        go_cut [] (fun wx => ∃ Lw : List LineD, ToR w W4.heap.size lb xb bb rb x y L bl k Lw v wx ∧ Lw[k]? = some (blL bl z) ∧ ∀ j, k < j → Lw[j]? = L[j]?)
        case first =>
          cases bl with
          | false =>
            have e0 : y.rule.toList.isEmpty = true := by have h0 := HBL.out; revert h0; cases y.rule.toList.isEmpty with | false => intro h0; exact absurd h0 (by decide) | true => intro _; rfl
            rw [e0]
            simp only [Bool.not_true]
            clear e0
            go_wp2_with fail
            go_meet
            exact ⟨L, TR.out, HZ.out, fun _ _ => rfl⟩
          | true =>
            have e0 : y.rule.toList.isEmpty = false := by have h0 := HBL.out; revert h0; cases y.rule.toList.isEmpty with | true => intro h0; exact absurd h0 (by decide) | false => intro _; rfl
            rw [e0]
            simp only [Bool.not_false]
            clear e0
            obtain ⟨cur, q1, q2⟩ := TR.out.lk
            have c2 := q1.cell (k * 3 + 2)
            rw [q2 k z 2 (Nat.le_refl _) HZ.out (by omega)] at c2
            have f2 := q1.frozen (k * 3 + 2)
            simp [LineD.cells] at c2
            clear q1 q2
            go_wp2_with fail
            go_meet
            exact ⟨_, TR.out.blank HZ.out, by rw [List.getElem?_set_self hlt]; rfl, fun j hj => List.getElem?_set_ne (by omega)⟩
        case rest =>
          obtain ⟨Lw, hT2, hzz, hLw⟩ := hcut
          have T2 := Lib.hid hT2
          have HLW := Lib.hid hLw
          obtain ⟨zz, hzd⟩ : ∃ q, q = blL bl z := ⟨_, rfl⟩
          rw [← hzd] at hzz
          have HZD := Lib.hid hzd
          obtain ⟨cur, q1, q2⟩ := hT2.lk
          have c0 := q1.cell (k * 3 + 0)
          have c1 := q1.cell (k * 3 + 1)
          have c2 := q1.cell (k * 3 + 2)
          rw [q2 k zz 0 (Nat.le_refl _) hzz (by omega)] at c0
          rw [q2 k zz 1 (Nat.le_refl _) hzz (by omega)] at c1
          rw [q2 k zz 2 (Nat.le_refl _) hzz (by omega)] at c2
          simp [LineD.cells] at c0 c1 c2
          have x5 := hT2.xk.cell 5
          simp at x5
          have hnw := hT2.nw
          have hxn2 := hT2.xk.lt
          have hxne2 : xb ≠ wc.heap.size := by omega
          have hxne3 : ¬ xb = wc.heap.size := hxne2
          have hk9 : k ≤ 1000 := by omega
          clear hT2 hzz hLw hzd q1 q2
          go_upto_region 10 with fail
          go_region_law (first
            | (go_must (refine step_append1 rfl _ _ 72 rfl W4.heap.size Try.underlying72 lineInfo42 rfl (by decide) (v := v) (by rfl) (w0 := wc) (cs := #[.int .i64 zz.off, .int .i64 zz.len, .string zz.text]) (by rfl) (by rfl) (by rfl) (by rfl) T2.out.own (by rfl) rfl (by simp [Value.oneCell']) (by decide) (by omega) (by omega) ?_); intro v7 w7 hown7 hg7 hob7; have XQ := T2.out.xk.grown hg7 (fun e => T2.out.nown T2.out.nb.2.1 e.symm); have y5 : w7.cell? ⟨xb, 5, none⟩ = some v := (XQ.cell 5).trans rfl; have g5 : w7.frozen? ⟨xb, 5, none⟩ = false := XQ.frozen 5; clear XQ; obtain ⟨A7, c7, rfl, -, -, -, -⟩ := Rd.of_own hown7 (by decide)))
          all_goals
            have TN := Lib.hid (T2.out.step (v' := .slice A7 (k + 1) c7) HZ.out HLW.out (by rw [← HZD.out]; simpa [LineD.cells] using hown7) hg7)
            clear hown7 hg7 hob7 c0 c1 c2 x5
            go_wp2_with fail
            go_roundw
            case rel => exact ⟨k + 1, .slice A7 (k + 1) c7, by go_num, by omega, TN.out⟩
            case measure => simp [intOf]; omega
      · have i1 : ¬ ((k : Int) < (L.length : Int)) := by omega
        obtain rfl : k = L.length := by omega
        obtain ⟨A5, c5, e5, hc5, hm5, -, hr5⟩ := Rd.of_own TR.out.own (by decide)
        subst e5
        have HR5 := Lib.hid hr5
        have hX := TR.out.xk
        have hR := TR.out.rk
        have x0 := (hX).cell 0; have x1 := (hX).cell 1; have x2 := (hX).cell 2; have x3 := (hX).cell 3; have x4 := (hX).cell 4; have x5 := (hX).cell 5; have x6 := (hX).cell 6; have x7 := (hX).cell 7; have x8 := (hX).cell 8; have x9 := (hX).cell 9; have x10 := (hX).cell 10; simp at x0 x1 x2 x3 x4 x5 x6 x7 x8 x9 x10
        have q0 := (hR).cell 0; have q1 := (hR).cell 1; have q2 := (hR).cell 2; have q3 := (hR).cell 3; have q4 := (hR).cell 4; have q5 := (hR).cell 5; have q6 := (hR).cell 6; have q7 := (hR).cell 7; have q8 := (hR).cell 8; have q9 := (hR).cell 9; have q10 := (hR).cell 10; simp [zeroIt] at q0 q1 q2 q3 q4 q5 q6 q7 q8 q9 q10; have p0 := (hR).frozen 0; have p1 := (hR).frozen 1; have p2 := (hR).frozen 2; have p3 := (hR).frozen 3; have p4 := (hR).frozen 4; have p5 := (hR).frozen 5; have p6 := (hR).frozen 6; have p7 := (hR).frozen 7; have p8 := (hR).frozen 8; have p9 := (hR).frozen 9; have p10 := (hR).frozen 10
        obtain ⟨W9, hW9⟩ : ∃ W, W = ((((((((((wr.setCell ⟨rb, 0, none⟩ (.string y.rule)).setCell ⟨rb, 1, none⟩ (.int .i64 y.ev.host)).setCell ⟨rb, 2, none⟩ (.int .i64 y.ev.file)).setCell ⟨rb, 3, none⟩ (.int .i64 x.ev.beg)).setCell ⟨rb, 4, none⟩ (.int .i64 y.ev.fin)).setCell ⟨rb, 5, none⟩ (.slice A5 L.length c5)).setCell ⟨rb, 6, none⟩ (.int .i64 y.ev.time)).setCell ⟨rb, 7, none⟩ (.int .i64 y.ev.weight)).setCell ⟨rb, 8, none⟩ (.string y.ev.trace)).setCell ⟨rb, 9, none⟩ (.string y.ev.stream)).setCell ⟨rb, 10, none⟩ (.slice y.ev.fa y.ev.fields.length y.ev.fc) := ⟨_, rfl⟩
        have P9 : Blk W9 rb 77 #[.string y.rule, .int .i64 y.ev.host, .int .i64 y.ev.file, .int .i64 x.ev.beg, .int .i64 y.ev.fin, .slice A5 L.length c5, .int .i64 y.ev.time, .int .i64 y.ev.weight, .string y.ev.trace, .string y.ev.stream, .slice y.ev.fa y.ev.fields.length y.ev.fc] := by rw [hW9]; exact hR.set11 (.string y.rule) (.int .i64 y.ev.host) (.int .i64 y.ev.file) (.int .i64 x.ev.beg) (.int .i64 y.ev.fin) (.slice A5 L.length c5) (.int .i64 y.ev.time) (.int .i64 y.ev.weight) (.string y.ev.trace) (.string y.ev.stream) (.slice y.ev.fa y.ev.fields.length y.ev.fc)
        have g9 : wr.grownBy W9 (some rb) := by rw [hW9]; exact only_set11 (only_refl _ _) (.string y.rule) (.int .i64 y.ev.host) (.int .i64 y.ev.file) (.int .i64 x.ev.beg) (.int .i64 y.ev.fin) (.slice A5 L.length c5) (.int .i64 y.ev.time) (.int .i64 y.ev.weight) (.string y.ev.trace) (.string y.ev.stream) (.slice y.ev.fa y.ev.fields.length y.ev.fc)
        have hnb := TR.out.nb.2.2.2.1
        have hwn := TR.out.nb.2.2.2.2.2.2.2.2.2.2.2
        have HLen : Hid ((x.tog y bl A5 c5).ev.lines.length = L.length) := Lib.hid (by show ((x.ev.lines ++ y.ev.lines).map (blL bl)).length = _; rw [← HL.out]; simp)
        have GF := only_fresh TR.out.fr g9 hwr
        have HF : Hid (TogP S host w (.returned (.agg #[.string y.rule, .int .i64 y.ev.host, .int .i64 y.ev.file, .int .i64 x.ev.beg, .int .i64 y.ev.fin, .slice A5 L.length c5, .int .i64 y.ev.time, .int .i64 y.ev.weight, .string y.ev.trace, .string y.ev.stream, .slice y.ev.fa y.ev.fields.length y.ev.fc])) W9) := Lib.hid ⟨x.tog y bl A5 c5, by
            rw [itAgg, HLen.out]; rfl,
          HX.out.tog HY.out HFF.out l1 l2 (by
            rw [HBL.out]
            constructor
            · intro h
              rcases HY.out.kind with ⟨k1, -⟩ | ⟨k1, -, -⟩
              · exact k1
              · have := rule_ne k1; rw [this] at h; cases h
            · intro h; rw [h, ByteArray.toList_eq]; rfl) A5 c5,
          ⟨by
            have h0 := ((HR5.out.grown g9 (fun b hb e => by have h0 : W4.heap.size ≤ b := hb; injection e with e; omega)).mono (S' := S) (fun b hb _ => HS.out b (Nat.le_trans hwn hb)))
            rw [List.take_length, HL.out] at h0
            exact h0,
           ((SY.out.2.1.mono (S' := fun b => S b ∧ b < w.heap.size) (fun b hb hlt => ⟨hb, hlt⟩)).grown GF (by simp)).mono (fun b hb _ => hb.1), by rw [HLen.out]; exact hc5, hm5, SY.out.2.2.2.2.1, SY.out.2.2.2.2.2⟩, GF⟩
        have D := Lib.hid P9
        have HW9 := Lib.hid hW9.symm
        clear P9 g9 hW9 hX hR hr5 GF
        go_wp2_with fail
        rw [HW9.out]
        have d0 := (D.out).cell 0; have d1 := (D.out).cell 1; have d2 := (D.out).cell 2; have d3 := (D.out).cell 3; have d4 := (D.out).cell 4; have d5 := (D.out).cell 5; have d6 := (D.out).cell 6; have d7 := (D.out).cell 7; have d8 := (D.out).cell 8; have d9 := (D.out).cell 9; have d10 := (D.out).cell 10; clear x0 x1 x2 x3 x4 x5 x6 x7 x8 x9 x10 q0 q1 q2 q3 q4 q5 q6 q7 q8 q9 q10 p0 p1 p2 p3 p4 p5 p6 p7 p8 p9 p10; simp at d0 d1 d2 d3 d4 d5 d6 d7 d8 d9 d10
        exact bodyPost_ret (v := .agg #[.string y.rule, .int .i64 y.ev.host, .int .i64 y.ev.file, .int .i64 x.ev.beg, .int .i64 y.ev.fin, .slice A5 L.length c5, .int .i64 y.ev.time, .int .i64 y.ev.weight, .string y.ev.trace, .string y.ev.stream, .slice y.ev.fa y.ev.fields.length y.ev.fc]) (by simp [results, Try.results52, go_sem, d0, d1, d2, d3, d4, d5, d6, d7, d8, d9, d10]) rfl HF.out
end Go.Proofs.Ytiogpomgpknjlaa

namespace Go.Proofs.Ytiogpomgpknjlaa
open Go.RowKit
set_option linter.unusedVariables false
set_option linter.unusedSimpArgs false

theorem lowTab : ∀ s ∈ nameTab, LowName s ∧ s.size ≤ 20 := by
  intro s hs
  simp only [nameTab, List.mem_cons, List.not_mem_nil, or_false] at hs
  rcases hs with rfl | rfl | rfl | rfl <;> exact ⟨⟨by decide, by decide, by decide⟩, by decide⟩
theorem nameTab_srt : Srt nameTab := by
  simp [Srt, nameTab, sl, ByteArray.toList_eq, Op.bytesLess]
theorem ItOk.g {host file beg : Int} {x : It} (h : ItOk host file beg x) (h0 : 0 ≤ host ∧ host ≤ 999) (f0 : 0 ≤ file ∧ file ≤ 2147483646) (b0 : 0 ≤ beg) (hf : x.ev.fin ≤ 60000) : ItG host x := by
  obtain ⟨e1, e2, e3, hc, l1, l3, hk⟩ := h
  have hle := hc.le
  have hpl : EvPl x.ev := ⟨by omega, by omega, by omega, by omega, by omega, by omega, hf, l1, by omega, by rw [e3]; exact hc⟩
  refine ⟨e1, hpl, by omega, ?_⟩
  rcases hk with ⟨k1, t0, t1, hw, htr, hst, hfo⟩ | k
  · refine .inl ⟨k1, ?_⟩
    have hsub : (x.ev.fields.map FieldD.name).Sublist nameTab := by have := hfo.1; rwa [show nameTab.take 4 = nameTab from rfl] at this
    have hnm : ∀ f ∈ x.ev.fields, LowName f.name ∧ f.name.size ≤ 20 := fun f hf' => lowTab _ (hsub.subset (List.mem_map_of_mem (f := FieldD.name) hf'))
    have hfl : x.ev.fields.length ≤ 4 := by have := hsub.length_le; simp [nameTab] at this; omega
    exact ⟨hpl.h0, hpl.h1, hpl.f0, hpl.f1, hpl.b0, hpl.bf, hpl.f2, t0, t1, hw, hpl.l0, hpl.l1, hpl.ch, by omega, by omega, by omega, fun f hf' => (hnm f hf').1, nameTab_srt.sublist hsub, fun f hf' => by have := hfo.2 f hf'; omega⟩
  · exact .inr k
theorem ItChain.at {host file : Int} : ∀ {xs : List It} {a b : Int} {i : Nat} {x : It}, ItChain host file a xs b → xs[i]? = some x → ∃ beg, ItOk host file beg x ∧ a ≤ beg ∧ x.ev.fin ≤ b
  | [], _, _, _, _, _, hx => by simp at hx
  | y :: ys, a, b, 0, x, h, hx => by
    simp at hx
    subst hx
    have := h.2.le
    exact ⟨a, h.1, by omega, by omega⟩
  | y :: ys, a, b, i + 1, x, h, hx => by
    obtain ⟨beg, h1, h2, h3⟩ := ItChain.at h.2 (i := i) (by simpa using hx)
    have hle := h.1.2.2.2.1.le
    exact ⟨beg, h1, by omega, h3⟩
theorem ItChain.next {host file : Int} : ∀ {xs : List It} {a b : Int} {i : Nat} {x y : It}, ItChain host file a xs b → xs[i]? = some x → xs[i + 1]? = some y → x.ev.fin = y.ev.beg
  | [], _, _, _, _, _, _, hx, _ => by simp at hx
  | [z], _, _, 0, _, _, _, _, hy => by simp at hy
  | z :: z2 :: zs, a, b, 0, x, y, h, hx, hy => by
    simp at hx hy
    subst hx hy
    exact h.2.1.2.2.1.symm
  | z :: zs, a, b, i + 1, x, y, h, hx, hy => ItChain.next h.2 (i := i) (by simpa using hx) (by simpa using hy)
theorem ItChain.g {host file most : Int} {xs : List It} {b : Int} (h : ItChain host file 0 xs b) (hl : (xs.length : Int) ≤ most) (hm : most ≤ 300) (h0 : 0 ≤ host ∧ host ≤ 999) (f0 : 0 ≤ file ∧ file ≤ 2147483646) {i : Nat} {x : It} (hx : xs[i]? = some x) : ItG host x ∧ x.ev.lines.length ≤ 3 := by
  obtain ⟨beg, h1, h2, h3⟩ := h.at hx
  have := h.le.2
  exact ⟨h1.g h0 f0 h2 (by omega), h1.2.2.2.2.2.1⟩
end Go.Proofs.Ytiogpomgpknjlaa
