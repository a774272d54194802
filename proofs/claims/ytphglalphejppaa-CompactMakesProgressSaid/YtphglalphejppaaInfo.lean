/- Info of events, both texts. No condition. -/
import Derived.Test.YtphglalphejppaaEvents
import Derived.RegionTactic
import Derived.StillTailTactics
namespace Go.Proofs.Ytphglalphejppaa
open Go.RowKit
set_option linter.unusedVariables false
set_option linter.unusedSimpArgs false

def minT : List Ev → Int
  | [] => 0
  | e :: es => es.foldl (fun m x => min m x.time) e.time
def maxT : List Ev → Int
  | [] => 0
  | e :: es => es.foldl (fun m x => max m x.time) e.time
theorem minT_snoc {l : List Ev} (x : Ev) (h : 0 < l.length) : minT (l ++ [x]) = min (minT l) x.time := by
  cases l with
  | nil => simp at h
  | cons y ys => simp [minT]
theorem maxT_snoc {l : List Ev} (x : Ev) (h : 0 < l.length) : maxT (l ++ [x]) = max (maxT l) x.time := by
  cases l with
  | nil => simp at h
  | cons y ys => simp [maxT]
theorem minT_one (x : Ev) : minT [x] = x.time := rfl
theorem maxT_one (x : Ev) : maxT [x] = x.time := rfl
def siRow (a0 a1 a2 a3 a4 a5 a6 : Int) : Array Value := #[.int .i64 a0, .int .i64 a1, .int .i64 a2, .int .i64 a3, .int .i64 a4, .int .i64 a5, .int .i64 a6]
def InfoPost (w : World) (es : List Ev) (level tier size : Int) (e : Ending) (w' : World) : Prop :=
  e = .returned (.agg (siRow 0 level tier es.length (minT es) (maxT es) size)) ∧ w.grownBy w' none

section
variable {P : Program} {Q : Exit → Act → World → Prop} {ops : Array Oper} {hd : List Oper} {a : Act} {R : World → World → Prop} {G : World → Prop} {φs : List (Value → World → Prop)} {i : Nat} {o : Oper}
theorem StepOk.still (hg : o.guard = none) (hap : dstApart hd = true) (hR : ∀ w, R w w) (h : ∀ u ρ w, Known ops hd a G φs i u ρ w → ∃ v, (execOp ρ o).run P w = .ok (.value v) w ∧ phi φs i v w) : StepOk P Q ops hd a R G φs i o :=
  .run hg hap fun u ρ w k => by
    obtain ⟨v, h1, h2⟩ := h u ρ w k
    exact ⟨v, w, h1, k.good, hR w, h2⟩
end
theorem fa_si4 (w : World) (g : Nat) : (Instr.fieldAt 29 (.pointer (some ⟨g, 0, none⟩)) 4).run Try.prog w = .ok (.pointer (some ⟨g, 4, none⟩)) w := by simp [go_sem]
theorem fa_si5 (w : World) (g : Nat) : (Instr.fieldAt 29 (.pointer (some ⟨g, 0, none⟩)) 5).run Try.prog w = .ok (.pointer (some ⟨g, 5, none⟩)) w := by simp [go_sem]
theorem fa_ev5 (w : World) (g : Nat) : (Instr.fieldAt 34 (.pointer (some ⟨g, 0, none⟩)) 5).run Try.prog w = .ok (.pointer (some ⟨g, 5, none⟩)) w := by simp [go_sem]
theorem load_int (w : World) (p : Addr) (n : Int) (h : w.cell? p = some (.int .i64 n)) : (Instr.loadAt 3 (.pointer (some p))).run Try.prog w = .ok (.int .i64 n) w := by
  have := Try.underlying3
  simp [go_sem, h]
theorem store_int (w : World) (g i : Nat) (n : Int) {t : TypeId} {cs : Array Value} (h : Blk w g t cs) (hi : i < cs.size) : (Instr.storeAt 3 (.pointer (some ⟨g, i, none⟩)) (.int .i64 n)).run Try.prog w = .ok () (w.setCell ⟨g, i, none⟩ (.int .i64 n)) := by
  have c0 := h.cell i
  have f0 := h.frozen i
  rw [Array.getElem?_eq_getElem hi] at c0
  have hu := Try.underlying3
  simp [go_sem, c0, f0]
theorem run_min (ρ : Operand → Value) (w : World) (x y : Nat) (a b : Int) (hx : ρ (.tmp x) = .int .i64 a) (hy : ρ (.tmp y) = .int .i64 b) {o : Oper} (ho : o.op = .call { callee := .builtin .min, args := #[.tmp x, .tmp y], argTypes := #[3, 3] }) : (execOp ρ o).run Try.prog w = .ok (.value (.int .i64 (min a b))) w := by
  simp [execOp, ho, resolve, invoke, builtin, hx, hy, go_sem]
  omega
theorem run_max (ρ : Operand → Value) (w : World) (x y : Nat) (a b : Int) (hx : ρ (.tmp x) = .int .i64 a) (hy : ρ (.tmp y) = .int .i64 b) {o : Oper} (ho : o.op = .call { callee := .builtin .max, args := #[.tmp x, .tmp y], argTypes := #[3, 3] }) : (execOp ρ o).run Try.prog w = .ok (.value (.int .i64 (max a b))) w := by
  simp [execOp, ho, resolve, invoke, builtin, hx, hy, go_sem]
  omega
theorem only_setNew {a w : World} {row : Option Nat} (h : a.grownBy w row) {p : Addr} (hp : a.heap.size ≤ p.block) (u : Value) : a.grownBy (w.setCell p u) row :=
  only_fresh h (grown_setCell w p u) hp
/-- the memory of Info while an event is looked at -/
def IM (w0 : World) (r eB : Nat) (level tier n size : Int) (y : Ev) (m4 m5 : Int) (w : World) : Prop :=
  Blk w r 29 (siRow 0 0 0 0 0 0 0) ∧ Blk w (r + 1) 29 (siRow 0 level tier n m4 m5 size) ∧ Blk w eB 34 y.cells.toArray ∧ w0.grownBy w none ∧ r + 1 < eB ∧ w0.heap.size ≤ r
theorem IM.set4 {w0 : World} {r eB : Nat} {level tier n size : Int} {y : Ev} {m4 m5 : Int} {w : World} (h : IM w0 r eB level tier n size y m4 m5 w) (x : Int) : IM w0 r eB level tier n size y x m5 (w.setCell ⟨r + 1, 4, none⟩ (.int .i64 x)) := by
  obtain ⟨h1, h2, h3, h4, h5, h6⟩ := h
  exact ⟨h1.grown (grown_setCell w ⟨r + 1, 4, none⟩ _) (by simp), by simpa [siRow] using h2.set_ 4 (.int .i64 x), h3.grown (grown_setCell w ⟨r + 1, 4, none⟩ _) (by simp; omega), only_setNew h4 (by simp; omega) _, h5, h6⟩
theorem IM.set5 {w0 : World} {r eB : Nat} {level tier n size : Int} {y : Ev} {m4 m5 : Int} {w : World} (h : IM w0 r eB level tier n size y m4 m5 w) (x : Int) : IM w0 r eB level tier n size y m4 x (w.setCell ⟨r + 1, 5, none⟩ (.int .i64 x)) := by
  obtain ⟨h1, h2, h3, h4, h5, h6⟩ := h
  exact ⟨h1.grown (grown_setCell w ⟨r + 1, 5, none⟩ _) (by simp), by simpa [siRow] using h2.set_ 5 (.int .i64 x), h3.grown (grown_setCell w ⟨r + 1, 5, none⟩ _) (by simp; omega), only_setNew h4 (by simp; omega) _, h5, h6⟩
theorem IM.drew {w0 : World} {r eB : Nat} {level tier n size : Int} {y : Ev} {m4 m5 : Int} {w : World} (h : IM w0 r eB level tier n size y m4 m5 w) : IM w0 r eB level tier n size y m4 m5 w.drew := ⟨h.1, h.2.1, h.2.2.1, only_drew h.2.2.2.1, h.2.2.2.2⟩
theorem IM.c4 {w0 : World} {r eB : Nat} {level tier n size : Int} {y : Ev} {m4 m5 : Int} {w : World} (h : IM w0 r eB level tier n size y m4 m5 w) : w.cell? ⟨r + 1, 4, none⟩ = some (.int .i64 m4) := (h.2.1.cell 4).trans rfl
theorem IM.c5 {w0 : World} {r eB : Nat} {level tier n size : Int} {y : Ev} {m4 m5 : Int} {w : World} (h : IM w0 r eB level tier n size y m4 m5 w) : w.cell? ⟨r + 1, 5, none⟩ = some (.int .i64 m5) := (h.2.1.cell 5).trans rfl
theorem IM.ct {w0 : World} {r eB : Nat} {level tier n size : Int} {y : Ev} {m4 m5 : Int} {w : World} (h : IM w0 r eB level tier n size y m4 m5 w) : w.cell? ⟨eB, 5, none⟩ = some (.int .i64 y.time) := (h.2.2.1.cell 5).trans rfl
section
variable {Q : Exit → Act → World → Prop} {ops : Array Oper} {hd : List Oper} {a : Act} {R : World → World → Prop} {G : World → Prop} {φs : List (Value → World → Prop)} {i : Nat} {o : Oper}
theorem si_fa (hg : o.guard = none) (hap : dstApart hd = true) (hR : ∀ w, R w w) {x f : Nat} {t : TypeId} {p q : Addr} (ho : o.op = .fieldAddr t (.tmp x) f) (hx : hd.all (fun o => o.dst != some x) = true) (hc : a.eval (.tmp x) = .pointer (some p)) (hr : ∀ w : World, (Instr.fieldAt t (.pointer (some p)) f).run Try.prog w = .ok (.pointer (some q)) w) (hp : phi φs i = fun v _ => v = .pointer (some q)) : StepOk Try.prog Q ops hd a R G φs i o :=
  .still hg hap hR fun u ρ w k => ⟨.pointer (some q), by simp only [execOp, ho, (k.rho.other x hx).trans hc, Sem.run_bind, hr, Result.andThen_ok, Sem.run_pure], by rw [hp]⟩
theorem si_ld (hg : o.guard = none) (hap : dstApart hd = true) (hR : ∀ w, R w w) {x : Nat} {q : Addr} {p : Int → Prop} (ho : o.op = .load 3 (.tmp x)) (jx : Nat) (hx : isDst hd jx x = true) (hxs : x < a.tmps.size) (wx : Region.waitsFor .any ops i jx = true) (px : phi φs jx = fun v _ => v = .pointer (some q))
    (hG : ∀ w, G w → ∃ n, w.cell? q = some (.int .i64 n) ∧ p n) (hp : phi φs i = fun v _ => ∃ n, v = .int .i64 n ∧ p n) : StepOk Try.prog Q ops hd a R G φs i o :=
  .still hg hap hR fun u ρ w k => by
    have e1 := k.dep jx wx
    rw [px] at e1
    obtain ⟨n, hn, hpn⟩ := hG w k.good
    exact ⟨.int .i64 n, by simp only [execOp, ho, (k.rho.at_ jx x hx hxs).trans e1, Sem.run_bind, load_int w q n hn, Result.andThen_ok, Sem.run_pure], by rw [hp]; exact ⟨n, rfl, hpn⟩⟩
theorem si_min (hg : o.guard = none) (hap : dstApart hd = true) (hR : ∀ w, R w w) {x y : Nat} {p q s : Int → Prop} (ho : o.op = .call { callee := .builtin .min, args := #[.tmp x, .tmp y], argTypes := #[3, 3] }) (jx jy : Nat) (hx : isDst hd jx x = true) (hy : isDst hd jy y = true) (hxs : x < a.tmps.size) (hys : y < a.tmps.size) (wx : Region.waitsFor .any ops i jx = true) (wy : Region.waitsFor .any ops i jy = true)
    (px : phi φs jx = fun v _ => ∃ n, v = .int .i64 n ∧ p n) (py : phi φs jy = fun v _ => ∃ n, v = .int .i64 n ∧ q n) (hs : ∀ n m, p n → q m → s (min n m)) (hp : phi φs i = fun v _ => ∃ n, v = .int .i64 n ∧ s n) : StepOk Try.prog Q ops hd a R G φs i o :=
  .still hg hap hR fun u ρ w k => by
    have e1 := k.dep jx wx
    have e2 := k.dep jy wy
    rw [px] at e1
    rw [py] at e2
    obtain ⟨n, e1, h1⟩ := e1
    obtain ⟨m, e2, h2⟩ := e2
    exact ⟨.int .i64 (min n m), run_min ρ w x y n m ((k.rho.at_ jx x hx hxs).trans e1) ((k.rho.at_ jy y hy hys).trans e2) ho, by rw [hp]; exact ⟨_, rfl, hs n m h1 h2⟩⟩
theorem si_max (hg : o.guard = none) (hap : dstApart hd = true) (hR : ∀ w, R w w) {x y : Nat} {p q s : Int → Prop} (ho : o.op = .call { callee := .builtin .max, args := #[.tmp x, .tmp y], argTypes := #[3, 3] }) (jx jy : Nat) (hx : isDst hd jx x = true) (hy : isDst hd jy y = true) (hxs : x < a.tmps.size) (hys : y < a.tmps.size) (wx : Region.waitsFor .any ops i jx = true) (wy : Region.waitsFor .any ops i jy = true)
    (px : phi φs jx = fun v _ => ∃ n, v = .int .i64 n ∧ p n) (py : phi φs jy = fun v _ => ∃ n, v = .int .i64 n ∧ q n) (hs : ∀ n m, p n → q m → s (max n m)) (hp : phi φs i = fun v _ => ∃ n, v = .int .i64 n ∧ s n) : StepOk Try.prog Q ops hd a R G φs i o :=
  .still hg hap hR fun u ρ w k => by
    have e1 := k.dep jx wx
    have e2 := k.dep jy wy
    rw [px] at e1
    rw [py] at e2
    obtain ⟨n, e1, h1⟩ := e1
    obtain ⟨m, e2, h2⟩ := e2
    exact ⟨.int .i64 (max n m), run_max ρ w x y n m ((k.rho.at_ jx x hx hxs).trans e1) ((k.rho.at_ jy y hy hys).trans e2) ho, by rw [hp]; exact ⟨_, rfl, hs n m h1 h2⟩⟩
theorem si_st (hg : o.guard = none) (hap : dstApart hd = true) {x y : Nat} {q : Addr} {c : Int} (ho : o.op = .store 3 (.tmp x) (.tmp y)) (jx jy : Nat) (hx : isDst hd jx x = true) (hy : isDst hd jy y = true) (hxs : x < a.tmps.size) (hys : y < a.tmps.size) (wx : Region.waitsFor .any ops i jx = true) (wy : Region.waitsFor .any ops i jy = true)
    (px : phi φs jx = fun v _ => v = .pointer (some q)) (py : phi φs jy = fun v _ => ∃ n, v = .int .i64 n ∧ n = c) (hr : ∀ w, G w → (Instr.storeAt 3 (.pointer (some q)) (.int .i64 c)).run Try.prog w = .ok () (w.setCell q (.int .i64 c)) ∧ G (w.setCell q (.int .i64 c)) ∧ R w (w.setCell q (.int .i64 c)) ∧ phi φs i undef (w.setCell q (.int .i64 c))) : StepOk Try.prog Q ops hd a R G φs i o :=
  .skip hg hap fun u ρ w k => by
    have e1 := k.dep jx wx
    have e2 := k.dep jy wy
    rw [px] at e1
    rw [py] at e2
    obtain ⟨m, e2, rfl⟩ := e2
    obtain ⟨h1, h2⟩ := hr w k.good
    exact ⟨w.setCell q (.int .i64 m), by simp only [execOp, ho, (k.rho.at_ jx x hx hxs).trans e1, (k.rho.at_ jy y hy hys).trans e2, Sem.run_bind, h1, Result.andThen_ok, Sem.run_pure], h2⟩
end
set_option maxHeartbeats 4000000 in
set_option maxRecDepth 100000 in
theorem info_any {S : Nat → Prop} (A : Option Addr) (es : List Ev) (c : Nat) (level tier size : Int) (w : World) (h : Rd S w A (es.flatMap Ev.cells)) (hl : es.length ≤ 100000) (hc : es.length ≤ c) (hcm : c ≤ maxLen) :
    Calls Try.prog 12 #[.slice A es.length c, .int .i64 level, .int .i64 tier, .int .i64 size] w (InfoPost w es level tier size) := by
  unfold maxLen at hcm
  have H := Lib.hid h
  clear h
  have HB0 : Hid (Blk ((w.alloc (.cells (siRow 0 0 0 0 0 0 0) 29)).alloc (.cells (siRow 0 level tier es.length 0 0 size) 29)) w.heap.size 29 (siRow 0 0 0 0 0 0 0)) := (Blk.new w _ _).alloc _
  have HB1 : Hid (Blk ((w.alloc (.cells (siRow 0 0 0 0 0 0 0) 29)).alloc (.cells (siRow 0 level tier es.length 0 0 size) 29)) (w.heap.size + 1) 29 (siRow 0 level tier es.length 0 0 size)) := by
    have := Blk.new (w.alloc (.cells (siRow 0 0 0 0 0 0 0) 29)) 29 (siRow 0 level tier es.length 0 0 size)
    rw [World.size_alloc] at this
    exact this
  obtain ⟨W, hW⟩ : ∃ W, W = (w.alloc (.cells (siRow 0 0 0 0 0 0 0) 29)).alloc (.cells (siRow 0 level tier es.length 0 0 size) 29) := ⟨_, rfl⟩
  have HG : Hid (w.grownBy W none) := hW ▸ only_alloc (only_alloc (only_refl _ _) _) _
  rw [← hW] at HB0 HB1
  have HW : Hid (W = (w.alloc (.cells #[.int .i64 0, .int .i64 0, .int .i64 0, .int .i64 0, .int .i64 0, .int .i64 0, .int .i64 0] 29)).alloc (.cells #[.int .i64 0, .int .i64 level, .int .i64 tier, .int .i64 es.length, .int .i64 0, .int .i64 0, .int .i64 size] 29)) := hW
  clear hW
  obtain ⟨r, hr⟩ : ∃ r, r = w.heap.size := ⟨_, rfl⟩
  go_enter Try.func12, Try.ntmps12
  go_wp2_with fail
  rw [← HW.out]
  rw [← hr] at HB0 HB1 ⊢
  have HR := Lib.hid hr
  clear hr HW
  go_loopw [20] (fun i wr => ∃ k : Nat, k ≤ es.length ∧ i = .int .i64 k ∧ Blk wr r 29 (siRow 0 0 0 0 0 0 0) ∧ Blk wr (r + 1) 29 (siRow 0 level tier es.length (minT (es.take k)) (maxT (es.take k)) size) ∧ w.grownBy wr none) (fun i _ => es.length - (intOf i).toNat)
  case atStart => exact ⟨0, Nat.zero_le _, rfl, HB0.out, HB1.out, HG.out⟩
  case round =>
    obtain ⟨k, hk, rfl, hB0, hB1, hG⟩ := hrel
    have G := Lib.hid hG
    have B0 := Lib.hid hB0
    have B1 := Lib.hid hB1
    have hlt := hB1.lt
    have c0 := hB1.cell 0
    have c1 := hB1.cell 1
    have c2 := hB1.cell 2
    have c3 := hB1.cell 3
    have c4 := hB1.cell 4
    have c5 := hB1.cell 5
    have c6 := hB1.cell 6
    have f4 := hB1.frozen 4
    have f5 := hB1.frozen 5
    simp [siRow] at c0 c1 c2 c3 c4 c5 c6
    clear hG hB0 hB1 HB0 HB1 HG
    by_cases hkl : k < es.length
    · obtain ⟨b, off, rfl, -, -, -⟩ := H.out (by rw [flat_len _ 10 Ev.cells_len]; omega)
      obtain ⟨y, hy⟩ : ∃ y, es[k] = y := ⟨_, rfl⟩
      obtain ⟨e0, e1, e2, e3, e4, e5, e6, e7, e8, e9⟩ := Evs.load10 (H.out.grown G.out (by simp)) hkl hy
      have hts : es.take (k + 1) = es.take k ++ [y] := by rw [← hy]; exact List.take_succ_eq_append_getElem hkl
      have HTS := Lib.hid hts
      have hkI : (k : Int) < (es.length : Int) := by omega
      clear hts hy
      have HWE : Hid (IM w r wr.heap.size level tier es.length size y (minT (es.take k)) (maxT (es.take k)) (wr.alloc (.cells y.cells.toArray 34))) := ⟨B0.out.alloc _, B1.out.alloc _, Blk.new _ _ _, only_alloc G.out _, hlt, by have := HR.out; omega⟩
      have HWX : Hid (wr.alloc (.cells y.cells.toArray 34) = wr.alloc (.cells #[.int .i64 y.host, .int .i64 y.file, .int .i64 y.beg, .int .i64 y.fin, .slice y.la y.lines.length y.lc, .int .i64 y.time, .int .i64 y.weight, .string y.trace, .string y.stream, .slice y.fa y.fields.length y.fc] 34)) := rfl
      obtain ⟨WE, hWE⟩ : ∃ WE, WE = wr.alloc (.cells y.cells.toArray 34) := ⟨_, rfl⟩
      rw [← hWE] at HWE HWX
      clear hWE
      by_cases hk0 : k = 0
      · subst hk0
        have HMN : Hid (minT (es.take (0 + 1)) = min y.time y.time) := by show _ = _; rw [HTS.out]; simp [minT]
        have HMX : Hid (maxT (es.take (0 + 1)) = y.time) := by show _ = _; rw [HTS.out]; simp [maxT]
        simp only [Nat.zero_mul, Nat.add_zero] at e0 e1 e2 e3 e4 e5 e6 e7 e8 e9
        go_wp2_with fail
        rw [← HWX.out]
        have HI : Hid (IM w r wr.heap.size level tier es.length size y 0 0 WE) := HWE.out
        generalize wr.heap.size = eB at *
        clear c0 c1 c2 c3 c4 c5 c6 f4 f5 e0 e1 e2 e3 e4 e5 e6 e7 e8 e9 B0 B1 G HWE HWX
        refine wp_region_inv 6 (fun w1 w2 => w2 = w1 ∨ IM w r eB level tier es.length size y y.time 0 w2) (fun w1 => IM w r eB level tier es.length size y 0 0 w1 ∨ IM w r eB level tier es.length size y y.time 0 w1) [(fun v _ => v = Value.pointer (some ⟨eB, 5, none⟩)), (fun v _ => ∃ n, v = Value.int .i64 n ∧ n = y.time), (fun v _ => v = Value.pointer (some ⟨eB, 5, none⟩)), (fun v _ => ∃ n, v = Value.int .i64 n ∧ n = y.time), (fun v _ => v = Value.pointer (some ⟨r + 1, 4, none⟩)), (fun _ w1 => IM w r eB level tier es.length size y y.time 0 w1)] (by kernel_rfl) (by kernel_rfl) ?_ ?_ ?_ ?_
        · intro p hp
          simp only [List.mem_cons, List.not_mem_nil, or_false] at hp
          rcases hp with rfl | rfl | rfl | rfl | rfl | rfl
          all_goals first
            | exact fun v w1 w2 _ h => h
            | exact fun v w1 w2 hr h => by rcases hr with rfl | hr; exact h; exact hr
        · exact .inl HI.out.drew
        · generalize hA : Act.mk _ _ = A
          have hsz : A.tmps.size = 47 := by rw [← hA]; kernel_rfl
          have ea9 : A.eval (.tmp 9) = .pointer (some ⟨r + 1, 0, none⟩) := by rw [← hA]; kernel_rfl
          have ea11 : A.eval (.tmp 11) = .pointer (some ⟨eB, 0, none⟩) := by rw [← hA]; kernel_rfl
          clear hA
          simp only [List.take_succ_cons, List.take_zero]
          refine .cons ?_ (.cons ?_ (.cons ?_ (.cons ?_ (.cons ?_ (.cons ?_ .nil)))))
          · exact si_fa rfl (by kernel_rfl) (fun _ => .inl rfl) rfl (by kernel_rfl) ea11 (fun w => fa_ev5 w _) rfl
          · exact si_ld rfl (by kernel_rfl) (fun _ => .inl rfl) rfl 0 (by kernel_rfl) (by omega) (by kernel_rfl) rfl (fun w1 h => by rcases h with h | h <;> exact ⟨_, h.ct, rfl⟩) rfl
          · exact si_fa rfl (by kernel_rfl) (fun _ => .inl rfl) rfl (by kernel_rfl) ea11 (fun w => fa_ev5 w _) rfl
          · exact si_ld rfl (by kernel_rfl) (fun _ => .inl rfl) rfl 2 (by kernel_rfl) (by omega) (by kernel_rfl) rfl (fun w1 h => by rcases h with h | h <;> exact ⟨_, h.ct, rfl⟩) rfl
          · exact si_fa rfl (by kernel_rfl) (fun _ => .inl rfl) rfl (by kernel_rfl) ea9 (fun w => fa_si4 w _) rfl
          · exact si_st rfl (by kernel_rfl) rfl 4 1 (by kernel_rfl) (by kernel_rfl) (by omega) (by omega) (by kernel_rfl) (by kernel_rfl) rfl rfl (fun w1 h => by
              rcases h with h | h
              · exact ⟨store_int _ _ _ _ h.2.1 (by simp [siRow]), .inr (h.set4 _), .inr (h.set4 _), h.set4 _⟩
              · exact ⟨store_int _ _ _ _ h.2.1 (by simp [siRow]), .inr (h.set4 _), .inr (h.set4 _), h.set4 _⟩)
        · intro u w8 _ hu
          have hM : IM w r eB level tier es.length size y y.time 0 w8 := hu 5 (by omega)
          obtain ⟨mz, e3, rfl⟩ := hu 3 (by omega)
          simp only [List.take_succ_cons, List.take_zero, List.drop_succ_cons, List.drop_zero, putAll]
          rw [e3]
          have HM := Lib.hid hM
          have c5x := hM.c5
          have f5x := hM.2.1.frozen 5
          clear hu e3 hM HI
          go_wp2_with fail
          have HI2 := Lib.hid (HM.out.set5 y.time)
          generalize w8.setCell ⟨r + 1, 5, none⟩ (.int .i64 y.time) = w8b at *
          clear HM c5x f5x
          refine wp_region_inv 12 (fun w1 w2 => w2 = w1 ∨ IM w r eB level tier es.length size y (min y.time y.time) y.time w2) (fun w1 => IM w r eB level tier es.length size y y.time y.time w1 ∨ IM w r eB level tier es.length size y (min y.time y.time) y.time w1) [(fun v _ => v = Value.pointer (some ⟨r + 1, 4, none⟩)), (fun v _ => ∃ n, v = Value.int .i64 n ∧ (n = y.time ∨ n = min y.time y.time)), (fun v _ => v = Value.pointer (some ⟨eB, 5, none⟩)), (fun v _ => ∃ n, v = Value.int .i64 n ∧ n = y.time), (fun v _ => ∃ n, v = Value.int .i64 n ∧ n = min y.time y.time), (fun v _ => v = Value.pointer (some ⟨r + 1, 5, none⟩)), (fun v _ => ∃ n, v = Value.int .i64 n ∧ n = y.time), (fun v _ => v = Value.pointer (some ⟨eB, 5, none⟩)), (fun v _ => ∃ n, v = Value.int .i64 n ∧ n = y.time), (fun v _ => ∃ n, v = Value.int .i64 n ∧ n = max y.time y.time), (fun v _ => v = Value.pointer (some ⟨r + 1, 4, none⟩)), (fun _ w1 => IM w r eB level tier es.length size y (min y.time y.time) y.time w1)] (by kernel_rfl) (by kernel_rfl) ?_ ?_ ?_ ?_
          · intro p hp
            simp only [List.mem_cons, List.not_mem_nil, or_false] at hp
            rcases hp with rfl | rfl | rfl | rfl | rfl | rfl | rfl | rfl | rfl | rfl | rfl | rfl
            all_goals first
              | exact fun v w1 w2 _ h => h
              | exact fun v w1 w2 hr h => by rcases hr with rfl | hr; exact h; exact hr
          · exact .inl HI2.out.drew
          · generalize hA : Act.mk _ _ = A
            have hsz : A.tmps.size = 47 := by rw [← hA]; kernel_rfl
            have ea9 : A.eval (.tmp 9) = .pointer (some ⟨r + 1, 0, none⟩) := by rw [← hA]; kernel_rfl
            have ea11 : A.eval (.tmp 11) = .pointer (some ⟨eB, 0, none⟩) := by rw [← hA]; kernel_rfl
            clear hA
            simp only [List.take_succ_cons, List.take_zero]
            refine .cons ?_ (.cons ?_ (.cons ?_ (.cons ?_ (.cons ?_ (.cons ?_ (.cons ?_ (.cons ?_ (.cons ?_ (.cons ?_ (.cons ?_ (.cons ?_ .nil)))))))))))
            · exact si_fa rfl (by kernel_rfl) (fun _ => .inl rfl) rfl (by kernel_rfl) ea9 (fun w => fa_si4 w _) rfl
            · exact si_ld rfl (by kernel_rfl) (fun _ => .inl rfl) rfl 0 (by kernel_rfl) (by omega) (by kernel_rfl) rfl (fun w1 h => by rcases h with h | h; exact ⟨_, h.c4, .inl rfl⟩; exact ⟨_, h.c4, .inr rfl⟩) rfl
            · exact si_fa rfl (by kernel_rfl) (fun _ => .inl rfl) rfl (by kernel_rfl) ea11 (fun w => fa_ev5 w _) rfl
            · exact si_ld rfl (by kernel_rfl) (fun _ => .inl rfl) rfl 2 (by kernel_rfl) (by omega) (by kernel_rfl) rfl (fun w1 h => by rcases h with h | h <;> exact ⟨_, h.ct, rfl⟩) rfl
            · exact si_min rfl (by kernel_rfl) (fun _ => .inl rfl) rfl 1 3 (by kernel_rfl) (by kernel_rfl) (by omega) (by omega) (by kernel_rfl) (by kernel_rfl) rfl rfl (fun n m h1 h2 => by subst h2; rcases h1 with rfl | rfl <;> omega) rfl
            · exact si_fa rfl (by kernel_rfl) (fun _ => .inl rfl) rfl (by kernel_rfl) ea9 (fun w => fa_si5 w _) rfl
            · exact si_ld rfl (by kernel_rfl) (fun _ => .inl rfl) rfl 5 (by kernel_rfl) (by omega) (by kernel_rfl) rfl (fun w1 h => by rcases h with h | h <;> exact ⟨_, h.c5, rfl⟩) rfl
            · exact si_fa rfl (by kernel_rfl) (fun _ => .inl rfl) rfl (by kernel_rfl) ea11 (fun w => fa_ev5 w _) rfl
            · exact si_ld rfl (by kernel_rfl) (fun _ => .inl rfl) rfl 7 (by kernel_rfl) (by omega) (by kernel_rfl) rfl (fun w1 h => by rcases h with h | h <;> exact ⟨_, h.ct, rfl⟩) rfl
            · exact si_max rfl (by kernel_rfl) (fun _ => .inl rfl) rfl 6 8 (by kernel_rfl) (by kernel_rfl) (by omega) (by omega) (by kernel_rfl) (by kernel_rfl) rfl rfl (fun n m h1 h2 => by subst h1 h2; rfl) rfl
            · exact si_fa rfl (by kernel_rfl) (fun _ => .inl rfl) rfl (by kernel_rfl) ea9 (fun w => fa_si4 w _) rfl
            · exact si_st rfl (by kernel_rfl) rfl 10 4 (by kernel_rfl) (by kernel_rfl) (by omega) (by omega) (by kernel_rfl) (by kernel_rfl) rfl rfl (fun w1 h => by
                rcases h with h | h
                · exact ⟨store_int _ _ _ _ h.2.1 (by simp [siRow]), .inr (h.set4 _), .inr (h.set4 _), h.set4 _⟩
                · exact ⟨store_int _ _ _ _ h.2.1 (by simp [siRow]), .inr (h.set4 _), .inr (h.set4 _), h.set4 _⟩)
          · intro u w9 _ hu
            have hM : IM w r eB level tier es.length size y (min y.time y.time) y.time w9 := hu 11 (by omega)
            obtain ⟨mz, e9, rfl⟩ := hu 9 (by omega)
            simp only [List.take_succ_cons, List.take_zero, List.drop_succ_cons, List.drop_zero, putAll]
            rw [e9]
            have HM := Lib.hid hM
            have c5x := hM.c5
            have f5x := hM.2.1.frozen 5
            clear hu e9 hM HI2
            go_wp2_with fail
            have HF := HM.out.set5 y.time
            go_roundw
            case rel => exact ⟨0 + 1, by omega, by go_num, HF.1, by rw [HMN.out, HMX.out]; exact HF.2.1, HF.2.2.2.1⟩
            case measure => simp [intOf]; omega
      · have hb0 : ((k : Int) == 0) = false := by simp; omega
        have hkp : 0 < (es.take k).length := by simp; omega
        have HMN : Hid (minT (es.take (k + 1)) = min (minT (es.take k)) y.time) := by show _ = _; rw [HTS.out]; exact minT_snoc y hkp
        have HMX : Hid (maxT (es.take (k + 1)) = max (maxT (es.take k)) y.time) := by show _ = _; rw [HTS.out]; exact maxT_snoc y hkp
        clear hkp
        generalize minT (es.take k) = mn at *
        generalize maxT (es.take k) = mx at *
        go_wp2_with fail
        rw [← HWX.out]
        have HI : Hid (IM w r wr.heap.size level tier es.length size y mn mx WE) := HWE.out
        generalize wr.heap.size = eB at *
        clear c0 c1 c2 c3 c4 c5 c6 f4 f5 e0 e1 e2 e3 e4 e5 e6 e7 e8 e9 B0 B1 G HWE HWX
        refine wp_region_inv 12 (fun w1 w2 => w2 = w1 ∨ IM w r eB level tier es.length size y (min mn y.time) mx w2) (fun w1 => IM w r eB level tier es.length size y mn mx w1 ∨ IM w r eB level tier es.length size y (min mn y.time) mx w1) [(fun v _ => v = Value.pointer (some ⟨r + 1, 4, none⟩)), (fun v _ => ∃ n, v = Value.int .i64 n ∧ (n = mn ∨ n = min mn y.time)), (fun v _ => v = Value.pointer (some ⟨eB, 5, none⟩)), (fun v _ => ∃ n, v = Value.int .i64 n ∧ n = y.time), (fun v _ => ∃ n, v = Value.int .i64 n ∧ n = min mn y.time), (fun v _ => v = Value.pointer (some ⟨r + 1, 5, none⟩)), (fun v _ => ∃ n, v = Value.int .i64 n ∧ n = mx), (fun v _ => v = Value.pointer (some ⟨eB, 5, none⟩)), (fun v _ => ∃ n, v = Value.int .i64 n ∧ n = y.time), (fun v _ => ∃ n, v = Value.int .i64 n ∧ n = max mx y.time), (fun v _ => v = Value.pointer (some ⟨r + 1, 4, none⟩)), (fun _ w1 => IM w r eB level tier es.length size y (min mn y.time) mx w1)] (by kernel_rfl) (by kernel_rfl) ?_ ?_ ?_ ?_
        · intro p hp
          simp only [List.mem_cons, List.not_mem_nil, or_false] at hp
          rcases hp with rfl | rfl | rfl | rfl | rfl | rfl | rfl | rfl | rfl | rfl | rfl | rfl
          all_goals first
            | exact fun v w1 w2 _ h => h
            | exact fun v w1 w2 hr h => by rcases hr with rfl | hr; exact h; exact hr
        · exact .inl HI.out.drew
        · generalize hA : Act.mk _ _ = A
          have hsz : A.tmps.size = 47 := by rw [← hA]; kernel_rfl
          have ea9 : A.eval (.tmp 9) = .pointer (some ⟨r + 1, 0, none⟩) := by rw [← hA]; kernel_rfl
          have ea11 : A.eval (.tmp 11) = .pointer (some ⟨eB, 0, none⟩) := by rw [← hA]; kernel_rfl
          clear hA
          simp only [List.take_succ_cons, List.take_zero]
          refine .cons ?_ (.cons ?_ (.cons ?_ (.cons ?_ (.cons ?_ (.cons ?_ (.cons ?_ (.cons ?_ (.cons ?_ (.cons ?_ (.cons ?_ (.cons ?_ .nil)))))))))))
          · exact si_fa rfl (by kernel_rfl) (fun _ => .inl rfl) rfl (by kernel_rfl) ea9 (fun w => fa_si4 w _) rfl
          · exact si_ld rfl (by kernel_rfl) (fun _ => .inl rfl) rfl 0 (by kernel_rfl) (by omega) (by kernel_rfl) rfl (fun w1 h => by rcases h with h | h; exact ⟨_, h.c4, .inl rfl⟩; exact ⟨_, h.c4, .inr rfl⟩) rfl
          · exact si_fa rfl (by kernel_rfl) (fun _ => .inl rfl) rfl (by kernel_rfl) ea11 (fun w => fa_ev5 w _) rfl
          · exact si_ld rfl (by kernel_rfl) (fun _ => .inl rfl) rfl 2 (by kernel_rfl) (by omega) (by kernel_rfl) rfl (fun w1 h => by rcases h with h | h <;> exact ⟨_, h.ct, rfl⟩) rfl
          · exact si_min rfl (by kernel_rfl) (fun _ => .inl rfl) rfl 1 3 (by kernel_rfl) (by kernel_rfl) (by omega) (by omega) (by kernel_rfl) (by kernel_rfl) rfl rfl (fun n m h1 h2 => by subst h2; rcases h1 with rfl | rfl <;> omega) rfl
          · exact si_fa rfl (by kernel_rfl) (fun _ => .inl rfl) rfl (by kernel_rfl) ea9 (fun w => fa_si5 w _) rfl
          · exact si_ld rfl (by kernel_rfl) (fun _ => .inl rfl) rfl 5 (by kernel_rfl) (by omega) (by kernel_rfl) rfl (fun w1 h => by rcases h with h | h <;> exact ⟨_, h.c5, rfl⟩) rfl
          · exact si_fa rfl (by kernel_rfl) (fun _ => .inl rfl) rfl (by kernel_rfl) ea11 (fun w => fa_ev5 w _) rfl
          · exact si_ld rfl (by kernel_rfl) (fun _ => .inl rfl) rfl 7 (by kernel_rfl) (by omega) (by kernel_rfl) rfl (fun w1 h => by rcases h with h | h <;> exact ⟨_, h.ct, rfl⟩) rfl
          · exact si_max rfl (by kernel_rfl) (fun _ => .inl rfl) rfl 6 8 (by kernel_rfl) (by kernel_rfl) (by omega) (by omega) (by kernel_rfl) (by kernel_rfl) rfl rfl (fun n m h1 h2 => by subst h1 h2; rfl) rfl
          · exact si_fa rfl (by kernel_rfl) (fun _ => .inl rfl) rfl (by kernel_rfl) ea9 (fun w => fa_si4 w _) rfl
          · exact si_st rfl (by kernel_rfl) rfl 10 4 (by kernel_rfl) (by kernel_rfl) (by omega) (by omega) (by kernel_rfl) (by kernel_rfl) rfl rfl (fun w1 h => by
              rcases h with h | h
              · exact ⟨store_int _ _ _ _ h.2.1 (by simp [siRow]), .inr (h.set4 _), .inr (h.set4 _), h.set4 _⟩
              · exact ⟨store_int _ _ _ _ h.2.1 (by simp [siRow]), .inr (h.set4 _), .inr (h.set4 _), h.set4 _⟩)
        · intro u w9 _ hu
          have hM : IM w r eB level tier es.length size y (min mn y.time) mx w9 := hu 11 (by omega)
          obtain ⟨mz, e9, rfl⟩ := hu 9 (by omega)
          simp only [List.take_succ_cons, List.take_zero, List.drop_succ_cons, List.drop_zero, putAll]
          rw [e9]
          have HM := Lib.hid hM
          have c5x := hM.c5
          have f5x := hM.2.1.frozen 5
          clear hu e9 hM HI
          go_wp2_with fail
          have HF := HM.out.set5 (max mx y.time)
          go_roundw
          case rel => exact ⟨k + 1, by omega, by go_num, HF.1, by rw [HMN.out, HMX.out]; exact HF.2.1, HF.2.2.2.1⟩
          case measure => simp [intOf]; omega
    · obtain rfl : k = es.length := by omega
      have d0 := B0.out.cell 0
      have d1 := B0.out.cell 1
      have d2 := B0.out.cell 2
      have d3 := B0.out.cell 3
      have d4 := B0.out.cell 4
      have d5 := B0.out.cell 5
      have d6 := B0.out.cell 6
      have h0 := B0.out.frozen 0
      have h1 := B0.out.frozen 1
      have h2 := B0.out.frozen 2
      have h3 := B0.out.frozen 3
      have h4 := B0.out.frozen 4
      have h5 := B0.out.frozen 5
      have h6 := B0.out.frozen 6
      simp [siRow] at d0 d1 d2 d3 d4 d5 d6
      have hG2 := G.out
      rw [List.take_length] at c4 c5
      go_wp2_with fail
      have hb := ((((((B0.out.set_ 0 (.int .i64 0)).set_ 1 (.int .i64 level)).set_ 2 (.int .i64 tier)).set_ 3 (.int .i64 es.length)).set_ 4 (.int .i64 (minT es))).set_ 5 (.int .i64 (maxT es))).set_ 6 (.int .i64 size)
      have q0 := hb.cell 0; have q1 := hb.cell 1; have q2 := hb.cell 2; have q3 := hb.cell 3; have q4 := hb.cell 4; have q5 := hb.cell 5; have q6 := hb.cell 6
      simp [siRow] at q0 q1 q2 q3 q4 q5 q6
      exact bodyPost_ret (v := .agg (siRow 0 level tier es.length (minT es) (maxT es) size)) (by simp [results, Try.results12, go_sem, siRow, q0, q1, q2, q3, q4, q5, q6]) rfl ⟨rfl, only_setNew (only_setNew (only_setNew (only_setNew (only_setNew (only_setNew (only_setNew hG2 (by have := HR.out; simp; omega) _) (by have := HR.out; simp; omega) _) (by have := HR.out; simp; omega) _) (by have := HR.out; simp; omega) _) (by have := HR.out; simp; omega) _) (by have := HR.out; simp; omega) _) (by have := HR.out; simp; omega) _⟩
end Go.Proofs.Ytphglalphejppaa
