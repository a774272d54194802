/- The draw of a test. No condition. -/
import Derived.Test.YtceebhgbebkafaaGreatDoorTestD
import Derived.Test.YtceebhgbebkafaaGreatDoorDrawVal
import Derived.Test.YtceebhgbebkafaaGreatDoorStepR
import Derived.Deep.RegionLaw
import Derived.Deep.DeepMust
import Derived.Deep.DeepCutAuto
namespace Go.Proofs.YtceebhgbebkafaaGreatDoor
open Go.RowKit
set_option linter.unusedVariables false
set_option linter.unusedSimpArgs false

def zeroT : Array Value := #[.int .i64 0, .string ⟨#[]⟩, .string ⟨#[]⟩, .int .i64 0, .slice none 0 0]
theorem testInfo : (Tryz.prog.info? 26).map (fun i => (i.zero, i.size, i.bytes)) = some (some (.agg zeroT), 5, 72) := by kernel_rfl
theorem grown_setCellT (w : World) (p : Addr) (u : Value) : w.grownBy (w.setCell p u) (some p.block) :=
  ⟨rfl, rfl, rfl, by simp [World.setCell], fun k _ hne => Below.heap_setCell w p u k (fun e => hne (by rw [e]))⟩
def set5 (w : World) (r : Nat) (v0 v1 v2 v3 v4 : Value) : World := ((((w.setCell ⟨r, 0, none⟩ v0).setCell ⟨r, 1, none⟩ v1).setCell ⟨r, 2, none⟩ v2).setCell ⟨r, 3, none⟩ v3).setCell ⟨r, 4, none⟩ v4
theorem set5_only (w : World) (r : Nat) (v0 v1 v2 v3 v4 : Value) : w.grownBy (set5 w r v0 v1 v2 v3 v4) (some r) := by
  unfold set5
  have h0 : w.grownBy w (some r) := only_refl _ _
  have h1 := only_setCell h0 (p := ⟨r, 0, none⟩) (.inl rfl) v0
  have h2 := only_setCell h1 (p := ⟨r, 1, none⟩) (.inl rfl) v1
  have h3 := only_setCell h2 (p := ⟨r, 2, none⟩) (.inl rfl) v2
  have h4 := only_setCell h3 (p := ⟨r, 3, none⟩) (.inl rfl) v3
  exact only_setCell h4 (p := ⟨r, 4, none⟩) (.inl rfl) v4
theorem Blk.set5 {w : World} {r t : Nat} {cs : Array Value} (h : Blk w r t cs) (hc : cs.size = 5) (v0 v1 v2 v3 v4 : Value) : Blk (set5 w r v0 v1 v2 v3 v4) r t #[v0, v1, v2, v3, v4] := by
  obtain ⟨l⟩ := cs
  match l, hc with
  | [a, b, c, d, e], _ =>
    have := ((((h.set_ 0 v0).set_ 1 v1).set_ 2 v2).set_ 3 v3).set_ 4 v4
    unfold Go.Proofs.YtceebhgbebkafaaGreatDoor.set5
    simpa using this
theorem set5_cells {w : World} {r t : Nat} {cs : Array Value} (h : Blk w r t cs) (hc : cs.size = 5) (v0 v1 v2 v3 v4 : Value) :
    (set5 w r v0 v1 v2 v3 v4).cell? ⟨r, 0, none⟩ = some v0 ∧ (set5 w r v0 v1 v2 v3 v4).cell? ⟨r, 1, none⟩ = some v1 ∧ (set5 w r v0 v1 v2 v3 v4).cell? ⟨r, 2, none⟩ = some v2 ∧ (set5 w r v0 v1 v2 v3 v4).cell? ⟨r, 3, none⟩ = some v3 ∧ (set5 w r v0 v1 v2 v3 v4).cell? ⟨r, 4, none⟩ = some v4 := by
  have h5 := h.set5 hc v0 v1 v2 v3 v4
  exact ⟨(h5.cell 0).trans rfl, (h5.cell 1).trans rfl, (h5.cell 2).trans rfl, (h5.cell 3).trans rfl, (h5.cell 4).trans rfl⟩
theorem set5_alloc {w : World} {r : Nat} {o : Obj} (hr : r < w.heap.size) {v0 v1 v2 v3 v4 : Value} : set5 (w.alloc o) r v0 v1 v2 v3 v4 = (set5 w r v0 v1 v2 v3 v4).alloc o := by
  unfold set5
  rw [World.setCell_alloc_past o r 0 v0 hr, World.setCell_alloc_past o r 1 v1 (by simpa using hr), World.setCell_alloc_past o r 2 v2 (by simpa using hr), World.setCell_alloc_past o r 3 v3 (by simpa using hr), World.setCell_alloc_past o r 4 v4 (by simpa using hr)]
def TestPost (w : World) (g : Nat) (l : List Int) (n : Nat) (e : Ending) (w' : World) : Prop :=
  ∃ (t : TT) (k : Nat), e = .returned (.agg t.cells.toArray) ∧ t.Ok n ∧ t.Sub n (w.heap.size ≤ ·) w' ∧ CodesAt w' g l k ∧ w.grownBy w' (some g)
/-- the memory while the test is drawn -/
def TMid (w : World) (r g : Nat) (l : List Int) (wx : World) : Prop := Blk wx r 26 zeroT ∧ (∃ k, CodesAt wx g l k) ∧ w.grownBy wx (some g) ∧ g < r ∧ w.heap.size ≤ r
section
variable {w wx w' : World} {r g : Nat} {l : List Int}
theorem TMid.drew (h : TMid w r g l wx) : TMid w r g l wx.drew := ⟨h.1, h.2.1, only_drew h.2.2.1, h.2.2.2⟩
theorem TMid.alloc (h : TMid w r g l wx) (o : Obj) : TMid w r g l (wx.alloc o) := ⟨h.1.alloc o, h.2.1.imp fun _ h => h.alloc o, only_alloc h.2.2.1 o, h.2.2.2⟩
theorem TMid.next (h : TMid w r g l wx) (hg : wx.grownBy w' (some g)) {k : Nat} (hC : CodesAt w' g l k) : TMid w r g l w' :=
  ⟨h.1.grown hg (by have := h.2.2.2.1; intro e; injection e; omega), ⟨k, hC⟩, only_trans h.2.2.1 hg, h.2.2.2⟩
theorem TMid.le (h : TMid w r g l wx) : r + 1 ≤ wx.heap.size := h.1.lt
theorem TMid.end_ {n : Nat} {t : TT} (h : TMid w r g l wx) (h1 : t.Ok n) (h2 : t.Sub n (r < ·) wx) : TestPost w g l n (.returned (.agg t.cells.toArray)) (set5 wx r (.int .i64 t.op) (.string t.nm) (.string t.tx) (.int .i64 t.num) (.slice t.ka t.kids.length t.kc)) := by
  obtain ⟨hB, ⟨k, hC⟩, hG, hgr, hr⟩ := h
  refine ⟨t, k, rfl, h1, (h2.grown (set5_only _ _ _ _ _ _ _) (fun b hb e => by injection e; omega)).mono (fun b hb _ => by omega), hC.grown (set5_only _ _ _ _ _ _ _) (fun b hb e => by injection e; omega), only_fresh hG (set5_only _ _ _ _ _ _ _) hr⟩
end
/-- the test that is compared with a number -/
def T7 (q : Nat) (op : Int) (wx : World) : Prop := ∃ (nm : ByteArray) (num : Int), nm.size ≤ 20 ∧ -5 ≤ num ∧ num ≤ 999999999999999999 ∧ Blk wx q 26 #[.int .i64 op, .string nm, .string ⟨#[]⟩, .int .i64 num, .slice none 0 0]
theorem TMid.set {w wx : World} {r g : Nat} {l : List Int} (h : TMid w r g l wx) {q : Nat} (hq : r < q) (i : Nat) (v : Value) : TMid w r g l (wx.setCell ⟨q, i, none⟩ v) := by
  obtain ⟨hB, ⟨k, hC⟩, hG, hgr, hr⟩ := h
  exact ⟨hB.grown (grown_setCellT _ _ _) (by simp; omega), ⟨k, hC.grown (grown_setCellT _ _ _) (fun b hb e => by injection e; simp at *; omega)⟩, only_fresh hG (grown_setCellT _ _ _) (by simp; omega), hgr, hr⟩
theorem T7.two {w wx : World} {r g : Nat} {l : List Int} {q : Nat} {op num num' : Int} {nm : ByteArray} (h : TMid w r g l wx) (hB : Blk wx q 26 #[.int .i64 op, .string nm, .string ⟨#[]⟩, .int .i64 num, .slice none 0 0]) (hq : r < q) (h1 : -5 ≤ num') (h2 : num' ≤ 999999999999999999) :
    TMid w r g l ((wx.setCell ⟨q, 1, none⟩ (.string ⟨#[64, 116, 105, 109, 101]⟩)).setCell ⟨q, 3, none⟩ (.int .i64 num')) ∧ T7 q op ((wx.setCell ⟨q, 1, none⟩ (.string ⟨#[64, 116, 105, 109, 101]⟩)).setCell ⟨q, 3, none⟩ (.int .i64 num')) :=
  ⟨(h.set hq _ _).set hq _ _, ⟨#[64, 116, 105, 109, 101]⟩, num', by simp [ByteArray.size], h1, h2, by simpa using (hB.set_ 1 (.string ⟨#[64, 116, 105, 109, 101]⟩)).set_ 3 (.int .i64 num')⟩
theorem T7.alloc {q : Nat} {op : Int} {w : World} (h : T7 q op w) (o : Obj) : T7 q op (w.alloc o) := by
  obtain ⟨nm, num, h1, h2, h3, h4⟩ := h
  exact ⟨nm, num, h1, h2, h3, h4.alloc o⟩
theorem T7.lt {q : Nat} {op : Int} {w : World} (h : T7 q op w) : q < w.heap.size := by
  obtain ⟨nm, num, h1, h2, h3, h4⟩ := h
  exact h4.lt
theorem T7.grown {q : Nat} {op : Int} {w w' : World} {row : Option Nat} (h : T7 q op w) (hg : w.grownBy w' row) (hr : some q ≠ row) : T7 q op w' := by
  obtain ⟨nm, num, h1, h2, h3, h4⟩ := h
  exact ⟨nm, num, h1, h2, h3, h4.grown hg hr⟩
theorem T7.named {q : Nat} {op : Int} {w : World} (h : T7 q op w) : T7 q op (w.setCell ⟨q, 1, none⟩ (.string ⟨#[64, 116, 105, 109, 101]⟩)) := by
  obtain ⟨nm, num, h1, h2, h3, h4⟩ := h
  exact ⟨⟨#[64, 116, 105, 109, 101]⟩, num, by simp [ByteArray.size], h2, h3, by simpa using h4.set_ 1 (.string ⟨#[64, 116, 105, 109, 101]⟩)⟩
theorem store_t7 (w : World) (q : Nat) {op : Int} (h : T7 q op w) : (Instr.storeAt 9 (.pointer (some ⟨q, 1, none⟩)) (.string ⟨#[64, 116, 105, 109, 101]⟩)).run Tryz.prog w = .ok () (w.setCell ⟨q, 1, none⟩ (.string ⟨#[64, 116, 105, 109, 101]⟩)) := by
  obtain ⟨nm, num, h1, h2, h3, h4⟩ := h
  exact store_str w q 1 _ h4 (by simp)
theorem field_testT (w : World) (q f : Nat) (hf : f < 5) : (Instr.fieldAt 26 (.pointer (some ⟨q, 0, none⟩)) f).run Tryz.prog w = .ok (.pointer (some ⟨q, f, none⟩)) w := by
  have hu := Tryz.underlying26
  have h : f = 0 ∨ f = 1 ∨ f = 2 ∨ f = 3 ∨ f = 4 := by omega
  rcases h with rfl | rfl | rfl | rfl | rfl <;> simp [go_sem]
theorem st_storec {Q : Exit → Act → World → Prop} {ops : Array Oper} {hd : List Oper} {a : Act} {G : World → Prop} {φs : List (Value → World → Prop)} {i : Nat} {o : Oper} {r : Nat} (hg : o.guard = none) (hap : dstApart hd = true) {x : Nat} {t : TypeId} {q : Addr} {c : Value} (ho : o.op = .store t (.tmp x) (.const c)) (jx : Nat) (hx : isDst hd jx x = true) (hxs : x < a.tmps.size)
    (wx : Region.waitsFor .any ops i jx = true) (px : phi φs jx = fun v _ => v = .pointer (some q)) (hq : q.block < r)
    (hr : ∀ (w : World), G w → (Instr.storeAt t (.pointer (some q)) c).run Tryz.prog w = .ok () (w.setCell q c)) (hG : ∀ w, G w → G (w.setCell q c)) (hp : phi φs i = fun _ _ => True) : StepOk Tryz.prog Q ops hd a (Rab r) G φs i o :=
  .skip hg hap fun u ρ w k => by
    have e1 := k.dep jx wx
    rw [px] at e1
    exact ⟨w.setCell q c, by simp only [execOp, ho, (k.rho.at_ jx x hx hxs).trans e1, k.rho.con, Sem.run_bind, hr w k.good, Result.andThen_ok, Sem.run_pure], hG w k.good, Rab.set_ w q _ hq, by rw [hp]; trivial⟩
theorem Rd.rab {r m : Nat} {w w' : World} {A : Option Addr} {xs : List Value} (h : Rab r w w') (hm : r ≤ m) (hr : Rd (m ≤ ·) w A xs) : Rd (m ≤ ·) w' A xs := fun hn => by
  obtain ⟨b, off, e, hS, hlt, hc⟩ := hr hn
  have hS' : m ≤ b := hS
  exact ⟨b, off, e, hS, Nat.lt_of_lt_of_le hlt h.1, fun j u hu => (World.cell?_of_block (h.2 b (by omega) hlt)).trans (hc j u hu)⟩
theorem TT.Sub.rab {r m : Nat} {w w' : World} (h : Rab r w w') (hm : r ≤ m) : ∀ {n : Nat} {t : TT}, t.Sub n (m ≤ ·) w → t.Sub n (m ≤ ·) w'
  | 0, _, hs => hs
  | n + 1, _, hs => ⟨Rd.rab h hm hs.1, hs.2.1, hs.2.2.1, fun k hk => TT.Sub.rab h hm (hs.2.2.2 k hk)⟩
/-- a drawn test, and a row of one test -/
def IsTest (n m : Nat) (v : Value) (w : World) : Prop := ∃ t : TT, v = .agg t.cells.toArray ∧ t.Ok n ∧ t.Sub n (m ≤ ·) w
def IsTRow (n m : Nat) (v : Value) (w : World) : Prop := ∃ (b : Nat) (t : TT), v = .slice (some ⟨b, 0, none⟩) 1 1 ∧ m ≤ b ∧ Blk w b 26 t.cells.toArray ∧ t.Ok n ∧ t.Sub n (m ≤ ·) w
theorem St.test {r n m : Nat} (hm : r ≤ m) : St (Rab r) (IsTest n m) := fun v w w' h ⟨t, h1, h2, h3⟩ => ⟨t, h1, h2, h3.rab h hm⟩
theorem St.trow {r n m : Nat} (hm : r ≤ m) : St (Rab r) (IsTRow n m) := fun v w w' h ⟨b, t, h1, h2, h3, h4, h5⟩ => ⟨b, t, h1, h2, h.blk h3 (by omega), h4, h5.rab h hm⟩
theorem rd_blk5 {w : World} {b : Nat} {t : TT} (h : Blk w b 26 t.cells.toArray) : Rd (b ≤ ·) w (some ⟨b, 0, none⟩) t.cells := fun _ => ⟨b, 0, rfl, Nat.le_refl _, h.lt, fun j u hu => by
  rw [Nat.zero_add, h.cell j]; simpa using hu⟩
theorem load_kids (w : World) (p : Addr) (v : Value) (h : w.cell? p = some v) (hv : ∃ A n c, v = .slice A n c) : (Instr.loadAt 24 (.pointer (some p))).run Tryz.prog w = .ok v w := by
  obtain ⟨A, n, c, rfl⟩ := hv
  have := Tryz.underlying24
  simp [go_sem, h]
theorem own_slice {w : World} {base e : Nat} {v : Value} {n : Nat} {xs : List Value} (h : w.ownsRow base e 5 v n xs) : ∃ A n c, v = .slice A n c := by
  obtain ⟨A, c, rfl, _⟩ := Rd.of_own h (by decide)
  exact ⟨_, _, _, rfl⟩
theorem trow_run (w : World) (t : TT) : (Instr.buildSlice 24 1 #[(0, .agg t.cells.toArray)]).run Tryz.prog w = .ok (.slice (some ⟨w.heap.size, 0, none⟩) 1 1) (w.alloc (.cells t.cells.toArray 26)) := by
  kernel_rfl
section
variable {Q : Exit → Act → World → Prop} {ops : Array Oper} {hd : List Oper} {a : Act} {G : World → Prop} {φs : List (Value → World → Prop)} {i : Nat} {o : Oper} {r : Nat}
theorem st_loadt (hg : o.guard = none) (hap : dstApart hd = true) {x : Nat} {t : TypeId} {p : Addr} {c : Value} (ho : o.op = .load t (.tmp x)) (jx : Nat) (hx : isDst hd jx x = true) (hxs : x < a.tmps.size) (wx : Region.waitsFor .any ops i jx = true) (px : phi φs jx = fun v _ => v = .pointer (some p)) (hr : ∀ w, G w → (Instr.loadAt t (.pointer (some p))).run Tryz.prog w = .ok c w) (hp : phi φs i = fun v _ => v = c) : StepOk Tryz.prog Q ops hd a (Rab r) G φs i o :=
  .run hg hap fun u ρ w k => by
    have e1 := k.dep jx wx
    rw [px] at e1
    exact ⟨c, w, by simp only [execOp, ho, (k.rho.at_ jx x hx hxs).trans e1, Sem.run_bind, hr w k.good, Result.andThen_ok, Sem.run_pure], k.good, Rab.refl _ _, by rw [hp]⟩
theorem st_pure (hg : o.guard = none) (hap : dstApart hd = true) {x : Nat} {c1 c : Value} (jx : Nat) (hx : isDst hd jx x = true) (hxs : x < a.tmps.size) (wx : Region.waitsFor .any ops i jx = true) (px : phi φs jx = fun v _ => v = c1) (hr : ∀ ρ w, ρ (.tmp x) = c1 → (∀ v, ρ (.const v) = v) → (execOp ρ o).run Tryz.prog w = .ok (.value c) w) (hp : phi φs i = fun v _ => v = c) : StepOk Tryz.prog Q ops hd a (Rab r) G φs i o :=
  .run hg hap fun u ρ w k => by
    have e1 := k.dep jx wx
    rw [px] at e1
    exact ⟨c, w, hr ρ w ((k.rho.at_ jx x hx hxs).trans e1) k.rho.con, k.good, Rab.refl _ _, by rw [hp]⟩
theorem st_test (hg : o.guard = none) (hap : dstApart hd = true) {g n m : Nat} {l : List Int} {x y : Nat} {c : Int} {ts : Array TypeId} (ho : o.op = .call { callee := .value (.func 16), args := #[.tmp x, .tmp y], argTypes := ts }) (jx jy : Nat) (hx : isDst hd jx x = true) (hy : isDst hd jy y = true) (hxs : x < a.tmps.size) (hys : y < a.tmps.size)
    (wx : Region.waitsFor .any ops i jx = true) (wy : Region.waitsFor .any ops i jy = true) (px : phi φs jx = fun v _ => v = .pointer (some ⟨g, 0, none⟩)) (py : phi φs jy = fun v _ => v = .int .i64 c)
    (hI : ∀ k w, CodesAt w g l k → Calls Tryz.prog 16 #[.pointer (some ⟨g, 0, none⟩), .int .i64 c] w (TestPost w g l n)) (hG : ∀ w, G w → (∃ k, CodesAt w g l k) ∧ m ≤ w.heap.size) (hG2 : ∀ w w' k, G w → CodesAt w' g l k → w.grownBy w' (some g) → G w') (hgr : g < r) (hp : phi φs i = IsTest n m) : StepOk Tryz.prog Q ops hd a (Rab r) G φs i o :=
  .call hg hap 16 fun u ρ w k => by
    have e1 := k.dep jx wx
    rw [px] at e1
    have r1 := (k.rho.at_ jx x hx hxs).trans e1
    have e2 := k.dep jy wy
    rw [py] at e2
    have r2 := (k.rho.at_ jy y hy hys).trans e2
    obtain ⟨⟨kk, hC⟩, hm⟩ := hG w k.good
    refine ⟨#[.pointer (some ⟨g, 0, none⟩), .int .i64 c], ?_, (hI kk w hC).mono ?_⟩
    · simp only [execOp, ho, resolve, Deferred.ofValue, List.map_toArray, List.map_cons, List.map_nil, r1, r2, k.rho.con, k.rho.fn]
      simp [go_sem]
    · rintro e w' ⟨t, k2, rfl, h1, h2, hC2, hgg⟩
      exact ⟨_, rfl, hG2 w w' k2 k.good hC2 hgg, Rab.of hgg hgr, by rw [hp]; exact ⟨t, rfl, h1, h2.mono (fun b hb _ => Nat.le_trans hm hb)⟩⟩
theorem st_trow (hg : o.guard = none) (hap : dstApart hd = true) {n m : Nat} {x : Nat} (ho : o.op = .buildSlice 24 1 #[(0, .tmp x)]) (jx : Nat) (hx : isDst hd jx x = true) (hxs : x < a.tmps.size) (wx : Region.waitsFor .any ops i jx = true) (px : phi φs jx = IsTest n m)
    (hG : ∀ w o, G w → G (w.alloc o)) (hm : ∀ w, G w → m ≤ w.heap.size) (hp : phi φs i = IsTRow n m) : StepOk Tryz.prog Q ops hd a (Rab r) G φs i o :=
  .run hg hap fun u ρ w k => by
    have e1 := k.dep jx wx
    rw [px] at e1
    obtain ⟨t, e1, h1, h2⟩ := e1
    have r1 := (k.rho.at_ jx x hx hxs).trans e1
    refine ⟨.slice (some ⟨w.heap.size, 0, none⟩) 1 1, w.alloc (.cells t.cells.toArray 26), ?_, hG _ _ k.good, Rab.alloc _ _ _, by rw [hp]; exact ⟨w.heap.size, t, rfl, hm w k.good, Blk.new _ _ _, h1, h2.grown (World.grownBy_alloc w _ none) (by simp)⟩⟩
    simp only [execOp, ho, List.map_toArray, List.map_cons, List.map_nil, r1, Sem.run_bind, trow_run, Result.andThen_ok, Sem.run_pure]
end
/-- a number of a table -/
def IsNum0 (n m : Int) (v : Value) (_ : World) : Prop := ∃ s : Int, v = .int .i64 s ∧ n ≤ s ∧ s ≤ m
theorem St.num {R : World → World → Prop} {n m : Int} : St R (IsNum0 n m) := fun v w w' _ h => h
theorem intSizeT : (Tryz.prog.info? 3).map (·.size) = some 1 := by kernel_rfl
theorem load_intT (w : World) (p : Addr) (s : Int) (h : w.cell? p = some (.int .i64 s)) : (Instr.loadAt 3 (.pointer (some p))).run Tryz.prog w = .ok (.int .i64 s) w := by
  have := Tryz.underlying3
  simp [go_sem, h]
theorem lit_int3 (a b c : Int) (ρ : Operand → Value) (w : World) (h : ∀ v, ρ (.const v) = v) : (Instr.buildSlice 70 3 ((#[(0, .const (.int .i64 a)), (1, .const (.int .i64 b)), (2, .const (.int .i64 c))] : Array (Nat × Operand)).map fun (i, x) => (i, ρ x))).run Tryz.prog w = .ok (.slice (some ⟨w.heap.size, 0, none⟩) 3 3) (w.alloc (.cells #[.int .i64 a, .int .i64 b, .int .i64 c] 3)) := by
  simp only [List.map_toArray, List.map_cons, List.map_nil, h]
  kernel_rfl
theorem st_ldi {Q : Exit → Act → World → Prop} {ops : Array Oper} {hd : List Oper} {a : Act} {G : World → Prop} {φs : List (Value → World → Prop)} {i : Nat} {o : Oper} {r : Nat} (hg : o.guard = none) (hap : dstApart hd = true) {e : TypeId} {cs : Array Value} {x : Nat} {n m : Int} (ho : o.op = .load 3 (.tmp x)) (jx : Nat) (hx : isDst hd jx x = true) (hxs : x < a.tmps.size)
    (wx : Region.waitsFor .any ops i jx = true) (px : phi φs jx = IsAt0 r e cs) (hcs : ∀ j, j < cs.size → ∃ s, cs[j]? = some (.int .i64 s) ∧ n ≤ s ∧ s ≤ m) (hp : phi φs i = IsNum0 n m) : StepOk Tryz.prog Q ops hd a (Rab r) G φs i o :=
  .run hg hap fun u ρ w k => by
    have h1 := k.dep jx wx
    rw [px] at h1
    obtain ⟨b, j, e1, hj, hb, hB⟩ := h1
    have r1 := (k.rho.at_ jx x hx hxs).trans e1
    obtain ⟨s, hs, h2⟩ := hcs j hj
    refine ⟨.int .i64 s, w, ?_, k.good, Rab.refl _ _, by rw [hp]; exact ⟨s, rfl, h2⟩⟩
    have hc := (hB.cell j).trans hs
    simp only [execOp, ho, r1, Sem.run_bind, load_intT w _ s hc, Result.andThen_ok, Sem.run_pure]

set_option maxHeartbeats 800000 in
theorem name_some (g : Nat) (l : List Int) (k : Nat) (w : World) (h : CodesAt w g l k) :
    Calls Tryz.prog 41 #[.pointer (some ⟨g, 0, none⟩)] w (StrPost w g l 20) := by
  go_enter Tryz.func41, Tryz.ntmps41
  go_wp2_with fail
  refine (next_some g l k 4 _ (h.grown (World.grownBy_alloc _ _ none) (by simp)) (by omega) (by omega)).mono ?_
  rintro e w2 ⟨v2, k2, rfl, hv2, h2, hg2⟩
  obtain ⟨j, rfl⟩ := Int.eq_ofNat_of_zero_le hv2.1
  have hj : j < 4 := by omega
  have hlt := h.lt
  have hB := (Blk.new w _ _).grown hg2 (by simp; omega)
  obtain ⟨x, hc, HX⟩ := hB.str_at (m := 20) (by rfl) (j := j) hj
  have G2 := Lib.hid hg2
  have C2 := Lib.hid h2
  clear hg2 h2 hB
  go_wp2
  go_ret
  exact ⟨x, k2, rfl, by have := HX.out; simpa using this, C2.out, only_trans (only_alloc (only_refl _ _) _) G2.out⟩

set_option maxHeartbeats 16000000 in
set_option maxRecDepth 100000 in
theorem test_some (d : Nat) : d ≤ 3 → ∀ (g : Nat) (l : List Int) (k : Nat) (w : World), CodesAt w g l k →
    Calls Tryz.prog 16 #[.pointer (some ⟨g, 0, none⟩), .int .i64 d] w (TestPost w g l (d + 1)) := by
  induction d using Nat.strongRecOn with
  | _ d IH =>
  intro hd3 g l k w h
  have hlt0 := h.lt
  obtain ⟨r, hr⟩ : ∃ r, r = w.heap.size := ⟨_, rfl⟩
  have HR := Lib.hid hr
  go_enter Tryz.func16, Tryz.ntmps16
  go_wp2_with fail
  refine (next_some g l k 15 _ (h.alloc _) (by omega) (by omega)).mono ?_
  rintro e w1 ⟨v1, k1, rfl, hv1, h1, hg1⟩
  have hB1 : Blk w1 w.heap.size 26 zeroT := (Blk.new w _ _).grown hg1 (by intro e; injection e; omega)
  have G1 : Hid (w.grownBy w1 (some g)) := only_trans (only_alloc (only_refl _ _) _) hg1
  rw [← hr] at hB1 ⊢
  have HM1 : Hid (TMid w r g l w1) := ⟨hB1, ⟨k1, h1⟩, G1.out, by omega, by omega⟩
  clear hB1 G1 hg1 h hr
  go_upto_if 12 with (fail)
  go_cut [5] (fun v wx => ∃ j : Nat, v = .int .i64 j ∧ j < 15 ∧ (j < 10 ∨ 0 < d) ∧ TMid w r g l wx)
  case first =>
    by_cases hd0 : d = 0
    · subst hd0
      go_wp2_with fail
      refine (next_some g l k1 10 _ h1 (by omega) (by omega)).mono ?_
      rintro e w2 ⟨v2, k2, rfl, hv2, h2, hg2⟩
      have HM2 : Hid (TMid w r g l w2) := HM1.out.next hg2 h2
      clear HM1 h1 hg2
      go_wp2_with fail
      go_meet
      exact ⟨v2.toNat, by rw [Int.toNat_of_nonneg hv2.1], by omega, by omega, HM2.out⟩
    · have hd0' : ((d : Int) == 0) = false := by simp; omega
      go_wp2_with fail
      go_meet
      exact ⟨v1.toNat, by rw [Int.toNat_of_nonneg hv1.1], by omega, by omega, HM1.out⟩
  case rest =>
    obtain ⟨j, rfl, hj15, hjd, HM2'⟩ := hcut
    clear HM1 h1 hv1
    obtain ⟨k2, h2⟩ := HM2'.2.1
    have HM2 := Lib.hid HM2'
    clear HM2'
    have hlt2 := HM2.out.le
    obtain ⟨w2, rfl⟩ : ∃ x, x = wc := ⟨_, rfl⟩
    have hj : (j = 0 ∨ j = 1) ∨ j = 2 ∨ j = 3 ∨ (j = 4 ∨ j = 5) ∨ j = 6 ∨ (j = 7 ∨ j = 8) ∨ j = 9 ∨ j = 10 ∨ (j = 11 ∨ j = 13) ∨ (j = 12 ∨ j = 14) := by omega
    clear hj15
    rcases hj with hj | hj | hj | hj | hj | hj | hj | hj | hj | hj
    · rcases hj with rfl | rfl
      all_goals
        go_wp2_with fail
        refine (next_some g l k2 6 _ (h2.alloc _) (by omega) (by omega)).mono ?_
        rintro e w3 ⟨v3, k3, rfl, hv3, h3, hg3⟩
        have HM3 : Hid (TMid w r g l w3) := (HM2.out.alloc _).next hg3 h3
        obtain ⟨i, rfl⟩ := Int.eq_ofNat_of_zero_le hv3.1
        have hi : i < 6 := by omega
        have hB := (Blk.new w2 _ _).grown hg3 (by have := HM2.out.2.2.2.1; intro e; injection e; omega)
        obtain ⟨x, hc, HX⟩ := hB.str_at (m := 20) (by rfl) (j := i) hi
        have e0 := HM3.out.1.cell 0; have e1 := HM3.out.1.cell 1; have e2 := HM3.out.1.cell 2; have e3 := HM3.out.1.cell 3; have e4 := HM3.out.1.cell 4
        have f0 := HM3.out.1.frozen 0; have f1 := HM3.out.1.frozen 1; have f2 := HM3.out.1.frozen 2; have f3 := HM3.out.1.frozen 3; have f4 := HM3.out.1.frozen 4
        simp [zeroT] at e0 e1 e2 e3 e4
        clear hg3 h3 h2 hB HM2
        go_wp2_with fail
        have q := HM3.out.end_ (t := .mk (1) ⟨#[]⟩ x (0) none 0 []) (n := d + 1) (TT.Ok.leaf (by omega) ⟨by simp [ByteArray.size], HX.out⟩ (by omega) (by omega)) TT.Sub.leaf
        obtain ⟨q0, q1, q2, q3, q4⟩ := set5_cells HM3.out.1 rfl (.int .i64 (1)) (.string ⟨#[]⟩) (.string x) (.int .i64 (0)) (.slice none 0 0)
        unfold set5 at q0 q1 q2 q3 q4
        exact bodyPost_ret (v := .agg (TT.mk (1) ⟨#[]⟩ x (0) none 0 []).cells.toArray) (by simp [results, Tryz.results16, go_sem, TT.cells, q0, q1, q2, q3, q4, TT.op, TT.nm, TT.tx, TT.num, TT.ka, TT.kc, TT.kids]) rfl q
    · subst hj
      go_wp2_with fail
      refine (next_some g l k2 5 _ (h2.alloc _) (by omega) (by omega)).mono ?_
      rintro e w3 ⟨v3, k3, rfl, hv3, h3, hg3⟩
      have HM3 : Hid (TMid w r g l w3) := (HM2.out.alloc _).next hg3 h3
      obtain ⟨i, rfl⟩ := Int.eq_ofNat_of_zero_le hv3.1
      have hi : i < 5 := by omega
      have hB := (Blk.new w2 _ _).grown hg3 (by have := HM2.out.2.2.2.1; intro e; injection e; omega)
      obtain ⟨x, hc, HX⟩ := hB.str_at (m := 20) (by rfl) (j := i) hi
      have e0 := HM3.out.1.cell 0; have e1 := HM3.out.1.cell 1; have e2 := HM3.out.1.cell 2; have e3 := HM3.out.1.cell 3; have e4 := HM3.out.1.cell 4
      have f0 := HM3.out.1.frozen 0; have f1 := HM3.out.1.frozen 1; have f2 := HM3.out.1.frozen 2; have f3 := HM3.out.1.frozen 3; have f4 := HM3.out.1.frozen 4
      simp [zeroT] at e0 e1 e2 e3 e4
      clear hg3 h3 h2 hB HM2
      go_wp2_with fail
      have q := HM3.out.end_ (t := .mk (2) ⟨#[]⟩ x (0) none 0 []) (n := d + 1) (TT.Ok.leaf (by omega) ⟨by simp [ByteArray.size], HX.out⟩ (by omega) (by omega)) TT.Sub.leaf
      obtain ⟨q0, q1, q2, q3, q4⟩ := set5_cells HM3.out.1 rfl (.int .i64 (2)) (.string ⟨#[]⟩) (.string x) (.int .i64 (0)) (.slice none 0 0)
      unfold set5 at q0 q1 q2 q3 q4
      exact bodyPost_ret (v := .agg (TT.mk (2) ⟨#[]⟩ x (0) none 0 []).cells.toArray) (by simp [results, Tryz.results16, go_sem, TT.cells, q0, q1, q2, q3, q4, TT.op, TT.nm, TT.tx, TT.num, TT.ka, TT.kc, TT.kids]) rfl q
    · subst hj
      go_wp2_with fail
      refine (next_some g l k2 5 _ (h2.alloc _) (by omega) (by omega)).mono ?_
      rintro e w3 ⟨v3, k3, rfl, hv3, h3, hg3⟩
      have HM3 : Hid (TMid w r g l w3) := (HM2.out.alloc _).next hg3 h3
      obtain ⟨i, rfl⟩ := Int.eq_ofNat_of_zero_le hv3.1
      have hi : i < 5 := by omega
      have hB := (Blk.new w2 _ _).grown hg3 (by have := HM2.out.2.2.2.1; intro e; injection e; omega)
      obtain ⟨x, hc, HX⟩ := hB.str_at (m := 20) (by rfl) (j := i) hi
      have e0 := HM3.out.1.cell 0; have e1 := HM3.out.1.cell 1; have e2 := HM3.out.1.cell 2; have e3 := HM3.out.1.cell 3; have e4 := HM3.out.1.cell 4
      have f0 := HM3.out.1.frozen 0; have f1 := HM3.out.1.frozen 1; have f2 := HM3.out.1.frozen 2; have f3 := HM3.out.1.frozen 3; have f4 := HM3.out.1.frozen 4
      simp [zeroT] at e0 e1 e2 e3 e4
      clear hg3 h3 h2 hB HM2
      go_wp2_with fail
      have q := HM3.out.end_ (t := .mk (3) ⟨#[]⟩ x (0) none 0 []) (n := d + 1) (TT.Ok.leaf (by omega) ⟨by simp [ByteArray.size], HX.out⟩ (by omega) (by omega)) TT.Sub.leaf
      obtain ⟨q0, q1, q2, q3, q4⟩ := set5_cells HM3.out.1 rfl (.int .i64 (3)) (.string ⟨#[]⟩) (.string x) (.int .i64 (0)) (.slice none 0 0)
      unfold set5 at q0 q1 q2 q3 q4
      exact bodyPost_ret (v := .agg (TT.mk (3) ⟨#[]⟩ x (0) none 0 []).cells.toArray) (by simp [results, Tryz.results16, go_sem, TT.cells, q0, q1, q2, q3, q4, TT.op, TT.nm, TT.tx, TT.num, TT.ka, TT.kc, TT.kids]) rfl q
    · rcases hj with rfl | rfl
      all_goals
        go_wp2_with fail
        refine (next_some g l k2 4 _ h2 (by omega) (by omega)).mono ?_
        rintro e w3 ⟨v3, k3, rfl, hv3, h3, hg3⟩
        have HM3 : Hid (TMid w r g l w3) := HM2.out.next hg3 h3
        clear hg3 h2 HM2
        by_cases h33 : v3 = 3
        · have hb3 : (v3 == 3) = true := by simp [h33]
          clear h33 h3
          have hgr := HM3.out.2.2.2.1
          go_wp2_with fail
          refine wp_region_inv 10 (Rab (r + 1)) (TMid w r g l) [IsRow0 (r + 1) 9 #[.string ⟨#[64, 104, 111, 115, 116]⟩, .string ⟨#[64, 115, 116, 114, 101, 97, 109]⟩, .string ⟨#[64, 116, 114, 97, 99, 101]⟩, .string ⟨#[64, 119, 101, 105, 103, 104, 116]⟩], (fun v _ => v = .pointer (some ⟨g, 0, none⟩)), IsIdx 4, IsAt0 (r + 1) 9 #[.string ⟨#[64, 104, 111, 115, 116]⟩, .string ⟨#[64, 115, 116, 114, 101, 97, 109]⟩, .string ⟨#[64, 116, 114, 97, 99, 101]⟩, .string ⟨#[64, 119, 101, 105, 103, 104, 116]⟩], IsStr0 0 20, IsRow0 (r + 1) 9 #[.string ⟨#[49]⟩, .string ⟨#[109, 97, 105, 110]⟩, .string ⟨#[116, 49]⟩, .string ⟨#[50]⟩], (fun v _ => v = .pointer (some ⟨g, 0, none⟩)), IsIdx 4, IsAt0 (r + 1) 9 #[.string ⟨#[49]⟩, .string ⟨#[109, 97, 105, 110]⟩, .string ⟨#[116, 49]⟩, .string ⟨#[50]⟩], IsStr0 0 20] (by kernel_rfl) (by kernel_rfl) ?_ ?_ ?_ ?_
          · intro p hp
            simp only [List.mem_cons, List.not_mem_nil, or_false] at hp
            rcases hp with rfl | rfl | rfl | rfl | rfl | rfl | rfl | rfl | rfl | rfl
            · exact St.row
            · exact St.const _
            · exact St.idx
            · exact St.at_
            · exact St.str
            · exact St.row
            · exact St.const _
            · exact St.idx
            · exact St.at_
            · exact St.str
          · exact HM3.out.drew
          · generalize hA : Act.mk _ _ = A
            have hsz : A.tmps.size = 131 := by rw [← hA]; kernel_rfl
            have ea0 : A.eval (.tmp 0) = .pointer (some ⟨g, 0, none⟩) := by rw [← hA]; kernel_rfl
            clear hA
            simp only [List.take_succ_cons, List.take_zero]
            refine .cons ?_ (.cons ?_ (.cons ?_ (.cons ?_ (.cons ?_ (.cons ?_ (.cons ?_ (.cons ?_ (.cons ?_ (.cons ?_ .nil)))))))))
            · exact st_rowlit rfl (by kernel_rfl) rfl (lit_str4 _ _ _ _) (fun _ o h => h.alloc o) (fun _ h => h.le) (by rfl)
            · exact st_copy (by rfl) (by kernel_rfl) (by rfl) (by kernel_rfl) ea0 (by rfl)
            · exact st_next (by rfl) (by kernel_rfl) (n := 4) (by rfl) 1 (by kernel_rfl) (by omega) (by kernel_rfl) (by rfl) (by omega) (by omega) (fun _ h => h.2.1) (fun _ _ _ h hC hg => h.next hg hC) (by omega) (by rfl)
            · exact st_ix (by rfl) (by kernel_rfl) (by rfl) Tryz.underlying40 strSize 0 2 (by kernel_rfl) (by kernel_rfl) (by omega) (by omega) (by kernel_rfl) (by kernel_rfl) (by rfl) (by rfl) (by rfl)
            · exact st_ld (by rfl) (by kernel_rfl) (by rfl) Tryz.underlying9 3 (by kernel_rfl) (by omega) (by kernel_rfl) (by rfl) (fun j hj => by obtain ⟨x, hx, HX⟩ := tab_str (cs := #[.string ⟨#[64, 104, 111, 115, 116]⟩, .string ⟨#[64, 115, 116, 114, 101, 97, 109]⟩, .string ⟨#[64, 116, 114, 97, 99, 101]⟩, .string ⟨#[64, 119, 101, 105, 103, 104, 116]⟩]) (m := 20) (by rfl) (j := j) hj; exact ⟨x, hx, Nat.zero_le _, HX⟩) (by rfl) load_str
            · exact st_rowlit rfl (by kernel_rfl) rfl (lit_str4 _ _ _ _) (fun _ o h => h.alloc o) (fun _ h => h.le) (by rfl)
            · exact st_copy (by rfl) (by kernel_rfl) (by rfl) (by kernel_rfl) ea0 (by rfl)
            · exact st_next (by rfl) (by kernel_rfl) (n := 4) (by rfl) 6 (by kernel_rfl) (by omega) (by kernel_rfl) (by rfl) (by omega) (by omega) (fun _ h => h.2.1) (fun _ _ _ h hC hg => h.next hg hC) (by omega) (by rfl)
            · exact st_ix (by rfl) (by kernel_rfl) (by rfl) Tryz.underlying40 strSize 5 7 (by kernel_rfl) (by kernel_rfl) (by omega) (by omega) (by kernel_rfl) (by kernel_rfl) (by rfl) (by rfl) (by rfl)
            · exact st_ld (by rfl) (by kernel_rfl) (by rfl) Tryz.underlying9 8 (by kernel_rfl) (by omega) (by kernel_rfl) (by rfl) (fun j hj => by obtain ⟨x, hx, HX⟩ := tab_str (cs := #[.string ⟨#[49]⟩, .string ⟨#[109, 97, 105, 110]⟩, .string ⟨#[116, 49]⟩, .string ⟨#[50]⟩]) (m := 20) (by rfl) (j := j) hj; exact ⟨x, hx, Nat.zero_le _, HX⟩) (by rfl) load_str
          · intro u w9 hM hu
            have e4 := hu 4 (by omega)
            have e9 := hu 9 (by omega)
            obtain ⟨x, e4, -, hx⟩ := e4
            obtain ⟨y, e9, -, hy⟩ := e9
            simp only [List.take_succ_cons, List.take_zero, List.drop_succ_cons, List.drop_zero, putAll]
            rw [e4, e9]
            have HX : Hid (x.size ≤ 20 ∧ y.size ≤ 20) := ⟨hx, hy⟩
            have HM9 := Lib.hid hM
            clear hu e4 e9 hM hx hy HM3
            have e0 := HM9.out.1.cell 0; have e1 := HM9.out.1.cell 1; have e2 := HM9.out.1.cell 2; have e3 := HM9.out.1.cell 3; have e4 := HM9.out.1.cell 4
            have f0 := HM9.out.1.frozen 0; have f1 := HM9.out.1.frozen 1; have f2 := HM9.out.1.frozen 2; have f3 := HM9.out.1.frozen 3; have f4 := HM9.out.1.frozen 4
            simp [zeroT] at e0 e1 e2 e3 e4
            go_wp2_with fail
            have q := HM9.out.end_ (t := .mk (4) x y (0) none 0 []) (n := d + 1) (TT.Ok.leaf (by omega) HX.out (by omega) (by omega)) TT.Sub.leaf
            obtain ⟨q0, q1, q2, q3, q4⟩ := set5_cells HM9.out.1 rfl (.int .i64 (4)) (.string x) (.string y) (.int .i64 (0)) (.slice none 0 0)
            unfold set5 at q0 q1 q2 q3 q4
            exact bodyPost_ret (v := .agg (TT.mk (4) x y (0) none 0 []).cells.toArray) (by simp [results, Tryz.results16, go_sem, TT.cells, q0, q1, q2, q3, q4, TT.op, TT.nm, TT.tx, TT.num, TT.ka, TT.kc, TT.kids]) rfl q
        · have hb3 : (v3 == 3) = false := by simp [h33]
          clear h33
          go_wp2_with fail
          refine (name_some g l k3 _ h3).mono ?_
          rintro e w4 ⟨x, k4, rfl, hx, h4, hg4⟩
          have HM4 : Hid (TMid w r g l w4) := HM3.out.next hg4 h4
          clear hg4 h3 HM3
          go_wp2_with fail
          refine (value_some g l k4 _ h4).mono ?_
          rintro e w5 ⟨y, k5, rfl, hy, h5, hg5⟩
          have HM5 : Hid (TMid w r g l w5) := HM4.out.next hg5 h5
          clear hg5 h4 HM4 h5
          have e0 := HM5.out.1.cell 0; have e1 := HM5.out.1.cell 1; have e2 := HM5.out.1.cell 2; have e3 := HM5.out.1.cell 3; have e4 := HM5.out.1.cell 4
          have f0 := HM5.out.1.frozen 0; have f1 := HM5.out.1.frozen 1; have f2 := HM5.out.1.frozen 2; have f3 := HM5.out.1.frozen 3; have f4 := HM5.out.1.frozen 4
          simp [zeroT] at e0 e1 e2 e3 e4
          go_wp2_with fail
          have q := HM5.out.end_ (t := .mk (4) x y (0) none 0 []) (n := d + 1) (TT.Ok.leaf (by omega) ⟨hx, hy⟩ (by omega) (by omega)) TT.Sub.leaf
          obtain ⟨q0, q1, q2, q3, q4⟩ := set5_cells HM5.out.1 rfl (.int .i64 (4)) (.string x) (.string y) (.int .i64 (0)) (.slice none 0 0)
          unfold set5 at q0 q1 q2 q3 q4
          exact bodyPost_ret (v := .agg (TT.mk (4) x y (0) none 0 []).cells.toArray) (by simp [results, Tryz.results16, go_sem, TT.cells, q0, q1, q2, q3, q4, TT.op, TT.nm, TT.tx, TT.num, TT.ka, TT.kc, TT.kids]) rfl q
    · subst hj
      go_wp2_with fail
      refine (name_some g l k2 _ h2).mono ?_
      rintro e w4 ⟨x, k4, rfl, hx, h4, hg4⟩
      have HM4 : Hid (TMid w r g l w4) := HM2.out.next hg4 h4
      clear hg4 h2 HM2 h4
      have e0 := HM4.out.1.cell 0; have e1 := HM4.out.1.cell 1; have e2 := HM4.out.1.cell 2; have e3 := HM4.out.1.cell 3; have e4 := HM4.out.1.cell 4
      have f0 := HM4.out.1.frozen 0; have f1 := HM4.out.1.frozen 1; have f2 := HM4.out.1.frozen 2; have f3 := HM4.out.1.frozen 3; have f4 := HM4.out.1.frozen 4
      simp [zeroT] at e0 e1 e2 e3 e4
      go_wp2_with fail
      have q := HM4.out.end_ (t := .mk (8) x ⟨#[]⟩ (0) none 0 []) (n := d + 1) (TT.Ok.leaf (by omega) ⟨hx, by simp [ByteArray.size]⟩ (by omega) (by omega)) TT.Sub.leaf
      obtain ⟨q0, q1, q2, q3, q4⟩ := set5_cells HM4.out.1 rfl (.int .i64 (8)) (.string x) (.string ⟨#[]⟩) (.int .i64 (0)) (.slice none 0 0)
      unfold set5 at q0 q1 q2 q3 q4
      exact bodyPost_ret (v := .agg (TT.mk (8) x ⟨#[]⟩ (0) none 0 []).cells.toArray) (by simp [results, Tryz.results16, go_sem, TT.cells, q0, q1, q2, q3, q4, TT.op, TT.nm, TT.tx, TT.num, TT.ka, TT.kc, TT.kids]) rfl q
    · rcases hj with rfl | rfl
      all_goals
        go_wp2_with fail
        refine (next_some g l k2 3 _ h2 (by omega) (by omega)).mono ?_
        rintro e w3 ⟨v3, k3, rfl, hv3, h3, hg3⟩
        have HM3 : Hid (TMid w r g l w3) := HM2.out.next hg3 h3
        clear hg3 h2 HM2
        go_wp2_with fail
        refine (name_some g l k3 _ h3).mono ?_
        rintro e w4 ⟨x, k4, rfl, hx, h4, hg4⟩
        have HM4 : Hid (TMid w r g l w4) := HM3.out.next hg4 h4
        clear hg4 h3 HM3
        go_wp2_with fail
        refine (next_some g l k4 40 _ h4 (by omega) (by omega)).mono ?_
        rintro e w5 ⟨v5, k5, rfl, hv5, h5, hg5⟩
        have HM5 : Hid (TMid w r g l w5) := HM4.out.next hg5 h5
        have hlt5 := HM5.out.le
        clear hg5 h4 HM4
        go_wp2_with fail
        obtain ⟨q, hq⟩ : ∃ q, q = w5.heap.size := ⟨_, rfl⟩
        rw [← hq]
        obtain ⟨w6, hw6⟩ : ∃ w6, w6 = w5.alloc (Obj.cells #[.int .i64 (9 + v3), .string x, .string ⟨#[]⟩, .int .i64 (v5 - 5), .slice none 0 0] 26) := ⟨_, rfl⟩
        rw [← hw6]
        have HM6 : Hid (TMid w r g l w6) := by rw [hw6]; exact HM5.out.alloc _
        have hC6 : CodesAt w6 g l k5 := by rw [hw6]; exact h5.alloc _
        have HB6 : Hid (Blk w6 q 26 #[.int .i64 (9 + v3), .string x, .string ⟨#[]⟩, .int .i64 (v5 - 5), .slice none 0 0]) := by rw [hw6, hq]; exact Blk.new _ _ _
        have hqr : r < q := by omega
        clear hw6 hq h5 HM5
        obtain ⟨op, hop⟩ : ∃ op, op = 9 + v3 := ⟨_, rfl⟩
        rw [← hop] at HB6 ⊢
        have HOP := Lib.hid hop
        clear hop
        refine (next_some g l k5 2 _ hC6 (by omega) (by omega)).mono ?_
        rintro e w7 ⟨v7, k7, rfl, hv7, h7, hg7⟩
        have HM7 : Hid (TMid w r g l w7) := HM6.out.next hg7 h7
        have HB7 := Lib.hid (HB6.out.grown hg7 (by have := HM6.out.2.2.2.1; intro e; injection e; omega))
        clear hg7 hC6 HM6 HB6
        go_upto_if 82 with (fail)
        go_cut [] (fun wx => TMid w r g l wx ∧ T7 q op wx)
        case first =>
          obtain ⟨b0, hb0⟩ : ∃ b, b = decide (v7 = 1) := ⟨_, rfl⟩
          by_cases h71 : v7 = 1
          · have hb7 : (v7 == 1) = true := by simp [h71]
            clear h71 hb0
            go_wp2_with fail
            refine (next_some g l k7 70 _ h7 (by omega) (by omega)).mono ?_
            rintro e w8 ⟨v8, k8, rfl, hv8, h8, hg8⟩
            have HM8 : Hid (TMid w r g l w8) := HM7.out.next hg8 h8
            have HB8 := Lib.hid (HB7.out.grown hg8 (by have := HM7.out.2.2.2.1; intro e; injection e; omega))
            have e1 := HB8.out.cell 1; have e3 := HB8.out.cell 3
            have f1 := HB8.out.frozen 1; have f3 := HB8.out.frozen 3
            simp at e1 e3
            clear hg8 h7 HM7 HB7 h8
            go_wp2_with fail
            go_meet
            exact T7.two HM8.out HB8.out hqr (by omega) (by omega)
          · have hb7 : (v7 == 1) = false := by simp [h71]
            clear h71 hb0
            go_wp2_with fail
            go_meet
            exact ⟨HM7.out, x, v5 - 5, hx, by omega, by omega, HB7.out⟩
        case rest =>
          obtain ⟨HM7', nm7, num7, hn1, hn2, hn3, hB7'⟩ := hcut
          clear h7 HM7 HB7
          obtain ⟨k7, h7⟩ := HM7'.2.1
          have HM7 := Lib.hid HM7'
          have HB7 := Lib.hid hB7'
          clear HM7' hB7'
          go_wp2_with fail
          refine (next_some g l k7 8 _ h7 (by omega) (by omega)).mono ?_
          rintro e w8 ⟨v8, k8, rfl, hv8, h8, hg8⟩
          have HM8 : Hid (TMid w r g l w8) := HM7.out.next hg8 h8
          have HB8 := Lib.hid (HB7.out.grown hg8 (by have := HM7.out.2.2.2.1; intro e; injection e; omega))
          clear hg8 h7 HM7 HB7
          go_upto_if 90 with (fail)
          go_cut [] (fun wx => TMid w r g l wx ∧ T7 q op wx)
          case first =>
            by_cases h87 : v8 = 7
            · have hb8 : (v8 == 7) = true := by simp [h87]
              clear h87 h8
              go_wp2_with fail
              refine wp_region_inv 7 (Rab (q + 1)) (fun wx => TMid w r g l wx ∧ T7 q op wx) [IsRow0 (q + 1) 3 #[.int .i64 (-5), .int .i64 253402300799999, .int .i64 999999999999999999], (fun v _ => v = .pointer (some ⟨g, 0, none⟩)), IsIdx 3, IsAt0 (q + 1) 3 #[.int .i64 (-5), .int .i64 253402300799999, .int .i64 999999999999999999], IsNum0 (-5) 999999999999999999, (fun v _ => v = .pointer (some ⟨q, 1, none⟩)), (fun _ _ => True)] (by kernel_rfl) (by kernel_rfl) ?_ ?_ ?_ ?_
              · intro p hp
                simp only [List.mem_cons, List.not_mem_nil, or_false] at hp
                rcases hp with rfl | rfl | rfl | rfl | rfl | rfl | rfl
                · exact St.row
                · exact St.const _
                · exact St.idx
                · exact St.at_
                · exact St.num
                · exact St.const _
                · exact fun _ _ _ _ h => h
              · exact ⟨HM8.out.drew, nm7, num7, hn1, hn2, hn3, HB8.out.drew⟩
              · generalize hA : Act.mk _ _ = A
                have hsz : A.tmps.size = 131 := by rw [← hA]; kernel_rfl
                have ea0 : A.eval (.tmp 0) = .pointer (some ⟨g, 0, none⟩) := by rw [← hA]; kernel_rfl
                have ea6 : A.eval (.tmp 6) = .pointer (some ⟨q, 0, none⟩) := by rw [← hA]; kernel_rfl
                clear hA
                simp only [List.take_succ_cons, List.take_zero]
                have hgq : g < q := by have := HM8.out.2.2.2.1; omega
                refine .cons ?_ (.cons ?_ (.cons ?_ (.cons ?_ (.cons ?_ (.cons ?_ (.cons ?_ .nil))))))
                · exact st_rowlit rfl (by kernel_rfl) rfl (lit_int3 _ _ _) (fun _ o h => ⟨h.1.alloc o, h.2.alloc o⟩) (fun _ h => h.2.lt) (by rfl)
                · exact st_copy (by rfl) (by kernel_rfl) (by rfl) (by kernel_rfl) ea0 (by rfl)
                · exact st_next (by rfl) (by kernel_rfl) (n := 3) (by rfl) 1 (by kernel_rfl) (by omega) (by kernel_rfl) (by rfl) (by omega) (by omega) (fun _ h => h.1.2.1) (fun _ _ _ h hC hg => ⟨h.1.next hg hC, h.2.grown hg (by intro e; injection e; omega)⟩) (by omega) (by rfl)
                · exact st_ix (by rfl) (by kernel_rfl) (by rfl) Tryz.underlying70 intSizeT 0 2 (by kernel_rfl) (by kernel_rfl) (by omega) (by omega) (by kernel_rfl) (by kernel_rfl) (by rfl) (by rfl) (by rfl)
                · exact st_ldi (by rfl) (by kernel_rfl) (by rfl) 3 (by kernel_rfl) (by omega) (by kernel_rfl) (by rfl) (fun j hj => by obtain ⟨x, hx, HX⟩ := tab_int (cs := #[.int .i64 (-5), .int .i64 253402300799999, .int .i64 999999999999999999]) (p := fun v => decide (-5 ≤ v ∧ v ≤ 999999999999999999)) (by rfl) (j := j) hj; exact ⟨x, hx, by simpa using HX⟩) (by rfl)
                · exact st_fa (q := ⟨q, 1, none⟩) (by rfl) (by kernel_rfl) (by rfl) (by kernel_rfl) ea6 (fun w => field_testT w q 1 (by omega)) (by rfl)
                · exact st_storec (q := ⟨q, 1, none⟩) (by rfl) (by kernel_rfl) (by rfl) 5 (by kernel_rfl) (by omega) (by kernel_rfl) (by rfl) (by simp) (fun w h => store_t7 w q h.2) (fun w h => ⟨h.1.set hqr _ _, h.2.named⟩) (by rfl)
              · intro u w9 hM hu
                have e4 := hu 4 (by omega)
                obtain ⟨y, e4, hy1, hy2⟩ := e4
                simp only [List.take_succ_cons, List.take_zero, List.drop_succ_cons, List.drop_zero, putAll]
                rw [e4]
                have HM9 := Lib.hid hM.1
                obtain ⟨nm9, num9, hq1, hq2, hq3, hq4⟩ := hM.2
                have HB9 := Lib.hid hq4
                have HY : Hid (-5 ≤ y ∧ y ≤ 999999999999999999) := ⟨hy1, hy2⟩
                clear hu e4 hM hy1 hy2 HM8 HB8 hq4
                have e1 := HB9.out.cell 1; have e3 := HB9.out.cell 3
                have f1 := HB9.out.frozen 1; have f3 := HB9.out.frozen 3
                simp at e1 e3
                go_wp2_with fail
                go_meet
                exact ⟨HM9.out.set hqr _ _, nm9, y, hq1, HY.out.1, HY.out.2, by simpa using HB9.out.set_ 3 (.int .i64 y)⟩
            · have hb8 : (v8 == 7) = false := by simp [h87]
              clear h87
              go_wp2_with fail
              go_meet
              exact ⟨HM8.out, nm7, num7, hn1, hn2, hn3, HB8.out⟩
          case rest =>
            obtain ⟨HM9', nm9, num9, hm1, hm2, hm3, hB9'⟩ := hcut
            have HM9 := Lib.hid HM9'
            have HB9 := Lib.hid hB9'
            clear h8 HM8 HB8 HM9' hB9'
            have e0 := HM9.out.1.cell 0; have e1 := HM9.out.1.cell 1; have e2 := HM9.out.1.cell 2; have e3 := HM9.out.1.cell 3; have e4 := HM9.out.1.cell 4
            have f0 := HM9.out.1.frozen 0; have f1 := HM9.out.1.frozen 1; have f2 := HM9.out.1.frozen 2; have f3 := HM9.out.1.frozen 3; have f4 := HM9.out.1.frozen 4
            simp [zeroT] at e0 e1 e2 e3 e4
            have c0 := HB9.out.cell 0; have c1 := HB9.out.cell 1; have c2 := HB9.out.cell 2; have c3 := HB9.out.cell 3; have c4 := HB9.out.cell 4
            simp at c0 c1 c2 c3 c4
            go_wp2_with fail
            have q := HM9.out.end_ (t := .mk (op) nm9 ⟨#[]⟩ (num9) none 0 []) (n := d + 1) (TT.Ok.leaf (by have := HOP.out; omega) ⟨hm1, by simp [ByteArray.size]⟩ ⟨hm2, hm3⟩ (by have := HOP.out; omega)) TT.Sub.leaf
            obtain ⟨q0, q1, q2, q3, q4⟩ := set5_cells HM9.out.1 rfl (.int .i64 (op)) (.string nm9) (.string ⟨#[]⟩) (.int .i64 (num9)) (.slice none 0 0)
            unfold set5 at q0 q1 q2 q3 q4
            exact bodyPost_ret (v := .agg (TT.mk (op) nm9 ⟨#[]⟩ (num9) none 0 []).cells.toArray) (by simp [results, Tryz.results16, go_sem, TT.cells, q0, q1, q2, q3, q4, TT.op, TT.nm, TT.tx, TT.num, TT.ka, TT.kc, TT.kids]) rfl q
    · subst hj
      have e0 := HM2.out.1.cell 0; have e1 := HM2.out.1.cell 1; have e2 := HM2.out.1.cell 2; have e3 := HM2.out.1.cell 3; have e4 := HM2.out.1.cell 4
      have f0 := HM2.out.1.frozen 0; have f1 := HM2.out.1.frozen 1; have f2 := HM2.out.1.frozen 2; have f3 := HM2.out.1.frozen 3; have f4 := HM2.out.1.frozen 4
      simp [zeroT] at e0 e1 e2 e3 e4
      clear h2
      go_wp2_with fail
      have q := HM2.out.end_ (t := .mk (0) ⟨#[]⟩ ⟨#[]⟩ (0) none 0 []) (n := d + 1) (TT.Ok.leaf (by omega) (by simp [ByteArray.size]) (by omega) (by omega)) TT.Sub.leaf
      obtain ⟨q0, q1, q2, q3, q4⟩ := set5_cells HM2.out.1 rfl (.int .i64 (0)) (.string ⟨#[]⟩) (.string ⟨#[]⟩) (.int .i64 (0)) (.slice none 0 0)
      unfold set5 at q0 q1 q2 q3 q4
      exact bodyPost_ret (v := .agg (TT.mk (0) ⟨#[]⟩ ⟨#[]⟩ (0) none 0 []).cells.toArray) (by simp [results, Tryz.results16, go_sem, TT.cells, q0, q1, q2, q3, q4, TT.op, TT.nm, TT.tx, TT.num, TT.ka, TT.kc, TT.kids]) rfl q
    · subst hj
      have hd1 : ((d : Int) - 1) = ((d - 1 : Nat) : Int) := by omega
      have HI := Lib.hid (IH (d - 1) (by omega) (by omega) g l k2)
      go_wp2_with fail
      refine (HI.out _ (by exact h2)).mono ?_
      rintro e w3 ⟨t, k3, rfl, hok, hsub, h3, hg3⟩
      have HM3 : Hid (TMid w r g l w3) := HM2.out.next hg3 h3
      have hz3 := hg3.size
      have hlt3 := HM3.out.le
      have HS := Lib.hid hsub
      have HO := Lib.hid hok
      clear hg3 h2 HM2 h3 hsub hok HI
      have hcl : t.cells.toArray = #[.int .i64 t.op, .string t.nm, .string t.tx, .int .i64 t.num, .slice t.ka t.kids.length t.kc] := rfl
      rw [hcl]
      clear hcl
      have hg3' : r < w3.heap.size := by omega
      have e0 := HM3.out.1.cell 0; have e1 := HM3.out.1.cell 1; have e2 := HM3.out.1.cell 2; have e3 := HM3.out.1.cell 3; have e4 := HM3.out.1.cell 4
      have f0 := HM3.out.1.frozen 0; have f1 := HM3.out.1.frozen 1; have f2 := HM3.out.1.frozen 2; have f3 := HM3.out.1.frozen 3; have f4 := HM3.out.1.frozen 4
      simp [zeroT] at e0 e1 e2 e3 e4
      go_wp2_with fail
      obtain ⟨w4, hw4⟩ : ∃ w4, w4 = w3.alloc (Obj.cells #[.int .i64 t.op, .string t.nm, .string t.tx, .int .i64 t.num, .slice t.ka t.kids.length t.kc] 26) := ⟨_, rfl⟩
      have HM4 : Hid (TMid w r g l w4) := by rw [hw4]; exact HM3.out.alloc _
      have hB4 : Blk w4 w3.heap.size 26 t.cells.toArray := by rw [hw4]; exact Blk.new _ _ _
      have hS4 : t.Sub (d - 1 + 1) (r < ·) w4 := by rw [hw4]; exact (HS.out.grown (World.grownBy_alloc w3 _ none) (by simp)).mono (fun b hb _ => by omega)
      have q := HM4.out.end_ (t := .mk 5 ⟨#[]⟩ ⟨#[]⟩ 0 (some ⟨w3.heap.size, 0, none⟩) 1 [t]) (n := d + 1) (by
        refine ⟨by simp only [TT.op]; omega, by simp [TT.nm, TT.tx, ByteArray.size], by simp only [TT.num]; omega, .inr (.inl ⟨rfl, rfl⟩), by simp [TT.kids], fun y hy => ?_⟩
        obtain rfl : y = t := by simpa [TT.kids] using hy
        have := HO.out
        rw [show d - 1 + 1 = d by omega] at this
        exact this) (by
        refine ⟨fun _ => ⟨w3.heap.size, 0, rfl, by omega, hB4.lt, fun j u hu => ?_⟩, by simp [TT.kids, TT.kc], by simp only [TT.kc]; unfold maxLen; omega, fun y hy => ?_⟩
        · rw [Nat.zero_add, hB4.cell j]
          simpa [TT.kids] using hu
        · obtain rfl : y = t := by simpa [TT.kids] using hy
          rw [show d - 1 + 1 = d by omega] at hS4
          exact hS4)
      rw [hw4, set5_alloc hg3'] at q
      obtain ⟨q0, q1, q2, q3, q4⟩ := set5_cells HM3.out.1 rfl (.int .i64 5) (.string ⟨#[]⟩) (.string ⟨#[]⟩) (.int .i64 0) (.slice (some ⟨w3.heap.size, 0, none⟩) 1 1)
      unfold set5 at q q0 q1 q2 q3 q4
      exact bodyPost_ret (v := .agg (TT.mk 5 ⟨#[]⟩ ⟨#[]⟩ 0 (some ⟨w3.heap.size, 0, none⟩) 1 [t]).cells.toArray) (by simp [results, Tryz.results16, go_sem, TT.cells, q0, q1, q2, q3, q4, TT.op, TT.nm, TT.tx, TT.num, TT.ka, TT.kc, TT.kids, hg3']) rfl q
    · rcases hj with rfl | rfl
      all_goals
        go_wp2_with fail
        obtain ⟨q, hq⟩ : ∃ q, q = w2.heap.size := ⟨_, rfl⟩
        rw [← hq]
        obtain ⟨w3, hw3⟩ : ∃ w3, w3 = w2.alloc (Obj.cells #[.int .i64 7, .string ⟨#[]⟩, .string ⟨#[]⟩, .int .i64 0, .slice none 0 0] 26) := ⟨_, rfl⟩
        rw [← hw3]
        have HM3 : Hid (TMid w r g l w3) := by rw [hw3]; exact HM2.out.alloc _
        have hC3 : CodesAt w3 g l k2 := by rw [hw3]; exact h2.alloc _
        have HB3 : Hid (Blk w3 q 26 #[.int .i64 7, .string ⟨#[]⟩, .string ⟨#[]⟩, .int .i64 0, .slice none 0 0]) := by rw [hw3, hq]; exact Blk.new _ _ _
        have hqr : r < q := by omega
        have hgr := HM3.out.2.2.2.1
        clear hw3 hq h2 HM2
        refine (next_some g l k2 2 _ hC3 (by omega) (by omega)).mono ?_
        rintro e w4 ⟨v4, k4, rfl, hv4, h4, hg4⟩
        have HM4 : Hid (TMid w r g l w4) := HM3.out.next hg4 h4
        have HB4 := Lib.hid (HB3.out.grown hg4 (by intro e; injection e; omega))
        clear hg4 hC3 HM3 HB3 h4
        have hd1 : ((d : Int) - 1) = ((d - 1 : Nat) : Int) := by omega
        have HI := Lib.hid (IH (d - 1) (by omega) (by omega) g l)
        clear IH
        go_wp2_with fail
        go_loopw [8] (fun i wr => ∃ (m : Nat) (ks : List TT) (v : Value), i = .int .i64 m ∧ ks.length + m ≤ 3 ∧ 2 ≤ ks.length + m ∧ Blk wr q 26 #[.int .i64 7, .string ⟨#[]⟩, .string ⟨#[]⟩, .int .i64 0, v] ∧ wr.ownsRow (q + 1) 26 5 v ks.length (ks.flatMap TT.cells) ∧ (∀ y ∈ ks, y.Ok d) ∧ (∀ y ∈ ks, y.Sub d (fun b => q < b ∧ v.ownBlock ≠ some b) wr) ∧ TMid w r g l wr) (fun i _ => (intOf i).toNat)
        case atStart => exact ⟨(2 + v4).toNat, [], .slice none 0 0, by rw [Int.toNat_of_nonneg (by omega)], by simp; omega, by simp; omega, HB4.out, World.ownsRow_nil _ _ _ _, by simp, by simp, HM4.out⟩
        case round =>
          obtain ⟨m, ks, v, rfl, hm3, hm2, hB, hown, hok, hsub, hM⟩ := hrel
          clear HM4 HB4 hv4
          have OK := Lib.hid hok
          have SB := Lib.hid hsub
          have HM := Lib.hid hM
          clear hok hsub hM
          by_cases hm0 : 0 < m
          · obtain ⟨kk, hC⟩ := HM.out.2.1
            have c4 := hB.cell 4
            simp at c4
            have hltB := hB.lt
            have HB := Lib.hid hB
            clear hB
            go_upto_region 35 with (fail)
            have hgq : g < q := by omega
            have hdd : ((d : Int) - 1) = ((d - 1 : Nat) : Int) := hd1
            refine wp_region_inv 7 (Rab (q + 1)) (fun wx => (∃ k, CodesAt wx g l k) ∧ wr.grownBy wx (some g)) [(fun x _ => x = .pointer (some ⟨q, 4, none⟩)), (fun x _ => x = v), (fun x _ => x = .pointer (some ⟨g, 0, none⟩)), (fun x _ => x = .int .i64 d), (fun x _ => x = .int .i64 ((d : Int) - 1)), IsTest (d - 1 + 1) wr.heap.size, IsTRow (d - 1 + 1) wr.heap.size] (by kernel_rfl) (by kernel_rfl) ?_ ?_ ?_ ?_
            · intro p hp
              simp only [List.mem_cons, List.not_mem_nil, or_false] at hp
              rcases hp with rfl | rfl | rfl | rfl | rfl | rfl | rfl
              · exact St.const _
              · exact St.const _
              · exact St.const _
              · exact St.const _
              · exact St.const _
              · exact St.test (by omega)
              · exact St.trow (by omega)
            · exact ⟨⟨kk, hC.drew⟩, only_drew (only_refl _ _)⟩
            · generalize hA : Act.mk _ _ = A
              have hsz : A.tmps.size = 131 := by rw [← hA]; kernel_rfl
              have ea0 : A.eval (.tmp 0) = .pointer (some ⟨g, 0, none⟩) := by rw [← hA]; kernel_rfl
              have ea1 : A.eval (.tmp 1) = .int .i64 d := by rw [← hA]; kernel_rfl
              have ea7 : A.eval (.tmp 7) = .pointer (some ⟨q, 0, none⟩) := by rw [← hA]; kernel_rfl
              clear hA
              simp only [List.take_succ_cons, List.take_zero]
              refine .cons ?_ (.cons ?_ (.cons ?_ (.cons ?_ (.cons ?_ (.cons ?_ (.cons ?_ .nil))))))
              · exact st_fa (q := ⟨q, 4, none⟩) (by rfl) (by kernel_rfl) (by rfl) (by kernel_rfl) ea7 (fun w => field_testT w q 4 (by omega)) (by rfl)
              · exact st_loadt (p := ⟨q, 4, none⟩) (c := v) (by rfl) (by kernel_rfl) (by rfl) 0 (by kernel_rfl) (by omega) (by kernel_rfl) (by rfl) (fun w h => load_kids w _ v (((HB.out.grown h.2 (by intro e; injection e; omega)).cell 4).trans rfl) (own_slice hown)) (by rfl)
              · exact st_copy (by rfl) (by kernel_rfl) (by rfl) (by kernel_rfl) ea0 (by rfl)
              · exact st_copy (by rfl) (by kernel_rfl) (by rfl) (by kernel_rfl) ea1 (by rfl)
              · exact st_pure (x := 124) (c1 := .int .i64 d) (c := .int .i64 ((d : Int) - 1)) (by rfl) (by kernel_rfl) 3 (by kernel_rfl) (by omega) (by kernel_rfl) (by rfl) (fun ρ w e1 e2 => by have hwr : IntKind.i64.wrap ((d : Int) - 1) = (d : Int) - 1 := IntWalk.i64_in _ (by omega); simp [execOp, e1, e2, go_sem, hwr]) (by rfl)
              · exact st_test (n := d - 1 + 1) (m := wr.heap.size) (c := (d : Int) - 1) (by rfl) (by kernel_rfl) (by rfl) 2 4 (by kernel_rfl) (by kernel_rfl) (by omega) (by omega) (by kernel_rfl) (by kernel_rfl) (by rfl) (by rfl) (fun k w h => by rw [hdd]; exact HI.out k w h) (fun w h => ⟨h.1, h.2.size⟩) (fun w w' k h hC hg => ⟨⟨k, hC⟩, only_trans h.2 hg⟩) (by omega) (by rfl)
              · exact st_trow (n := d - 1 + 1) (m := wr.heap.size) (by rfl) (by kernel_rfl) (by rfl) 5 (by kernel_rfl) (by omega) (by kernel_rfl) (by rfl) (fun w o h => ⟨h.1.imp fun _ h => h.alloc o, only_alloc h.2 o⟩) (fun w h => h.2.size) (by rfl)
            · intro u w5 hM5 hu
              have e1 := hu 1 (by omega)
              have e6 := hu 6 (by omega)
              obtain ⟨b6, t, e6, hb6, hB6, hok5, hsub5⟩ := e6
              obtain ⟨⟨k5, hC5⟩, hg5⟩ := hM5
              simp only [List.take_succ_cons, List.take_zero, List.drop_succ_cons, List.drop_zero, putAll]
              have e1 : u 1 = v := e1
              rw [e1, e6]
              clear hu e1 e6
              have hown5 := own_only hown hg5 (by omega)
              have hz5 : wr.heap.size ≤ w5.heap.size := hg5.size
              have HB5 := Lib.hid (HB.out.grown hg5 (by intro e; injection e; omega))
              refine wpList_appendN rfl _ _ 24 rfl (q + 1) Tryz.underlying24 testInfo rfl (by decide) (v := v) (by kernel_rfl) hown5 (some ⟨b6, 0, none⟩) 1 1 (news := t.cells) (by kernel_rfl) (rd_blk5 hB6) (by rfl) (TT.cells_one t) (by decide) (by omega) (by omega) ?_
              intro v9 w9 hown9 hg9 hob9
              have hB9 := HB5.out.grown hg9 (fun e => by have := (hown5.lt _ e.symm).1; omega)
              have c94 := hB9.cell 4
              have f94 := hB9.frozen 4
              simp at c94
              have hne : ∀ b, v.ownBlock = some b → b < wr.heap.size := fun b e => (hown.lt b e).2
              have hob : ∀ b, b < w5.heap.size → v.ownBlock ≠ some b → v9.ownBlock ≠ some b := fun b hb h1 h2 => by
                rcases hob9 with e | e
                · exact h1 (e ▸ h2)
                · rw [e] at h2; injection h2; omega
              have hS9 : ∀ y ∈ ks ++ [t], y.Sub d (fun b => q < b ∧ v9.ownBlock ≠ some b) w9 := by
                intro y hy
                have h5 : y.Sub d (fun b => q < b ∧ v.ownBlock ≠ some b ∧ v9.ownBlock ≠ some b) w5 := by
                  rcases List.mem_append.1 hy with hy | hy
                  · exact ((SB.out y hy).grown hg5 (fun b hb e => by injection e; omega)).mono (fun b hb hlt => ⟨hb.1, hb.2, hob b hlt hb.2⟩)
                  · obtain rfl : y = t := by simpa using hy
                    rw [show d - 1 + 1 = d by omega] at hsub5
                    refine hsub5.mono (fun b hb hlt => ?_)
                    have hb' : wr.heap.size ≤ b := hb
                    have h1 : v.ownBlock ≠ some b := fun e => by have := hne b e; omega
                    exact ⟨by omega, h1, hob b hlt h1⟩
                exact (h5.grown hg9 (fun b hb e => hb.2.1 e.symm)).mono (fun b hb _ => ⟨hb.1, hb.2.2⟩)
              have hM9 : TMid w r g l w9 := by
                have h5 : TMid w r g l w5 := HM.out.next hg5 hC5
                refine ⟨h5.1.grown hg9 (fun e => by have := (hown5.lt _ e.symm).1; omega), h5.2.1.imp fun _ h => h.grown hg9 (fun b hb e => by have := (hown5.lt b e.symm).1; omega), only_own h5.2.2.1 hg9 hown5 (by have := h5.2.2.2.2; omega), h5.2.2.2⟩
              have hown9' : w9.ownsRow (q + 1) 26 5 v9 (ks ++ [t]).length ((ks ++ [t]).flatMap TT.cells) := by simpa [TT.cells] using hown9
              obtain ⟨A9, c9, rfl, -, -, -, -⟩ := Rd.of_own hown9' (by decide)
              have S9 := Lib.hid hS9
              have M9 := Lib.hid hM9
              have O9 := Lib.hid hown9'
              have OK9 : Hid (∀ y ∈ ks ++ [t], y.Ok d) := mem_snoc OK.out (by rw [show d - 1 + 1 = d by omega] at hok5; exact hok5)
              have B9 := Lib.hid hB9
              clear hS9 hM9 hown9' hown9 hg9 hob9 hob hne hown5 hok5 hsub5 hC5 hg5 HB5 hown hC SB OK HM HB hB9 c4 hz5 hB6 hb6
              go_wp2_with fail
              go_roundw
              case rel =>
                have hm1 : ((m - 1 : Nat) : Int) = (m : Int) - 1 := by omega
                refine ⟨m - 1, ks ++ [t], _, by rw [hm1], by simp; omega, by simp; omega, ?_, own_only O9.out (grown_setCellT _ _ _) (by simp), OK9.out, fun y hy => (S9.out y hy).grown (grown_setCellT _ _ _) (fun b hb e => by injection e; simp at *; omega), M9.out.set hqr _ _⟩
                have := B9.out.set_ 4 (.slice A9 (ks ++ [t]).length c9)
                simpa using this
              case measure => simp [intOf]; omega
          · obtain rfl : m = 0 := by omega
            obtain ⟨A, cc, rfl, hnc, hcm, -, hrd⟩ := Rd.of_own hown (by decide)
            have HRD := Lib.hid hrd
            have HB := Lib.hid hB
            have c0 := hB.cell 0; have c1 := hB.cell 1; have c2 := hB.cell 2; have c3 := hB.cell 3; have c4 := hB.cell 4
            have d0 := hB.frozen 0; have d1 := hB.frozen 1; have d2 := hB.frozen 2; have d3 := hB.frozen 3; have d4 := hB.frozen 4
            simp at c0 c1 c2 c3 c4
            clear hrd hB hown
            have e0 := HM.out.1.cell 0; have e1 := HM.out.1.cell 1; have e2 := HM.out.1.cell 2; have e3 := HM.out.1.cell 3; have e4 := HM.out.1.cell 4
            have f0 := HM.out.1.frozen 0; have f1 := HM.out.1.frozen 1; have f2 := HM.out.1.frozen 2; have f3 := HM.out.1.frozen 3; have f4 := HM.out.1.frozen 4
            simp [zeroT] at e0 e1 e2 e3 e4
            go_wp2_with fail
            have q := HM.out.end_ (t := .mk 7 ⟨#[]⟩ ⟨#[]⟩ 0 A cc ks) (n := d + 1) ⟨by simp only [TT.op]; omega, by simp [TT.nm, TT.tx, ByteArray.size], by simp only [TT.num]; omega, .inr (.inr ⟨by simp [TT.op], by simp only [TT.kids]; omega, by simp only [TT.kids]; omega⟩), fun _ => by simp only [TT.kids]; intro e; rw [e] at hm2; simp at hm2, OK.out⟩ ⟨HRD.out.mono (fun b hb _ => by omega), hnc, hcm, fun y hy => (SB.out y hy).mono (fun b hb _ => by omega)⟩
            obtain ⟨q0, q1, q2, q3, q4⟩ := set5_cells HM.out.1 rfl (.int .i64 7) (.string ⟨#[]⟩) (.string ⟨#[]⟩) (.int .i64 0) (.slice A ks.length cc)
            unfold set5 at q q0 q1 q2 q3 q4
            exact bodyPost_ret (v := .agg (TT.mk 7 ⟨#[]⟩ ⟨#[]⟩ 0 A cc ks).cells.toArray) (by simp [results, Tryz.results16, go_sem, TT.cells, q0, q1, q2, q3, q4, TT.op, TT.nm, TT.tx, TT.num, TT.ka, TT.kc, TT.kids]) rfl q
    · rcases hj with rfl | rfl
      all_goals
        go_wp2_with fail
        obtain ⟨q, hq⟩ : ∃ q, q = w2.heap.size := ⟨_, rfl⟩
        rw [← hq]
        obtain ⟨w3, hw3⟩ : ∃ w3, w3 = w2.alloc (Obj.cells #[.int .i64 6, .string ⟨#[]⟩, .string ⟨#[]⟩, .int .i64 0, .slice none 0 0] 26) := ⟨_, rfl⟩
        rw [← hw3]
        have HM3 : Hid (TMid w r g l w3) := by rw [hw3]; exact HM2.out.alloc _
        have hC3 : CodesAt w3 g l k2 := by rw [hw3]; exact h2.alloc _
        have HB3 : Hid (Blk w3 q 26 #[.int .i64 6, .string ⟨#[]⟩, .string ⟨#[]⟩, .int .i64 0, .slice none 0 0]) := by rw [hw3, hq]; exact Blk.new _ _ _
        have hqr : r < q := by omega
        have hgr := HM3.out.2.2.2.1
        clear hw3 hq h2 HM2
        refine (next_some g l k2 2 _ hC3 (by omega) (by omega)).mono ?_
        rintro e w4 ⟨v4, k4, rfl, hv4, h4, hg4⟩
        have HM4 : Hid (TMid w r g l w4) := HM3.out.next hg4 h4
        have HB4 := Lib.hid (HB3.out.grown hg4 (by intro e; injection e; omega))
        clear hg4 hC3 HM3 HB3 h4
        have hd1 : ((d : Int) - 1) = ((d - 1 : Nat) : Int) := by omega
        have HI := Lib.hid (IH (d - 1) (by omega) (by omega) g l)
        clear IH
        go_wp2_with fail
        go_loopw [8] (fun i wr => ∃ (m : Nat) (ks : List TT) (v : Value), i = .int .i64 m ∧ ks.length + m ≤ 3 ∧ 2 ≤ ks.length + m ∧ Blk wr q 26 #[.int .i64 6, .string ⟨#[]⟩, .string ⟨#[]⟩, .int .i64 0, v] ∧ wr.ownsRow (q + 1) 26 5 v ks.length (ks.flatMap TT.cells) ∧ (∀ y ∈ ks, y.Ok d) ∧ (∀ y ∈ ks, y.Sub d (fun b => q < b ∧ v.ownBlock ≠ some b) wr) ∧ TMid w r g l wr) (fun i _ => (intOf i).toNat)
        case atStart => exact ⟨(2 + v4).toNat, [], .slice none 0 0, by rw [Int.toNat_of_nonneg (by omega)], by simp; omega, by simp; omega, HB4.out, World.ownsRow_nil _ _ _ _, by simp, by simp, HM4.out⟩
        case round =>
          obtain ⟨m, ks, v, rfl, hm3, hm2, hB, hown, hok, hsub, hM⟩ := hrel
          clear HM4 HB4 hv4
          have OK := Lib.hid hok
          have SB := Lib.hid hsub
          have HM := Lib.hid hM
          clear hok hsub hM
          by_cases hm0 : 0 < m
          · obtain ⟨kk, hC⟩ := HM.out.2.1
            have c4 := hB.cell 4
            simp at c4
            have hltB := hB.lt
            have HB := Lib.hid hB
            clear hB
            go_upto_region 35 with (fail)
            have hgq : g < q := by omega
            have hdd : ((d : Int) - 1) = ((d - 1 : Nat) : Int) := hd1
            refine wp_region_inv 7 (Rab (q + 1)) (fun wx => (∃ k, CodesAt wx g l k) ∧ wr.grownBy wx (some g)) [(fun x _ => x = .pointer (some ⟨q, 4, none⟩)), (fun x _ => x = v), (fun x _ => x = .pointer (some ⟨g, 0, none⟩)), (fun x _ => x = .int .i64 d), (fun x _ => x = .int .i64 ((d : Int) - 1)), IsTest (d - 1 + 1) wr.heap.size, IsTRow (d - 1 + 1) wr.heap.size] (by kernel_rfl) (by kernel_rfl) ?_ ?_ ?_ ?_
            · intro p hp
              simp only [List.mem_cons, List.not_mem_nil, or_false] at hp
              rcases hp with rfl | rfl | rfl | rfl | rfl | rfl | rfl
              · exact St.const _
              · exact St.const _
              · exact St.const _
              · exact St.const _
              · exact St.const _
              · exact St.test (by omega)
              · exact St.trow (by omega)
            · exact ⟨⟨kk, hC.drew⟩, only_drew (only_refl _ _)⟩
            · generalize hA : Act.mk _ _ = A
              have hsz : A.tmps.size = 131 := by rw [← hA]; kernel_rfl
              have ea0 : A.eval (.tmp 0) = .pointer (some ⟨g, 0, none⟩) := by rw [← hA]; kernel_rfl
              have ea1 : A.eval (.tmp 1) = .int .i64 d := by rw [← hA]; kernel_rfl
              have ea7 : A.eval (.tmp 7) = .pointer (some ⟨q, 0, none⟩) := by rw [← hA]; kernel_rfl
              clear hA
              simp only [List.take_succ_cons, List.take_zero]
              refine .cons ?_ (.cons ?_ (.cons ?_ (.cons ?_ (.cons ?_ (.cons ?_ (.cons ?_ .nil))))))
              · exact st_fa (q := ⟨q, 4, none⟩) (by rfl) (by kernel_rfl) (by rfl) (by kernel_rfl) ea7 (fun w => field_testT w q 4 (by omega)) (by rfl)
              · exact st_loadt (p := ⟨q, 4, none⟩) (c := v) (by rfl) (by kernel_rfl) (by rfl) 0 (by kernel_rfl) (by omega) (by kernel_rfl) (by rfl) (fun w h => load_kids w _ v (((HB.out.grown h.2 (by intro e; injection e; omega)).cell 4).trans rfl) (own_slice hown)) (by rfl)
              · exact st_copy (by rfl) (by kernel_rfl) (by rfl) (by kernel_rfl) ea0 (by rfl)
              · exact st_copy (by rfl) (by kernel_rfl) (by rfl) (by kernel_rfl) ea1 (by rfl)
              · exact st_pure (x := 124) (c1 := .int .i64 d) (c := .int .i64 ((d : Int) - 1)) (by rfl) (by kernel_rfl) 3 (by kernel_rfl) (by omega) (by kernel_rfl) (by rfl) (fun ρ w e1 e2 => by have hwr : IntKind.i64.wrap ((d : Int) - 1) = (d : Int) - 1 := IntWalk.i64_in _ (by omega); simp [execOp, e1, e2, go_sem, hwr]) (by rfl)
              · exact st_test (n := d - 1 + 1) (m := wr.heap.size) (c := (d : Int) - 1) (by rfl) (by kernel_rfl) (by rfl) 2 4 (by kernel_rfl) (by kernel_rfl) (by omega) (by omega) (by kernel_rfl) (by kernel_rfl) (by rfl) (by rfl) (fun k w h => by rw [hdd]; exact HI.out k w h) (fun w h => ⟨h.1, h.2.size⟩) (fun w w' k h hC hg => ⟨⟨k, hC⟩, only_trans h.2 hg⟩) (by omega) (by rfl)
              · exact st_trow (n := d - 1 + 1) (m := wr.heap.size) (by rfl) (by kernel_rfl) (by rfl) 5 (by kernel_rfl) (by omega) (by kernel_rfl) (by rfl) (fun w o h => ⟨h.1.imp fun _ h => h.alloc o, only_alloc h.2 o⟩) (fun w h => h.2.size) (by rfl)
            · intro u w5 hM5 hu
              have e1 := hu 1 (by omega)
              have e6 := hu 6 (by omega)
              obtain ⟨b6, t, e6, hb6, hB6, hok5, hsub5⟩ := e6
              obtain ⟨⟨k5, hC5⟩, hg5⟩ := hM5
              simp only [List.take_succ_cons, List.take_zero, List.drop_succ_cons, List.drop_zero, putAll]
              have e1 : u 1 = v := e1
              rw [e1, e6]
              clear hu e1 e6
              have hown5 := own_only hown hg5 (by omega)
              have hz5 : wr.heap.size ≤ w5.heap.size := hg5.size
              have HB5 := Lib.hid (HB.out.grown hg5 (by intro e; injection e; omega))
              refine wpList_appendN rfl _ _ 24 rfl (q + 1) Tryz.underlying24 testInfo rfl (by decide) (v := v) (by kernel_rfl) hown5 (some ⟨b6, 0, none⟩) 1 1 (news := t.cells) (by kernel_rfl) (rd_blk5 hB6) (by rfl) (TT.cells_one t) (by decide) (by omega) (by omega) ?_
              intro v9 w9 hown9 hg9 hob9
              have hB9 := HB5.out.grown hg9 (fun e => by have := (hown5.lt _ e.symm).1; omega)
              have c94 := hB9.cell 4
              have f94 := hB9.frozen 4
              simp at c94
              have hne : ∀ b, v.ownBlock = some b → b < wr.heap.size := fun b e => (hown.lt b e).2
              have hob : ∀ b, b < w5.heap.size → v.ownBlock ≠ some b → v9.ownBlock ≠ some b := fun b hb h1 h2 => by
                rcases hob9 with e | e
                · exact h1 (e ▸ h2)
                · rw [e] at h2; injection h2; omega
              have hS9 : ∀ y ∈ ks ++ [t], y.Sub d (fun b => q < b ∧ v9.ownBlock ≠ some b) w9 := by
                intro y hy
                have h5 : y.Sub d (fun b => q < b ∧ v.ownBlock ≠ some b ∧ v9.ownBlock ≠ some b) w5 := by
                  rcases List.mem_append.1 hy with hy | hy
                  · exact ((SB.out y hy).grown hg5 (fun b hb e => by injection e; omega)).mono (fun b hb hlt => ⟨hb.1, hb.2, hob b hlt hb.2⟩)
                  · obtain rfl : y = t := by simpa using hy
                    rw [show d - 1 + 1 = d by omega] at hsub5
                    refine hsub5.mono (fun b hb hlt => ?_)
                    have hb' : wr.heap.size ≤ b := hb
                    have h1 : v.ownBlock ≠ some b := fun e => by have := hne b e; omega
                    exact ⟨by omega, h1, hob b hlt h1⟩
                exact (h5.grown hg9 (fun b hb e => hb.2.1 e.symm)).mono (fun b hb _ => ⟨hb.1, hb.2.2⟩)
              have hM9 : TMid w r g l w9 := by
                have h5 : TMid w r g l w5 := HM.out.next hg5 hC5
                refine ⟨h5.1.grown hg9 (fun e => by have := (hown5.lt _ e.symm).1; omega), h5.2.1.imp fun _ h => h.grown hg9 (fun b hb e => by have := (hown5.lt b e.symm).1; omega), only_own h5.2.2.1 hg9 hown5 (by have := h5.2.2.2.2; omega), h5.2.2.2⟩
              have hown9' : w9.ownsRow (q + 1) 26 5 v9 (ks ++ [t]).length ((ks ++ [t]).flatMap TT.cells) := by simpa [TT.cells] using hown9
              obtain ⟨A9, c9, rfl, -, -, -, -⟩ := Rd.of_own hown9' (by decide)
              have S9 := Lib.hid hS9
              have M9 := Lib.hid hM9
              have O9 := Lib.hid hown9'
              have OK9 : Hid (∀ y ∈ ks ++ [t], y.Ok d) := mem_snoc OK.out (by rw [show d - 1 + 1 = d by omega] at hok5; exact hok5)
              have B9 := Lib.hid hB9
              clear hS9 hM9 hown9' hown9 hg9 hob9 hob hne hown5 hok5 hsub5 hC5 hg5 HB5 hown hC SB OK HM HB hB9 c4 hz5 hB6 hb6
              go_wp2_with fail
              go_roundw
              case rel =>
                have hm1 : ((m - 1 : Nat) : Int) = (m : Int) - 1 := by omega
                refine ⟨m - 1, ks ++ [t], _, by rw [hm1], by simp; omega, by simp; omega, ?_, own_only O9.out (grown_setCellT _ _ _) (by simp), OK9.out, fun y hy => (S9.out y hy).grown (grown_setCellT _ _ _) (fun b hb e => by injection e; simp at *; omega), M9.out.set hqr _ _⟩
                have := B9.out.set_ 4 (.slice A9 (ks ++ [t]).length c9)
                simpa using this
              case measure => simp [intOf]; omega
          · obtain rfl : m = 0 := by omega
            obtain ⟨A, cc, rfl, hnc, hcm, -, hrd⟩ := Rd.of_own hown (by decide)
            have HRD := Lib.hid hrd
            have HB := Lib.hid hB
            have c0 := hB.cell 0; have c1 := hB.cell 1; have c2 := hB.cell 2; have c3 := hB.cell 3; have c4 := hB.cell 4
            have d0 := hB.frozen 0; have d1 := hB.frozen 1; have d2 := hB.frozen 2; have d3 := hB.frozen 3; have d4 := hB.frozen 4
            simp at c0 c1 c2 c3 c4
            clear hrd hB hown
            have e0 := HM.out.1.cell 0; have e1 := HM.out.1.cell 1; have e2 := HM.out.1.cell 2; have e3 := HM.out.1.cell 3; have e4 := HM.out.1.cell 4
            have f0 := HM.out.1.frozen 0; have f1 := HM.out.1.frozen 1; have f2 := HM.out.1.frozen 2; have f3 := HM.out.1.frozen 3; have f4 := HM.out.1.frozen 4
            simp [zeroT] at e0 e1 e2 e3 e4
            go_wp2_with fail
            have q := HM.out.end_ (t := .mk 6 ⟨#[]⟩ ⟨#[]⟩ 0 A cc ks) (n := d + 1) ⟨by simp only [TT.op]; omega, by simp [TT.nm, TT.tx, ByteArray.size], by simp only [TT.num]; omega, .inr (.inr ⟨by simp [TT.op], by simp only [TT.kids]; omega, by simp only [TT.kids]; omega⟩), fun _ => by simp only [TT.kids]; intro e; rw [e] at hm2; simp at hm2, OK.out⟩ ⟨HRD.out.mono (fun b hb _ => by omega), hnc, hcm, fun y hy => (SB.out y hy).mono (fun b hb _ => by omega)⟩
            obtain ⟨q0, q1, q2, q3, q4⟩ := set5_cells HM.out.1 rfl (.int .i64 6) (.string ⟨#[]⟩) (.string ⟨#[]⟩) (.int .i64 0) (.slice A ks.length cc)
            unfold set5 at q q0 q1 q2 q3 q4
            exact bodyPost_ret (v := .agg (TT.mk 6 ⟨#[]⟩ ⟨#[]⟩ 0 A cc ks).cells.toArray) (by simp [results, Tryz.results16, go_sem, TT.cells, q0, q1, q2, q3, q4, TT.op, TT.nm, TT.tx, TT.num, TT.ka, TT.kc, TT.kids]) rfl q
end Go.Proofs.YtceebhgbebkafaaGreatDoor
