/- The draws of codes: New, Left, Next. No condition. -/
import Derived.Test.YtodaabofpkafjaaGreatBase
namespace Go.Proofs.YtodaabofpkafjaaGreat
open Go.RowKit
set_option linter.unusedVariables false
set_option linter.unusedSimpArgs false

/-- the codes l lie before the block g, which holds the struct; k of them have been taken -/
def CodesAt (w : World) (g : Nat) (l : List Int) (k : Nat) : Prop :=
  ∃ A c, Blk w g 68 #[.slice A l.length c, .int .i64 (k : Int)] ∧ Rd (· < g) w A (l.map (.int .u8)) ∧ k ≤ l.length ∧ l.length ≤ 100000 ∧ ∀ x ∈ l, 0 ≤ x ∧ x ≤ 255

set_option maxHeartbeats 400000 in
theorem left_any (g : Nat) (l : List Int) (k : Nat) (w : World) (h : CodesAt w g l k) :
    Calls Tryz.prog 34 #[.pointer (some ⟨g, 0, none⟩)] w fun e w' => e = .returned (.bool (decide (k < l.length))) ∧ ∃ n, w' = w.drewN n := by
  obtain ⟨A, c, hb, -, hk, hl, -⟩ := h
  have c0 := hb.cell 0
  have c1 := hb.cell 1
  simp at c0 c1
  go_enter Tryz.func34, Tryz.ntmps34
  go_wp2
  go_quiet (fail)
  go_wp2
  go_ret
  exact ⟨by simp, _, rfl⟩

theorem CodesAt.drewN {w : World} {g : Nat} {l : List Int} {k : Nat} (h : CodesAt w g l k) (n : Nat) : CodesAt (w.drewN n) g l k := h
theorem CodesAt.drew {w : World} {g : Nat} {l : List Int} {k : Nat} (h : CodesAt w g l k) : CodesAt w.drew g l k := h
theorem CodesAt.set_ {w : World} {g : Nat} {l : List Int} {k : Nat} (h : CodesAt w g l k) (hk : k < l.length) : CodesAt (w.setCell ⟨g, 1, none⟩ (.int .i64 ((k : Int) + 1))) g l (k + 1) := by
  obtain ⟨A, c, hb, hr, _, hl, hx⟩ := h
  refine ⟨A, c, by simpa using hb.set_ 1 (.int .i64 ((k : Int) + 1)), hr.keep (fun b hb _ => Below.heap_setCell _ _ _ _ (by simp; omega)) (by simp [World.setCell]), hk, hl, hx⟩

def nextV (l : List Int) (k : Nat) (n : Int) : Int := if k < l.length ∧ 1 ≤ n then l.getD k 0 * n / 256 else 0
def nextK (l : List Int) (k : Nat) (n : Int) : Nat := if k < l.length ∧ 1 ≤ n then k + 1 else k
def NextPost (w : World) (g : Nat) (l : List Int) (k : Nat) (n : Int) (e : Ending) (w' : World) : Prop :=
  e = .returned (.int .i64 (nextV l k n)) ∧ CodesAt w' g l (nextK l k n) ∧ w.grownBy w' (some g)

set_option maxHeartbeats 400000 in
theorem next_any (g : Nat) (l : List Int) (k : Nat) (n : Int) (w : World) (h : CodesAt w g l k) (hn : n ≤ 1000000) :
    Calls Tryz.prog 15 #[.pointer (some ⟨g, 0, none⟩), .int .i64 n] w (NextPost w g l k n) := by
  have H := Lib.hid h
  obtain ⟨A, c, hb, hr, hk, hl, hx⟩ := h
  have c0 := hb.cell 0
  have c1 := hb.cell 1
  have f1 := hb.frozen 1
  simp at c0 c1
  by_cases h1 : k < l.length
  · by_cases h2 : 1 ≤ n
    · have hv : nextV l k n = l[k] * n / 256 := by simp [nextV, h1, h2]
      have hv2 : nextK l k n = k + 1 := by simp [nextK, h1, h2]
      have hb' := hx (l[k]) (List.getElem_mem h1)
      obtain ⟨b, off, rfl, hc⟩ := hr.at_ (k := k) (by simpa using h1)
      simp at hc
      have HV := Lib.hid hv
      have HV2 := Lib.hid hv2
      have hm1 : 0 ≤ l[k] * n := Int.mul_nonneg hb'.1 (by omega)
      have hm2 : l[k] * n ≤ 255 * 1000000 := Int.mul_le_mul hb'.2 hn (by omega) (by omega)
      clear hv hv2 hr hx hb
      have hd : decide (n < 1) = false := by simp; omega
      go_enter Tryz.func15, Tryz.ntmps15
      go_wp2_with (go_at_call 34; refine (left_any g l k _ H.out).mono ?_; rintro e w' ⟨rfl, nq, rfl⟩)
      go_quiet (fail)
      go_wp2
      go_ret
      refine ⟨ret_int HV.out.symm, ?_, ?_⟩
      · rw [HV2.out]; exact CodesAt.drewN (H.out.set_ h1) _
      · exact only_drewN (only_setCell (only_refl _ _) (.inl rfl) _) _
    · have hv : nextV l k n = 0 := by simp [nextV, h2]
      have hv2 : nextK l k n = k := by simp [nextK, h2]
      have HV := Lib.hid hv
      have HV2 := Lib.hid hv2
      clear hv hv2 hr hx hb
      have hd : decide (n < 1) = true := by simp; omega
      go_enter Tryz.func15, Tryz.ntmps15
      go_wp2_with (go_at_call 34; refine (left_any g l k _ H.out).mono ?_; rintro e w' ⟨rfl, nq, rfl⟩)
      go_ret
      exact ⟨ret_int HV.out.symm, by rw [HV2.out]; exact CodesAt.drewN H.out _, only_drewN (only_refl _ _) _⟩
  · have hv : nextV l k n = 0 := by simp [nextV, h1]
    have hv2 : nextK l k n = k := by simp [nextK, h1]
    have HV := Lib.hid hv
    have HV2 := Lib.hid hv2
    clear hv hv2 hr hx hb
    go_enter Tryz.func15, Tryz.ntmps15
    go_wp2_with (go_at_call 34; refine (left_any g l k _ H.out).mono ?_; rintro e w' ⟨rfl, nq, rfl⟩)
    go_ret
    exact ⟨ret_int HV.out.symm, by rw [HV2.out]; exact CodesAt.drewN H.out _, only_drewN (only_refl _ _) _⟩

def NewPost (w : World) (l : List Int) (e : Ending) (w' : World) : Prop :=
  e = .returned (.pointer (some ⟨w.heap.size, 0, none⟩)) ∧ CodesAt w' w.heap.size l 0 ∧ w.grownBy w' none ∧ w.heap.size < w'.heap.size

set_option maxHeartbeats 400000 in
theorem new_any (A : Option Addr) (l : List Int) (c : Nat) (m : Nat) (w : World) (h : Rd (fun _ => True) w A (l.map (.int .u8))) (hc : l.length ≤ c) (hcm : c ≤ maxLen) (hm : m ≤ 100000) (hx : ∀ x ∈ l, 0 ≤ x ∧ x ≤ 255) :
    Calls Tryz.prog 24 #[.slice A l.length c, .int .i64 (m : Int)] w (NewPost w (l.take m)) := by
  unfold maxLen at hcm
  have H := Lib.hid h
  have HX := Lib.hid hx
  clear h hx
  go_enter Tryz.func24, Tryz.ntmps24
  go_wp2
  all_goals go_ret
  all_goals refine ⟨rfl, ⟨A, c, ?_, ?_, Nat.zero_le _, by simp; omega, fun x hx => HX.out x (List.mem_of_mem_take hx)⟩, only_alloc (only_refl _ _) _, by simp⟩
  all_goals first | exact (Rd.mono (H.out.take m) (fun _ _ h => h)).alloc_map _ | skip
  · rw [List.length_take, Nat.min_eq_left (by omega)]; exact Blk.new _ _ _
  · rw [List.length_take, Nat.min_eq_right (by omega)]; exact Blk.new _ _ _

theorem CodesAt.grown {w w' : World} {g : Nat} {l : List Int} {k : Nat} {row : Option Nat} (h : CodesAt w g l k) (hg : w.grownBy w' row) (hr : ∀ b, b ≤ g → some b ≠ row) : CodesAt w' g l k := by
  obtain ⟨A, c, hb, hrd, h2⟩ := h
  exact ⟨A, c, hb.grown hg (hr g (Nat.le_refl _)), hrd.grown hg (fun b hb => hr b (Nat.le_of_lt hb)), h2⟩
theorem CodesAt.alloc {w : World} {g : Nat} {l : List Int} {k : Nat} (h : CodesAt w g l k) (o : Obj) : CodesAt (w.alloc o) g l k := h.grown (World.grownBy_alloc w o none) (by simp)
theorem CodesAt.lt {w : World} {g : Nat} {l : List Int} {k : Nat} (h : CodesAt w g l k) : g < w.heap.size := by
  obtain ⟨A, c, hb, _⟩ := h
  exact hb.lt
theorem nextV_nonneg {l : List Int} (hx : ∀ x ∈ l, 0 ≤ x ∧ x ≤ 255) (k : Nat) (n : Int) : 0 ≤ nextV l k n := by
  unfold nextV
  split
  · rename_i h
    have := hx (l.getD k 0) (getD_mem l 0 h.1)
    have : 0 ≤ l.getD k 0 * n := Int.mul_nonneg this.1 (by omega)
    omega
  · omega
theorem nextV_lt {l : List Int} (hx : ∀ x ∈ l, 0 ≤ x ∧ x ≤ 255) (k : Nat) (n : Int) (hn : 1 ≤ n) : nextV l k n < n := by
  unfold nextV
  split
  · rename_i h
    have := hx (l.getD k 0) (getD_mem l 0 h.1)
    have : l.getD k 0 * n ≤ 255 * n := Int.mul_le_mul_of_nonneg_right this.2 (by omega)
    omega
  · omega
/-- a choice, of which only its range is told -/
def DrawnPost (w : World) (g : Nat) (l : List Int) (P : Int → Prop) (e : Ending) (w' : World) : Prop :=
  ∃ (v : Int) (k : Nat), e = .returned (.int .i64 v) ∧ P v ∧ CodesAt w' g l k ∧ w.grownBy w' (some g)
theorem next_some (g : Nat) (l : List Int) (k : Nat) (n : Int) (w : World) (h : CodesAt w g l k) (h1 : 1 ≤ n) (hn : n ≤ 1000000) :
    Calls Tryz.prog 15 #[.pointer (some ⟨g, 0, none⟩), .int .i64 n] w (DrawnPost w g l (fun v => 0 ≤ v ∧ v < n)) :=
  (next_any g l k n w h hn).mono fun e w' ⟨he, hc, hg⟩ => ⟨_, _, he, by
    obtain ⟨A, c, _, _, _, _, hx⟩ := h
    exact ⟨nextV_nonneg hx k n, nextV_lt hx k n h1⟩, hc, hg⟩

/-- tables of constants -/
def isStr (m : Nat) : Value → Bool | .string s => decide (s.size ≤ m) | _ => false
def isInt (p : Int → Bool) : Value → Bool | .int .i64 n => p n | _ => false
theorem tab_str {cs : Array Value} {m : Nat} (h : cs.toList.all (isStr m) = true) {j : Nat} (hj : j < cs.size) : ∃ s, cs[j]? = some (.string s) ∧ s.size ≤ m := by
  have h1 := List.all_eq_true.1 h cs[j] (by rw [Array.mem_toList_iff]; exact Array.getElem_mem hj)
  rw [Array.getElem?_eq_getElem hj]
  revert h1
  cases hv : cs[j] with
  | string s => intro h1; exact ⟨_, rfl, by simpa [isStr] using h1⟩
  | _ => intro h1; simp [isStr] at h1
theorem tab_int {cs : Array Value} {p : Int → Bool} (h : cs.toList.all (isInt p) = true) {j : Nat} (hj : j < cs.size) : ∃ n, cs[j]? = some (.int .i64 n) ∧ p n = true := by
  have h1 := List.all_eq_true.1 h cs[j] (by rw [Array.mem_toList_iff]; exact Array.getElem_mem hj)
  rw [Array.getElem?_eq_getElem hj]
  revert h1
  cases hv : cs[j] with
  | int k n =>
    cases k with
    | i64 => intro h1; exact ⟨_, rfl, by simpa [isInt] using h1⟩
    | _ => intro h1; simp [isInt] at h1
  | _ => intro h1; simp [isInt] at h1

theorem Blk.str_at {w : World} {g t m : Nat} {cs : Array Value} (hB : Blk w g t cs) (h : cs.toList.all (isStr m) = true) {j : Nat} (hj : j < cs.size) : ∃ s, w.cell? ⟨g, j, none⟩ = some (.string s) ∧ Hid (s.size ≤ m) := by
  obtain ⟨s, hs, hm⟩ := tab_str h hj
  exact ⟨s, (hB.cell j).trans hs, hm⟩
theorem Blk.int_at {w : World} {g t : Nat} {p : Int → Bool} {cs : Array Value} (hB : Blk w g t cs) (h : cs.toList.all (isInt p) = true) {j : Nat} (hj : j < cs.size) : ∃ n, w.cell? ⟨g, j, none⟩ = some (.int .i64 n) ∧ Hid (p n = true) := by
  obtain ⟨s, hs, hm⟩ := tab_int h hj
  exact ⟨s, (hB.cell j).trans hs, hm⟩

def StrPost (w : World) (g : Nat) (l : List Int) (n : Nat) (e : Ending) (w' : World) : Prop :=
  ∃ (s : ByteArray) (k : Nat), e = .returned (.string s) ∧ s.size ≤ n ∧ CodesAt w' g l k ∧ w.grownBy w' (some g)
end Go.Proofs.YtodaabofpkafjaaGreat

namespace Go.Proofs.YtodaabofpkafjaaGreat
open Go.RowKit
set_option linter.unusedVariables false
set_option linter.unusedSimpArgs false

theorem flat_at {α : Type} (f : α → List Value) (z : Nat) (hf : ∀ x, (f x).length = z) (l : List α) : ∀ (i j : Nat) (hi : i < l.length), j < z → (l.flatMap f)[i * z + j]? = (f l[i])[j]? := by
  induction l with
  | nil => intro i j hi; simp at hi
  | cons x l ih =>
    intro i j hi hj
    rw [List.flatMap_cons]
    cases i with
    | zero => rw [List.getElem?_append_left (by rw [hf]; omega)]; simp
    | succ i =>
      rw [List.getElem?_append_right (by rw [hf, Nat.add_mul]; omega), hf]
      have : (i + 1) * z + j - z = i * z + j := by rw [Nat.add_mul]; omega
      rw [this]
      exact ih i j (by simpa using hi) hj
theorem flat_len {α : Type} (f : α → List Value) (z : Nat) (hf : ∀ x, (f x).length = z) (l : List α) : (l.flatMap f).length = l.length * z := by
  induction l with
  | nil => simp
  | cons x l ih => rw [List.flatMap_cons, List.length_append, hf, ih, List.length_cons, Nat.add_mul]; omega
theorem flat_take {α : Type} {f : α → List Value} {z : Nat} (hf : ∀ x, (f x).length = z) (l : List α) (n : Nat) : (l.take n).flatMap f = (l.flatMap f).take (n * z) := by
  induction l generalizing n with
  | nil => simp
  | cons x l ih =>
    cases n with
    | zero => simp
    | succ n =>
      have h1 : (f x).take ((n + 1) * z) = f x := List.take_of_length_le (by rw [hf, Nat.add_mul]; omega)
      have h2 : (n + 1) * z - (f x).length = n * z := by rw [hf, Nat.add_mul]; omega
      rw [List.take_succ_cons, List.flatMap_cons, List.flatMap_cons, ih, List.take_append, h1, h2]
theorem flat_drop {α : Type} {f : α → List Value} {z : Nat} (hf : ∀ x, (f x).length = z) (l : List α) (n : Nat) : (l.drop n).flatMap f = (l.flatMap f).drop (n * z) := by
  induction l generalizing n with
  | nil => simp
  | cons x l ih =>
    cases n with
    | zero => simp
    | succ n =>
      have h1 : (f x).drop ((n + 1) * z) = [] := List.drop_of_length_le (by rw [hf, Nat.add_mul]; omega)
      have h2 : (n + 1) * z - (f x).length = n * z := by rw [hf, Nat.add_mul]; omega
      rw [List.drop_succ_cons, List.flatMap_cons, ih, List.drop_append, h1, h2, List.nil_append]
theorem flat_set {α : Type} {f : α → List Value} {z : Nat} (hf : ∀ x, (f x).length = z) (l : List α) : ∀ (i j : Nat) (hi : i < l.length) (y : α) (u : Value), j < z → (f l[i]).set j u = f y → (l.flatMap f).set (i * z + j) u = (l.set i y).flatMap f := by
  induction l with
  | nil => intro i j hi; simp at hi
  | cons x l ih =>
    intro i j hi y u hj h
    cases i with
    | zero =>
      simp only [List.getElem_cons_zero] at h
      rw [List.flatMap_cons, List.set_cons_zero, List.flatMap_cons, List.set_append, if_pos (by rw [hf]; omega)]
      rw [Nat.zero_mul, Nat.zero_add, h]
    | succ i =>
      rw [List.flatMap_cons, List.set_cons_succ, List.flatMap_cons, List.set_append, if_neg (by rw [hf, Nat.add_mul]; omega)]
      have e : (i + 1) * z + j - (f x).length = i * z + j := by rw [hf, Nat.add_mul]; omega
      rw [e, ih i j (by simpa using hi) y u hj (by simpa using h)]
theorem flat_one {α : Type} {f : α → List Value} (h : ∀ x, ∀ u ∈ f x, u.oneCell' = true) (l : List α) : ∀ u ∈ l.flatMap f, u.oneCell' = true := by
  intro u hu
  obtain ⟨x, _, hx⟩ := List.mem_flatMap.1 hu
  exact h x u hx
/-- append of one element that has just been laid in block H -/
theorem wpList_append1h {P : Program} {ops : Array Oper} {rest : List Oper} {o : Oper} {a : Act} {Q : Exit → Act → World → Prop} (hgd : o.guard = none) (s x : Operand) (t : TypeId)
    (ho : o.op = .call { callee := .builtin .append, args := #[s, x], argTypes := #[t, t] })
    (base : Nat) {e : TypeId} {z : Value} {size bytes : Nat} (ht : P.underlying t = some (.slice e)) (hi : (P.info? e).map (fun i => (i.zero, i.size, i.bytes)) = some (some z, size, bytes)) (hzs : z.cells.size = size) (hsz : 0 < size)
    {v : Value} {n : Nat} {xs : List Value} (hs : a.eval s = v) {w0 : World} {cs : Array Value} (hown : w0.ownsRow base e size v n xs) (H : Nat) (hH : w0.heap.size = H)
    (hx : a.eval x = .slice (some ⟨H, 0, none⟩) 1 1) (hl : cs.size = size) (h1 : ∀ u ∈ cs.toList, u.oneCell' = true)
    (hb : bytes ≤ 1000) (hn : n ≤ 10000000) (hbase : base ≤ H)
    (h : ∀ v' w', w'.ownsRow base e size v' (n + 1) (xs ++ cs.toList) → w0.grownBy w' v.ownBlock → (v'.ownBlock = v.ownBlock ∨ v'.ownBlock = some (H + 1)) → wpList P ops Q rest (a.put o.dst v') w') : wpList P ops Q (o :: rest) a (w0.alloc (.cells cs e)) := by
  subst hH
  exact wpList_append1 hgd s x t ho base ht hi hzs hsz hs hown hx hl h1 hb hn hbase h
end Go.Proofs.YtodaabofpkafjaaGreat

namespace Go.Proofs.YtodaabofpkafjaaGreat
open Go.RowKit
set_option linter.unusedVariables false
set_option linter.unusedSimpArgs false

structure LineD where
  off : Int
  len : Int
  text : ByteArray
structure FieldD where
  name : ByteArray
  value : ByteArray
def LineD.cells (x : LineD) : List Value := [.int .i64 x.off, .int .i64 x.len, .string x.text]
def FieldD.cells (x : FieldD) : List Value := [.string x.name, .string x.value]
/-- an event, with the places of its lines and fields -/
structure Ev where
  host : Int
  file : Int
  beg : Int
  fin : Int
  lines : List LineD
  time : Int
  weight : Int
  trace : ByteArray
  stream : ByteArray
  fields : List FieldD
  la : Option Addr
  lc : Nat
  fa : Option Addr
  fc : Nat
def Ev.cells (e : Ev) : List Value :=
  [.int .i64 e.host, .int .i64 e.file, .int .i64 e.beg, .int .i64 e.fin, .slice e.la e.lines.length e.lc, .int .i64 e.time, .int .i64 e.weight, .string e.trace, .string e.stream, .slice e.fa e.fields.length e.fc]
structure It where
  rule : ByteArray
  ev : Ev
def It.cells (x : It) : List Value := .string x.rule :: x.ev.cells

def Ev.Sub (S : Nat → Prop) (w : World) (e : Ev) : Prop :=
  Rd S w e.la (e.lines.flatMap LineD.cells) ∧ Rd S w e.fa (e.fields.flatMap FieldD.cells) ∧ e.lines.length ≤ e.lc ∧ e.lc ≤ maxLen ∧ e.fields.length ≤ e.fc ∧ e.fc ≤ maxLen
theorem Ev.Sub.grown {S : Nat → Prop} {w w' : World} {e : Ev} {row : Option Nat} (h : e.Sub S w) (hg : w.grownBy w' row) (hr : ∀ b, S b → some b ≠ row) : e.Sub S w' :=
  ⟨h.1.grown hg hr, h.2.1.grown hg hr, h.2.2⟩
theorem Ev.Sub.mono {S S' : Nat → Prop} {w : World} {e : Ev} (h : e.Sub S w) (hS : ∀ b, S b → b < w.heap.size → S' b) : e.Sub S' w := ⟨h.1.mono hS, h.2.1.mono hS, h.2.2⟩
theorem Ev.Sub.drewN {S : Nat → Prop} {w : World} {e : Ev} (h : e.Sub S w) (n : Nat) : e.Sub S (w.drewN n) := h

/-- a slice of events -/
def Evs (S : Nat → Prop) (w : World) (A : Option Addr) (es : List Ev) : Prop := Rd S w A (es.flatMap Ev.cells) ∧ ∀ e ∈ es, e.Sub S w
theorem Evs.grown {S : Nat → Prop} {w w' : World} {A : Option Addr} {es : List Ev} {row : Option Nat} (h : Evs S w A es) (hg : w.grownBy w' row) (hr : ∀ b, S b → some b ≠ row) : Evs S w' A es :=
  ⟨h.1.grown hg hr, fun e he => (h.2 e he).grown hg hr⟩
theorem Evs.mono {S S' : Nat → Prop} {w : World} {A : Option Addr} {es : List Ev} (h : Evs S w A es) (hS : ∀ b, S b → b < w.heap.size → S' b) : Evs S' w A es :=
  ⟨h.1.mono hS, fun e he => (h.2 e he).mono hS⟩
theorem Evs.drewN {S : Nat → Prop} {w : World} {A : Option Addr} {es : List Ev} (h : Evs S w A es) (n : Nat) : Evs S (w.drewN n) A es := h

theorem Ev.cells_len (e : Ev) : e.cells.length = 10 := rfl
theorem It.cells_len (e : It) : e.cells.length = 11 := rfl
theorem LineD.cells_len (e : LineD) : e.cells.length = 3 := rfl
theorem FieldD.cells_len (e : FieldD) : e.cells.length = 2 := rfl

/-- lines that follow each other from one place of a file to another -/
def Chain : Int → List LineD → Int → Prop
  | a, [], b => a = b
  | a, x :: xs, b => x.off = a ∧ x.text.size + 1 ≤ x.len ∧ x.len ≤ 60 ∧ Chain (a + x.len) xs b
theorem Chain.snoc {a b : Int} {xs : List LineD} (h : Chain a xs b) (x : LineD) (h1 : x.off = b) (h2 : x.text.size + 1 ≤ x.len) (h3 : x.len ≤ 60) : Chain a (xs ++ [x]) (b + x.len) := by
  induction xs generalizing a with
  | nil => simp only [Chain] at h; subst h; exact ⟨h1, h2, h3, rfl⟩
  | cons y ys ih => exact ⟨h.1, h.2.1, h.2.2.1, ih h.2.2.2⟩
theorem Chain.le {a b : Int} {xs : List LineD} (h : Chain a xs b) : a + xs.length ≤ b ∧ b ≤ a + 60 * xs.length := by
  induction xs generalizing a with
  | nil => simp only [Chain] at h; simp; omega
  | cons y ys ih => have := ih h.2.2.2; have := h.2.1; have := h.2.2.1; simp; omega
end Go.Proofs.YtodaabofpkafjaaGreat

namespace Go.Proofs.YtodaabofpkafjaaGreat
open Go.RowKit
set_option linter.unusedVariables false
set_option linter.unusedSimpArgs false

theorem Rd.flatAt {α : Type} {f : α → List Value} {z : Nat} (hf : ∀ x, (f x).length = z) {S : Nat → Prop} {w : World} {b off : Nat} {l : List α} (h : Rd S w (some ⟨b, off, none⟩) (l.flatMap f)) {i : Nat} {x : α} (hx : l[i]? = some x) (j : Nat) (hj : j < z) : w.cell? ⟨b, off + i * z + j, none⟩ = (f x)[j]? := by
  obtain ⟨hi, hxi⟩ := List.getElem?_eq_some_iff.1 hx
  rw [Nat.add_assoc]
  obtain ⟨b', off', e, _, _, hc⟩ := h (by rw [flat_len _ z hf]; exact Nat.mul_pos (by omega) (by omega))
  injection e with e
  injection e with e1 e2
  subst e1 e2
  have h1 := flat_at f z hf l i j hi hj
  rw [hxi] at h1
  have h2 : (f x)[j]? = some ((f x)[j]'(by rw [hf]; exact hj)) := List.getElem?_eq_getElem _
  rw [h2]
  exact hc _ _ (h1.trans h2)
end Go.Proofs.YtodaabofpkafjaaGreat
