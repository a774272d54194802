/- postings.Check of the program (printed by mkposg.py). Condition: the list is good. -/
import Derived.Test.YtpaiideboodaeaaGreatDoorJSegI
import Derived.Test.YtpaiideboodaeaaGreatDoorJStr
import Derived.Test.YtpaiideboodaeaaGreatDoorJBase
import Derived.RangeFuncNested
import Derived.RangeFuncBound
import Derived.RangeFuncCalls
import Derived.RangeFuncLeaves
import Derived.Deep.RegionLaw
import Derived.Test.YtpaiideboodaeaaGreatDoorJRIdx
import Derived.Deep.DeepMust
import Derived.Test.YtpaiideboodaeaaGreatDoorJGenC
import Derived.Test.YtpaiideboodaeaaGreatDoorJSegG
namespace Go.Proofs.YtpaiideboodaeaaGreatDoor
open Go.RowKit
set_option linter.unusedVariables false
set_option linter.unusedSimpArgs false

theorem pclos_any (x : Int) (h0 : 0 ≤ x) (h1 : x < 4096) (w : World) : Calls Tryz.prog 212 #[.int .i64 x] w (Quiet (.bool false) w) := by
  have n0 : ¬ x < 0 := by omega
  have n1 : ¬ (4096 : Int) ≤ x := by omega
  clear h0 h1
  go_enter Tryz.func212, Tryz.ntmps212
  go_wp2_with fail
  go_ret
  exact ⟨rfl, 0, rfl⟩
set_option maxHeartbeats 2000000 in
theorem iidx_any {S : Nat → Prop} (A : Option Addr) (ds : List Int) (c : Nat) (w : World) (h : Rd S w A (ds.map (.int .i64))) (hl : ds.length ≤ 4096) (hd : ∀ i, i < ds.length → 0 ≤ ds.getD i 0 ∧ ds.getD i 0 < 4096) :
    Calls Tryz.prog 184 #[.slice A ds.length c, .func (.func 212) #[] #[]] w (Quiet (.int .i64 (-1)) w) := by
  have H := Lib.hid h
  have HD := Lib.hid hd
  clear h hd
  go_enter Tryz.func184, Tryz.ntmps184
  go_wp2_with fail
  go_loopw [8] (fun i wr => ∃ k : Nat, k ≤ ds.length ∧ i = .int .i64 k ∧ ∃ q, wr = w.drewN q) (fun i _ => ds.length - (intOf i).toNat)
  case atStart => exact ⟨0, Nat.zero_le _, rfl, 0, rfl⟩
  case round =>
    obtain ⟨k, hk, rfl, q, rfl⟩ := hrel
    by_cases hlt : k < ds.length
    · obtain ⟨b, off, x, rfl, hc, hx⟩ := H.out.int_at hlt
      obtain ⟨h0, h1⟩ := HD.out k hlt
      rw [hx.out] at h0 h1
      have i1 : (k : Int) < (ds.length : Int) := by omega
      clear hx
      go_wp2_with (go_at_call 212; refine (pclos_any _ h0 h1 _).mono ?_; rintro e w' ⟨rfl, n, rfl⟩)
      go_roundw
      case rel => exact ⟨k + 1, by omega, by go_num, _, rfl⟩
      case measure => simp [intOf]; omega
    · have i1 : ¬ (k : Int) < (ds.length : Int) := by omega
      go_wp2_with fail
      go_ret
      exact ⟨rfl, _, rfl⟩
set_option maxHeartbeats 1000000 in
theorem icont_any {S : Nat → Prop} (A : Option Addr) (ds : List Int) (c : Nat) (w : World) (h : Rd S w A (ds.map (.int .i64))) (hl : ds.length ≤ 4096) (hd : ∀ i, i < ds.length → 0 ≤ ds.getD i 0 ∧ ds.getD i 0 < 4096) :
    Calls Tryz.prog 123 #[.slice A ds.length c, .func (.func 212) #[] #[]] w (Quiet (.bool false) w) := by
  have K := Lib.hid (iidx_any A ds c w h hl hd)
  clear h hd
  go_enter Tryz.func123, Tryz.ntmps123
  go_wp2_with fail
  refine K.out.mono ?_
  rintro e w1 ⟨rfl, q, rfl⟩
  go_wp2_with fail
  go_ret
  exact ⟨rfl, _, rfl⟩
set_option maxHeartbeats 4000000 in
set_option maxRecDepth 100000 in
theorem postcheck_any {S : Nat → Prop} (A : Option Addr) (ds : List Int) (c : Nat) (w : World) (h : Rd S w A (ds.map (.int .i64))) (hl : ds.length ≤ 4096) (ha : AscN ds) :
    Calls Tryz.prog 173 #[.slice A ds.length c] w (Quiet (.int .i64 0) w) := by
  have H := Lib.hid h
  have HA2 := Lib.hid ha.2
  have K := Lib.hid (icont_any A ds c w h hl ha.1)
  clear h ha
  have hdb : decide ((4096 : Int) < (ds.length : Int)) = false := by simp; omega
  go_enter Tryz.func173, Tryz.ntmps173
  go_wp2_with fail
  refine K.out.mono ?_
  rintro e w1 ⟨rfl, q1, rfl⟩
  clear K
  go_wp2_with fail
  go_loopw [3] (fun i wr => ∃ k : Nat, 1 ≤ k ∧ k ≤ ds.length + 1 ∧ i = .int .i64 k ∧ ∃ q, wr = w.drewN q) (fun i _ => ds.length + 1 - (intOf i).toNat)
  case atStart => exact ⟨1, by omega, by omega, rfl, _, rfl⟩
  case round =>
    obtain ⟨k, hk0, hk1, rfl, q, rfl⟩ := hrel
    by_cases hlt : k < ds.length
    · obtain ⟨k, rfl⟩ : ∃ k', k = k' + 1 := ⟨k - 1, by omega⟩
      obtain ⟨b, off, x, rfl, hc, hx⟩ := H.out.int_at (k := k) (by omega)
      obtain ⟨y, hcy, hy⟩ := H.out.int_at' hlt
      have hxy := HA2.out k hlt
      rw [hx.out, hy.out] at hxy
      have hwk : IntKind.i64.wrap (k : Int) = (k : Int) := IntWalk.i64_in _ (by omega)
      have i1 : (k : Int) < (ds.length : Int) := by omega
      have i2 : (k : Int) + 1 < (ds.length : Int) := by omega
      have i3 : (0 : Int) ≤ (k : Int) := by omega
      have i4 : (0 : Int) ≤ (k : Int) + 1 := by omega
      have i5 : ((k : Int) + 1).toNat = k + 1 := by omega
      have i6 : ¬ y ≤ x := by omega
      clear hx hy
      go_wp2
      go_quiet (fail)
      go_wp2
      go_roundw
      case rel => exact ⟨k + 1 + 1, by omega, by omega, by go_num, _, rfl⟩
      case measure => simp [intOf]; omega
    · have i1 : ¬ (k : Int) < (ds.length : Int) := by omega
      go_wp2
      go_ret
      exact ⟨rfl, _, rfl⟩
end Go.Proofs.YtpaiideboodaeaaGreatDoor

namespace Go.Proofs.YtpaiideboodaeaaGreatDoor
open Go.RowKit
set_option linter.unusedVariables false
set_option linter.unusedSimpArgs false

/-- the loop's record, in a state -/
def recOf (fn : FuncId) (tmps : Array Value) (ps : Array Tmp) (assign body : Code) (D : Nat) (st : LoopState) (pe : Option Code) : Loop := { state := st, pending := pe, fn := fn, tmps := tmps, params := ps, assign := assign, body := body, defers := D }
/-- what the iterator is handed at a world: an invariant that bears changes of block g, and a yield that carries it on -/
def IterSays (P : Program) (m g l : Nat) {α : Type} (encs : α → Array Value) (Ok : List α → α → Prop) (Kp : World → World → Prop) (J : List α → World → Prop) : Prop :=
  (∀ s A B, J s A → A.grownBy B (some g) → J s B) ∧ ∀ pre x W1, J pre W1 → Ok pre x → pre.length ≤ 1000000 → YieldAt .wide m P l (encs x) W1 fun e W' => e = .returned (.bool true) ∧ J (pre ++ [x]) W' ∧ Kp W1 W'
theorem own_putObj {a w : World} {row : Option Nat} (h : a.grownBy w row) {l : Nat} (hl : a.heap.size ≤ l) (o : Obj) : a.grownBy (w.putObj l o) row :=
  only_fresh h (grownBy_putObj' w l o) hl

/-- how a round's body is left -/
def RoundOk (D : Nat) (Kp : World → World → Prop) (I : World → Prop) (W : World) (e : Exit) (W' : World) : Prop :=
  e = .normal ∧ (∀ b, b = D ∨ b = D + 1 → W'.heap[b]? = W.heap[b]?) ∧ W.heap.size ≤ W'.heap.size ∧ Kp W W' ∧ I W'
/-- **the law**: the body is shown once, from an invariant I of its own that bears changes of block g and of the loop's own two blocks -/
theorem wp_range_mine {P : Program} {α : Type} {gx : Operand} {ps : Array Tmp} {assign body : Code} {Q : Exit → Act → World → Prop} {a : Act} {w : World} (m g : Nat) {gf : Nat} {lb : Array Value} (hgx : a.eval gx = .func (.func gf) #[] lb) (eg : ∀ args w, (callFunc gf args).run P w = .ok (.enter gf args) w)
    (hg : g < w.heap.size) {encs : α → Array Value} (hps : ∀ x, (encs x).size = ps.size) (Ok : List α → α → Prop) (Kp : World → World → Prop) (hKt : ∀ {A B C : World}, Kp A B → Kp B C → Kp A C) (hKb : ∀ (W : World) (l : Nat) (o : Obj), w.heap.size ≤ l → l < W.heap.size → Kp W (W.putObj l o))
    (xs : List α) (Z : World → Prop) (hZ : ∀ A B : World, Z A → A.grownBy B (some (w.heap.size + 1)) → Z B)
    (hseq : ∀ (J : List α → World → Prop) (W : World), IterSays P m g (w.heap.size + 1) encs Ok Kp J → J [] W → w.grownBy W none → w.heap.size + 2 ≤ W.heap.size → Calls P gf (#[.func (.yield (w.heap.size + 1)) #[] #[]] ++ lb) W fun e W' => (∃ v, e = .returned v) ∧ J xs W' ∧ Z W')
    (I : List α → World → Prop) (hI : ∀ s A B r, I s A → A.grownBy B (some r) → (r = g ∨ r = w.heap.size ∨ r = w.heap.size + 1) → I s B) (h0 : ∀ W, w.grownBy W none → W.heap.size = w.heap.size + 2 → I [] W)
    (a₁ : α → Act)
    (hassign : ∀ (x : α) (W : World) (K : Act → World → Prop), K (a₁ x) W → assign.wpIn (Fence.wide.inRound (w.heap.size + 1)) m P (Exit.then K (fun _ _ _ => False)) { tmps := (ps.zip (encs x)).foldl (fun t (p, v) => t.setIfInBounds p v) a.tmps, defers := [] } W)
    (hbody : ∀ (pre : List α) (x : α) (W : World), I pre W → Ok pre x → pre.length ≤ 1000000 → w.heap.size + 2 ≤ W.heap.size →
      body.wpIn (Fence.wide.inRound (w.heap.size + 1)) m P (fun e _ W' => RoundOk w.heap.size Kp (I (pre ++ [x])) W e W') (a₁ x) W)
    (hdone : ∀ (W : World), I xs W → Z W → W.heap[w.heap.size]? = some (.deferred (some [])) → Q .normal { a with defers := { target := .collected w.heap.size, args := #[] } :: a.defers } W) :
    (Code.rangeFunc gx ps assign body).wp P Q a w := by
  refine (wpIn_wide (n := m + 1)).1 ?_
  refine wpIn_rangeFunc ?_
  intro fn hfn
  obtain ⟨R, hR⟩ : ∃ R, R = recOf fn a.tmps ps assign body w.heap.size := ⟨_, rfl⟩
  obtain ⟨W1, hW1⟩ : ∃ W1, W1 = (w.alloc (.deferred (some []))).alloc (.loop (R .ready none)) := ⟨_, rfl⟩
  have hL : W1.heap[w.heap.size + 1]? = some (.loop (R .ready none)) := by
    rw [hW1]; have := World.alloc_heap_new (w.alloc (.deferred (some []))) (.loop (R .ready none)); rwa [World.size_alloc] at this
  have hD : W1.heap[w.heap.size]? = some (.deferred (some [])) := by
    rw [hW1]; exact (Below.heap_alloc _ _ _ (by simp)).trans (World.alloc_heap_new w _)
  have hs : W1.heap.size = w.heap.size + 2 := by rw [hW1]; simp
  have hG : w.grownBy W1 none := by rw [hW1]; exact only_alloc (only_alloc (only_refl _ _) _) _
  refine ⟨w.heap.size + 1, [{ target := .collected w.heap.size, args := #[] }], W1, { target := .fn (.func gf) lb, args := #[.func (.yield (w.heap.size + 1)) #[] #[]] }, W1, gf, #[.func (.yield (w.heap.size + 1)) #[] #[]] ++ lb, W1, ?_, ?_, fun _ _ => trivial, ?_, (fun h => by cases h), ?_⟩
  · rw [hW1, hR]; exact run_enterLoop_outer _ _ _ _ _
  · simp only [resolve, hgx]; simp [go_sem]
  · simp [invoke, go_sem, eg]
  · refine callsIn_wide.2 ?_
    refine (hseq (fun s W => I s W ∧ W.heap[w.heap.size + 1]? = some (.loop (R .ready none)) ∧ W.heap[w.heap.size]? = some (.deferred (some []))) W1 ⟨?_, ?_⟩ ⟨h0 W1 hG hs, hL, hD⟩ hG (by omega)).mono ?_
    · rintro s A B ⟨h1, h2, h3⟩ hab
      have lt1 := (Array.getElem?_eq_some_iff.1 h2).1
      have lt2 := (Array.getElem?_eq_some_iff.1 h3).1
      exact ⟨hI s A B g h1 hab (.inl rfl), (hab.block _ lt1 (by simp; omega)).trans h2, (hab.block _ lt2 (by simp; omega)).trans h3⟩
    · rintro pre x W ⟨hi, hl, hd⟩ hok hlen
      have hlt := (Array.getElem?_eq_some_iff.1 hl).1
      have hy := run_yield (P := P) (args := encs x) hl (by rw [hR]; exact hps x)
      rw [hR] at hy
      refine ⟨fn, _, assign, body, hy, roundIn_of_wpIn hfn (hassign x W _ ⟨_, run_beginRound hl (by rw [hR]; rfl), ?_⟩)⟩
      obtain ⟨V, hV⟩ : ∃ V, V = W.putObj (w.heap.size + 1) (.loop { R .ready none with state := .busy }) := ⟨_, rfl⟩
      rw [← hV]
      have gV : W.grownBy V (some (w.heap.size + 1)) := by rw [hV]; exact grownBy_putObj' W _ _
      have hl2 : V.heap[w.heap.size + 1]? = some (.loop { R .ready none with state := .busy }) := by rw [hV]; exact World.putObj_heap_same hlt
      have hd2 : V.heap[w.heap.size]? = some (.deferred (some [])) := by rw [hV]; exact (World.putObj_heap_other (by omega)).trans hd
      have hsV := gV.size
      refine wpIn_mono (hbody pre x V (hI _ _ _ _ hi gV (.inr (.inr rfl))) hok hlen (by omega)) ?_
      rintro e a3 W3 ⟨rfl, hkeep, hsz, hkp, hi3⟩
      have hl3 := (hkeep _ (.inr rfl)).trans hl2
      have hd3 := (hkeep _ (.inl rfl)).trans hd2
      have he := run_endRound (P := P) none hl3
      obtain ⟨U, hU⟩ : ∃ U, U = W3.putObj (w.heap.size + 1) (.loop { ({ R .ready none with state := .busy } : Loop) with state := .ready, pending := none }) := ⟨_, rfl⟩
      have gU : W3.grownBy U (some (w.heap.size + 1)) := by rw [hU]; exact grownBy_putObj' W3 _ _
      refine ⟨_, U, by rw [hU]; exact he, rfl, ⟨hI _ _ _ _ hi3 gU (.inr (.inr rfl)), ?_, ?_⟩, ?_⟩
      · rw [hU, World.putObj_heap_same (Array.getElem?_eq_some_iff.1 hl3).1, hR]; rfl
      · rw [hU]; exact (World.putObj_heap_other (by omega)).trans hd3
      · refine hKt (hKt ?_ hkp) ?_
        · rw [hV]; exact hKb _ _ _ (by omega) hlt
        · rw [hU]; exact hKb _ _ _ (by omega) (Array.getElem?_eq_some_iff.1 hl3).1
    · rintro e W2 ⟨⟨v, rfl⟩, ⟨hi, hl, hd⟩, hz⟩
      have he := run_endLoop (P := P) hl (by rw [hR]; simp [recOf])
      obtain ⟨U, hU⟩ : ∃ U, U = W2.putObj (w.heap.size + 1) (.loop { R .ready none with state := .exhausted }) := ⟨_, rfl⟩
      have gU : W2.grownBy U (some (w.heap.size + 1)) := by rw [hU]; exact grownBy_putObj' W2 _ _
      refine ⟨none, U, ?_, hdone U (hI _ _ _ _ hi gU (.inr (.inr rfl))) (hZ _ _ hz gU) ?_⟩
      · rw [hU, he, hR]; rfl
      · rw [hU]; exact (World.putObj_heap_other (by omega)).trans hd
end Go.Proofs.YtpaiideboodaeaaGreatDoor

namespace Go.Proofs.YtpaiideboodaeaaGreatDoor
open Go.RowKit
set_option linter.unusedVariables false
set_option linter.unusedSimpArgs false

/-- the m-th block of 32 -/
def chunkV (b o n m : Nat) : Value := .slice (some ⟨b, o + 32 * m, none⟩) (min 32 (n - 32 * m)) (min 32 (n - 32 * m))
/-- what a round leaves as it was -/
def KpC (c2 c3 : Nat) (A B : World) : Prop := ∀ b, b = c2 ∨ b = c3 → B.heap[b]? = A.heap[b]?
theorem KpC.blk {c2 c3 : Nat} {A B : World} (h : KpC c2 c3 A B) : (∀ t cs, Blk A c2 t cs → Blk B c2 t cs) ∧ ∀ t cs, Blk A c3 t cs → Blk B c3 t cs :=
  ⟨fun t cs k => by unfold Blk at *; rw [h _ (.inl rfl)]; exact k, fun t cs k => by unfold Blk at *; rw [h _ (.inr rfl)]; exact k⟩
set_option maxHeartbeats 4000000 in
set_option maxRecDepth 100000 in
theorem chunk_iter (m c2 c3 l b o n c : Nat) (J : List Nat → World → Prop) (W : World)
    (hJ : ∀ s A B, J s A → A.grownBy B (some c2) → J s B)
    (hY : ∀ pre x W1, J pre W1 → (x = pre.length ∧ 32 * x < n) → pre.length ≤ 1000000 → YieldAt .wide m Tryz.prog l #[chunkV b o n x] W1 fun e W' => e = .returned (.bool true) ∧ J (pre ++ [x]) W' ∧ KpC c2 c3 W1 W')
    (h0 : J [] W) (h2 : Blk W c2 47 #[.slice (some ⟨b, o, none⟩) n c]) (h3 : Blk W c3 3 #[.int .i64 32]) (hc : n ≤ c) (hm : c ≤ maxLen) (hn : n ≤ 4096) :
    Calls Tryz.prog 213 #[.func (.yield l) #[] #[], .pointer (some ⟨c2, 0, none⟩), .pointer (some ⟨c3, 0, none⟩)] W (fun e W' => (∃ v, e = .returned v) ∧ J (List.range ((n + 31) / 32)) W') := by
  have HJ := Lib.hid hJ
  have HY := Lib.hid hY
  have H0 := Lib.hid h0
  have B2 := Lib.hid h2
  have B3 := Lib.hid h3
  unfold maxLen at hm
  clear hJ hY h0 h2 h3
  go_enter Tryz.func213, Tryz.ntmps213
  go_wp2_with fail
  go_loopw [4] (fun i wr => ∃ k : Nat, 32 * k ≤ n + 31 ∧ i = .int .i64 ((32 * k : Nat) : Int) ∧ J (List.range k) wr ∧ Blk wr c2 47 #[.slice (some ⟨b, o, none⟩) n c] ∧ Blk wr c3 3 #[.int .i64 32]) (fun i _ => n + 32 - (intOf i).toNat)
  case atStart => exact ⟨0, by omega, rfl, by simpa using H0.out, B2.out, B3.out⟩
  case round =>
    clear H0 B2 B3
    obtain ⟨k, hk, rfl, hJk, hb2, hb3⟩ := hrel
    have JK := Lib.hid hJk
    have B2 := Lib.hid hb2
    have B3 := Lib.hid hb3
    have c0 := hb2.cell 0
    have d0 := hb3.cell 0
    simp at c0 d0
    obtain ⟨q, hq⟩ : ∃ q, q = 32 * k := ⟨_, rfl⟩
    rw [← hq]
    have HQ := Lib.hid hq
    clear hJk hb2 hb3
    by_cases hlt : q < n
    · have i1 : (q : Int) < (n : Int) := by omega
      have i2 : (0 : Int) ≤ (q : Int) := by omega
      obtain ⟨L, hL⟩ : ∃ L, L = min 32 (n - q) := ⟨_, rfl⟩
      have hL1 : 1 ≤ L ∧ L ≤ 32 ∧ q + L ≤ n := by omega
      obtain ⟨hLa, hLb, hLc⟩ := hL1
      have HV : Hid (chunkV b o n k = .slice (some ⟨b, o + q, none⟩) L L) := Lib.hid (by unfold chunkV; rw [← hq, ← hL])
      have HMN : Hid (min (32 : Int) ((n - q : Nat) : Int) = (L : Int)) := Lib.hid (by omega)
      have i3 : (q : Int) ≤ (n : Int) := by omega
      have i4 : (q : Int) ≤ (c : Int) := by omega
      clear hq hL
      go_wp2_with fail
      go_quiet (fail)
      rw [HMN.out]
      obtain ⟨wc, hwc⟩ : ∃ x, x = wr.drewN nq := ⟨_, rfl⟩
      have hG4 : wr.grownBy wc none := by rw [hwc]; exact only_drewN (only_refl _ _) _
      rw [← hwc]
      have J4 := Lib.hid (HJ.out _ _ _ JK.out (only_of_none hG4 _))
      have C2 := Lib.hid (B2.out.grown hG4 (by simp))
      have C3 := Lib.hid (B3.out.grown hG4 (by simp))
      have c1 := C2.out.cell 0
      simp at c1
      clear c0 d0 JK B2 B3 HMN hwc hG4
      obtain ⟨fn, tmps, assign, body, hy, hRd⟩ := HY.out (List.range k) k wc J4.out ⟨by simp, by have := HQ.out; omega⟩ (by simp; omega)
      rw [HV.out] at hy
      go_upto_region 4 with fail
      refine (wpIn_wide (n := m + 1)).1 ?_
      gi_wp2
      refine hRd.mono ?_
      rintro e w5 ⟨rfl, hJ5, hk5⟩
      have J5 : Hid (J (List.range (k + 1)) w5) := Lib.hid (by rw [List.range_succ]; exact hJ5)
      have E2 := Lib.hid (hk5.blk.1 _ _ C2.out)
      have E3 := Lib.hid (hk5.blk.2 _ _ C3.out)
      have e0 := E3.out.cell 0
      simp at e0
      clear hJ5 hk5 c1 C2 C3 J4 hRd hy
      gi_wp2
      go_wp2_with fail
      go_roundw
      case rel => exact ⟨k + 1, by have := HQ.out; omega, by rw [show ((32 * (k + 1) : Nat) : Int) = (q : Int) + 32 by have := HQ.out; omega], J5.out, E2.out, E3.out⟩
      case measure => simp [intOf]; have := HQ.out; omega
    · have i1 : ¬ (q : Int) < (n : Int) := by omega
      have hkE : k = (n + 31) / 32 := by omega
      have JE : Hid (J (List.range ((n + 31) / 32)) wr) := Lib.hid (by rw [← hkE]; exact JK.out)
      clear hq hkE
      go_wp2_with fail
      exact bodyPost_end (v := .tuple #[]) (by simp [results, Tryz.results213, go_sem]) rfl ⟨⟨_, rfl⟩, JE.out⟩
end Go.Proofs.YtpaiideboodaeaaGreatDoor

namespace Go.Proofs.YtpaiideboodaeaaGreatDoor
open Go.RowKit
set_option linter.unusedVariables false
set_option linter.unusedSimpArgs false

set_option maxHeartbeats 4000000 in
set_option maxRecDepth 100000 in
theorem pput_any (base : Nat) (v : Value) (xs : List Int) (n width : Nat) (w : World) (h : Byts base w v xs) (hx : xs.length ≤ 4000000) (hw : width ≤ 8) (hn : n < 18446744073709551616) (hb : base ≤ w.heap.size) :
    Calls Tryz.prog 30 #[v, .int .u64 n, .int .i64 (width : Int)] w (VPost base w v (xs ++ beB width n)) := by
  have H := Lib.hid h
  clear h
  go_enter Tryz.func30, Tryz.ntmps30
  go_wp2_with fail
  go_loopw [0, 7] (fun u i wr => ∃ (m : Nat) (ys : List Int), m ≤ width ∧ i = .int .i64 ((m : Int) - 1) ∧ Byts base wr u ys ∧ ys ++ beB m n = xs ++ beB width n ∧ Onto w v u wr) (fun _ i _ => (intOf i + 1).toNat)
  case atStart => exact ⟨width, xs, Nat.le_refl _, rfl, H.out, rfl, Onto.refl _ _⟩
  case round =>
    obtain ⟨m, ys, hm, rfl, hB, he, hO⟩ := hrel
    have hl : ys.length ≤ 4000010 := by
      have h1 := congrArg List.length he
      simp [beB_len] at h1
      omega
    have HO := Lib.hid hO
    have HE := Lib.hid he
    have HB := Lib.hid hB
    have hz := hO.1.size
    clear hO he hB
    by_cases hc : 1 ≤ m
    · obtain ⟨j, rfl⟩ : ∃ j, m = j + 1 := ⟨m - 1, by omega⟩
      have hjj : (((j + 1 : Nat) : Int) - 1) = (j : Int) := by omega
      rw [hjj]
      have i1 : (0 : Int) ≤ (j : Int) := by omega
      clear hjj
      go_wp2_with (at_builtin; go_must (refine wpList_append1 rfl _ _ 22 rfl base Tryz.underlying22 byteInfo rfl (by decide) (v := u0) (by rfl) (w0 := wr) (cs := #[.int .u8 ((n : Int) / 2 ^ (8 * j) % 256)]) HB.out (by rfl) rfl (by simp [Value.oneCell']) (by decide) (by omega) (by omega) ?_); intro v1 w1 hv1 hg1 hob1)
      rw [be_el] at hv1
      have B1 := Lib.hid (Byts.snoc hv1)
      have O1 := Lib.hid (HO.out.trans (onto_ap hg1 hob1))
      clear hv1 hg1 hob1
      go_wp2_with fail
      go_roundw
      case rel => exact ⟨j, ys ++ [((n / 256 ^ j % 256 : Nat) : Int)], by omega, rfl, B1.out, by rw [← HE.out, beB]; simp, O1.out⟩
      case measure => simp [intOf] <;> omega
    · have hm0 : m = 0 := by omega
      subst hm0
      have HE2 : Hid (ys = xs ++ beB width n) := Lib.hid (by have h := HE.out; simpa [beB] using h)
      have B9 : Hid (Byts base wr u0 (xs ++ beB width n)) := Lib.hid (by rw [← HE2.out]; exact HB.out)
      go_wp2_with fail
      go_ret
      exact ⟨u0, rfl, B9.out, HO.out⟩
set_option maxHeartbeats 1000000 in
set_option maxRecDepth 100000 in
theorem pvarint_any (base : Nat) (v : Value) (xs : List Int) (n : Nat) (w : World) (h : Byts base w v xs) (hx : xs.length ≤ 5000000) (hn : n ≤ 4000000) (hb : base ≤ w.heap.size) :
    Calls Tryz.prog 174 #[v, .int .i64 n] w (VPost base w v (xs ++ vint n)) := by
  have H := Lib.hid h
  clear h
  go_enter Tryz.func174, Tryz.ntmps174
  go_wp2_with fail
  go_loopw [0, 1] (fun u i wr => ∃ (m : Nat) (ys : List Int), m ≤ n ∧ i = .int .i64 m ∧ Byts base wr u ys ∧ ys ++ vint m = xs ++ vint n ∧ ys.length + m ≤ xs.length + n ∧ Onto w v u wr) (fun _ i _ => (intOf i).toNat)
  case atStart => exact ⟨n, xs, Nat.le_refl _, rfl, H.out, rfl, Nat.le_refl _, Onto.refl _ _⟩
  case round =>
    obtain ⟨m, ys, hm, rfl, hB, he, hl, hO⟩ := hrel
    have HO := Lib.hid hO
    have HE := Lib.hid he
    have HB := Lib.hid hB
    have hz := hO.1.size
    clear hO he hB
    by_cases hc : 127 < m
    · have HV := Lib.hid (vb_i64 m (by omega))
      have HV2 := Lib.hid (vint_ge (n := m) (by omega))
      go_wp2_with (at_builtin; refine wpList_append1 rfl _ _ 22 rfl base Tryz.underlying22 byteInfo rfl (by decide) (v := _) (by rfl) (w0 := _) (cs := #[.int .u8 (bits BinOp.or IntKind.i64 (bits BinOp.and IntKind.i64 (↑m) 127) 128 % 256)]) HB.out (by rfl) rfl (by simp [Value.oneCell']) (by decide) (by omega) (by omega) ?_; intro v1 w1 hv1 hg1 hob1)
      rw [HV.out] at hv1
      have B1 := Lib.hid (Byts.snoc hv1)
      have O1 := Lib.hid (HO.out.trans (onto_ap hg1 hob1))
      clear hv1 hg1 hob1
      go_wp2_with fail
      go_roundw
      case rel => exact ⟨m / 128, ys ++ [((m % 128 + 128 : Nat) : Int)], by omega, by simp, B1.out, by rw [← HE.out, HV2.out]; simp, by simp; omega, O1.out⟩
      case measure => simp [intOf]; omega
    · have HV2 := Lib.hid (vint_lt (n := m) (by omega))
      have hd : decide ((127 : Int) < (m : Int)) = false := by simp; omega
      go_wp2_with (at_builtin; refine wpList_append1 rfl _ _ 22 rfl base Tryz.underlying22 byteInfo rfl (by decide) (v := _) (by rfl) (w0 := _) (cs := #[.int .u8 (m : Int)]) HB.out (by rfl) rfl (by simp [Value.oneCell']) (by decide) (by omega) (by omega) ?_; intro v1 w1 hv1 hg1 hob1)
      have B1 := Lib.hid (Byts.snoc hv1)
      have O1 := Lib.hid (HO.out.trans (onto_ap hg1 hob1))
      clear hv1 hg1 hob1
      go_wp2_with fail
      go_ret
      exact ⟨v1, rfl, by rw [← HE.out, HV2.out]; exact B1.out, O1.out⟩
set_option maxHeartbeats 1000000 in
set_option maxRecDepth 100000 in
theorem pblock_any {S : Nat → Prop} (base : Nat) (v : Value) (xs : List Int) (A : Option Addr) (bs : List Int) (c : Nat) (er : Int) (w : World) (h : Byts base w v xs) (hr : Rd S w A (bs.map (.int .u8))) (hne : ∀ b, S b → some b ≠ v.ownBlock) (hx : xs.length ≤ 7400000) (hl9 : bs.length ≤ 2400000) (hb : base ≤ w.heap.size) :
    Calls Tryz.prog 108 #[v, .slice A bs.length c, .int .i64 er] w (VPost base w v (xs ++ blkP bs)) := by
  obtain ⟨n, hn9⟩ : ∃ n, n = bs.length := ⟨_, rfl⟩
  have hn : n ≤ 2400000 := by omega
  have hvl := vint_len10 (n := n) (by omega)
  have HN9 := Lib.hid hn9
  have H := Lib.hid h
  have HR := Lib.hid (hr.mono (S' := fun b => S b ∧ b < w.heap.size) (fun b h1 h2 => ⟨h1, h2⟩))
  have HNE := Lib.hid hne
  rw [← hn9]
  clear h hr hne hn9
  go_enter Tryz.func108, Tryz.ntmps108
  go_wp2_with fail
  go_loopw [0, 7] (fun u i wr => ∃ (m : Nat) (ys : List Int), m ≤ n ∧ i = .int .i64 m ∧ Byts base wr u ys ∧ ys ++ vint m = xs ++ vint n ∧ ys.length + m ≤ xs.length + n ∧ Onto w v u wr) (fun _ i _ => (intOf i).toNat)
  case atStart => exact ⟨n, xs, Nat.le_refl _, rfl, H.out, rfl, Nat.le_refl _, Onto.refl _ _⟩
  case round =>
    obtain ⟨m, ys, hm, rfl, hB, he, hl, hO⟩ := hrel
    have HO := Lib.hid hO
    have HE := Lib.hid he
    have HB := Lib.hid hB
    have hz := hO.1.size
    clear hO he hB
    by_cases hc : 127 < m
    · have HV := Lib.hid (vb_i64 m (by omega))
      have HV2 := Lib.hid (vint_ge (n := m) (by omega))
      go_wp2_with (at_builtin; refine wpList_append1 rfl _ _ 22 rfl base Tryz.underlying22 byteInfo rfl (by decide) (v := _) (by rfl) (w0 := _) (cs := #[.int .u8 (bits BinOp.or IntKind.i64 (bits BinOp.and IntKind.i64 (↑m) 127) 128 % 256)]) HB.out (by rfl) rfl (by simp [Value.oneCell']) (by decide) (by omega) (by omega) ?_; intro v1 w1 hv1 hg1 hob1)
      rw [HV.out] at hv1
      have B1 := Lib.hid (Byts.snoc hv1)
      have O1 := Lib.hid (HO.out.trans (onto_ap hg1 hob1))
      clear hv1 hg1 hob1
      go_wp2_with fail
      go_roundw
      case rel => exact ⟨m / 128, ys ++ [((m % 128 + 128 : Nat) : Int)], by omega, by simp, B1.out, by rw [← HE.out, HV2.out]; simp, by simp; omega, O1.out⟩
      case measure => simp [intOf]; omega
    · have HV2 := Lib.hid (vint_lt (n := m) (by omega))
      have hd : decide ((127 : Int) < (m : Int)) = false := by simp; omega
      have hyl : ys.length ≤ 9900000 := by
        have h1 := congrArg List.length HE.out
        simp only [List.length_append] at h1
        omega
      go_wp2_with (at_builtin; first | (refine wpList_append1 rfl _ _ 22 rfl base Tryz.underlying22 byteInfo rfl (by decide) (v := u0) (by rfl) (w0 := wr) (cs := #[.int .u8 (m : Int)]) HB.out (by rfl) rfl (by simp [Value.oneCell']) (by decide) (by omega) (by omega) ?_; intro v1 w1 hv1 hg1 hob1; have B1 : Hid (Byts base w1 v1 (xs ++ vint n)) := Lib.hid (by rw [← HE.out, HV2.out]; exact Byts.snoc hv1); have O1 := Lib.hid (HO.out.trans (onto_ap hg1 hob1)); have R1 := Lib.hid (HR.out.grown O1.out.1 (fun b hb => HNE.out b hb.1)); have hz1 := O1.out.1.size; clear hv1 hg1 hob1) | (refine wpList_appendN rfl _ _ 22 rfl base Tryz.underlying22 byteInfo rfl (by decide) (v := v1) (by rfl) B1.out A n c (by rfl) R1.out (by rw [List.length_map, HN9.out]; omega) (byte_ones bs) (by decide) (by rw [List.length_append]; omega) (by omega) ?_; intro v2 w2 hown2 hg2 hob2; have B2 : Hid (Byts base w2 v2 (xs ++ blkP bs)) := Lib.hid (by unfold Byts blkP; have h9 := hown2; rw [List.length_append] at h9; rw [← List.append_assoc, List.map_append, List.length_append, List.length_append, ← HN9.out]; exact h9); have O2 := Lib.hid (O1.out.trans (onto_apN hg2 hob2)); clear hown2 hg2 hob2))
      go_ret
      exact ⟨v2, rfl, B2.out, O2.out⟩
end Go.Proofs.YtpaiideboodaeaaGreatDoor

namespace Go.Proofs.YtpaiideboodaeaaGreatDoor
open Go.RowKit
set_option linter.unusedVariables false
set_option linter.unusedSimpArgs false

/-- both cells, and the bytes written so far -/
structure PoS (base B : Nat) (w1 : World) (hs bs : List Int) (vH vB : Value) (X : World) : Prop where
  cH : Blk X B 22 #[vH]
  cB : Blk X (B + 1) 22 #[vB]
  h : Byts base X vH hs
  b : Byts base X vB bs
  a : Apt vH vB
  lH : ∀ g, vH.ownBlock = some g → g < B ∨ B + 6 ≤ g
  lB : ∀ g, vB.ownBlock = some g → g < B ∨ B + 6 ≤ g
  g : w1.grownBy X none
  z : B + 6 ≤ X.heap.size
/-- the blocks of the iterator and of the loop stay -/
def KpP (B : Nat) (W X : World) : Prop := W.heap.size ≤ X.heap.size ∧ ∀ b, B + 2 ≤ b → b < B + 6 → X.heap[b]? = W.heap[b]?
theorem KpP.refl (B : Nat) (W : World) : KpP B W W := ⟨Nat.le_refl _, fun _ _ _ => rfl⟩
theorem KpP.trans {B : Nat} {W X Y : World} (h : KpP B W X) (k : KpP B X Y) : KpP B W Y := ⟨Nat.le_trans h.1 k.1, fun b h1 h2 => (k.2 b h1 h2).trans (h.2 b h1 h2)⟩
theorem loc_onto {B : Nat} {X Y : World} {v v' : Value} (h : ∀ g, v.ownBlock = some g → g < B ∨ B + 6 ≤ g) (hz : B + 6 ≤ X.heap.size) (hO : Onto X v v' Y) : ∀ g, v'.ownBlock = some g → g < B ∨ B + 6 ≤ g := fun g e => by
  rcases hO.2 with e1 | ⟨k, hk, e1⟩
  · exact h g (e1 ▸ e)
  · rw [e1] at e; injection e with e; omega
theorem onto_keep {B b : Nat} {X Y : World} {v v' : Value} (h : ∀ g, v.ownBlock = some g → g < B ∨ B + 6 ≤ g) (hz : B + 6 ≤ X.heap.size) (hO : Onto X v v' Y) (h1 : B ≤ b) (h2 : b < B + 6) : Y.heap[b]? = X.heap[b]? :=
  hO.1.block b (by omega) (fun e => by have := h b e.symm; omega)
section
variable {base B : Nat} {w1 X Y : World} {hs bs : List Int} {vH vB v' : Value}
theorem PoS.still {r : Nat} (h : PoS base B w1 hs bs vH vB X) (hg : X.grownBy Y (some r)) (h1 : B + 2 ≤ r) (h2 : r < B + 6) (hw : w1.heap.size ≤ B) : PoS base B w1 hs bs vH vB Y :=
  ⟨h.cH.grown hg (by simp; omega), h.cB.grown hg (by simp; omega), own_off h.h hg (fun e => by have := h.lH r e; omega), own_off h.b hg (fun e => by have := h.lB r e; omega), h.a, h.lH, h.lB, only_fresh h.g hg (by omega), Nat.le_trans h.z hg.size⟩
theorem PoS.quiet (h : PoS base B w1 hs bs vH vB X) (hg : X.grownBy Y none) : PoS base B w1 hs bs vH vB Y :=
  ⟨h.cH.grown hg (by simp), h.cB.grown hg (by simp), own_ext h.h hg, own_ext h.b hg, h.a, h.lH, h.lB, only_trans h.g hg, Nat.le_trans h.z hg.size⟩
theorem PoS.putB {bs' : List Int} (h : PoS base B w1 hs bs vH vB X) (hO : Onto X vB v' Y) (hB : Byts base Y v' bs') (hw : w1.heap.size ≤ base) (hb : base ≤ B) : PoS base B w1 hs bs' vH v' (Y.setCell ⟨B + 1, 0, none⟩ v') ∧ KpP B X (Y.setCell ⟨B + 1, 0, none⟩ v') := by
  have hset := only_setB Y (p := ⟨B + 1, 0, none⟩) v'
  have l' := loc_onto h.lB h.z hO
  refine ⟨⟨?_, ?_, ?_, ?_, h.a.onto hO h.h.below, h.lH, l', ?_, ?_⟩, ?_, fun b h1 h2 => ?_⟩
  · exact (h.cH.grown hO.1 (fun e => by have := h.lB B e.symm; omega)).grown hset (by simp)
  · have := (h.cB.grown hO.1 (fun e => by have := h.lB (B + 1) e.symm; omega)).set_ 0 v'
    simpa using this
  · exact own_off (h.a.keep h.h hO.1) hset (fun e => by have := h.lH _ e; simp at this; omega)
  · exact own_off hB hset (fun e => by have := l' _ e; simp at this; omega)
  · exact only_fresh (h.b.only hO h.g hw) hset (by simp; omega)
  · exact Nat.le_trans h.z (Nat.le_trans hO.1.size hset.size)
  · exact Nat.le_trans hO.1.size hset.size
  · exact (hset.block b (by have := h.z; have := hO.1.size; omega) (by simp; omega)).trans (onto_keep h.lB h.z hO (by omega) h2)
theorem PoS.putH {hs' : List Int} (h : PoS base B w1 hs bs vH vB X) (hO : Onto X vH v' Y) (hH : Byts base Y v' hs') (hw : w1.heap.size ≤ base) (hb : base ≤ B) : PoS base B w1 hs' bs v' vB (Y.setCell ⟨B, 0, none⟩ v') ∧ KpP B X (Y.setCell ⟨B, 0, none⟩ v') := by
  have hset := only_setB Y (p := ⟨B, 0, none⟩) v'
  have l' := loc_onto h.lH h.z hO
  refine ⟨⟨?_, ?_, ?_, ?_, (h.a.symm.onto hO h.b.below).symm, l', h.lB, ?_, ?_⟩, ?_, fun b h1 h2 => ?_⟩
  · have := (h.cH.grown hO.1 (fun e => by have := h.lH B e.symm; omega)).set_ 0 v'
    simpa using this
  · exact (h.cB.grown hO.1 (fun e => by have := h.lH (B + 1) e.symm; omega)).grown hset (by simp)
  · exact own_off hH hset (fun e => by have := l' _ e; simp at this; omega)
  · exact own_off (h.a.symm.keep h.b hO.1) hset (fun e => by have := h.lB _ e; simp at this; omega)
  · exact only_fresh (h.h.only hO h.g hw) hset (by simp; omega)
  · exact Nat.le_trans h.z (Nat.le_trans hO.1.size hset.size)
  · exact Nat.le_trans hO.1.size hset.size
  · exact (hset.block b (by have := h.z; have := hO.1.size; omega) (by simp; omega)).trans (onto_keep h.lH h.z hO (by omega) h2)
end
theorem chunkmk_any (A : Option Addr) (n c : Nat) (w : World) : Calls Tryz.prog 175 #[.slice A n c, .int .i64 32] w (fun e w' => e = .returned (.func (.func 213) #[] #[.pointer (some ⟨w.heap.size, 0, none⟩), .pointer (some ⟨w.heap.size + 1, 0, none⟩)]) ∧
    w' = (w.alloc (.cells #[.slice A n c] 47)).alloc (.cells #[.int .i64 32] 3)) := by
  go_enter Tryz.func175, Tryz.ntmps175
  go_wp2
  go_ret
  exact ⟨rfl, rfl⟩
end Go.Proofs.YtpaiideboodaeaaGreatDoor
