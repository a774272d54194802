/- set of the reference of chapter 28 (printed by mk42s.py): what it gives at least. Conditions: sizes. -/
import Derived.Test.YtiogpomgpknjlaaJItm42
import Derived.Test.YtiogpomgpknjlaaJRRep
import Derived.Test.YtiogpomgpknjlaaJCloneT
namespace Go.Proofs.Ytiogpomgpknjlaa
open Go.RowKit
set_option linter.unusedVariables false
set_option linter.unusedSimpArgs false

theorem wpList_appendM {P : Program} {ops : Array Oper} {rest : List Oper} {o : Oper} {a : Act} {w : World} {Q : Exit → Act → World → Prop} (hgd : o.guard = none) (s x : Operand) (t : TypeId)
    (ho : o.op = .call { callee := .builtin .append, args := #[s, x], argTypes := #[t, t] })
    (base : Nat) {e : TypeId} {z : Value} {size bytes : Nat} (ht : P.underlying t = some (.slice e)) (hi : (P.info? e).map (fun i => (i.zero, i.size, i.bytes)) = some (some z, size, bytes)) (hzs : z.cells.size = size) (hsz : 0 < size)
    {v : Value} {n : Nat} {xs : List Value} (hs : a.eval s = v) (hown : w.ownsRow base e size v n xs) {S : Nat → Prop} (A : Option Addr) (m c : Nat) {news : List Value} (hx : a.eval x = .slice A m c) (hr : Rd S w A news) (hl : news.length = m * size) (h1 : ∀ u ∈ news, u.oneCell' = true)
    (hb : bytes ≤ 1000) (hn : n + m ≤ 10000000) (hbase : base ≤ w.heap.size)
    (h : ∀ A' c' w', w'.ownsRow base e size (.slice A' (n + m) c') (n + m) (xs ++ news) → w.grownBy w' v.ownBlock → wpList P ops Q rest (a.put o.dst (.slice A' (n + m) c')) w') : wpList P ops Q (o :: rest) a w :=
  wpList_appendN hgd s x t ho base ht hi hzs hsz hs hown A m c hx hr hl h1 hb hn hbase fun v' w' h2 h3 _ => by
    obtain ⟨A', c', rfl, -, -, -, -⟩ := Rd.of_own h2 hsz
    exact h A' c' w' h2 h3
def SetP (w : World) (n : Nat) (e : Ending) (w' : World) : Prop :=
  ∃ (A' : Option Addr) (c' : Nat) (ms' : List MarkD), e = .returned (.slice A' ms'.length c') ∧ ms'.length ≤ n + 1 ∧ ms'.length ≤ c' ∧ c' ≤ maxLen ∧ (A' = none → c' = 0) ∧ Rd (w.heap.size ≤ ·) w' A' (ms'.flatMap MarkD.cells) ∧ w.grownBy w' none
theorem own_noneM {w : World} {base e z n c n' : Nat} {xs : List Value} {A : Option Addr} (h : w.ownsRow base e z (.slice A n c) n' xs) (hA : A = none) : c = 0 := by
  rcases h.2 with ⟨e, _⟩ | ⟨g', cap, cur, e, _⟩
  · injection e
  · injection e with e1; rw [hA] at e1; cases e1
set_option maxHeartbeats 4000000 in
set_option maxRecDepth 100000 in
theorem set28_any {S : Nat → Prop} (A : Option Addr) (ms : List MarkD) (c : Nat) (x : MarkD) (w : World) (hr : Rd S w A (ms.flatMap MarkD.cells)) (hl : ms.length ≤ 10000) (hc : ms.length ≤ c) (hcm : c ≤ maxLen) (hz : A = none → c = 0) :
    Calls Try.prog 56 #[.slice A ms.length c, .agg x.cells.toArray] w (SetP w ms.length) := by
  unfold maxLen at hcm
  obtain ⟨xb, hxb⟩ : ∃ b, b = w.heap.size := ⟨_, rfl⟩
  obtain ⟨W1, hW1⟩ : ∃ W, W = w.alloc (.cells x.cells.toArray 83) := ⟨_, rfl⟩
  have G1 : Hid (w.grownBy W1 none) := Lib.hid (by rw [hW1]; exact only_alloc (only_refl _ _) _)
  have B1 : Hid (Blk W1 xb 83 x.cells.toArray) := Lib.hid (by rw [hW1, hxb]; exact Blk.new w _ _)
  have HR := Lib.hid ((hr.mono (S' := (· < w.heap.size)) (fun b _ hlt => hlt)).grown G1.out (by simp))
  have KA := Lib.hid (at28_any A ms c x.host x.file W1 HR.out (by omega))
  have b0 := B1.out.cell 0
  have b1 := B1.out.cell 1
  simp [MarkD.cells] at b0 b1
  have HW := Lib.hid hW1.symm
  have HXB := Lib.hid hxb
  have HZ := Lib.hid hz
  clear hW1 hxb hr hz
  simp only [MarkD.cells] at HW ⊢
  go_enter Try.func56, Try.ntmps56
  go_upto_region 1 with fail
  rw [HW.out, ← HXB.out]
  clear HW
  go_wp2_with fail
  refine KA.out.mono ?_
  rintro e w2 ⟨m, ok, rfl, hml, hok, q, hw2⟩
  have hg12 : W1.grownBy w2 none := by rw [hw2]; exact only_drewN (only_refl _ _) q
  obtain ⟨W2, rfl⟩ : ∃ W2 : World, W2 = w2 := ⟨_, rfl⟩
  have G2 := Lib.hid (only_trans G1.out hg12)
  have B2 := Lib.hid (B1.out.grown hg12 (by simp))
  have R2 := Lib.hid (HR.out.grown hg12 (by simp))
  have hsz2 : w.heap.size ≤ W2.heap.size := G2.out.size
  have HOK := Lib.hid hok
  clear b0 b1 hg12 hw2 B1 HR G1 KA hok
  cases A with
  | none =>
    have hc0 := HZ.out rfl
    have hn0 : ms.length = 0 := by omega
    obtain rfl : ms = [] := List.eq_nil_of_length_eq_zero hn0
    obtain rfl : m = 0 := by simpa using hml
    have hok0 : ok = false := by cases ok with | false => rfl | true => have := HOK.out rfl; simp at this
    subst hok0 hc0
    clear hn0 HOK HZ
    go_upto_region 3 with (at_builtin; refine wpList_appendM rfl _ _ 37 rfl W2.heap.size Try.underlying37 markInfo rfl (by decide) (v := .slice none 0 0) (by rfl) (World.ownsRow_nil _ _ _ _) none 0 0 (news := []) (S := fun _ => True) (by rfl) Rd.nil rfl (by simp) (by decide) (by omega) (by omega) ?_; intro A5 c5 w5 hown5 hg5)
    have O5 : Hid (w5.ownsRow W2.heap.size 83 3 (.slice A5 0 c5) 0 []) := Lib.hid (by simpa using hown5)
    have G5 : Hid (W2.grownBy w5 none) := Lib.hid (by simpa [Value.ownBlock] using hg5)
    have hB5 := B2.out.grown G5.out (by simp)
    have b0 := hB5.cell 0
    have b1 := hB5.cell 1
    have b2 := hB5.cell 2
    simp [MarkD.cells] at b0 b1 b2
    have hsz5 := G5.out.size
    clear hown5 hg5 hB5
    go_upto_if 25 with (at_builtin; refine wpList_append1 rfl _ _ 37 rfl W2.heap.size Try.underlying37 markInfo rfl (by decide) (v := .slice A5 0 c5) (by rfl) (w0 := w5) (cs := #[.int .i64 x.host, .int .i64 x.file, .int .i64 x.off]) O5.out (by rfl) rfl (by simp [Value.oneCell']) (by decide) (by omega) (by omega) ?_; intro v6 w6 hown6 hg6 hob6)
    obtain ⟨A6, c6, rfl, -, -, -, -⟩ := Rd.of_own hown6 (by decide)
    have O6 : Hid (w6.ownsRow W2.heap.size 83 3 (.slice A6 1 c6) 1 x.cells) := Lib.hid hown6
    have G6 : Hid (w.grownBy w6 none) := Lib.hid (only_trans G2.out (only_own G5.out hg6 O5.out (Nat.le_refl _)))
    have hsz6 : W2.heap.size ≤ w6.heap.size := by have := hg6.size; omega
    clear hown6 hg6 hob6 b0 b1 b2
    go_wp2_with (at_builtin; refine wpList_appendM rfl _ _ 37 rfl W2.heap.size Try.underlying37 markInfo rfl (by decide) (v := .slice A6 1 c6) (by rfl) O6.out none 0 0 (news := []) (S := fun _ => True) (by rfl) Rd.nil rfl (by simp) (by decide) (by omega) (by omega) ?_; intro A8 c8 w8 hown8 hg8)
    have O8 : Hid (w8.ownsRow W2.heap.size 83 3 (.slice A8 1 c8) 1 x.cells) := Lib.hid (by simpa using hown8)
    have G8 := Lib.hid (only_own G6.out hg8 O6.out hsz2)
    clear hown8 hg8
    obtain ⟨A9, c9, e9, hc9, hm9, -, hr9⟩ := Rd.of_own O8.out (by decide)
    injection e9 with e91 e92 e93
    subst e91 e93
    have R9 := Lib.hid hr9
    clear hr9
    go_ret
    exact ⟨A8, c8, [x], rfl, by simp, hc9, hm9, own_noneM O8.out, by simpa using R9.out.mono (fun b hb _ => Nat.le_trans hsz2 hb), G8.out⟩
  | some a =>
    have hmi : (m : Int) ≤ (ms.length : Int) := by omega
    have hmc : (m : Int) ≤ (c : Int) := by omega
    have hm0 : (0 : Int) ≤ (m : Int) := by omega
    go_upto_region 3 with (at_builtin; refine wpList_appendM rfl _ _ 37 rfl W2.heap.size Try.underlying37 markInfo rfl (by decide) (v := .slice none 0 0) (by rfl) (World.ownsRow_nil _ _ _ _) (some a) m c (news := (ms.take m).flatMap MarkD.cells) (by rfl) (by rw [flat_take MarkD.cells_len]; exact R2.out.take _) (by rw [flat_len _ 3 MarkD.cells_len, List.length_take, Nat.min_eq_left hml]) (flat_one MarkD.one _) (by decide) (by omega) (by omega) ?_; intro A5 c5 w5 hown5 hg5)
    have O5 : Hid (w5.ownsRow W2.heap.size 83 3 (.slice A5 m c5) m ((ms.take m).flatMap MarkD.cells)) := Lib.hid (by simpa using hown5)
    have G5 : Hid (W2.grownBy w5 none) := Lib.hid (by simpa [Value.ownBlock] using hg5)
    have hB5 := B2.out.grown G5.out (by simp)
    have b0 := hB5.cell 0
    have b1 := hB5.cell 1
    have b2 := hB5.cell 2
    simp [MarkD.cells] at b0 b1 b2
    have hsz5 := G5.out.size
    clear hown5 hg5 hB5
    go_upto_if 25 with (at_builtin; refine wpList_append1 rfl _ _ 37 rfl W2.heap.size Try.underlying37 markInfo rfl (by decide) (v := .slice A5 m c5) (by rfl) (w0 := w5) (cs := #[.int .i64 x.host, .int .i64 x.file, .int .i64 x.off]) O5.out (by rfl) rfl (by simp [Value.oneCell']) (by decide) (by omega) (by omega) ?_; intro v6 w6 hown6 hg6 hob6)
    obtain ⟨A6, c6, rfl, -, -, -, -⟩ := Rd.of_own hown6 (by decide)
    have O6 : Hid (w6.ownsRow W2.heap.size 83 3 (.slice A6 (m + 1) c6) (m + 1) ((ms.take m).flatMap MarkD.cells ++ x.cells)) := Lib.hid hown6
    have G26 : Hid (W2.grownBy w6 none) := Lib.hid (only_own G5.out hg6 O5.out (Nat.le_refl _))
    have G6 := Lib.hid (only_trans G2.out G26.out)
    have hsz6 : W2.heap.size ≤ w6.heap.size := G26.out.size
    have R6 := Lib.hid (R2.out.grown G26.out (by simp))
    clear hown6 hg6 hob6 b0 b1 b2
    have j4 : (ms.length : Int) ≤ (c : Int) := by omega
    cases ok with
    | true =>
      obtain ⟨kk, hkk⟩ : ∃ kk, kk = m + 1 := ⟨_, rfl⟩
      have hkl : kk ≤ ms.length := by have := HOK.out rfl; omega
      have RDN := Lib.hid (show Rd (· < w.heap.size) w6 (some (a.add (kk * 3))) ((ms.drop kk).flatMap MarkD.cells) from by rw [flat_drop MarkD.cells_len]; exact R6.out.drop _)
      have RDE := Lib.hid (fun (hck : c = kk) => (show Rd (· < w.heap.size) w6 (some a) ((ms.drop kk).flatMap MarkD.cells) from by rw [List.drop_of_length_le (by omega)]; exact Rd.nil))
      have j1 : (kk : Int) ≤ (ms.length : Int) := by omega
      have j2 : (kk : Int) ≤ (c : Int) := by omega
      have j3 : (0 : Int) ≤ (kk : Int) := by omega
      have hwm : IntKind.i64.wrap ((m : Int) + 1) = (kk : Int) := by rw [hkk]; push_cast; exact IntWalk.i64_in _ (by omega)
      have HKK := Lib.hid hkk
      clear hkk HOK
      by_cases hck : c = kk
      · subst hck
        go_wp2_with (at_builtin; refine wpList_appendM rfl _ _ 37 rfl W2.heap.size Try.underlying37 markInfo rfl (by decide) (v := .slice A6 (m + 1) c6) (by rfl) O6.out (some a) 0 0 (news := (ms.drop c).flatMap MarkD.cells) (by rfl) (RDE.out rfl) (by rw [flat_len _ 3 MarkD.cells_len, List.length_drop]; omega) (flat_one MarkD.one _) (by decide) (by omega) (by omega) ?_; intro A8 c8 w8 hown8 hg8)
        have O8 := Lib.hid hown8
        have G8 := Lib.hid (only_own G6.out hg8 O6.out hsz2)
        clear hown8 hg8
        obtain ⟨A9, c9, e9, hc9, hm9, -, hr9⟩ := Rd.of_own O8.out (by decide)
        injection e9 with e91 e92 e93
        subst e91 e93
        have R9 := Lib.hid hr9
        clear hr9
        go_ret
        have hq := HKK.out
        have hll : (ms.take m ++ x :: ms.drop c).length = m + 1 + 0 := by simp; omega
        have hlc : (ms.take m ++ x :: ms.drop c).flatMap MarkD.cells = ((ms.take m).flatMap MarkD.cells ++ x.cells) ++ (ms.drop c).flatMap MarkD.cells := by simp [List.flatMap_append]
        exact ⟨A8, c8, ms.take m ++ x :: ms.drop c, by rw [hll]; rfl, by rw [hll]; omega, by rw [hll]; exact hc9, hm9, own_noneM O8.out, by rw [hlc]; exact R9.out.mono (fun b hb _ => Nat.le_trans hsz2 hb), G8.out⟩
      · have j5 : ¬ (c = kk) := hck
        go_wp2_with (at_builtin; refine wpList_appendM rfl _ _ 37 rfl W2.heap.size Try.underlying37 markInfo rfl (by decide) (v := .slice A6 (m + 1) c6) (by rfl) O6.out (some (a.add (kk * 3))) (ms.length - kk) (c - kk) (news := (ms.drop kk).flatMap MarkD.cells) (by rfl) RDN.out (by rw [flat_len _ 3 MarkD.cells_len, List.length_drop]) (flat_one MarkD.one _) (by decide) (by omega) (by omega) ?_; intro A8 c8 w8 hown8 hg8)
        have O8 := Lib.hid hown8
        have G8 := Lib.hid (only_own G6.out hg8 O6.out hsz2)
        clear hown8 hg8
        obtain ⟨A9, c9, e9, hc9, hm9, -, hr9⟩ := Rd.of_own O8.out (by decide)
        injection e9 with e91 e92 e93
        subst e91 e93
        have R9 := Lib.hid hr9
        clear hr9
        go_ret
        have hq := HKK.out
        have hll : (ms.take m ++ x :: ms.drop kk).length = m + 1 + (ms.length - kk) := by simp; omega
        have hlc : (ms.take m ++ x :: ms.drop kk).flatMap MarkD.cells = ((ms.take m).flatMap MarkD.cells ++ x.cells) ++ (ms.drop kk).flatMap MarkD.cells := by simp [List.flatMap_append]
        exact ⟨A8, c8, ms.take m ++ x :: ms.drop kk, by rw [hll]; rfl, by rw [hll]; omega, by rw [hll]; exact hc9, hm9, own_noneM O8.out, by rw [hlc]; exact R9.out.mono (fun b hb _ => Nat.le_trans hsz2 hb), G8.out⟩
    | false =>
      obtain ⟨kk, hkk⟩ : ∃ kk, kk = m := ⟨_, rfl⟩
      have hkl : kk ≤ ms.length := by omega
      have RDN := Lib.hid (show Rd (· < w.heap.size) w6 (some (a.add (kk * 3))) ((ms.drop kk).flatMap MarkD.cells) from by rw [flat_drop MarkD.cells_len]; exact R6.out.drop _)
      have RDE := Lib.hid (fun (hck : c = kk) => (show Rd (· < w.heap.size) w6 (some a) ((ms.drop kk).flatMap MarkD.cells) from by rw [List.drop_of_length_le (by omega)]; exact Rd.nil))
      have j1 : (kk : Int) ≤ (ms.length : Int) := by omega
      have j2 : (kk : Int) ≤ (c : Int) := by omega
      have j3 : (0 : Int) ≤ (kk : Int) := by omega
      obtain rfl : m = kk := hkk.symm
      have HKK : True := trivial
      clear HOK hkk
      by_cases hck : c = m
      · obtain rfl : m = c := hck.symm
        go_wp2_with (at_builtin; refine wpList_appendM rfl _ _ 37 rfl W2.heap.size Try.underlying37 markInfo rfl (by decide) (v := .slice A6 (m + 1) c6) (by rfl) O6.out (some a) 0 0 (news := (ms.drop m).flatMap MarkD.cells) (by rfl) (RDE.out rfl) (by rw [flat_len _ 3 MarkD.cells_len, List.length_drop]; omega) (flat_one MarkD.one _) (by decide) (by omega) (by omega) ?_; intro A8 c8 w8 hown8 hg8)
        have O8 := Lib.hid hown8
        have G8 := Lib.hid (only_own G6.out hg8 O6.out hsz2)
        clear hown8 hg8
        obtain ⟨A9, c9, e9, hc9, hm9, -, hr9⟩ := Rd.of_own O8.out (by decide)
        injection e9 with e91 e92 e93
        subst e91 e93
        have R9 := Lib.hid hr9
        clear hr9
        go_ret
        have hq := hml
        have hll : (ms.take m ++ x :: ms.drop m).length = m + 1 + 0 := by simp; omega
        have hlc : (ms.take m ++ x :: ms.drop m).flatMap MarkD.cells = ((ms.take m).flatMap MarkD.cells ++ x.cells) ++ (ms.drop m).flatMap MarkD.cells := by simp [List.flatMap_append]
        exact ⟨A8, c8, ms.take m ++ x :: ms.drop m, by rw [hll]; rfl, by rw [hll]; omega, by rw [hll]; exact hc9, hm9, own_noneM O8.out, by rw [hlc]; exact R9.out.mono (fun b hb _ => Nat.le_trans hsz2 hb), G8.out⟩
      · have j5 : ¬ (c = m) := hck
        go_wp2_with (at_builtin; refine wpList_appendM rfl _ _ 37 rfl W2.heap.size Try.underlying37 markInfo rfl (by decide) (v := .slice A6 (m + 1) c6) (by rfl) O6.out (some (a.add (m * 3))) (ms.length - m) (c - m) (news := (ms.drop m).flatMap MarkD.cells) (by rfl) RDN.out (by rw [flat_len _ 3 MarkD.cells_len, List.length_drop]) (flat_one MarkD.one _) (by decide) (by omega) (by omega) ?_; intro A8 c8 w8 hown8 hg8)
        have O8 := Lib.hid hown8
        have G8 := Lib.hid (only_own G6.out hg8 O6.out hsz2)
        clear hown8 hg8
        obtain ⟨A9, c9, e9, hc9, hm9, -, hr9⟩ := Rd.of_own O8.out (by decide)
        injection e9 with e91 e92 e93
        subst e91 e93
        have R9 := Lib.hid hr9
        clear hr9
        go_ret
        have hq := hml
        have hll : (ms.take m ++ x :: ms.drop m).length = m + 1 + (ms.length - m) := by simp; omega
        have hlc : (ms.take m ++ x :: ms.drop m).flatMap MarkD.cells = ((ms.take m).flatMap MarkD.cells ++ x.cells) ++ (ms.drop m).flatMap MarkD.cells := by simp [List.flatMap_append]
        exact ⟨A8, c8, ms.take m ++ x :: ms.drop m, by rw [hll]; rfl, by rw [hll]; omega, by rw [hll]; exact hc9, hm9, own_noneM O8.out, by rw [hlc]; exact R9.out.mono (fun b hb _ => Nat.le_trans hsz2 hb), G8.out⟩
end Go.Proofs.Ytiogpomgpknjlaa

namespace Go.Proofs.Ytiogpomgpknjlaa
open Go.RowKit
set_option linter.unusedVariables false
set_option linter.unusedSimpArgs false

theorem only_set11 {a w : World} {b : Nat} (h : a.grownBy w (some b)) (v0 v1 v2 v3 v4 v5 v6 v7 v8 v9 v10 : Value) : a.grownBy (((((((((((w.setCell ⟨b, 0, none⟩ (v0)).setCell ⟨b, 1, none⟩ (v1)).setCell ⟨b, 2, none⟩ (v2)).setCell ⟨b, 3, none⟩ (v3)).setCell ⟨b, 4, none⟩ (v4)).setCell ⟨b, 5, none⟩ (v5)).setCell ⟨b, 6, none⟩ (v6)).setCell ⟨b, 7, none⟩ (v7)).setCell ⟨b, 8, none⟩ (v8)).setCell ⟨b, 9, none⟩ (v9)).setCell ⟨b, 10, none⟩ (v10)) (some b) := by
  have s : ∀ {w : World} (i : Nat) (v : Value), a.grownBy w (some b) → a.grownBy (w.setCell ⟨b, i, none⟩ v) (some b) := fun i v h => only_setCell h (p := ⟨b, i, none⟩) (.inl rfl) v
  exact s 10 _ (s 9 _ (s 8 _ (s 7 _ (s 6 _ (s 5 _ (s 4 _ (s 3 _ (s 2 _ (s 1 _ (s 0 _ h))))))))))
theorem LineD.one (x : LineD) : ∀ u ∈ x.cells, u.oneCell' = true := by simp [LineD.cells, Value.oneCell']
theorem chain_drop : ∀ {ls : List LineD} {a b : Int} {k : Nat} {z : LineD}, Chain a ls b → ls[k]? = some z → Chain z.off (ls.drop k) b ∧ a ≤ z.off
  | [], _, _, _, _, _, hz => by simp at hz
  | y :: ys, a, b, 0, z, h, hz => by
    simp at hz
    subst hz
    obtain ⟨h1, h2, h3, h4⟩ := h
    exact ⟨⟨rfl, h2, h3, by rw [h1]; exact h4⟩, by omega⟩
  | y :: ys, a, b, k + 1, z, h, hz => by
    obtain ⟨h1, h2, h3, h4⟩ := h
    obtain ⟨h5, h6⟩ := chain_drop h4 (k := k) (by simpa using hz)
    exact ⟨h5, by omega⟩
def It.cut (x : It) (off : Int) (k : Nat) (A5 : Option Addr) (c5 : Nat) : It := { x with ev := { x.ev with beg := off, lines := x.ev.lines.drop k, la := A5, lc := c5 } }
theorem ItG.cut {host : Int} {x : It} (h : ItG host x) {k : Nat} {z : LineD} (hz : x.ev.lines[k]? = some z) (A5 : Option Addr) (c5 : Nat) : ItG host (x.cut z.off k A5 c5) := by
  obtain ⟨hk, -⟩ := List.getElem?_eq_some_iff.1 hz
  obtain ⟨hc, ha⟩ := chain_drop h.pl.ch hz
  have hle := hc.le
  have hlen : (x.ev.lines.drop k).length = x.ev.lines.length - k := List.length_drop
  have hpl : EvPl (x.cut z.off k A5 c5).ev := by
    refine ⟨h.pl.h0, h.pl.h1, h.pl.f0, h.pl.f1, ?_, ?_, h.pl.f2, ?_, ?_, hc⟩
    · show 0 ≤ z.off; have := h.pl.b0; omega
    · show z.off < x.ev.fin; omega
    · show 1 ≤ (x.ev.lines.drop k).length; omega
    · show (x.ev.lines.drop k).length ≤ 40; have := h.pl.l1; omega
  refine ⟨h.ho, hpl, ?_, ?_⟩
  · show (x.ev.lines.drop k).length ≤ 6; have := h.l6; omega
  · rcases h.kind with ⟨h1, h2⟩ | ⟨h1, h2, h3, h4, h5, h6, h7, h8⟩
    · exact .inl ⟨h1, { h2 with b0 := hpl.b0, bf := hpl.bf, l0 := hpl.l0, l1 := hpl.l1, ch := hpl.ch }⟩
    · exact .inr ⟨h1, h2, h3, h4, h5, h6, h7, fun y hy => h8 y (List.mem_of_mem_drop hy)⟩
def CutP (S : Nat → Prop) (host : Int) (x : It) (w : World) (e : Ending) (w' : World) : Prop :=
  w.grownBy w' none ∧ ((∃ x' : It, e = .returned (.tuple #[.agg x'.cells.toArray, .bool true]) ∧ x'.rule = x.rule ∧ ItG host x' ∧ x'.ev.lines.length < x.ev.lines.length ∧ x'.ev.Sub S w') ∨ e = .returned (.tuple #[.agg #[.string ⟨#[]⟩, .int .i64 0, .int .i64 0, .int .i64 0, .int .i64 0, .slice none 0 0, .int .i64 0, .int .i64 0, .string ⟨#[]⟩, .string ⟨#[]⟩, .slice none 0 0], .bool false]))
set_option maxHeartbeats 4000000 in
set_option maxRecDepth 100000 in
theorem cut28_any {S : Nat → Prop} (host off : Int) (x : It) (w : World) (h : ItG host x) (hs : x.ev.Sub S w) (hS : ∀ b, w.heap.size ≤ b → S b) : Calls Try.prog 55 #[.agg x.cells.toArray, .int .i64 off] w (CutP S host x w) := by
  rw [itAgg]
  obtain ⟨xb, hxb⟩ : ∃ b, b = w.heap.size := ⟨_, rfl⟩
  obtain ⟨rb, hrb⟩ : ∃ b, b = w.heap.size + 1 := ⟨_, rfl⟩
  obtain ⟨W1, hW1⟩ : ∃ W, W = (w.alloc (.cells #[.string x.rule, .int .i64 x.ev.host, .int .i64 x.ev.file, .int .i64 x.ev.beg, .int .i64 x.ev.fin, .slice x.ev.la x.ev.lines.length x.ev.lc, .int .i64 x.ev.time, .int .i64 x.ev.weight, .string x.ev.trace, .string x.ev.stream, .slice x.ev.fa x.ev.fields.length x.ev.fc] 77)).alloc (.cells #[.string ⟨#[]⟩, .int .i64 0, .int .i64 0, .int .i64 0, .int .i64 0, .slice none 0 0, .int .i64 0, .int .i64 0, .string ⟨#[]⟩, .string ⟨#[]⟩, .slice none 0 0] 77) := ⟨_, rfl⟩
  have G1 : Hid (w.grownBy W1 none) := Lib.hid (by rw [hW1]; exact only_alloc (only_alloc (only_refl _ _) _) _)
  have B1 : Hid (Blk W1 xb 77 #[.string x.rule, .int .i64 x.ev.host, .int .i64 x.ev.file, .int .i64 x.ev.beg, .int .i64 x.ev.fin, .slice x.ev.la x.ev.lines.length x.ev.lc, .int .i64 x.ev.time, .int .i64 x.ev.weight, .string x.ev.trace, .string x.ev.stream, .slice x.ev.fa x.ev.fields.length x.ev.fc]) := Lib.hid (by rw [hW1, hxb]; exact (Blk.new w _ _).alloc _)
  have R1 : Hid (Blk W1 rb 77 zeroIt) := Lib.hid (by rw [hW1, hrb]; have := Blk.new (w.alloc (.cells #[.string x.rule, .int .i64 x.ev.host, .int .i64 x.ev.file, .int .i64 x.ev.beg, .int .i64 x.ev.fin, .slice x.ev.la x.ev.lines.length x.ev.lc, .int .i64 x.ev.time, .int .i64 x.ev.weight, .string x.ev.trace, .string x.ev.stream, .slice x.ev.fa x.ev.fields.length x.ev.fc] 77)) 77 #[.string ⟨#[]⟩, .int .i64 0, .int .i64 0, .int .i64 0, .int .i64 0, .slice none 0 0, .int .i64 0, .int .i64 0, .string ⟨#[]⟩, .string ⟨#[]⟩, .slice none 0 0]; unfold zeroIt; simpa using this)
  have HL := Lib.hid ((hs.1.mono (S' := (· < w.heap.size)) (fun b _ hlt => hlt)).grown G1.out (by simp))
  have HS := Lib.hid hs
  have HG := Lib.hid h
  have HSS := Lib.hid hS
  have hlc := hs.2.2.1
  have hlm := hs.2.2.2.1
  have h6 := h.l6
  have hxr : xb ≠ rb := by omega
  have hrx : rb ≠ xb := by omega
  have hwx : w.heap.size ≤ xb := by omega
  have hwr : w.heap.size ≤ rb := by omega
  unfold maxLen at hlm
  have b0 := B1.out.cell 0; have b1 := B1.out.cell 1; have b2 := B1.out.cell 2; have b3 := B1.out.cell 3; have b4 := B1.out.cell 4; have b5 := B1.out.cell 5; have b6 := B1.out.cell 6; have b7 := B1.out.cell 7; have b8 := B1.out.cell 8; have b9 := B1.out.cell 9; have b10 := B1.out.cell 10; simp at b0 b1 b2 b3 b4 b5 b6 b7 b8 b9 b10
  have HW := Lib.hid hW1.symm
  have HXB := Lib.hid hxb
  have HRB := Lib.hid hrb
  have hl1 : rb < W1.heap.size := R1.out.lt
  clear hW1 hxb hrb h hs hS
  go_enter Try.func55, Try.ntmps55
  go_upto_region 1 with fail
  rw [HW.out, ← HRB.out, ← HXB.out]
  clear HW
  go_wp2_with fail
  clear b0 b1 b2 b3 b4 b5 b6 b7 b8 b9 b10
  go_loopw [7] (fun vi wr => ∃ k : Nat, vi = .int .i64 k ∧ 1 ≤ k ∧ k ≤ x.ev.lines.length ∧ wr = W1) (fun vi _ => x.ev.lines.length - (intOf vi).toNat)
  case atStart => exact ⟨1, rfl, Nat.le_refl _, HG.out.pl.l0, (by first | rfl | trivial)⟩
  case round =>
    obtain ⟨k, rfl, hk1, hk, rfl⟩ := hrel
    by_cases hlt : k < x.ev.lines.length
    · obtain ⟨z, hz⟩ : ∃ z, x.ev.lines[k]? = some z := ⟨_, List.getElem?_eq_getElem hlt⟩
      obtain ⟨b, o, hla, hbl, -, -⟩ := HL.out (by rw [flat_len _ 3 LineD.cells_len]; omega)
      have hln := HL.out
      rw [hla] at hln ⊢
      have d0 : wr.cell? ⟨b, o + k * 3, none⟩ = some (.int .i64 z.off) := hln.flatAt LineD.cells_len hz 0 (by omega)
      have j1 : (k : Int) < (x.ev.lines.length : Int) := by omega
      have j2 : (0 : Int) ≤ (k : Int) := by omega
      have HZ := Lib.hid hz
      have HLA := Lib.hid hla
      have hadd : (⟨b, o, none⟩ : Addr).add (k * 3) = ⟨b, o + k * 3, none⟩ := by unfold Addr.add; rw [if_neg (by omega)]
      have RDN := Lib.hid (show Rd (· < w.heap.size) wr (some ⟨b, o + k * 3, none⟩) ((x.ev.lines.drop k).flatMap LineD.cells) from by rw [flat_drop LineD.cells_len, ← hadd]; exact hln.drop _)
      clear hadd
      clear hz hla hln
      by_cases he : z.off = off
      · have e1 : (z.off == off) = true := by simp [he]
        have HE := Lib.hid he
        have j3 : (k : Int) ≤ (x.ev.lines.length : Int) := by omega
        have j4 : (x.ev.lines.length : Int) ≤ (x.ev.lc : Int) := by omega
        have j5 : (k : Int) ≤ (x.ev.lc : Int) := by omega
        have j6 : ¬ (x.ev.lc = k) := by omega
        clear he
        go_upto_region 6 with fail
        clear d0
        have hB := B1.out
        rw [HLA.out] at hB
        have b0 := hB.cell 0; have b1 := hB.cell 1; have b2 := hB.cell 2; have b3 := hB.cell 3; have b4 := hB.cell 4; have b5 := hB.cell 5; have b6 := hB.cell 6; have b7 := hB.cell 7; have b8 := hB.cell 8; have b9 := hB.cell 9; have b10 := hB.cell 10; simp at b0 b1 b2 b3 b4 b5 b6 b7 b8 b9 b10; have f0 := hB.frozen 0; have f1 := hB.frozen 1; have f2 := hB.frozen 2; have f3 := hB.frozen 3; have f4 := hB.frozen 4; have f5 := hB.frozen 5; have f6 := hB.frozen 6; have f7 := hB.frozen 7; have f8 := hB.frozen 8; have f9 := hB.frozen 9; have f10 := hB.frozen 10
        clear hB
        go_upto_region 7 with (at_builtin; go_must (refine wpList_appendM rfl _ _ 72 rfl wr.heap.size Try.underlying72 lineInfo rfl (by decide) (v := .slice none 0 0) (by rfl) (World.ownsRow_nil _ _ _ _) (some ⟨b, o + k * 3, none⟩) (x.ev.lines.length - k) (x.ev.lc - k) (news := (x.ev.lines.drop k).flatMap LineD.cells) (by rfl) RDN.out (by rw [flat_len _ 3 LineD.cells_len, List.length_drop]) (flat_one LineD.one _) (by decide) (by omega) (by omega) ?_); intro A5 c5 w5 hown5 hg5; have hB5 := B1.out.grown hg5 (by simp [Value.ownBlock]); have p0 := hB5.frozen 0; have p1 := hB5.frozen 1; have p2 := hB5.frozen 2; have p3 := hB5.frozen 3; have p4 := hB5.frozen 4; have p5 := hB5.frozen 5; have p6 := hB5.frozen 6; have p7 := hB5.frozen 7; have p8 := hB5.frozen 8; have p9 := hB5.frozen 9; have p10 := hB5.frozen 10; have q0 := hB5.cell 0; have q1 := hB5.cell 1; have q2 := hB5.cell 2; have q3 := hB5.cell 3; have q4 := hB5.cell 4; have q5 := hB5.cell 5; have q6 := hB5.cell 6; have q7 := hB5.cell 7; have q8 := hB5.cell 8; have q9 := hB5.cell 9; have q10 := hB5.cell 10; simp at q0 q1 q2 q3 q4 q5 q6 q7 q8 q9 q10)
        have O5 : Hid (w5.ownsRow wr.heap.size 122 3 (.slice A5 (x.ev.lines.length - k) c5) (x.ev.lines.length - k) ((x.ev.lines.drop k).flatMap LineD.cells)) := Lib.hid (by simpa using hown5)
        have G5 : Hid (wr.grownBy w5 none) := Lib.hid (by simpa [Value.ownBlock] using hg5)
        obtain ⟨W7, hW7⟩ : ∃ W, W = (w5.setCell ⟨xb, 3, none⟩ (.int .i64 off)).setCell ⟨xb, 5, none⟩ (.slice A5 (x.ev.lines.length - k) c5) := ⟨_, rfl⟩
        have g7 : w5.grownBy W7 (some xb) := by rw [hW7]; exact only_setCell (only_setCell (only_refl _ _) (p := ⟨xb, 3, none⟩) (.inl rfl) _) (p := ⟨xb, 5, none⟩) (.inl rfl) _
        have B7 : Blk W7 xb 77 #[.string x.rule, .int .i64 x.ev.host, .int .i64 x.ev.file, .int .i64 off, .int .i64 x.ev.fin, .slice A5 (x.ev.lines.length - k) c5, .int .i64 x.ev.time, .int .i64 x.ev.weight, .string x.ev.trace, .string x.ev.stream, .slice x.ev.fa x.ev.fields.length x.ev.fc] := by
          have h0 := hB5
          rw [← HLA.out] at *
          rw [hW7]; simpa using (h0.set_ 3 (.int .i64 off)).set_ 5 (.slice A5 (x.ev.lines.length - k) c5)
        have R7 := (R1.out.grown G5.out (by simp)).grown g7 (fun e => hrx (by injection e))
        have O7 := Lib.hid (O5.out.kept g7 (.inr (blk_norow hB5 O5.out (by decide))))
        have G7 := Lib.hid (only_fresh (only_trans G1.out G5.out) g7 hwx)
        have hs15 := G5.out.size
        have hw1 := G1.out.size
        obtain ⟨A9, c9, e9, hc9, hm9, -, hr9⟩ := Rd.of_own O7.out (by decide)
        injection e9 with e91 e92 e93
        subst e91 e93
        have hlen : (x.ev.lines.drop k).length = x.ev.lines.length - k := List.length_drop
        have HF : Hid (∀ W, W7.grownBy W (some rb) → CutP S host x w (.returned (.tuple #[.agg #[.string x.rule, .int .i64 x.ev.host, .int .i64 x.ev.file, .int .i64 off, .int .i64 x.ev.fin, .slice A5 (x.ev.lines.length - k) c5, .int .i64 x.ev.time, .int .i64 x.ev.weight, .string x.ev.trace, .string x.ev.stream, .slice x.ev.fa x.ev.fields.length x.ev.fc], .bool true])) W) := Lib.hid (fun W hW => by
          have hgW : w.grownBy W none := only_fresh G7.out hW hwr
          refine ⟨hgW, .inl ⟨x.cut z.off k A5 c5, ?_, rfl, HG.out.cut HZ.out A5 c5, ?_, ?_⟩⟩
          · rw [itAgg, HE.out]; unfold It.cut; simp only [hlen]
          · show (x.ev.lines.drop k).length < x.ev.lines.length; omega
          · refine ⟨(hr9.mono (S' := fun b => S b ∧ b ≠ rb) (fun b hb _ => ⟨HSS.out b (Nat.le_trans hw1 hb), fun e => by have h0 : wr.heap.size ≤ b := hb; omega⟩)).grown hW (fun b hb e => hb.2 (by injection e)) |>.mono (fun b hb _ => hb.1), ?_, ?_, hm9, HS.out.2.2.2.2.1, HS.out.2.2.2.2.2⟩
            · exact ((HS.out.2.1.mono (S' := fun b => S b ∧ b < w.heap.size) (fun b hb hlt => ⟨hb, hlt⟩)).grown hgW (by simp)).mono (fun b hb _ => hb.1)
            · show (x.ev.lines.drop k).length ≤ c5; omega)
        have HB7 := Lib.hid B7
        have HR7 := Lib.hid R7
        rw [← hW7]
        clear b0 b1 b2 b3 b4 b5 b6 b7 b8 b9 b10 f0 f1 f2 f3 f4 f5 f6 f7 f8 f9 f10 p0 p1 p2 p3 p4 p5 p6 p7 p8 p9 p10 q0 q1 q2 q3 q4 q5 q6 q7 q8 q9 q10 hW7 g7 B7 R7 hr9 hB5 hown5 hg5 hs15
        have hB := HB7.out
        have hR := HR7.out
        have b0 := hB.cell 0; have b1 := hB.cell 1; have b2 := hB.cell 2; have b3 := hB.cell 3; have b4 := hB.cell 4; have b5 := hB.cell 5; have b6 := hB.cell 6; have b7 := hB.cell 7; have b8 := hB.cell 8; have b9 := hB.cell 9; have b10 := hB.cell 10; simp at b0 b1 b2 b3 b4 b5 b6 b7 b8 b9 b10
        have q0 := hR.cell 0; have q1 := hR.cell 1; have q2 := hR.cell 2; have q3 := hR.cell 3; have q4 := hR.cell 4; have q5 := hR.cell 5; have q6 := hR.cell 6; have q7 := hR.cell 7; have q8 := hR.cell 8; have q9 := hR.cell 9; have q10 := hR.cell 10; simp [zeroIt] at q0 q1 q2 q3 q4 q5 q6 q7 q8 q9 q10; have p0 := hR.frozen 0; have p1 := hR.frozen 1; have p2 := hR.frozen 2; have p3 := hR.frozen 3; have p4 := hR.frozen 4; have p5 := hR.frozen 5; have p6 := hR.frozen 6; have p7 := hR.frozen 7; have p8 := hR.frozen 8; have p9 := hR.frozen 9; have p10 := hR.frozen 10
        clear hB hR
        obtain ⟨W9, hW9⟩ : ∃ W, W = ((((((((((W7.setCell ⟨rb, 0, none⟩ (.string x.rule)).setCell ⟨rb, 1, none⟩ (.int .i64 x.ev.host)).setCell ⟨rb, 2, none⟩ (.int .i64 x.ev.file)).setCell ⟨rb, 3, none⟩ (.int .i64 off)).setCell ⟨rb, 4, none⟩ (.int .i64 x.ev.fin)).setCell ⟨rb, 5, none⟩ (.slice A5 (x.ev.lines.length - k) c5)).setCell ⟨rb, 6, none⟩ (.int .i64 x.ev.time)).setCell ⟨rb, 7, none⟩ (.int .i64 x.ev.weight)).setCell ⟨rb, 8, none⟩ (.string x.ev.trace)).setCell ⟨rb, 9, none⟩ (.string x.ev.stream)).setCell ⟨rb, 10, none⟩ (.slice x.ev.fa x.ev.fields.length x.ev.fc) := ⟨_, rfl⟩
        have P9 : Blk W9 rb 77 #[.string x.rule, .int .i64 x.ev.host, .int .i64 x.ev.file, .int .i64 off, .int .i64 x.ev.fin, .slice A5 (x.ev.lines.length - k) c5, .int .i64 x.ev.time, .int .i64 x.ev.weight, .string x.ev.trace, .string x.ev.stream, .slice x.ev.fa x.ev.fields.length x.ev.fc] := by rw [hW9]; exact HR7.out.set11 (.string x.rule) (.int .i64 x.ev.host) (.int .i64 x.ev.file) (.int .i64 off) (.int .i64 x.ev.fin) (.slice A5 (x.ev.lines.length - k) c5) (.int .i64 x.ev.time) (.int .i64 x.ev.weight) (.string x.ev.trace) (.string x.ev.stream) (.slice x.ev.fa x.ev.fields.length x.ev.fc)
        have g9 : W7.grownBy W9 (some rb) := by rw [hW9]; exact only_set11 (only_refl _ _) (.string x.rule) (.int .i64 x.ev.host) (.int .i64 x.ev.file) (.int .i64 off) (.int .i64 x.ev.fin) (.slice A5 (x.ev.lines.length - k) c5) (.int .i64 x.ev.time) (.int .i64 x.ev.weight) (.string x.ev.trace) (.string x.ev.stream) (.slice x.ev.fa x.ev.fields.length x.ev.fc)
        have D := Lib.hid (And.intro P9 g9)
        have HW9 := Lib.hid hW9.symm
        clear P9 g9 hW9
        go_wp2_with fail
        rw [HW9.out]
        obtain ⟨P9, g9⟩ := D.out
        have d0 := P9.cell 0; have d1 := P9.cell 1; have d2 := P9.cell 2; have d3 := P9.cell 3; have d4 := P9.cell 4; have d5 := P9.cell 5; have d6 := P9.cell 6; have d7 := P9.cell 7; have d8 := P9.cell 8; have d9 := P9.cell 9; have d10 := P9.cell 10; simp at d0 d1 d2 d3 d4 d5 d6 d7 d8 d9 d10
        exact bodyPost_ret (v := .tuple #[.agg #[.string x.rule, .int .i64 x.ev.host, .int .i64 x.ev.file, .int .i64 off, .int .i64 x.ev.fin, .slice A5 (x.ev.lines.length - k) c5, .int .i64 x.ev.time, .int .i64 x.ev.weight, .string x.ev.trace, .string x.ev.stream, .slice x.ev.fa x.ev.fields.length x.ev.fc], .bool true]) (by simp [results, Try.results55, go_sem, d0, d1, d2, d3, d4, d5, d6, d7, d8, d9, d10]) rfl (HF.out W9 g9)
      · have e1 : (z.off == off) = false := by simp [he]
        clear he
        go_wp2_with fail
        go_roundw
        case rel => exact ⟨k + 1, by go_num, by omega, by omega, (by first | rfl | trivial)⟩
        case measure => simp [intOf]; omega
    · have j1 : ¬ ((k : Int) < (x.ev.lines.length : Int)) := by omega
      go_upto_region 8 with fail
      have hR := R1.out
      obtain ⟨W9, hW9⟩ : ∃ W, W = ((((((((((wr.setCell ⟨rb, 0, none⟩ (.string ⟨#[]⟩)).setCell ⟨rb, 1, none⟩ (.int .i64 0)).setCell ⟨rb, 2, none⟩ (.int .i64 0)).setCell ⟨rb, 3, none⟩ (.int .i64 0)).setCell ⟨rb, 4, none⟩ (.int .i64 0)).setCell ⟨rb, 5, none⟩ (.slice none 0 0)).setCell ⟨rb, 6, none⟩ (.int .i64 0)).setCell ⟨rb, 7, none⟩ (.int .i64 0)).setCell ⟨rb, 8, none⟩ (.string ⟨#[]⟩)).setCell ⟨rb, 9, none⟩ (.string ⟨#[]⟩)).setCell ⟨rb, 10, none⟩ (.slice none 0 0) := ⟨_, rfl⟩
      have P9 : Blk W9 rb 77 #[.string ⟨#[]⟩, .int .i64 0, .int .i64 0, .int .i64 0, .int .i64 0, .slice none 0 0, .int .i64 0, .int .i64 0, .string ⟨#[]⟩, .string ⟨#[]⟩, .slice none 0 0] := by rw [hW9]; exact R1.out.set11 (.string ⟨#[]⟩) (.int .i64 0) (.int .i64 0) (.int .i64 0) (.int .i64 0) (.slice none 0 0) (.int .i64 0) (.int .i64 0) (.string ⟨#[]⟩) (.string ⟨#[]⟩) (.slice none 0 0)
      have g9 : wr.grownBy W9 (some rb) := by rw [hW9]; exact only_set11 (only_refl _ _) (.string ⟨#[]⟩) (.int .i64 0) (.int .i64 0) (.int .i64 0) (.int .i64 0) (.slice none 0 0) (.int .i64 0) (.int .i64 0) (.string ⟨#[]⟩) (.string ⟨#[]⟩) (.slice none 0 0)
      have q0 := hR.cell 0; have q1 := hR.cell 1; have q2 := hR.cell 2; have q3 := hR.cell 3; have q4 := hR.cell 4; have q5 := hR.cell 5; have q6 := hR.cell 6; have q7 := hR.cell 7; have q8 := hR.cell 8; have q9 := hR.cell 9; have q10 := hR.cell 10; simp [zeroIt] at q0 q1 q2 q3 q4 q5 q6 q7 q8 q9 q10; have p0 := hR.frozen 0; have p1 := hR.frozen 1; have p2 := hR.frozen 2; have p3 := hR.frozen 3; have p4 := hR.frozen 4; have p5 := hR.frozen 5; have p6 := hR.frozen 6; have p7 := hR.frozen 7; have p8 := hR.frozen 8; have p9 := hR.frozen 9; have p10 := hR.frozen 10
      have D := Lib.hid (And.intro P9 (only_fresh G1.out g9 hwr))
      have HW9 := Lib.hid hW9.symm
      clear hR P9 g9 hW9
      go_wp2_with fail
      rw [HW9.out]
      obtain ⟨P9, g9⟩ := D.out
      have d0 := P9.cell 0; have d1 := P9.cell 1; have d2 := P9.cell 2; have d3 := P9.cell 3; have d4 := P9.cell 4; have d5 := P9.cell 5; have d6 := P9.cell 6; have d7 := P9.cell 7; have d8 := P9.cell 8; have d9 := P9.cell 9; have d10 := P9.cell 10; simp at d0 d1 d2 d3 d4 d5 d6 d7 d8 d9 d10
      exact bodyPost_ret (v := .tuple #[.agg #[.string ⟨#[]⟩, .int .i64 0, .int .i64 0, .int .i64 0, .int .i64 0, .slice none 0 0, .int .i64 0, .int .i64 0, .string ⟨#[]⟩, .string ⟨#[]⟩, .slice none 0 0], .bool false]) (by simp [results, Try.results55, go_sem, d0, d1, d2, d3, d4, d5, d6, d7, d8, d9, d10]) rfl ⟨g9, .inr rfl⟩
end Go.Proofs.Ytiogpomgpknjlaa

namespace Go.Proofs.Ytiogpomgpknjlaa
open Go.RowKit
set_option linter.unusedVariables false
set_option linter.unusedSimpArgs false

theorem sumP_mrg (p : ByteArray → Bool) (h : Int) (us vs : List Tal) : sumP p h (mrg us vs) = sumP p h us + sumP p h vs := by
  fun_induction mrg us vs with
  | case1 vs => simp [sumP]
  | case2 a us => simp [sumP]
  | case3 a us b vs h1 ih =>
    have e : sumP p h (a :: us) = (if a.host = h ∧ p a.rule = true then a.lines else 0) + sumP p h us := rfl
    rw [sumP, ih, e]; omega
  | case4 a us b vs h1 h2 ih =>
    have e : sumP p h (b :: vs) = (if b.host = h ∧ p b.rule = true then b.lines else 0) + sumP p h vs := rfl
    rw [sumP, ih, e]; omega
  | case5 a us b vs h1 h2 ih =>
    have e := kl_tri h1 h2
    rw [sumP, ih]
    simp only [sumP, e.1, e.2]
    split <;> omega
theorem mrg_ne (us : List Tal) (x : Tal) : mrg us [x] ≠ [] := by
  cases us with
  | nil => simp [mrg]
  | cons a us => rw [mrg]; split <;> (try split) <;> simp
/-- the lines of a host's events -/
def cntE (h : Int) : List Ev → Int
  | [] => 0
  | e :: l => (if e.host = h then (e.lines.length : Int) else 0) + cntE h l
theorem cntE_app (h : Int) (a b : List Ev) : cntE h (a ++ b) = cntE h a + cntE h b := by
  induction a with
  | nil => simp [cntE]
  | cons x a ih => rw [List.cons_append, cntE, ih, cntE]; omega
theorem cntE_lin (h : Int) (es : List Ev) : sumT h (linT es) = cntE h es := by
  have key : ∀ k, k ≤ es.length → sumT h (linT (es.take k)) = cntE h (es.take k) := by
    intro k
    induction k with
    | zero => intro _; simp [linT, sumT, cntE]
    | succ k ih =>
      intro hk
      have hk' : k < es.length := by omega
      rw [List.take_succ_eq_append_getElem hk', linT_snoc, sumT_mrg, ih (by omega), cntE_app]
      by_cases he : (es[k]).host = h <;> simp [sumT, cntE, evT, he]
  simpa using key es.length (Nat.le_refl _)
theorem cntE_nn (h : Int) (es : List Ev) : 0 ≤ cntE h es := by
  induction es with
  | nil => simp [cntE]
  | cons x a ih => rw [cntE]; split <;> omega
theorem p2_pos {s : ByteArray} (h : 1 ≤ s.size) : p2 s = false := by
  obtain ⟨d⟩ := s
  have : 1 ≤ d.size := h
  unfold p2
  cases hd : (ByteArray.mk d).toList with
  | nil =>
    have e : (ByteArray.mk d).toList = d.toList := ByteArray.toList_eq _
    rw [hd] at e
    have := congrArg List.length e
    simp at this
    omega
  | cons => rfl
theorem p2_nil : p2 ⟨#[]⟩ = true := by decide +kernel
/-- an intake -/
structure Ink (S : Nat → Prop) (w : World) (n m T : Nat) (A : Option Addr) (ms : List MarkD) (c : Nat) (B : Option Addr) (ts : List Tal) (d : Nat) : Prop where
  rm : Rd S w A (ms.flatMap MarkD.cells)
  lm : ms.length ≤ n
  cm : ms.length ≤ c
  mm : c ≤ maxLen
  zm : A = none → c = 0
  rt : Rd S w B (ts.flatMap Tal.cells)
  lt : ts.length ≤ m
  ct : ts.length ≤ d
  mt : d ≤ maxLen
  zt : ts = [] → B = none ∧ d = 0
  st : TSrt ts
  it : TIn T ts
theorem Ink.grown {S : Nat → Prop} {w w' : World} {n m T : Nat} {A : Option Addr} {ms : List MarkD} {c : Nat} {B : Option Addr} {ts : List Tal} {d : Nat} {row : Option Nat} (h : Ink S w n m T A ms c B ts d) (hg : w.grownBy w' row) (hr : ∀ b, S b → some b ≠ row) : Ink S w' n m T A ms c B ts d :=
  { h with rm := h.rm.grown hg hr, rt := h.rt.grown hg hr }
theorem Ink.mono {S S' : Nat → Prop} {w : World} {n m T : Nat} {A : Option Addr} {ms : List MarkD} {c : Nat} {B : Option Addr} {ts : List Tal} {d : Nat} (h : Ink S w n m T A ms c B ts d) (hS : ∀ b, S b → b < w.heap.size → S' b) : Ink S' w n m T A ms c B ts d :=
  { h with rm := h.rm.mono hS, rt := h.rt.mono hS }
theorem Ink.wide {S : Nat → Prop} {w : World} {n m T n' m' T' : Nat} {A : Option Addr} {ms : List MarkD} {c : Nat} {B : Option Addr} {ts : List Tal} {d : Nat} (h : Ink S w n m T A ms c B ts d) (h1 : n ≤ n') (h2 : m ≤ m') (h3 : T ≤ T') : Ink S w n' m' T' A ms c B ts d :=
  { h with lm := Nat.le_trans h.lm h1, lt := Nat.le_trans h.lt h2, it := fun t ht => by have := h.it t ht; omega }
/-- Add at any tallies -/
theorem add28_any {S : Nat → Prop} {n m T : Nat} {A : Option Addr} {ms : List MarkD} {c : Nat} {B : Option Addr} {ts : List Tal} {d : Nat} {w : World} (h : Ink S w n m T A ms c B ts d) (x : Tal) (hx : 1 ≤ x.lines ∧ x.lines ≤ 6) (hm : m ≤ 1000) (hT : T ≤ 100000) :
    Calls Try.prog 31 #[.slice B ts.length d, .int .i64 x.host, .string x.rule, .int .i64 x.lines] w (TalsPost w (mrg ts [x])) := by
  cases ts with
  | nil =>
    obtain ⟨rfl, rfl⟩ := h.zt rfl
    have := add_nil x w (by omega)
    simpa [mrg] using this
  | cons t l =>
    have hlt := h.lt
    exact add_any B (t :: l) d x w h.rt (by omega) (by simp) h.ct h.mt (by omega) (fun u hu => by have := h.it u hu; omega)
/-- the intake with its tallies put anew -/
theorem Ink.tal {S : Nat → Prop} {n m T : Nat} {A : Option Addr} {ms : List MarkD} {c : Nat} {B : Option Addr} {ts : List Tal} {d : Nat} {w : World} (h : Ink S w n m T A ms c B ts d) (x : Tal) (hx : 1 ≤ x.lines ∧ x.lines ≤ 6) {B' : Option Addr} {d' : Nat} (hd : (mrg ts [x]).length ≤ d') (hdm : d' ≤ maxLen) (hr : Rd S w B' ((mrg ts [x]).flatMap Tal.cells)) : Ink S w n (m + 1) (T + 6) A ms c B' (mrg ts [x]) d' :=
  { h with rt := hr, lt := by have := mrg_len ts [x]; have := h.lt; simp at *; omega
           ct := hd, mt := hdm, zt := fun e => absurd e (mrg_ne _ _), st := mrg_srt h.st (List.pairwise_singleton _ _)
           it := by have := mrg_in (n := T) (m := 6) h.it (vs := [x]) (fun t ht => by rw [List.mem_singleton.1 ht]; omega) (by omega) (by omega); simpa using this }
/-- the intake with its marks put anew -/
theorem Ink.mark {S : Nat → Prop} {n m T : Nat} {A : Option Addr} {ms : List MarkD} {c : Nat} {B : Option Addr} {ts : List Tal} {d : Nat} {w : World} (h : Ink S w n m T A ms c B ts d) {A' : Option Addr} {ms' : List MarkD} {c' : Nat} (h1 : ms'.length ≤ ms.length + 1) (hd : ms'.length ≤ c') (hdm : c' ≤ maxLen) (hz : A' = none → c' = 0) (hr : Rd S w A' (ms'.flatMap MarkD.cells)) : Ink S w (n + 1) m T A' ms' c' B ts d :=
  { h with rm := hr, lm := by have := h.lm; omega
           cm := hd, mm := hdm, zm := hz }
end Go.Proofs.Ytiogpomgpknjlaa
