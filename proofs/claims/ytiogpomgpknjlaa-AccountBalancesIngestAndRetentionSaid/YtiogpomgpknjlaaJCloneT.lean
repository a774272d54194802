/- slices.Clone at []api.Tally (printed by mkclone.py). Condition: sizes. -/
import Derived.Test.YtiogpomgpknjlaaJTal
import Derived.Lib.SliceRun
import Derived.Test.YtiogpomgpknjlaaJGenC
import Derived.Test.YtiogpomgpknjlaaJCmpI
namespace Go.Proofs.Ytiogpomgpknjlaa
open Go.RowKit
set_option linter.unusedVariables false
set_option linter.unusedSimpArgs false

def CloneTaPost (w : World) (n : Nat) (xs : List Value) (e : Ending) (w' : World) : Prop := ∃ A' c', e = .returned (.slice A' n c') ∧ w'.ownsRow w.heap.size 62 3 (.slice A' n c') n xs ∧ w.grownBy w' none
set_option maxHeartbeats 1000000 in
set_option maxRecDepth 100000 in
theorem cloneTa_any {S : Nat → Prop} (A : Option Addr) (n c : Nat) (xs : List Value) (w : World) (hr : Rd S w A xs) (hn : xs.length = n * 3) (hl : n ≤ 1000000) (h1 : ∀ u ∈ xs, u.oneCell' = true) (hA : A = none → n = 0) :
    Calls Try.prog 63 #[.slice A n c] w (CloneTaPost w n xs) := by
  have q22 : ∀ (w : World) (a : Option Addr) (n c n' c' : Nat), (binOp .eql 26 (.slice a n c) (.slice none n' c')).run Try.prog w = .ok (.bool a.isNone) w := fun w a n c n' c' => Lib.run_eql_slice_nil w _ _ a n c n' c' Try.underlying26
  have H1 := Lib.hid h1
  have HR := Lib.hid hr
  clear h1 hr
  cases A with
  | none =>
    obtain rfl := hA rfl
    obtain rfl : xs = [] := List.eq_nil_of_length_eq_zero (by omega)
    clear hA
    go_enter Try.func63, Try.ntmps63
    go_wp2_with fail
    go_ret
    exact ⟨none, 0, rfl, World.ownsRow_nil _ _ _ _, only_refl _ _⟩
  | some a =>
    clear hA
    go_enter Try.func63, Try.ntmps63
    go_wp2_with (at_builtin; refine wpList_appendN rfl _ _ 26 rfl w.heap.size Try.underlying26 talInfo rfl (by decide) (v := .slice (some ⟨w.heap.size, 0, none⟩) 0 0) (by rfl) (World.ownsRow_made w #[] 0 (Nat.le_refl _) (Nat.zero_le _) (by simp)) (some a) n c (news := xs) (by rfl) (HR.out.alloc _) hn H1.out (by decide) (by omega) (by simp) ?_; intro v3 w3 hown3 hg3 hob3)
    have O3 : Hid (w3.ownsRow w.heap.size 62 3 v3 n xs) := Lib.hid (by simpa using hown3)
    have G3 : Hid (w.grownBy w3 none) := Lib.hid (only_fresh (only_alloc (only_refl _ _) _) (by simpa [Value.ownBlock] using hg3) (Nat.le_refl _))
    clear hown3 hg3 hob3
    obtain ⟨A3, c3, rfl, -, -, -, -⟩ := Rd.of_own O3.out (by decide)
    go_wp2_with fail
    go_ret
    exact ⟨A3, c3, rfl, O3.out, G3.out⟩
end Go.Proofs.Ytiogpomgpknjlaa

namespace Go.Proofs.Ytiogpomgpknjlaa
open Go.RowKit
set_option linter.unusedVariables false
set_option linter.unusedSimpArgs false

theorem cellG {w w' : World} (h : w.grownBy w' none) {b o : Nat} (hb : b < w.heap.size) : w'.cell? ⟨b, o, none⟩ = w.cell? ⟨b, o, none⟩ := World.cell?_of_block (a := ⟨b, o, none⟩) (h.block b hb (by simp))
theorem run_load (ρ : Operand → Value) (w : World) {o : Oper} {t : TypeId} {x : Nat} {p c : Value} (ho : o.op = .load t (.tmp x)) (hx : ρ (.tmp x) = p) (h : (Instr.loadAt t p).run Try.prog w = .ok c w) : (execOp ρ o).run Try.prog w = .ok (.value c) w := by
  simp only [execOp, ho, hx, Sem.run_bind, h, Result.andThen_ok, Sem.run_pure]
/-- a fresh slice of strings: what a call of Clone or Distinct has given back -/
def FreshS (base : Nat) (ss : List Value) (n : Nat) (e : TypeId) (w : World) (v : Value) : Prop := ∃ A c, v = .slice A n c ∧ n ≤ c ∧ c ≤ maxLen ∧ w.ownsRow base e 1 (.slice A n c) n ss
theorem FreshS.grown {base n : Nat} {ss : List Value} {e : TypeId} {w w' : World} {v : Value} (h : FreshS base ss n e w v) (hg : w.grownBy w' none) : FreshS base ss n e w' v := by
  obtain ⟨A, c, h1, h2, h3, h4⟩ := h
  exact ⟨A, c, h1, h2, h3, own_ext h4 hg⟩
theorem FreshS.of {base b0 n : Nat} {ss : List Value} {e : TypeId} {w : World} {A : Option Addr} {c : Nat} (h : w.ownsRow b0 e 1 (.slice A n c) n ss) (hb : base ≤ b0) : FreshS base ss n e w (.slice A n c) := by
  obtain ⟨A', c', e1, h2, h3, -, -⟩ := Rd.of_own h (by decide)
  injection e1 with e1 e2 e3
  subst e1 e3
  exact ⟨A, c, rfl, h2, h3, ⟨h.1, h.2.imp id fun ⟨g, cap, cur, h1, h2, h3⟩ => ⟨g, cap, cur, h1, Nat.le_trans hb h2, h3⟩⟩⟩
theorem rd_ownG {w : World} {base e n z : Nat} {A : Option Addr} {c : Nat} {xs : List Value} (h : w.ownsRow base e z (.slice A n c) n xs) (hz : 0 < z := by decide) : Rd (base ≤ ·) w A xs := by
  obtain ⟨A', c', e1, _, _, _, hr⟩ := Rd.of_own h hz
  injection e1 with e1
  rw [e1]; exact hr
section
variable {Q : Exit → Act → World → Prop} {ops : Array Oper} {hd : List Oper} {a : Act} {cs : List (Option Value)} {X : (Nat → Bool) → (Nat → Value) → World → Prop} {i : Nat} {o : Oper}
/-- a call of a function that is known only when it comes up -/
theorem gd_callE (hap : dstApart hd = true) (hw : Want ops hd a cs i o true) (h : ∀ D u ρ w, KG ops hd a cs X i D u ρ w → D i = false → ∃ f args, (execOp ρ o).run Try.prog w = .ok (.enter f args) w ∧ Calls Try.prog f args w (fun e w' => ∃ v, e = .returned v ∧ (∀ c, cs[i]? = some (some c) → v = c) ∧ X (updB D i) (upd u i v) w')) : GenOk Try.prog Q ops hd a (JC cs X) i o := by
  refine ⟨?_⟩
  rintro D u w ⟨hi, hx⟩ hdep hnot K hK
  rw [if_pos (hw.is hap hi hdep)]
  unfold Oper.wp
  obtain ⟨f, args, h0, h⟩ := h D u _ w ⟨Rho.mk_ hap u, hi, hx, hdep⟩ hnot
  rw [h0]
  simp only [Oper.upon]
  refine h.mono ?_
  rintro e w' ⟨v, rfl, h2, h3⟩
  exact hK v w' (jc_set hi h2 h3)
end
theorem rd_notB {w : World} {base e n z pb : Nat} {A : Option Addr} {c : Nat} {xs : List Value} (h : w.ownsRow base e z (.slice A n c) n xs) (hp : Value.ownBlock (.slice A n c) ≠ some pb) (hz : 0 < z := by decide) : Rd (fun b => base ≤ b ∧ b ≠ pb) w A xs := by
  intro hn
  obtain ⟨b, o, e1, h1, h2, h3⟩ := rd_ownG h hz hn
  refine ⟨b, o, e1, ⟨h1, fun e2 => hp ?_⟩, h2, h3⟩
  rcases h.2 with ⟨e3, _⟩ | ⟨g, cap, cur, e3, _⟩
  · injection e3 with e3; rw [e3] at e1; cases e1
  · injection e3 with e3 _ _
    rw [e3] at e1
    injection e1 with e1
    injection e1 with e1 _
    rw [e3, e1, e2]; rfl
end Go.Proofs.Ytiogpomgpknjlaa

namespace Go.Proofs.Ytiogpomgpknjlaa
open Go.RowKit
set_option linter.unusedVariables false
set_option linter.unusedSimpArgs false

/-- append of one element onto a slice without room: a new row -/
theorem wpList_appendG {P : Program} {ops : Array Oper} {rest : List Oper} {o : Oper} {a : Act} {w : World} {Q : Exit → Act → World → Prop} (hgd : o.guard = none) (s x : Operand) (t : TypeId)
    (ho : o.op = .call { callee := .builtin .append, args := #[s, x], argTypes := #[t, t] })
    {e : TypeId} {z : Value} {size bytes : Nat} (ht : P.underlying t = some (.slice e)) (hi : (P.info? e).map (fun i => (i.zero, i.size, i.bytes)) = some (some z, size, bytes)) (hzs : z.cells.size = size) (hsz : 0 < size)
    {b : Addr} {n : Nat} {olds : List Value} (hs : a.eval s = .slice (some b) n n) (hlo : olds.length = n * size) (holds : ∀ j u, olds[j]? = some u → w.cell? (b.add j) = some u)
    {a2 : Addr} {m c : Nat} {news : List Value} (hx : a.eval x = .slice (some a2) m c) (hl : news.length = m * size) (hnews : ∀ j u, news[j]? = some u → w.cell? (a2.add j) = some u)
    (hb : bytes ≤ 1000) (hm : 0 < m) (hn : n + m ≤ 10000000)
    (h : ∀ v' w', w'.ownsRow w.heap.size e size v' (n + m) (olds ++ news) → w.grownBy w' none → wpList P ops Q rest (a.put o.dst v') w') : wpList P ops Q (o :: rest) a w :=
  wpList_plain hgd fun K hK => by
    obtain ⟨i0, hi0, hz0, hz1, hz2⟩ := info_parts hi
    obtain ⟨v', w', hrun, h2, h3⟩ := run_append_arg_grows (P := P) w t o.type e i0 z size bytes ht hi0 hz0 hz1 hz2 hzs hsz b n n olds hlo holds a2 m c news hl hnews (by omega) (by unfold maxLen; omega) (by
      have : (n + m) * bytes ≤ 10000000 * 1000 := Nat.mul_le_mul hn hb
      omega)
    unfold Oper.wp execOp
    simp only [ho, resolve, invoke, builtin, Sem.run_bind, Sem.run_pure, Result.andThen_ok, List.map_toArray, List.map_cons, List.map_nil, hs, hx, hrun]
    exact hK _ _ (h v' w' h2 h3)
theorem rd_cells {S : Nat → Prop} {w : World} {b off : Nat} {xs : List Value} (h : Rd S w (some ⟨b, off, none⟩) xs) : ∀ j u, xs[j]? = some u → w.cell? ((⟨b, off, none⟩ : Addr).add j) = some u := by
  intro j u hu
  have hlen : 0 < xs.length := by
    rcases Nat.eq_zero_or_pos xs.length with h0 | h0
    · rw [List.eq_nil_of_length_eq_zero h0] at hu; simp at hu
    · exact h0
  obtain ⟨b', off', e, _, _, hc⟩ := h hlen
  injection e with e
  injection e with e1 e2
  subst e1 e2
  have hadd : (⟨b, off, none⟩ : Addr).add j = ⟨b, off + j, none⟩ := by unfold Addr.add; split <;> simp_all
  rw [hadd]; exact hc j u hu

theorem tals_set {w : World} {base g c i : Nat} {l : List Tal} {t : Tal} (h : w.ownsRow base 62 3 (.slice (some ⟨g, 0, none⟩) l.length c) l.length (l.flatMap Tal.cells)) (ht : l[i]? = some t) (n : Int) :
    (w.setCell ⟨g, i * 3 + 2, none⟩ (.int .i64 n)).ownsRow base 62 3 (.slice (some ⟨g, 0, none⟩) l.length c) l.length ((l.set i ⟨t.host, t.rule, n⟩).flatMap Tal.cells) ∧ w.grownBy (w.setCell ⟨g, i * 3 + 2, none⟩ (.int .i64 n)) (some g) := by
  have hi : i < l.length := by
    rcases Nat.lt_or_ge i l.length with h' | h'
    · exact h'
    · rw [List.getElem?_eq_none h'] at ht; cases ht
  have hst := h.stored (i * 3 + 2) (.int .i64 n)
  have hti : l[i] = t := by rw [List.getElem?_eq_getElem hi] at ht; injection ht
  have e1 : (l.flatMap Tal.cells).set (i * 3 + 2) (.int .i64 n) = (l.set i ⟨t.host, t.rule, n⟩).flatMap Tal.cells := flat_set Tal.cells_len l i 2 hi ⟨t.host, t.rule, n⟩ _ (by omega) (by rw [hti]; rfl)
  rw [e1] at hst
  exact hst
theorem hown_base {w : World} {base base' e size n : Nat} {v : Value} {xs : List Value} (h : w.ownsRow base e size v n xs) (hb : base' ≤ base) : w.ownsRow base' e size v n xs := by
  obtain ⟨h1, h2⟩ := h
  refine ⟨h1, ?_⟩
  rcases h2 with h2 | ⟨g, cap, cur, e1, hg, h3⟩
  · exact .inl h2
  · exact .inr ⟨g, cap, cur, e1, Nat.le_trans hb hg, h3⟩
theorem own_take {w : World} {base g c n : Nat} {l : List Tal} (h : w.ownsRow base 62 3 (.slice (some ⟨g, 0, none⟩) n c) n (l.flatMap Tal.cells)) (k : Nat) : Rd (fun _ => True) w (some ⟨g, 0, none⟩) ((l.take k).flatMap Tal.cells) := by
  obtain ⟨A', c', e', h1', h2', -, hr'⟩ := Rd.of_own h (by decide)
  injection e' with e1 e2 e3
  rw [← e1] at hr'
  have := (hr'.take (k * 3)).mono (S' := fun _ => True) (fun _ _ _ => trivial)
  rw [← tflat_take] at this
  exact this
theorem own_cap {w : World} {base g c n e size : Nat} {xs : List Value} (h : w.ownsRow base e (size + 1) (.slice (some ⟨g, 0, none⟩) n c) n xs) : n ≤ c := by
  obtain ⟨A', c', e', h1', h2', -, hr'⟩ := Rd.of_own h (by omega)
  injection e' with e1 e2 e3
  omega
theorem own_capm {w : World} {base g c n e size : Nat} {xs : List Value} (h : w.ownsRow base e (size + 1) (.slice (some ⟨g, 0, none⟩) n c) n xs) : c ≤ 9223372036854775807 := by
  obtain ⟨A', c', e', h1', h2', -, hr'⟩ := Rd.of_own h (by omega)
  injection e' with e1 e2 e3
  unfold maxLen at h2'
  omega
theorem Rd.cutS {S : Nat → Prop} {w : World} {b off : Nat} {xs : List Value} {cap n size k : Nat} (h : Rd S w (some ⟨b, off, none⟩) xs) (hl : xs.length = n * size) (hn : n ≤ cap) (hk : k ≤ n) : Rd S w (if cap = k then some ⟨b, off, none⟩ else some ⟨b, off + k * size, none⟩) (xs.drop (k * size)) := by
  have := h.cut (cap := cap) hl hn hk
  have hadd : (⟨b, off, none⟩ : Addr).add (k * size) = ⟨b, off + k * size, none⟩ := by unfold Addr.add; split <;> simp_all
  rw [Option.map_some, hadd] at this
  exact this
theorem Rd.dropS {S : Nat → Prop} {w : World} {b off : Nat} {xs : List Value} (h : Rd S w (some ⟨b, off, none⟩) xs) (m : Nat) : Rd S w (some ⟨b, off + m, none⟩) (xs.drop m) := by
  have := h.drop m
  have hadd : (⟨b, off, none⟩ : Addr).add m = ⟨b, off + m, none⟩ := by unfold Addr.add; split <;> simp_all
  rw [Option.map_some, hadd] at this
  exact this
theorem pre_step {l : List Tal} {x t : Tal} {k : Nat} (h : ∀ j u, j < k → l[j]? = some u → kl u x) (ht : l[k]? = some t) (hk : kl t x) : ∀ j u, j < k + 1 → l[j]? = some u → kl u x := fun j u hj hu => by
  rcases Nat.lt_or_ge j k with h1 | h1
  · exact h j u h1 hu
  · obtain rfl : j = k := by omega
    rw [ht] at hu; injection hu with hu; rw [← hu]; exact hk
theorem Blk.rdt {w : World} {g : Nat} {t : TypeId} {cs : Array Value} (h : Blk w g t cs) : Rd (fun _ => True) w (some ⟨g, 0, none⟩) cs.toList := fun _ =>
  ⟨g, 0, rfl, trivial, h.lt, fun j u hu => by rw [Nat.zero_add, h.cell j]; simpa using hu⟩
set_option maxHeartbeats 4000000 in
set_option maxRecDepth 100000 in
theorem add_any {S : Nat → Prop} (A : Option Addr) (l : List Tal) (c : Nat) (x : Tal) (w : World) (h : Rd S w A (l.flatMap Tal.cells)) (hl : l.length ≤ 1000) (h0 : 0 < l.length) (hc : l.length ≤ c) (hcm : c ≤ maxLen) (hx : 1 ≤ x.lines ∧ x.lines ≤ 1000000) (hin : TIn 1000000 l) :
    Calls Try.prog 31 #[.slice A l.length c, .int .i64 x.host, .string x.rule, .int .i64 x.lines] w (TalsPost w (mrg l [x])) := by
  have H := Lib.hid (h.mono (S' := fun _ => True) (fun _ _ _ => trivial))
  have HIN := Lib.hid hin
  clear h hin
  unfold maxLen at hcm
  obtain ⟨b, off, rfl, -, hbl, -⟩ := H.out (by rw [tflat_len]; omega)
  generalize hA : (some ⟨b, off, none⟩ : Option Addr) = A at H
  subst hA
  go_enter Try.func31, Try.ntmps31
  go_wp2_with fail
  go_loop [9] (fun i => ∃ k : Nat, k ≤ l.length ∧ i = .int .i64 k ∧ ∀ j t, j < k → l[j]? = some t → kl t x) (fun i => l.length - (intOf i).toNat)
  case atStart => exact ⟨0, Nat.zero_le _, rfl, fun j t hj => absurd hj (by omega)⟩
  case round =>
    obtain ⟨k, hk, rfl, hpre⟩ := hrel
    have PRE := Lib.hid hpre
    clear hpre
    by_cases hlt : k < l.length
    · obtain ⟨t, ht⟩ : ∃ t, l[k]? = some t := ⟨_, List.getElem?_eq_getElem hlt⟩
      obtain ⟨b', off', e', x0, x1, x2⟩ := H.out.tal ht
      injection e' with e'
      injection e' with e1 e2
      subst e1 e2
      have HT := Lib.hid ht
      have htl := HIN.out t (List.mem_of_getElem? ht)
      have hki : (k : Int) < (l.length : Int) := by omega
      have hk0 : (0 : Int) ≤ (k : Int) := by omega
      clear ht
      by_cases q1 : t.host < x.host
      · have d1 : decide (t.host < x.host) = true := by simp; omega
        go_wp2_with fail
        go_round
        case rel => exact ⟨k + 1, by omega, by go_num, pre_step PRE.out HT.out (.inl q1)⟩
        case measure => simp [intOf]; omega
      · have d1 : decide (t.host < x.host) = false := by simp; omega
        by_cases q2 : t.host = x.host
        · have d2 : (t.host == x.host) = true := by simp [q2]
          have Q2 := Lib.hid q2
          clear q2
          cases q3 : sl t.rule x.rule with
          | true =>
            have d3 : Op.bytesLess t.rule.toList x.rule.toList = true := q3
            go_wp2_with fail
            go_round
            case rel => exact ⟨k + 1, by omega, by go_num, pre_step PRE.out HT.out (.inr ⟨Q2.out, d3⟩)⟩
            case measure => simp [intOf]; omega
          | false =>
            have d3 : Op.bytesLess t.rule.toList x.rule.toList = false := q3
            cases q4 : sl x.rule t.rule with
            | true =>
              have d4 : (t.rule.toList == x.rule.toList) = false := by
                rw [beq_eq_false_iff_ne]; intro e; rw [toList_inj e, sl_irrefl] at q4; cases q4
              have NX : Hid (∀ u, l[k]? = some u → kl x u) := fun u hu => by rw [HT.out] at hu; injection hu with hu; subst hu; exact .inr ⟨Q2.out.symm, q4⟩
              clear q3 q4
              have hlen1 : (l.flatMap Tal.cells).length = l.length * 3 := tflat_len l
              have HMR : Hid (mrg l [x] = l.take k ++ x :: l.drop k) := mrg_at k PRE.out NX.out
              go_wp2_with (first
                | (at_builtin; have htok := hown7; go_must (refine wpList_appendN rfl _ _ 26 rfl w.heap.size Try.underlying26 talInfo rfl (by decide) (v := _) (by rfl) hown7 _ _ _ (by rfl) (HR7.out.dropS (k * 3)) (by rw [List.length_drop, tflat_len, Nat.sub_mul]) (fun u hu => tflat_one _ u (List.mem_of_mem_drop hu)) (by decide) (by omega) (by omega) ?_); intro v8 w8 hown8 hg8 hob8; obtain ⟨A8, c8, rfl, hc8, hm8, -, hr8⟩ := Rd.of_own hown8 (by decide))
                | (at_builtin; have htok := hown5; go_must (refine wpList_appendG rfl _ _ 26 rfl Try.underlying26 talInfo rfl (by decide) (b := ⟨g5, 0, none⟩) (n := k) (olds := (l.take k).flatMap Tal.cells) (by rfl) (by rw [tflat_len, List.length_take]; omega) (rd_cells (HO5.out.alloc _)) (a2 := ⟨w5.heap.size, 0, none⟩) (m := 1) (c := 1) (news := x.cells) (by rfl) rfl (rd_cells (Blk.new w5 62 x.cells.toArray).rdt) (by decide) (by decide) (by omega) ?_); intro v7 w7 hown7' hg7; have hown7 := hown_base hown7' (show w.heap.size ≤ _ by simp; omega); obtain ⟨A7, c7, rfl, hc7, hm7, -, -⟩ := Rd.of_own hown7 (by decide); have HR7 := Lib.hid (((H.out.grown hg5 (by simp [Value.ownBlock])).alloc (.cells x.cells.toArray 62)).grown hg7 (by simp)); have hs7 := hg7.size; simp only [World.size_alloc] at hs7)
                | (at_builtin; go_must (refine wpList_appendN rfl _ _ 26 rfl w.heap.size Try.underlying26 talInfo rfl (by decide) (v := .slice none 0 0) (by rfl) (World.ownsRow_nil _ _ _ _) (some ⟨b, off, none⟩) l.length c (by rfl) H.out hlen1 (tflat_one l) (by decide) (by omega) (Nat.le_refl _) ?_); intro v5 w5 hown5 hg5 hob5; simp only [Nat.zero_add, List.nil_append] at hown5; obtain ⟨g5, c5, rfl, hb5, hl5⟩ := hown5.form (by omega); have HO5 : Hid (Rd (fun _ => True) w5 (some ⟨g5, 0, none⟩) ((l.take k).flatMap Tal.cells)) := own_take hown5 k; have hc5 : l.length ≤ c5 := own_cap hown5; have hcm5 : c5 ≤ 9223372036854775807 := own_capm hown5; have hs5 := hg5.size; obtain ⟨b', off', e', y0, y1, y2⟩ := (H.out.grown hg5 (by simp [Value.ownBlock])).tal HT.out; injection e' with e'; injection e' with e1 e2; subst e1 e2))
              all_goals
                have hfin : w8.ownsRow w.heap.size 62 3 (.slice A8 (k + 1 + (l.length - k)) c8) (mrg l [x]).length ((mrg l [x]).flatMap Tal.cells) := by
                  have e1 : k + 1 + (l.length - k) = (mrg l [x]).length := by rw [HMR.out]; simp; omega
                  rw [← e1, HMR.out, List.flatMap_append, List.flatMap_cons, tflat_drop]
                  simpa using hown8
                have HF := Lib.hid hfin
                have G8 : Hid (w.grownBy w8 none) := only_own (only_trans (only_alloc (by simpa [Value.ownBlock] using hg5) _) hg7) hg8 hown7 (Nat.le_refl _)
                clear hown5 hown7 hown7' hown8 hfin hg5 hg7 hg8 hob5 hob8
                go_wp2_with fail
                go_ret
                obtain ⟨A', c', e', f1, f2, -, f3⟩ := Rd.of_own HF.out (by decide)
                injection e' with e1 e2 e3
                subst e1 e3
                exact ⟨A8, c8, by rw [← e2]; rfl, f1, f2, f3, G8.out⟩
            | false =>
              have d4 : (t.rule.toList == x.rule.toList) = true := by rw [sl_tri q3 q4]; simp
              have HMR : Hid (mrg l [x] = l.set k ⟨t.host, t.rule, t.lines + x.lines⟩) := mrg_hit k PRE.out HT.out (fun e => by rcases e with e | ⟨_, e⟩; omega; rw [q3] at e; cases e) (fun e => by rcases e with e | ⟨_, e⟩; have := Q2.out; omega; rw [q4] at e; cases e)
              have hlen1 : (l.flatMap Tal.cells).length = l.length * 3 := tflat_len l
              clear q3 q4
              go_wp2_with (at_builtin; go_must (refine wpList_appendN rfl _ _ 26 rfl w.heap.size Try.underlying26 talInfo rfl (by decide) (v := .slice none 0 0) (by rfl) (World.ownsRow_nil _ _ _ _) (some ⟨b, off, none⟩) l.length c (by rfl) H.out hlen1 (tflat_one l) (by decide) (by omega) (Nat.le_refl _) ?_); intro v5 w5 hown5 hg5 hob5; simp only [Nat.zero_add, List.nil_append] at hown5; obtain ⟨g5, c5, rfl, hb5, hl5⟩ := hown5.form (by omega); have hcm5 : c5 ≤ 9223372036854775807 := own_capm hown5; have hc5 : l.length ≤ c5 := own_cap hown5; obtain ⟨b', off', e', y0, y1, y2⟩ := (H.out.grown hg5 (by simp [Value.ownBlock])).tal HT.out; injection e' with e'; injection e' with e1 e2; subst e1 e2; have z2 := (hown5.cellAt (k * 3 + 2) (by omega)).trans (tflat_at HT.out 2 (by omega)); simp [Tal.cells] at z2; have zf := hown5.frozenAt (k * 3 + 2))
              have hst := tals_set hown5 HT.out (t.lines + x.lines)
              rw [← HMR.out] at hst
              have hln : (mrg l [x]).length = l.length := by rw [HMR.out]; simp
              have hG := only_fresh (show w.grownBy w5 none by simpa [Value.ownBlock] using hg5) hst.2 hb5
              have HST := Lib.hid hst.1
              have HLN := Lib.hid hln
              clear hst hln hg5 hown5 hob5
              go_wp2_with fail
              go_ret
              obtain ⟨A', c', e', f1, f2, -, f3⟩ := Rd.of_own HST.out (by decide)
              injection e' with e1 e2 e3
              subst e1 e3
              exact ⟨some ⟨g5, 0, none⟩, c5, by rw [HLN.out]; rfl, by rw [HLN.out]; exact f1, f2, f3, hG⟩
        · have d2 : (t.host == x.host) = false := by simp [q2]
          have NX : Hid (∀ u, l[k]? = some u → kl x u) := fun u hu => by rw [HT.out] at hu; injection hu with hu; subst hu; exact .inl (by omega)
          clear q2
          have hlen1 : (l.flatMap Tal.cells).length = l.length * 3 := tflat_len l
          have HMR : Hid (mrg l [x] = l.take k ++ x :: l.drop k) := mrg_at k PRE.out NX.out
          go_wp2_with (first
            | (at_builtin; have htok := hown7; go_must (refine wpList_appendN rfl _ _ 26 rfl w.heap.size Try.underlying26 talInfo rfl (by decide) (v := _) (by rfl) hown7 _ _ _ (by rfl) (HR7.out.dropS (k * 3)) (by rw [List.length_drop, tflat_len, Nat.sub_mul]) (fun u hu => tflat_one _ u (List.mem_of_mem_drop hu)) (by decide) (by omega) (by omega) ?_); intro v8 w8 hown8 hg8 hob8; obtain ⟨A8, c8, rfl, hc8, hm8, -, hr8⟩ := Rd.of_own hown8 (by decide))
            | (at_builtin; have htok := hown5; go_must (refine wpList_appendG rfl _ _ 26 rfl Try.underlying26 talInfo rfl (by decide) (b := ⟨g5, 0, none⟩) (n := k) (olds := (l.take k).flatMap Tal.cells) (by rfl) (by rw [tflat_len, List.length_take]; omega) (rd_cells (HO5.out.alloc _)) (a2 := ⟨w5.heap.size, 0, none⟩) (m := 1) (c := 1) (news := x.cells) (by rfl) rfl (rd_cells (Blk.new w5 62 x.cells.toArray).rdt) (by decide) (by decide) (by omega) ?_); intro v7 w7 hown7' hg7; have hown7 := hown_base hown7' (show w.heap.size ≤ _ by simp; omega); obtain ⟨A7, c7, rfl, hc7, hm7, -, -⟩ := Rd.of_own hown7 (by decide); have HR7 := Lib.hid (((H.out.grown hg5 (by simp [Value.ownBlock])).alloc (.cells x.cells.toArray 62)).grown hg7 (by simp)); have hs7 := hg7.size; simp only [World.size_alloc] at hs7)
            | (at_builtin; go_must (refine wpList_appendN rfl _ _ 26 rfl w.heap.size Try.underlying26 talInfo rfl (by decide) (v := .slice none 0 0) (by rfl) (World.ownsRow_nil _ _ _ _) (some ⟨b, off, none⟩) l.length c (by rfl) H.out hlen1 (tflat_one l) (by decide) (by omega) (Nat.le_refl _) ?_); intro v5 w5 hown5 hg5 hob5; simp only [Nat.zero_add, List.nil_append] at hown5; obtain ⟨g5, c5, rfl, hb5, hl5⟩ := hown5.form (by omega); have HO5 : Hid (Rd (fun _ => True) w5 (some ⟨g5, 0, none⟩) ((l.take k).flatMap Tal.cells)) := own_take hown5 k; have hc5 : l.length ≤ c5 := own_cap hown5; have hcm5 : c5 ≤ 9223372036854775807 := own_capm hown5; have hs5 := hg5.size; obtain ⟨b', off', e', y0, y1, y2⟩ := (H.out.grown hg5 (by simp [Value.ownBlock])).tal HT.out; injection e' with e'; injection e' with e1 e2; subst e1 e2))
          all_goals
            have hfin : w8.ownsRow w.heap.size 62 3 (.slice A8 (k + 1 + (l.length - k)) c8) (mrg l [x]).length ((mrg l [x]).flatMap Tal.cells) := by
              have e1 : k + 1 + (l.length - k) = (mrg l [x]).length := by rw [HMR.out]; simp; omega
              rw [← e1, HMR.out, List.flatMap_append, List.flatMap_cons, tflat_drop]
              simpa using hown8
            have HF := Lib.hid hfin
            have G8 : Hid (w.grownBy w8 none) := only_own (only_trans (only_alloc (by simpa [Value.ownBlock] using hg5) _) hg7) hg8 hown7 (Nat.le_refl _)
            clear hown5 hown7 hown7' hown8 hfin hg5 hg7 hg8 hob5 hob8
            go_wp2_with fail
            go_ret
            obtain ⟨A', c', e', f1, f2, -, f3⟩ := Rd.of_own HF.out (by decide)
            injection e' with e1 e2 e3
            subst e1 e3
            exact ⟨A8, c8, by rw [← e2]; rfl, f1, f2, f3, G8.out⟩
    · have NX : Hid (∀ u, l[k]? = some u → kl x u) := fun u hu => by rw [List.getElem?_eq_none (by omega)] at hu; cases hu
      have hlen1 : (l.flatMap Tal.cells).length = l.length * 3 := tflat_len l
      have HMR : Hid (mrg l [x] = l.take k ++ x :: l.drop k) := mrg_at k PRE.out NX.out
      go_wp2_with (first
        | (at_builtin; have htok := hown7; go_must (refine wpList_appendN rfl _ _ 26 rfl w.heap.size Try.underlying26 talInfo rfl (by decide) (v := _) (by rfl) hown7 _ _ _ (by rfl) (HR7.out.cutS (n := l.length) (k := k) (size := 3) (cap := c) (tflat_len l) hc (by omega)) (by rw [List.length_drop, tflat_len, Nat.sub_mul]) (fun u hu => tflat_one _ u (List.mem_of_mem_drop hu)) (by decide) (by omega) (by omega) ?_); intro v8 w8 hown8 hg8 hob8; obtain ⟨A8, c8, rfl, hc8, hm8, -, hr8⟩ := Rd.of_own hown8 (by decide))
        | (at_builtin; have htok := hown5; go_must (refine wpList_appendG rfl _ _ 26 rfl Try.underlying26 talInfo rfl (by decide) (b := ⟨g5, 0, none⟩) (n := k) (olds := (l.take k).flatMap Tal.cells) (by rfl) (by rw [tflat_len, List.length_take]; omega) (rd_cells (HO5.out.alloc _)) (a2 := ⟨w5.heap.size, 0, none⟩) (m := 1) (c := 1) (news := x.cells) (by rfl) rfl (rd_cells (Blk.new w5 62 x.cells.toArray).rdt) (by decide) (by decide) (by omega) ?_); intro v7 w7 hown7' hg7; have hown7 := hown_base hown7' (show w.heap.size ≤ _ by simp; omega); obtain ⟨A7, c7, rfl, hc7, hm7, -, -⟩ := Rd.of_own hown7 (by decide); have HR7 := Lib.hid (((H.out.grown hg5 (by simp [Value.ownBlock])).alloc (.cells x.cells.toArray 62)).grown hg7 (by simp)); have hs7 := hg7.size; simp only [World.size_alloc] at hs7)
        | (at_builtin; go_must (refine wpList_appendN rfl _ _ 26 rfl w.heap.size Try.underlying26 talInfo rfl (by decide) (v := .slice none 0 0) (by rfl) (World.ownsRow_nil _ _ _ _) (some ⟨b, off, none⟩) l.length c (by rfl) H.out hlen1 (tflat_one l) (by decide) (by omega) (Nat.le_refl _) ?_); intro v5 w5 hown5 hg5 hob5; simp only [Nat.zero_add, List.nil_append] at hown5; obtain ⟨g5, c5, rfl, hb5, hl5⟩ := hown5.form (by omega); have HO5 : Hid (Rd (fun _ => True) w5 (some ⟨g5, 0, none⟩) ((l.take k).flatMap Tal.cells)) := own_take hown5 k; have hc5 : l.length ≤ c5 := own_cap hown5; have hcm5 : c5 ≤ 9223372036854775807 := own_capm hown5; have hs5 := hg5.size))
      all_goals
        have hfin : w8.ownsRow w.heap.size 62 3 (.slice A8 (k + 1 + (l.length - k)) c8) (mrg l [x]).length ((mrg l [x]).flatMap Tal.cells) := by
          have e1 : k + 1 + (l.length - k) = (mrg l [x]).length := by rw [HMR.out]; simp; omega
          rw [← e1, HMR.out, List.flatMap_append, List.flatMap_cons, tflat_drop]
          simpa using hown8
        have HF := Lib.hid hfin
        have G8 : Hid (w.grownBy w8 none) := only_own (only_trans (only_alloc (by simpa [Value.ownBlock] using hg5) _) hg7) hg8 hown7 (Nat.le_refl _)
        clear hown5 hown7 hown7' hown8 hfin hg5 hg7 hg8 hob5 hob8
        go_wp2_with fail
        go_ret
        obtain ⟨A', c', e', f1, f2, -, f3⟩ := Rd.of_own HF.out (by decide)
        injection e' with e1 e2 e3
        subst e1 e3
        exact ⟨A8, c8, by rw [← e2]; rfl, f1, f2, f3, G8.out⟩
theorem wpList_append00 {P : Program} {ops : Array Oper} {rest : List Oper} {o : Oper} {a : Act} {w : World} {Q : Exit → Act → World → Prop} (hgd : o.guard = none) (s x : Operand) (t : TypeId)
    (ho : o.op = .call { callee := .builtin .append, args := #[s, x], argTypes := #[t, t] }) {e : TypeId} {z : Value} {size bytes : Nat} (ht : P.underlying t = some (.slice e)) (hi : (P.info? e).map (fun i => (i.zero, i.size, i.bytes)) = some (some z, size, bytes))
    (hs : a.eval s = .slice none 0 0) (hx : a.eval x = .slice none 0 0) (h : wpList P ops Q rest (a.put o.dst (.slice none 0 0)) w) : wpList P ops Q (o :: rest) a w :=
  wpList_plain hgd fun K hK => by
    obtain ⟨i0, hi0, hz0, hz1, hz2⟩ := info_parts hi
    have hrun : (Builtin.append_ #[t, t] o.type #[.slice none 0 0, .slice none 0 0]).run P w = .ok (.slice none 0 0) w := by
      simp [Builtin.append_, run_underlying ht, sizeOf, typeInfo, hi0, Builtin.lenOf, Builtin.firstCells]
    unfold Oper.wp execOp
    simp only [ho, resolve, invoke, builtin, Sem.run_bind, Sem.run_pure, Result.andThen_ok, List.map_toArray, List.map_cons, List.map_nil, hs, hx, hrun]
    exact hK _ _ h
set_option maxHeartbeats 4000000 in
set_option maxRecDepth 100000 in
theorem add_nil (x : Tal) (w : World) (hx : 1 ≤ x.lines ∧ x.lines ≤ 1000000) :
    Calls Try.prog 31 #[.slice none 0 0, .int .i64 x.host, .string x.rule, .int .i64 x.lines] w (TalsPost w [x]) := by
  go_enter Try.func31, Try.ntmps31
  go_wp2_with fail
  go_loop [9] (fun i => i = .int .i64 0) (fun i => 1)
  case atStart => rfl
  case round =>
    obtain rfl := hrel
    have tok1 : True := trivial
    go_wp2_with (first
      | (at_builtin; have htok := hown7; go_must (refine wpList_appendN rfl _ _ 26 rfl w.heap.size Try.underlying26 talInfo rfl (by decide) (v := _) (by rfl) hown7 none 0 0 (by rfl) (S := fun _ => True) (news := []) Rd.nil rfl (by simp) (by decide) (by omega) hs7 ?_); intro v8 w8 hown8 hg8 hob8; obtain ⟨A8, c8, rfl, hc8, hm8, -, hr8⟩ := Rd.of_own hown8 (by decide))
      | (at_builtin; have htok := tok1; refine wpList_append00 rfl _ _ 26 rfl Try.underlying26 talInfo (by rfl) (by rfl) ?_; clear tok1)
      | (at_builtin; go_must (refine wpList_append1 rfl _ _ 26 rfl w.heap.size Try.underlying26 talInfo rfl (by decide) (v := _) (by rfl) (w0 := w) (cs := x.cells.toArray) (World.ownsRow_nil _ _ _ _) (by rfl) rfl (by simpa using Tal.one x) (by decide) (by omega) (Nat.le_refl _) ?_); intro v7 w7 hown7 hg7 hob7; obtain ⟨A7, c7, rfl, hc7, hm7, -, -⟩ := Rd.of_own hown7 (by decide); have hs7 := hg7.size))
    all_goals
      have hfin : w8.ownsRow w.heap.size 62 3 (.slice A8 (0 + 1 + 0) c8) ([x] : List Tal).length ([x].flatMap Tal.cells) := by simpa using hown8
      have HF := Lib.hid hfin
      have G8 : Hid (w.grownBy w8 none) := only_own (by simpa [Value.ownBlock] using hg7) hg8 hown7 (Nat.le_refl _)
      clear hown7 hown8 hfin hg7 hg8 hob7 hob8
      go_wp2_with fail
      go_ret
      obtain ⟨A', c', e', f1, f2, -, f3⟩ := Rd.of_own HF.out (by decide)
      injection e' with e1 e2 e3
      subst e1 e3
      exact ⟨A8, c8, rfl, f1, f2, f3, G8.out⟩
end Go.Proofs.Ytiogpomgpknjlaa

namespace Go.Proofs.Ytiogpomgpknjlaa
open Go.RowKit
set_option linter.unusedVariables false
set_option linter.unusedSimpArgs false

/-- from block r on nothing has turned -/
def Rab (r : Nat) (w w' : World) : Prop := w.heap.size ≤ w'.heap.size ∧ ∀ b, r ≤ b → b < w.heap.size → w'.heap[b]? = w.heap[b]?
theorem Rab.refl (r : Nat) (w : World) : Rab r w w := ⟨Nat.le_refl _, fun _ _ _ => rfl⟩
theorem Rab.alloc (r : Nat) (w : World) (o : Obj) : Rab r w (w.alloc o) := ⟨by simp, fun b _ hb => Below.heap_alloc w o b hb⟩
theorem Rab.of {r g : Nat} {w w' : World} (h : w.grownBy w' (some g)) (hg : g < r) : Rab r w w' := ⟨h.size, fun b hb hlt => h.block b hlt (by intro e; injection e; omega)⟩
theorem Rab.set_ {r : Nat} (w : World) (p : Addr) (v : Value) (hp : p.block < r) : Rab r w (w.setCell p v) := ⟨by simp [World.setCell], fun b hb _ => Below.heap_setCell w p v b (by omega)⟩
theorem Rab.blk {r g t : Nat} {w w' : World} {cs : Array Value} (h : Rab r w w') (hB : Blk w g t cs) (hg : r ≤ g) : Blk w' g t cs := (h.2 g hg hB.lt).trans hB

/-- a slice literal of the call's own -/
def IsRow0 (r t : Nat) (cs : Array Value) (v : Value) (w : World) : Prop := ∃ b, v = .slice (some ⟨b, 0, none⟩) cs.size cs.size ∧ r ≤ b ∧ Blk w b t cs
def IsAt0 (r t : Nat) (cs : Array Value) (v : Value) (w : World) : Prop := ∃ b j, v = .pointer (some ⟨b, j, none⟩) ∧ j < cs.size ∧ r ≤ b ∧ Blk w b t cs
def IsIdx (n : Nat) (v : Value) (_ : World) : Prop := ∃ j : Nat, j < n ∧ v = .int .i64 j
def IsStr0 (n m : Nat) (v : Value) (_ : World) : Prop := ∃ s : ByteArray, v = .string s ∧ n ≤ s.size ∧ s.size ≤ m
theorem St.row {r t : Nat} {cs : Array Value} : St (Rab r) (IsRow0 r t cs) := fun v w w' h ⟨b, h1, h2, h3⟩ => ⟨b, h1, h2, h.blk h3 h2⟩
theorem St.at_ {r t : Nat} {cs : Array Value} : St (Rab r) (IsAt0 r t cs) := fun v w w' h ⟨b, j, h1, h2, h3, h4⟩ => ⟨b, j, h1, h2, h3, h.blk h4 h3⟩
theorem St.idx {R : World → World → Prop} {n : Nat} : St R (IsIdx n) := fun v w w' _ h => h
theorem St.str {R : World → World → Prop} {n m : Nat} : St R (IsStr0 n m) := fun v w w' _ h => h

section
variable {Q : Exit → Act → World → Prop} {ops : Array Oper} {hd : List Oper} {a : Act} {G : World → Prop} {φs : List (Value → World → Prop)} {i : Nat} {o : Oper} {r : Nat}
theorem st_rowlit (hg : o.guard = none) (hap : dstApart hd = true) {t e : TypeId} {cs : Array Value} {parts : Array (Nat × Operand)} (ho : o.op = .buildSlice t cs.size parts)
    (hr : ∀ (ρ : Operand → Value) (w : World), (∀ v, ρ (.const v) = v) → (Instr.buildSlice t cs.size (parts.map fun (i, x) => (i, ρ x))).run Try.prog w = .ok (.slice (some ⟨w.heap.size, 0, none⟩) cs.size cs.size) (w.alloc (.cells cs e)))
    (hG : ∀ w o, G w → G (w.alloc o)) (hgr : ∀ w, G w → r ≤ w.heap.size) (hp : phi φs i = IsRow0 r e cs) : StepOk Try.prog Q ops hd a (Rab r) G φs i o :=
  .run hg hap fun u ρ w k => ⟨.slice (some ⟨w.heap.size, 0, none⟩) cs.size cs.size, w.alloc (.cells cs e), by simp only [execOp, ho, Sem.run_bind, hr ρ w k.rho.con, Result.andThen_ok, Sem.run_pure], hG _ _ k.good, Rab.alloc _ _ _, by rw [hp]; exact ⟨w.heap.size, rfl, hgr w k.good, Blk.new w e cs⟩⟩
theorem st_ix (hg : o.guard = none) (hap : dstApart hd = true) {t e : TypeId} {cs : Array Value} {x y : Nat} (ho : o.op = .indexAddr t (.tmp x) (.tmp y)) (ht : Try.prog.underlying t = some (.slice e)) (hz : (Try.prog.info? e).map (·.size) = some 1)
    (jx jy : Nat) (hx : isDst hd jx x = true) (hy : isDst hd jy y = true) (hxs : x < a.tmps.size) (hys : y < a.tmps.size)
    (wx : Region.waitsFor .any ops i jx = true) (wy : Region.waitsFor .any ops i jy = true) (px : phi φs jx = IsRow0 r e cs) (py : phi φs jy = IsIdx cs.size) (hp : phi φs i = IsAt0 r e cs) : StepOk Try.prog Q ops hd a (Rab r) G φs i o :=
  .run hg hap fun u ρ w k => by
    have h1 := k.dep jx wx
    have h2 := k.dep jy wy
    rw [px] at h1
    rw [py] at h2
    obtain ⟨b, e1, hb, hB⟩ := h1
    obtain ⟨j, hj, e2⟩ := h2
    have r1 := (k.rho.at_ jx x hx hxs).trans e1
    have r2 := (k.rho.at_ jy y hy hys).trans e2
    refine ⟨.pointer (some ⟨b, j, none⟩), w, ?_, k.good, Rab.refl _ _, by rw [hp]; exact ⟨b, j, rfl, hj, hb, hB⟩⟩
    have hji : ((j : Int) < (cs.size : Int)) := by omega
    have hj0 : (0 : Int) ≤ (j : Int) := by omega
    obtain ⟨ie, hie, hs1⟩ : ∃ ie, Try.prog.info? e = some ie ∧ ie.size = 1 := by
      cases hi : Try.prog.info? e with
      | none => rw [hi] at hz; cases hz
      | some ie => rw [hi] at hz; exact ⟨ie, rfl, by simpa using hz⟩
    have hadd : (⟨b, 0, none⟩ : Addr).add j = ⟨b, j, none⟩ := by unfold Addr.add; split <;> simp_all
    simp only [execOp, ho, r1, r2]
    simp [Instr.indexAt, run_underlying ht, asIntOf, hji, sizeOf, typeInfo, hie, hs1, hadd]
    intro h; omega
theorem st_ld (hg : o.guard = none) (hap : dstApart hd = true) {t e : TypeId} {cs : Array Value} {x n m : Nat} (ho : o.op = .load t (.tmp x)) (ht : Try.prog.underlying t = some .string) (jx : Nat) (hx : isDst hd jx x = true) (hxs : x < a.tmps.size)
    (wx : Region.waitsFor .any ops i jx = true) (px : phi φs jx = IsAt0 r e cs) (hcs : ∀ j, j < cs.size → ∃ s, cs[j]? = some (.string s) ∧ n ≤ s.size ∧ s.size ≤ m) (hp : phi φs i = IsStr0 n m)
    (hrun : ∀ (w : World) (p : Addr) (s : ByteArray), w.cell? p = some (.string s) → (Instr.loadAt t (.pointer (some p))).run Try.prog w = .ok (.string s) w) : StepOk Try.prog Q ops hd a (Rab r) G φs i o :=
  .run hg hap fun u ρ w k => by
    have h1 := k.dep jx wx
    rw [px] at h1
    obtain ⟨b, j, e1, hj, hb, hB⟩ := h1
    have r1 := (k.rho.at_ jx x hx hxs).trans e1
    obtain ⟨s, hs, h2⟩ := hcs j hj
    refine ⟨.string s, w, ?_, k.good, Rab.refl _ _, by rw [hp]; exact ⟨s, rfl, h2⟩⟩
    have hc := (hB.cell j).trans hs
    simp only [execOp, ho, r1, Sem.run_bind, hrun w _ s hc, Result.andThen_ok, Sem.run_pure]
theorem load_str (w : World) (p : Addr) (s : ByteArray) (h : w.cell? p = some (.string s)) : (Instr.loadAt 9 (.pointer (some p))).run Try.prog w = .ok (.string s) w := by
  have := Try.underlying9
  simp [go_sem, h]
theorem st_copy (hg : o.guard = none) (hap : dstApart hd = true) {x : Nat} {c : Value} (ho : o.op = .move (.tmp x)) (hx : hd.all (fun o => o.dst != some x) = true) (hc : a.eval (.tmp x) = c) (hp : phi φs i = fun v _ => v = c) : StepOk Try.prog Q ops hd a (Rab r) G φs i o :=
  .move hg hap (.tmp x) ho (Rab.refl r) fun u ρ w k => by rw [hp]; exact (k.rho.other x hx).trans hc
theorem st_next (hg : o.guard = none) (hap : dstApart hd = true) {g : Nat} {l : List Int} {x n : Nat} {ts : Array TypeId} (ho : o.op = .call { callee := .value (.func 28), args := #[.tmp x, .const (.int .i64 n)], argTypes := ts }) (jx : Nat) (hx : isDst hd jx x = true) (hxs : x < a.tmps.size)
    (wx : Region.waitsFor .any ops i jx = true) (px : phi φs jx = fun v _ => v = .pointer (some ⟨g, 0, none⟩)) (h1 : 1 ≤ n) (h2 : n ≤ 1000000) (hG : ∀ w, G w → ∃ k, CodesAt w g l k) (hG2 : ∀ w w' k, G w → CodesAt w' g l k → w.grownBy w' (some g) → G w') (hgr : g < r) (hp : phi φs i = IsIdx n) : StepOk Try.prog Q ops hd a (Rab r) G φs i o :=
  .call hg hap 28 fun u ρ w k => by
    have e1 := k.dep jx wx
    rw [px] at e1
    have r1 := (k.rho.at_ jx x hx hxs).trans e1
    obtain ⟨kk, hC⟩ := hG w k.good
    refine ⟨#[.pointer (some ⟨g, 0, none⟩), .int .i64 n], ?_, (next_some g l kk n w hC (by omega) (by omega)).mono ?_⟩
    · simp only [execOp, ho, resolve, Deferred.ofValue, List.map_toArray, List.map_cons, List.map_nil, r1, k.rho.con, k.rho.fn]
      simp [go_sem]
    · rintro e w' ⟨v, k2, rfl, hv, hC2, hgg⟩
      obtain ⟨j, rfl⟩ := Int.eq_ofNat_of_zero_le hv.1
      exact ⟨_, rfl, hG2 w w' k2 k.good hC2 hgg, Rab.of hgg hgr, by rw [hp]; exact ⟨j, by omega, rfl⟩⟩
theorem st_fa (hg : o.guard = none) (hap : dstApart hd = true) {x f : Nat} {t : TypeId} {p q : Addr} (ho : o.op = .fieldAddr t (.tmp x) f) (hx : hd.all (fun o => o.dst != some x) = true) (hc : a.eval (.tmp x) = .pointer (some p)) (hr : ∀ w : World, (Instr.fieldAt t (.pointer (some p)) f).run Try.prog w = .ok (.pointer (some q)) w) (hp : phi φs i = fun v _ => v = .pointer (some q)) : StepOk Try.prog Q ops hd a (Rab r) G φs i o :=
  .run hg hap fun u ρ w k => ⟨.pointer (some q), w, by simp only [execOp, ho, (k.rho.other x hx).trans hc, Sem.run_bind, hr, Result.andThen_ok, Sem.run_pure], k.good, Rab.refl _ _, by rw [hp]⟩
theorem st_store (hg : o.guard = none) (hap : dstApart hd = true) {x y n m : Nat} {t : TypeId} {q : Addr} (ho : o.op = .store t (.tmp x) (.tmp y)) (jx jy : Nat) (hx : isDst hd jx x = true) (hy : isDst hd jy y = true) (hxs : x < a.tmps.size) (hys : y < a.tmps.size)
    (wx : Region.waitsFor .any ops i jx = true) (wy : Region.waitsFor .any ops i jy = true) (px : phi φs jx = fun v _ => v = .pointer (some q)) (py : phi φs jy = IsStr0 n m) (hq : q.block < r)
    (hr : ∀ (w : World) (s : ByteArray), G w → (Instr.storeAt t (.pointer (some q)) (.string s)).run Try.prog w = .ok () (w.setCell q (.string s))) (hG : ∀ w s, G w → n ≤ ByteArray.size s → ByteArray.size s ≤ m → G (w.setCell q (.string s))) (hp : phi φs i = fun _ _ => True) : StepOk Try.prog Q ops hd a (Rab r) G φs i o :=
  .skip hg hap fun u ρ w k => by
    have e1 := k.dep jx wx
    have e2 := k.dep jy wy
    rw [px] at e1
    rw [py] at e2
    obtain ⟨s, e2, h1, h2⟩ := e2
    exact ⟨w.setCell q (.string s), by simp only [execOp, ho, (k.rho.at_ jx x hx hxs).trans e1, (k.rho.at_ jy y hy hys).trans e2, Sem.run_bind, hr w s k.good, Result.andThen_ok, Sem.run_pure], hG w s k.good h1 h2, Rab.set_ w q _ hq, by rw [hp]; trivial⟩
theorem lit_str4 (a b c d : ByteArray) (ρ : Operand → Value) (w : World) (h : ∀ v, ρ (.const v) = v) : (Instr.buildSlice 66 4 ((#[(0, .const (.string a)), (1, .const (.string b)), (2, .const (.string c)), (3, .const (.string d))] : Array (Nat × Operand)).map fun (i, x) => (i, ρ x))).run Try.prog w = .ok (.slice (some ⟨w.heap.size, 0, none⟩) 4 4) (w.alloc (.cells #[.string a, .string b, .string c, .string d] 9)) := by
  simp only [List.map_toArray, List.map_cons, List.map_nil, h]
  kernel_rfl
theorem lit_str3 (a b c : ByteArray) (ρ : Operand → Value) (w : World) (h : ∀ v, ρ (.const v) = v) : (Instr.buildSlice 66 3 ((#[(0, .const (.string a)), (1, .const (.string b)), (2, .const (.string c))] : Array (Nat × Operand)).map fun (i, x) => (i, ρ x))).run Try.prog w = .ok (.slice (some ⟨w.heap.size, 0, none⟩) 3 3) (w.alloc (.cells #[.string a, .string b, .string c] 9)) := by
  simp only [List.map_toArray, List.map_cons, List.map_nil, h]
  kernel_rfl
theorem lit_str2 (a b : ByteArray) (ρ : Operand → Value) (w : World) (h : ∀ v, ρ (.const v) = v) : (Instr.buildSlice 66 2 ((#[(0, .const (.string a)), (1, .const (.string b))] : Array (Nat × Operand)).map fun (i, x) => (i, ρ x))).run Try.prog w = .ok (.slice (some ⟨w.heap.size, 0, none⟩) 2 2) (w.alloc (.cells #[.string a, .string b] 9)) := by
  simp only [List.map_toArray, List.map_cons, List.map_nil, h]
  kernel_rfl
theorem st_load (hg : o.guard = none) (hap : dstApart hd = true) {x : Nat} {t : TypeId} {p : Addr} {c : Value} (ho : o.op = .load t (.tmp x)) (hx : hd.all (fun o => o.dst != some x) = true) (hc : a.eval (.tmp x) = .pointer (some p)) (hr : ∀ w, G w → (Instr.loadAt t (.pointer (some p))).run Try.prog w = .ok c w) (hp : phi φs i = fun v _ => v = c) : StepOk Try.prog Q ops hd a (Rab r) G φs i o :=
  .run hg hap fun u ρ w k => ⟨c, w, by simp only [execOp, ho, (k.rho.other x hx).trans hc, Sem.run_bind, hr w k.good, Result.andThen_ok, Sem.run_pure], k.good, Rab.refl _ _, by rw [hp]⟩
theorem store_str (w : World) (g i : Nat) (s : ByteArray) {t : TypeId} {cs : Array Value} (h : Blk w g t cs) (hi : i < cs.size) : (Instr.storeAt 9 (.pointer (some ⟨g, i, none⟩)) (.string s)).run Try.prog w = .ok () (w.setCell ⟨g, i, none⟩ (.string s)) := by
  have c0 := h.cell i
  have f0 := h.frozen i
  rw [Array.getElem?_eq_getElem hi] at c0
  have hu := Try.underlying9
  simp [go_sem, c0, f0]
theorem strSize : (Try.prog.info? 9).map (·.size) = some 1 := by kernel_rfl
end
end Go.Proofs.Ytiogpomgpknjlaa
