/- Add of the reference of chapter 28. No condition. -/
import Derived.Test.YtiogpomgpknjlaaTalA
namespace Go.Proofs.Ytiogpomgpknjlaa
open Go.RowKit
set_option linter.unusedVariables false
set_option linter.unusedSimpArgs false

/-- append of one element onto a slice without room: a new row -/
theorem wpList_appendG {P : Program} {ops : Array Oper} {rest : List Oper} {o : Oper} {a : Act} {w : World} {Q : Exit → Act → World → Prop} (hgd : o.guard = none) (s x : Operand) (t : TypeId)
    (ho : o.op = .call { callee := .builtin .append, args := #[s, x], argTypes := #[t, t] })
    {e : TypeId} {z : Value} {size bytes : Nat} (ht : P.underlying t = some (.slice e)) (hi : (P.info? e).map (fun i => (i.zero, i.size, i.bytes)) = some (some z, size, bytes)) (hzs : z.cells.size = size) (hsz : 0 < size)
    {b : Addr} {n : Nat} {olds : List Value} (hs : a.eval s = .slice (some b) n n) (hlo : olds.length = n * size) (holds : ∀ j u, olds[j]? = some u → w.cell? (b.add j) = some u)
    {a2 : Addr} {m c : Nat} {news : List Value} (hx : a.eval x = .slice (some a2) m c) (hl : news.length = m * size) (hnews : ∀ j u, news[j]? = some u → w.cell? (a2.add j) = some u)
    (hb : bytes ≤ 1000) (hm : 0 < m) (hn : n + m ≤ 10000000)
    (h : ∀ v' w', w'.ownsRow w.heap.size e size v' (n + m) (olds ++ news) → w.grownBy w' none → wpList P ops Q rest (a.put o.dst v') w') : wpList P ops Q (o :: rest) a w :=
  wpList_plain hgd fun K hK => by
    obtain ⟨i0, hi0, hz0, hz1, hz2⟩ := info_parts hi
    obtain ⟨v', w', hrun, h2, h3⟩ := run_append_arg_grows (P := P) w t o.type e i0 z size bytes ht hi0 hz0 hz1 hz2 hzs hsz b n n olds hlo holds a2 m c news hl hnews (by omega) (by unfold maxLen; omega) (by
      have : (n + m) * bytes ≤ 10000000 * 1000 := Nat.mul_le_mul hn hb
      omega)
    unfold Oper.wp execOp
    simp only [ho, resolve, invoke, builtin, Sem.run_bind, Sem.run_pure, Result.andThen_ok, List.map_toArray, List.map_cons, List.map_nil, hs, hx, hrun]
    exact hK _ _ (h v' w' h2 h3)
theorem rd_cells {S : Nat → Prop} {w : World} {b off : Nat} {xs : List Value} (h : Rd S w (some ⟨b, off, none⟩) xs) : ∀ j u, xs[j]? = some u → w.cell? ((⟨b, off, none⟩ : Addr).add j) = some u := by
  intro j u hu
  have hlen : 0 < xs.length := by
    rcases Nat.eq_zero_or_pos xs.length with h0 | h0
    · rw [List.eq_nil_of_length_eq_zero h0] at hu; simp at hu
    · exact h0
  obtain ⟨b', off', e, _, _, hc⟩ := h hlen
  injection e with e
  injection e with e1 e2
  subst e1 e2
  have hadd : (⟨b, off, none⟩ : Addr).add j = ⟨b, off + j, none⟩ := by unfold Addr.add; split <;> simp_all
  rw [hadd]; exact hc j u hu

theorem tals_set {w : World} {base g c i : Nat} {l : List Tal} {t : Tal} (h : w.ownsRow base 62 3 (.slice (some ⟨g, 0, none⟩) l.length c) l.length (l.flatMap Tal.cells)) (ht : l[i]? = some t) (n : Int) :
    (w.setCell ⟨g, i * 3 + 2, none⟩ (.int .i64 n)).ownsRow base 62 3 (.slice (some ⟨g, 0, none⟩) l.length c) l.length ((l.set i ⟨t.host, t.rule, n⟩).flatMap Tal.cells) ∧ w.grownBy (w.setCell ⟨g, i * 3 + 2, none⟩ (.int .i64 n)) (some g) := by
  have hi : i < l.length := by
    rcases Nat.lt_or_ge i l.length with h' | h'
    · exact h'
    · rw [List.getElem?_eq_none h'] at ht; cases ht
  have hst := h.stored (i * 3 + 2) (.int .i64 n)
  have hti : l[i] = t := by rw [List.getElem?_eq_getElem hi] at ht; injection ht
  have e1 : (l.flatMap Tal.cells).set (i * 3 + 2) (.int .i64 n) = (l.set i ⟨t.host, t.rule, n⟩).flatMap Tal.cells := flat_set Tal.cells_len l i 2 hi ⟨t.host, t.rule, n⟩ _ (by omega) (by rw [hti]; rfl)
  rw [e1] at hst
  exact hst
theorem hown_base {w : World} {base base' e size n : Nat} {v : Value} {xs : List Value} (h : w.ownsRow base e size v n xs) (hb : base' ≤ base) : w.ownsRow base' e size v n xs := by
  obtain ⟨h1, h2⟩ := h
  refine ⟨h1, ?_⟩
  rcases h2 with h2 | ⟨g, cap, cur, e1, hg, h3⟩
  · exact .inl h2
  · exact .inr ⟨g, cap, cur, e1, Nat.le_trans hb hg, h3⟩
theorem own_take {w : World} {base g c n : Nat} {l : List Tal} (h : w.ownsRow base 62 3 (.slice (some ⟨g, 0, none⟩) n c) n (l.flatMap Tal.cells)) (k : Nat) : Rd (fun _ => True) w (some ⟨g, 0, none⟩) ((l.take k).flatMap Tal.cells) := by
  obtain ⟨A', c', e', h1', h2', -, hr'⟩ := Rd.of_own h (by decide)
  injection e' with e1 e2 e3
  rw [← e1] at hr'
  have := (hr'.take (k * 3)).mono (S' := fun _ => True) (fun _ _ _ => trivial)
  rw [← tflat_take] at this
  exact this
theorem own_cap {w : World} {base g c n e size : Nat} {xs : List Value} (h : w.ownsRow base e (size + 1) (.slice (some ⟨g, 0, none⟩) n c) n xs) : n ≤ c := by
  obtain ⟨A', c', e', h1', h2', -, hr'⟩ := Rd.of_own h (by omega)
  injection e' with e1 e2 e3
  omega
theorem own_capm {w : World} {base g c n e size : Nat} {xs : List Value} (h : w.ownsRow base e (size + 1) (.slice (some ⟨g, 0, none⟩) n c) n xs) : c ≤ 9223372036854775807 := by
  obtain ⟨A', c', e', h1', h2', -, hr'⟩ := Rd.of_own h (by omega)
  injection e' with e1 e2 e3
  unfold maxLen at h2'
  omega
theorem Rd.cutS {S : Nat → Prop} {w : World} {b off : Nat} {xs : List Value} {cap n size k : Nat} (h : Rd S w (some ⟨b, off, none⟩) xs) (hl : xs.length = n * size) (hn : n ≤ cap) (hk : k ≤ n) : Rd S w (if cap = k then some ⟨b, off, none⟩ else some ⟨b, off + k * size, none⟩) (xs.drop (k * size)) := by
  have := h.cut (cap := cap) hl hn hk
  have hadd : (⟨b, off, none⟩ : Addr).add (k * size) = ⟨b, off + k * size, none⟩ := by unfold Addr.add; split <;> simp_all
  rw [Option.map_some, hadd] at this
  exact this
theorem Rd.dropS {S : Nat → Prop} {w : World} {b off : Nat} {xs : List Value} (h : Rd S w (some ⟨b, off, none⟩) xs) (m : Nat) : Rd S w (some ⟨b, off + m, none⟩) (xs.drop m) := by
  have := h.drop m
  have hadd : (⟨b, off, none⟩ : Addr).add m = ⟨b, off + m, none⟩ := by unfold Addr.add; split <;> simp_all
  rw [Option.map_some, hadd] at this
  exact this
theorem pre_step {l : List Tal} {x t : Tal} {k : Nat} (h : ∀ j u, j < k → l[j]? = some u → kl u x) (ht : l[k]? = some t) (hk : kl t x) : ∀ j u, j < k + 1 → l[j]? = some u → kl u x := fun j u hj hu => by
  rcases Nat.lt_or_ge j k with h1 | h1
  · exact h j u h1 hu
  · obtain rfl : j = k := by omega
    rw [ht] at hu; injection hu with hu; rw [← hu]; exact hk
theorem Blk.rdt {w : World} {g : Nat} {t : TypeId} {cs : Array Value} (h : Blk w g t cs) : Rd (fun _ => True) w (some ⟨g, 0, none⟩) cs.toList := fun _ =>
  ⟨g, 0, rfl, trivial, h.lt, fun j u hu => by rw [Nat.zero_add, h.cell j]; simpa using hu⟩
set_option maxHeartbeats 4000000 in
set_option maxRecDepth 100000 in
theorem add_any {S : Nat → Prop} (A : Option Addr) (l : List Tal) (c : Nat) (x : Tal) (w : World) (h : Rd S w A (l.flatMap Tal.cells)) (hl : l.length ≤ 1000) (h0 : 0 < l.length) (hc : l.length ≤ c) (hcm : c ≤ maxLen) (hx : 1 ≤ x.lines ∧ x.lines ≤ 1000000) (hin : TIn 1000000 l) :
    Calls Try.prog 31 #[.slice A l.length c, .int .i64 x.host, .string x.rule, .int .i64 x.lines] w (TalsPost w (mrg l [x])) := by
  have H := Lib.hid (h.mono (S' := fun _ => True) (fun _ _ _ => trivial))
  have HIN := Lib.hid hin
  clear h hin
  unfold maxLen at hcm
  obtain ⟨b, off, rfl, -, hbl, -⟩ := H.out (by rw [tflat_len]; omega)
  generalize hA : (some ⟨b, off, none⟩ : Option Addr) = A at H
  subst hA
  go_enter Try.func31, Try.ntmps31
  go_wp2_with fail
  go_loop [9] (fun i => ∃ k : Nat, k ≤ l.length ∧ i = .int .i64 k ∧ ∀ j t, j < k → l[j]? = some t → kl t x) (fun i => l.length - (intOf i).toNat)
  case atStart => exact ⟨0, Nat.zero_le _, rfl, fun j t hj => absurd hj (by omega)⟩
  case round =>
    obtain ⟨k, hk, rfl, hpre⟩ := hrel
    have PRE := Lib.hid hpre
    clear hpre
    by_cases hlt : k < l.length
    · obtain ⟨t, ht⟩ : ∃ t, l[k]? = some t := ⟨_, List.getElem?_eq_getElem hlt⟩
      obtain ⟨b', off', e', x0, x1, x2⟩ := H.out.tal ht
      injection e' with e'
      injection e' with e1 e2
      subst e1 e2
      have HT := Lib.hid ht
      have htl := HIN.out t (List.mem_of_getElem? ht)
      have hki : (k : Int) < (l.length : Int) := by omega
      have hk0 : (0 : Int) ≤ (k : Int) := by omega
      clear ht
      by_cases q1 : t.host < x.host
      · have d1 : decide (t.host < x.host) = true := by simp; omega
        go_wp2_with fail
        go_round
        case rel => exact ⟨k + 1, by omega, by go_num, pre_step PRE.out HT.out (.inl q1)⟩
        case measure => simp [intOf]; omega
      · have d1 : decide (t.host < x.host) = false := by simp; omega
        by_cases q2 : t.host = x.host
        · have d2 : (t.host == x.host) = true := by simp [q2]
          have Q2 := Lib.hid q2
          clear q2
          cases q3 : sl t.rule x.rule with
          | true =>
            have d3 : Op.bytesLess t.rule.toList x.rule.toList = true := q3
            go_wp2_with fail
            go_round
            case rel => exact ⟨k + 1, by omega, by go_num, pre_step PRE.out HT.out (.inr ⟨Q2.out, d3⟩)⟩
            case measure => simp [intOf]; omega
          | false =>
            have d3 : Op.bytesLess t.rule.toList x.rule.toList = false := q3
            cases q4 : sl x.rule t.rule with
            | true =>
              have d4 : (t.rule.toList == x.rule.toList) = false := by
                rw [beq_eq_false_iff_ne]; intro e; rw [toList_inj e, sl_irrefl] at q4; cases q4
              have NX : Hid (∀ u, l[k]? = some u → kl x u) := fun u hu => by rw [HT.out] at hu; injection hu with hu; subst hu; exact .inr ⟨Q2.out.symm, q4⟩
              clear q3 q4
              have hlen1 : (l.flatMap Tal.cells).length = l.length * 3 := tflat_len l
              have HMR : Hid (mrg l [x] = l.take k ++ x :: l.drop k) := mrg_at k PRE.out NX.out
              go_wp2_with (first
                | (at_builtin; have htok := hown7; go_must (refine wpList_appendN rfl _ _ 26 rfl w.heap.size Try.underlying26 talInfo rfl (by decide) (v := _) (by rfl) hown7 _ _ _ (by rfl) (HR7.out.dropS (k * 3)) (by rw [List.length_drop, tflat_len, Nat.sub_mul]) (fun u hu => tflat_one _ u (List.mem_of_mem_drop hu)) (by decide) (by omega) (by omega) ?_); intro v8 w8 hown8 hg8 hob8; obtain ⟨A8, c8, rfl, hc8, hm8, -, hr8⟩ := Rd.of_own hown8 (by decide))
                | (at_builtin; have htok := hown5; go_must (refine wpList_appendG rfl _ _ 26 rfl Try.underlying26 talInfo rfl (by decide) (b := ⟨g5, 0, none⟩) (n := k) (olds := (l.take k).flatMap Tal.cells) (by rfl) (by rw [tflat_len, List.length_take]; omega) (rd_cells (HO5.out.alloc _)) (a2 := ⟨w5.heap.size, 0, none⟩) (m := 1) (c := 1) (news := x.cells) (by rfl) rfl (rd_cells (Blk.new w5 62 x.cells.toArray).rdt) (by decide) (by decide) (by omega) ?_); intro v7 w7 hown7' hg7; have hown7 := hown_base hown7' (show w.heap.size ≤ _ by simp; omega); obtain ⟨A7, c7, rfl, hc7, hm7, -, -⟩ := Rd.of_own hown7 (by decide); have HR7 := Lib.hid (((H.out.grown hg5 (by simp [Value.ownBlock])).alloc (.cells x.cells.toArray 62)).grown hg7 (by simp)); have hs7 := hg7.size; simp only [World.size_alloc] at hs7)
                | (at_builtin; go_must (refine wpList_appendN rfl _ _ 26 rfl w.heap.size Try.underlying26 talInfo rfl (by decide) (v := .slice none 0 0) (by rfl) (World.ownsRow_nil _ _ _ _) (some ⟨b, off, none⟩) l.length c (by rfl) H.out hlen1 (tflat_one l) (by decide) (by omega) (Nat.le_refl _) ?_); intro v5 w5 hown5 hg5 hob5; simp only [Nat.zero_add, List.nil_append] at hown5; obtain ⟨g5, c5, rfl, hb5, hl5⟩ := hown5.form (by omega); have HO5 : Hid (Rd (fun _ => True) w5 (some ⟨g5, 0, none⟩) ((l.take k).flatMap Tal.cells)) := own_take hown5 k; have hc5 : l.length ≤ c5 := own_cap hown5; have hcm5 : c5 ≤ 9223372036854775807 := own_capm hown5; have hs5 := hg5.size; obtain ⟨b', off', e', y0, y1, y2⟩ := (H.out.grown hg5 (by simp [Value.ownBlock])).tal HT.out; injection e' with e'; injection e' with e1 e2; subst e1 e2))
              all_goals
                have hfin : w8.ownsRow w.heap.size 62 3 (.slice A8 (k + 1 + (l.length - k)) c8) (mrg l [x]).length ((mrg l [x]).flatMap Tal.cells) := by
                  have e1 : k + 1 + (l.length - k) = (mrg l [x]).length := by rw [HMR.out]; simp; omega
                  rw [← e1, HMR.out, List.flatMap_append, List.flatMap_cons, tflat_drop]
                  simpa using hown8
                have HF := Lib.hid hfin
                have G8 : Hid (w.grownBy w8 none) := only_own (only_trans (only_alloc (by simpa [Value.ownBlock] using hg5) _) hg7) hg8 hown7 (Nat.le_refl _)
                clear hown5 hown7 hown7' hown8 hfin hg5 hg7 hg8 hob5 hob8
                go_wp2_with fail
                go_ret
                obtain ⟨A', c', e', f1, f2, -, f3⟩ := Rd.of_own HF.out (by decide)
                injection e' with e1 e2 e3
                subst e1 e3
                exact ⟨A8, c8, by rw [← e2]; rfl, f1, f2, f3, G8.out⟩
            | false =>
              have d4 : (t.rule.toList == x.rule.toList) = true := by rw [sl_tri q3 q4]; simp
              have HMR : Hid (mrg l [x] = l.set k ⟨t.host, t.rule, t.lines + x.lines⟩) := mrg_hit k PRE.out HT.out (fun e => by rcases e with e | ⟨_, e⟩; omega; rw [q3] at e; cases e) (fun e => by rcases e with e | ⟨_, e⟩; have := Q2.out; omega; rw [q4] at e; cases e)
              have hlen1 : (l.flatMap Tal.cells).length = l.length * 3 := tflat_len l
              clear q3 q4
              go_wp2_with (at_builtin; go_must (refine wpList_appendN rfl _ _ 26 rfl w.heap.size Try.underlying26 talInfo rfl (by decide) (v := .slice none 0 0) (by rfl) (World.ownsRow_nil _ _ _ _) (some ⟨b, off, none⟩) l.length c (by rfl) H.out hlen1 (tflat_one l) (by decide) (by omega) (Nat.le_refl _) ?_); intro v5 w5 hown5 hg5 hob5; simp only [Nat.zero_add, List.nil_append] at hown5; obtain ⟨g5, c5, rfl, hb5, hl5⟩ := hown5.form (by omega); have hcm5 : c5 ≤ 9223372036854775807 := own_capm hown5; have hc5 : l.length ≤ c5 := own_cap hown5; obtain ⟨b', off', e', y0, y1, y2⟩ := (H.out.grown hg5 (by simp [Value.ownBlock])).tal HT.out; injection e' with e'; injection e' with e1 e2; subst e1 e2; have z2 := (hown5.cellAt (k * 3 + 2) (by omega)).trans (tflat_at HT.out 2 (by omega)); simp [Tal.cells] at z2; have zf := hown5.frozenAt (k * 3 + 2))
              have hst := tals_set hown5 HT.out (t.lines + x.lines)
              rw [← HMR.out] at hst
              have hln : (mrg l [x]).length = l.length := by rw [HMR.out]; simp
              have hG := only_fresh (show w.grownBy w5 none by simpa [Value.ownBlock] using hg5) hst.2 hb5
              have HST := Lib.hid hst.1
              have HLN := Lib.hid hln
              clear hst hln hg5 hown5 hob5
              go_wp2_with fail
              go_ret
              obtain ⟨A', c', e', f1, f2, -, f3⟩ := Rd.of_own HST.out (by decide)
              injection e' with e1 e2 e3
              subst e1 e3
              exact ⟨some ⟨g5, 0, none⟩, c5, by rw [HLN.out]; rfl, by rw [HLN.out]; exact f1, f2, f3, hG⟩
        · have d2 : (t.host == x.host) = false := by simp [q2]
          have NX : Hid (∀ u, l[k]? = some u → kl x u) := fun u hu => by rw [HT.out] at hu; injection hu with hu; subst hu; exact .inl (by omega)
          clear q2
          have hlen1 : (l.flatMap Tal.cells).length = l.length * 3 := tflat_len l
          have HMR : Hid (mrg l [x] = l.take k ++ x :: l.drop k) := mrg_at k PRE.out NX.out
          go_wp2_with (first
            | (at_builtin; have htok := hown7; go_must (refine wpList_appendN rfl _ _ 26 rfl w.heap.size Try.underlying26 talInfo rfl (by decide) (v := _) (by rfl) hown7 _ _ _ (by rfl) (HR7.out.dropS (k * 3)) (by rw [List.length_drop, tflat_len, Nat.sub_mul]) (fun u hu => tflat_one _ u (List.mem_of_mem_drop hu)) (by decide) (by omega) (by omega) ?_); intro v8 w8 hown8 hg8 hob8; obtain ⟨A8, c8, rfl, hc8, hm8, -, hr8⟩ := Rd.of_own hown8 (by decide))
            | (at_builtin; have htok := hown5; go_must (refine wpList_appendG rfl _ _ 26 rfl Try.underlying26 talInfo rfl (by decide) (b := ⟨g5, 0, none⟩) (n := k) (olds := (l.take k).flatMap Tal.cells) (by rfl) (by rw [tflat_len, List.length_take]; omega) (rd_cells (HO5.out.alloc _)) (a2 := ⟨w5.heap.size, 0, none⟩) (m := 1) (c := 1) (news := x.cells) (by rfl) rfl (rd_cells (Blk.new w5 62 x.cells.toArray).rdt) (by decide) (by decide) (by omega) ?_); intro v7 w7 hown7' hg7; have hown7 := hown_base hown7' (show w.heap.size ≤ _ by simp; omega); obtain ⟨A7, c7, rfl, hc7, hm7, -, -⟩ := Rd.of_own hown7 (by decide); have HR7 := Lib.hid (((H.out.grown hg5 (by simp [Value.ownBlock])).alloc (.cells x.cells.toArray 62)).grown hg7 (by simp)); have hs7 := hg7.size; simp only [World.size_alloc] at hs7)
            | (at_builtin; go_must (refine wpList_appendN rfl _ _ 26 rfl w.heap.size Try.underlying26 talInfo rfl (by decide) (v := .slice none 0 0) (by rfl) (World.ownsRow_nil _ _ _ _) (some ⟨b, off, none⟩) l.length c (by rfl) H.out hlen1 (tflat_one l) (by decide) (by omega) (Nat.le_refl _) ?_); intro v5 w5 hown5 hg5 hob5; simp only [Nat.zero_add, List.nil_append] at hown5; obtain ⟨g5, c5, rfl, hb5, hl5⟩ := hown5.form (by omega); have HO5 : Hid (Rd (fun _ => True) w5 (some ⟨g5, 0, none⟩) ((l.take k).flatMap Tal.cells)) := own_take hown5 k; have hc5 : l.length ≤ c5 := own_cap hown5; have hcm5 : c5 ≤ 9223372036854775807 := own_capm hown5; have hs5 := hg5.size; obtain ⟨b', off', e', y0, y1, y2⟩ := (H.out.grown hg5 (by simp [Value.ownBlock])).tal HT.out; injection e' with e'; injection e' with e1 e2; subst e1 e2))
          all_goals
            have hfin : w8.ownsRow w.heap.size 62 3 (.slice A8 (k + 1 + (l.length - k)) c8) (mrg l [x]).length ((mrg l [x]).flatMap Tal.cells) := by
              have e1 : k + 1 + (l.length - k) = (mrg l [x]).length := by rw [HMR.out]; simp; omega
              rw [← e1, HMR.out, List.flatMap_append, List.flatMap_cons, tflat_drop]
              simpa using hown8
            have HF := Lib.hid hfin
            have G8 : Hid (w.grownBy w8 none) := only_own (only_trans (only_alloc (by simpa [Value.ownBlock] using hg5) _) hg7) hg8 hown7 (Nat.le_refl _)
            clear hown5 hown7 hown7' hown8 hfin hg5 hg7 hg8 hob5 hob8
            go_wp2_with fail
            go_ret
            obtain ⟨A', c', e', f1, f2, -, f3⟩ := Rd.of_own HF.out (by decide)
            injection e' with e1 e2 e3
            subst e1 e3
            exact ⟨A8, c8, by rw [← e2]; rfl, f1, f2, f3, G8.out⟩
    · have NX : Hid (∀ u, l[k]? = some u → kl x u) := fun u hu => by rw [List.getElem?_eq_none (by omega)] at hu; cases hu
      have hlen1 : (l.flatMap Tal.cells).length = l.length * 3 := tflat_len l
      have HMR : Hid (mrg l [x] = l.take k ++ x :: l.drop k) := mrg_at k PRE.out NX.out
      go_wp2_with (first
        | (at_builtin; have htok := hown7; go_must (refine wpList_appendN rfl _ _ 26 rfl w.heap.size Try.underlying26 talInfo rfl (by decide) (v := _) (by rfl) hown7 _ _ _ (by rfl) (HR7.out.cutS (n := l.length) (k := k) (size := 3) (cap := c) (tflat_len l) hc (by omega)) (by rw [List.length_drop, tflat_len, Nat.sub_mul]) (fun u hu => tflat_one _ u (List.mem_of_mem_drop hu)) (by decide) (by omega) (by omega) ?_); intro v8 w8 hown8 hg8 hob8; obtain ⟨A8, c8, rfl, hc8, hm8, -, hr8⟩ := Rd.of_own hown8 (by decide))
        | (at_builtin; have htok := hown5; go_must (refine wpList_appendG rfl _ _ 26 rfl Try.underlying26 talInfo rfl (by decide) (b := ⟨g5, 0, none⟩) (n := k) (olds := (l.take k).flatMap Tal.cells) (by rfl) (by rw [tflat_len, List.length_take]; omega) (rd_cells (HO5.out.alloc _)) (a2 := ⟨w5.heap.size, 0, none⟩) (m := 1) (c := 1) (news := x.cells) (by rfl) rfl (rd_cells (Blk.new w5 62 x.cells.toArray).rdt) (by decide) (by decide) (by omega) ?_); intro v7 w7 hown7' hg7; have hown7 := hown_base hown7' (show w.heap.size ≤ _ by simp; omega); obtain ⟨A7, c7, rfl, hc7, hm7, -, -⟩ := Rd.of_own hown7 (by decide); have HR7 := Lib.hid (((H.out.grown hg5 (by simp [Value.ownBlock])).alloc (.cells x.cells.toArray 62)).grown hg7 (by simp)); have hs7 := hg7.size; simp only [World.size_alloc] at hs7)
        | (at_builtin; go_must (refine wpList_appendN rfl _ _ 26 rfl w.heap.size Try.underlying26 talInfo rfl (by decide) (v := .slice none 0 0) (by rfl) (World.ownsRow_nil _ _ _ _) (some ⟨b, off, none⟩) l.length c (by rfl) H.out hlen1 (tflat_one l) (by decide) (by omega) (Nat.le_refl _) ?_); intro v5 w5 hown5 hg5 hob5; simp only [Nat.zero_add, List.nil_append] at hown5; obtain ⟨g5, c5, rfl, hb5, hl5⟩ := hown5.form (by omega); have HO5 : Hid (Rd (fun _ => True) w5 (some ⟨g5, 0, none⟩) ((l.take k).flatMap Tal.cells)) := own_take hown5 k; have hc5 : l.length ≤ c5 := own_cap hown5; have hcm5 : c5 ≤ 9223372036854775807 := own_capm hown5; have hs5 := hg5.size))
      all_goals
        have hfin : w8.ownsRow w.heap.size 62 3 (.slice A8 (k + 1 + (l.length - k)) c8) (mrg l [x]).length ((mrg l [x]).flatMap Tal.cells) := by
          have e1 : k + 1 + (l.length - k) = (mrg l [x]).length := by rw [HMR.out]; simp; omega
          rw [← e1, HMR.out, List.flatMap_append, List.flatMap_cons, tflat_drop]
          simpa using hown8
        have HF := Lib.hid hfin
        have G8 : Hid (w.grownBy w8 none) := only_own (only_trans (only_alloc (by simpa [Value.ownBlock] using hg5) _) hg7) hg8 hown7 (Nat.le_refl _)
        clear hown5 hown7 hown7' hown8 hfin hg5 hg7 hg8 hob5 hob8
        go_wp2_with fail
        go_ret
        obtain ⟨A', c', e', f1, f2, -, f3⟩ := Rd.of_own HF.out (by decide)
        injection e' with e1 e2 e3
        subst e1 e3
        exact ⟨A8, c8, by rw [← e2]; rfl, f1, f2, f3, G8.out⟩
theorem wpList_append00 {P : Program} {ops : Array Oper} {rest : List Oper} {o : Oper} {a : Act} {w : World} {Q : Exit → Act → World → Prop} (hgd : o.guard = none) (s x : Operand) (t : TypeId)
    (ho : o.op = .call { callee := .builtin .append, args := #[s, x], argTypes := #[t, t] }) {e : TypeId} {z : Value} {size bytes : Nat} (ht : P.underlying t = some (.slice e)) (hi : (P.info? e).map (fun i => (i.zero, i.size, i.bytes)) = some (some z, size, bytes))
    (hs : a.eval s = .slice none 0 0) (hx : a.eval x = .slice none 0 0) (h : wpList P ops Q rest (a.put o.dst (.slice none 0 0)) w) : wpList P ops Q (o :: rest) a w :=
  wpList_plain hgd fun K hK => by
    obtain ⟨i0, hi0, hz0, hz1, hz2⟩ := info_parts hi
    have hrun : (Builtin.append_ #[t, t] o.type #[.slice none 0 0, .slice none 0 0]).run P w = .ok (.slice none 0 0) w := by
      simp [Builtin.append_, run_underlying ht, sizeOf, typeInfo, hi0, Builtin.lenOf, Builtin.firstCells]
    unfold Oper.wp execOp
    simp only [ho, resolve, invoke, builtin, Sem.run_bind, Sem.run_pure, Result.andThen_ok, List.map_toArray, List.map_cons, List.map_nil, hs, hx, hrun]
    exact hK _ _ h
set_option maxHeartbeats 4000000 in
set_option maxRecDepth 100000 in
theorem add_nil (x : Tal) (w : World) (hx : 1 ≤ x.lines ∧ x.lines ≤ 1000000) :
    Calls Try.prog 31 #[.slice none 0 0, .int .i64 x.host, .string x.rule, .int .i64 x.lines] w (TalsPost w [x]) := by
  go_enter Try.func31, Try.ntmps31
  go_wp2_with fail
  go_loop [9] (fun i => i = .int .i64 0) (fun i => 1)
  case atStart => rfl
  case round =>
    obtain rfl := hrel
    have tok1 : True := trivial
    go_wp2_with (first
      | (at_builtin; have htok := hown7; go_must (refine wpList_appendN rfl _ _ 26 rfl w.heap.size Try.underlying26 talInfo rfl (by decide) (v := _) (by rfl) hown7 none 0 0 (by rfl) (S := fun _ => True) (news := []) Rd.nil rfl (by simp) (by decide) (by omega) hs7 ?_); intro v8 w8 hown8 hg8 hob8; obtain ⟨A8, c8, rfl, hc8, hm8, -, hr8⟩ := Rd.of_own hown8 (by decide))
      | (at_builtin; have htok := tok1; refine wpList_append00 rfl _ _ 26 rfl Try.underlying26 talInfo (by rfl) (by rfl) ?_; clear tok1)
      | (at_builtin; go_must (refine wpList_append1 rfl _ _ 26 rfl w.heap.size Try.underlying26 talInfo rfl (by decide) (v := _) (by rfl) (w0 := w) (cs := x.cells.toArray) (World.ownsRow_nil _ _ _ _) (by rfl) rfl (by simpa using Tal.one x) (by decide) (by omega) (Nat.le_refl _) ?_); intro v7 w7 hown7 hg7 hob7; obtain ⟨A7, c7, rfl, hc7, hm7, -, -⟩ := Rd.of_own hown7 (by decide); have hs7 := hg7.size))
    all_goals
      have hfin : w8.ownsRow w.heap.size 62 3 (.slice A8 (0 + 1 + 0) c8) ([x] : List Tal).length ([x].flatMap Tal.cells) := by simpa using hown8
      have HF := Lib.hid hfin
      have G8 : Hid (w.grownBy w8 none) := only_own (by simpa [Value.ownBlock] using hg7) hg8 hown7 (Nat.le_refl _)
      clear hown7 hown8 hfin hg7 hg8 hob7 hob8
      go_wp2_with fail
      go_ret
      obtain ⟨A', c', e', f1, f2, -, f3⟩ := Rd.of_own HF.out (by decide)
      injection e' with e1 e2 e3
      subst e1 e3
      exact ⟨A8, c8, rfl, f1, f2, f3, G8.out⟩
end Go.Proofs.Ytiogpomgpknjlaa
