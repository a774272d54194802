/- An event for which a test holds lies in its times, has its terms: plain. No condition. -/
import Derived.Test.YtceebhgbebkafaaGreatDoorHoldA
import Derived.Test.YtceebhgbebkafaaGreatDoorTimesP
import Derived.Test.YtceebhgbebkafaaGreatDoorTerms
import Derived.Test.YtceebhgbebkafaaGreatDoorPrefP
import Derived.Deep.RegionLaw
namespace Go.Proofs.YtceebhgbebkafaaGreatDoor
open Go.RowKit
set_option linter.unusedVariables false
set_option linter.unusedSimpArgs false

theorem numF_app : ∀ (xs ys : List Int) (n : Int), numF (xs ++ ys) n = (numF xs n).bind (numF ys)
  | [], ys, n => rfl
  | x :: xs, ys, n => by
    rw [List.cons_append]
    unfold numF
    by_cases h : 48 ≤ x ∧ x ≤ 57
    · rw [if_pos h, if_pos h]; exact numF_app xs ys _
    · rw [if_neg h, if_neg h]; rfl
def natB (l : List UInt8) : List Int := l.map (fun b => (b.toNat : Int))
theorem dig_toNat {d : Nat} (h : d < 10) : ((UInt8.ofNat (48 + d)).toNat : Int) = 48 + d := by
  have : (UInt8.ofNat (48 + d)).toNat = 48 + d := by simp [UInt8.toNat_ofNat]; omega
  rw [this]; omega
theorem numF_dec (u : Nat) : numF (natB (Lib.decDigits u)) 0 = some (u : Int) := by
  induction u using Nat.strongRecOn with
  | _ u ih =>
    rw [Lib.decDigits]
    by_cases h : u < 10
    · rw [dif_pos h]
      show numF [((UInt8.ofNat (48 + u)).toNat : Int)] 0 = _
      unfold numF numF
      rw [dig_toNat h, if_pos (by omega)]
      congr 1; omega
    · rw [dif_neg h]
      have : natB (Lib.decDigits (u / 10) ++ [UInt8.ofNat (48 + u % 10)]) = natB (Lib.decDigits (u / 10)) ++ [((UInt8.ofNat (48 + u % 10)).toNat : Int)] := by simp [natB]
      rw [this, numF_app, ih (u / 10) (by omega)]
      show numF [_] _ = _
      unfold numF numF
      rw [dig_toNat (by omega), if_pos (by omega)]
      congr 1; omega
theorem nDigits_le : ∀ (k u : Nat), 1 ≤ k → u < 10 ^ k → Lib.nDigits u ≤ k
  | 0, _, h, _ => by omega
  | k + 1, u, _, h => by
    by_cases h10 : u < 10
    · rw [Lib.nDigits_small h10]; omega
    · rw [Lib.nDigits_big h10]
      by_cases hk : k = 0
      · subst hk; simp at h; omega
      · have := nDigits_le k (u / 10) (by omega) (by rw [Nat.pow_succ] at h; omega)
        omega
theorem parse_itoa {n : Int} (h0 : 0 ≤ n) (h1 : n < 1000000000000000000) : parseN (itoaB n) = some n := by
  obtain ⟨u, rfl⟩ : ∃ u : Nat, n = u := ⟨n.toNat, by omega⟩
  have hb : bts (itoaB (u : Int)) = natB (Lib.decDigits u) := by
    unfold bts itoaB natB
    rw [Lib.itoa_nonneg]
  have hd := numF_dec u
  have hm : minusB (itoaB (u : Int)) = false := by
    cases hmm : minusB (itoaB (u : Int)) with
    | false => rfl
    | true =>
      exfalso
      unfold minusB itoaB at hmm
      rw [Lib.itoa_nonneg] at hmm
      obtain ⟨t, ht⟩ := hp_one _ hmm
      have ht' : Lib.decDigits u = 45 :: t := by simpa using ht
      rw [ht'] at hd
      have : numF (natB (45 :: t)) 0 = none := by
        show numF (((45 : UInt8).toNat : Int) :: natB t) 0 = none
        unfold numF
        rw [if_neg (by decide)]
      rw [this] at hd; cases hd
  have hl : (natB (Lib.decDigits u)).length = Lib.nDigits u := by unfold natB; rw [List.length_map, Lib.decDigits_length]
  have h1' := Lib.nDigits_pos u
  have h2 := nDigits_le 18 u (by omega) (by have : (10 : Nat) ^ 18 = 1000000000000000000 := by decide
                                            omega)
  unfold parseN digsOf
  rw [hm]
  simp only [Bool.false_eq_true, if_false]
  rw [hb, hl, if_neg (by omega), hd]
  rfl
theorem nTime_eq : nTime = timeName := rfl
theorem num_time {e : Ev} (h0 : 0 ≤ e.time) (h1 : e.time ≤ 253402300799999) : numOf e timeName = some e.time := by
  have : valOf e timeName = some (itoaB e.time) := by
    unfold valOf
    rw [if_neg (by decide), if_neg (by decide), if_pos nTime_eq.symm]
  unfold numOf
  rw [this]
  exact parse_itoa h0 (by omega)
def InT (x : Int) (p : Int × Int) : Prop := p.1 ≤ x ∧ x ≤ p.2
theorem meet_in {x : Int} {a b : Int × Int} (ha : InT x a) (hb : InT x b) : InT x (pMeet a b) := by
  unfold InT pMeet at *; simp only; omega
theorem join_l {x : Int} {a b : Int × Int} (ha : InT x a) : InT x (pJoin a b) := by
  unfold InT pJoin at *
  split
  · omega
  · split
    · exact ha
    · simp only; omega
theorem join_r {x : Int} {a b : Int × Int} (hb : InT x b) : InT x (pJoin a b) := by
  unfold InT pJoin at *
  split
  · exact hb
  · split
    · omega
    · simp only; omega
theorem foldl_meet {x : Int} {f : TT → Int × Int} : ∀ (l : List TT) (s : Int × Int), (∀ k ∈ l, InT x (f k)) → InT x s → InT x (l.foldl (fun s k => pMeet s (f k)) s)
  | [], s, _, hs => hs
  | k :: l, s, h, hs => foldl_meet l _ (fun y hy => h y (List.mem_cons_of_mem _ hy)) (meet_in hs (h k (List.mem_cons_self ..)))
theorem foldl_join_s {x : Int} {f : TT → Int × Int} : ∀ (l : List TT) (s : Int × Int), InT x s → InT x (l.foldl (fun s k => pJoin s (f k)) s)
  | [], s, hs => hs
  | k :: l, s, hs => foldl_join_s l _ (join_l hs)
theorem foldl_join {x : Int} {f : TT → Int × Int} : ∀ (l : List TT) (s : Int × Int), (∃ k ∈ l, InT x (f k)) → InT x (l.foldl (fun s k => pJoin s (f k)) s)
  | [], s, h => by obtain ⟨k, hk, _⟩ := h; cases hk
  | k :: l, s, h => by
    obtain ⟨y, hy, hx⟩ := h
    rcases List.mem_cons.1 hy with rfl | hy
    · exact foldl_join_s l _ (join_r hx)
    · exact foldl_join l _ ⟨y, hy, hx⟩
theorem hold_and {e : Ev} {n : Nat} {t : TT} (h6 : t.op = 6) (h : holdB e (n + 1) t = true) : ∀ k ∈ t.kids, holdB e n k = true := by
  intro k hk
  unfold holdB at h
  simp [h6] at h
  exact h k hk
theorem hold_or {e : Ev} {n : Nat} {t : TT} (h7 : t.op = 7) (h : holdB e (n + 1) t = true) : ∃ k ∈ t.kids, holdB e n k = true := by
  unfold holdB at h
  simp [h7] at h
  exact h
theorem times_safe {e : Ev} (h0 : 0 ≤ e.time) (h1 : e.time ≤ 253402300799999) : ∀ (n : Nat) (t : TT), holdB e n t = true → InT e.time (pTimes n t)
  | 0, t, h => by cases h
  | n + 1, t, h => by
    have hw : InT e.time (0, 253402300799999) := ⟨h0, h1⟩
    unfold pTimes
    by_cases h6 : t.op = 6
    · rw [if_pos h6]
      exact foldl_meet _ _ (fun k hk => times_safe h0 h1 n k (hold_and h6 h k hk)) hw
    rw [if_neg h6]
    by_cases h7 : t.op = 7
    · rw [if_pos h7]
      obtain ⟨k, hk, hh⟩ := hold_or h7 h
      exact foldl_join _ _ ⟨k, hk, times_safe h0 h1 n k hh⟩
    rw [if_neg h7]
    by_cases hn : t.nm = timeName
    · rw [if_neg (by simp [hn])]
      have hnum := num_time h0 h1
      by_cases h9 : t.op = 9
      · have hc : e.time < t.num := by
          unfold holdB at h
          simp [h9, hn, hnum, onNum] at h
          exact h
        by_cases hm : t.num ≤ 253402300799999
        · rw [if_pos ⟨h9, hm⟩]
          exact ⟨h0, by show e.time ≤ max t.num 0 - 1; omega⟩
        · rw [if_neg (by omega), if_neg (by omega), if_neg (by omega)]; exact hw
      rw [if_neg (by omega)]
      by_cases h10 : t.op = 10
      · have hc : t.num < e.time := by
          unfold holdB at h
          simp [h10, hn, hnum, onNum] at h
          exact h
        by_cases hm : 0 ≤ t.num
        · rw [if_pos ⟨h10, hm⟩]
          exact ⟨by show min t.num 253402300799999 + 1 ≤ e.time; omega, h1⟩
        · rw [if_neg (by omega), if_neg (by omega)]; exact hw
      rw [if_neg (by omega)]
      by_cases h11 : t.op = 11
      · have hc : e.time = t.num := by
          unfold holdB at h
          simp [h11, hn, hnum, onNum] at h
          exact h
        rw [if_pos h11]
        exact meet_in hw ⟨by show t.num ≤ e.time; omega, by show e.time ≤ t.num; omega⟩
      · rw [if_neg h11]; exact hw
    · rw [if_pos hn]; exact hw
theorem getF_field : ∀ {fs : List FieldD} {nm v : ByteArray}, getF fs nm = some v → ∃ f ∈ fs, f.name = nm ∧ f.value = v
  | [], _, _, h => by cases h
  | f :: fs, nm, v, h => by
    unfold getF at h
    split at h
    · rename_i hn
      injection h with h; exact ⟨f, List.mem_cons_self .., hn, h⟩
    · obtain ⟨g, hg, e⟩ := getF_field h; exact ⟨g, List.mem_cons_of_mem _ hg, e⟩
/-- the term of a test that holds is one of the event's -/
theorem term_safe {e : Ev} {n : Nat} {t : TT} {s : ByteArray} (ht : t.term = some s) (h : holdB e (n + 1) t = true) : s ∈ rawT e := by
  unfold TT.term at ht
  split at ht
  · rename_i h1
    injection ht with ht
    unfold holdB at h
    simp [h1] at h
    rw [Lib.containsS_iff] at h
    rw [← ht]
    exact List.mem_append_left _ ((dist_mem _ _).1 h)
  · split at ht
    · rename_i h4
      obtain ⟨h4, hat⟩ := h4
      injection ht with ht
      unfold holdB at h
      simp [h4] at h
      cases hv : valOf e t.nm with
      | none => rw [hv] at h; cases h
      | some v =>
        rw [hv] at h
        have hvt : v = t.tx := by
          unfold eqTo at h
          exact toList_inj (by simpa using h)
        have hne : ∀ x : ByteArray, Lib.hasPrefix x.data.toList [64] = true → t.nm ≠ x := by
          intro x hx e1
          rw [e1, hx] at hat; cases hat
        unfold valOf at hv
        rw [if_neg (hne nHost (by decide)), if_neg (hne nFile (by decide)), if_neg (hne nTime (by decide)), if_neg (hne nWeight (by decide)), if_neg (hne nTrace (by decide)), if_neg (hne nStream (by decide))] at hv
        obtain ⟨f, hf, hfn, hfv⟩ := getF_field hv
        rw [← ht]
        refine List.mem_append_right _ (List.mem_map.2 ⟨f, hf, ?_⟩)
        unfold nmeq
        rw [hfn, hfv, hvt]
    · cases ht
theorem poss_safe {e : Ev} {f : ByteArray → Bool} (hf : ∀ s ∈ rawT e, f s = true) : ∀ (n : Nat) (t : TT), holdB e n t = true → poss f n t = true
  | 0, _, _ => rfl
  | n + 1, t, h => by
    unfold poss
    by_cases h6 : t.op = 6
    · rw [if_pos h6, List.all_eq_true]
      exact fun k hk => poss_safe hf n k (hold_and h6 h k hk)
    rw [if_neg h6]
    by_cases h7 : t.op = 7
    · rw [if_pos h7, List.any_eq_true]
      obtain ⟨k, hk, hh⟩ := hold_or h7 h
      exact ⟨k, hk, poss_safe hf n k hh⟩
    rw [if_neg h7]
    cases ht : t.term with
    | none => rfl
    | some s => exact hf s (term_safe ht h)
theorem foldl_sub {s : ByteArray} : ∀ (l : List (List ByteArray)) (r : List ByteArray), s ∈ l.foldl (fun o r => o.filter (fun s => Lib.containsS r s)) r → s ∈ r ∧ ∀ x ∈ l, s ∈ x
  | [], r, h => ⟨h, fun x hx => by cases hx⟩
  | x :: xs, r, h => by
    obtain ⟨h1, h2⟩ := foldl_sub xs _ h
    rw [List.mem_filter, Lib.containsS_iff] at h1
    refine ⟨h1.1, fun y hy => ?_⟩
    rcases List.mem_cons.1 hy with rfl | hy
    · exact h1.2
    · exact h2 y hy
theorem orF_sub {s : ByteArray} {rs : List (List ByteArray)} (h : s ∈ orF rs) : ∀ r ∈ rs, s ∈ r := by
  cases rs with
  | nil => intro r hr; cases hr
  | cons x xs =>
    obtain ⟨h1, h2⟩ := foldl_sub xs x h
    intro r hr
    rcases List.mem_cons.1 hr with rfl | hr
    · exact h1
    · exact h2 r hr
theorem req_safe {e : Ev} : ∀ (n : Nat) (t : TT), holdB e n t = true → ∀ s ∈ req n t, s ∈ rawT e
  | 0, _, h, s, hs => by cases h
  | n + 1, t, h, s, hs => by
    cases ht : t.term with
    | some x =>
      rw [req_leaf ht] at hs
      rw [List.mem_singleton.1 hs]
      exact term_safe ht h
    | none =>
      by_cases h6 : t.op = 6
      · rw [req_and ht h6, dist_mem] at hs
        obtain ⟨r, hr, hsr⟩ := List.mem_flatten.1 hs
        obtain ⟨k, hk, rfl⟩ := List.mem_map.1 hr
        exact req_safe n k (hold_and h6 h k hk) s hsr
      · by_cases h7 : t.op = 7
        · rw [req_or ht h7] at hs
          obtain ⟨k, hk, hh⟩ := hold_or h7 h
          exact req_safe n k hh s (orF_sub hs _ (List.mem_map_of_mem hk))
        · rw [req_none ht h6 h7] at hs; cases hs
end Go.Proofs.YtceebhgbebkafaaGreatDoor
namespace Go.Proofs.YtceebhgbebkafaaGreatDoor
open Go.RowKit
set_option linter.unusedVariables false
set_option linter.unusedSimpArgs false

theorem EvGood.evV {e : Ev} (h : EvGood e) : EvV e := by
  have ht := h.evT
  obtain ⟨hf, _, _, _, h1, h2, h3, h4, _⟩ := h
  have hw : I64 e.weight := by
    have := hf.2.2.1
    unfold IsWeight at this
    unfold I64
    omega
  have ht1 := hf.1
  have ht2 := hf.2.1
  refine ⟨⟨by unfold I64; omega, by unfold I64; omega, by unfold I64; omega, hw, Nat.le_trans ht.2.2.2.1 (by omega)⟩, ?_, ?_, fun f hfm => (ht.2.2.2.2 f hfm).2⟩
  · have := hf.2.2.2.1; omega
  · have := hf.2.2.2.2.1; omega
theorem wsOf_len {e : Ev} (ht : EvT e) : (wsOf e).length ≤ 1000000 := by
  have h1 := dist_len (rawW (bts (textOf e.lines)))
  have h2 := rawW_len (bts (textOf e.lines))
  rw [bts_length] at h2
  have h3 := ht.2.2.1
  unfold wsOf
  omega
set_option maxHeartbeats 4000000 in
set_option maxRecDepth 100000 in
theorem mHolds_any {S T : Nat → Prop} (e : Ev) (t : TT) (n : Nat) (w : World) (hok : t.Ok n) (hsub : t.Sub n S w) (hs : e.Sub T w) (hev : EvT e) (hv : EvV e) (htb : Pow10 w) (hml : MaxL w) :
    Calls Tryz.prog 11 #[.agg t.cells.toArray, .agg e.cells.toArray] w (BoolP w (holdB e n t)) := by
  have HT : Hid (∀ w', w.grownBy w' none → Calls Tryz.prog 31 #[.agg e.cells.toArray] w' (TextP w' (textOf e.lines))) := fun w' hg => text_any e w' (hs.grown hg (by simp)) hev.1 (fun l hl => Nat.le_trans (hev.2.1 l hl) (by omega))
  have HWD : Hid (∀ w', Calls Tryz.prog 32 #[.string (textOf e.lines)] w' (DistPost w' (rawW (bts (textOf e.lines))))) := fun w' => words_any _ w' (by have := hev.2.2.1; omega)
  have HH : Hid (∀ (U : Nat → Prop) (A : Option Addr) (c : Nat) (ds : List ByteArray) (w' : World), w.grownBy w' none → Srt ds → (∀ s, s ∈ ds ↔ s ∈ rawW (bts (textOf e.lines))) → Rd U w' A (ds.map .string) →
      Calls Tryz.prog 33 #[.agg (e.cells ++ [Value.string (textOf e.lines), Value.slice A ds.length c]).toArray, .agg t.cells.toArray] w' (BoolP w' (holdB e n t))) := Lib.hid (fun U A c ds w' hg hsr hmem hr => by
    have hds : ds = wsOf e := srt_ext hsr (dist_srt _) (fun s => (hmem s).trans (dist_mem _ s).symm)
    subst hds
    exact mholds_any e hv (by have := hev.2.2.1; omega) A c (wsOf_len hev) n t _ _ _ w' hok (hsub.grown hg (by simp)) (hs.grown hg (by simp)) hr (htb.grown hg) (hml.grown hg))
  obtain ⟨R, hR⟩ : ∃ R, R = holdB e n t := ⟨_, rfl⟩
  obtain ⟨tx, htx⟩ : ∃ tx, tx = textOf e.lines := ⟨_, rfl⟩
  rw [← hR] at HH ⊢
  rw [← htx] at HT HWD HH
  clear hR htx hok hsub hs hev hv htb hml
  obtain ⟨host, file, beg, fin, lines, time, weight, trace, stream, fields, la, lc, fa, fc⟩ := e
  obtain ⟨op, nm, x, num, ka, kc, kids⟩ := t
  have hcl : (Ev.mk host file beg fin lines time weight trace stream fields la lc fa fc).cells.toArray = #[.int .i64 host, .int .i64 file, .int .i64 beg, .int .i64 fin, .slice la lines.length lc, .int .i64 time, .int .i64 weight, .string trace, .string stream, .slice fa fields.length fc] := rfl
  rw [hcl] at HT ⊢
  clear hcl
  have HH2 : Hid (∀ (U : Nat → Prop) (A : Option Addr) (c : Nat) (ds : List ByteArray) (w' : World), w.grownBy w' none → Srt ds → (∀ s, s ∈ ds ↔ s ∈ rawW (bts tx)) → Rd U w' A (ds.map .string) →
      Calls Tryz.prog 33 #[.agg #[.int .i64 host, .int .i64 file, .int .i64 beg, .int .i64 fin, .slice la lines.length lc, .int .i64 time, .int .i64 weight, .string trace, .string stream, .slice fa fields.length fc, .string tx, .slice A ds.length c], .agg #[.int .i64 op, .string nm, .string x, .int .i64 num, .slice ka kids.length kc]] w' (BoolP w' R)) := HH
  clear HH
  show Calls _ _ #[.agg #[.int .i64 op, .string nm, .string x, .int .i64 num, .slice ka kids.length kc], .agg #[.int .i64 host, .int .i64 file, .int .i64 beg, .int .i64 fin, .slice la lines.length lc, .int .i64 time, .int .i64 weight, .string trace, .string stream, .slice fa fields.length fc]] w _
  go_enter Tryz.func11, Tryz.ntmps11
  go_upto_region 2 with (go_at_call 31; refine (HT.out _ (only_alloc (only_alloc (only_refl _ _) _) _)).mono ?_; rintro en w1 ⟨rfl, hg1⟩)
  have hB0 := (((Blk.new w 26 #[.int .i64 op, .string nm, .string x, .int .i64 num, .slice ka kids.length kc]).alloc (.cells #[.int .i64 host, .int .i64 file, .int .i64 beg, .int .i64 fin, .slice la lines.length lc, .int .i64 time, .int .i64 weight, .string trace, .string stream, .slice fa fields.length fc] 35)).grown hg1 (by simp))
  have hB1 : Blk w1 (w.heap.size + 1) 35 #[.int .i64 host, .int .i64 file, .int .i64 beg, .int .i64 fin, .slice la lines.length lc, .int .i64 time, .int .i64 weight, .string trace, .string stream, .slice fa fields.length fc] := by simpa using ((Blk.new (w.alloc (.cells #[.int .i64 op, .string nm, .string x, .int .i64 num, .slice ka kids.length kc] 26)) 35 #[.int .i64 host, .int .i64 file, .int .i64 beg, .int .i64 fin, .slice la lines.length lc, .int .i64 time, .int .i64 weight, .string trace, .string stream, .slice fa fields.length fc]).grown hg1 (by simp))
  have B0 := Lib.hid hB0
  have B1 := Lib.hid hB1
  have G1 : Hid (w.grownBy w1 none) := only_trans (only_alloc (only_alloc (only_refl _ _) _) _) hg1
  have a0 := hB0.cell 0; have a1 := hB0.cell 1; have a2 := hB0.cell 2; have a3 := hB0.cell 3; have a4 := hB0.cell 4
  have b0 := hB1.cell 0; have b1 := hB1.cell 1; have b2 := hB1.cell 2; have b3 := hB1.cell 3; have b4 := hB1.cell 4; have b5 := hB1.cell 5; have b6 := hB1.cell 6; have b7 := hB1.cell 7; have b8 := hB1.cell 8; have b9 := hB1.cell 9
  simp at a0 a1 a2 a3 a4 b0 b1 b2 b3 b4 b5 b6 b7 b8 b9
  clear hg1 hB0 hB1 HT
  go_region_law (first
    | (have htok := hgk; go_simp; go_at_call 33; refine (HH2.out _ A c ds _ (G2.out) HSRT.out HMEM.out HRD.out).mono ?_; rintro en w3 ⟨rfl, hg3⟩)
    | (go_simp; go_at_call 32; refine (HWD.out _).mono ?_; rintro en w2 ⟨A, c, ds, rfl, hdc, hcm, hsrt, hmem, hlen, hrd, hg2⟩; have hgk : True := trivial; have HRD := Lib.hid hrd; have HSRT := Lib.hid hsrt; have HMEM := Lib.hid hmem; have hB02 := B0.out.drew.grown hg2 (by simp); have hB12 := B1.out.drew.grown hg2 (by simp); have G2 : Hid (w.grownBy w2 none) := only_trans (only_drew G1.out) hg2; have p0 := hB02.cell 0; have p1 := hB02.cell 1; have p2 := hB02.cell 2; have p3 := hB02.cell 3; have p4 := hB02.cell 4; have q0 := hB12.cell 0; have q1 := hB12.cell 1; have q2 := hB12.cell 2; have q3 := hB12.cell 3; have q4 := hB12.cell 4; have q5 := hB12.cell 5; have q6 := hB12.cell 6; have q7 := hB12.cell 7; have q8 := hB12.cell 8; have q9 := hB12.cell 9; simp at p0 p1 p2 p3 p4 q0 q1 q2 q3 q4 q5 q6 q7 q8 q9; clear hg2 hB02 hB12 hrd hmem hsrt hcm hdc hlen))
  all_goals
    go_wp2_with fail
    exact bodyPost_ret (v := .bool R) (by simp [results, Tryz.results11, go_sem]) rfl ⟨rfl, only_trans G2.out hg3⟩
end Go.Proofs.YtceebhgbebkafaaGreatDoor
