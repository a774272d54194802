/- The rows of the index of words: plain, and in memory. No condition. -/
import Derived.Test.YtpaiideboodaeaaGreatDoorJLin27
import Derived.Test.YtpaiideboodaeaaGreatDoorJSegG
import Derived.Test.YtpaiideboodaeaaGreatDoorJFilB
import Derived.Test.YtpaiideboodaeaaGreatDoorJRIdx
import Derived.Test.YtpaiideboodaeaaGreatDoorJRTermsJ
import Derived.Test.YtpaiideboodaeaaGreatDoorJGenC
namespace Go.Proofs.YtpaiideboodaeaaGreatDoor
open Go.RowKit
set_option linter.unusedVariables false
set_option linter.unusedSimpArgs false

theorem ixOf_in {ds : List ByteArray} (h : Srt ds) {t : ByteArray} (ht : t ∈ ds) : ds[ixOf ds t]? = some t := by
  have hf := (found_iff h t).2 ht
  unfold found at hf
  exact of_decide_eq_true hf
theorem srt_inj {ds : List ByteArray} (h : Srt ds) {i j : Nat} {t : ByteArray} (h1 : ds[i]? = some t) (h2 : ds[j]? = some t) : i = j := by
  obtain ⟨i1, e1⟩ := List.getElem?_eq_some_iff.1 h1
  obtain ⟨j1, e2⟩ := List.getElem?_eq_some_iff.1 h2
  have hp := List.pairwise_iff_getElem.1 h
  rcases Nat.lt_trichotomy i j with hlt | he | hlt
  · have := hp i j i1 j1 hlt; rw [e1, e2, sl_irrefl] at this; cases this
  · exact he
  · have := hp j i j1 i1 hlt; rw [e1, e2, sl_irrefl] at this; cases this
open Classical in
/-- the events below k that have the word at j -/
noncomputable def hitX (ds ws : List ByteArray) (k j : Nat) : List Int := if ds.getD j ⟨#[]⟩ ∈ ws then [(k : Int)] else []
noncomputable def rowX (es : List Ev) (ds : List ByteArray) : Nat → Nat → List Int
  | 0, _ => []
  | k + 1, j => rowX es ds k j ++ (match es[k]? with
    | some e => hitX ds (wordsE e) k j
    | none => [])
theorem rowX_step {es : List Ev} {ds : List ByteArray} {k : Nat} {e : Ev} (h : es[k]? = some e) (j : Nat) : rowX es ds (k + 1) j = rowX es ds k j ++ hitX ds (wordsE e) k j := by simp only [rowX, h]
theorem rowX_bound (es : List Ev) (ds : List ByteArray) (j : Nat) : ∀ k, ∀ x ∈ rowX es ds k j, 0 ≤ x ∧ x < k
  | 0, x, h => by cases h
  | k + 1, x, h => by
    have ih := rowX_bound es ds j k
    simp only [rowX] at h
    rcases List.mem_append.1 h with h | h
    · have := ih x h; omega
    · split at h
      · unfold hitX at h
        split at h
        · rw [List.mem_singleton] at h; omega
        · cases h
      · cases h
theorem rowX_pw (es : List Ev) (ds : List ByteArray) (j : Nat) : ∀ k, (rowX es ds k j).Pairwise (· < ·)
  | 0 => List.Pairwise.nil
  | k + 1 => by
    have ih := rowX_pw es ds j k
    have hb := rowX_bound es ds j k
    simp only [rowX]
    rw [List.pairwise_append]
    refine ⟨ih, ?_, ?_⟩
    · split
      · unfold hitX; split <;> simp
      · simp
    · intro a ha b hb'
      have h1 := hb a ha
      split at hb'
      · unfold hitX at hb'
        split at hb'
        · simp at hb'; omega
        · cases hb'
      · cases hb'
theorem rowX_len (es : List Ev) (ds : List ByteArray) (j : Nat) : ∀ k, (rowX es ds k j).length ≤ k
  | 0 => Nat.le_refl _
  | k + 1 => by
    have ih := rowX_len es ds j k
    simp only [rowX, List.length_append]
    split
    · unfold hitX; split <;> simp <;> omega
    · simp; omega
theorem asc_of {ds : List Int} (hb : ∀ x ∈ ds, 0 ≤ x ∧ x < 4096) (hp : ds.Pairwise (· < ·)) : AscN ds := by
  have hg : ∀ (i : Nat) (hi : i < ds.length), ds.getD i 0 = ds[i] := fun i hi => getD_lt ds 0 hi
  refine ⟨fun i hi => ?_, fun i hi => ?_⟩
  · rw [hg i hi]; exact hb _ (List.getElem_mem hi)
  · rw [hg i (by omega), hg (i + 1) hi]
    exact List.pairwise_iff_getElem.1 hp i (i + 1) (by omega) hi (Nat.lt_succ_self i)
theorem rowX_asc (es : List Ev) (ds : List ByteArray) (j k : Nat) (hk : k ≤ 4096) : AscN (rowX es ds k j) :=
  asc_of (fun x hx => by have := rowX_bound es ds j k x hx; omega) (rowX_pw es ds j k)
/-- in the middle of an event's words -/
theorem hit_step {ds ws : List ByteArray} (hd : Srt ds) (hw : Srt ws) {m k : Nat} {t : ByteArray} (hm : ws[m]? = some t) (ht : t ∈ ds) (j : Nat) (hj : j < ds.length) :
    hitX ds (ws.take (m + 1)) k j = if j = ixOf ds t then hitX ds (ws.take m) k j ++ [(k : Int)] else hitX ds (ws.take m) k j := by
  obtain ⟨hml, hme⟩ := List.getElem?_eq_some_iff.1 hm
  have htk : ws.take (m + 1) = ws.take m ++ [t] := by rw [List.take_succ_eq_append_getElem hml, hme]
  have hix := ixOf_in hd ht
  by_cases e : j = ixOf ds t
  · rw [if_pos e]
    have hdj : ds.getD j ⟨#[]⟩ = t := by rw [e, List.getD_eq_getElem?_getD, hix]; rfl
    have hn : t ∉ ws.take m := fun h => by
      obtain ⟨i, hi⟩ := List.mem_iff_getElem?.1 h
      have h2 := List.getElem?_eq_some_iff.1 hi
      have h3 : ws[i]? = some t := by
        rw [List.getElem?_take] at hi
        split at hi
        · exact hi
        · cases hi
      have := srt_inj hw h3 hm
      have h4 := h2.1
      rw [List.length_take] at h4
      omega
    unfold hitX
    rw [hdj, if_neg hn, htk, if_pos (by simp)]
    rfl
  · rw [if_neg e]
    have hdj : ds.getD j ⟨#[]⟩ ≠ t := fun h => e (srt_inj hd (by rw [getD_lt ds _ hj] at h; rw [List.getElem?_eq_getElem hj, h]) hix)
    unfold hitX
    have : ds.getD j ⟨#[]⟩ ∈ ws.take (m + 1) ↔ ds.getD j ⟨#[]⟩ ∈ ws.take m := by
      rw [htk, List.mem_append, List.mem_singleton]
      exact ⟨fun h => h.resolve_right hdj, .inl⟩
    by_cases h9 : ds.getD j ⟨#[]⟩ ∈ ws.take m
    · rw [if_pos h9, if_pos (this.2 h9)]
    · rw [if_neg h9, if_neg (fun h => h9 (this.1 h))]
/-- rows of numbers, their slices in a block -/
structure IRows (base g : Nat) (w : World) (cs : Array Value) (L : Nat → List Int) (n : Nat) : Prop where
  blk : Blk w g 47 cs
  size : cs.size = n
  own : ∀ j v, cs[j]? = some v → w.ownsRow base 3 1 v (L j).length ((L j).map (.int .i64))
  apt : ∀ (i j : Nat) v v', i ≠ j → cs[i]? = some v → cs[j]? = some v' → Apt v v'
section
variable {base g : Nat} {w w' : World} {cs : Array Value} {L L' : Nat → List Int} {n : Nat}
theorem IRows.start (w : World) (base n : Nat) : IRows base w.heap.size (w.alloc (.cells (Array.replicate n (.slice none 0 0)) 47)) (Array.replicate n (.slice none 0 0)) (fun _ => []) n := by
  have key : ∀ (j : Nat) v, (Array.replicate n (Value.slice none 0 0))[j]? = some v → v = .slice none 0 0 := fun j v h => by
    rw [Array.getElem?_replicate] at h
    split at h
    · injection h with h; exact h.symm
    · cases h
  refine ⟨Blk.new _ _ _, by simp, fun j v h => ?_, fun i j v v' _ h _ => ?_⟩
  · rw [key j v h]; exact World.ownsRow_nil _ _ _ _
  · rw [key i v h]; intro g hg; simp [Value.ownBlock] at hg
theorem IRows.ext (h : IRows base g w cs L n) (hg : w.grownBy w' none) : IRows base g w' cs L n := ⟨h.blk.grown hg (by simp), h.size, fun j v hj => own_ext (h.own j v hj) hg, h.apt⟩
theorem IRows.congr (h : IRows base g w cs L n) (e : ∀ j, j < n → L j = L' j) : IRows base g w cs L' n := ⟨h.blk, h.size, fun j v hj => by
  have hlt : j < n := by rw [← h.size]; exact (Array.getElem?_eq_some_iff.1 hj).1
  rw [← e j hlt]; exact h.own j v hj, h.apt⟩
theorem IRows.at_ (h : IRows base g w cs L n) {p : Nat} (hp : p < n) : ∃ A c, cs[p]? = some (.slice A (L p).length c) ∧ w.cell? ⟨g, p, none⟩ = some (.slice A (L p).length c) ∧ (L p).length ≤ c ∧ c ≤ maxLen ∧ w.ownsRow base 3 1 (.slice A (L p).length c) (L p).length ((L p).map (.int .i64)) := by
  obtain ⟨v, hv⟩ : ∃ v, cs[p]? = some v := ⟨_, Array.getElem?_eq_getElem (by rw [h.size]; exact hp)⟩
  obtain ⟨A, c, rfl, h1, h2, -, -⟩ := Rd.of_own (h.own p v hv) (by decide)
  exact ⟨A, c, hv, (h.blk.cell p).trans hv, h1, h2, h.own p _ hv⟩
theorem IRows.put (h : IRows base g w cs L n) {p : Nat} {v v' : Value} {x : Int} (hv : cs[p]? = some v) (ho : w'.ownsRow base 3 1 v' ((L p).length + 1) ((L p).map (.int .i64) ++ [.int .i64 x])) (hg : w.grownBy w' v.ownBlock) (hb : v'.ownBlock = v.ownBlock ∨ v'.ownBlock = some (w.heap.size + 1)) :
    IRows base g (w'.setCell ⟨g, p, none⟩ v') (cs.setIfInBounds p v') (fun j => if j = p then L p ++ [x] else L j) n := by
  have hpl : p < cs.size := (Array.getElem?_eq_some_iff.1 hv).1
  have hbg : Blk w' g 47 cs := h.blk.grown hg (fun e => blk_norow h.blk (h.own p v hv) (by decide) e.symm)
  have hset := only_setB w' (p := ⟨g, p, none⟩) v'
  have hO : Onto w v v' w' := onto_ap hg hb
  have hat : ∀ (j : Nat) u, (cs.setIfInBounds p v')[j]? = some u → (j = p ∧ u = v') ∨ (j ≠ p ∧ cs[j]? = some u) := fun j u hu => by
    by_cases e : j = p
    · subst e
      rw [Array.getElem?_setIfInBounds_self_of_lt hpl] at hu
      injection hu with hu
      exact .inl ⟨rfl, hu.symm⟩
    · rw [Array.getElem?_setIfInBounds_ne (Ne.symm e)] at hu
      exact .inr ⟨e, hu⟩
  refine ⟨hbg.set_ p v', by simp [h.size], fun j u hu => ?_, fun i j u u' hij hu hu' => ?_⟩
  · rcases hat j u hu with ⟨rfl, rfl⟩ | ⟨hj, hu⟩
    · rw [if_pos rfl]
      refine own_off ?_ hset (blk_norow hbg ho (by decide))
      rw [List.length_append, List.map_append]; exact ho
    · rw [if_neg hj]
      have h1 : w'.ownsRow base 3 1 u (L j).length ((L j).map (.int .i64)) := (h.apt j p u v hj hu hv).keep (h.own j u hu) hg
      exact own_off h1 hset (blk_norow hbg h1 (by decide))
  · rcases hat i u hu with ⟨rfl, rfl⟩ | ⟨hi, h7⟩
    · rcases hat j u' hu' with ⟨rfl, rfl⟩ | ⟨hj, h8⟩
      · exact absurd rfl hij
      · exact ((h.apt j i u' v hj h8 hv).onto hO (own_lt (h.own j u' h8))).symm
    · rcases hat j u' hu' with ⟨rfl, rfl⟩ | ⟨hj, h8⟩
      · exact (h.apt i j u v hi h7 hv).onto hO (own_lt (h.own i u h7))
      · exact h.apt i j u u' hij h7 h8
end
theorem wordsE_sz (e : Ev) : ∀ x ∈ wordsE e, x.size ≤ 40 := dist_sz (rawW_sz _)
theorem wordsX_sz (es : List Ev) : ∀ x ∈ wordsX es, x.size ≤ 40 := dist_sz (fun x hx => by
  obtain ⟨e, he, hx⟩ := List.mem_flatMap.1 hx
  exact wordsE_sz e x hx)
theorem wordsX_len {es : List Ev} (hs : ∀ e ∈ es, EvS e) (hl : es.length ≤ 40) : (wordsX es).length ≤ 7240 := by
  have h1 := flat_le wordsE 181 es (fun e he => wordsE_len (hs e he))
  have h2 := dist_len' (es.flatMap wordsE)
  unfold wordsX
  omega
noncomputable def idxTo (es : List Ev) (ds : List ByteArray) : Nat → List Int
  | 0 => blkP (dicX ds)
  | j + 1 => idxTo es ds j ++ blkP (postX (rowX es ds es.length j))
noncomputable def indexX (es : List Ev) : List Int := idxTo es (wordsX es) (wordsX es).length
theorem rowX_post {es : List Ev} (hl : es.length ≤ 40) (ds : List ByteArray) (j : Nat) : (postX (rowX es ds es.length j)).length ≤ 690 ∧ (blkP (postX (rowX es ds es.length j))).length ≤ 700 := by
  have h1 := postX_len2 (rowX es ds es.length j) (rowX_asc es ds j es.length (by omega)).1 (by have := rowX_len es ds j es.length; omega)
  have h2 := blkP_len (b := postX (rowX es ds es.length j)) (by omega)
  exact ⟨h1, by omega⟩
theorem idxTo_len {es : List Ev} (hl : es.length ≤ 40) {ds : List ByteArray} (hd : ∀ x ∈ ds, x.size ≤ 250) (hdl : ds.length ≤ 7240) : ∀ j, (idxTo es ds j).length ≤ 1853500 + 700 * j
  | 0 => by
    have h1 : (dicX ds).length ≤ 3 + 256 * ds.length := encR_len3 hd (by omega)
    have h2 := blkP_len (b := dicX ds) (by omega)
    simp only [idxTo]
    omega
  | j + 1 => by
    have h1 := idxTo_len hl hd hdl j
    have h2 := (rowX_post hl ds j).2
    simp only [idxTo, List.length_append]
    omega
end Go.Proofs.YtpaiideboodaeaaGreatDoor

namespace Go.Proofs.YtpaiideboodaeaaGreatDoor
open Go.RowKit
set_option linter.unusedVariables false
set_option linter.unusedSimpArgs false

theorem ilInfo : (Tryz.prog.info? 47).map (fun i => (i.zero, i.size, i.bytes)) = some (some (.slice none 0 0), 1, 24) := by kernel_rfl
/-- no row of these lies between two places -/
def FarR (lo hi : Nat) (cs : Array Value) : Prop := ∀ (j : Nat) v g, cs[j]? = some v → Value.ownBlock v = some g → g < lo ∨ hi ≤ g
theorem FarR.put {lo hi p : Nat} {cs : Array Value} {v v' : Value} {n : Nat} (h : FarR lo hi cs) (hv : cs[p]? = some v) (hb : v'.ownBlock = v.ownBlock ∨ v'.ownBlock = some n) (hn : hi ≤ n) : FarR lo hi (cs.setIfInBounds p v') := by
  intro j u g hu hg
  have hpl : p < cs.size := (Array.getElem?_eq_some_iff.1 hv).1
  by_cases e : j = p
  · subst e
    rw [Array.getElem?_setIfInBounds_self_of_lt hpl] at hu
    injection hu with hu
    subst hu
    rcases hb with e | e
    · rw [e] at hg; exact h j v g hv hg
    · rw [e] at hg; injection hg with hg; exact .inr (by omega)
  · rw [Array.getElem?_setIfInBounds_ne (Ne.symm e)] at hu
    exact h j u g hu hg
set_option maxHeartbeats 16000000 in
set_option maxRecDepth 100000 in
theorem index_any {S : Nat → Prop} (A : Option Addr) (es : List Ev) (c : Nat) (w : World) (hev : Evs S w A es) (hel : es.length ≤ 40) (hs : ∀ e ∈ es, EvS e) :
    Calls Tryz.prog 87 #[.slice A es.length c] w (NewB w (indexX es)) := by
  have HEV := Lib.hid hev
  have KWS := Lib.hid (words_any A es c w hev (by omega) hs)
  have KT : Hid (∀ (e : Ev) (w' : World), e ∈ es → w.grownBy w' none → Calls Tryz.prog 37 #[.agg e.cells.toArray] w' (TextP w' (textOf e.lines))) := Lib.hid (fun e w' he hg => wE_any e w' ((hev.2 e he).grown hg (by simp)) (hs e he))
  have KW : Hid (∀ (e : Ev) (w' : World), e ∈ es → Calls Tryz.prog 36 #[.string (textOf e.lines)] w' (NewS w' (wordsE e))) := Lib.hid (fun e w' he => wW_any e w' (hs e he))
  have hnl := wordsX_len hs hel
  have HNZ : Hid (∀ x ∈ wordsX es, x.size ≤ 250) := Lib.hid (fun x hx => by have := wordsX_sz es x hx; omega)
  have HSR : Hid (Srt (wordsX es)) := Lib.hid (dist_srt _)
  have HSW : Hid (∀ e, Srt (wordsE e)) := Lib.hid (fun e => dist_srt _)
  have HWL : Hid (∀ e ∈ es, (wordsE e).length ≤ 181) := Lib.hid (fun e he => wordsE_len (hs e he))
  have HIN : Hid (∀ e ∈ es, ∀ x ∈ wordsE e, x ∈ wordsX es) := Lib.hid (fun e he x hx => (dist_mem _ x).2 (List.mem_flatMap.2 ⟨e, he, hx⟩))
  have HFL := Lib.hid (idxTo_len hel HNZ.out hnl)
  have HPO := Lib.hid (rowX_post hel (wordsX es))
  have HRA := Lib.hid (fun j => rowX_asc es (wordsX es) j es.length (by omega))
  have HRL := Lib.hid (rowX_len es (wordsX es))
  have HX : Hid (indexX es = idxTo es (wordsX es) (wordsX es).length) := Lib.hid rfl
  obtain ⟨R, hR⟩ : ∃ r, r = indexX es := ⟨_, rfl⟩
  obtain ⟨ds, hds⟩ : ∃ r, r = wordsX es := ⟨_, rfl⟩
  rw [← hR, ← hds] at HX
  rw [← hds] at KWS hnl HNZ HSR HFL HPO HRA HRL
  simp only [← hds] at HIN
  rw [← hR]
  have HF0 : Hid (idxTo es ds 0 = blkP (dicX ds)) := Lib.hid rfl
  have HF1 : Hid (∀ j, idxTo es ds (j + 1) = idxTo es ds j ++ blkP (postX (rowX es ds es.length j))) := Lib.hid (fun j => rfl)
  clear hev hs hR hds
  go_enter Tryz.func87, Tryz.ntmps87
  go_wp2_with fail
  refine KWS.out.mono ?_
  rintro e w1 ⟨AD, cD, rfl, d1, d2, d3, hg1⟩
  have G1 := Lib.hid hg1
  have RD := Lib.hid (d3.mono (S' := fun b => b < w1.heap.size) (fun b h1 h2 => h2))
  have hz1 := hg1.size
  clear d1 d2 d3 hg1 KWS
  have hmk := mk_any (P := Tryz.prog) Tryz.underlying159 ilInfo rfl (by decide) ds.length (by omega) w1
  go_wp2_with fail
  clear hmk
  have IR0 : Hid (IRows w1.heap.size w1.heap.size (w1.alloc (.cells (Array.replicate ds.length (.slice none 0 0)) 47)) (Array.replicate ds.length (.slice none 0 0)) (rowX es ds 0) ds.length) := Lib.hid (IRows.start w1 w1.heap.size ds.length)
  have G0 : Hid (w1.grownBy (w1.alloc (.cells (Array.replicate ds.length (.slice none 0 0)) 47)) none) := Lib.hid (only_alloc (only_refl _ _) _)
  obtain ⟨gB, hgB⟩ : ∃ gB, gB = w1.heap.size := ⟨_, rfl⟩
  have HGB := Lib.hid hgB
  have IR1 : Hid (IRows w1.heap.size gB (w1.alloc (.cells (Array.replicate ds.length (.slice none 0 0)) 47)) (Array.replicate ds.length (.slice none 0 0)) (rowX es ds 0) ds.length) := Lib.hid (by rw [hgB]; exact IR0.out)
  rw [← hgB]
  clear hgB IR0
  go_loopw [5] (fun vi wr => ∃ (k : Nat) (cs : Array Value), vi = .int .i64 k ∧ k ≤ es.length ∧ IRows w1.heap.size gB wr cs (rowX es ds k) ds.length ∧ w1.grownBy wr none) (fun vi _ => es.length - (intOf vi).toNat)
  case atStart => exact ⟨0, _, rfl, Nat.zero_le _, IR1.out, G0.out⟩
  case round =>
    clear IR1 G0
    obtain ⟨k, cs, rfl, hk, hI, hG⟩ := hrel
    have IR := Lib.hid hI
    have G := Lib.hid hG
    have hbase : w1.heap.size ≤ wr.heap.size := hG.size
    clear hI hG
    by_cases hlt : k < es.length
    · obtain ⟨y, hy⟩ : ∃ y, es[k]? = some y := ⟨_, List.getElem?_eq_getElem hlt⟩
      obtain ⟨kb, ko, eE, hkw, z0, z1, z2, z3, z4, z5, z6, z7, z8, z9⟩ := ev_in (HEV.out.1.grown (only_trans G1.out G.out) (by simp)) hy
      subst eE
      have K1 := Lib.hid (KT.out y wr (List.mem_of_getElem? hy) (only_trans G1.out G.out))
      have K2 := Lib.hid (fun w' => KW.out y w' (List.mem_of_getElem? hy))
      have hycl : y.cells.toArray = #[.int .i64 y.host, .int .i64 y.file, .int .i64 y.beg, .int .i64 y.fin, .slice y.la y.lines.length y.lc, .int .i64 y.time, .int .i64 y.weight, .string y.trace, .string y.stream, .slice y.fa y.fields.length y.fc] := rfl
      rw [hycl] at K1
      have hyl : (wordsE y).length ≤ 181 := HWL.out y (List.mem_of_getElem? hy)
      have HRS := Lib.hid (fun j => rowX_step (ds := ds) hy j)
      have HYI := Lib.hid (HIN.out y (List.mem_of_getElem? hy))
      have HYS := Lib.hid (HSW.out y)
      obtain ⟨ws, hws⟩ : ∃ ws, ws = wordsE y := ⟨_, rfl⟩
      rw [← hws] at K2 hyl HYI HYS
      simp only [← hws] at HRS
      have i1 : (k : Int) < (es.length : Int) := by omega
      clear hy hycl hws
      go_wp2_with fail
      refine K1.out.mono ?_
      rintro e w2 ⟨rfl, hg2⟩
      have G2 := Lib.hid (only_trans G.out hg2)
      have IR2 := Lib.hid (IR.out.ext hg2)
      clear hg2 K1 IR
      go_wp2_with fail
      refine (K2.out w2).mono ?_
      rintro e w3 ⟨AW, cW, rfl, h1, h2, h3, hg3⟩
      have G3 := Lib.hid (only_trans G2.out hg3)
      have IR3 : Hid (IRows w1.heap.size gB w3 cs (fun j => rowX es ds k j ++ hitX ds (ws.take 0) k j) ds.length) := Lib.hid ((IR2.out.ext hg3).congr (fun j _ => by simp [hitX]))
      have FR3 : Hid (FarR w2.heap.size w3.heap.size cs) := Lib.hid (fun j v g hv hg => .inl (own_lt (IR2.out.own j v hv) g hg))
      have R3 := Lib.hid (h3.mono (S' := fun b => w2.heap.size ≤ b ∧ b < w3.heap.size) (fun b hb h => ⟨hb, h⟩))
      have hb3 : w1.heap.size ≤ w3.heap.size := G3.out.size
      have hgw2 : gB < w2.heap.size := IR2.out.blk.lt
      clear h1 h2 h3 hg3 z0 z1 z2 z3 z4 z5 z6 z7 z8 z9 IR2 K2
      go_wp2_with fail
      go_loopw [7] (fun vj wr => ∃ (m : Nat) (cs : Array Value), vj = .int .i64 m ∧ m ≤ ws.length ∧ IRows w1.heap.size gB wr cs (fun j => rowX es ds k j ++ hitX ds (ws.take m) k j) ds.length ∧ FarR w2.heap.size w3.heap.size cs ∧ Rd (fun b => w2.heap.size ≤ b ∧ b < w3.heap.size) wr AW (ws.map .string) ∧ w1.grownBy wr none ∧ w3.heap.size ≤ wr.heap.size) (fun vj _ => ws.length - (intOf vj).toNat)
      case atStart => exact ⟨0, cs, rfl, Nat.zero_le _, IR3.out, FR3.out, R3.out, G3.out, Nat.le_refl _⟩
      case round =>
        clear IR3 FR3 R3 hbase hkw
        obtain ⟨m, cs, rfl, hm, hI, hF, hR, hG, hz⟩ := hrel
        have IR := Lib.hid hI
        have FR := Lib.hid hF
        have RW := Lib.hid hR
        have GG := Lib.hid hG
        have hbr : w1.heap.size ≤ wr.heap.size := hG.size
        clear hI hF hR hG
        by_cases hlt2 : m < ws.length
        · obtain ⟨b, off, x, rfl, hc, hx⟩ := RW.out.str_at hlt2
          have hxm : x ∈ ds := HYI.out x (List.mem_of_getElem? hx.out)
          have hix := ixOf_in HSR.out hxm
          have HST := Lib.hid (fun j hj => hit_step (k := k) HSR.out HYS.out hx.out hxm j hj)
          obtain ⟨p, hp⟩ : ∃ p, p = ixOf ds x := ⟨_, rfl⟩
          have KI := rindex_any AD ds cD x wr (RD.out.grown GG.out (by simp)) (by omega)
          rw [← hp] at hix KI
          simp only [← hp] at HST
          have hpl : p < ds.length := (List.getElem?_eq_some_iff.1 hix).1
          have KI := Lib.hid KI
          obtain ⟨RL, hRL⟩ : ∃ r, r = rowX es ds k p ++ hitX ds (ws.take m) k p := ⟨_, rfl⟩
          have hrl : RL.length ≤ 100 := by
            have h1 := HRL.out p k
            rw [hRL, List.length_append]
            unfold hitX
            split <;> simp <;> omega
          have HRLE := Lib.hid hRL
          have i1' : (m : Int) < (ws.length : Int) := by omega
          clear hx hxm hix hp hRL
          go_wp2_with fail
          refine KI.out.mono ?_
          rintro e w4 ⟨rfl, nq, hw4⟩
          have IR4 : Hid (IRows w1.heap.size gB w4 cs (fun j => rowX es ds k j ++ hitX ds (ws.take m) k j) ds.length) := Lib.hid (by rw [hw4]; exact ⟨IR.out.blk, IR.out.size, IR.out.own, IR.out.apt⟩)
          have RW4 : Hid (Rd (fun b => w2.heap.size ≤ b ∧ b < w3.heap.size) w4 (some ⟨b, off, none⟩) (ws.map .string)) := Lib.hid (by rw [hw4]; exact RW.out)
          have G4 : Hid (w1.grownBy w4 none) := Lib.hid (by rw [hw4]; exact only_drewN GG.out nq)
          have hz4 : w3.heap.size ≤ w4.heap.size := by rw [hw4]; exact hz
          have hb4 : w1.heap.size ≤ w4.heap.size := G4.out.size
          clear hw4 KI hc IR RW GG
          obtain ⟨AR, cR, hcs, hcell, hr1, hr2, hown⟩ := IR4.out.at_ hpl
          simp only [← HRLE.out] at hcs hcell hr1 hown
          have OW := Lib.hid hown
          have HCS := Lib.hid hcs
          have i2 : (p : Int) < (ds.length : Int) := by omega
          have hfz := IR4.out.blk.frozen p
          clear hcs hown hr1 hr2
          go_wp2_with (at_builtin; go_must (refine wpList_append1 rfl _ _ 47 rfl w1.heap.size Tryz.underlying47 intInfoS rfl (by decide) (v := .slice AR RL.length cR) (by rfl) (w0 := w4) (cs := #[.int .i64 (k : Nat)]) OW.out (by rfl) rfl (by simp [Value.oneCell']) (by decide) (by omega) (by omega) ?_); intro v5 w5 hown5 hg5 hob5; obtain ⟨A5, c5, rfl, -, -, -, -⟩ := Rd.of_own hown5 (by decide); have hB5 : Blk w5 gB 47 cs := IR4.out.blk.grown hg5 (fun e => blk_norow IR4.out.blk OW.out (by decide) e.symm); have hc5 := (hB5.cell p).trans HCS.out; have hf5 := hB5.frozen p; have hs5 := hg5.size; clear hB5 hcell hfz)
          have IR5 : Hid (IRows w1.heap.size gB (w5.setCell ⟨gB, p, none⟩ (.slice A5 (RL.length + 1) c5)) (cs.setIfInBounds p (.slice A5 (RL.length + 1) c5)) (fun j => rowX es ds k j ++ hitX ds (ws.take (m + 1)) k j) ds.length) := Lib.hid ((IR4.out.put (x := (k : Int)) HCS.out (by simp only [← HRLE.out]; exact hown5) hg5 hob5).congr (fun j hj => by
            show (if j = p then (rowX es ds k p ++ hitX ds (ws.take m) k p) ++ [(k : Int)] else rowX es ds k j ++ hitX ds (ws.take m) k j) = rowX es ds k j ++ hitX ds (ws.take (m + 1)) k j
            rw [HST.out j hj]
            split
            · rename_i e; rw [e, List.append_assoc]
            · rfl))
          have FR5 : Hid (FarR w2.heap.size w3.heap.size (cs.setIfInBounds p (.slice A5 (RL.length + 1) c5))) := Lib.hid (FR.out.put HCS.out hob5 (by omega))
          have hset := only_setB w5 (p := ⟨gB, p, none⟩) (.slice A5 (RL.length + 1) c5)
          have RW5 : Hid (Rd (fun b => w2.heap.size ≤ b ∧ b < w3.heap.size) (w5.setCell ⟨gB, p, none⟩ (.slice A5 (RL.length + 1) c5)) (some ⟨b, off, none⟩) (ws.map .string)) := Lib.hid ((RW4.out.grown hg5 (fun b' hb' e => by
            rcases FR.out p _ b' HCS.out e.symm with h | h
            · have := hb'.1; omega
            · have := hb'.2; omega)).grown hset (fun b' hb' e => by injection e with e; have h1 := hb'.1; simp only at e; omega))
          have G5 : Hid (w1.grownBy (w5.setCell ⟨gB, p, none⟩ (.slice A5 (RL.length + 1) c5)) none) := Lib.hid (only_setN (only_own G4.out hg5 OW.out (Nat.le_refl _)) (by rw [HGB.out]; exact Nat.le_refl _) (.slice A5 (RL.length + 1) c5))
          have hz5 : w3.heap.size ≤ (w5.setCell ⟨gB, p, none⟩ (.slice A5 (RL.length + 1) c5)).heap.size := by have := hset.size; omega
          clear hown5 hg5 hob5 hset hc5 hf5
          go_wp2_with fail
          go_roundw
          case rel => exact ⟨m + 1, _, by go_num, by omega, IR5.out, FR5.out, RW5.out, G5.out, hz5⟩
          case measure => simp [intOf]; omega
        · have hmE : m = ws.length := by omega
          have IR9 : Hid (IRows w1.heap.size gB wr cs (rowX es ds (k + 1)) ds.length) := Lib.hid (IR.out.congr (fun j _ => by show rowX es ds k j ++ hitX ds (ws.take m) k j = _; rw [HRS.out j, hmE, List.take_of_length_le (Nat.le_refl _)]))
          have i2 : ¬ (m : Int) < (ws.length : Int) := by omega
          clear hmE
          go_wp2_with fail
          go_roundw
          case rel => exact ⟨k + 1, cs, by go_num, by omega, IR9.out, GG.out⟩
          case measure => simp [intOf]; omega
    · have hkE : k = es.length := by omega
      have IRZ : Hid (IRows w1.heap.size gB wr cs (rowX es ds es.length) ds.length) := Lib.hid (by rw [← hkE]; exact IR.out)
      have i1 : ¬ (k : Int) < (es.length : Int) := by omega
      clear hkE IR
      obtain ⟨w9, rfl⟩ : ∃ w9 : World, w9 = wr := ⟨_, rfl⟩
      have KD := Lib.hid (dictionary_any AD ds cD w9 (RD.out.grown G.out (by simp)) (by omega) HNZ.out)
      have HDL : Hid ((dicX ds).length ≤ 2100000) := Lib.hid (dicX_len HNZ.out (by omega))
      go_wp2_with fail
      refine KD.out.mono ?_
      intro e w2 hN
      obtain ⟨AB, cB, rfl, -, -, b3, hg2⟩ := hN.row
      have G2 := Lib.hid hg2
      have B2 := Lib.hid b3
      have hz2 := hg2.size
      clear b3 hg2 hN KD
      go_wp2_with fail
      refine (putblock_any w9.heap.size _ [] AB (dicX ds) cB w2 (Byts.nil _ _) B2.out (by simp [Value.ownBlock]) (by simp) (by have := HDL.out; omega) hz2).mono ?_
      rintro e w3 ⟨v3, rfl, hB3, hO3⟩
      have B3 : Hid (Byts w9.heap.size w3 v3 (idxTo es ds 0)) := Lib.hid (by rw [HF0.out]; exact hB3)
      have G3 : Hid (w9.grownBy w3 none) := Byts.only (Byts.nil w9.heap.size w2) hO3 G2.out (Nat.le_refl _)
      clear hB3 hO3 B2
      go_wp2_with fail
      go_loopw [10, 11] (fun v vi wr => ∃ j : Nat, vi = .int .i64 j ∧ j ≤ ds.length ∧ Byts w9.heap.size wr v (idxTo es ds j) ∧ w9.grownBy wr none) (fun _ vi _ => ds.length - (intOf vi).toNat)
      case atStart => exact ⟨0, rfl, Nat.zero_le _, B3.out, G3.out⟩
      case round =>
        obtain ⟨j, rfl, hj, hB, hG9⟩ := hrel
        have B := Lib.hid hB
        have GZ := Lib.hid hG9
        have hb9 : w9.heap.size ≤ wr.heap.size := hG9.size
        have hfl := HFL.out j
        obtain ⟨vO, hvO⟩ : ∃ v, v = u10 := ⟨_, rfl⟩
        rw [← hvO] at B ⊢
        clear hB hG9 hvO B3 G3
        by_cases hlt3 : j < ds.length
        · obtain ⟨AR, cR, -, hcell, hr1, hr2, hown⟩ := (IRZ.out.ext GZ.out).at_ hlt3
          obtain ⟨hp1, hp2⟩ := HPO.out j
          have hrl := HRL.out j es.length
          have HRJ := Lib.hid (HRA.out j)
          have HS1 := Lib.hid (HF1.out j)
          obtain ⟨RL, hRL⟩ : ∃ r, r = rowX es ds es.length j := ⟨_, rfl⟩
          rw [← hRL] at hp1 hp2 hrl HRJ HS1 hcell hr1 hown
          have KP := Lib.hid (postings_any AR RL cR wr (rd_ownG hown) (by omega) HRJ.out hr1 hr2)
          have i2 : (j : Int) < (ds.length : Int) := by omega
          clear hRL hown hr1 hr2
          go_wp2_with fail
          refine KP.out.mono ?_
          intro e w5 hN5
          obtain ⟨A5, c5, rfl, -, -, b3, hg5⟩ := hN5.row
          have G5 := Lib.hid (only_trans GZ.out hg5)
          have B5 : Hid (Byts w9.heap.size w5 vO (idxTo es ds j)) := Lib.hid (own_ext B.out hg5)
          have RP := Lib.hid b3
          have HNE : Hid (∀ b, wr.heap.size ≤ b → some b ≠ vO.ownBlock) := Lib.hid (fun b hb e => by have := B.out.below b e.symm; omega)
          have hz5 := G5.out.size
          clear b3 hg5 hN5 KP hcell
          go_wp2_with fail
          refine (putblock_big w9.heap.size vO (idxTo es ds j) A5 (postX RL) c5 w5 B5.out RP.out HNE.out (by omega) (by omega) (by omega) hz5).mono ?_
          rintro e w6 ⟨v6, rfl, hB6, hO6⟩
          have B6 : Hid (Byts w9.heap.size w6 v6 (idxTo es ds (j + 1))) := Lib.hid (by rw [HS1.out]; exact hB6)
          have G6 : Hid (w9.grownBy w6 none) := B5.out.only hO6 G5.out (Nat.le_refl _)
          clear hB6 hO6
          go_wp2_with fail
          go_roundw
          case rel => exact ⟨j + 1, by go_num, by omega, B6.out, G6.out⟩
          case measure => simp [intOf]; omega
        · have hjE : j = ds.length := by omega
          have HE : Hid (R = idxTo es ds j) := Lib.hid (by rw [hjE]; exact HX.out)
          have i2 : ¬ (j : Int) < (ds.length : Int) := by omega
          clear hjE
          go_wp2_with fail
          go_ret
          rw [HE.out]
          exact ⟨vO, rfl, B.out.base (by omega), only_trans G1.out (only_trans G.out GZ.out)⟩
end Go.Proofs.YtpaiideboodaeaaGreatDoor

namespace Go.Proofs.YtpaiideboodaeaaGreatDoor
open Go.RowKit
set_option linter.unusedVariables false
set_option linter.unusedSimpArgs false

def termsE (e : Ev) : List ByteArray := dist (rawT e)
theorem EvS.evT {e : Ev} (h : EvS e) : EvT e := ⟨by have := h.1; omega, fun l hl => by have := h.2.1 l hl; omega, by have := h.2.2.1; omega, by have := h.2.2.2.1; omega, fun f hf => by have := h.2.2.2.2.1 f hf; omega⟩
theorem termsE_len {e : Ev} (h : EvS e) : (termsE e).length ≤ 185 := by
  have h1 := dist_len' (rawT e)
  have h2 := rawW_len (bts (textOf e.lines))
  rw [bts_length] at h2
  have h3 := h.2.2.1
  have h4 := h.2.2.2.1
  unfold termsE
  unfold rawT at h1 ⊢
  rw [List.length_append, List.length_map] at h1
  omega
theorem termsE_sz {e : Ev} (h : EvS e) : ∀ x ∈ termsE e, x.size ≤ 41 := dist_sz (fun x hx => by
  unfold rawT at hx
  rcases List.mem_append.1 hx with hx | hx
  · have := rawW_sz _ x hx; omega
  · obtain ⟨f, hf, rfl⟩ := List.mem_map.1 hx
    have := h.2.2.2.2.1 f hf
    rw [nmeq_size]; omega)
theorem terms_new {S : Nat → Prop} (e : Ev) (w : World) (hs : e.Sub S w) (he : EvS e) : Calls Tryz.prog 12 #[.agg e.cells.toArray] w (NewS w (termsE e)) :=
  (terms_own e w hs he.evT).mono (by
    rintro e' w' ⟨A', c', ds, rfl, h1, h2, h3, h4, h5, h6, h7⟩
    obtain rfl : ds = termsE e := srt_ext h3 (dist_srt _) (fun s => by rw [h4]; unfold termsE; rw [dist_mem])
    exact ⟨A', c', rfl, h1, h2, rd_ownG h6, h7⟩)
def termsX (es : List Ev) : List ByteArray := dist (es.flatMap termsE)
def filX (es : List Ev) : List Int := encF (sizeF (termsX es).length) (bitsN (sizeF (termsX es).length) (termsX es))
theorem filX_len (es : List Ev) : (filX es).length ≤ 8195 := by
  unfold filX
  rw [encF_len, bitsN_len]
  have := (sizeF_in (termsX es).length).2
  omega
set_option maxHeartbeats 8000000 in
set_option maxRecDepth 100000 in
theorem filter_any {S : Nat → Prop} (A : Option Addr) (es : List Ev) (c : Nat) (w : World) (hev : Evs S w A es) (hel : es.length ≤ 40) (hs : ∀ e ∈ es, EvS e) :
    Calls Tryz.prog 88 #[.slice A es.length c] w (NewB w (filX es)) := by
  have HEV := Lib.hid hev
  have HS := Lib.hid hs
  have HL : Hid (∀ k, ((es.take k).flatMap termsE).length ≤ 7400) := Lib.hid (fun k => by
    have h1 := flat_le termsE 185 (es.take k) (fun e he => termsE_len (hs e (List.mem_of_mem_take he)))
    rw [List.length_take] at h1
    have h2 : min k es.length * 185 ≤ 40 * 185 := Nat.mul_le_mul (by omega) (Nat.le_refl _)
    omega)
  have KT : Hid (∀ (e : Ev) (w' : World), e ∈ es → w.grownBy w' none → Calls Tryz.prog 12 #[.agg e.cells.toArray] w' (NewS w' (termsE e))) := Lib.hid (fun e w' he hg => terms_new e w' ((hev.2 e he).grown hg (by simp)) (hs e he))
  have HSN : Hid (∀ (k : Nat) (y : Ev), es[k]? = some y → (es.take (k + 1)).flatMap termsE = (es.take k).flatMap termsE ++ termsE y) := Lib.hid (fun k y hy => flat_snoc termsE hy)
  have HTZ : Hid (∀ x ∈ termsX es, x.size ≤ 100000) := Lib.hid (fun x hx => by
    obtain ⟨e, he, hx⟩ := List.mem_flatMap.1 ((dist_mem _ x).1 hx)
    have := termsE_sz (hs e he) x hx
    omega)
  have hdl := dist_len' (es.flatMap termsE)
  have HDL : Hid ((termsX es).length ≤ 7400) := Lib.hid (by
    have h1 := HL.out es.length
    rw [List.take_of_length_le (Nat.le_refl _)] at h1
    unfold termsX
    omega)
  obtain ⟨hn1, hn2⟩ := sizeF_in (termsX es).length
  have HX : Hid (filX es = encF (sizeF (termsX es).length) (bitsN (sizeF (termsX es).length) (termsX es))) := Lib.hid rfl
  have HD : Hid (termsX es = dist (es.flatMap termsE)) := Lib.hid rfl
  obtain ⟨R, hR⟩ : ∃ r, r = filX es := ⟨_, rfl⟩
  obtain ⟨ds, hds⟩ : ∃ d, d = termsX es := ⟨_, rfl⟩
  obtain ⟨n, hn⟩ : ∃ n, n = sizeF ds.length := ⟨_, rfl⟩
  rw [← hds] at HD HTZ HDL hn1 hn2
  rw [← hn] at hn1 hn2
  rw [← hR, ← hds, ← hn] at HX
  rw [← hR]
  have HNS := Lib.hid hn
  clear hev hs hR hds hn hdl
  go_enter Tryz.func88, Tryz.ntmps88
  go_wp2_with fail
  go_loopw [3, 4] (fun v vi wr => ∃ (k : Nat) (ws : List ByteArray), vi = .int .i64 k ∧ k ≤ es.length ∧ Hid ((es.take k).flatMap termsE = ws) ∧ wr.ownsRow w.heap.size 9 1 v ws.length (ws.map .string) ∧ w.grownBy wr none) (fun _ vi _ => es.length - (intOf vi).toNat)
  case atStart => exact ⟨0, [], rfl, Nat.zero_le _, Lib.hid rfl, World.ownsRow_nil _ _ _ _, only_refl _ _⟩
  case round =>
    obtain ⟨k, ws, rfl, hk, HK, hO, hG⟩ := hrel
    have OO := Lib.hid hO
    have G := Lib.hid hG
    have hbase : w.heap.size ≤ wr.heap.size := hG.size
    have hwl : ws.length ≤ 7400 := by rw [← HK.out]; exact HL.out k
    obtain ⟨vO, hvOd⟩ : ∃ v, v = u3 := ⟨_, rfl⟩
    rw [← hvOd] at OO ⊢
    clear hO hG hvOd
    by_cases hlt : k < es.length
    · obtain ⟨y, hy⟩ : ∃ y, es[k]? = some y := ⟨_, List.getElem?_eq_getElem hlt⟩
      obtain ⟨kb, ko, eE, hkw, z0, z1, z2, z3, z4, z5, z6, z7, z8, z9⟩ := ev_in (HEV.out.1.grown G.out (by simp)) hy
      subst eE
      have K1 := Lib.hid (KT.out y wr (List.mem_of_getElem? hy) G.out)
      have hycl : y.cells.toArray = #[.int .i64 y.host, .int .i64 y.file, .int .i64 y.beg, .int .i64 y.fin, .slice y.la y.lines.length y.lc, .int .i64 y.time, .int .i64 y.weight, .string y.trace, .string y.stream, .slice y.fa y.fields.length y.fc] := rfl
      rw [hycl] at K1
      have HS1 := Lib.hid (HSN.out k y hy)
      have hyl : (termsE y).length ≤ 185 := termsE_len (HS.out y (List.mem_of_getElem? hy))
      have i1 : (k : Int) < (es.length : Int) := by omega
      clear hy hycl
      go_wp2_with fail
      refine K1.out.mono ?_
      rintro e w3 ⟨AW, cW, rfl, h1, h2, h3, hg3⟩
      have G3 := Lib.hid (only_trans G.out hg3)
      have O3 := Lib.hid (own_ext OO.out hg3)
      have R3 := Lib.hid h3
      have hb3 : w.heap.size ≤ w3.heap.size := G3.out.size
      clear h1 h2 h3 hg3 z0 z1 z2 z3 z4 z5 z6 z7 z8 z9
      go_wp2_with (at_builtin; go_must (refine wpList_appendN rfl _ _ 39 rfl w.heap.size Tryz.underlying39 strInfo rfl (by decide) (v := vO) (by rfl) O3.out AW (termsE y).length cW (by rfl) R3.out (by simp) str_onesG (by decide) (by omega) (by omega) ?_); intro v5 w5 hown5 hg5 hob5)
      have O5 : Hid (w5.ownsRow w.heap.size 9 1 v5 (ws ++ termsE y).length ((ws ++ termsE y).map .string)) := Lib.hid (by rw [List.length_append, List.map_append]; exact hown5)
      have G5 : Hid (w.grownBy w5 none) := Lib.hid (only_own G3.out hg5 O3.out (Nat.le_refl _))
      clear hown5 hg5 hob5
      go_wp2_with fail
      go_roundw
      case rel => exact ⟨k + 1, ws ++ termsE y, by go_num, by omega, Lib.hid (by rw [HS1.out, HK.out]), O5.out, G5.out⟩
      case measure => simp [intOf]; omega
    · have i1 : ¬ (k : Int) < (es.length : Int) := by omega
      obtain ⟨AO, cO, hv, h1, h2, -, h3⟩ := Rd.of_own OO.out (by decide)
      have HE : Hid (ds = dist ws) := Lib.hid (by have h := HK.out; rw [List.take_of_length_le (by omega)] at h; rw [HD.out, h])
      have KD := Lib.hid (dist_new AO ws cO wr h3 (by omega) h1 h2)
      rw [← HE.out] at KD
      rw [hv]
      clear hv h1 h2 h3 OO
      go_wp2_with fail
      refine KD.out.mono ?_
      rintro e w3 ⟨AD, cD, rfl, d1, d2, d3, hg3⟩
      have KB := fbuild_any AD ds cD w3 d3 (by have := HDL.out; omega) HTZ.out
      rw [← HNS.out] at KB
      have KB := Lib.hid KB
      have G3 := Lib.hid (only_trans G.out hg3)
      clear d1 d2 d3 hg3 KD
      go_wp2_with fail
      refine KB.out.mono ?_
      rintro e w4 ⟨g, rfl, hg4, hB4, hG4⟩
      have G4 := Lib.hid (only_trans G3.out hG4)
      have B4 := Lib.hid hB4
      clear hB4 hG4 KB hg4
      go_wp2_with fail
      have KE := fencode_any (some ⟨g, 0, none⟩) n n hn1 hn2 (bitsN n ds) (bitsN_len n ds)
      obtain ⟨W5, hW5⟩ : ∃ W, W = w4.alloc (.cells #[.int .i64 3, .slice (some ⟨g, 0, none⟩) n n] 36) := ⟨_, rfl⟩
      have hg5 : w4.grownBy W5 none := by rw [hW5]; exact only_alloc (only_refl _ _) _
      rw [← hW5]
      clear hW5
      have B5 := B4.out.grown hg5 (by simp)
      refine (KE W5 (fun _ => ⟨g, 0, rfl, trivial, B5.lt, fun j u hu => by
        rw [Nat.zero_add, B5.cell j]
        simpa [cellsU] using hu⟩)).mono ?_
      rintro e w6 ⟨v6, rfl, hB6, hG6⟩
      have B6 := Lib.hid hB6
      have G6 := Lib.hid (only_trans G4.out (only_trans hg5 hG6))
      have hz6 := (only_trans G4.out hg5).size
      clear hB6 hG6 KE B5 hg5
      go_wp2_with fail
      go_ret
      rw [HX.out]
      exact ⟨v6, rfl, B6.out.base hz6, G6.out⟩
set_option maxHeartbeats 4000000 in
set_option maxRecDepth 100000 in
theorem section_lin {S : Nat → Prop} (A : Option Addr) (es : List Ev) (c : Nat) (w : World) (hev : Evs S w A es) (hel : es.length ≤ 40) (hs : ∀ e ∈ es, EvL e) :
    Calls Tryz.prog 50 #[.slice A es.length c, .int .i64 9] w (NewB w (linesX es)) := by
  have K := Lib.hid (lines_any A es c w hev hel hs)
  clear hev hs
  go_enter Tryz.func50, Tryz.ntmps50
  go_wp2_with fail
  refine K.out.mono ?_
  rintro e w5 ⟨v5, rfl, hB5, hG5⟩
  have B5 := Lib.hid hB5
  have G5 := Lib.hid hG5
  clear hB5 hG5 K
  go_wp2_with fail
  go_ret
  exact ⟨v5, rfl, B5.out, G5.out⟩
set_option maxHeartbeats 4000000 in
set_option maxRecDepth 100000 in
theorem section_wds {S : Nat → Prop} (A : Option Addr) (es : List Ev) (c : Nat) (w : World) (hev : Evs S w A es) (hel : es.length ≤ 40) (hs : ∀ e ∈ es, EvS e) :
    Calls Tryz.prog 50 #[.slice A es.length c, .int .i64 11] w (NewB w (indexX es)) := by
  have K := Lib.hid (index_any A es c w hev hel hs)
  clear hev hs
  go_enter Tryz.func50, Tryz.ntmps50
  go_wp2_with fail
  refine K.out.mono ?_
  rintro e w5 ⟨v5, rfl, hB5, hG5⟩
  have B5 := Lib.hid hB5
  have G5 := Lib.hid hG5
  clear hB5 hG5 K
  go_wp2_with fail
  go_ret
  exact ⟨v5, rfl, B5.out, G5.out⟩
set_option maxHeartbeats 4000000 in
set_option maxRecDepth 100000 in
theorem section_fil {S : Nat → Prop} (A : Option Addr) (es : List Ev) (c : Nat) (w : World) (hev : Evs S w A es) (hel : es.length ≤ 40) (hs : ∀ e ∈ es, EvS e) :
    Calls Tryz.prog 50 #[.slice A es.length c, .int .i64 12] w (NewB w (filX es)) := by
  have K := Lib.hid (filter_any A es c w hev hel hs)
  clear hev hs
  go_enter Tryz.func50, Tryz.ntmps50
  go_wp2_with fail
  refine K.out.mono ?_
  rintro e w5 ⟨v5, rfl, hB5, hG5⟩
  have B5 := Lib.hid hB5
  have G5 := Lib.hid hG5
  clear hB5 hG5 K
  go_wp2_with fail
  go_ret
  exact ⟨v5, rfl, B5.out, G5.out⟩
end Go.Proofs.YtpaiideboodaeaaGreatDoor

namespace Go.Proofs.YtpaiideboodaeaaGreatDoor
open Go.RowKit
set_option linter.unusedVariables false
set_option linter.unusedSimpArgs false

set_option maxHeartbeats 4000000 in
set_option maxRecDepth 100000 in
theorem scrc_any {S : Nat → Prop} (A : Option Addr) (bs : List Int) (c : Nat) (w : World) (hr : Rd S w A (bs.map (.int .u8))) (hl : bs.length ≤ 10000000) :
    Calls Tryz.prog 31 #[.slice A bs.length c] w (fun e w' => e = .returned (.int .u32 (crcN bs : Nat)) ∧ w' = w) := by
  have HR := Lib.hid hr
  clear hr
  go_enter Tryz.func31, Tryz.ntmps31
  go_wp2_with fail
  go_loopw [3, 8] (fun vc vi wr => ∃ (k s : Nat), vi = .int .i64 k ∧ vc = .int .u32 s ∧ k ≤ bs.length ∧ Hid (crcT (bs.take k) = s) ∧ s < 4294967296 ∧ wr = w) (fun _ vi _ => bs.length - (intOf vi).toNat)
  case atStart => exact ⟨0, 4294967295, rfl, rfl, Nat.zero_le _, Lib.hid rfl, by decide, rfl⟩
  case round =>
    obtain ⟨k, s, rfl, rfl, hk, HS, hs, rfl⟩ := hrel
    by_cases hlt : k < bs.length
    · obtain ⟨x, hx⟩ : ∃ x, bs[k]? = some x := ⟨_, List.getElem?_eq_getElem hlt⟩
      obtain ⟨xn, hxn⟩ : ∃ n : Nat, n = (x % 4294967296).toNat := ⟨_, rfl⟩
      have hxw : x % 4294967296 = (xn : Int) := by omega
      obtain ⟨b, off, eA, hS, hlt2, hc⟩ := HR.out (by simp; omega)
      subst eA
      have c0 := hc k (.int .u8 x) (by simp [hx])
      have i1 : (k : Int) < (bs.length : Int) := by omega
      have HN : Hid (crcT (bs.take (k + 1)) = crcK 8 (s ^^^ xn)) := Lib.hid (by
        obtain ⟨h1, h2⟩ := List.getElem?_eq_some_iff.1 hx
        rw [List.take_succ_eq_append_getElem h1, h2, crcT_snoc, HS.out, crcS, ← hxn])
      have hxs : s ^^^ xn < 4294967296 := xor_lt32 hs (by omega)
      have HXR := Lib.hid (xor_u32 s xn hs (by omega))
      clear hc hx hxn
      go_wp2_with fail
      rw [HXR.out]
      obtain ⟨wo, rfl⟩ : ∃ wo : World, wo = wr := ⟨_, rfl⟩
      go_loopw [3, 16] (fun vc vj wr => ∃ (j t : Nat), vj = .int .i64 j ∧ vc = .int .u32 t ∧ j ≤ 8 ∧ Hid (t = crcK j (s ^^^ xn)) ∧ t < 4294967296 ∧ wr = wo) (fun _ vj _ => 8 - (intOf vj).toNat)
      case atStart => exact ⟨0, s ^^^ xn, rfl, rfl, Nat.zero_le _, Lib.hid rfl, hxs, rfl⟩
      case round =>
        obtain ⟨j, t, rfl, rfl, hj, HT, ht, rfl⟩ := hrel
        by_cases hlt8 : j < 8
        · have i2 : (j : Int) < 8 := by omega
          by_cases hodd : t % 2 = 1
          · have ha : bits BinOp.and IntKind.u32 (t : Int) 1 = 1 := by
              have h := and_u32 t 1 ht (by decide)
              rw [and_one32, hodd] at h
              exact h
            have hb : bits BinOp.and IntKind.u32 3988292384 4294967295 = 3988292384 := by decide
            have HT2 : Hid (t / 2 ^^^ 3988292384 = crcK (j + 1) (s ^^^ xn)) := Lib.hid (by rw [crcK, ← HT.out, crc1, if_pos hodd])
            have HX2 := Lib.hid (xor_u32 (t / 2) 3988292384 (by omega) (by decide))
            have hl2 : t / 2 ^^^ 3988292384 < 4294967296 := xor_lt32 (by omega) (by decide)
            clear hodd
            go_wp2_with fail
            go_roundw
            case rel => exact ⟨j + 1, t / 2 ^^^ 3988292384, by go_num, congrArg (Value.int .u32) HX2.out, by omega, HT2, hl2, trivial⟩
            case measure => simp [intOf]; omega
          · have ha : bits BinOp.and IntKind.u32 (t : Int) 1 = 0 := by
              have h := and_u32 t 1 ht (by decide)
              rw [and_one32, show t % 2 = 0 by omega] at h
              exact h
            have hb : bits BinOp.and IntKind.u32 3988292384 0 = 0 := by decide
            have HT2 : Hid (t / 2 = crcK (j + 1) (s ^^^ xn)) := Lib.hid (by rw [crcK, ← HT.out, crc1, if_neg hodd])
            have HX2 := Lib.hid (xor_u32 (t / 2) 0 (by omega) (by decide))
            clear hodd
            go_wp2_with fail
            go_roundw
            case rel => exact ⟨j + 1, t / 2, by go_num, congrArg (Value.int .u32) (HX2.out.trans (by rw [Nat.xor_zero])), by omega, HT2, by omega, trivial⟩
            case measure => simp [intOf]; omega
        · have i2 : ¬ (j : Int) < 8 := by omega
          have hj8 : j = 8 := by omega
          have HT2 : Hid (crcT (bs.take (k + 1)) = t) := Lib.hid (by rw [HN.out, HT.out, hj8])
          clear hj8
          go_wp2_with fail
          go_roundw
          case rel => exact ⟨k + 1, t, by go_num, rfl, by omega, HT2, ht, trivial⟩
          case measure => simp [intOf]; omega
    · have i1 : ¬ (k : Int) < (bs.length : Int) := by omega
      have HE : Hid (crcN bs = s ^^^ 4294967295) := Lib.hid (by have h := HS.out; rw [List.take_of_length_le (by omega)] at h; unfold crcN; rw [h])
      have HX3 : Hid (bits BinOp.xor IntKind.u32 IntKind.u32.max (s : Int) = ((s ^^^ 4294967295 : Nat) : Int)) := Lib.hid (by rw [Nat.xor_comm]; exact xor_u32 4294967295 s (by decide) hs)
      go_wp2_with fail
      go_ret
      exact ⟨congrArg (fun x => Ending.returned (Value.int .u32 x)) (HX3.out.trans (congrArg (fun (x : Nat) => (x : Int)) HE.out.symm)), rfl⟩
end Go.Proofs.YtpaiideboodaeaaGreatDoor

namespace Go.Proofs.YtpaiideboodaeaaGreatDoor
open Go.RowKit
set_option linter.unusedVariables false
set_option linter.unusedSimpArgs false

theorem wordsA27 : rawW (bts ⟨#[97, 44, 32, 98]⟩) = [⟨#[97]⟩, ⟨#[98]⟩] := by kernel_rfl
theorem srtA27 : Srt [(⟨#[97]⟩ : ByteArray), ⟨#[98]⟩] := by simp [Srt, sl, ByteArray.toList_eq, Op.bytesLess]
set_option maxHeartbeats 1000000 in
theorem awake27_any (w : World) : Calls Tryz.prog 6 #[] w (BoolExt true w) := by
  have K := Lib.hid (swords_own ⟨#[97, 44, 32, 98]⟩ w (by decide))
  go_enter Tryz.func6, Tryz.ntmps6
  go_wp2_with fail
  refine K.out.mono ?_
  rintro e w1 ⟨A, c, ds, rfl, -, -, h3, h4, -, -, hg⟩
  have hd : ds = [⟨#[97]⟩, ⟨#[98]⟩] := srt_ext h3 srtA27 (fun s => by rw [h4, wordsA27])
  subst hd
  have G := Lib.hid hg
  clear h3 h4 hg K
  simp only [List.length_cons, List.length_nil, Nat.zero_add, Nat.reduceAdd]
  go_wp2_with fail
  go_ret
  exact ⟨rfl, G.out⟩
end Go.Proofs.YtpaiideboodaeaaGreatDoor
