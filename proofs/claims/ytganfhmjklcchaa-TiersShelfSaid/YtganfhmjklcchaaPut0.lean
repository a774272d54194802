/- Putting into and taking from a shelf: plain law and posts. No condition. -/
import Derived.Test.YtganfhmjklcchaaAt33
namespace Go.Proofs.Ytganfhmjklcchaa
open Go.RowKit
set_option linter.unusedVariables false
set_option linter.unusedSimpArgs false

def putB (bs : List BlobD) (i t : Int) (x : BlobD) : List BlobD := if okC (cfBlob i t) bs = true then bs.set (lowC (cfBlob i t) bs) x else bs.take (lowC (cfBlob i t) bs) ++ x :: bs.drop (lowC (cfBlob i t) bs)
def delB (bs : List BlobD) (i t : Int) : List BlobD := if okC (cfBlob i t) bs = true then bs.take (lowC (cfBlob i t) bs) ++ bs.drop (lowC (cfBlob i t) bs + 1) else bs
theorem putB_ok {bs : List BlobD} {i t : Int} {x : BlobD} (h : okC (cfBlob i t) bs = true) : putB bs i t x = bs.take (lowC (cfBlob i t) bs) ++ x :: bs.drop (lowC (cfBlob i t) bs + 1) := by
  unfold putB
  rw [if_pos h]
  obtain ⟨y, hy, -⟩ := okC_some h
  have := (List.getElem?_eq_some_iff.1 hy).1
  rw [List.set_eq_take_append_cons_drop, if_pos this]
theorem putB_no {bs : List BlobD} {i t : Int} {x : BlobD} (h : okC (cfBlob i t) bs = false) : putB bs i t x = bs.take (lowC (cfBlob i t) bs) ++ x :: bs.drop (lowC (cfBlob i t) bs) := by
  unfold putB; rw [h]; simp
theorem putB_len (bs : List BlobD) (i t : Int) (x : BlobD) : (putB bs i t x).length ≤ bs.length + 1 := by
  have h1 := lowC_le (cf := cfBlob i t) bs
  cases h : okC (cfBlob i t) bs with
  | true => rw [putB_ok h]; simp; omega
  | false => rw [putB_no h]; simp; omega
theorem delB_len (bs : List BlobD) (i t : Int) : (delB bs i t).length ≤ bs.length := by
  unfold delB; split
  · simp; omega
  · exact Nat.le_refl _
/-- the same keys and data -/
def Alike (al bs : List BlobD) : Prop := al.map BlobD.key = bs.map BlobD.key
theorem Alike.len {al bs : List BlobD} (h : Alike al bs) : al.length = bs.length := by have := congrArg List.length h; simpa using this
theorem Alike.low {al bs : List BlobD} (h : Alike al bs) (i t : Int) : lowC (cfBlob i t) al = lowC (cfBlob i t) bs := by
  have key : ∀ cs : List BlobD, lowC (cfBlob i t) cs = ((cs.map BlobD.key).takeWhile (fun k => decide ((if cmpI k.1 i = 0 then cmpI k.2.1 t else cmpI k.1 i) < 0))).length := by
    intro cs
    unfold lowC
    rw [List.takeWhile_map, List.length_map]
    rfl
  rw [key al, key bs, show al.map BlobD.key = bs.map BlobD.key from h]
theorem Alike.at_ {al bs : List BlobD} (h : Alike al bs) (n : Nat) : (al[n]?).map BlobD.key = (bs[n]?).map BlobD.key := by
  have := congrArg (fun l => l[n]?) h
  simpa using this
theorem Alike.ok {al bs : List BlobD} (h : Alike al bs) (i t : Int) : okC (cfBlob i t) al = okC (cfBlob i t) bs := by
  unfold okC
  rw [h.low i t]
  have h1 := h.at_ (lowC (cfBlob i t) bs)
  cases ha : al[lowC (cfBlob i t) bs]? with
  | none => cases hb : bs[lowC (cfBlob i t) bs]? with
    | none => rfl
    | some y => rw [ha, hb] at h1; cases h1
  | some x => cases hb : bs[lowC (cfBlob i t) bs]? with
    | none => rw [ha, hb] at h1; cases h1
    | some y =>
      rw [ha, hb] at h1
      injection h1 with h1
      unfold BlobD.key at h1
      injection h1 with h1 h2
      injection h2 with h2 h3
      show (cfBlob i t x == 0) = (cfBlob i t y == 0)
      unfold cfBlob
      rw [h1, h2]
theorem Alike.put {al bs : List BlobD} (h : Alike al bs) (i t : Int) {x y : BlobD} (hk : x.key = y.key) : Alike (putB al i t x) (putB bs i t y) := by
  have hl := h.low i t
  have hm : al.map BlobD.key = bs.map BlobD.key := h
  unfold Alike putB
  rw [h.ok i t, hl]
  split
  · rw [List.map_set, List.map_set, hm, hk]
  · simp only [List.map_append, List.map_cons, List.map_take, List.map_drop, hm, hk]
theorem Alike.del {al bs : List BlobD} (h : Alike al bs) (i t : Int) : Alike (delB al i t) (delB bs i t) := by
  have hl := h.low i t
  have hm : al.map BlobD.key = bs.map BlobD.key := h
  unfold Alike delB
  rw [h.ok i t, hl]
  split
  · simp only [List.map_append, List.map_take, List.map_drop, hm]
  · exact hm
theorem Alike.get {al bs : List BlobD} (h : Alike al bs) (i t : Int) : getB al i t = getB bs i t := by
  unfold getB
  rw [h.ok i t, h.low i t]
  split
  · have h1 := h.at_ (lowC (cfBlob i t) bs)
    cases ha : al[lowC (cfBlob i t) bs]? with
    | none => cases hb : bs[lowC (cfBlob i t) bs]? with
      | none => rfl
      | some y => rw [ha, hb] at h1; cases h1
    | some x => cases hb : bs[lowC (cfBlob i t) bs]? with
      | none => rw [ha, hb] at h1; cases h1
      | some y =>
        rw [ha, hb] at h1
        injection h1 with h1
        unfold BlobD.key at h1
        injection h1 with h1 h2
        injection h2 with h2 h3
        simp [h3]
  · rfl
/-- the order is kept -/
theorem BSrt.put {bs : List BlobD} (h : BSrt bs) (x : BlobD) : BSrt (putB bs x.id x.tier x) := by
  have hlt : ∀ q y, q < lowC (cfBlob x.id x.tier) bs → bs[q]? = some y → Blt y x := fun q y hq hy => by
    have := cfBlob_lt.1 (lowC_lt hq hy); exact this
  have hge : ∀ y, bs[lowC (cfBlob x.id x.tier) bs]? = some y → ¬ cfBlob x.id x.tier y < 0 := fun y hy => lowC_ge hy
  obtain ⟨m, hm⟩ : ∃ m, m = lowC (cfBlob x.id x.tier) bs := ⟨_, rfl⟩
  rw [← hm] at hlt hge
  have hp : BSrt (bs.take m) := h.sublist (List.take_sublist _ _)
  have htk : ∀ y ∈ bs.take m, Blt y x := fun y hy => by
    obtain ⟨q, hq⟩ := List.getElem?_of_mem hy
    rw [List.getElem?_take] at hq
    split at hq
    · exact hlt q y (by assumption) hq
    · cases hq
  have hbt : ∀ a b c : BlobD, Blt a b → Blt b c → Blt a c := fun a b c h1 h2 => by unfold Blt at *; omega
  have hdr : ∀ k, m ≤ k → (∀ y, bs[k]? = some y → Blt x y) → ∀ y ∈ bs.drop k, Blt x y := fun k hk h0 y hy => by
    obtain ⟨q, hq⟩ := List.getElem?_of_mem hy
    rw [List.getElem?_drop] at hq
    obtain ⟨p1, p2⟩ := List.getElem?_eq_some_iff.1 hq
    rcases Nat.eq_zero_or_pos q with rfl | hq0
    · exact h0 y (by simpa using hq)
    · have hz : bs[k]? = some (bs[k]'(by omega)) := List.getElem?_eq_getElem _
      have h1 := h0 _ hz
      have h2 := List.pairwise_iff_getElem.1 h k (k + q) (by omega) p1 (by omega)
      rw [p2] at h2
      exact hbt _ _ _ h1 h2
  cases hok : okC (cfBlob x.id x.tier) bs with
  | true =>
    obtain ⟨y, hy, h0⟩ := okC_some hok
    rw [putB_ok hok, ← hm]
    rw [← hm] at hy
    obtain ⟨y1, y2⟩ := cfBlob_eq.1 h0
    refine List.pairwise_append.2 ⟨hp, List.pairwise_cons.2 ⟨?_, h.sublist (List.drop_sublist _ _)⟩, fun a ha b hb => ?_⟩
    · refine hdr (m + 1) (by omega) fun z hz => ?_
      obtain ⟨p1, p2⟩ := List.getElem?_eq_some_iff.1 hy
      obtain ⟨q1, q2⟩ := List.getElem?_eq_some_iff.1 hz
      have h2 := List.pairwise_iff_getElem.1 h m (m + 1) p1 q1 (by omega)
      rw [p2, q2] at h2
      unfold Blt at *; omega
    · rcases List.mem_cons.1 hb with rfl | hb
      · exact htk a ha
      · have hpw := h
        rw [← List.take_append_drop (m + 1) bs] at hpw
        have h3 := (List.pairwise_append.1 hpw).2.2
        exact h3 a (by
          obtain ⟨q, hq⟩ := List.getElem?_of_mem ha
          rw [List.getElem?_take] at hq
          split at hq
          · exact List.mem_of_getElem? (i := q) (by rw [List.getElem?_take, if_pos (by omega)]; exact hq)
          · cases hq) b hb
  | false =>
    rw [putB_no hok, ← hm]
    refine List.pairwise_append.2 ⟨hp, List.pairwise_cons.2 ⟨?_, h.sublist (List.drop_sublist _ _)⟩, fun a ha b hb => ?_⟩
    · refine hdr m (Nat.le_refl _) fun z hz => ?_
      have h1 := hge z hz
      have h2 : ¬ cfBlob x.id x.tier z = 0 := by
        unfold okC at hok
        rw [← hm, hz] at hok
        simpa using hok
      rw [cfBlob_lt] at h1
      rw [cfBlob_eq] at h2
      unfold Blt; omega
    · rcases List.mem_cons.1 hb with rfl | hb
      · exact htk a ha
      · have hpw := h
        rw [← List.take_append_drop m bs] at hpw
        exact (List.pairwise_append.1 hpw).2.2 a ha b hb
theorem BSrt.del {bs : List BlobD} (h : BSrt bs) (i t : Int) : BSrt (delB bs i t) := by
  unfold delB
  split
  · have hs : (bs.take (lowC (cfBlob i t) bs) ++ bs.drop (lowC (cfBlob i t) bs + 1)).Sublist bs := by
      have h1 := List.take_append_drop (lowC (cfBlob i t) bs) bs
      conv => rhs; rw [← h1]
      refine List.Sublist.append (List.Sublist.refl _) ?_
      rw [← List.drop_drop]
      exact List.drop_sublist _ _
    exact List.Pairwise.sublist hs h
  · exact h
theorem BSrt.alike {al bs : List BlobD} (h : BSrt al) (k : Alike al bs) : BSrt bs := by
  have h1 : (al.map BlobD.key).Pairwise (fun a b => a.1 < b.1 ∨ (a.1 = b.1 ∧ a.2.1 < b.2.1)) := List.pairwise_map.2 h
  rw [show al.map BlobD.key = bs.map BlobD.key from k] at h1
  have h2 := (List.pairwise_map (f := BlobD.key) (R := fun a b : Int × Int × List Int => a.1 < b.1 ∨ (a.1 = b.1 ∧ a.2.1 < b.2.1))).1 h1
  exact h2
theorem own_none {w : World} {base e z n c n' : Nat} {xs : List Value} (h : w.ownsRow base e z (.slice none n c) n' xs) : c = 0 := by
  rcases h.2 with ⟨e, _⟩ | ⟨g', cap, cur, e, _⟩
  · injection e
  · injection e with e1; cases e1
theorem Rd.ne_none {S : Nat → Prop} {w : World} {A : Option Addr} {xs : List Value} (h : Rd S w A xs) (hn : 0 < xs.length) : A ≠ none := by
  obtain ⟨b, o, rfl, -⟩ := h hn
  simp
theorem own_two {w : World} {b1 e1 z1 n1 b2 e2 z2 n2 : Nat} {v1 v2 : Value} {x1 x2 : List Value} (h1 : w.ownsRow b1 e1 z1 v1 n1 x1) (h2 : w.ownsRow b2 e2 z2 v2 n2 x2) (hne : e1 ≠ e2) : v1.ownBlock = none ∨ v1.ownBlock ≠ v2.ownBlock := by
  rcases h1.2 with ⟨rfl, _⟩ | ⟨g, cap, cur, rfl, _, hh, _⟩
  · exact .inl rfl
  · right
    intro e
    rcases h2.2 with ⟨rfl, _⟩ | ⟨g', cap', cur', rfl, _, hh', _⟩
    · simp [Value.ownBlock] at e
    · have e' : g = g' := by simpa [Value.ownBlock] using e
      subst e'
      rw [hh] at hh'
      injection hh' with hh'
      injection hh' with _ h _
      exact hne h
theorem own_low {w : World} {base b2 e z n : Nat} {v : Value} {xs : List Value} (h : w.ownsRow base e z v n xs) (hb : b2 ≤ base) : w.ownsRow b2 e z v n xs := by
  refine ⟨h.1, ?_⟩
  rcases h.2 with h0 | ⟨g, cap, cur, h1, h2, h3⟩
  · exact .inl h0
  · exact .inr ⟨g, cap, cur, h1, Nat.le_trans hb h2, h3⟩
/-- what a shelf is, behind an operation -/
def ShPost (S : Nat → Prop) (w : World) (P : List BlobD → Prop) (e : Ending) (w' : World) : Prop :=
  ∃ (A : Option Addr) (c : Nat) (bs : List BlobD), e = .returned (.slice A bs.length c) ∧ P bs ∧ bs.length ≤ c ∧ c ≤ maxLen ∧ (A = none → c = 0) ∧ Rd S w' A (bs.flatMap BlobD.cells) ∧ (∀ x ∈ bs, x.Sub S w') ∧ w.grownBy w' none
end Go.Proofs.Ytganfhmjklcchaa
