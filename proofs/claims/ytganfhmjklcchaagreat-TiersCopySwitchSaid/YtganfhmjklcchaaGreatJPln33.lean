/- Shelves and manifests of chapter 33: plain laws. Conditions: the order of the shelf and of the manifest. -/
import Derived.Test.YtganfhmjklcchaaGreatJCln33
import Derived.Test.YtganfhmjklcchaaGreatJSwi33
import Derived.Test.YtganfhmjklcchaaGreatJSegS
import Derived.Deep.DeepCutAuto
import Derived.Test.YtganfhmjklcchaaGreatJInv
import Derived.Test.YtganfhmjklcchaaGreatJGenC
import Derived.Test.YtganfhmjklcchaaGreatJHdrT
import Derived.Deep.RegionWith
import Derived.StillTailTactics
namespace Go.Proofs.YtganfhmjklcchaaGreat
open Go.RowKit
set_option linter.unusedVariables false
set_option linter.unusedSimpArgs false

/-- the header is right and no section is damaged -/
def GdB (bs : List BlobD) : Prop := ∀ x ∈ bs, errS x.data = 0 ∧ damL x.data = []
/-- each segment lies in its tier -/
def HasB (ss : List SegD) (bs : List BlobD) : Prop := ∀ s ∈ ss, ∃ x ∈ bs, x.id = s.id ∧ x.tier = s.tier
theorem bsrt_one {bs : List BlobD} (h : BSrt bs) {x y : BlobD} (hx : x ∈ bs) (hy : y ∈ bs) (h1 : x.id = y.id) (h2 : x.tier = y.tier) : x = y := by
  obtain ⟨i, hi⟩ := List.getElem?_of_mem hx
  obtain ⟨j, hj⟩ := List.getElem?_of_mem hy
  obtain ⟨i1, i2⟩ := List.getElem?_eq_some_iff.1 hi
  obtain ⟨j1, j2⟩ := List.getElem?_eq_some_iff.1 hj
  rcases Nat.lt_trichotomy i j with h3 | h3 | h3
  · have := List.pairwise_iff_getElem.1 h i j i1 j1 h3
    rw [i2, j2] at this
    unfold Blt at this; omega
  · subst h3; rw [← i2, ← j2]
  · have := List.pairwise_iff_getElem.1 h j i j1 i1 h3
    rw [i2, j2] at this
    unfold Blt at this; omega
theorem low_of {bs : List BlobD} (h : BSrt bs) {k : Nat} {x : BlobD} {i t : Int} (hx : bs[k]? = some x) (h1 : x.id = i) (h2 : x.tier = t) : lowC (cfBlob i t) bs = k := by
  obtain ⟨k1, k2⟩ := List.getElem?_eq_some_iff.1 hx
  refine lowC_at (Nat.le_of_lt k1) (fun q y hq hy => ?_) (fun y hy => ?_)
  · obtain ⟨q1, q2⟩ := List.getElem?_eq_some_iff.1 hy
    have := List.pairwise_iff_getElem.1 h q k q1 k1 hq
    rw [q2, k2] at this
    rw [cfBlob_lt]
    unfold Blt at this; omega
  · rw [hx] at hy
    injection hy with hy
    rw [← hy, cfBlob_lt]; omega
theorem getB_iff {bs : List BlobD} (h : BSrt bs) {i t : Int} {d : List Int} : getB bs i t = some d ↔ ∃ x ∈ bs, x.id = i ∧ x.tier = t ∧ x.data = d := by
  constructor
  · intro hg
    unfold getB at hg
    split at hg
    · rename_i hok
      obtain ⟨x, hx, h0⟩ := okC_some hok
      rw [hx] at hg
      injection hg with hg
      obtain ⟨e1, e2⟩ := cfBlob_eq.1 h0
      exact ⟨x, List.mem_of_getElem? hx, e1, e2, hg⟩
    · cases hg
  · rintro ⟨x, hx, h1, h2, h3⟩
    obtain ⟨k, hk⟩ := List.getElem?_of_mem hx
    have hl := low_of h hk h1 h2
    unfold getB okC
    rw [hl, hk]
    have h0 : cfBlob i t x = 0 := cfBlob_eq.2 ⟨h1, h2⟩
    simp [h0, h3]
theorem putB_mem {bs : List BlobD} {i t : Int} {x' y : BlobD} (h : y ∈ putB bs i t x') : y ∈ bs ∨ y = x' := by
  unfold putB at h
  split at h
  · rcases List.mem_or_eq_of_mem_set h with h | h
    · exact .inl h
    · exact .inr h
  · rcases List.mem_append.1 h with h | h
    · exact .inl (List.mem_of_mem_take h)
    · rcases List.mem_cons.1 h with h | h
      · exact .inr h
      · exact .inl (List.mem_of_mem_drop h)
theorem putB_new {bs : List BlobD} {i t : Int} {x' : BlobD} : x' ∈ putB bs i t x' := by
  unfold putB
  split
  · rename_i hok
    obtain ⟨y, hy, -⟩ := okC_some hok
    exact List.mem_set (List.getElem?_eq_some_iff.1 hy).1 _
  · simp
theorem putB_old {bs : List BlobD} {i t : Int} {x' y : BlobD} (hy : y ∈ bs) (hne : ¬ (y.id = i ∧ y.tier = t)) : y ∈ putB bs i t x' := by
  unfold putB
  split
  · rename_i hok
    obtain ⟨z, hz, h0⟩ := okC_some hok
    obtain ⟨k, hk⟩ := List.getElem?_of_mem hy
    have : lowC (cfBlob i t) bs ≠ k := fun e => by
      rw [e, hk] at hz
      injection hz with hz
      rw [← hz] at h0
      exact hne (cfBlob_eq.1 h0)
    exact List.mem_of_getElem? (i := k) (by rw [List.getElem?_set_ne this]; exact hk)
  · rw [← List.take_append_drop (lowC (cfBlob i t) bs) bs] at hy
    rcases List.mem_append.1 hy with hy | hy
    · exact List.mem_append_left _ hy
    · exact List.mem_append_right _ (List.mem_cons_of_mem _ hy)
theorem GdB.put {bs : List BlobD} (h : GdB bs) {i t : Int} {x' : BlobD} (hx : errS x'.data = 0 ∧ damL x'.data = []) : GdB (putB bs i t x') := fun y hy => by
  rcases putB_mem hy with hy | rfl
  · exact h y hy
  · exact hx
theorem HasB.put {ss : List SegD} {bs : List BlobD} (h : HasB ss bs) {i t : Int} {x' : BlobD} (h1 : x'.id = i) (h2 : x'.tier = t) : HasB ss (putB bs i t x') := fun s hs => by
  obtain ⟨x, hx, e1, e2⟩ := h s hs
  by_cases he : x.id = i ∧ x.tier = t
  · exact ⟨x', putB_new, by rw [h1, ← he.1, e1], by rw [h2, ← he.2, e2]⟩
  · exact ⟨x, putB_old hx he, e1, e2⟩
theorem HasB.snoc {ss : List SegD} {bs : List BlobD} (h : HasB ss bs) {s : SegD} {x' : BlobD} (h1 : x'.id = s.id) (h2 : x'.tier = s.tier) : HasB (ss ++ [s]) (putB bs s.id s.tier x') := fun z hz => by
  rcases List.mem_append.1 hz with hz | hz
  · exact h.put h1 h2 z hz
  · rw [List.mem_singleton.1 hz]; exact ⟨x', putB_new, h1, h2⟩
theorem InB.put {bs : List BlobD} (h : ∀ x ∈ bs, InH x.data) {i t : Int} {x' : BlobD} (hx : InH x'.data) : ∀ y ∈ putB bs i t x', InH y.data := fun y hy => by
  rcases putB_mem hy with hy | rfl
  · exact h y hy
  · exact hx
theorem BSrt.putk {bs : List BlobD} (h : BSrt bs) {i t : Int} {x' : BlobD} (h1 : x'.id = i) (h2 : x'.tier = t) : BSrt (putB bs i t x') := by
  have := h.put x'
  rw [h1, h2] at this; exact this
theorem BSrt.clean {ss : List SegD} {bs : List BlobD} (h : BSrt bs) : BSrt (cleanB ss bs) := List.Pairwise.sublist List.filter_sublist h
/-- strictly ascending lists of the same members are equal -/
theorem asc_ext : ∀ (a b : List Int), a.Pairwise (· < ·) → b.Pairwise (· < ·) → (∀ x, x ∈ a ↔ x ∈ b) → a = b
  | [], [], _, _, _ => rfl
  | [], y :: b, _, _, h => by have := (h y).2 (List.mem_cons_self ..); cases this
  | x :: a, [], _, _, h => by have := (h x).1 (List.mem_cons_self ..); cases this
  | x :: a, y :: b, ha, hb, h => by
    obtain ⟨a1, a2⟩ := List.pairwise_cons.1 ha
    obtain ⟨b1, b2⟩ := List.pairwise_cons.1 hb
    have e : x = y := by
      rcases List.mem_cons.1 ((h x).1 (List.mem_cons_self ..)) with e | e
      · exact e
      · rcases List.mem_cons.1 ((h y).2 (List.mem_cons_self ..)) with e' | e'
        · exact e'.symm
        · have := a1 y e'; have := b1 x e; omega
    subst e
    rw [asc_ext a b a2 b2 fun z => ?_]
    constructor
    · intro hz
      rcases List.mem_cons.1 ((h z).1 (List.mem_cons_of_mem _ hz)) with e | e
      · have := a1 z hz; omega
      · exact e
    · intro hz
      rcases List.mem_cons.1 ((h z).2 (List.mem_cons_of_mem _ hz)) with e | e
      · have := b1 z hz; omega
      · exact e
theorem segF_id {ss : List SegD} {id : Int} {s : SegD} (h : segF ss id = some s) : s.id = id := by
  have := List.find?_some h
  simpa using this
/-- behind a cleaning there is one blob a segment -/
theorem clean_len {ss : List SegD} {bs : List BlobD} (hb : BSrt bs) (ha : AscId ss) (h : HasB ss bs) : (cleanB ss bs).length = ss.length := by
  have h1 : ((cleanB ss bs).map BlobD.id).Pairwise (· < ·) := by
    refine List.pairwise_map.2 ((hb.clean (ss := ss)).imp_of_mem fun {x y} hx hy hxy => ?_)
    have i1 := (List.mem_filter.1 hx).2
    have i2 := (List.mem_filter.1 hy).2
    unfold Blt at hxy
    by_cases e : x.id = y.id
    · exfalso
      unfold inM at i1 i2
      rw [← e] at i2
      cases hf : segF ss x.id with
      | none => rw [hf] at i1; cases i1
      | some s =>
        rw [hf] at i1 i2
        simp at i1 i2
        omega
    · omega
  have h2 : (ss.map SegD.id).Pairwise (· < ·) := List.pairwise_map.2 ha
  have := asc_ext _ _ h1 h2 fun z => ?_
  · have := congrArg List.length this
    simpa using this
  · constructor
    · intro hz
      obtain ⟨x, hx, rfl⟩ := List.mem_map.1 hz
      have i1 := (List.mem_filter.1 hx).2
      unfold inM at i1
      cases hf : segF ss x.id with
      | none => rw [hf] at i1; cases i1
      | some s => exact List.mem_map.2 ⟨s, segF_mem hf, segF_id hf⟩
    · intro hz
      obtain ⟨s, hs, rfl⟩ := List.mem_map.1 hz
      obtain ⟨x, hx, e1, e2⟩ := h s hs
      refine List.mem_map.2 ⟨x, List.mem_filter.2 ⟨hx, ?_⟩, e1⟩
      unfold inM
      rw [e1, segF_of ha hs]
      simp [e2]
theorem HasB.clean {ss : List SegD} {bs : List BlobD} (ha : AscId ss) (h : HasB ss bs) : HasB ss (cleanB ss bs) := fun s hs => by
  obtain ⟨x, hx, e1, e2⟩ := h s hs
  refine ⟨x, List.mem_filter.2 ⟨hx, ?_⟩, e1, e2⟩
  unfold inM
  rw [e1, segF_of ha hs]
  simp [e2]
theorem GdB.clean {ss : List SegD} {bs : List BlobD} (h : GdB bs) : GdB (cleanB ss bs) := fun x hx => h x (cleanB_mem hx)
theorem setF_id (id tier : Int) (s : SegD) : (setF id tier s).id = s.id := by unfold setF SegD.at_; split <;> rfl
theorem setT_asc {ss : List SegD} (ha : AscId ss) (id tier : Int) : AscId (setT ss id tier) := by
  unfold AscId setT
  refine List.pairwise_map.2 (ha.imp fun {a b} h => ?_)
  rw [setF_id, setF_id]; exact h
theorem setT_find {ss : List SegD} {id tier : Int} {s : SegD} (h : segF ss id = some s) : segF (setT ss id tier) id = some (s.at_ s.level tier) := by
  have hid := segF_id h
  unfold segF setT at *
  rw [List.find?_map]
  have : ((fun s : SegD => s.id == id) ∘ setF id tier) = fun s => s.id == id := by funext z; simp [setF_id]
  rw [this, h]
  simp [setF, hid]
theorem HasB.setT {ss : List SegD} {bs : List BlobD} (h : HasB ss bs) {id tier : Int} {x : BlobD} (hx : x ∈ bs) (h1 : x.id = id) (h2 : x.tier = tier) : HasB (setT ss id tier) bs := fun s hs => by
  obtain ⟨z, hz, rfl⟩ := List.mem_map.1 hs
  by_cases he : z.id = id
  · refine ⟨x, hx, ?_, ?_⟩
    · rw [setF_id, h1, he]
    · unfold setF; rw [if_pos he]; exact h2
  · obtain ⟨y, hy, e1, e2⟩ := h z hz
    refine ⟨y, hy, ?_, ?_⟩
    · rw [setF_id]; exact e1
    · unfold setF; rw [if_neg he]; exact e2
/-- a load out of a shelf that has everything -/
theorem load_good {ss : List SegD} {bs : List BlobD} (hb : BSrt bs) (hg : GdB bs) {id : Int} {s : SegD} {x : BlobD} (hs : segF ss id = some s) (hx : x ∈ bs) (h1 : x.id = id) (h2 : x.tier = s.tier) : loadB ss bs id = (0, x.data) := by
  unfold loadB
  rw [hs]
  simp only
  rw [(getB_iff hb).2 ⟨x, hx, h1, h2, rfl⟩]
  unfold ldO
  simp only
  rw [if_pos (hg x hx).1]
theorem whole_good {bs : List BlobD} (hb : BSrt bs) (hg : GdB bs) {id t : Int} {x : BlobD} (hx : x ∈ bs) (h1 : x.id = id) (h2 : x.tier = t) : wholeB bs id t = some x.data := by
  unfold wholeB
  rw [(getB_iff hb).2 ⟨x, hx, h1, h2, rfl⟩]
  unfold whO
  simp only
  rw [if_pos (hg x hx)]
end Go.Proofs.YtganfhmjklcchaaGreat

namespace Go.Proofs.YtganfhmjklcchaaGreat
open Go.RowKit
set_option linter.unusedVariables false
set_option linter.unusedSimpArgs false

def StayB (b : Bool) (w : World) (e : Ending) (w' : World) : Prop := e = .returned (.bool b) ∧ w' = w
set_option maxHeartbeats 1000000 in
theorem letter01 (c : Nat) (h1 : 97 ≤ c) (h2 : c ≤ 122) (w : World) : Calls Tryz.prog 127 #[.int .u8 (c : Int)] w (StayB true w) := by
  have i1 : (97 : Int) ≤ (c : Int) := by omega
  have i2 : (c : Int) ≤ 122 := by omega
  go_enter Tryz.func127, Tryz.ntmps127
  go_wp2_with fail
  go_ret
  exact ⟨rfl, rfl⟩
set_option maxHeartbeats 1000000 in
theorem digit01 (c : Nat) (h1 : 97 ≤ c) (h2 : c ≤ 122) (w : World) : Calls Tryz.prog 135 #[.int .u8 (c : Int)] w (StayB false w) := by
  have i1 : (48 : Int) ≤ (c : Int) := by omega
  have i2 : ¬ (c : Int) ≤ 57 := by omega
  have i3 : ¬ c ≤ 57 := by omega
  go_enter Tryz.func135, Tryz.ntmps135
  go_wp2_with fail
  go_ret
  exact ⟨rfl, rfl⟩
set_option maxHeartbeats 1000000 in
theorem word01 (c : Nat) (h1 : 97 ≤ c) (h2 : c ≤ 122) (w : World) : Calls Tryz.prog 128 #[.int .u8 (c : Int)] w (StayB true w) := by
  have KD := Lib.hid (digit01 c h1 h2 w)
  have KL := Lib.hid (letter01 c h1 h2 w)
  go_enter Tryz.func128, Tryz.ntmps128
  go_wp2_with fail
  refine KD.out.mono ?_
  rintro e w1 ⟨rfl, rfl⟩
  go_wp2_with fail
  refine KL.out.mono ?_
  rintro e w1 ⟨rfl, rfl⟩
  go_wp2_with fail
  go_ret
  exact ⟨rfl, rfl⟩
/-- a name of small letters -/
def LowName (s : ByteArray) : Prop := 1 ≤ s.size ∧ s.size ≤ 32 ∧ ∀ (k : Nat) (h : k < s.size), 97 ≤ (s[k]'h).toNat ∧ (s[k]'h).toNat ≤ 122
set_option maxHeartbeats 2000000 in
set_option maxRecDepth 100000 in
theorem fieldname_any (s : ByteArray) (hs : LowName s) (w : World) : Calls Tryz.prog 115 #[.string s] w (StayB true w) := by
  obtain ⟨h1, h2, h3⟩ := hs
  have H3 := Lib.hid h3
  have h0 : 0 < s.size := by omega
  have i0 : ¬ s.size < 1 := by omega
  have i00 : ¬ (s.size : Int) < 1 := by omega
  have i1 : ¬ (32 : Int) < (s.size : Int) := by omega
  have i2 : ¬ 32 < s.size := by omega
  have K0 := Lib.hid (letter01 (s[0]'h0).toNat (h3 0 h0).1 (h3 0 h0).2 w)
  have KW : Hid (∀ (k : Nat) (h : k < s.size), Calls Tryz.prog 128 #[.int .u8 ((s[k]'h).toNat : Int)] w (StayB true w)) := Lib.hid (fun k h => word01 _ (h3 k h).1 (h3 k h).2 w)
  clear h3
  go_enter Tryz.func115, Tryz.ntmps115
  go_wp2_with fail
  refine K0.out.mono ?_
  rintro e w1 ⟨rfl, rfl⟩
  go_wp2_with fail
  go_loopw [3] (fun vi wr => ∃ k : Nat, vi = .int .i64 k ∧ k ≤ s.size ∧ wr = w1) (fun vi _ => s.size - (intOf vi).toNat)
  case atStart => exact ⟨0, rfl, Nat.zero_le _, rfl⟩
  case round =>
    obtain ⟨k, rfl, hk, rfl⟩ := hrel
    by_cases hlt : k < s.size
    · have KK := Lib.hid (KW.out k hlt)
      have j1 : (k : Int) < (s.size : Int) := by omega
      go_wp2_with fail
      refine KK.out.mono ?_
      rintro e w1 ⟨rfl, rfl⟩
      go_wp2_with fail
      go_roundw
      case rel => exact ⟨k + 1, by go_num, by omega, trivial⟩
      case measure => simp [intOf]; omega
    · have j1 : ¬ (k : Int) < (s.size : Int) := by omega
      go_wp2_with fail
      go_ret
      exact ⟨rfl, rfl⟩
def QuietB (v : Value) (w : World) (e : Ending) (w' : World) : Prop := e = .returned v ∧ ∃ n, w' = w.drewN n
set_option maxHeartbeats 1000000 in
theorem fsame_true {S S' : Nat → Prop} (A B : Option Addr) (ls : List FieldD) (c d : Nat) (w : World) (ha : Rd S w A (ls.flatMap FieldD.cells)) (hb : Rd S' w B (ls.flatMap FieldD.cells)) (hl : ls.length ≤ 10000000) :
    Calls Tryz.prog 98 #[.slice A ls.length c, .slice B ls.length d] w (QuietB (.bool true) w) := by
  have HA := Lib.hid ha
  have HB := Lib.hid hb
  clear ha hb
  have t1 : ((ls.length : Int) != (ls.length : Int)) = false := by simp
  go_enter Tryz.func98, Tryz.ntmps98
  go_wp2
  go_loopw [5] (fun i wr => ∃ k : Nat, k ≤ ls.length ∧ i = .int .i64 k ∧ ∃ q, wr = w.drewN q) (fun i _ => ls.length - (intOf i).toNat)
  case atStart => exact ⟨0, Nat.zero_le _, rfl, 0, rfl⟩
  case round =>
    obtain ⟨k, hk, rfl, q, rfl⟩ := hrel
    by_cases hlt : k < ls.length
    · obtain ⟨x, hx⟩ : ∃ x, ls[k]? = some x := ⟨_, List.getElem?_eq_getElem hlt⟩
      obtain ⟨ba, oa, rfl, -, a0, a1⟩ := fld_in HA.out hx
      obtain ⟨bb, ob, rfl, -, b0, b1⟩ := fld_in HB.out hx
      have i1 : (k : Int) < (ls.length : Int) := by omega
      clear hx
      go_wp2
      go_quiet (fail)
      go_wp2
      go_roundw
      case rel => exact ⟨k + 1, by omega, by go_num, _, rfl⟩
      case measure => simp [intOf]; omega
    · have i1 : ¬ ((k : Int) < (ls.length : Int)) := by omega
      go_wp2
      go_ret
      exact ⟨rfl, _, rfl⟩
end Go.Proofs.YtganfhmjklcchaaGreat

namespace Go.Proofs.YtganfhmjklcchaaGreat
open Go.RowKit
set_option linter.unusedVariables false
set_option linter.unusedSimpArgs false

theorem set_sameZ {α : Type} {xs : List α} {i : Nat} {u : α} (h : xs[i]? = some u) : xs.set i u = xs := by
  apply List.ext_getElem?
  intro j
  rw [List.getElem?_set]
  split
  · rename_i e
    subst e
    split
    · exact h.symm
    · rename_i hn
      rw [List.getElem?_eq_none (by omega)] at h
      cases h
  · rfl
theorem own_block {w : World} {base e size k c : Nat} {A : Option Addr} {xs : List Value} (h : w.ownsRow base e size (.slice A (k + 1) c) (k + 1) xs) : ∃ g, A = some ⟨g, 0, none⟩ ∧ base ≤ g ∧ g < w.heap.size ∧ (∀ j u, xs[j]? = some u → w.cell? ⟨g, j, none⟩ = some u) ∧ ∀ j, w.frozen? ⟨g, j, none⟩ = false := by
  obtain ⟨hl, h2⟩ := h
  rcases h2 with ⟨h3, _⟩ | ⟨g, cap, cur, h3, h4, h5, h6, h7, h8, h9⟩
  · cases h3
  · injection h3 with e1 e2 e3
    refine ⟨g, e1, h4, (Array.getElem?_eq_some_iff.1 h5).1, fun j u hu => ?_, fun j => Blk.frozen h5 j⟩
    rw [Blk.cell h5 j, ← Array.getElem?_toList]
    rw [← h9, List.getElem?_take] at hu
    split at hu
    · exact hu
    · cases hu
theorem own_putz {w : World} {base e size g n c k : Nat} {xs : List Value} {u : Value} (h : w.ownsRow base e size (.slice (some ⟨g, 0, none⟩) n c) n xs) (hk : xs[k]? = some u) : (w.setCell ⟨g, k, none⟩ u).ownsRow base e size (.slice (some ⟨g, 0, none⟩) n c) n xs := by
  have h1 := own_putk (u := u) h (k := k) (by have := (List.getElem?_eq_some_iff.1 hk).1; rw [← h.1]; exact this)
  rw [set_sameZ hk] at h1
  exact h1
def SortP (w : World) (fs : List FieldD) (e : Ending) (w' : World) : Prop := ∃ A' c', e = .returned (.tuple #[.slice A' fs.length c', .int .i64 0]) ∧ Rd (w.heap.size ≤ ·) w' A' (fs.flatMap FieldD.cells) ∧ w.grownBy w' none
theorem flen2 (fs : List FieldD) : (fs.flatMap FieldD.cells).length = fs.length * 2 := flat_len _ 2 FieldD.cells_len fs
set_option maxHeartbeats 8000000 in
set_option maxRecDepth 100000 in
theorem fsort_any {S : Nat → Prop} (A : Option Addr) (fs : List FieldD) (c : Nat) (w : World) (h : Rd S w A (fs.flatMap FieldD.cells)) (hl : fs.length ≤ 32) (hn : ∀ f ∈ fs, LowName f.name) (hs : Srt (fs.map FieldD.name)) :
    Calls Tryz.prog 97 #[.slice A fs.length c] w (SortP w fs) := by
  have H := Lib.hid (h.mono (S' := fun b => b < w.heap.size) (fun b _ h => h))
  have KN := Lib.hid (fun (f : FieldD) (hf : f ∈ fs) (w' : World) => fieldname_any f.name (hn f hf) w')
  have HSL : Hid (∀ (k : Nat) (x y : FieldD), fs[k]? = some x → fs[k + 1]? = some y → sl x.name y.name = true) := Lib.hid (fun k x y hx hy => by
    obtain ⟨h1, h2⟩ := List.getElem?_eq_some_iff.1 hx
    obtain ⟨h3, h4⟩ := List.getElem?_eq_some_iff.1 hy
    have h5 := List.pairwise_iff_getElem.1 hs k (k + 1) (by simpa using h1) (by simpa using h3) (Nat.lt_succ_self k)
    simp only [List.getElem_map, h2, h4] at h5
    exact h5)
  have HSN : Hid (∀ (k : Nat) (y : FieldD), fs[k]? = some y → (fs.take (k + 1)).flatMap FieldD.cells = (fs.take k).flatMap FieldD.cells ++ y.cells) := Lib.hid (fun k y hy => flat_snoc FieldD.cells hy)
  have HSF := Lib.hid (flen2)
  have i0 : ¬ (32 : Int) < (fs.length : Int) := by omega
  have i00 : ¬ 32 < fs.length := by omega
  clear h hn hs
  go_enter Tryz.func97, Tryz.ntmps97
  go_wp2_with fail
  go_loopw [4] (fun vi wr => ∃ k : Nat, vi = .int .i64 k ∧ k ≤ fs.length ∧ wr = w) (fun vi _ => fs.length - (intOf vi).toNat)
  case atStart => exact ⟨0, rfl, Nat.zero_le _, rfl⟩
  case round =>
    obtain ⟨k, rfl, hk, rfl⟩ := hrel
    by_cases hlt : k < fs.length
    · obtain ⟨y, hy⟩ : ∃ y, fs[k]? = some y := ⟨_, List.getElem?_eq_getElem hlt⟩
      obtain ⟨fb, fo, rfl, -, f0, f1⟩ := fld_in H.out hy
      have K1 := Lib.hid (KN.out y (List.mem_of_getElem? hy) wr)
      have i1 : (k : Int) < (fs.length : Int) := by omega
      clear hy
      go_wp2_with fail
      refine K1.out.mono ?_
      rintro e w1 ⟨rfl, rfl⟩
      go_wp2_with fail
      go_roundw
      case rel => exact ⟨k + 1, by go_num, by omega, trivial⟩
      case measure => simp [intOf]; omega
    · have i1 : ¬ (k : Int) < (fs.length : Int) := by omega
      go_wp2_with fail
      obtain ⟨w, rfl⟩ : ∃ w : World, w = wr := ⟨_, rfl⟩
      go_loopw [5, 6] (fun v vi wr => ∃ k : Nat, vi = .int .i64 k ∧ k ≤ fs.length ∧ wr.ownsRow w.heap.size 154 2 v k ((fs.take k).flatMap FieldD.cells) ∧ w.grownBy wr none) (fun _ vi _ => fs.length - (intOf vi).toNat)
      case atStart => exact ⟨0, rfl, Nat.zero_le _, World.ownsRow_nil _ _ _ _, only_refl _ _⟩
      case round =>
        clear i1 hk hlt
        obtain ⟨k, rfl, hk, hO, hG⟩ := hrel
        obtain ⟨AO, cO, hv, h1, h2, -, h3⟩ := Rd.of_own hO (by decide)
        have OO := Lib.hid hO
        have G := Lib.hid hG
        have hbase : w.heap.size ≤ wr.heap.size := hG.size
        have R3 := Lib.hid h3
        rw [hv] at OO
        rw [hv]
        clear hO hG hv h3
        by_cases hlt : k < fs.length
        · obtain ⟨y, hy⟩ : ∃ y, fs[k]? = some y := ⟨_, List.getElem?_eq_getElem hlt⟩
          have HY := Lib.hid hy
          obtain ⟨fb, fo, eA, hfb, f0, f1⟩ := fld_in (H.out.grown G.out (by simp)) hy
          subst eA
          have HS1 := Lib.hid (HSN.out k y hy)
          have i1 : (k : Int) < (fs.length : Int) := by omega
          clear hy h1 h2
          go_wp2_with (at_builtin; go_must (refine wpList_append1 rfl _ _ 65 rfl w.heap.size Tryz.underlying65 fieldInfo rfl (by decide) (v := .slice AO k cO) (by rfl) (w0 := wr) (cs := #[.string y.name, .string y.value]) OO.out (by rfl) rfl (by simp [Value.oneCell']) (by decide) (by omega) (by omega) ?_); intro v5 w5 hown5 hg5 hob5; obtain ⟨A5, c5, rfl, -, -, -, -⟩ := Rd.of_own hown5 (by decide))
          have O5 : Hid (w5.ownsRow w.heap.size 154 2 (.slice A5 (k + 1) c5) (k + 1) ((fs.take (k + 1)).flatMap FieldD.cells)) := Lib.hid (by rw [HS1.out]; exact hown5)
          have G5 : Hid (w.grownBy w5 none) := Lib.hid (only_own G.out hg5 OO.out (Nat.le_refl _))
          clear hown5 hg5 hob5 f0 f1 OO G R3 hbase
          obtain ⟨g5, rfl, hgb, hgl, hcc, hff⟩ := own_block O5.out
          have HCC := Lib.hid hcc
          have HFF := Lib.hid hff
          obtain ⟨fb', fo', eA', hfb', f0, f1⟩ := fld_in (H.out.grown G5.out (by simp)) HY.out
          injection eA' with eA'
          injection eA' with e1 e2
          subst e1 e2
          clear hcc hff hfb'
          have HL0 : Hid (((fs.take (k + 1)).flatMap FieldD.cells)[k * 2]? = some (.string y.name)) := Lib.hid (by rw [HS1.out, List.getElem?_append_right (by rw [HSF.out, List.length_take]; omega), HSF.out, List.length_take]; rw [show k * 2 - min k fs.length * 2 = 0 by omega]; rfl)
          have HL1 : Hid (((fs.take (k + 1)).flatMap FieldD.cells)[k * 2 + 1]? = some (.string y.value)) := Lib.hid (by rw [HS1.out, List.getElem?_append_right (by rw [HSF.out, List.length_take]; omega), HSF.out, List.length_take]; rw [show k * 2 + 1 - min k fs.length * 2 = 1 by omega]; rfl)
          have p0 : w5.cell? ⟨g5, k * 2, none⟩ = some (.string y.name) := HCC.out _ _ HL0.out
          have p1 : w5.cell? ⟨g5, k * 2 + 1, none⟩ = some (.string y.value) := HCC.out _ _ HL1.out
          have z0 := HFF.out (k * 2)
          have z1 := HFF.out (k * 2 + 1)
          go_loopw [7] (fun vk wr => vk = .int .i64 k ∧ ∃ q, wr = w5.drewN q) (fun _ _ => 0)
          case atStart => exact ⟨rfl, 0, rfl⟩
          case round =>
            obtain ⟨rfl, q, rfl⟩ := hrel
            by_cases k0 : k = 0
            · subst k0
              have j1 : ¬ (0 : Int) < ((0 : Nat) : Int) := by omega
              simp only [Nat.zero_mul, Nat.add_zero, Nat.zero_add] at f0 f1 p0 p1 z0 z1
              go_wp2_with fail
              go_quiet (fail)
              go_upto_region 18 with fail
              obtain ⟨W9, hW9⟩ : ∃ W, W = ((w5.drewN (q + nq)).setCell ⟨g5, 0, none⟩ (.string y.name)).setCell ⟨g5, 1, none⟩ (.string y.value) := ⟨_, rfl⟩
              have hO9 : W9.ownsRow w.heap.size 154 2 (.slice (some ⟨g5, 0, none⟩) (0 + 1) c5) (0 + 1) ((fs.take (0 + 1)).flatMap FieldD.cells) := by
                rw [hW9]
                exact own_putz (own_putz (own_drewN O5.out (q + nq)) HL0.out) HL1.out
              have hg9 : w5.grownBy W9 (some g5) := by rw [hW9]; exact only_setCell (g := g5) (only_setCell (g := g5) (only_drewN (only_refl _ _) (q + nq)) (p := ⟨g5, 0, none⟩) (.inl rfl) _) (p := ⟨g5, 1, none⟩) (.inl rfl) _
              have O9 := Lib.hid hO9
              have G9 : Hid (w.grownBy W9 none) := Lib.hid (only_fresh G5.out hg9 hgb)
              rw [← hW9]
              clear hW9 hO9 hg9 p0 p1 z0 z1 f0 f1
              obtain ⟨fb', fo', eA', hfb', f0, f1⟩ := fld_in (H.out.grown G9.out (by simp)) HY.out
              injection eA' with eA'
              injection eA' with e1 e2
              subst e1 e2
              simp only [Nat.zero_mul, Nat.add_zero, Nat.zero_add] at f0 f1
              go_quiet (fail)
              go_wp2_with fail
              go_roundw
              case rel => exact ⟨0 + 1, by go_num, by omega, own_drewN O9.out _, only_drewN G9.out _⟩
              case measure => simp [intOf]; omega
            · obtain ⟨m, rfl⟩ : ∃ m, k = m + 1 := ⟨k - 1, by omega⟩
              obtain ⟨x, hx⟩ : ∃ x, fs[m]? = some x := ⟨_, List.getElem?_eq_getElem (by omega)⟩
              have hsl := HSL.out m x y hx HY.out
              have s1 : Op.bytesLess x.name.toList y.name.toList = true := hsl
              have s2 : Op.bytesLess y.name.toList x.name.toList = false := sl_asymm hsl
              have s3 : (x.name.toList == y.name.toList) = false := by rw [beq_eq_false_iff_ne]; intro e; rw [e, bl_irrefl] at s1; cases s1
              have s4 : (y.name.toList == x.name.toList) = false := by rw [beq_eq_false_iff_ne]; intro e; rw [e, bl_irrefl] at s1; cases s1
              have pm : w5.cell? ⟨g5, m * 2, none⟩ = some (.string x.name) := by
                obtain ⟨b', o', e', -, q0, -⟩ := fld_in (rd_ownG O5.out (by decide)) (i := m) (y := x) (by rw [List.getElem?_take, if_pos (by omega)]; exact hx)
                injection e' with e'
                injection e' with e1 e2
                subst e1 e2
                simpa using q0
              have j1 : (0 : Int) < ((m : Nat) : Int) + 1 := by omega
              have j2 : (m : Int) < (fs.length : Int) := by omega
              have j3 : (0 : Int) ≤ (m : Int) := by omega
              have HXM := Lib.hid hx
              clear hx hsl
              go_wp2_with fail
              go_quiet (fail)
              go_upto_region 18 with fail
              obtain ⟨W9, hW9⟩ : ∃ W, W = ((w5.drewN (q + nq)).setCell ⟨g5, (m + 1) * 2, none⟩ (.string y.name)).setCell ⟨g5, (m + 1) * 2 + 1, none⟩ (.string y.value) := ⟨_, rfl⟩
              have hO9 : W9.ownsRow w.heap.size 154 2 (.slice (some ⟨g5, 0, none⟩) (m + 1 + 1) c5) (m + 1 + 1) ((fs.take (m + 1 + 1)).flatMap FieldD.cells) := by
                rw [hW9]
                exact own_putz (own_putz (own_drewN O5.out (q + nq)) HL0.out) HL1.out
              have hg9 : w5.grownBy W9 (some g5) := by rw [hW9]; exact only_setCell (g := g5) (only_setCell (g := g5) (only_drewN (only_refl _ _) (q + nq)) (p := ⟨g5, (m + 1) * 2, none⟩) (.inl rfl) _) (p := ⟨g5, (m + 1) * 2 + 1, none⟩) (.inl rfl) _
              have O9 := Lib.hid hO9
              have G9 : Hid (w.grownBy W9 none) := Lib.hid (only_fresh G5.out hg9 hgb)
              rw [← hW9]
              clear hW9 hO9 hg9 p0 p1 z0 z1 f0 f1 pm
              obtain ⟨fb', fo', eA', hfb', f0, f1⟩ := fld_in (H.out.grown G9.out (by simp)) HY.out
              injection eA' with eA'
              injection eA' with e1 e2
              subst e1 e2
              obtain ⟨b', o', e', -, pm, -⟩ := fld_in (rd_ownG O9.out (by decide)) (i := m) (y := x) (by rw [List.getElem?_take, if_pos (by omega)]; exact HXM.out)
              injection e' with e'
              injection e' with e1 e2
              subst e1 e2
              simp only [Nat.zero_add] at pm
              go_quiet (fail)
              go_wp2_with fail
              go_roundw
              case rel => exact ⟨m + 1 + 1, by go_num, by omega, own_drewN O9.out _, only_drewN G9.out _⟩
              case measure => simp [intOf]; omega
        · have i1 : ¬ (k : Int) < (fs.length : Int) := by omega
          have hkE : k = fs.length := by omega
          have R4 : Hid (Rd (w.heap.size ≤ ·) wr AO (fs.flatMap FieldD.cells)) := Lib.hid (by have h := R3.out; rw [List.take_of_length_le (by omega)] at h; exact h)
          go_wp2_with fail
          go_ret2
          exact ⟨AO, cO, rfl, R4.out, G.out⟩
end Go.Proofs.YtganfhmjklcchaaGreat

namespace Go.Proofs.YtganfhmjklcchaaGreat
open Go.RowKit
set_option linter.unusedVariables false
set_option linter.unusedSimpArgs false

/-- the words of a filter, as they lie -/
def cellsU (xs : List Int) : Array Value := (xs.map (fun x => Value.int .u64 x)).toArray
theorem cellsU_set (xs : List Int) (q : Nat) (x : Int) : (cellsU xs).setIfInBounds q (.int .u64 x) = cellsU (xs.set q x) := by simp [cellsU, List.map_set]
theorem cellsU_at {xs : List Int} {q : Nat} (h : q < xs.length) : (cellsU xs)[q]? = some (.int .u64 (xs.getD q 0)) := by simp [cellsU, h]
theorem cellsU_zero (n : Nat) : Array.replicate n (Value.int .u64 0) = cellsU (List.replicate n 0) := by simp [cellsU]
def setP (xs : List Int) (p : Nat) : List Int := xs.set (p / 64) (bits BinOp.or IntKind.u64 (xs.getD (p / 64) 0) (IntKind.u64.wrap (2 ^ (p % 64))))
theorem setP_len (xs : List Int) (p : Nat) : (setP xs p).length = xs.length := by simp [setP]
def bitsT (n : Nat) (xs : List Int) (s : ByteArray) : List Int := (List.range 3).foldl (fun xs i => setP xs (placeX n (bts s) i)) xs
theorem bitsK_len (n : Nat) (s : ByteArray) (xs : List Int) : ∀ l : List Nat, (l.foldl (fun xs i => setP xs (placeX n (bts s) i)) xs).length = xs.length := by
  intro l
  induction l generalizing xs with
  | nil => rfl
  | cons a l ih => rw [List.foldl_cons, ih, setP_len]
theorem bitsT_len (n : Nat) (xs : List Int) (s : ByteArray) : (bitsT n xs s).length = xs.length := bitsK_len n s xs _
def bitsN (n : Nat) (ws : List ByteArray) : List Int := ws.foldl (bitsT n) (List.replicate n 0)
theorem bitsN_len (n : Nat) (ws : List ByteArray) : (bitsN n ws).length = n := by
  have key : ∀ (l : List ByteArray) (xs : List Int), (l.foldl (bitsT n) xs).length = xs.length := by
    intro l
    induction l with
    | nil => intro _; rfl
    | cons a l ih => intro xs; rw [List.foldl_cons, ih, bitsT_len]
  unfold bitsN
  rw [key, List.length_replicate]
theorem posX_at (n : Nat) (bs : List Int) {k : Nat} (hk : k < 3) : (posX n bs)[k]? = some (placeX n bs k : Int) := by
  unfold posX
  rw [List.getElem?_map, List.getElem?_range hk]
  rfl
theorem posX_len (n : Nat) (bs : List Int) : (posX n bs).length = 3 := by unfold posX; rw [List.length_map, List.length_range]
theorem placeX_lt {n : Nat} (h : 1 ≤ n) (bs : List Int) (i : Nat) : placeX n bs i / 64 < n := by
  have : placeX n bs i < 64 * n := Nat.mod_lt _ (by omega)
  omega
def sizeF (m : Nat) : Nat := (min 65536 (max 1 m * 10) + 63) / 64
theorem sizeF_in (m : Nat) : 1 ≤ sizeF m ∧ sizeF m ≤ 1024 := by unfold sizeF; omega
set_option maxHeartbeats 8000000 in
set_option maxRecDepth 100000 in
theorem fbuild_any {S : Nat → Prop} (A : Option Addr) (ws : List ByteArray) (c : Nat) (w : World) (h : Rd S w A (ws.map .string)) (hl : ws.length ≤ 1000000) (hz : ∀ x ∈ ws, x.size ≤ 100000) :
    Calls Tryz.prog 108 #[.slice A ws.length c, .int .i64 10] w (fun e w' => ∃ g, e = .returned (.tuple #[.agg #[.int .i64 3, .slice (some ⟨g, 0, none⟩) (sizeF ws.length) (sizeF ws.length)], .int .i64 0]) ∧ w.heap.size ≤ g ∧ Blk w' g 97 (cellsU (bitsN (sizeF ws.length) ws)) ∧ w.grownBy w' none) := by
  have H := Lib.hid h
  have HZ := Lib.hid hz
  obtain ⟨n, hn⟩ : ∃ n, n = sizeF ws.length := ⟨_, rfl⟩
  obtain ⟨hn1, hn2⟩ := sizeF_in ws.length
  rw [← hn] at hn1 hn2 ⊢
  have HMIN : Hid (min (65536 : Int) (max 1 (ws.length : Int) * 10) = ((min 65536 (max 1 ws.length * 10) : Nat) : Int)) := Lib.hid (by omega)
  have KN := Lib.hid (fun w' => fnew_any (min 65536 (max 1 ws.length * 10)) n hn (by omega) (by omega) w')
  have KP := Lib.hid (fun A c s w' hs => positions_any A n c hn1 hn2 s hs w')
  have HB0 : Hid (bitsN n (ws.take 0) = List.replicate n 0) := Lib.hid rfl
  have HB1 : Hid (∀ k s, ws[k]? = some s → bitsN n (ws.take (k + 1)) = bitsT n (bitsN n (ws.take k)) s) := Lib.hid (fun k s hs => by
    obtain ⟨h1, h2⟩ := List.getElem?_eq_some_iff.1 hs
    unfold bitsN
    rw [List.take_succ_eq_append_getElem h1, h2, List.foldl_append]
    rfl)
  have HBL := Lib.hid (bitsN_len n)
  clear h hz hn
  go_enter Tryz.func108, Tryz.ntmps108
  go_wp2_with fail
  rw [HMIN.out]
  obtain ⟨rb, hrb⟩ : ∃ b, b = w.heap.size := ⟨_, rfl⟩
  obtain ⟨W0, hW0⟩ : ∃ W, W = w.alloc (.cells #[.int .i64 0, .slice none 0 0] 166) := ⟨_, rfl⟩
  have hBR : Blk W0 rb 166 #[.int .i64 0, .slice none 0 0] := by rw [hW0, hrb]; exact Blk.new _ _ _
  have hG0 : w.grownBy W0 none := by rw [hW0]; exact only_alloc (only_refl _ _) _
  have HRB := Lib.hid hrb
  rw [← hW0, ← hrb]
  clear hW0 hrb
  refine (KN.out W0).mono ?_
  rintro e w1 ⟨g, rfl, hg, hB, hG⟩
  have BG1 : Hid (Blk w1 g 97 (cellsU (bitsN n (ws.take 0)))) := Lib.hid (by rw [HB0.out, ← cellsU_zero]; exact hB)
  have BR1 := Lib.hid (hBR.grown hG (by simp))
  have G1 := Lib.hid (only_trans hG0 hG)
  have hrg : rb < g := by have := hBR.lt; omega
  clear hB hG hBR hG0 HB0
  go_wp2_with fail
  obtain ⟨fb, hfb⟩ : ∃ b, b = w1.heap.size := ⟨_, rfl⟩
  obtain ⟨W2, hW2⟩ : ∃ W, W = w1.alloc (.cells #[.int .i64 3, .slice (some ⟨g, 0, none⟩) n n] 166) := ⟨_, rfl⟩
  have hBF : Blk W2 fb 166 #[.int .i64 3, .slice (some ⟨g, 0, none⟩) n n] := by rw [hW2, hfb]; exact Blk.new _ _ _
  have hG2 : w1.grownBy W2 none := by rw [hW2]; exact only_alloc (only_refl _ _) _
  have BF2 := Lib.hid hBF
  have BG2 := Lib.hid (BG1.out.grown hG2 (by simp))
  have BR2 := Lib.hid (BR1.out.grown hG2 (by simp))
  have G2 := Lib.hid (only_trans G1.out hG2)
  have hgf : g < fb := by rw [hfb]; exact BG1.out.lt
  rw [← hW2, ← hfb]
  clear hW2 hfb hBF hG2 BG1 BR1 G1
  go_loopw [8] (fun vi wr => ∃ k : Nat, vi = .int .i64 k ∧ k ≤ ws.length ∧ Blk wr g 97 (cellsU (bitsN n (ws.take k))) ∧ Blk wr rb 166 #[.int .i64 0, .slice none 0 0] ∧ Blk wr fb 166 #[.int .i64 3, .slice (some ⟨g, 0, none⟩) n n] ∧ w.grownBy wr none) (fun vi _ => ws.length - (intOf vi).toNat)
  case atStart => exact ⟨0, rfl, Nat.zero_le _, BG2.out, BR2.out, BF2.out, G2.out⟩
  case round =>
    clear BG2 BR2 BF2 G2
    obtain ⟨k, rfl, hk, hBG, hBR, hBF, hG⟩ := hrel
    have BG := Lib.hid hBG
    have BR := Lib.hid hBR
    have BF := Lib.hid hBF
    have GG := Lib.hid hG
    have f0 := hBF.cell 0; have f1 := hBF.cell 1
    simp only [List.size_toArray, List.length_cons, List.length_nil, Nat.zero_add, Nat.reduceAdd, Nat.reduceLT, getElem?_pos, List.getElem_toArray, List.getElem_cons_zero, List.getElem_cons_succ] at f0 f1
    clear hBG hBR hBF hG
    by_cases hlt : k < ws.length
    · obtain ⟨b, off, x, rfl, hc, hx⟩ := (H.out.grown GG.out (by simp)).str_at hlt
      have HS1 := Lib.hid (HB1.out k x hx.out)
      have hxz := HZ.out x (List.mem_of_getElem? hx.out)
      have i1 : (k : Int) < (ws.length : Int) := by omega
      have KPx := Lib.hid (fun w' => KP.out (some ⟨g, 0, none⟩) n x w' hxz)
      obtain ⟨xs, hxs⟩ : ∃ xs, xs = bitsN n (ws.take k) := ⟨_, rfl⟩
      have HXL : Hid (xs.length = n) := Lib.hid (by rw [hxs]; exact HBL.out _)
      rw [← hxs] at BG HS1
      clear hx hxs
      have hpl := posX_len n (bts x)
      obtain ⟨ps, hps⟩ : ∃ ps, ps = posX n (bts x) := ⟨_, rfl⟩
      have HPA : Hid (∀ j, j < 3 → ps[j]? = some (placeX n (bts x) j : Int)) := Lib.hid (fun j hj => by rw [hps]; exact posX_at n _ hj)
      rw [← hps] at hpl
      have HPL := Lib.hid hpl
      have KPx : Hid (∀ w', Calls Tryz.prog 123 #[.agg #[.int .i64 3, .slice (some ⟨g, 0, none⟩) n n], .string x] w' (PosP w' ps)) := Lib.hid (by rw [hps]; exact KPx.out)
      clear hps hpl
      have hfw : fb < wr.heap.size := BF.out.lt
      go_upto_region 7 with fail
      go_cut [9] (fun v wx => ∃ (AP : Option Addr) (cP : Nat), v = .slice AP 3 cP ∧ Rd (fun b => fb < b) wx AP (ps.map (.int .i64)) ∧ wr.grownBy wx none)
      case first =>
        go_region_with (go_at_call 123; refine (KPx.out _).mono ?_; rintro e w4 ⟨AP, cP, rfl, hp1, hp2, hp3, hg4⟩; rw [HPL.out])
        all_goals
          go_wp2_with fail
          go_meet
          exact ⟨AP, cP, rfl, hp3.mono (fun b hb _ => by have h1 : wr.heap.size ≤ b := hb; omega), only_trans (only_drew (only_refl _ _)) hg4⟩
      case rest =>
      obtain ⟨AP, cP, rfl, hp3, hg4⟩ := hcut
      have RP4 := Lib.hid hp3
      have BG4 := Lib.hid (BG.out.grown hg4 (by simp))
      have BR4 := Lib.hid (BR.out.grown hg4 (by simp))
      have BF4 := Lib.hid (BF.out.grown hg4 (by simp))
      have G4 := Lib.hid (only_trans GG.out hg4)
      have HPT : Hid (∀ j, placeX n (bts x) j / 64 < n) := Lib.hid (fun j => placeX_lt hn1 _ j)
      have HBT : Hid (bitsT n xs x = (List.range 3).foldl (fun xs i => setP xs (placeX n (bts x) i)) xs) := Lib.hid rfl
      have HBK : Hid (∀ j, ((List.range (j + 1)).foldl (fun xs i => setP xs (placeX n (bts x) i)) xs) = setP ((List.range j).foldl (fun xs i => setP xs (placeX n (bts x) i)) xs) (placeX n (bts x) j)) := Lib.hid (fun j => by rw [List.range_succ, List.foldl_append]; rfl)
      have HBN : Hid (∀ j, ((List.range j).foldl (fun xs i => setP xs (placeX n (bts x) i)) xs).length = n) := Lib.hid (fun j => by rw [bitsK_len]; exact HXL.out)
      clear hp3 hg4 f0 f1 hc BG BR BF GG hfw KPx HPL
      go_wp2_with fail
      obtain ⟨wo, rfl⟩ : ∃ wo : World, wo = wr := ⟨_, rfl⟩
      go_loopw [10] (fun vj wr => ∃ (j : Nat) (ys : List Int), vj = .int .i64 j ∧ j ≤ 3 ∧ Hid (ys = (List.range j).foldl (fun xs i => setP xs (placeX n (bts x) i)) xs) ∧ Blk wr g 97 (cellsU ys) ∧ Blk wr rb 166 #[.int .i64 0, .slice none 0 0] ∧ Blk wr fb 166 #[.int .i64 3, .slice (some ⟨g, 0, none⟩) n n] ∧ Rd (fun b => fb < b) wr AP (ps.map (.int .i64)) ∧ w.grownBy wr none) (fun vj _ => 3 - (intOf vj).toNat)
      case atStart => exact ⟨0, xs, rfl, by omega, Lib.hid rfl, BG4.out, BR4.out, BF4.out, RP4.out, G4.out⟩
      case round =>
        clear BG4 BR4 BF4 RP4 G4
        obtain ⟨j, ys, rfl, hj, HY, hBG, hBR, hBF, hRP, hG⟩ := hrel
        have BG := Lib.hid hBG
        have BR := Lib.hid hBR
        have BF := Lib.hid hBF
        have RP := Lib.hid hRP
        have GG := Lib.hid hG
        have f0 := hBF.cell 0; have f1 := hBF.cell 1
        simp only [List.size_toArray, List.length_cons, List.length_nil, Nat.zero_add, Nat.reduceAdd, Nat.reduceLT, getElem?_pos, List.getElem_toArray, List.getElem_cons_zero, List.getElem_cons_succ] at f0 f1
        clear hBG hBR hBF hG hRP
        by_cases hlt3 : j < 3
        · obtain ⟨p, hp⟩ : ∃ p, p = placeX n (bts x) j := ⟨_, rfl⟩
          have hps := HPA.out j hlt3
          have hpq := HPT.out j
          have hyl := HBN.out j
          have HN := Lib.hid (HBK.out j)
          rw [← HY.out] at hyl HN
          rw [← hp] at hps hpq HN
          obtain ⟨pb, po, eA, hpb, -, hpc⟩ := RP.out (by rw [List.length_map]; exact Nat.lt_of_le_of_lt (Nat.zero_le _) (List.getElem?_eq_some_iff.1 hps).1)
          have hcp := hpc j (.int .i64 p) (by rw [List.getElem?_map, hps]; rfl)
          obtain ⟨q, hq⟩ : ∃ q, q = p / 64 := ⟨_, rfl⟩
          rw [← hq] at hpq
          have hcq : wr.cell? ⟨g, q, none⟩ = some (.int .u64 (ys.getD q 0)) := (BG.out.cell q).trans (cellsU_at (by omega))
          have hfq := BG.out.frozen q
          obtain ⟨v, hv⟩ : ∃ v, v = ys.getD q 0 := ⟨_, rfl⟩
          rw [← hv] at hcq
          have eq1 : (p : Int) / 64 = (q : Int) := by omega
          have hqw : IntKind.i64.wrap (q : Int) = (q : Int) := IntWalk.i64_in _ (by omega)
          obtain ⟨r, hr⟩ : ∃ r, r = p % 64 := ⟨_, rfl⟩
          have ER : Hid ((p : Int).tmod 64 = (r : Int)) := Lib.hid (by rw [Int.tmod_eq_emod_of_nonneg (by omega)]; omega)
          have hrw : IntKind.i64.wrap (r : Int) = (r : Int) := IntWalk.i64_in _ (by omega)
          have hrl : r < 64 := by omega
          have HN2 : Hid (ys.set q (bits BinOp.or IntKind.u64 v (IntKind.u64.wrap (2 ^ r))) = (List.range (j + 1)).foldl (fun xs i => setP xs (placeX n (bts x) i)) xs) := Lib.hid (by rw [HN.out, setP, ← hq, ← hr, ← hv])
          have i1 : (j : Int) < 3 := by omega
          have i2 : (q : Int) < (n : Int) := by omega
          subst eA
          clear hps hpc hp hq hv hyl hr
          go_upto_region 11 with fail
          have er1 := ER.out
          go_still_tail 17, (by kernel_rfl)
          clear er1
          go_wp2_with fail
          obtain ⟨W9, hW9⟩ : ∃ W, W = (wr.setCell ⟨g, q, none⟩ (.int .u64 (bits BinOp.or IntKind.u64 v (IntKind.u64.wrap (2 ^ r))))).drew := ⟨_, rfl⟩
          have hg9 : wr.grownBy W9 (some g) := by rw [hW9]; exact only_drew (only_setB wr (p := ⟨g, q, none⟩) _)
          have BG9 : Hid (Blk W9 g 97 (cellsU (ys.set q (bits BinOp.or IntKind.u64 v (IntKind.u64.wrap (2 ^ r)))))) := Lib.hid (by rw [hW9, ← cellsU_set]; exact (BG.out.set_ q _).drew)
          have BR9 := Lib.hid (BR.out.grown hg9 (by simp; omega))
          have BF9 := Lib.hid (BF.out.grown hg9 (by simp; omega))
          have RP9 := Lib.hid (RP.out.grown hg9 (fun b hb e => by injection e with e; have h1 : fb < b := hb; omega))
          have G9 : Hid (w.grownBy W9 none) := Lib.hid (only_fresh GG.out hg9 (by have := HRB.out; omega))
          rw [← hW9]
          clear hW9 hg9
          go_roundw
          case rel => exact ⟨j + 1, _, by go_num, by omega, HN2, BG9.out, BR9.out, BF9.out, RP9.out, G9.out⟩
          case measure => simp [intOf]; omega
        · have hjE : j = 3 := by omega
          have HB9 : Hid (ys = bitsN n (ws.take (k + 1))) := Lib.hid (by rw [HY.out, HS1.out, HBT.out, hjE])
          have BG9 : Hid (Blk wr g 97 (cellsU (bitsN n (ws.take (k + 1))))) := Lib.hid (by rw [← HB9.out]; exact BG.out)
          have i1 : ¬ (j : Int) < 3 := by omega
          clear hjE
          go_wp2_with fail
          go_roundw
          case rel => exact ⟨k + 1, by go_num, by omega, BG9.out, BR.out, BF.out, GG.out⟩
          case measure => simp [intOf]; omega
    · have hkE : k = ws.length := by omega
      have i1 : ¬ (k : Int) < (ws.length : Int) := by omega
      have q0 := BR.out.cell 0; have q1 := BR.out.cell 1
      have z0 := BR.out.frozen 0; have z1 := BR.out.frozen 1
      simp only [List.size_toArray, List.length_cons, List.length_nil, Nat.zero_add, Nat.reduceAdd, Nat.reduceLT, getElem?_pos, List.getElem_toArray, List.getElem_cons_zero, List.getElem_cons_succ] at q0 q1
      have hBE : bitsN n (ws.take k) = bitsN n ws := by rw [List.take_of_length_le (by omega)]
      have BG9 : Hid (Blk wr g 97 (cellsU (bitsN n ws))) := Lib.hid (by rw [← hBE]; exact BG.out)
      clear hBE
      go_wp2_with fail
      have hgE : w.heap.size ≤ g := by have := HRB.out; omega
      obtain ⟨W9, hW9⟩ : ∃ W, W = (wr.setCell ⟨rb, 0, none⟩ (.int .i64 3)).setCell ⟨rb, 1, none⟩ (.slice (some ⟨g, 0, none⟩) n n) := ⟨_, rfl⟩
      have hb9 : Blk W9 rb 166 #[.int .i64 3, .slice (some ⟨g, 0, none⟩) n n] := by rw [hW9]; simpa using (BR.out.set_ 0 (.int .i64 3)).set_ 1 (.slice (some ⟨g, 0, none⟩) n n)
      have hg9 : w.grownBy W9 none := by rw [hW9]; exact only_setN (only_setN GG.out (by rw [HRB.out]; exact Nat.le_refl _) _) (by rw [HRB.out]; exact Nat.le_refl _) _
      have hk9 : Blk W9 g 97 (cellsU (bitsN n ws)) := by
        rw [hW9]
        exact (BG9.out.grown (only_setB wr _) (by simp; omega)).grown (only_setB _ _) (by simp; omega)
      rw [← hW9]
      clear hW9 q0 q1 z0 z1
      have q0 := hb9.cell 0; have q1 := hb9.cell 1
      simp only [List.size_toArray, List.length_cons, List.length_nil, Nat.zero_add, Nat.reduceAdd, Nat.reduceLT, getElem?_pos, List.getElem_toArray, List.getElem_cons_zero, List.getElem_cons_succ] at q0 q1
      exact bodyPost_ret (v := .tuple #[.agg #[.int .i64 3, .slice (some ⟨g, 0, none⟩) n n], .int .i64 0]) (by simp [results, Tryz.results108, go_sem, q0, q1]) rfl ⟨g, rfl, hgE, hk9, hg9⟩
end Go.Proofs.YtganfhmjklcchaaGreat

namespace Go.Proofs.YtganfhmjklcchaaGreat
open Go.RowKit
set_option linter.unusedVariables false
set_option linter.unusedSimpArgs false

theorem own_lit {w : World} {base e n : Nat} (cs : Array Value) (hb : base ≤ w.heap.size) (hn : cs.size = n) (hm : n ≤ 1000) : (w.alloc (.cells cs e)).ownsRow base e 1 (.slice (some ⟨w.heap.size, 0, none⟩) n n) n cs.toList :=
  ⟨by rw [Array.length_toList, hn, Nat.mul_one], .inr ⟨w.heap.size, n, cs, rfl, hb, heap_alloc_new w _, Nat.le_refl _, by unfold maxLen; omega, by rw [hn, Nat.mul_one], by rw [Nat.mul_one, List.take_of_length_le (by rw [Array.length_toList]; omega)]⟩⟩
set_option maxHeartbeats 4000000 in
set_option maxRecDepth 100000 in
theorem fcheck_any (A : Option Addr) (n c : Nat) (hn : 1 ≤ n) (hn2 : n ≤ 1024) (w : World) :
    Calls Tryz.prog 124 #[.agg #[.int .i64 3, .slice A n c]] w (fun e w' => e = .returned (.int .i64 0) ∧ w.grownBy w' none) := by
  have i1 : ¬ (n : Int) < 1 := by omega
  have i2 : ¬ (1024 : Int) < (n : Int) := by omega
  have i3 : ¬ n < 1 := by omega
  have i4 : ¬ 1024 < n := by omega
  have i5 : ¬ n = 0 := by omega
  go_enter Tryz.func124, Tryz.ntmps124
  go_wp2_with fail
  go_ret
  exact ⟨rfl, only_alloc (only_refl _ _) _⟩
def byteL (x : Int) (m : Nat) : List Int := (List.range m).map (fun k => x / 2 ^ (8 * k) % 256)
def encF (n : Nat) (xs : List Int) : List Int := [3, ((n / 256 % 256 : Nat) : Int), ((n % 256 : Nat) : Int)] ++ xs.flatMap (fun x => byteL x 8)
theorem byteL_len (x : Int) (m : Nat) : (byteL x m).length = m := by unfold byteL; rw [List.length_map, List.length_range]
theorem byteL_step (x : Int) (m : Nat) : byteL x (m + 1) = byteL x m ++ [x / 2 ^ (8 * m) % 256] := by unfold byteL; rw [List.range_succ, List.map_append]; rfl
theorem encF_flat (xs : List Int) : (xs.flatMap (fun x => byteL x 8)).length = 8 * xs.length := by
  induction xs with
  | nil => rfl
  | cons x xs ih => rw [List.flatMap_cons, List.length_append, ih, byteL_len, List.length_cons]; omega
theorem encF_len (n : Nat) (xs : List Int) : (encF n xs).length = 3 + 8 * xs.length := by
  unfold encF
  rw [List.length_append, encF_flat]
  rfl
set_option maxHeartbeats 8000000 in
set_option maxRecDepth 100000 in
theorem fencode_any (A : Option Addr) (n c : Nat) (hn : 1 ≤ n) (hn2 : n ≤ 1024) (xs : List Int) (hl : xs.length = n) (w : World) (h : Rd (fun _ => True) w A (xs.map (.int .u64))) :
    Calls Tryz.prog 109 #[.agg #[.int .i64 3, .slice A n c]] w (fun e w' => ∃ v, e = .returned (.tuple #[v, .int .i64 0]) ∧ Byts w.heap.size w' v (encF n xs) ∧ w.grownBy w' none) := by
  have H := Lib.hid (h.mono (S' := fun b => b < w.heap.size) (fun b _ h => h))
  have HL := Lib.hid hl
  have KC := Lib.hid (fun w' => fcheck_any A n c hn hn2 w')
  have HX : Hid (encF n xs = [3, ((n / 256 % 256 : Nat) : Int), ((n % 256 : Nat) : Int)] ++ xs.flatMap (fun x => byteL x 8)) := Lib.hid rfl
  have HSN : Hid (∀ k x, xs[k]? = some x → (xs.take (k + 1)).flatMap (fun x => byteL x 8) = (xs.take k).flatMap (fun x => byteL x 8) ++ byteL x 8) := Lib.hid (fun k x hx => flat_snoc (fun x => byteL x 8) hx)
  have HFL : Hid (∀ k, ((xs.take k).flatMap (fun x => byteL x 8)).length ≤ 8192) := Lib.hid (fun k => by rw [encF_flat, List.length_take]; omega)
  have HBS := Lib.hid byteL_step
  obtain ⟨R, hR⟩ : ∃ r, r = encF n xs := ⟨_, rfl⟩
  rw [← hR] at HX ⊢
  clear h hl hR
  have e1 : (n : Int) / 256 = ((n / 256 % 256 : Nat) : Int) := by omega
  have e2 : (n : Int) % 256 = ((n % 256 : Nat) : Int) := by omega
  have E12 := Lib.hid (And.intro e1 e2)
  clear e1 e2
  go_enter Tryz.func109, Tryz.ntmps109
  go_wp2_with fail
  obtain ⟨fb, hfb⟩ : ∃ b, b = w.heap.size := ⟨_, rfl⟩
  obtain ⟨W, hW⟩ : ∃ W, W = w.alloc (.cells #[.int .i64 3, .slice A n c] 166) := ⟨_, rfl⟩
  have hBF : Blk W fb 166 #[.int .i64 3, .slice A n c] := by rw [hW, hfb]; exact Blk.new _ _ _
  have hG0 : w.grownBy W none := by rw [hW]; exact only_alloc (only_refl _ _) _
  rw [← hW, ← hfb]
  clear hW hfb
  refine (KC.out W).mono ?_
  rintro e w1 ⟨rfl, hg1⟩
  have BF := Lib.hid (hBF.grown hg1 (by simp))
  have G1 := Lib.hid (only_trans hG0 hg1)
  have H1 := Lib.hid (H.out.grown (only_trans hG0 hg1) (by simp))
  have f0 := BF.out.cell 0; have f1 := BF.out.cell 1
  simp only [List.size_toArray, List.length_cons, List.length_nil, Nat.zero_add, Nat.reduceAdd, Nat.reduceLT, getElem?_pos, List.getElem_toArray, List.getElem_cons_zero, List.getElem_cons_succ] at f0 f1
  clear hBF hG0 hg1 KC H
  go_wp2_with fail
  have O1 : Hid ((w1.alloc (.cells #[.int .u8 3, .int .u8 ((n : Int) / 256), .int .u8 ((n : Int) % 256)] 5)).ownsRow w1.heap.size 5 1 (.slice (some ⟨w1.heap.size, 0, none⟩) 3 3) 3 [.int .u8 3, .int .u8 ((n : Int) / 256), .int .u8 ((n : Int) % 256)]) := Lib.hid (own_lit _ (Nat.le_refl _) rfl (by decide))
  have B1 : Hid (Byts w1.heap.size (w1.alloc (.cells #[.int .u8 3, .int .u8 ((n : Int) / 256), .int .u8 ((n : Int) % 256)] 5)) (.slice (some ⟨w1.heap.size, 0, none⟩) 3 3) ([3, ((n / 256 % 256 : Nat) : Int), ((n % 256 : Nat) : Int)] ++ (xs.take 0).flatMap (fun x => byteL x 8))) := Lib.hid (by
    unfold Byts
    rw [← E12.out.1, ← E12.out.2]
    exact O1.out)
  have G2 : Hid (w1.grownBy (w1.alloc (.cells #[.int .u8 3, .int .u8 ((n : Int) / 256), .int .u8 ((n : Int) % 256)] 5)) none) := Lib.hid (only_alloc (only_refl _ _) _)
  clear O1 E12
  obtain ⟨hd3, hh3⟩ : ∃ h : List Int, h = [3, ((n / 256 % 256 : Nat) : Int), ((n % 256 : Nat) : Int)] := ⟨_, rfl⟩
  have h3l : hd3.length = 3 := by rw [hh3]; rfl
  rw [← hh3] at HX B1
  clear hh3
  go_loopw [5, 6] (fun v vi wr => ∃ k : Nat, vi = .int .i64 k ∧ k ≤ n ∧ Byts w1.heap.size wr v (hd3 ++ (xs.take k).flatMap (fun x => byteL x 8)) ∧ w1.grownBy wr none) (fun _ vi _ => n - (intOf vi).toNat)
  case atStart => exact ⟨0, rfl, Nat.zero_le _, B1.out, G2.out⟩
  case round =>
    clear B1 G2
    obtain ⟨k, rfl, hk, hB, hG⟩ := hrel
    have B := Lib.hid hB
    have G := Lib.hid hG
    have hbase := hG.size
    clear f0 f1
    have BF2 := Lib.hid (BF.out.grown hG (by simp))
    have f0 := BF2.out.cell 0; have f1 := BF2.out.cell 1
    simp only [List.size_toArray, List.length_cons, List.length_nil, Nat.zero_add, Nat.reduceAdd, Nat.reduceLT, getElem?_pos, List.getElem_toArray, List.getElem_cons_zero, List.getElem_cons_succ] at f0 f1
    obtain ⟨vO, hvO⟩ : ∃ v, v = u5 := ⟨_, rfl⟩
    rw [← hvO] at B ⊢
    clear hB hG hvO
    by_cases hlt : k < n
    · obtain ⟨x, hx⟩ : ∃ x, xs[k]? = some x := ⟨_, List.getElem?_eq_getElem (by rw [HL.out]; exact hlt)⟩
      have HS1 := Lib.hid (HSN.out k x hx)
      have hfl := HFL.out k
      obtain ⟨pre, hpre⟩ : ∃ p, p = hd3 ++ (xs.take k).flatMap (fun x => byteL x 8) := ⟨_, rfl⟩
      have hpl : pre.length ≤ 8195 := by rw [hpre, List.length_append]; omega
      have HPRE := Lib.hid hpre
      rw [← hpre] at B
      have HXK := Lib.hid hx
      have i1 : (k : Int) < (n : Int) := by omega
      clear hx hpre hfl
      go_wp2_with fail
      obtain ⟨wo, rfl⟩ : ∃ wo : World, wo = wr := ⟨_, rfl⟩
      go_loopw [5, 7] (fun v vj wr => ∃ m : Nat, vj = .int .i64 m ∧ m ≤ 8 ∧ Byts w1.heap.size wr v (pre ++ byteL x m) ∧ w1.grownBy wr none) (fun _ vj _ => 8 - (intOf vj).toNat)
      case atStart => exact ⟨0, rfl, by omega, by simpa [byteL] using B.out, G.out⟩
      case round =>
        clear f0 f1 BF2 B G hbase
        obtain ⟨m, rfl, hm, hB, hG⟩ := hrel
        have B := Lib.hid hB
        have G := Lib.hid hG
        have hbase := hG.size
        have BF2 := Lib.hid (BF.out.grown hG (by simp))
        have f0 := BF2.out.cell 0; have f1 := BF2.out.cell 1
        simp only [List.size_toArray, List.length_cons, List.length_nil, Nat.zero_add, Nat.reduceAdd, Nat.reduceLT, getElem?_pos, List.getElem_toArray, List.getElem_cons_zero, List.getElem_cons_succ] at f0 f1
        obtain ⟨xb, xo, eA, hxb, -, hxc⟩ := (H1.out.grown hG (by simp)) (by rw [List.length_map]; exact Nat.lt_of_le_of_lt (Nat.zero_le _) (List.getElem?_eq_some_iff.1 HXK.out).1)
        have hcx := hxc k (.int .u64 x) (by rw [List.getElem?_map, HXK.out]; rfl)
        obtain ⟨vQ, hvQ⟩ : ∃ v, v = u5 := ⟨_, rfl⟩
        rw [← hvQ] at B ⊢
        rw [eA] at f1
        clear hB hG hvQ hxc
        by_cases hlt8 : m < 8
        · have i2 : (m : Int) < 8 := by omega
          have HBM := Lib.hid (HBS.out x m)
          have hbl := byteL_len x m
          go_wp2_with (at_builtin; go_must (refine wpList_append1 rfl _ _ 22 rfl w1.heap.size Tryz.underlying22 byteInfo rfl (by decide) (v := vQ) (by rfl) (w0 := wr) (cs := #[.int .u8 (x / 2 ^ (8 * m) % 256)]) B.out (by rfl) rfl (by simp [Value.oneCell']) (by decide) (by rw [List.length_append]; omega) (by omega) ?_); intro v5 w5 hown5 hg5 hob5)
          have B5 : Hid (Byts w1.heap.size w5 v5 (pre ++ byteL x (m + 1))) := Lib.hid (by rw [HBM.out, ← List.append_assoc]; exact Byts.snoc hown5)
          have G5 : Hid (w1.grownBy w5 none) := Lib.hid (only_own G.out hg5 B.out (Nat.le_refl _))
          clear hown5 hg5 hob5
          go_wp2_with fail
          go_roundw
          case rel => exact ⟨m + 1, by go_num, by omega, B5.out, G5.out⟩
          case measure => simp [intOf]; omega
        · have hmE : m = 8 := by omega
          have B9 : Hid (Byts w1.heap.size wr vQ (hd3 ++ (xs.take (k + 1)).flatMap (fun x => byteL x 8))) := Lib.hid (by
            rw [HS1.out, ← List.append_assoc, ← HPRE.out, ← hmE]
            exact B.out)
          have i2 : ¬ (m : Int) < 8 := by omega
          clear hmE
          go_wp2_with fail
          go_roundw
          case rel => exact ⟨k + 1, by go_num, by omega, B9.out, G.out⟩
          case measure => simp [intOf]; omega
    · have hkE : k = n := by omega
      have HE : Hid (R = hd3 ++ (xs.take k).flatMap (fun x => byteL x 8)) := Lib.hid (by rw [HX.out, List.take_of_length_le (by rw [HL.out]; omega)])
      have i1 : ¬ (k : Int) < (n : Int) := by omega
      clear hkE
      go_wp2_with fail
      go_ret2
      rw [HE.out]
      exact ⟨vO, rfl, B.out.base G1.out.size, only_trans G1.out G.out⟩
end Go.Proofs.YtganfhmjklcchaaGreat
