/- Groups as plain data: cells, partials, their merging: associative, commutative, by look-up. No condition. -/
import Derived.Test.YtfkgcighooijhaaGreatDoorCmpK
import Derived.Test.YtfkgcighooijhaaGreatDoorNumE
import Derived.Test.YtfkgcighooijhaaGreatDoorSorted
import Derived.Test.YtfkgcighooijhaaGreatDoorUnion
import Derived.Test.YtfkgcighooijhaaGreatDoorKey
namespace Go.Proofs.YtfkgcighooijhaaGreatDoor
open Go.RowKit
set_option linter.unusedVariables false
set_option linter.unusedSimpArgs false

structure CD where
  t : Int
  s : Bool
  v : List ByteArray
structure PP where
  key : List ByteArray
  cs : List CD
/-- the cell of one event -/
def oneC (a : AggD) (e : Ev) : CD :=
  if a.kind = 0 then ⟨e.weight, true, []⟩
  else if a.kind = 1 then (match numOf e a.field with | none => ⟨0, false, []⟩ | some n => ⟨wrap64 (n * e.weight), true, []⟩)
  else if a.kind = 4 then (match valOf e a.field with | none => ⟨0, true, []⟩ | some s => ⟨1, true, [s]⟩)
  else (match numOf e a.field with | none => ⟨0, false, []⟩ | some n => ⟨n, true, []⟩)
def chosenC (f : Int → Int → Int) (x y : CD) : CD := if x.s then (if y.s then ⟨f x.t y.t, true, []⟩ else x) else y
def addW (a b : Int) : Int := wrap64 (a + b)
def minI (a b : Int) : Int := if b < a then b else a
def maxI (a b : Int) : Int := if a < b then b else a
def uniC (x y : CD) : CD := ⟨(dist (x.v ++ y.v)).length, true, dist (x.v ++ y.v)⟩
def joinC (k : Int) (x y : CD) : CD :=
  if k = 0 then chosenC addW x y else if k = 1 then chosenC addW x y else if k = 2 then chosenC minI x y else if k = 3 then chosenC maxI x y else uniC x y
def CanN (x : CD) : Prop := x.v = [] ∧ (x.s = false → x.t = 0) ∧ I64 x.t
def CanU (x : CD) : Prop := x.s = true ∧ x.t = x.v.length ∧ Srt x.v
def CanC (k : Int) (x : CD) : Prop := if k = 4 then CanU x else CanN x
theorem wrap64_i64 (n : Int) : I64 (wrap64 n) := by unfold wrap64 I64; omega
theorem wrap64_id {n : Int} (h : I64 n) : wrap64 n = n := by unfold wrap64; unfold I64 at h; omega
theorem wrap64_l (a b : Int) : wrap64 (wrap64 a + b) = wrap64 (a + b) := by
  unfold wrap64
  have h : (a + 9223372036854775808) % 18446744073709551616 - 9223372036854775808 + b + 9223372036854775808 = (a + b + 9223372036854775808) + 18446744073709551616 * (-((a + 9223372036854775808) / 18446744073709551616)) := by omega
  rw [h, Int.add_mul_emod_self_left]
theorem addW_comm (a b : Int) : addW a b = addW b a := by unfold addW; rw [Int.add_comm]
theorem addW_assoc (a b c : Int) : addW (addW a b) c = addW a (addW b c) := by
  unfold addW
  rw [wrap64_l, Int.add_comm a (wrap64 (b + c)), wrap64_l, Int.add_comm (b + c) a, Int.add_assoc]
theorem minI_comm (a b : Int) : minI a b = minI b a := by unfold minI; split <;> split <;> omega
theorem minI_assoc (a b c : Int) : minI (minI a b) c = minI a (minI b c) := by unfold minI; (repeat' split) <;> omega
theorem maxI_comm (a b : Int) : maxI a b = maxI b a := by unfold maxI; split <;> split <;> omega
theorem maxI_assoc (a b c : Int) : maxI (maxI a b) c = maxI a (maxI b c) := by unfold maxI; (repeat' split) <;> omega
theorem canN_eq {x y : CD} (hx : CanN x) (hy : CanN y) (h1 : x.s = false) (h2 : y.s = false) : x = y := by
  obtain ⟨a, b, c⟩ := x
  obtain ⟨d, e, f⟩ := y
  obtain ⟨p1, p2, -⟩ := hx
  obtain ⟨q1, q2, -⟩ := hy
  simp only at *
  rw [p1, q1, p2 h1, q2 h2, h1, h2]
theorem chosenC_can {f : Int → Int → Int} (hf : ∀ a b, I64 a → I64 b → I64 (f a b)) {x y : CD} (hx : CanN x) (hy : CanN y) : CanN (chosenC f x y) := by
  unfold chosenC
  split
  · split
    · exact ⟨rfl, (fun h => by cases h), hf _ _ hx.2.2 hy.2.2⟩
    · exact hx
  · exact hy
theorem chosenC_comm {f : Int → Int → Int} (hf : ∀ a b, f a b = f b a) {x y : CD} (hx : CanN x) (hy : CanN y) : chosenC f x y = chosenC f y x := by
  unfold chosenC
  by_cases h1 : x.s = true
  · by_cases h2 : y.s = true
    · rw [if_pos h1, if_pos h2, if_pos h2, if_pos h1, hf]
    · rw [if_pos h1, if_neg h2, if_neg h2]
  · by_cases h2 : y.s = true
    · rw [if_neg h1, if_pos h2, if_neg h1]
    · rw [if_neg h1, if_neg h2]
      exact canN_eq hy hx (by simpa using h2) (by simpa using h1)
theorem chosenC_assoc {f : Int → Int → Int} (hf : ∀ a b c, f (f a b) c = f a (f b c)) (x y z : CD) : chosenC f (chosenC f x y) z = chosenC f x (chosenC f y z) := by
  obtain ⟨a, b, c⟩ := x
  obtain ⟨d, e, g⟩ := y
  obtain ⟨i, j, k⟩ := z
  cases b <;> cases e <;> cases j <;> simp [chosenC, hf]
theorem uniC_comm (x y : CD) : uniC x y = uniC y x := by
  have h : dist (x.v ++ y.v) = dist (y.v ++ x.v) := srt_ext (dist_srt _) (dist_srt _) (fun s => by rw [dist_mem, dist_mem, List.mem_append, List.mem_append, or_comm])
  unfold uniC
  rw [h]
theorem uniC_assoc (x y z : CD) : uniC (uniC x y) z = uniC x (uniC y z) := by
  have h : dist (dist (x.v ++ y.v) ++ z.v) = dist (x.v ++ dist (y.v ++ z.v)) := srt_ext (dist_srt _) (dist_srt _) (fun s => by
    rw [dist_mem, dist_mem, List.mem_append, List.mem_append, dist_mem, dist_mem, List.mem_append, List.mem_append, or_assoc])
  unfold uniC
  show CD.mk _ _ _ = CD.mk _ _ _
  rw [h]
theorem joinC_can {k : Int} {x y : CD} (hk : 0 ≤ k ∧ k ≤ 4) (hx : CanC k x) (hy : CanC k y) : CanC k (joinC k x y) := by
  unfold CanC at *
  unfold joinC
  by_cases h4 : k = 4
  · subst h4
    simp only [if_pos] at *
    exact ⟨rfl, rfl, dist_srt _⟩
  · rw [if_neg h4] at *
    have h2 : ∀ a b, I64 a → I64 b → I64 (minI a b) := fun a b h1 h2 => by unfold minI; split <;> assumption
    have h3 : ∀ a b, I64 a → I64 b → I64 (maxI a b) := fun a b h1 h2 => by unfold maxI; split <;> assumption
    split
    · exact chosenC_can (fun _ _ _ _ => wrap64_i64 _) hx hy
    · split
      · exact chosenC_can (fun _ _ _ _ => wrap64_i64 _) hx hy
      · split
        · exact chosenC_can h2 hx hy
        · split
          · exact chosenC_can h3 hx hy
          · omega
theorem joinC_comm {k : Int} {x y : CD} (hk : 0 ≤ k ∧ k ≤ 4) (hx : CanC k x) (hy : CanC k y) : joinC k x y = joinC k y x := by
  unfold CanC at *
  unfold joinC
  by_cases h4 : k = 4
  · subst h4; simp; exact uniC_comm x y
  · rw [if_neg h4] at *
    split
    · exact chosenC_comm addW_comm hx hy
    · split
      · exact chosenC_comm addW_comm hx hy
      · split
        · exact chosenC_comm minI_comm hx hy
        · split
          · exact chosenC_comm maxI_comm hx hy
          · exact uniC_comm x y
theorem joinC_assoc (k : Int) (x y z : CD) : joinC k (joinC k x y) z = joinC k x (joinC k y z) := by
  unfold joinC
  split
  · exact chosenC_assoc addW_assoc x y z
  · split
    · exact chosenC_assoc addW_assoc x y z
    · split
      · exact chosenC_assoc minI_assoc x y z
      · split
        · exact chosenC_assoc maxI_assoc x y z
        · exact uniC_assoc x y z
def joinL : List AggD → List CD → List CD → List CD
  | a :: ags, x :: xs, y :: ys => joinC a.kind x y :: joinL ags xs ys
  | _, _, _ => []
def CanL : List AggD → List CD → Prop
  | [], [] => True
  | a :: ags, x :: xs => CanC a.kind x ∧ CanL ags xs
  | _, _ => False
def KindsOk (ags : List AggD) : Prop := ∀ a ∈ ags, 0 ≤ a.kind ∧ a.kind ≤ 4
theorem KindsOk.tl {a : AggD} {ags : List AggD} (h : KindsOk (a :: ags)) : KindsOk ags := fun x hx => h x (List.mem_cons_of_mem _ hx)
theorem KindsOk.hd {a : AggD} {ags : List AggD} (h : KindsOk (a :: ags)) : 0 ≤ a.kind ∧ a.kind ≤ 4 := h a (List.mem_cons_self ..)
theorem CanL.len : ∀ {ags : List AggD} {xs : List CD}, CanL ags xs → xs.length = ags.length
  | [], [], _ => rfl
  | [], _ :: _, h => h.elim
  | _ :: _, [], h => h.elim
  | a :: ags, x :: xs, h => by rw [List.length_cons, List.length_cons, CanL.len h.2]
theorem joinL_can : ∀ {ags : List AggD} {xs ys : List CD}, KindsOk ags → CanL ags xs → CanL ags ys → CanL ags (joinL ags xs ys)
  | [], [], [], _, _, _ => trivial
  | [], _ :: _, _, _, h, _ => h.elim
  | [], [], _ :: _, _, _, h => h.elim
  | _ :: _, [], _, _, h, _ => h.elim
  | _ :: _, _ :: _, [], _, _, h => h.elim
  | a :: ags, x :: xs, y :: ys, hk, hx, hy => ⟨joinC_can hk.hd hx.1 hy.1, joinL_can hk.tl hx.2 hy.2⟩
theorem joinL_comm : ∀ {ags : List AggD} {xs ys : List CD}, KindsOk ags → CanL ags xs → CanL ags ys → joinL ags xs ys = joinL ags ys xs
  | [], [], [], _, _, _ => rfl
  | [], _ :: _, _, _, h, _ => h.elim
  | [], [], _ :: _, _, _, h => h.elim
  | _ :: _, [], _, _, h, _ => h.elim
  | _ :: _, _ :: _, [], _, _, h => h.elim
  | a :: ags, x :: xs, y :: ys, hk, hx, hy => by
    rw [joinL, joinL, joinC_comm hk.hd hx.1 hy.1, joinL_comm hk.tl hx.2 hy.2]
theorem joinL_assoc : ∀ (ags : List AggD) (xs ys zs : List CD), joinL ags (joinL ags xs ys) zs = joinL ags xs (joinL ags ys zs)
  | [], _, _, _ => by simp [joinL]
  | _ :: _, [], _, _ => by simp [joinL]
  | _ :: _, _ :: _, [], _ => by simp [joinL]
  | _ :: _, _ :: _, _ :: _, [] => by simp [joinL]
  | a :: ags, x :: xs, y :: ys, z :: zs => by simp only [joinL]; rw [joinC_assoc, joinL_assoc]
theorem joinL_len : ∀ {ags : List AggD} {xs ys : List CD}, xs.length = ags.length → ys.length = ags.length → (joinL ags xs ys).length = ags.length
  | [], _, _, _, _ => by simp [joinL]
  | _ :: _, [], _, h, _ => by simp at h
  | _ :: _, _ :: _, [], _, h => by simp at h
  | a :: ags, x :: xs, y :: ys, h1, h2 => by
    simp only [joinL, List.length_cons]
    rw [joinL_len (by simpa using h1) (by simpa using h2)]
theorem joinL_at : ∀ {ags : List AggD} {xs ys : List CD} {k : Nat} {a : AggD} {x y : CD}, ags[k]? = some a → xs[k]? = some x → ys[k]? = some y → (joinL ags xs ys)[k]? = some (joinC a.kind x y)
  | [], _, _, _, _, _, _, h, _, _ => by simp at h
  | _ :: _, [], _, _, _, _, _, _, h, _ => by simp at h
  | _ :: _, _ :: _, [], _, _, _, _, _, _, h => by simp at h
  | a :: ags, x :: xs, y :: ys, 0, _, _, _, h1, h2, h3 => by
    simp at h1 h2 h3
    subst h1 h2 h3
    simp [joinL]
  | a :: ags, x :: xs, y :: ys, k + 1, _, _, _, h1, h2, h3 => by
    simp at h1 h2 h3
    simp only [joinL, List.getElem?_cons_succ]
    exact joinL_at h1 h2 h3

/- keys in order -/
theorem cmpS_range (x y : ByteArray) : cmpS x y = -1 ∨ cmpS x y = 0 ∨ cmpS x y = 1 := by unfold cmpS; (repeat' split) <;> simp
theorem cmpK_eq : ∀ {a b : List ByteArray}, cmpK a b = 0 → a = b
  | [], [], _ => rfl
  | [], _ :: _, h => by simp [cmpK] at h
  | _ :: _, [], h => by simp [cmpK] at h
  | x :: xs, y :: ys, h => by
    rw [cmpK_cons] at h
    by_cases h0 : cmpS x y = 0
    · rw [if_pos h0] at h; rw [cmpS_eq h0, cmpK_eq h]
    · rw [if_neg h0] at h; exact absurd h h0
theorem cmpS_lt {x y : ByteArray} : cmpS x y = -1 ↔ sl x y = true := by
  unfold cmpS
  by_cases h : sl x y = true
  · simp [h]
  · simp [h]; split <;> simp
theorem cmpK_trans : ∀ {a b c : List ByteArray}, cmpK a b = -1 → cmpK b c = -1 → cmpK a c = -1
  | [], [], _, h, _ => by simp [cmpK] at h
  | _ :: _, [], _, h, _ => by simp [cmpK] at h
  | [], _ :: _, [], _, h => by simp [cmpK] at h
  | [], _ :: _, _ :: _, _, _ => rfl
  | _ :: _, _ :: _, [], _, h => by simp [cmpK] at h
  | x :: xs, y :: ys, z :: zs, h1, h2 => by
    rw [cmpK_cons] at *
    by_cases e1 : cmpS x y = 0
    · rw [if_pos e1] at h1
      have := cmpS_eq e1
      subst this
      by_cases e2 : cmpS x z = 0
      · rw [if_pos e2] at h2 ⊢; exact cmpK_trans h1 h2
      · rw [if_neg e2] at h2 ⊢; exact h2
    · rw [if_neg e1] at h1
      by_cases e2 : cmpS y z = 0
      · have := cmpS_eq e2
        subst this
        rw [if_neg e1]; exact h1
      · rw [if_neg e2] at h2
        have h3 : cmpS x z = -1 := cmpS_lt.2 (sl_trans (cmpS_lt.1 h1) (cmpS_lt.1 h2))
        rw [if_neg (by omega)]; exact h3
def LtK (a b : List ByteArray) : Prop := cmpK a b = -1
theorem LtK.irr {a : List ByteArray} (h : LtK a a) : False := by unfold LtK at h; rw [cmpK_self] at h; omega
theorem LtK.ne {a b : List ByteArray} (h : LtK a b) : a ≠ b := fun e => by subst e; exact h.irr
theorem ltK_cases (a b : List ByteArray) : LtK a b ∨ a = b ∨ LtK b a := by
  have h1 := cmpK_range a b
  have h2 := cmpK_anti a b
  unfold LtK
  by_cases h : cmpK a b = 0
  · exact .inr (.inl (cmpK_eq h))
  · omega
def mergeP (ags : List AggD) : List PP → List PP → List PP
  | [], b => b
  | x :: xs, [] => x :: xs
  | x :: xs, y :: ys =>
    if cmpK x.key y.key < 0 then x :: mergeP ags xs (y :: ys)
    else if 0 < cmpK x.key y.key then y :: mergeP ags (x :: xs) ys
    else ⟨x.key, joinL ags x.cs y.cs⟩ :: mergeP ags xs ys
termination_by a b => a.length + b.length
theorem mergeP_nil (ags : List AggD) (a : List PP) : mergeP ags a [] = a := by cases a <;> rw [mergeP]
theorem mergeP_lt {ags : List AggD} {x y : PP} {xs ys : List PP} (h : LtK x.key y.key) : mergeP ags (x :: xs) (y :: ys) = x :: mergeP ags xs (y :: ys) := by
  unfold LtK at h
  rw [mergeP, if_pos (by omega)]
theorem mergeP_gt {ags : List AggD} {x y : PP} {xs ys : List PP} (h : LtK y.key x.key) : mergeP ags (x :: xs) (y :: ys) = y :: mergeP ags (x :: xs) ys := by
  unfold LtK at h
  have := cmpK_anti x.key y.key
  rw [mergeP, if_neg (by omega), if_pos (by omega)]
theorem mergeP_eq {ags : List AggD} {x y : PP} {xs ys : List PP} (h : x.key = y.key) : mergeP ags (x :: xs) (y :: ys) = ⟨x.key, joinL ags x.cs y.cs⟩ :: mergeP ags xs ys := by
  have : cmpK x.key y.key = 0 := by rw [h]; exact cmpK_self _
  rw [mergeP, if_neg (by omega), if_neg (by omega)]
def SrtK (ps : List PP) : Prop := ps.Pairwise (fun a b => LtK a.key b.key)
def look : List PP → List ByteArray → Option (List CD)
  | [], _ => none
  | p :: ps, k => if p.key = k then some p.cs else look ps k
theorem look_none : ∀ {ps : List PP} {k : List ByteArray}, (∀ p ∈ ps, p.key ≠ k) → look ps k = none
  | [], _, _ => rfl
  | p :: ps, k, h => by
    rw [look, if_neg (h p (List.mem_cons_self ..))]
    exact look_none (fun q hq => h q (List.mem_cons_of_mem _ hq))
theorem merge_mem {ags : List AggD} : ∀ {a b : List PP} {p : PP}, p ∈ mergeP ags a b → (∃ q ∈ a, q.key = p.key) ∨ (∃ q ∈ b, q.key = p.key)
  | [], b, p, h => by rw [mergeP] at h; exact .inr ⟨p, h, rfl⟩
  | x :: xs, [], p, h => by rw [mergeP] at h; exact .inl ⟨p, h, rfl⟩
  | x :: xs, y :: ys, p, h => by
    rcases ltK_cases x.key y.key with h1 | h1 | h1
    · rw [mergeP_lt h1] at h
      rcases List.mem_cons.1 h with rfl | h
      · exact .inl ⟨_, List.mem_cons_self .., rfl⟩
      · rcases merge_mem h with ⟨q, hq, e⟩ | h
        · exact .inl ⟨q, List.mem_cons_of_mem _ hq, e⟩
        · exact .inr h
    · rw [mergeP_eq h1] at h
      rcases List.mem_cons.1 h with rfl | h
      · exact .inl ⟨x, List.mem_cons_self .., rfl⟩
      · rcases merge_mem h with ⟨q, hq, e⟩ | ⟨q, hq, e⟩
        · exact .inl ⟨q, List.mem_cons_of_mem _ hq, e⟩
        · exact .inr ⟨q, List.mem_cons_of_mem _ hq, e⟩
    · rw [mergeP_gt h1] at h
      rcases List.mem_cons.1 h with rfl | h
      · exact .inr ⟨_, List.mem_cons_self .., rfl⟩
      · rcases merge_mem h with h | ⟨q, hq, e⟩
        · exact .inl h
        · exact .inr ⟨q, List.mem_cons_of_mem _ hq, e⟩
termination_by a b => a.length + b.length
theorem srtK_lt {x y : PP} {ys : List PP} (h : LtK x.key y.key) (hy : SrtK (y :: ys)) : ∀ q ∈ y :: ys, LtK x.key q.key := by
  intro q hq
  rcases List.mem_cons.1 hq with rfl | hq
  · exact h
  · exact cmpK_trans h ((List.pairwise_cons.1 hy).1 q hq)
theorem merge_srt {ags : List AggD} : ∀ {a b : List PP}, SrtK a → SrtK b → SrtK (mergeP ags a b)
  | [], b, _, hb => by rw [mergeP]; exact hb
  | x :: xs, [], ha, _ => by rw [mergeP]; exact ha
  | x :: xs, y :: ys, ha, hb => by
    have ha' := List.pairwise_cons.1 ha
    have hb' := List.pairwise_cons.1 hb
    rcases ltK_cases x.key y.key with h1 | h1 | h1
    · rw [mergeP_lt h1]
      refine List.pairwise_cons.2 ⟨fun p hp => ?_, merge_srt ha'.2 hb⟩
      rcases merge_mem hp with ⟨q, hq, e⟩ | ⟨q, hq, e⟩
      · rw [← e]; exact ha'.1 q hq
      · rw [← e]; exact srtK_lt h1 hb q hq
    · rw [mergeP_eq h1]
      refine List.pairwise_cons.2 ⟨fun p hp => ?_, merge_srt ha'.2 hb'.2⟩
      rcases merge_mem hp with ⟨q, hq, e⟩ | ⟨q, hq, e⟩
      · rw [← e]; exact ha'.1 q hq
      · rw [← e]; show LtK x.key q.key; rw [h1]; exact hb'.1 q hq
    · rw [mergeP_gt h1]
      refine List.pairwise_cons.2 ⟨fun p hp => ?_, merge_srt ha hb'.2⟩
      rcases merge_mem hp with ⟨q, hq, e⟩ | ⟨q, hq, e⟩
      · rw [← e]; exact srtK_lt h1 ha q hq
      · rw [← e]; exact hb'.1 q hq
termination_by a b => a.length + b.length
def optJ (ags : List AggD) : Option (List CD) → Option (List CD) → Option (List CD)
  | none, y => y
  | x, none => x
  | some x, some y => some (joinL ags x y)
theorem look_lt {k : List ByteArray} {ps : List PP} (h : ∀ q ∈ ps, LtK k q.key) : look ps k = none := look_none (fun q hq e => (h q hq).ne e.symm)
theorem look_merge {ags : List AggD} (k : List ByteArray) : ∀ {a b : List PP}, SrtK a → SrtK b → look (mergeP ags a b) k = optJ ags (look a k) (look b k)
  | [], b, _, hb => by rw [mergeP]; simp [look, optJ]
  | x :: xs, [], ha, _ => by rw [mergeP]; cases h : look (x :: xs) k <;> simp [look, optJ]
  | x :: xs, y :: ys, ha, hb => by
    have ha' := List.pairwise_cons.1 ha
    have hb' := List.pairwise_cons.1 hb
    rcases ltK_cases x.key y.key with h1 | h1 | h1
    · rw [mergeP_lt h1, look]
      by_cases e : x.key = k
      · have : look (y :: ys) k = none := look_lt (by rw [← e]; exact srtK_lt h1 hb)
        rw [if_pos e, this, look, if_pos e]; rfl
      · have hx : look (x :: xs) k = look xs k := by rw [look, if_neg e]
        rw [if_neg e, look_merge k ha'.2 hb, hx]
    · rw [mergeP_eq h1, look]
      by_cases e : x.key = k
      · rw [if_pos e, look, if_pos e, look, if_pos (h1 ▸ e)]; rfl
      · have hx : look (x :: xs) k = look xs k := by rw [look, if_neg e]
        have hy : look (y :: ys) k = look ys k := by rw [look, if_neg (h1 ▸ e)]
        rw [if_neg e, look_merge k ha'.2 hb'.2, hx, hy]
    · rw [mergeP_gt h1, look]
      by_cases e : y.key = k
      · have : look (x :: xs) k = none := look_lt (by rw [← e]; exact srtK_lt h1 ha)
        rw [if_pos e, this, look, if_pos e]; rfl
      · have hy : look (y :: ys) k = look ys k := by rw [look, if_neg e]
        rw [if_neg e, look_merge k ha hb'.2, hy]
termination_by a b => a.length + b.length
theorem look_ext : ∀ {a b : List PP}, SrtK a → SrtK b → (∀ k, look a k = look b k) → a = b
  | [], [], _, _, _ => rfl
  | [], y :: ys, _, _, h => by have := h y.key; simp [look] at this
  | x :: xs, [], _, _, h => by have := h x.key; simp [look] at this
  | x :: xs, y :: ys, ha, hb, h => by
    have ha' := List.pairwise_cons.1 ha
    have hb' := List.pairwise_cons.1 hb
    rcases ltK_cases x.key y.key with h1 | h1 | h1
    · have h2 := h x.key
      rw [look_lt (srtK_lt h1 hb)] at h2
      simp [look] at h2
    · have h2 := h x.key
      simp only [look, if_pos h1.symm, if_true] at h2
      have h3 : x.cs = y.cs := by injection h2
      have h4 : xs = ys := look_ext ha'.2 hb'.2 (fun k => by
        by_cases e : x.key = k
        · rw [look_lt (by rw [← e]; exact ha'.1), look_lt (by rw [← e, h1]; exact hb'.1)]
        · have h5 := h k
          simp only [look, if_neg e, if_neg (fun e' => e (h1.trans e'))] at h5
          exact h5)
      obtain ⟨xk, xc⟩ := x
      obtain ⟨yk, yc⟩ := y
      simp only at h1 h3
      rw [h1, h3, h4]
    · have h2 := h y.key
      rw [look_lt (srtK_lt h1 ha)] at h2
      simp [look] at h2
def CanP (ags : List AggD) (ps : List PP) : Prop := ∀ p ∈ ps, CanL ags p.cs
def CanO (ags : List AggD) : Option (List CD) → Prop
  | none => True
  | some x => CanL ags x
theorem CanP.look {ags : List AggD} : ∀ {ps : List PP} (k : List ByteArray), CanP ags ps → CanO ags (look ps k)
  | [], _, _ => trivial
  | p :: ps, k, h => by
    rw [Go.Proofs.YtfkgcighooijhaaGreatDoor.look]
    split
    · exact h p (List.mem_cons_self ..)
    · exact CanP.look k (fun q hq => h q (List.mem_cons_of_mem _ hq))
theorem optJ_comm {ags : List AggD} (hk : KindsOk ags) {x y : Option (List CD)} (hx : CanO ags x) (hy : CanO ags y) : optJ ags x y = optJ ags y x := by
  cases x <;> cases y <;> simp only [optJ]
  rw [joinL_comm hk hx hy]
theorem optJ_assoc (ags : List AggD) (x y z : Option (List CD)) : optJ ags (optJ ags x y) z = optJ ags x (optJ ags y z) := by
  cases x <;> cases y <;> cases z <;> simp only [optJ]
  rw [joinL_assoc]
theorem merge_can {ags : List AggD} (hk : KindsOk ags) : ∀ {a b : List PP}, CanP ags a → CanP ags b → CanP ags (mergeP ags a b)
  | [], b, _, hb => by rw [mergeP]; exact hb
  | x :: xs, [], ha, _ => by rw [mergeP]; exact ha
  | x :: xs, y :: ys, ha, hb => by
    have a1 := ha x (List.mem_cons_self ..)
    have b1 := hb y (List.mem_cons_self ..)
    have a2 : CanP ags xs := fun q hq => ha q (List.mem_cons_of_mem _ hq)
    have b2 : CanP ags ys := fun q hq => hb q (List.mem_cons_of_mem _ hq)
    rcases ltK_cases x.key y.key with h1 | h1 | h1
    · rw [mergeP_lt h1]; intro p hp
      rcases List.mem_cons.1 hp with rfl | hp
      · exact a1
      · exact merge_can hk a2 hb p hp
    · rw [mergeP_eq h1]; intro p hp
      rcases List.mem_cons.1 hp with rfl | hp
      · exact joinL_can hk a1 b1
      · exact merge_can hk a2 b2 p hp
    · rw [mergeP_gt h1]; intro p hp
      rcases List.mem_cons.1 hp with rfl | hp
      · exact b1
      · exact merge_can hk ha b2 p hp
termination_by a b => a.length + b.length
theorem merge_assoc {ags : List AggD} {a b c : List PP} (ha : SrtK a) (hb : SrtK b) (hc : SrtK c) : mergeP ags (mergeP ags a b) c = mergeP ags a (mergeP ags b c) :=
  look_ext (merge_srt (merge_srt ha hb) hc) (merge_srt ha (merge_srt hb hc)) (fun k => by
    rw [look_merge k (merge_srt ha hb) hc, look_merge k ha hb, look_merge k ha (merge_srt hb hc), look_merge k hb hc, optJ_assoc])
theorem merge_comm {ags : List AggD} (hk : KindsOk ags) {a b : List PP} (ha : SrtK a) (hb : SrtK b) (ca : CanP ags a) (cb : CanP ags b) : mergeP ags a b = mergeP ags b a :=
  look_ext (merge_srt ha hb) (merge_srt hb ha) (fun k => by
    rw [look_merge k ha hb, look_merge k hb ha, optJ_comm hk (ca.look k) (cb.look k)])

/- partials of events -/
def oneP (ns : List ByteArray) (ags : List AggD) (e : Ev) : PP := ⟨keyOf_ ns e, ags.map (fun a => oneC a e)⟩
def collF (ns : List ByteArray) (ags : List AggD) (l : List Ev) : List PP := l.foldl (fun p e => mergeP ags p [oneP ns ags e]) []
theorem oneC_can {a : AggD} {e : Ev} (hk : 0 ≤ a.kind ∧ a.kind ≤ 4) (hw : I64 e.weight) (hn : ∀ n, numOf e a.field = some n → I64 n) : CanC a.kind (oneC a e) := by
  unfold CanC oneC
  by_cases h4 : a.kind = 4
  · rw [if_pos h4, if_neg (by omega), if_neg (by omega), if_pos h4]
    cases valOf e a.field with
    | none => exact ⟨rfl, rfl, List.Pairwise.nil⟩
    | some s => exact ⟨rfl, rfl, List.pairwise_singleton _ _⟩
  · rw [if_neg h4]
    have z : I64 0 := by unfold I64; omega
    split
    · exact ⟨rfl, (fun h => by cases h), hw⟩
    · split
      · cases h : numOf e a.field with
        | none => exact ⟨rfl, fun _ => rfl, z⟩
        | some n => exact ⟨rfl, (fun h => by cases h), wrap64_i64 _⟩
      · try rw [if_neg h4]
        cases h : numOf e a.field with
        | none => exact ⟨rfl, fun _ => rfl, z⟩
        | some n => exact ⟨rfl, (fun h => by cases h), hn n h⟩
/-- an event whose numbers fit -/
def EvA (ags : List AggD) (e : Ev) : Prop := I64 e.weight ∧ ∀ a ∈ ags, ∀ n, numOf e a.field = some n → I64 n
theorem oneP_can {ns : List ByteArray} {e : Ev} : ∀ {ags : List AggD}, KindsOk ags → EvA ags e → CanL ags (ags.map (fun a => oneC a e))
  | [], _, _ => trivial
  | a :: ags, hk, he => ⟨oneC_can hk.hd he.1 (he.2 a (List.mem_cons_self ..)), oneP_can (ns := ns) hk.tl ⟨he.1, fun b hb => he.2 b (List.mem_cons_of_mem _ hb)⟩⟩
theorem one_srt (p : PP) : SrtK [p] := List.pairwise_singleton _ _
theorem one_can {ns : List ByteArray} {ags : List AggD} {e : Ev} (hk : KindsOk ags) (he : EvA ags e) : CanP ags [oneP ns ags e] := by
  intro p hp
  rw [List.mem_singleton.1 hp]
  exact oneP_can (ns := ns) hk he
theorem collF_snoc (ns : List ByteArray) (ags : List AggD) (l : List Ev) (e : Ev) : collF ns ags (l ++ [e]) = mergeP ags (collF ns ags l) [oneP ns ags e] := by
  unfold collF; rw [List.foldl_append]; rfl
theorem collF_srt (ns : List ByteArray) (ags : List AggD) (l : List Ev) : SrtK (collF ns ags l) := by
  have key : ∀ (l : List Ev) (p : List PP), SrtK p → SrtK (l.foldl (fun p e => mergeP ags p [oneP ns ags e]) p) := by
    intro l
    induction l with
    | nil => intro p h; exact h
    | cons x xs ih => intro p h; exact ih _ (merge_srt h (one_srt _))
  exact key l [] List.Pairwise.nil
theorem collF_can {ns : List ByteArray} {ags : List AggD} {l : List Ev} (hk : KindsOk ags) (hl : ∀ e ∈ l, EvA ags e) : CanP ags (collF ns ags l) := by
  have key : ∀ (l : List Ev) (p : List PP), (∀ e ∈ l, EvA ags e) → CanP ags p → CanP ags (l.foldl (fun p e => mergeP ags p [oneP ns ags e]) p) := by
    intro l
    induction l with
    | nil => intro p _ h; exact h
    | cons x xs ih => intro p hl h; exact ih _ (fun e he => hl e (List.mem_cons_of_mem _ he)) (merge_can hk h (one_can hk (hl x (List.mem_cons_self ..))))
  exact key l [] hl (fun p hp => by cases hp)
theorem collF_one (ns : List ByteArray) (ags : List AggD) (e : Ev) : collF ns ags [e] = [oneP ns ags e] := by
  show mergeP ags [] _ = _
  rw [mergeP]
theorem collF_app (ns : List ByteArray) (ags : List AggD) (a b : List Ev) : mergeP ags (collF ns ags a) (collF ns ags b) = collF ns ags (a ++ b) := by
  have key : ∀ (b : List Ev) (q : List PP), SrtK q → mergeP ags (collF ns ags a) (b.foldl (fun p e => mergeP ags p [oneP ns ags e]) q) = b.foldl (fun p e => mergeP ags p [oneP ns ags e]) (mergeP ags (collF ns ags a) q) := by
    intro b
    induction b with
    | nil => intro q _; rfl
    | cons x xs ih =>
      intro q hq
      show mergeP ags _ (xs.foldl _ (mergeP ags q [oneP ns ags x])) = xs.foldl _ (mergeP ags (mergeP ags (collF ns ags a) q) [oneP ns ags x])
      rw [ih _ (merge_srt hq (one_srt _)), merge_assoc (collF_srt ..) hq (one_srt _)]
  have h := key b [] List.Pairwise.nil
  rw [mergeP_nil] at h
  show mergeP ags _ (b.foldl _ []) = _
  rw [h]
  unfold collF
  rw [List.foldl_append]
theorem collF_perm {ns : List ByteArray} {ags : List AggD} (hk : KindsOk ags) {a b : List Ev} (h : a.Perm b) : (∀ e ∈ a, EvA ags e) → collF ns ags a = collF ns ags b := by
  induction h with
  | nil => intro _; rfl
  | cons x h ih =>
    rename_i l1 l2
    intro hl
    have e1 := collF_app ns ags [x] l1
    have e2 := collF_app ns ags [x] l2
    rw [List.singleton_append] at e1 e2
    rw [← e1, ← e2, ih (fun e he => hl e (List.mem_cons_of_mem _ he))]
  | swap x y l =>
    intro hl
    have e1 := collF_app ns ags [y, x] l
    have e2 := collF_app ns ags [x, y] l
    have f1 := collF_app ns ags [y] [x]
    have f2 := collF_app ns ags [x] [y]
    have hx : EvA ags x := hl x (by simp)
    have hy : EvA ags y := hl y (by simp)
    have f3 := merge_comm hk (collF_srt ns ags [y]) (collF_srt ns ags [x]) (collF_can hk (by intro e he; rw [List.mem_singleton.1 he]; exact hy)) (collF_can hk (by intro e he; rw [List.mem_singleton.1 he]; exact hx))
    have f4 : collF ns ags [y, x] = collF ns ags [x, y] := by
      show collF ns ags ([y] ++ [x]) = collF ns ags ([x] ++ [y])
      rw [← f1, ← f2, f3]
    show collF ns ags ([y, x] ++ l) = collF ns ags ([x, y] ++ l)
    rw [← e1, ← e2, f4]
  | trans h1 h2 ih1 ih2 =>
    intro hl
    rw [ih1 hl, ih2 (fun e he => hl e (h1.mem_iff.2 he))]
end Go.Proofs.YtfkgcighooijhaaGreatDoor
