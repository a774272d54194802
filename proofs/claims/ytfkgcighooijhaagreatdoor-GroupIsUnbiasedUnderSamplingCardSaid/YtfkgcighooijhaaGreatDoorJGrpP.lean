/- Groups as plain data: cells, partials, their merging: associative, commutative, by look-up. No condition. -/
import Derived.Test.YtfkgcighooijhaaGreatDoorCmpK
import Derived.Test.YtfkgcighooijhaaGreatDoorNumE
import Derived.Test.YtfkgcighooijhaaGreatDoorSorted
import Derived.Test.YtfkgcighooijhaaGreatDoorUnion
import Derived.Test.YtfkgcighooijhaaGreatDoorKey
import Derived.Test.YtfkgcighooijhaaGreatDoorFlat
import Derived.Test.YtfkgcighooijhaaGreatDoorStr
import Derived.Lib.SliceRun
import Derived.Lib.AppendZeros
import Derived.Deep.DeepCutAuto
import Derived.Deep.DeepMust
import Derived.Deep.RegionWith
namespace Go.Proofs.YtfkgcighooijhaaGreatDoor
open Go.RowKit
set_option linter.unusedVariables false
set_option linter.unusedSimpArgs false

structure CD where
  t : Int
  s : Bool
  v : List ByteArray
structure PP where
  key : List ByteArray
  cs : List CD
/-- the cell of one event -/
def oneC (a : AggD) (e : Ev) : CD :=
  if a.kind = 0 then ⟨e.weight, true, []⟩
  else if a.kind = 1 then (match numOf e a.field with | none => ⟨0, false, []⟩ | some n => ⟨wrap64 (n * e.weight), true, []⟩)
  else if a.kind = 4 then (match valOf e a.field with | none => ⟨0, true, []⟩ | some s => ⟨1, true, [s]⟩)
  else (match numOf e a.field with | none => ⟨0, false, []⟩ | some n => ⟨n, true, []⟩)
def chosenC (f : Int → Int → Int) (x y : CD) : CD := if x.s then (if y.s then ⟨f x.t y.t, true, []⟩ else x) else y
def addW (a b : Int) : Int := wrap64 (a + b)
def minI (a b : Int) : Int := if b < a then b else a
def maxI (a b : Int) : Int := if a < b then b else a
def uniC (x y : CD) : CD := ⟨(dist (x.v ++ y.v)).length, true, dist (x.v ++ y.v)⟩
def joinC (k : Int) (x y : CD) : CD :=
  if k = 0 then chosenC addW x y else if k = 1 then chosenC addW x y else if k = 2 then chosenC minI x y else if k = 3 then chosenC maxI x y else uniC x y
def CanN (x : CD) : Prop := x.v = [] ∧ (x.s = false → x.t = 0) ∧ I64 x.t
def CanU (x : CD) : Prop := x.s = true ∧ x.t = x.v.length ∧ Srt x.v
def CanC (k : Int) (x : CD) : Prop := if k = 4 then CanU x else CanN x
theorem wrap64_i64 (n : Int) : I64 (wrap64 n) := by unfold wrap64 I64; omega
theorem wrap64_id {n : Int} (h : I64 n) : wrap64 n = n := by unfold wrap64; unfold I64 at h; omega
theorem wrap64_l (a b : Int) : wrap64 (wrap64 a + b) = wrap64 (a + b) := by
  unfold wrap64
  have h : (a + 9223372036854775808) % 18446744073709551616 - 9223372036854775808 + b + 9223372036854775808 = (a + b + 9223372036854775808) + 18446744073709551616 * (-((a + 9223372036854775808) / 18446744073709551616)) := by omega
  rw [h, Int.add_mul_emod_self_left]
theorem addW_comm (a b : Int) : addW a b = addW b a := by unfold addW; rw [Int.add_comm]
theorem addW_assoc (a b c : Int) : addW (addW a b) c = addW a (addW b c) := by
  unfold addW
  rw [wrap64_l, Int.add_comm a (wrap64 (b + c)), wrap64_l, Int.add_comm (b + c) a, Int.add_assoc]
theorem minI_comm (a b : Int) : minI a b = minI b a := by unfold minI; split <;> split <;> omega
theorem minI_assoc (a b c : Int) : minI (minI a b) c = minI a (minI b c) := by unfold minI; (repeat' split) <;> omega
theorem maxI_comm (a b : Int) : maxI a b = maxI b a := by unfold maxI; split <;> split <;> omega
theorem maxI_assoc (a b c : Int) : maxI (maxI a b) c = maxI a (maxI b c) := by unfold maxI; (repeat' split) <;> omega
theorem canN_eq {x y : CD} (hx : CanN x) (hy : CanN y) (h1 : x.s = false) (h2 : y.s = false) : x = y := by
  obtain ⟨a, b, c⟩ := x
  obtain ⟨d, e, f⟩ := y
  obtain ⟨p1, p2, -⟩ := hx
  obtain ⟨q1, q2, -⟩ := hy
  simp only at *
  rw [p1, q1, p2 h1, q2 h2, h1, h2]
theorem chosenC_can {f : Int → Int → Int} (hf : ∀ a b, I64 a → I64 b → I64 (f a b)) {x y : CD} (hx : CanN x) (hy : CanN y) : CanN (chosenC f x y) := by
  unfold chosenC
  split
  · split
    · exact ⟨rfl, (fun h => by cases h), hf _ _ hx.2.2 hy.2.2⟩
    · exact hx
  · exact hy
theorem chosenC_comm {f : Int → Int → Int} (hf : ∀ a b, f a b = f b a) {x y : CD} (hx : CanN x) (hy : CanN y) : chosenC f x y = chosenC f y x := by
  unfold chosenC
  by_cases h1 : x.s = true
  · by_cases h2 : y.s = true
    · rw [if_pos h1, if_pos h2, if_pos h2, if_pos h1, hf]
    · rw [if_pos h1, if_neg h2, if_neg h2]
  · by_cases h2 : y.s = true
    · rw [if_neg h1, if_pos h2, if_neg h1]
    · rw [if_neg h1, if_neg h2]
      exact canN_eq hy hx (by simpa using h2) (by simpa using h1)
theorem chosenC_assoc {f : Int → Int → Int} (hf : ∀ a b c, f (f a b) c = f a (f b c)) (x y z : CD) : chosenC f (chosenC f x y) z = chosenC f x (chosenC f y z) := by
  obtain ⟨a, b, c⟩ := x
  obtain ⟨d, e, g⟩ := y
  obtain ⟨i, j, k⟩ := z
  cases b <;> cases e <;> cases j <;> simp [chosenC, hf]
theorem uniC_comm (x y : CD) : uniC x y = uniC y x := by
  have h : dist (x.v ++ y.v) = dist (y.v ++ x.v) := srt_ext (dist_srt _) (dist_srt _) (fun s => by rw [dist_mem, dist_mem, List.mem_append, List.mem_append, or_comm])
  unfold uniC
  rw [h]
theorem uniC_assoc (x y z : CD) : uniC (uniC x y) z = uniC x (uniC y z) := by
  have h : dist (dist (x.v ++ y.v) ++ z.v) = dist (x.v ++ dist (y.v ++ z.v)) := srt_ext (dist_srt _) (dist_srt _) (fun s => by
    rw [dist_mem, dist_mem, List.mem_append, List.mem_append, dist_mem, dist_mem, List.mem_append, List.mem_append, or_assoc])
  unfold uniC
  show CD.mk _ _ _ = CD.mk _ _ _
  rw [h]
theorem joinC_can {k : Int} {x y : CD} (hk : 0 ≤ k ∧ k ≤ 4) (hx : CanC k x) (hy : CanC k y) : CanC k (joinC k x y) := by
  unfold CanC at *
  unfold joinC
  by_cases h4 : k = 4
  · subst h4
    simp only [if_pos] at *
    exact ⟨rfl, rfl, dist_srt _⟩
  · rw [if_neg h4] at *
    have h2 : ∀ a b, I64 a → I64 b → I64 (minI a b) := fun a b h1 h2 => by unfold minI; split <;> assumption
    have h3 : ∀ a b, I64 a → I64 b → I64 (maxI a b) := fun a b h1 h2 => by unfold maxI; split <;> assumption
    split
    · exact chosenC_can (fun _ _ _ _ => wrap64_i64 _) hx hy
    · split
      · exact chosenC_can (fun _ _ _ _ => wrap64_i64 _) hx hy
      · split
        · exact chosenC_can h2 hx hy
        · split
          · exact chosenC_can h3 hx hy
          · omega
theorem joinC_comm {k : Int} {x y : CD} (hk : 0 ≤ k ∧ k ≤ 4) (hx : CanC k x) (hy : CanC k y) : joinC k x y = joinC k y x := by
  unfold CanC at *
  unfold joinC
  by_cases h4 : k = 4
  · subst h4; simp; exact uniC_comm x y
  · rw [if_neg h4] at *
    split
    · exact chosenC_comm addW_comm hx hy
    · split
      · exact chosenC_comm addW_comm hx hy
      · split
        · exact chosenC_comm minI_comm hx hy
        · split
          · exact chosenC_comm maxI_comm hx hy
          · exact uniC_comm x y
theorem joinC_assoc (k : Int) (x y z : CD) : joinC k (joinC k x y) z = joinC k x (joinC k y z) := by
  unfold joinC
  split
  · exact chosenC_assoc addW_assoc x y z
  · split
    · exact chosenC_assoc addW_assoc x y z
    · split
      · exact chosenC_assoc minI_assoc x y z
      · split
        · exact chosenC_assoc maxI_assoc x y z
        · exact uniC_assoc x y z
def joinL : List AggD → List CD → List CD → List CD
  | a :: ags, x :: xs, y :: ys => joinC a.kind x y :: joinL ags xs ys
  | _, _, _ => []
def CanL : List AggD → List CD → Prop
  | [], [] => True
  | a :: ags, x :: xs => CanC a.kind x ∧ CanL ags xs
  | _, _ => False
def KindsOk (ags : List AggD) : Prop := ∀ a ∈ ags, 0 ≤ a.kind ∧ a.kind ≤ 4
theorem KindsOk.tl {a : AggD} {ags : List AggD} (h : KindsOk (a :: ags)) : KindsOk ags := fun x hx => h x (List.mem_cons_of_mem _ hx)
theorem KindsOk.hd {a : AggD} {ags : List AggD} (h : KindsOk (a :: ags)) : 0 ≤ a.kind ∧ a.kind ≤ 4 := h a (List.mem_cons_self ..)
theorem CanL.len : ∀ {ags : List AggD} {xs : List CD}, CanL ags xs → xs.length = ags.length
  | [], [], _ => rfl
  | [], _ :: _, h => h.elim
  | _ :: _, [], h => h.elim
  | a :: ags, x :: xs, h => by rw [List.length_cons, List.length_cons, CanL.len h.2]
theorem joinL_can : ∀ {ags : List AggD} {xs ys : List CD}, KindsOk ags → CanL ags xs → CanL ags ys → CanL ags (joinL ags xs ys)
  | [], [], [], _, _, _ => trivial
  | [], _ :: _, _, _, h, _ => h.elim
  | [], [], _ :: _, _, _, h => h.elim
  | _ :: _, [], _, _, h, _ => h.elim
  | _ :: _, _ :: _, [], _, _, h => h.elim
  | a :: ags, x :: xs, y :: ys, hk, hx, hy => ⟨joinC_can hk.hd hx.1 hy.1, joinL_can hk.tl hx.2 hy.2⟩
theorem joinL_comm : ∀ {ags : List AggD} {xs ys : List CD}, KindsOk ags → CanL ags xs → CanL ags ys → joinL ags xs ys = joinL ags ys xs
  | [], [], [], _, _, _ => rfl
  | [], _ :: _, _, _, h, _ => h.elim
  | [], [], _ :: _, _, _, h => h.elim
  | _ :: _, [], _, _, h, _ => h.elim
  | _ :: _, _ :: _, [], _, _, h => h.elim
  | a :: ags, x :: xs, y :: ys, hk, hx, hy => by
    rw [joinL, joinL, joinC_comm hk.hd hx.1 hy.1, joinL_comm hk.tl hx.2 hy.2]
theorem joinL_assoc : ∀ (ags : List AggD) (xs ys zs : List CD), joinL ags (joinL ags xs ys) zs = joinL ags xs (joinL ags ys zs)
  | [], _, _, _ => by simp [joinL]
  | _ :: _, [], _, _ => by simp [joinL]
  | _ :: _, _ :: _, [], _ => by simp [joinL]
  | _ :: _, _ :: _, _ :: _, [] => by simp [joinL]
  | a :: ags, x :: xs, y :: ys, z :: zs => by simp only [joinL]; rw [joinC_assoc, joinL_assoc]
theorem joinL_len : ∀ {ags : List AggD} {xs ys : List CD}, xs.length = ags.length → ys.length = ags.length → (joinL ags xs ys).length = ags.length
  | [], _, _, _, _ => by simp [joinL]
  | _ :: _, [], _, h, _ => by simp at h
  | _ :: _, _ :: _, [], _, h => by simp at h
  | a :: ags, x :: xs, y :: ys, h1, h2 => by
    simp only [joinL, List.length_cons]
    rw [joinL_len (by simpa using h1) (by simpa using h2)]
theorem joinL_at : ∀ {ags : List AggD} {xs ys : List CD} {k : Nat} {a : AggD} {x y : CD}, ags[k]? = some a → xs[k]? = some x → ys[k]? = some y → (joinL ags xs ys)[k]? = some (joinC a.kind x y)
  | [], _, _, _, _, _, _, h, _, _ => by simp at h
  | _ :: _, [], _, _, _, _, _, _, h, _ => by simp at h
  | _ :: _, _ :: _, [], _, _, _, _, _, _, h => by simp at h
  | a :: ags, x :: xs, y :: ys, 0, _, _, _, h1, h2, h3 => by
    simp at h1 h2 h3
    subst h1 h2 h3
    simp [joinL]
  | a :: ags, x :: xs, y :: ys, k + 1, _, _, _, h1, h2, h3 => by
    simp at h1 h2 h3
    simp only [joinL, List.getElem?_cons_succ]
    exact joinL_at h1 h2 h3

/- keys in order -/
theorem cmpS_range (x y : ByteArray) : cmpS x y = -1 ∨ cmpS x y = 0 ∨ cmpS x y = 1 := by unfold cmpS; (repeat' split) <;> simp
theorem cmpK_eq : ∀ {a b : List ByteArray}, cmpK a b = 0 → a = b
  | [], [], _ => rfl
  | [], _ :: _, h => by simp [cmpK] at h
  | _ :: _, [], h => by simp [cmpK] at h
  | x :: xs, y :: ys, h => by
    rw [cmpK_cons] at h
    by_cases h0 : cmpS x y = 0
    · rw [if_pos h0] at h; rw [cmpS_eq h0, cmpK_eq h]
    · rw [if_neg h0] at h; exact absurd h h0
theorem cmpS_lt {x y : ByteArray} : cmpS x y = -1 ↔ sl x y = true := by
  unfold cmpS
  by_cases h : sl x y = true
  · simp [h]
  · simp [h]; split <;> simp
theorem cmpK_trans : ∀ {a b c : List ByteArray}, cmpK a b = -1 → cmpK b c = -1 → cmpK a c = -1
  | [], [], _, h, _ => by simp [cmpK] at h
  | _ :: _, [], _, h, _ => by simp [cmpK] at h
  | [], _ :: _, [], _, h => by simp [cmpK] at h
  | [], _ :: _, _ :: _, _, _ => rfl
  | _ :: _, _ :: _, [], _, h => by simp [cmpK] at h
  | x :: xs, y :: ys, z :: zs, h1, h2 => by
    rw [cmpK_cons] at *
    by_cases e1 : cmpS x y = 0
    · rw [if_pos e1] at h1
      have := cmpS_eq e1
      subst this
      by_cases e2 : cmpS x z = 0
      · rw [if_pos e2] at h2 ⊢; exact cmpK_trans h1 h2
      · rw [if_neg e2] at h2 ⊢; exact h2
    · rw [if_neg e1] at h1
      by_cases e2 : cmpS y z = 0
      · have := cmpS_eq e2
        subst this
        rw [if_neg e1]; exact h1
      · rw [if_neg e2] at h2
        have h3 : cmpS x z = -1 := cmpS_lt.2 (sl_trans (cmpS_lt.1 h1) (cmpS_lt.1 h2))
        rw [if_neg (by omega)]; exact h3
def LtK (a b : List ByteArray) : Prop := cmpK a b = -1
theorem LtK.irr {a : List ByteArray} (h : LtK a a) : False := by unfold LtK at h; rw [cmpK_self] at h; omega
theorem LtK.ne {a b : List ByteArray} (h : LtK a b) : a ≠ b := fun e => by subst e; exact h.irr
theorem ltK_cases (a b : List ByteArray) : LtK a b ∨ a = b ∨ LtK b a := by
  have h1 := cmpK_range a b
  have h2 := cmpK_anti a b
  unfold LtK
  by_cases h : cmpK a b = 0
  · exact .inr (.inl (cmpK_eq h))
  · omega
def mergeP (ags : List AggD) : List PP → List PP → List PP
  | [], b => b
  | x :: xs, [] => x :: xs
  | x :: xs, y :: ys =>
    if cmpK x.key y.key < 0 then x :: mergeP ags xs (y :: ys)
    else if 0 < cmpK x.key y.key then y :: mergeP ags (x :: xs) ys
    else ⟨x.key, joinL ags x.cs y.cs⟩ :: mergeP ags xs ys
termination_by a b => a.length + b.length
theorem mergeP_nil (ags : List AggD) (a : List PP) : mergeP ags a [] = a := by cases a <;> rw [mergeP]
theorem mergeP_lt {ags : List AggD} {x y : PP} {xs ys : List PP} (h : LtK x.key y.key) : mergeP ags (x :: xs) (y :: ys) = x :: mergeP ags xs (y :: ys) := by
  unfold LtK at h
  rw [mergeP, if_pos (by omega)]
theorem mergeP_gt {ags : List AggD} {x y : PP} {xs ys : List PP} (h : LtK y.key x.key) : mergeP ags (x :: xs) (y :: ys) = y :: mergeP ags (x :: xs) ys := by
  unfold LtK at h
  have := cmpK_anti x.key y.key
  rw [mergeP, if_neg (by omega), if_pos (by omega)]
theorem mergeP_eq {ags : List AggD} {x y : PP} {xs ys : List PP} (h : x.key = y.key) : mergeP ags (x :: xs) (y :: ys) = ⟨x.key, joinL ags x.cs y.cs⟩ :: mergeP ags xs ys := by
  have : cmpK x.key y.key = 0 := by rw [h]; exact cmpK_self _
  rw [mergeP, if_neg (by omega), if_neg (by omega)]
def SrtK (ps : List PP) : Prop := ps.Pairwise (fun a b => LtK a.key b.key)
def look : List PP → List ByteArray → Option (List CD)
  | [], _ => none
  | p :: ps, k => if p.key = k then some p.cs else look ps k
theorem look_none : ∀ {ps : List PP} {k : List ByteArray}, (∀ p ∈ ps, p.key ≠ k) → look ps k = none
  | [], _, _ => rfl
  | p :: ps, k, h => by
    rw [look, if_neg (h p (List.mem_cons_self ..))]
    exact look_none (fun q hq => h q (List.mem_cons_of_mem _ hq))
theorem merge_mem {ags : List AggD} : ∀ {a b : List PP} {p : PP}, p ∈ mergeP ags a b → (∃ q ∈ a, q.key = p.key) ∨ (∃ q ∈ b, q.key = p.key)
  | [], b, p, h => by rw [mergeP] at h; exact .inr ⟨p, h, rfl⟩
  | x :: xs, [], p, h => by rw [mergeP] at h; exact .inl ⟨p, h, rfl⟩
  | x :: xs, y :: ys, p, h => by
    rcases ltK_cases x.key y.key with h1 | h1 | h1
    · rw [mergeP_lt h1] at h
      rcases List.mem_cons.1 h with rfl | h
      · exact .inl ⟨_, List.mem_cons_self .., rfl⟩
      · rcases merge_mem h with ⟨q, hq, e⟩ | h
        · exact .inl ⟨q, List.mem_cons_of_mem _ hq, e⟩
        · exact .inr h
    · rw [mergeP_eq h1] at h
      rcases List.mem_cons.1 h with rfl | h
      · exact .inl ⟨x, List.mem_cons_self .., rfl⟩
      · rcases merge_mem h with ⟨q, hq, e⟩ | ⟨q, hq, e⟩
        · exact .inl ⟨q, List.mem_cons_of_mem _ hq, e⟩
        · exact .inr ⟨q, List.mem_cons_of_mem _ hq, e⟩
    · rw [mergeP_gt h1] at h
      rcases List.mem_cons.1 h with rfl | h
      · exact .inr ⟨_, List.mem_cons_self .., rfl⟩
      · rcases merge_mem h with h | ⟨q, hq, e⟩
        · exact .inl h
        · exact .inr ⟨q, List.mem_cons_of_mem _ hq, e⟩
termination_by a b => a.length + b.length
theorem srtK_lt {x y : PP} {ys : List PP} (h : LtK x.key y.key) (hy : SrtK (y :: ys)) : ∀ q ∈ y :: ys, LtK x.key q.key := by
  intro q hq
  rcases List.mem_cons.1 hq with rfl | hq
  · exact h
  · exact cmpK_trans h ((List.pairwise_cons.1 hy).1 q hq)
theorem merge_srt {ags : List AggD} : ∀ {a b : List PP}, SrtK a → SrtK b → SrtK (mergeP ags a b)
  | [], b, _, hb => by rw [mergeP]; exact hb
  | x :: xs, [], ha, _ => by rw [mergeP]; exact ha
  | x :: xs, y :: ys, ha, hb => by
    have ha' := List.pairwise_cons.1 ha
    have hb' := List.pairwise_cons.1 hb
    rcases ltK_cases x.key y.key with h1 | h1 | h1
    · rw [mergeP_lt h1]
      refine List.pairwise_cons.2 ⟨fun p hp => ?_, merge_srt ha'.2 hb⟩
      rcases merge_mem hp with ⟨q, hq, e⟩ | ⟨q, hq, e⟩
      · rw [← e]; exact ha'.1 q hq
      · rw [← e]; exact srtK_lt h1 hb q hq
    · rw [mergeP_eq h1]
      refine List.pairwise_cons.2 ⟨fun p hp => ?_, merge_srt ha'.2 hb'.2⟩
      rcases merge_mem hp with ⟨q, hq, e⟩ | ⟨q, hq, e⟩
      · rw [← e]; exact ha'.1 q hq
      · rw [← e]; show LtK x.key q.key; rw [h1]; exact hb'.1 q hq
    · rw [mergeP_gt h1]
      refine List.pairwise_cons.2 ⟨fun p hp => ?_, merge_srt ha hb'.2⟩
      rcases merge_mem hp with ⟨q, hq, e⟩ | ⟨q, hq, e⟩
      · rw [← e]; exact srtK_lt h1 ha q hq
      · rw [← e]; exact hb'.1 q hq
termination_by a b => a.length + b.length
def optJ (ags : List AggD) : Option (List CD) → Option (List CD) → Option (List CD)
  | none, y => y
  | x, none => x
  | some x, some y => some (joinL ags x y)
theorem look_lt {k : List ByteArray} {ps : List PP} (h : ∀ q ∈ ps, LtK k q.key) : look ps k = none := look_none (fun q hq e => (h q hq).ne e.symm)
theorem look_merge {ags : List AggD} (k : List ByteArray) : ∀ {a b : List PP}, SrtK a → SrtK b → look (mergeP ags a b) k = optJ ags (look a k) (look b k)
  | [], b, _, hb => by rw [mergeP]; simp [look, optJ]
  | x :: xs, [], ha, _ => by rw [mergeP]; cases h : look (x :: xs) k <;> simp [look, optJ]
  | x :: xs, y :: ys, ha, hb => by
    have ha' := List.pairwise_cons.1 ha
    have hb' := List.pairwise_cons.1 hb
    rcases ltK_cases x.key y.key with h1 | h1 | h1
    · rw [mergeP_lt h1, look]
      by_cases e : x.key = k
      · have : look (y :: ys) k = none := look_lt (by rw [← e]; exact srtK_lt h1 hb)
        rw [if_pos e, this, look, if_pos e]; rfl
      · have hx : look (x :: xs) k = look xs k := by rw [look, if_neg e]
        rw [if_neg e, look_merge k ha'.2 hb, hx]
    · rw [mergeP_eq h1, look]
      by_cases e : x.key = k
      · rw [if_pos e, look, if_pos e, look, if_pos (h1 ▸ e)]; rfl
      · have hx : look (x :: xs) k = look xs k := by rw [look, if_neg e]
        have hy : look (y :: ys) k = look ys k := by rw [look, if_neg (h1 ▸ e)]
        rw [if_neg e, look_merge k ha'.2 hb'.2, hx, hy]
    · rw [mergeP_gt h1, look]
      by_cases e : y.key = k
      · have : look (x :: xs) k = none := look_lt (by rw [← e]; exact srtK_lt h1 ha)
        rw [if_pos e, this, look, if_pos e]; rfl
      · have hy : look (y :: ys) k = look ys k := by rw [look, if_neg e]
        rw [if_neg e, look_merge k ha hb'.2, hy]
termination_by a b => a.length + b.length
theorem look_ext : ∀ {a b : List PP}, SrtK a → SrtK b → (∀ k, look a k = look b k) → a = b
  | [], [], _, _, _ => rfl
  | [], y :: ys, _, _, h => by have := h y.key; simp [look] at this
  | x :: xs, [], _, _, h => by have := h x.key; simp [look] at this
  | x :: xs, y :: ys, ha, hb, h => by
    have ha' := List.pairwise_cons.1 ha
    have hb' := List.pairwise_cons.1 hb
    rcases ltK_cases x.key y.key with h1 | h1 | h1
    · have h2 := h x.key
      rw [look_lt (srtK_lt h1 hb)] at h2
      simp [look] at h2
    · have h2 := h x.key
      simp only [look, if_pos h1.symm, if_true] at h2
      have h3 : x.cs = y.cs := by injection h2
      have h4 : xs = ys := look_ext ha'.2 hb'.2 (fun k => by
        by_cases e : x.key = k
        · rw [look_lt (by rw [← e]; exact ha'.1), look_lt (by rw [← e, h1]; exact hb'.1)]
        · have h5 := h k
          simp only [look, if_neg e, if_neg (fun e' => e (h1.trans e'))] at h5
          exact h5)
      obtain ⟨xk, xc⟩ := x
      obtain ⟨yk, yc⟩ := y
      simp only at h1 h3
      rw [h1, h3, h4]
    · have h2 := h y.key
      rw [look_lt (srtK_lt h1 ha)] at h2
      simp [look] at h2
def CanP (ags : List AggD) (ps : List PP) : Prop := ∀ p ∈ ps, CanL ags p.cs
def CanO (ags : List AggD) : Option (List CD) → Prop
  | none => True
  | some x => CanL ags x
theorem CanP.look {ags : List AggD} : ∀ {ps : List PP} (k : List ByteArray), CanP ags ps → CanO ags (look ps k)
  | [], _, _ => trivial
  | p :: ps, k, h => by
    rw [Go.Proofs.YtfkgcighooijhaaGreatDoor.look]
    split
    · exact h p (List.mem_cons_self ..)
    · exact CanP.look k (fun q hq => h q (List.mem_cons_of_mem _ hq))
theorem optJ_comm {ags : List AggD} (hk : KindsOk ags) {x y : Option (List CD)} (hx : CanO ags x) (hy : CanO ags y) : optJ ags x y = optJ ags y x := by
  cases x <;> cases y <;> simp only [optJ]
  rw [joinL_comm hk hx hy]
theorem optJ_assoc (ags : List AggD) (x y z : Option (List CD)) : optJ ags (optJ ags x y) z = optJ ags x (optJ ags y z) := by
  cases x <;> cases y <;> cases z <;> simp only [optJ]
  rw [joinL_assoc]
theorem merge_can {ags : List AggD} (hk : KindsOk ags) : ∀ {a b : List PP}, CanP ags a → CanP ags b → CanP ags (mergeP ags a b)
  | [], b, _, hb => by rw [mergeP]; exact hb
  | x :: xs, [], ha, _ => by rw [mergeP]; exact ha
  | x :: xs, y :: ys, ha, hb => by
    have a1 := ha x (List.mem_cons_self ..)
    have b1 := hb y (List.mem_cons_self ..)
    have a2 : CanP ags xs := fun q hq => ha q (List.mem_cons_of_mem _ hq)
    have b2 : CanP ags ys := fun q hq => hb q (List.mem_cons_of_mem _ hq)
    rcases ltK_cases x.key y.key with h1 | h1 | h1
    · rw [mergeP_lt h1]; intro p hp
      rcases List.mem_cons.1 hp with rfl | hp
      · exact a1
      · exact merge_can hk a2 hb p hp
    · rw [mergeP_eq h1]; intro p hp
      rcases List.mem_cons.1 hp with rfl | hp
      · exact joinL_can hk a1 b1
      · exact merge_can hk a2 b2 p hp
    · rw [mergeP_gt h1]; intro p hp
      rcases List.mem_cons.1 hp with rfl | hp
      · exact b1
      · exact merge_can hk ha b2 p hp
termination_by a b => a.length + b.length
theorem merge_assoc {ags : List AggD} {a b c : List PP} (ha : SrtK a) (hb : SrtK b) (hc : SrtK c) : mergeP ags (mergeP ags a b) c = mergeP ags a (mergeP ags b c) :=
  look_ext (merge_srt (merge_srt ha hb) hc) (merge_srt ha (merge_srt hb hc)) (fun k => by
    rw [look_merge k (merge_srt ha hb) hc, look_merge k ha hb, look_merge k ha (merge_srt hb hc), look_merge k hb hc, optJ_assoc])
theorem merge_comm {ags : List AggD} (hk : KindsOk ags) {a b : List PP} (ha : SrtK a) (hb : SrtK b) (ca : CanP ags a) (cb : CanP ags b) : mergeP ags a b = mergeP ags b a :=
  look_ext (merge_srt ha hb) (merge_srt hb ha) (fun k => by
    rw [look_merge k ha hb, look_merge k hb ha, optJ_comm hk (ca.look k) (cb.look k)])

/- partials of events -/
def oneP (ns : List ByteArray) (ags : List AggD) (e : Ev) : PP := ⟨keyOf_ ns e, ags.map (fun a => oneC a e)⟩
def collF (ns : List ByteArray) (ags : List AggD) (l : List Ev) : List PP := l.foldl (fun p e => mergeP ags p [oneP ns ags e]) []
theorem oneC_can {a : AggD} {e : Ev} (hk : 0 ≤ a.kind ∧ a.kind ≤ 4) (hw : I64 e.weight) (hn : ∀ n, numOf e a.field = some n → I64 n) : CanC a.kind (oneC a e) := by
  unfold CanC oneC
  by_cases h4 : a.kind = 4
  · rw [if_pos h4, if_neg (by omega), if_neg (by omega), if_pos h4]
    cases valOf e a.field with
    | none => exact ⟨rfl, rfl, List.Pairwise.nil⟩
    | some s => exact ⟨rfl, rfl, List.pairwise_singleton _ _⟩
  · rw [if_neg h4]
    have z : I64 0 := by unfold I64; omega
    split
    · exact ⟨rfl, (fun h => by cases h), hw⟩
    · split
      · cases h : numOf e a.field with
        | none => exact ⟨rfl, fun _ => rfl, z⟩
        | some n => exact ⟨rfl, (fun h => by cases h), wrap64_i64 _⟩
      · try rw [if_neg h4]
        cases h : numOf e a.field with
        | none => exact ⟨rfl, fun _ => rfl, z⟩
        | some n => exact ⟨rfl, (fun h => by cases h), hn n h⟩
/-- an event whose numbers fit -/
def EvA (ags : List AggD) (e : Ev) : Prop := I64 e.weight ∧ ∀ a ∈ ags, ∀ n, numOf e a.field = some n → I64 n
theorem oneP_can {ns : List ByteArray} {e : Ev} : ∀ {ags : List AggD}, KindsOk ags → EvA ags e → CanL ags (ags.map (fun a => oneC a e))
  | [], _, _ => trivial
  | a :: ags, hk, he => ⟨oneC_can hk.hd he.1 (he.2 a (List.mem_cons_self ..)), oneP_can (ns := ns) hk.tl ⟨he.1, fun b hb => he.2 b (List.mem_cons_of_mem _ hb)⟩⟩
theorem one_srt (p : PP) : SrtK [p] := List.pairwise_singleton _ _
theorem one_can {ns : List ByteArray} {ags : List AggD} {e : Ev} (hk : KindsOk ags) (he : EvA ags e) : CanP ags [oneP ns ags e] := by
  intro p hp
  rw [List.mem_singleton.1 hp]
  exact oneP_can (ns := ns) hk he
theorem collF_snoc (ns : List ByteArray) (ags : List AggD) (l : List Ev) (e : Ev) : collF ns ags (l ++ [e]) = mergeP ags (collF ns ags l) [oneP ns ags e] := by
  unfold collF; rw [List.foldl_append]; rfl
theorem collF_srt (ns : List ByteArray) (ags : List AggD) (l : List Ev) : SrtK (collF ns ags l) := by
  have key : ∀ (l : List Ev) (p : List PP), SrtK p → SrtK (l.foldl (fun p e => mergeP ags p [oneP ns ags e]) p) := by
    intro l
    induction l with
    | nil => intro p h; exact h
    | cons x xs ih => intro p h; exact ih _ (merge_srt h (one_srt _))
  exact key l [] List.Pairwise.nil
theorem collF_can {ns : List ByteArray} {ags : List AggD} {l : List Ev} (hk : KindsOk ags) (hl : ∀ e ∈ l, EvA ags e) : CanP ags (collF ns ags l) := by
  have key : ∀ (l : List Ev) (p : List PP), (∀ e ∈ l, EvA ags e) → CanP ags p → CanP ags (l.foldl (fun p e => mergeP ags p [oneP ns ags e]) p) := by
    intro l
    induction l with
    | nil => intro p _ h; exact h
    | cons x xs ih => intro p hl h; exact ih _ (fun e he => hl e (List.mem_cons_of_mem _ he)) (merge_can hk h (one_can hk (hl x (List.mem_cons_self ..))))
  exact key l [] hl (fun p hp => by cases hp)
theorem collF_one (ns : List ByteArray) (ags : List AggD) (e : Ev) : collF ns ags [e] = [oneP ns ags e] := by
  show mergeP ags [] _ = _
  rw [mergeP]
theorem collF_app (ns : List ByteArray) (ags : List AggD) (a b : List Ev) : mergeP ags (collF ns ags a) (collF ns ags b) = collF ns ags (a ++ b) := by
  have key : ∀ (b : List Ev) (q : List PP), SrtK q → mergeP ags (collF ns ags a) (b.foldl (fun p e => mergeP ags p [oneP ns ags e]) q) = b.foldl (fun p e => mergeP ags p [oneP ns ags e]) (mergeP ags (collF ns ags a) q) := by
    intro b
    induction b with
    | nil => intro q _; rfl
    | cons x xs ih =>
      intro q hq
      show mergeP ags _ (xs.foldl _ (mergeP ags q [oneP ns ags x])) = xs.foldl _ (mergeP ags (mergeP ags (collF ns ags a) q) [oneP ns ags x])
      rw [ih _ (merge_srt hq (one_srt _)), merge_assoc (collF_srt ..) hq (one_srt _)]
  have h := key b [] List.Pairwise.nil
  rw [mergeP_nil] at h
  show mergeP ags _ (b.foldl _ []) = _
  rw [h]
  unfold collF
  rw [List.foldl_append]
theorem collF_perm {ns : List ByteArray} {ags : List AggD} (hk : KindsOk ags) {a b : List Ev} (h : a.Perm b) : (∀ e ∈ a, EvA ags e) → collF ns ags a = collF ns ags b := by
  induction h with
  | nil => intro _; rfl
  | cons x h ih =>
    rename_i l1 l2
    intro hl
    have e1 := collF_app ns ags [x] l1
    have e2 := collF_app ns ags [x] l2
    rw [List.singleton_append] at e1 e2
    rw [← e1, ← e2, ih (fun e he => hl e (List.mem_cons_of_mem _ he))]
  | swap x y l =>
    intro hl
    have e1 := collF_app ns ags [y, x] l
    have e2 := collF_app ns ags [x, y] l
    have f1 := collF_app ns ags [y] [x]
    have f2 := collF_app ns ags [x] [y]
    have hx : EvA ags x := hl x (by simp)
    have hy : EvA ags y := hl y (by simp)
    have f3 := merge_comm hk (collF_srt ns ags [y]) (collF_srt ns ags [x]) (collF_can hk (by intro e he; rw [List.mem_singleton.1 he]; exact hy)) (collF_can hk (by intro e he; rw [List.mem_singleton.1 he]; exact hx))
    have f4 : collF ns ags [y, x] = collF ns ags [x, y] := by
      show collF ns ags ([y] ++ [x]) = collF ns ags ([x] ++ [y])
      rw [← f1, ← f2, f3]
    show collF ns ags ([y, x] ++ l) = collF ns ags ([x, y] ++ l)
    rw [← e1, ← e2, f4]
  | trans h1 h2 ih1 ih2 =>
    intro hl
    rw [ih1 hl, ih2 (fun e he => hl e (h1.mem_iff.2 he))]
end Go.Proofs.YtfkgcighooijhaaGreatDoor

namespace Go.Proofs.YtfkgcighooijhaaGreatDoor
open Go.RowKit
set_option linter.unusedVariables false
set_option linter.unusedSimpArgs false

/-- the cell that the reference's join makes -/
def rjC (k : Int) (x y : CD) : CD :=
  if k = 0 ∨ k = 1 then ⟨wrap64 (x.t + y.t), x.s || y.s, []⟩
  else if k = 2 then ⟨if x.s = false ∨ (y.s = true ∧ y.t < x.t) then y.t else x.t, x.s || y.s, []⟩
  else if k = 3 then ⟨if x.s = false ∨ (y.s = true ∧ x.t < y.t) then y.t else x.t, x.s || y.s, []⟩
  else ⟨(dist (x.v ++ y.v)).length, x.s || y.s, dist (x.v ++ y.v)⟩
theorem rjC_eq {k : Int} {x y : CD} (hk : 0 ≤ k ∧ k ≤ 4) (hx : CanC k x) (hy : CanC k y) : rjC k x y = joinC k x y := by
  obtain ⟨xt, xs, xv⟩ := x
  obtain ⟨yt, ys, yv⟩ := y
  have hc : k = 0 ∨ k = 1 ∨ k = 2 ∨ k = 3 ∨ k = 4 := by omega
  rcases hc with rfl | rfl | rfl | rfl | rfl
  all_goals simp [CanC, CanN, CanU] at hx hy
  · obtain ⟨h1, h2, h3⟩ := hx
    obtain ⟨g1, g2, g3⟩ := hy
    cases xs <;> cases ys <;> simp_all [rjC, joinC, chosenC, addW, wrap64_id]
  · obtain ⟨h1, h2, h3⟩ := hx
    obtain ⟨g1, g2, g3⟩ := hy
    cases xs <;> cases ys <;> simp_all [rjC, joinC, chosenC, addW, wrap64_id]
  · obtain ⟨h1, h2, h3⟩ := hx
    obtain ⟨g1, g2, g3⟩ := hy
    cases xs <;> cases ys <;> simp_all [rjC, joinC, chosenC, minI]
  · obtain ⟨h1, h2, h3⟩ := hx
    obtain ⟨g1, g2, g3⟩ := hy
    cases xs <;> cases ys <;> simp_all [rjC, joinC, chosenC, maxI]
  · obtain ⟨rfl, -⟩ := hx
    obtain ⟨rfl, -⟩ := hy
    simp [rjC, joinC, uniC]
/-- the cells that the reference's join makes -/
def rjL : List AggD → List CD → List CD → List CD
  | a :: ags, x :: xs, y :: ys => rjC a.kind x y :: rjL ags xs ys
  | _, _, _ => []
theorem rjL_at : ∀ {ags : List AggD} {xs ys : List CD} {k : Nat} {a : AggD} {x y : CD}, ags[k]? = some a → xs[k]? = some x → ys[k]? = some y → (rjL ags xs ys)[k]? = some (rjC a.kind x y)
  | [], _, _, _, _, _, _, h, _, _ => by simp at h
  | _ :: _, [], _, _, _, _, _, _, h, _ => by simp at h
  | _ :: _, _ :: _, [], _, _, _, _, _, _, h => by simp at h
  | a :: ags, x :: xs, y :: ys, 0, _, _, _, h1, h2, h3 => by
    simp at h1 h2 h3
    subst h1 h2 h3
    simp [rjL]
  | a :: ags, x :: xs, y :: ys, k + 1, _, _, _, h1, h2, h3 => by
    simp at h1 h2 h3
    simp only [rjL, List.getElem?_cons_succ]
    exact rjL_at h1 h2 h3
theorem rjL_len : ∀ {ags : List AggD} {xs ys : List CD}, xs.length = ags.length → ys.length = ags.length → (rjL ags xs ys).length = ags.length
  | [], _, _, _, _ => by simp [rjL]
  | _ :: _, [], _, h, _ => by simp at h
  | _ :: _, _ :: _, [], _, h => by simp at h
  | a :: ags, x :: xs, y :: ys, h1, h2 => by
    simp only [rjL, List.length_cons]
    rw [rjL_len (by simpa using h1) (by simpa using h2)]
theorem rjL_eq : ∀ {ags : List AggD} {xs ys : List CD}, KindsOk ags → CanL ags xs → CanL ags ys → rjL ags xs ys = joinL ags xs ys
  | [], _, _, _, _, _ => by simp [rjL, joinL]
  | _ :: _, [], _, _, h, _ => by simp [CanL] at h
  | _ :: _, _ :: _, [], _, _, h => by simp [CanL] at h
  | a :: ags, x :: xs, y :: ys, hk, hx, hy => by
    rw [rjL, joinL, rjC_eq hk.hd hx.1 hy.1, rjL_eq hk.tl hx.2 hy.2]
end Go.Proofs.YtfkgcighooijhaaGreatDoor

namespace Go.Proofs.YtfkgcighooijhaaGreatDoor
open Go.RowKit
set_option linter.unusedVariables false
set_option linter.unusedSimpArgs false

theorem Rd.flatAt {α : Type} {f : α → List Value} {z : Nat} (hf : ∀ x, (f x).length = z) {S : Nat → Prop} {w : World} {b off : Nat} {l : List α} (h : Rd S w (some ⟨b, off, none⟩) (l.flatMap f)) {i : Nat} {x : α} (hx : l[i]? = some x) (j : Nat) (hj : j < z) : w.cell? ⟨b, off + i * z + j, none⟩ = (f x)[j]? := by
  obtain ⟨hi, hxi⟩ := List.getElem?_eq_some_iff.1 hx
  rw [Nat.add_assoc]
  obtain ⟨b', off', e, _, _, hc⟩ := h (by rw [flat_len _ z hf]; exact Nat.mul_pos (by omega) (by omega))
  injection e with e
  injection e with e1 e2
  subst e1 e2
  have h1 := flat_at f z hf l i j hi hj
  rw [hxi] at h1
  have h2 : (f x)[j]? = some ((f x)[j]'(by rw [hf]; exact hj)) := List.getElem?_eq_getElem _
  rw [h2]
  exact hc _ _ (h1.trans h2)
end Go.Proofs.YtfkgcighooijhaaGreatDoor

namespace Go.Proofs.YtfkgcighooijhaaGreatDoor
open Go.RowKit
set_option linter.unusedVariables false
set_option linter.unusedSimpArgs false

/-- a slice of strings -/
structure StrR where
  l : List ByteArray
  a : Option Addr
  c : Nat
def StrR.val (x : StrR) : Value := .slice x.a x.l.length x.c
def StrR.In (S : Nat → Prop) (w : World) (x : StrR) : Prop := Rd S w x.a (x.l.map .string) ∧ x.l.length ≤ x.c ∧ x.c ≤ maxLen ∧ (x.a = none → x.l.length = 0)
/-- a cell of a group -/
structure CM where
  t : Int
  s : Bool
  v : StrR
def CM.pl (x : CM) : CD := ⟨x.t, x.s, x.v.l⟩
def CM.cells (x : CM) : List Value := [.int .i64 x.t, .bool x.s, x.v.val]
theorem CM.cells_len (x : CM) : x.cells.length = 3 := rfl
/-- a partial, with the places of its rows -/
structure PD where
  key : StrR
  cs : List CM
  ta : Option Addr
  tc : Nat
  sa : Option Addr
  sc : Nat
  va : Option Addr
  vc : Nat
def PD.cells (p : PD) : List Value := [p.key.val, .slice p.ta p.cs.length p.tc, .slice p.sa p.cs.length p.sc, .slice p.va p.cs.length p.vc]
theorem PD.cells_len (p : PD) : p.cells.length = 4 := rfl
def PD.pl (p : PD) : PP := ⟨p.key.l, p.cs.map CM.pl⟩
def tOf (cs : List CM) : List Value := cs.map (fun c => .int .i64 c.t)
def sOf (cs : List CM) : List Value := cs.map (fun c => .bool c.s)
def vOf (cs : List CM) : List Value := cs.map (fun c => c.v.val)
def PD.Sub (S : Nat → Prop) (w : World) (p : PD) : Prop :=
  p.key.In S w ∧ Rd S w p.ta (tOf p.cs) ∧ Rd S w p.sa (sOf p.cs) ∧ Rd S w p.va (vOf p.cs) ∧ (∀ c ∈ p.cs, c.v.In S w) ∧
    p.cs.length ≤ p.tc ∧ p.tc ≤ maxLen ∧ p.cs.length ≤ p.sc ∧ p.sc ≤ maxLen ∧ p.cs.length ≤ p.vc ∧ p.vc ≤ maxLen ∧ (p.ta = none → p.cs.length = 0) ∧ (p.sa = none → p.cs.length = 0)
def PDs (S : Nat → Prop) (w : World) (A : Option Addr) (ps : List PD) : Prop := Rd S w A (ps.flatMap PD.cells) ∧ ∀ p ∈ ps, p.Sub S w
section
variable {S S' : Nat → Prop} {w w' : World} {A : Option Addr} {row : Option Nat}
theorem StrR.In.grown {x : StrR} (h : x.In S w) (hg : w.grownBy w' row) (hr : ∀ b, S b → some b ≠ row) : x.In S w' := ⟨h.1.grown hg hr, h.2⟩
theorem StrR.In.mono {x : StrR} (h : x.In S w) (hS : ∀ b, S b → b < w.heap.size → S' b) : x.In S' w := ⟨h.1.mono hS, h.2⟩
theorem PD.Sub.grown {p : PD} (h : p.Sub S w) (hg : w.grownBy w' row) (hr : ∀ b, S b → some b ≠ row) : p.Sub S w' :=
  ⟨h.1.grown hg hr, h.2.1.grown hg hr, h.2.2.1.grown hg hr, h.2.2.2.1.grown hg hr, fun c hc => (h.2.2.2.2.1 c hc).grown hg hr, h.2.2.2.2.2⟩
theorem PD.Sub.mono {p : PD} (h : p.Sub S w) (hS : ∀ b, S b → b < w.heap.size → S' b) : p.Sub S' w :=
  ⟨h.1.mono hS, h.2.1.mono hS, h.2.2.1.mono hS, h.2.2.2.1.mono hS, fun c hc => (h.2.2.2.2.1 c hc).mono hS, h.2.2.2.2.2⟩
theorem PDs.grown {ps : List PD} (h : PDs S w A ps) (hg : w.grownBy w' row) (hr : ∀ b, S b → some b ≠ row) : PDs S w' A ps :=
  ⟨h.1.grown hg hr, fun p hp => (h.2 p hp).grown hg hr⟩
theorem PDs.mono {ps : List PD} (h : PDs S w A ps) (hS : ∀ b, S b → b < w.heap.size → S' b) : PDs S' w A ps :=
  ⟨h.1.mono hS, fun p hp => (h.2 p hp).mono hS⟩
theorem StrR.nil_in : (StrR.mk [] none 0).In S w := ⟨Rd.nil, Nat.le_refl _, Nat.zero_le _, fun _ => rfl⟩
end
theorem partInfo : (Tryz.prog.info? 69).map (fun i => (i.zero, i.size, i.bytes)) = some (some (.agg #[.slice none 0 0, .slice none 0 0, .slice none 0 0, .slice none 0 0]), 4, 96) := by kernel_rfl
theorem intInfo37 : (Tryz.prog.info? 3).map (fun i => (i.zero, i.size, i.bytes)) = some (some (.int .i64 0), 1, 8) := by kernel_rfl
theorem boolInfo37 : (Tryz.prog.info? 4).map (fun i => (i.zero, i.size, i.bytes)) = some (some (.bool false), 1, 1) := by kernel_rfl
theorem strsInfo37 : (Tryz.prog.info? 24).map (fun i => (i.zero, i.size, i.bytes)) = some (some (.slice none 0 0), 1, 24) := by kernel_rfl
theorem pd_one (p : PD) : ∀ u ∈ p.cells, u.oneCell' = true := by
  intro u hu
  simp only [PD.cells, StrR.val, List.mem_cons, List.not_mem_nil, or_false] at hu
  rcases hu with rfl | rfl | rfl | rfl <;> rfl
theorem pds_one (ps : List PD) : ∀ u ∈ ps.flatMap PD.cells, u.oneCell' = true := by
  intro u hu
  obtain ⟨p, -, hp⟩ := List.mem_flatMap.1 hu
  exact pd_one p u hp
theorem pd_in {S : Nat → Prop} {w : World} {A : Option Addr} {ps : List PD} (h : Rd S w A (ps.flatMap PD.cells)) {i : Nat} {y : PD} (hy : ps[i]? = some y) :
    ∃ b off, A = some ⟨b, off, none⟩ ∧ b < w.heap.size ∧ w.cell? ⟨b, off + i * 4, none⟩ = some (.slice y.key.a y.key.l.length y.key.c) ∧ w.cell? ⟨b, off + i * 4 + 1, none⟩ = some (.slice y.ta y.cs.length y.tc) ∧ w.cell? ⟨b, off + i * 4 + 2, none⟩ = some (.slice y.sa y.cs.length y.sc) ∧ w.cell? ⟨b, off + i * 4 + 3, none⟩ = some (.slice y.va y.cs.length y.vc) := by
  obtain ⟨hi, hyi⟩ := List.getElem?_eq_some_iff.1 hy
  obtain ⟨b, off, rfl, _, hlt, hc⟩ := h (by rw [flat_len _ 4 PD.cells_len]; omega)
  have key : ∀ j, j < 4 → w.cell? ⟨b, off + i * 4 + j, none⟩ = y.cells[j]? := by
    intro j hj
    have h1 := flat_at PD.cells 4 PD.cells_len ps i j hi hj
    rw [hyi] at h1
    have hlt : j < y.cells.length := by rw [PD.cells_len]; exact hj
    rw [List.getElem?_eq_getElem hlt] at h1 ⊢
    rw [Nat.add_assoc]
    exact hc _ _ h1
  exact ⟨b, off, rfl, hlt, key 0 (by omega), key 1 (by omega), key 2 (by omega), key 3 (by omega)⟩
theorem agg_in {S : Nat → Prop} {w : World} {A : Option Addr} {ps : List AggD} (h : Rd S w A (ps.flatMap AggD.cells)) {i : Nat} {y : AggD} (hy : ps[i]? = some y) :
    ∃ b off, A = some ⟨b, off, none⟩ ∧ b < w.heap.size ∧ w.cell? ⟨b, off + i * 2, none⟩ = some (.int .i64 y.kind) ∧ w.cell? ⟨b, off + i * 2 + 1, none⟩ = some (.string y.field) := by
  obtain ⟨hi, hyi⟩ := List.getElem?_eq_some_iff.1 hy
  obtain ⟨b, off, rfl, _, hlt, hc⟩ := h (by rw [flat_len _ 2 AggD.cells_len]; omega)
  have key : ∀ j, j < 2 → w.cell? ⟨b, off + i * 2 + j, none⟩ = y.cells[j]? := by
    intro j hj
    have h1 := flat_at AggD.cells 2 AggD.cells_len ps i j hi hj
    rw [hyi] at h1
    have hlt : j < y.cells.length := by rw [AggD.cells_len]; exact hj
    rw [List.getElem?_eq_getElem hlt] at h1 ⊢
    rw [Nat.add_assoc]
    exact hc _ _ h1
  exact ⟨b, off, rfl, hlt, key 0 (by omega), key 1 (by omega)⟩
/-- a cell as a call gives it back: its values lie in new blocks -/
def CellP (w : World) (z : CD) (e : Ending) (w' : World) : Prop := ∃ x : CM, e = .returned (.agg #[.int .i64 x.t, .bool x.s, .slice x.v.a x.v.l.length x.v.c]) ∧ x.pl = z ∧ x.v.In (w.heap.size ≤ ·) w' ∧ w.grownBy w' none
theorem only_setN {a w : World} (h : a.grownBy w none) {p : Addr} (hp : a.heap.size ≤ p.block) (u : Value) : a.grownBy (w.setCell p u) none :=
  ⟨h.os, h.tape, h.output, by simpa [World.setCell] using h.size, fun i hi hne => (Below.heap_setCell w p u i (by omega)).trans (h.block i hi hne)⟩
def set3 (w : World) (b : Nat) (x y z : Value) : World := ((w.setCell ⟨b, 0, none⟩ x).setCell ⟨b, 1, none⟩ y).setCell ⟨b, 2, none⟩ z
theorem set3_blk {w : World} {b t : Nat} {v0 v1 v2 x y z : Value} (h : Blk w b t #[v0, v1, v2]) : Blk (set3 w b x y z) b t #[x, y, z] := by
  simpa [set3] using ((h.set_ 0 x).set_ 1 y).set_ 2 z
theorem set3_grown {a w : World} {b : Nat} {x y z : Value} (h : a.grownBy w none) (hb : a.heap.size ≤ b) : a.grownBy (set3 w b x y z) none :=
  only_setN (only_setN (only_setN h (p := ⟨b, 0, none⟩) hb x) (p := ⟨b, 1, none⟩) hb y) (p := ⟨b, 2, none⟩) hb z
/-- the same, its values anywhere in S -/
def CellS (S : Nat → Prop) (w : World) (z : CD) (e : Ending) (w' : World) : Prop := ∃ x : CM, e = .returned (.agg #[.int .i64 x.t, .bool x.s, .slice x.v.a x.v.l.length x.v.c]) ∧ x.pl = z ∧ x.v.In S w' ∧ w.grownBy w' none
theorem rd_none {S : Nat → Prop} {w : World} {xs : List Value} (h : Rd S w none xs) : xs.length = 0 := by
  rcases Nat.eq_zero_or_pos xs.length with h0 | h0
  · exact h0
  · obtain ⟨b, o, e, _⟩ := h h0; cases e
theorem strR_of {S : Nat → Prop} {w : World} {l : List ByteArray} {A : Option Addr} {c : Nat} (h : Rd S w A (l.map .string)) (h1 : l.length ≤ c) (h2 : c ≤ maxLen) : (StrR.mk l A c).In S w :=
  ⟨h, h1, h2, fun e => by have e' : A = none := e; rw [e'] at h; simpa using rd_none h⟩
theorem set3_size {w : World} {b : Nat} {x y z : Value} : (set3 w b x y z).heap.size = w.heap.size := by simp [set3, World.setCell]
theorem rd_lit1 {w : World} {b t : Nat} {u : Value} {S : Nat → Prop} (h : Blk w b t #[u]) (hS : S b) : Rd S w (some ⟨b, 0, none⟩) [u] := fun _ => ⟨b, 0, rfl, hS, h.lt, fun j v hv => by
  rw [Nat.zero_add, h.cell j]
  simpa using hv⟩
theorem set3_only {w : World} {b : Nat} {x y z : Value} : w.grownBy (set3 w b x y z) (some b) :=
  only_setCell (only_setCell (only_setCell (only_refl w (some b)) (p := ⟨b, 0, none⟩) (.inl rfl) x) (p := ⟨b, 1, none⟩) (.inl rfl) y) (p := ⟨b, 2, none⟩) (.inl rfl) z
end Go.Proofs.YtfkgcighooijhaaGreatDoor

namespace Go.Proofs.YtfkgcighooijhaaGreatDoor
open Go.RowKit
set_option linter.unusedVariables false
set_option linter.unusedSimpArgs false

def EmptySt (w : World) (e : Ending) (w' : World) : Prop := ∃ v, e = .returned v ∧ w'.ownsRow w.heap.size 9 1 v 0 [] ∧ w.grownBy w' none
set_option maxHeartbeats 2000000 in
set_option maxRecDepth 100000 in
theorem growSt (n : Nat) (w : World) (hn : n ≤ 1000000) : Calls Tryz.prog 99 #[.slice none 0 0, .int .i64 n] w (EmptySt w) := by
  by_cases h0 : n = 0
  · subst h0
    go_enter Tryz.func99, Tryz.ntmps99
    go_wp2_with fail
    go_ret
    exact ⟨_, rfl, World.ownsRow_nil _ _ _ _, only_refl _ _⟩
  · obtain ⟨i0, hi0, hz0, hz1, hz2⟩ := info_parts strInfo
    obtain ⟨G, hG⟩ : ∃ G, G = grownCap w n 0 9 := ⟨_, rfl⟩
    have hGn : n ≤ G := by rw [hG]; exact grownCap_ge w _ _ _
    have hGm : G ≤ maxLen := by rw [hG]; exact grownCap_le_maxLen w _ _ _ (by unfold maxLen; omega)
    obtain ⟨ROW, hROW⟩ : ∃ ROW : Array Value, ROW = Builtin.zeroCells (.string ⟨#[]⟩ : Value).cells n ++ Builtin.zeroCells (.string ⟨#[]⟩ : Value).cells (G - n) := ⟨_, rfl⟩
    have hRl : ROW.size = G * 1 := by
      rw [hROW]
      simp [Builtin.zeroCells, Value.cells]
      omega
    obtain ⟨W1, hW1⟩ : ∃ W1, W1 = w.drew.alloc (.cells ROW 9) := ⟨_, rfl⟩
    obtain ⟨g1, hg1⟩ : ∃ g1, g1 = w.heap.size := ⟨_, rfl⟩
    have hr : ∀ ty, (Builtin.append_ #[24, 3] ty #[.slice none 0 0, .int .i64 n]).run Tryz.prog w = .ok (.slice (some ⟨g1, 0, none⟩) n G) W1 := fun ty => by
      have := Lib.run_append_nil_zeros w 24 3 ty 9 i0 (.string ⟨#[]⟩) .i64 .i64 Tryz.underlying24 Tryz.underlying3 hi0 hz0 n (by omega) (by rw [hz1]; decide) (by omega) (by rw [hz2]; omega)
      rw [← hG] at this
      rw [hW1, hROW, hg1]; exact this
    have HF : Hid (EmptySt w (.returned (.slice (some ⟨g1, 0, none⟩) 0 G)) W1) := Lib.hid (by
      refine ⟨_, rfl, ?_, ?_⟩
      · rw [hW1, hg1]
        have := World.ownsRow_made w.drew (base := w.heap.size) (e := 9) ROW G (Nat.le_refl _) hGm hRl
        exact this
      · rw [hW1]; exact only_alloc (only_drew (only_refl _ _)) _)
    have j0 : (0 : Int) < (n : Int) := by omega
    have j1 : (0 : Int) ≤ (n : Int) := by omega
    have hw0 : IntKind.i64.wrap (n : Int) = (n : Int) := IntWalk.i64_in _ (by omega)
    have j2 : ¬ ((n : Int) < 0) := by omega
    clear hW1 hg1 hG hROW hRl hi0 hz0 hz1 hz2 hGm h0
    go_enter Tryz.func99, Tryz.ntmps99
    go_wp2_with (at_builtin; refine Lib.wpList_append_run _ rfl _ _ _ _ rfl _ _ rfl rfl _ _ (hr _) ?_)
    go_ret
    exact HF.out
/-- a row at hand -/
structure RwSt where
  A : Option Addr
  n : Nat
  l : List Value
  c : Nat
def RwSt.v (r : RwSt) : Value := .slice r.A r.n r.c
def catSt (rs : List RwSt) : List Value := rs.flatMap (·.l)
def numSt (rs : List RwSt) : Nat := (rs.map (·.n)).sum
theorem catSt_snoc (rs : List RwSt) (r : RwSt) : catSt (rs ++ [r]) = catSt rs ++ r.l := by unfold catSt; rw [List.flatMap_append]; simp
theorem numSt_snoc (rs : List RwSt) (r : RwSt) : numSt (rs ++ [r]) = numSt rs + r.n := by unfold numSt; simp
theorem numSt_le {rs : List RwSt} {m : Nat} (h : ∀ r ∈ rs, r.n ≤ m) : numSt rs ≤ rs.length * m := by
  unfold numSt
  induction rs with
  | nil => simp
  | cons a t ih =>
    have h1 := h a List.mem_cons_self
    have h2 := ih (fun r hr => h r (List.mem_cons_of_mem _ hr))
    rw [List.map_cons, List.sum_cons, List.length_cons, Nat.add_mul]; omega
def CatStPost (w : World) (n : Nat) (xs : List Value) (e : Ending) (w' : World) : Prop := ∃ v, e = .returned v ∧ w'.ownsRow w.heap.size 9 1 v n xs ∧ w.grownBy w' none
set_option maxHeartbeats 4000000 in
set_option maxRecDepth 100000 in
theorem concatSt_any {S : Nat → Prop} (vb : Nat) (rs : List RwSt) (w : World) (hB : Blk w vb 24 (rs.map RwSt.v).toArray) (hr : ∀ r ∈ rs, Rd S w r.A r.l) (hz : ∀ r ∈ rs, r.l.length = r.n * 1) (h1 : ∀ r ∈ rs, ∀ u ∈ r.l, u.oneCell' = true) (hn : rs.length ≤ 10) (hl : ∀ r ∈ rs, r.n ≤ 100000) :
    Calls Tryz.prog 91 #[.slice (some ⟨vb, 0, none⟩) rs.length rs.length] w (CatStPost w (numSt rs) (catSt rs)) := by
  have HB := Lib.hid hB
  have HR := Lib.hid hr
  have HL := Lib.hid hl
  have HZ := Lib.hid hz
  have H1 := Lib.hid h1
  clear hB hr hl hz h1
  go_enter Tryz.func91, Tryz.ntmps91
  go_wp2_with fail
  go_loop [3, 11] (fun n i => ∃ k : Nat, k ≤ rs.length ∧ i = .int .i64 k ∧ n = .int .i64 (numSt (rs.take k) : Nat)) (fun _ i => rs.length - (intOf i).toNat)
  case atStart => exact ⟨0, Nat.zero_le _, rfl, rfl⟩
  case round =>
    obtain ⟨k, hk, rfl, rfl⟩ := hrel
    have hcl : numSt (rs.take k) ≤ 1000000 := by
      have := numSt_le (rs := rs.take k) (m := 100000) (fun r hr => HL.out r (List.mem_of_mem_take hr))
      rw [List.length_take] at this
      have h2 : min k rs.length * 100000 ≤ 10 * 100000 := Nat.mul_le_mul_right _ (by omega)
      omega
    obtain ⟨n, hn0⟩ : ∃ n, n = numSt (rs.take k) := ⟨_, rfl⟩
    rw [← hn0] at hcl ⊢
    have HN := Lib.hid hn0
    clear hn0
    by_cases hlt : k < rs.length
    · obtain ⟨r, hrk⟩ : ∃ r, rs[k]? = some r := ⟨_, List.getElem?_eq_getElem hlt⟩
      have c0 := HB.out.cell k
      have hrk2 : (rs.map RwSt.v).toArray[k]? = some (.slice r.A r.n r.c) := by simp [hrk, RwSt.v]
      rw [hrk2] at c0
      have hrl := HL.out r (List.mem_of_getElem? hrk)
      have HT : Hid (numSt (rs.take (k + 1)) = n + r.n) := Lib.hid (by
        have e : rs.take (k + 1) = rs.take k ++ [r] := by
          rw [List.take_succ_eq_append_getElem hlt]
          rw [List.getElem?_eq_getElem hlt] at hrk
          injection hrk with hrk
          rw [hrk]
        rw [e, numSt_snoc, HN.out])
      have i1 : (k : Int) < (rs.length : Int) := by omega
      have i2 : ¬ ((n : Int) + (r.n : Int) < 0) := by omega
      have hw0 : IntKind.i64.wrap ((n : Int) + (r.n : Int)) = (n : Int) + (r.n : Int) := IntWalk.i64_in _ (by omega)
      clear hrk hrk2
      go_wp2_with fail
      go_round
      case rel => exact ⟨k + 1, by omega, by go_num, by rw [HT.out]; push_cast; rfl⟩
      case measure => simp [intOf]; omega
    · have HE : Hid (rs.take k = rs) := Lib.hid (List.take_of_length_le (by omega))
      have KG := Lib.hid (growSt n w (by omega))
      go_wp2_with fail
      refine KG.out.mono ?_
      rintro e w1 ⟨v1, rfl, ho1, hg1⟩
      have O1 := Lib.hid ho1
      have G1 := Lib.hid hg1
      clear ho1 hg1 KG
      go_wp2_with fail
      go_loopw [6, 27] (fun v i wr => ∃ k : Nat, k ≤ rs.length ∧ i = .int .i64 k ∧ wr.ownsRow w.heap.size 9 1 v (numSt (rs.take k)) (catSt (rs.take k)) ∧ w.grownBy wr none) (fun _ i _ => rs.length - (intOf i).toNat)
      case atStart => exact ⟨0, Nat.zero_le _, rfl, O1.out, G1.out⟩
      case round =>
        clear O1 G1
        obtain ⟨k, hk, rfl, hO, hG⟩ := hrel
        have O := Lib.hid hO
        have G := Lib.hid hG
        have hsz := hG.size
        clear hO hG
        have hcl2 : numSt (rs.take k) ≤ 1000000 := by
          have := numSt_le (rs := rs.take k) (m := 100000) (fun r hr => HL.out r (List.mem_of_mem_take hr))
          rw [List.length_take] at this
          have h2 : min k rs.length * 100000 ≤ 10 * 100000 := Nat.mul_le_mul_right _ (by omega)
          omega
        by_cases hlt : k < rs.length
        · obtain ⟨r, hrk⟩ : ∃ r, rs[k]? = some r := ⟨_, List.getElem?_eq_getElem hlt⟩
          have c0 := (HB.out.grown G.out (by simp)).cell k
          have hrk2 : (rs.map RwSt.v).toArray[k]? = some (.slice r.A r.n r.c) := by simp [hrk, RwSt.v]
          rw [hrk2] at c0
          have hrl := HL.out r (List.mem_of_getElem? hrk)
          have RR := Lib.hid ((HR.out r (List.mem_of_getElem? hrk)).grown G.out (by simp))
          have RZ := Lib.hid (HZ.out r (List.mem_of_getElem? hrk))
          have R1 := Lib.hid (H1.out r (List.mem_of_getElem? hrk))
          have HT : Hid (catSt (rs.take (k + 1)) = catSt (rs.take k) ++ r.l ∧ numSt (rs.take (k + 1)) = numSt (rs.take k) + r.n) := Lib.hid (by
            have e : rs.take (k + 1) = rs.take k ++ [r] := by
              rw [List.take_succ_eq_append_getElem hlt]
              rw [List.getElem?_eq_getElem hlt] at hrk
              injection hrk with hrk
              rw [hrk]
            exact ⟨by rw [e, catSt_snoc], by rw [e, numSt_snoc]⟩)
          have i1 : (k : Int) < (rs.length : Int) := by omega
          obtain ⟨L, hL⟩ : ∃ L, L = catSt (rs.take k) := ⟨_, rfl⟩
          obtain ⟨M, hM⟩ : ∃ M, M = numSt (rs.take k) := ⟨_, rfl⟩
          have O2 : Hid (wr.ownsRow w.heap.size 9 1 u6 M L) := Lib.hid (by rw [hL, hM]; exact O.out)
          rw [← hM] at hcl2
          rw [← hL, ← hM] at HT
          clear hrk hrk2 hL hM O
          go_wp2_with (at_builtin; refine wpList_appendN rfl _ _ 24 rfl w.heap.size Tryz.underlying24 strInfo rfl (by decide) (v := _) (by rfl) O2.out r.A r.n r.c (news := r.l) (by rfl) RR.out RZ.out R1.out (by decide) (by omega) (by omega) ?_; intro v7 w7 hown7 hg7 hob7)
          have O7 : Hid (w7.ownsRow w.heap.size 9 1 v7 (numSt (rs.take (k + 1))) (catSt (rs.take (k + 1)))) := Lib.hid (by rw [HT.out.1, HT.out.2]; exact hown7)
          have G7 : Hid (w.grownBy w7 none) := Lib.hid (only_own G.out hg7 O2.out (Nat.le_refl _))
          clear hown7 hg7 hob7 c0
          go_wp2_with fail
          go_roundw
          case rel => exact ⟨k + 1, by omega, by go_num, O7.out, G7.out⟩
          case measure => simp [intOf]; omega
        · have HE2 : Hid (rs.take k = rs) := Lib.hid (List.take_of_length_le (by omega))
          go_wp2_with fail
          go_ret
          have := O.out
          rw [HE2.out] at this
          exact ⟨_, rfl, this, G.out⟩
end Go.Proofs.YtfkgcighooijhaaGreatDoor

namespace Go.Proofs.YtfkgcighooijhaaGreatDoor
open Go.RowKit
set_option linter.unusedVariables false
set_option linter.unusedSimpArgs false

def DistPost (w : World) (ws : List ByteArray) (e : Ending) (w' : World) : Prop :=
  ∃ (A : Option Addr) (c : Nat) (ds : List ByteArray), e = .returned (.slice A ds.length c) ∧ ds.length ≤ c ∧ c ≤ maxLen ∧ Srt ds ∧ (∀ s, s ∈ ds ↔ s ∈ ws) ∧ ds.length ≤ ws.length ∧ Rd (w.heap.size ≤ ·) w' A (ds.map .string) ∧ w.grownBy w' none

/-- the same, and the row is the call's own -/
def DistOwn (w : World) (ws : List ByteArray) (e : Ending) (w' : World) : Prop :=
  ∃ (A : Option Addr) (c : Nat) (ds : List ByteArray), e = .returned (.slice A ds.length c) ∧ ds.length ≤ c ∧ c ≤ maxLen ∧ Srt ds ∧ (∀ s, s ∈ ds ↔ s ∈ ws) ∧ ds.length ≤ ws.length ∧ w'.ownsRow w.heap.size 9 1 (.slice A ds.length c) ds.length (ds.map .string) ∧ w.grownBy w' none
theorem DistOwn.post {w w' : World} {ws : List ByteArray} {e : Ending} (h : DistOwn w ws e w') : DistPost w ws e w' := by
  obtain ⟨A, c, ds, h1, h2, h3, h4, h5, h6, h7, h8⟩ := h
  exact ⟨A, c, ds, h1, h2, h3, h4, h5, h6, rd_own h7 (by decide), h8⟩
set_option maxHeartbeats 1000000 in
set_option maxRecDepth 100000 in
theorem distinct_own_any (k : Nat) : ∀ (A : Option Addr) (ws : List ByteArray) (n c : Nat) (w : World), n ≤ k → ws.length = n → Rd (fun _ => True) w A (ws.map .string) → n ≤ 1000000 → n ≤ c → c ≤ maxLen →
    Calls Tryz.prog 55 #[.slice A n c] w (DistOwn w ws) := by
  induction k with
  | zero =>
    intro A ws n c w hk hn h hl hc hcm
    obtain rfl : n = 0 := by omega
    obtain rfl : ws = [] := List.eq_nil_of_length_eq_zero hn
    clear h
    go_enter Tryz.func55, Tryz.ntmps55
    go_wp2_with (at_builtin; refine wpList_appendN rfl _ _ 24 rfl w.heap.size Tryz.underlying24 strInfo rfl (by decide) (v := .slice none 0 0) (by rfl) (World.ownsRow_nil _ _ _ _) A 0 c (by rfl) (Rd.nil (S := fun _ => True)) (by simp) (by simp) (by decide) (by omega) (Nat.le_refl _) ?_; intro v5 w5 hown5 hg5 hob5)
    obtain ⟨A5, c5, rfl, hc5, hm5, -, hr5⟩ := Rd.of_own hown5 (by decide)
    go_ret
    exact ⟨A5, c5, [], by simp, by simp, hm5, List.Pairwise.nil, by simp, by simp, by simpa using hown5, by simpa [Value.ownBlock] using hg5⟩
  | succ k ih =>
    intro A ws n c w hk hn h hl hc hcm
    have H := Lib.hid h
    have HN := Lib.hid hn
    have IH := Lib.hid ih
    unfold maxLen at hcm
    clear h ih hn
    by_cases h2 : n < 2
    · go_enter Tryz.func55, Tryz.ntmps55
      go_wp2_with (at_builtin; refine wpList_appendN rfl _ _ 24 rfl w.heap.size Tryz.underlying24 strInfo rfl (by decide) (v := .slice none 0 0) (by rfl) (World.ownsRow_nil _ _ _ _) A n c (by rfl) H.out (by have := HN.out; simp; omega) (by simp [Value.oneCell']) (by decide) (by omega) (Nat.le_refl _) ?_; intro v5 w5 hown5 hg5 hob5)
      obtain ⟨A5, c5, rfl, hc5, hm5, -, hr5⟩ := Rd.of_own hown5 (by decide)
      have HR5 := Lib.hid hown5
      clear hown5 hob5 hr5
      go_ret
      have e := HN.out
      refine ⟨A5, c5, ws, by rw [e]; simp, by rw [e]; omega, hm5, ?_, fun _ => Iff.rfl, Nat.le_refl _, by rw [e]; simpa using HR5.out, by simpa [Value.ownBlock] using hg5⟩
      match ws, e with
      | [], _ => exact List.Pairwise.nil
      | [x], _ => exact List.pairwise_singleton _ _
      | x :: y :: l, e => exfalso; simp at e; omega
    · have h0 : (0 : Int) ≤ (n : Int) / 2 := by omega
      have h1 : (n : Int) / 2 ≤ (n : Int) := by omega
      have hd2 : decide ((n : Int) < 2) = false := by simp; omega
      go_enter Tryz.func55, Tryz.ntmps55
      go_wp2_with fail
      have HT : Hid (Rd (fun _ => True) w A ((ws.take (n / 2)).map .string)) := by
        have := H.out.take (n / 2)
        rwa [← List.map_take] at this
      have HD : Hid (Rd (fun _ => True) w (Option.map (fun x => x.add (n / 2)) A) ((ws.drop (n / 2)).map .string)) := by
        have := H.out.drop (n / 2)
        rwa [← List.map_drop] at this
      go_region_with (first
        | (have tk := HR6; go_at_call 75; go_must (refine (union_own A5 A6 d5 d6 c5 c6 _ (S := fun _ => True) (by exact ((rd_own HR5.out (by decide)).grown hg6 (by simp)).mono (fun _ _ _ => trivial)) (by exact (rd_own HR6.out (by decide)).mono (fun _ _ _ => trivial)) (by have := HN.out; simp at hl5; omega) (by have := HN.out; simp at hl6; omega)).mono ?_); rintro e w7 ⟨A7, c7, x7, y7, rfl, hc7, hm7, hr7, hg7⟩)
        | (have tk := HR5; go_at_call 55; go_must (refine (IH.out (Option.map (fun x => x.add (n / 2)) A) (ws.drop (n / 2)) (n - n / 2) (c - n / 2) _ (by omega) (by have := HN.out; simp; omega) (by exact (HD.out.drewN 1).grown hg5 (by simp)) (by omega) (by omega) (by unfold maxLen; omega)).mono ?_); rintro e w6 ⟨A6, c6, d6, rfl, hc6, hm6, hs6, he6, hl6, hr6, hg6⟩; have HR6 := Lib.hid hr6; have HE6 := Lib.hid he6; clear hr6 he6 tk)
        | (go_at_call 55; go_must (refine (IH.out A (ws.take (n / 2)) (n / 2) c _ (by omega) (by have := HN.out; simp; omega) (by exact HT.out.drewN 1) (by omega) (by omega) (by unfold maxLen; omega)).mono ?_); rintro e w5 ⟨A5, c5, d5, rfl, hc5, hm5, hs5, he5, hl5, hr5, hg5⟩; have HR5 := Lib.hid hr5; have HE5 := Lib.hid he5; clear hr5 he5))
      have HR7 := Lib.hid hr7
      clear hr7
      go_wp2_with fail
      go_ret
      refine ⟨A7, c7, un d5 d6, rfl, hc7, hm7, un_srt _ _ hs5 hs6, fun s => ?_, ?_, own_dn HR7.out ?_, only_trans (only_trans (only_trans (only_drew (only_refl _ _)) hg5) hg6) hg7⟩
      · rw [un_mem, HE5.out, HE6.out]
        constructor
        · rintro (h | h)
          · exact List.mem_of_mem_take h
          · exact List.mem_of_mem_drop h
        · intro h
          rw [← List.take_append_drop (n / 2) ws] at h
          exact List.mem_append.1 h
      · have := un_len d5 d6
        have := HN.out
        simp at hl5 hl6
        omega
      · have h5 := hg5.size
        have h6 := hg6.size
        have h8 : w.drew.heap.size = w.heap.size := rfl
        omega
theorem distinct_any (k : Nat) (A : Option Addr) (ws : List ByteArray) (n c : Nat) (w : World) (h1 : n ≤ k) (h2 : ws.length = n) (h3 : Rd (fun _ => True) w A (ws.map .string)) (h4 : n ≤ 1000000) (h5 : n ≤ c) (h6 : c ≤ maxLen) :
    Calls Tryz.prog 55 #[.slice A n c] w (DistPost w ws) := (distinct_own_any k A ws n c w h1 h2 h3 h4 h5 h6).mono fun _ _ h => h.post
theorem distinct_post {S : Nat → Prop} (A : Option Addr) (ws : List ByteArray) (c : Nat) (w : World) (h : Rd S w A (ws.map .string)) (hl : ws.length ≤ 1000000) (hc : ws.length ≤ c) (hm : c ≤ maxLen) :
    Calls Tryz.prog 55 #[.slice A ws.length c] w (DistPost w ws) :=
  distinct_any ws.length A ws ws.length c w (Nat.le_refl _) rfl (h.mono (fun _ _ _ => trivial)) hl hc hm
theorem distinct_own {S : Nat → Prop} (A : Option Addr) (ws : List ByteArray) (c : Nat) (w : World) (h : Rd S w A (ws.map .string)) (hl : ws.length ≤ 1000000) (hc : ws.length ≤ c) (hm : c ≤ maxLen) :
    Calls Tryz.prog 55 #[.slice A ws.length c] w (DistOwn w ws) :=
  distinct_own_any ws.length A ws ws.length c w (Nat.le_refl _) rfl (h.mono (fun _ _ _ => trivial)) hl hc hm
end Go.Proofs.YtfkgcighooijhaaGreatDoor
