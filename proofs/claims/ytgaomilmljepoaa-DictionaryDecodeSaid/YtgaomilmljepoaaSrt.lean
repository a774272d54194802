/- Ascending lists of strings: they are told by their members. No condition. -/
import Derived.Test.YtgaomilmljepoaaUnion
import Derived.Test.YtgaomilmljepoaaCheck
namespace Go.Proofs.Ytgaomilmljepoaa
open Go.RowKit
set_option linter.unusedVariables false
set_option linter.unusedSimpArgs false

theorem srt_ext : ∀ {xs ys : List ByteArray}, Srt xs → Srt ys → (∀ s, s ∈ xs ↔ s ∈ ys) → xs = ys
  | [], [], _, _, _ => rfl
  | [], y :: ys, _, _, h => absurd ((h y).2 (List.mem_cons_self ..)) (by simp)
  | x :: xs, [], _, _, h => absurd ((h x).1 (List.mem_cons_self ..)) (by simp)
  | x :: xs, y :: ys, hx, hy, h => by
    unfold Srt at hx hy
    rw [List.pairwise_cons] at hx hy
    have hxy : x = y := by
      rcases List.mem_cons.1 ((h x).1 (List.mem_cons_self ..)) with e | e
      · exact e
      · rcases List.mem_cons.1 ((h y).2 (List.mem_cons_self ..)) with e' | e'
        · exact e'.symm
        · have h1 := hy.1 x e
          have h2 := hx.1 y e'
          rw [sl_asymm h1] at h2
          cases h2
    subst hxy
    rw [srt_ext hx.2 hy.2 (fun s => ?_)]
    constructor
    · intro hs
      rcases List.mem_cons.1 ((h s).1 (List.mem_cons_of_mem _ hs)) with e | e
      · subst e; have := hx.1 s hs; rw [sl_irrefl] at this; cases this
      · exact e
    · intro hs
      rcases List.mem_cons.1 ((h s).2 (List.mem_cons_of_mem _ hs)) with e | e
      · subst e; have := hy.1 s hs; rw [sl_irrefl] at this; cases this
      · exact e
theorem un_comm {a b : List ByteArray} (ha : Srt a) (hb : Srt b) : un b a = un a b :=
  srt_ext (un_srt _ _ hb ha) (un_srt _ _ ha hb) (fun s => by rw [un_mem, un_mem]; exact or_comm)
theorem un_self {a : List ByteArray} (ha : Srt a) : un a a = a :=
  srt_ext (un_srt _ _ ha ha) ha (fun s => by rw [un_mem]; simp)
theorem srt_inj {ds : List ByteArray} (h : Srt ds) {i j : Nat} {x : ByteArray} (hx : ds[i]? = some x) (hy : ds[j]? = some x) : i = j := by
  have key : ∀ {i j : Nat}, ds[i]? = some x → ds[j]? = some x → i < j → False := fun {i j} h1 h2 hij => by
    obtain ⟨hi, e1⟩ := List.getElem?_eq_some_iff.1 h1
    obtain ⟨hj, e2⟩ := List.getElem?_eq_some_iff.1 h2
    have := List.pairwise_iff_getElem.1 h i j hi hj hij
    rw [e1, e2, sl_irrefl] at this
    cases this
  rcases Nat.lt_trichotomy i j with h1 | h1 | h1
  · exact (key hx hy h1).elim
  · exact h1
  · exact (key hy hx h1).elim
theorem srt_asc {ds : List ByteArray} (h : Srt ds) : Asc ds := fun i x y hx hy => by
  obtain ⟨hi, e1⟩ := List.getElem?_eq_some_iff.1 hx
  obtain ⟨hj, e2⟩ := List.getElem?_eq_some_iff.1 hy
  rw [← e1, ← e2]
  exact List.pairwise_iff_getElem.1 h i (i + 1) hi hj (by omega)
theorem chk_ok {ds : List ByteArray} (h : Srt ds) (hl : ds.length ≤ 32768) (hs : ∀ s ∈ ds, s.size ≤ 2048) : chk ds = 0 := by
  unfold chk
  rw [if_neg (by omega), if_neg (fun ⟨x, hx, h2⟩ => by have := hs x hx; omega), if_pos (srt_asc h)]

end Go.Proofs.Ytgaomilmljepoaa
