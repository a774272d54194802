/- The indexes of names and of words of package segment: maps of rows. Conditions: sizes. -/
import Derived.Test.YtpaiideboodaeaaGreatDoorJMapS
import Derived.Test.YtpaiideboodaeaaGreatDoorJFlat
import Derived.Test.YtpaiideboodaeaaGreatDoorJSortS
import Derived.Test.YtpaiideboodaeaaGreatDoorJFiles
import Derived.Test.YtpaiideboodaeaaGreatDoorJLin27
import Derived.Test.YtpaiideboodaeaaGreatDoorJIdxP
import Derived.Test.YtpaiideboodaeaaGreatDoorJSegI
import Derived.Test.YtpaiideboodaeaaGreatDoorJSegG
import Derived.Test.YtpaiideboodaeaaGreatDoorJPosH
import Derived.Test.YtpaiideboodaeaaGreatDoorJEncB
import Derived.Test.YtpaiideboodaeaaGreatDoorJRIdx
namespace Go.Proofs.YtpaiideboodaeaaGreatDoor
open Go.RowKit
set_option linter.unusedVariables false
set_option linter.unusedSimpArgs false

def addAll (f : ByteArray → List Int) (ss : List ByteArray) (id : Int) : ByteArray → List Int := ss.foldl (fun f s => moreS f s id) f
theorem addAll_snoc (f : ByteArray → List Int) (ss : List ByteArray) (s : ByteArray) (id : Int) : addAll f (ss ++ [s]) id = moreS (addAll f ss id) s id := by simp [addAll, List.foldl_append]
theorem addAll_ne (f : ByteArray → List Int) (id : Int) (s : ByteArray) : ∀ (ss : List ByteArray), addAll f ss id s ≠ [] ↔ f s ≠ [] ∨ s ∈ ss := by
  intro ss
  induction ss generalizing f with
  | nil => simp [addAll]
  | cons x ss ih =>
    have h := ih (moreS f x id)
    have e : addAll f (x :: ss) id = addAll (moreS f x id) ss id := rfl
    rw [e, h]
    unfold moreS
    by_cases hs : s = x
    · simp [hs]
    · simp [hs]
theorem addAll_len (f : ByteArray → List Int) (id : Int) (s : ByteArray) : ∀ (ss : List ByteArray), (addAll f ss id s).length ≤ (f s).length + ss.length := by
  intro ss
  induction ss generalizing f with
  | nil => simp [addAll]
  | cons x ss ih =>
    have h := ih (moreS f x id)
    have e : addAll f (x :: ss) id = addAll (moreS f x id) ss id := rfl
    rw [e]
    have : (moreS f x id s).length ≤ (f s).length + 1 := by unfold moreS; split <;> simp
    simp only [List.length_cons]
    omega
/-- the index of the strings of events: the first k events -/
def idxM (g : Ev → List ByteArray) : List Ev → Nat → Int → (ByteArray → List Int) → ByteArray → List Int
  | [], _, _, f => f
  | _, 0, _, f => f
  | e :: es, k + 1, id, f => idxM g es k (id + 1) (addAll f (g e) id)
def idxU (g : Ev → List ByteArray) (es : List Ev) (k : Nat) : ByteArray → List Int := idxM g es k 0 (fun _ => [])
theorem idxM_step (g : Ev → List ByteArray) : ∀ (es : List Ev) (k : Nat) (id : Int) (f : ByteArray → List Int) (e : Ev), es[k]? = some e → idxM g es (k + 1) id f = addAll (idxM g es k id f) (g e) (id + k) := by
  intro es
  induction es with
  | nil => intro k id f e h; simp at h
  | cons x es ih =>
    intro k id f e h
    cases k with
    | zero =>
      simp at h
      subst h
      cases es <;> simp [idxM]
    | succ k =>
      have := ih k (id + 1) (addAll f (g x) id) e (by simpa using h)
      simp only [idxM] at this ⊢
      rw [this]
      congr 1
      omega
theorem idxU_step {g : Ev → List ByteArray} {es : List Ev} {k : Nat} {e : Ev} (h : es[k]? = some e) : idxU g es (k + 1) = addAll (idxU g es k) (g e) k := by
  have := idxM_step g es k 0 (fun _ => []) e h
  simpa [idxU] using this
theorem idxM_ne (g : Ev → List ByteArray) (s : ByteArray) : ∀ (es : List Ev) (k : Nat) (id : Int) (f : ByteArray → List Int), idxM g es k id f s ≠ [] ↔ f s ≠ [] ∨ s ∈ (es.take k).flatMap g := by
  intro es
  induction es with
  | nil => intro k id f; simp [idxM]
  | cons x es ih =>
    intro k id f
    cases k with
    | zero => simp [idxM]
    | succ k =>
      simp only [idxM, List.take_succ_cons, List.flatMap_cons, List.mem_append]
      rw [ih, addAll_ne, or_assoc]
theorem idxM_len (g : Ev → List ByteArray) (s : ByteArray) : ∀ (es : List Ev) (k : Nat) (id : Int) (f : ByteArray → List Int), (idxM g es k id f s).length ≤ (f s).length + ((es.take k).flatMap g).length := by
  intro es
  induction es with
  | nil => intro k id f; simp [idxM]
  | cons x es ih =>
    intro k id f
    cases k with
    | zero => simp [idxM]
    | succ k =>
      simp only [idxM, List.take_succ_cons, List.flatMap_cons, List.length_append]
      have h1 := ih k (id + 1) (addAll f (g x) id)
      have h2 := addAll_len f id s (g x)
      omega
theorem idxU_ne (g : Ev → List ByteArray) (es : List Ev) (k : Nat) (s : ByteArray) : idxU g es k s ≠ [] ↔ s ∈ (es.take k).flatMap g := by
  have := idxM_ne g s es k 0 (fun _ => [])
  simpa [idxU] using this
theorem idxU_len (g : Ev → List ByteArray) (es : List Ev) (k : Nat) (s : ByteArray) : (idxU g es k s).length ≤ ((es.take k).flatMap g).length := by
  have := idxM_len g s es k 0 (fun _ => [])
  simpa [idxU] using this
/-- a map that has just been made and filled -/
def IdxP (f : ByteArray → List Int) (w : World) (e : Ending) (w' : World) : Prop :=
  ∃ b n, e = .returned (.map (some b)) ∧ w.heap.size ≤ b ∧ SM w' b (b + 1) n f ∧ w.grownBy w' none
def namesG (e : Ev) : List ByteArray := e.fields.map FieldD.name
set_option maxHeartbeats 4000000 in
set_option maxRecDepth 100000 in
theorem snames_any {S : Nat → Prop} (A : Option Addr) (es : List Ev) (c : Nat) (w : World) (hev : Evs S w A es) (hel : es.length ≤ 2000) (hs : ∀ e ∈ es, e.fields.length ≤ 100 ∧ ∀ f ∈ e.fields, f.name.size ≤ 1000) :
    Calls Tryz.prog 55 #[.slice A es.length c] w (IdxP (idxU namesG es es.length) w) := by
  have HEV := Lib.hid (hev.mono (S' := (· < w.heap.size)) (fun b _ h => h))
  have HS := Lib.hid hs
  have HL : Hid (∀ k, ((es.take k).flatMap namesG).length ≤ 200000) := Lib.hid (fun k => by
    have h0 : ∀ (l : List Ev), (∀ e ∈ l, e.fields.length ≤ 100) → (l.flatMap namesG).length ≤ l.length * 100 := fun l hl => by
      induction l with
      | nil => simp
      | cons x l ih =>
        have h1 := hl x (by simp)
        have h2 := ih (fun e he => hl e (by simp [he]))
        simp only [List.flatMap_cons, List.length_append, List.length_cons, namesG, List.length_map] at h2 ⊢
        omega
    have h1 := h0 (es.take k) (fun e he => (hs e (List.mem_of_mem_take he)).1)
    have h2 : (es.take k).length ≤ es.length := by rw [List.length_take]; omega
    omega)
  clear hev hs
  go_enter Tryz.func55, Tryz.ntmps55
  have hmm := @run_makeMap Tryz.prog
  obtain ⟨b, hb⟩ : ∃ b, b = w.heap.size := ⟨_, rfl⟩
  obtain ⟨W1, hW1⟩ : ∃ W, W = w.alloc (.map #[] 0) := ⟨_, rfl⟩
  have M1 : Hid (SM W1 b (b + 1) 0 (idxU namesG es 0)) := Lib.hid (by
    rw [hW1, hb]
    have := SM.made w (base := w.heap.size + 1) (by omega)
    have e : idxU namesG es 0 = fun _ => [] := by funext s; cases es <;> rfl
    rw [e]; exact this)
  have G1 : Hid (w.grownBy W1 none) := Lib.hid (by rw [hW1]; exact only_alloc (only_refl _ _) _)
  have hbw : w.heap.size ≤ b := by omega
  have HW := Lib.hid hW1.symm
  have HB := Lib.hid hb
  clear hb hW1
  go_upto_region 2 with fail
  rw [HW.out, ← HB.out]
  clear hmm HW
  go_wp2_with fail
  go_loopw [11] (fun vi wr => ∃ k n : Nat, vi = .int .i64 k ∧ k ≤ es.length ∧ SM wr b (b + 1) n (idxU namesG es k) ∧ w.grownBy wr none) (fun vi _ => es.length - (intOf vi).toNat)
  case atStart => exact ⟨0, 0, rfl, Nat.zero_le _, M1.out, G1.out⟩
  case round =>
    obtain ⟨k, n, rfl, hk, hM, hG⟩ := hrel
    have M := Lib.hid hM
    have G := Lib.hid hG
    clear hM hG
    by_cases hlt : k < es.length
    · obtain ⟨y, hy⟩ : ∃ y, es[k]? = some y := ⟨_, List.getElem?_eq_getElem hlt⟩
      obtain ⟨kb, ko, eE, hkw, z0, z1, z2, z3, z4, z5, z6, z7, z8, z9⟩ := ev_in (HEV.out.1.grown G.out (by simp)) hy
      subst eE
      have i1 : (k : Int) < (es.length : Int) := by omega
      have i2 : (0 : Int) ≤ (k : Int) := by omega
      have hym := List.mem_of_getElem? hy
      have HF : Hid (∀ W', w.grownBy W' none → Rd (· < w.heap.size) W' y.fa (y.fields.flatMap FieldD.cells)) := Lib.hid (fun W' hg => (HEV.out.2 y hym).2.1.grown hg (by simp))
      have hfl := (HS.out y hym).1
      have hfn := Lib.hid (HS.out y hym).2
      have HY := Lib.hid hy
      clear hy hym
      go_wp2_with fail
      obtain ⟨wo, rfl⟩ : ∃ x, x = wr := ⟨_, rfl⟩
      go_loopw [19] (fun vj wr => ∃ j n : Nat, vj = .int .i64 j ∧ j ≤ y.fields.length ∧ SM wr b (b + 1) n (addAll (idxU namesG es k) ((y.fields.take j).map FieldD.name) k) ∧ w.grownBy wr none) (fun vj _ => y.fields.length - (intOf vj).toNat)
      case atStart => exact ⟨0, n, rfl, Nat.zero_le _, M.out.quiet (only_alloc (only_refl _ _) _), only_alloc G.out _⟩
      case round =>
        clear M G
        obtain ⟨j, n, rfl, hj, hM, hG⟩ := hrel
        have M := Lib.hid hM
        have G := Lib.hid hG
        clear hM hG
        by_cases hlt2 : j < y.fields.length
        · obtain ⟨z, hz⟩ : ∃ z, y.fields[j]? = some z := ⟨_, List.getElem?_eq_getElem hlt2⟩
          have hrf := HF.out wr G.out
          obtain ⟨fb, fo, eF, -, -, -⟩ := hrf (by rw [flat_len _ 2 FieldD.cells_len]; omega)
          rw [eF] at hrf
          have q0 : wr.cell? ⟨fb, fo + j * 2, none⟩ = some (.string z.name) := hrf.flatAt FieldD.cells_len hz 0 (by omega)
          have q1 : wr.cell? ⟨fb, fo + j * 2 + 1, none⟩ = some (.string z.value) := hrf.flatAt FieldD.cells_len hz 1 (by omega)
          have j1 : (j : Int) < (y.fields.length : Int) := by omega
          have j2 : (0 : Int) ≤ (j : Int) := by omega
          have hnz := hfn.out z (List.mem_of_getElem? hz)
          have KA : Hid (Calls Tryz.prog 101 #[.map (some b), .string z.name, .int .i64 (k : Int)] (wr.alloc (.cells #[.string z.name, .string z.value] 85)) (AddP b (b + 1) n (addAll (idxU namesG es k) ((y.fields.take j).map FieldD.name) k) z.name k (wr.alloc (.cells #[.string z.name, .string z.value] 85)))) := Lib.hid (add_row z.name k _ (M.out.quiet (only_alloc (only_refl _ _) _)) (by unfold SKey maxLen; omega) (by have := M.out.lt; simp; omega) (by omega) (by
            have h1 := addAll_len (idxU namesG es k) k z.name ((y.fields.take j).map FieldD.name)
            have h2 := idxU_len namesG es k z.name
            have h3 := HL.out k
            rw [List.length_map, List.length_take] at h1
            omega))
          have HZ : Hid (moreS (addAll (idxU namesG es k) ((y.fields.take j).map FieldD.name) k) z.name k = addAll (idxU namesG es k) ((y.fields.take (j + 1)).map FieldD.name) k) := Lib.hid (by
            obtain ⟨h1, h2⟩ := List.getElem?_eq_some_iff.1 hz
            rw [List.take_succ_eq_append_getElem h1, h2, List.map_append, List.map_cons, List.map_nil, addAll_snoc])
          have EF := Lib.hid eF
          clear hrf hz hnz eF
          go_upto_region 8 with (rw [EF.out])
          go_wp2_with fail
          refine KA.out.mono ?_
          rintro e w3 ⟨rfl, hm3, hf3, hs3, -⟩
          rw [HZ.out] at hm3
          have M3 := Lib.hid hm3
          have G3 : Hid (w.grownBy w3 none) := Lib.hid (hf3 w none hbw (only_alloc G.out _))
          clear hm3 hf3 hs3 KA q0 q1 M G HZ
          go_wp2_with fail
          go_roundw
          case rel => exact ⟨j + 1, n + 1, by go_num, by omega, M3.out, G3.out⟩
          case measure => simp [intOf]; omega
        · obtain rfl : j = y.fields.length := by omega
          have i3 : ¬ ((y.fields.length : Int) < (y.fields.length : Int)) := by omega
          have HZ : Hid (SM wr b (b + 1) n (idxU namesG es (k + 1))) := Lib.hid (by
            rw [idxU_step HY.out]
            have := M.out
            rwa [List.take_length] at this)
          clear M
          go_wp2_with fail
          go_roundw
          case rel => exact ⟨k + 1, n, by go_num, by omega, HZ.out, G.out⟩
          case measure => simp [intOf]; omega
    · obtain rfl : k = es.length := by omega
      have i3 : ¬ ((es.length : Int) < (es.length : Int)) := by omega
      go_wp2_with fail
      go_ret
      exact ⟨b, n, rfl, hbw, M.out, G.out⟩
def wordsG (e : Ev) : List ByteArray := dist (rawW (bts (textOf e.lines)))
set_option maxHeartbeats 4000000 in
set_option maxRecDepth 100000 in
theorem swords_idx {S : Nat → Prop} (A : Option Addr) (es : List Ev) (c : Nat) (w : World) (hev : Evs S w A es) (hel : es.length ≤ 2000) (hs : ∀ e ∈ es, e.lines.length ≤ 1000 ∧ (∀ l ∈ e.lines, l.text.size ≤ 100000) ∧ (textOf e.lines).size ≤ 400) :
    Calls Tryz.prog 54 #[.slice A es.length c] w (IdxP (idxU wordsG es es.length) w) := by
  have HEV := Lib.hid (hev.mono (S' := (· < w.heap.size)) (fun b _ h => h))
  have HS := Lib.hid hs
  have HW1 : Hid (∀ e ∈ es, (wordsG e).length ≤ 401) := Lib.hid (fun e he => by
    have h1 := dist_len (rawW (bts (textOf e.lines)))
    have h2 := rawW_len (bts (textOf e.lines))
    rw [bts_length] at h2
    have := (hs e he).2.2
    unfold wordsG
    omega)
  have HL : Hid (∀ k, ((es.take k).flatMap wordsG).length ≤ 900000) := Lib.hid (fun k => by
    have h0 : ∀ (l : List Ev), (∀ e ∈ l, (wordsG e).length ≤ 401) → (l.flatMap wordsG).length ≤ l.length * 401 := fun l hl => by
      induction l with
      | nil => simp
      | cons x l ih =>
        have h1 := hl x (by simp)
        have h2 := ih (fun e he => hl e (by simp [he]))
        simp only [List.flatMap_cons, List.length_append, List.length_cons] at h2 ⊢
        omega
    have h1 := h0 (es.take k) (fun e he => HW1.out e (List.mem_of_mem_take he))
    have h2 : (es.take k).length ≤ es.length := by rw [List.length_take]; omega
    omega)
  clear hev hs
  go_enter Tryz.func54, Tryz.ntmps54
  have hmm := @run_makeMap Tryz.prog
  obtain ⟨b, hb⟩ : ∃ b, b = w.heap.size := ⟨_, rfl⟩
  obtain ⟨W1, hW1⟩ : ∃ W, W = w.alloc (.map #[] 0) := ⟨_, rfl⟩
  have M1 : Hid (SM W1 b (b + 1) 0 (idxU wordsG es 0)) := Lib.hid (by
    rw [hW1, hb]
    have := SM.made w (base := w.heap.size + 1) (by omega)
    have e : idxU wordsG es 0 = fun _ => [] := by funext s; cases es <;> rfl
    rw [e]; exact this)
  have G1 : Hid (w.grownBy W1 none) := Lib.hid (by rw [hW1]; exact only_alloc (only_refl _ _) _)
  have hbw : w.heap.size ≤ b := by omega
  have HW := Lib.hid hW1.symm
  have HB := Lib.hid hb
  clear hb hW1
  go_upto_region 2 with fail
  rw [HW.out, ← HB.out]
  clear hmm HW
  go_wp2_with fail
  go_loopw [11] (fun vi wr => ∃ k n : Nat, vi = .int .i64 k ∧ k ≤ es.length ∧ SM wr b (b + 1) n (idxU wordsG es k) ∧ w.grownBy wr none) (fun vi _ => es.length - (intOf vi).toNat)
  case atStart => exact ⟨0, 0, rfl, Nat.zero_le _, M1.out, G1.out⟩
  case round =>
    obtain ⟨k, n, rfl, hk, hM, hG⟩ := hrel
    have M := Lib.hid hM
    have G := Lib.hid hG
    clear hM hG
    by_cases hlt : k < es.length
    · obtain ⟨y, hy⟩ : ∃ y, es[k]? = some y := ⟨_, List.getElem?_eq_getElem hlt⟩
      obtain ⟨kb, ko, eE, hkw, z0, z1, z2, z3, z4, z5, z6, z7, z8, z9⟩ := ev_in (HEV.out.1.grown G.out (by simp)) hy
      subst eE
      have i1 : (k : Int) < (es.length : Int) := by omega
      have i2 : (0 : Int) ≤ (k : Int) := by omega
      have hym := List.mem_of_getElem? hy
      have HY := Lib.hid hy
      obtain ⟨T, hT⟩ : ∃ T, T = textOf y.lines := ⟨_, rfl⟩
      have KT : Hid (∀ W, w.grownBy W none → Calls Tryz.prog 100 #[.agg y.cells.toArray] W (TextP W T)) := Lib.hid (fun W hg => by rw [hT]; exact text_any y W ((HEV.out.2 y hym).grown hg (by simp)) (HS.out y hym).1 (HS.out y hym).2.1)
      have KW : Hid (∀ W, Calls Tryz.prog 17 #[.string T] W (DistOwn W (rawW (bts T)))) := Lib.hid (fun W => swords_own T W (by rw [hT]; have := (HS.out y hym).2.2; omega))
      have HWY : Hid (wordsG y = dist (rawW (bts T))) := Lib.hid (by rw [hT]; rfl)
      have hwy := HW1.out y hym
      clear hy hym hT
      have KT1 := KT.out (wr.alloc (.cells #[.int .i64 y.host, .int .i64 y.file, .int .i64 y.beg, .int .i64 y.fin, .slice y.la y.lines.length y.lc, .int .i64 y.time, .int .i64 y.weight, .string y.trace, .string y.stream, .slice y.fa y.fields.length y.fc] 44)) (only_alloc G.out _)
      rw [show y.cells.toArray = #[.int .i64 y.host, .int .i64 y.file, .int .i64 y.beg, .int .i64 y.fin, .slice y.la y.lines.length y.lc, .int .i64 y.time, .int .i64 y.weight, .string y.trace, .string y.stream, .slice y.fa y.fields.length y.fc] from rfl] at KT1
      have KT2 := Lib.hid KT1
      clear KT1 KT
      go_wp2_with fail
      refine KT2.out.mono ?_
      rintro e w3 ⟨rfl, hg3⟩
      have G3 := Lib.hid (only_trans (only_alloc G.out _) hg3)
      have M3 := Lib.hid ((M.out.quiet (only_alloc (only_refl _ _) _)).quiet hg3)
      clear hg3 KT2 z0 z1 z2 z3 z4 z5 z6 z7 z8 z9
      go_wp2_with fail
      refine (KW.out w3).mono ?_
      rintro e w4 ⟨A4, c4, ds, rfl, hc4, hm4, hsr, hmem, hdl, hown, hg4⟩
      obtain rfl : ds = wordsG y := by rw [HWY.out]; exact srt_ext hsr (dist_srt _) (fun s => by rw [hmem, dist_mem])
      have G4 := Lib.hid (only_trans G3.out hg4)
      have M4 := Lib.hid (M3.out.quiet hg4)
      have R4 : Hid (w4.ownsRow w3.heap.size 9 1 (.slice A4 (wordsG y).length c4) (wordsG y).length ((wordsG y).map .string)) := Lib.hid hown
      have hb3 : b + 1 ≤ w3.heap.size := M3.out.lt
      have hsz4 : w3.heap.size ≤ w4.heap.size := hg4.size
      have hwz : Hid (∀ x ∈ wordsG y, x.size ≤ 40) := Lib.hid (fun x hx => by rw [HWY.out] at hx; exact rawW_sz _ x ((dist_mem _ _).1 hx))
      clear hsr hmem hdl hown hg4 G3 M3 KW M G HWY
      go_wp2_with fail
      go_loopw [20] (fun vj wr => ∃ j n : Nat, vj = .int .i64 j ∧ j ≤ (wordsG y).length ∧ SM wr b (b + 1) n (addAll (idxU wordsG es k) ((wordsG y).take j) k) ∧ wr.ownsRow w3.heap.size 9 1 (.slice A4 (wordsG y).length c4) (wordsG y).length ((wordsG y).map .string) ∧ w.grownBy wr none) (fun vj _ => (wordsG y).length - (intOf vj).toNat)
      case atStart => exact ⟨0, n, rfl, Nat.zero_le _, M4.out, R4.out, G4.out⟩
      case round =>
        clear M4 R4 G4
        obtain ⟨j, n, rfl, hj, hM, hR, hG⟩ := hrel
        have M := Lib.hid hM
        have G := Lib.hid hG
        have R := Lib.hid hR
        clear hM hG
        by_cases hlt2 : j < (wordsG y).length
        · obtain ⟨z, hz⟩ : ∃ z, (wordsG y)[j]? = some z := ⟨_, List.getElem?_eq_getElem hlt2⟩
          obtain ⟨fb, fo, eF, -, -, hcz⟩ := (rd_own hR (by decide)) (by simp; omega)
          subst eF
          have q0 : wr.cell? ⟨fb, fo + j, none⟩ = some (.string z) := hcz j _ (by rw [List.getElem?_map, hz]; rfl)
          have j1 : (j : Int) < ((wordsG y).length : Int) := by omega
          have j2 : (0 : Int) ≤ (j : Int) := by omega
          have hnz := hwz.out z (List.mem_of_getElem? hz)
          have KA : Hid (Calls Tryz.prog 101 #[.map (some b), .string z, .int .i64 (k : Int)] wr (AddP b (b + 1) n (addAll (idxU wordsG es k) ((wordsG y).take j) k) z k wr)) := Lib.hid (add_row z k _ M.out (by unfold SKey maxLen; omega) M.out.lt (by omega) (by
            have h1 := addAll_len (idxU wordsG es k) k z ((wordsG y).take j)
            have h2 := idxU_len wordsG es k z
            have h3 := HL.out k
            rw [List.length_take] at h1
            omega))
          have HZ : Hid (moreS (addAll (idxU wordsG es k) ((wordsG y).take j) k) z k = addAll (idxU wordsG es k) ((wordsG y).take (j + 1)) k) := Lib.hid (by
            obtain ⟨h1, h2⟩ := List.getElem?_eq_some_iff.1 hz
            rw [List.take_succ_eq_append_getElem h1, h2, addAll_snoc])
          clear hR hcz hz hnz
          go_wp2_with fail
          refine KA.out.mono ?_
          rintro e w5 ⟨rfl, hm5, hf5, hs5, hk5⟩
          rw [HZ.out] at hm5
          have M5 := Lib.hid hm5
          have G5 : Hid (w.grownBy w5 none) := Lib.hid (hf5 w none hbw G.out)
          have R5 := Lib.hid (own_keepNI R.out hk5 (by omega) (by decide))
          clear hm5 hf5 hs5 hk5 KA q0 M G HZ R
          go_wp2_with fail
          go_roundw
          case rel => exact ⟨j + 1, n + 1, by go_num, by omega, M5.out, R5.out, G5.out⟩
          case measure => simp [intOf]; omega
        · obtain rfl : j = (wordsG y).length := by omega
          have i3 : ¬ (((wordsG y).length : Int) < ((wordsG y).length : Int)) := by omega
          have HZ : Hid (SM wr b (b + 1) n (idxU wordsG es (k + 1))) := Lib.hid (by
            rw [idxU_step HY.out]
            have := M.out
            rwa [List.take_length] at this)
          clear M hR R
          go_wp2_with fail
          go_roundw
          case rel => exact ⟨k + 1, n, by go_num, by omega, HZ.out, G.out⟩
          case measure => simp [intOf]; omega
    · obtain rfl : k = es.length := by omega
      have i3 : ¬ ((es.length : Int) < (es.length : Int)) := by omega
      go_wp2_with fail
      go_ret
      exact ⟨b, n, rfl, hbw, M.out, G.out⟩
end Go.Proofs.YtpaiideboodaeaaGreatDoor

namespace Go.Proofs.YtpaiideboodaeaaGreatDoor
open Go.RowKit
set_option linter.unusedVariables false
set_option linter.unusedSimpArgs false

theorem srt_nodup2 {l : List ByteArray} (h : Srt l) : l.Nodup := List.Pairwise.imp (fun {a b} hab e => by rw [e, sl_irrefl] at hab; cases hab) h
open Classical in
theorem addAll_at (f : ByteArray → List Int) (id : Int) (s : ByteArray) : ∀ (ss : List ByteArray), ss.Nodup → addAll f ss id s = f s ++ (if s ∈ ss then [id] else []) := by
  intro ss
  induction ss generalizing f with
  | nil => intro _; simp [addAll]
  | cons x ss ih =>
    intro hn
    rw [List.nodup_cons] at hn
    have e : addAll f (x :: ss) id = addAll (moreS f x id) ss id := rfl
    rw [e, ih _ hn.2]
    unfold moreS
    by_cases hs : s = x
    · subst hs
      rw [if_pos rfl, if_neg hn.1, if_pos (by simp)]
      simp
    · rw [if_neg hs]
      by_cases h2 : s ∈ ss
      · rw [if_pos h2, if_pos (by simp [h2])]
      · rw [if_neg h2, if_neg (by simp [h2, hs])]
theorem wordsG_srt (e : Ev) : Srt (wordsG e) := dist_srt _
theorem wordsG_eq (e : Ev) : wordsG e = wordsE e := rfl
/-- the rows of words -/
theorem idxU_row {es : List Ev} {ds : List ByteArray} {j : Nat} (hj : j < ds.length) : ∀ k, k ≤ es.length → idxU wordsG es k (ds[j]) = rowX es ds k j
  | 0, _ => by cases es <;> rfl
  | k + 1, hk => by
    have ih := idxU_row (es := es) (ds := ds) hj k (by omega)
    have he : es[k]? = some (es[k]) := List.getElem?_eq_getElem (by omega)
    rw [idxU_step he, rowX_step he, addAll_at _ _ _ _ (srt_nodup2 (wordsG_srt _)), ih]
    unfold hitX
    rw [show ds.getD j ⟨#[]⟩ = ds[j] from by rw [List.getD_eq_getElem?_getD, List.getElem?_eq_getElem hj]; rfl]
    rfl
theorem getF_some : ∀ (fs : List FieldD) (nm : ByteArray), nm ∈ fs.map FieldD.name → ∃ v, getF fs nm = some v
  | [], _, h => by simp at h
  | f :: fs, nm, h => by
    unfold getF
    by_cases e : f.name = nm
    · exact ⟨_, if_pos e⟩
    · rw [if_neg e]
      exact getF_some fs nm (by simpa [Ne.symm e] using h)
theorem getF_none : ∀ (fs : List FieldD) (nm : ByteArray), nm ∉ fs.map FieldD.name → getF fs nm = none
  | [], _, _ => rfl
  | f :: fs, nm, h => by
    unfold getF
    simp only [List.map_cons, List.mem_cons, not_or] at h
    rw [if_neg (Ne.symm h.1)]
    exact getF_none fs nm h.2
/-- the rows of names -/
theorem idxU_name {es : List Ev} (hs : ∀ e ∈ es, Srt (e.fields.map FieldD.name)) (nm : ByteArray) : ∀ k, k ≤ es.length → idxU namesG es k nm = posV (valsTo es nm k)
  | 0, _ => by cases es <;> rfl
  | k + 1, hk => by
    have ih := idxU_name hs nm k (by omega)
    have he : es[k]? = some (es[k]) := List.getElem?_eq_getElem (by omega)
    have hn : (namesG es[k]).Nodup := srt_nodup2 (hs _ (List.getElem_mem ..))
    rw [idxU_step he, addAll_at _ _ _ _ hn, ih]
    by_cases hm : nm ∈ namesG es[k]
    · obtain ⟨v, hv⟩ := getF_some _ _ hm
      rw [if_pos hm, valsTo_some he hv]
      unfold posV
      rw [List.map_append]; rfl
    · rw [if_neg hm, valsTo_none he (getF_none _ _ hm), List.append_nil]
theorem keys_words {es : List Ev} {ds : List ByteArray} (h : Srt ds) (hm : ∀ t, t ∈ ds ↔ idxU wordsG es es.length t ≠ []) : ds = wordsX es :=
  srt_ext h (dist_srt _) (fun t => by rw [hm, idxU_ne, List.take_length]; exact (dist_mem (es.flatMap wordsG) t).symm)
theorem keys_names {es : List Ev} {ds : List ByteArray} (h : Srt ds) (hm : ∀ t, t ∈ ds ↔ idxU namesG es es.length t ≠ []) : ds = namesX es :=
  srt_ext h (dist_srt _) (fun t => by rw [hm, idxU_ne, List.take_length]; exact (dist_mem (es.flatMap namesG) t).symm)
/-- the pairs of a name: the event has the value -/
theorem valsTo_get {es : List Ev} {nm : ByteArray} : ∀ k, ∀ p ∈ valsTo es nm k, ∃ e, es[p.1]? = some e ∧ getF e.fields nm = some p.2
  | 0, p, h => by cases h
  | k + 1, p, h => by
    simp only [valsTo] at h
    rcases List.mem_append.1 h with h | h
    · exact valsTo_get k p h
    · split at h
      · rename_i e he
        split at h
        · rename_i v hv
          rw [List.mem_singleton] at h
          subst h
          exact ⟨e, he, hv⟩
        · cases h
      · cases h
end Go.Proofs.YtpaiideboodaeaaGreatDoor

namespace Go.Proofs.YtpaiideboodaeaaGreatDoor
open Go.RowKit
set_option linter.unusedVariables false
set_option linter.unusedSimpArgs false

set_option maxHeartbeats 2000000 in
theorem listed_any {S : Nat → Prop} (base : Nat) (v : Value) (xs : List Int) (A : Option Addr) (ds : List Int) (c : Nat) (w : World) (h : Byts base w v xs) (hr : Rd S w A (ds.map (.int .i64))) (hl : ds.length ≤ 40) (h0 : 0 < ds.length) (ha : AscN ds) (hc : ds.length ≤ c) (hm : c ≤ maxLen) (hx : xs.length ≤ 7400000) (hb : base ≤ w.heap.size) :
    Calls Tryz.prog 63 #[v, .slice A ds.length c] w (VPost base w v (xs ++ blkP (postX ds))) := by
  have H := Lib.hid h
  have K := Lib.hid (ppost_any A ds c w hr (by omega) h0 ha hc hm)
  have hpl := postX_len2 ds ha.1 hl
  clear h hr ha hm
  go_enter Tryz.func63, Tryz.ntmps63
  go_wp2_with fail
  refine K.out.mono ?_
  rintro e w2 ⟨v2, rfl, hB2, hG2⟩
  obtain ⟨A2, c2, e2, hc2, hm2, hl2, hr2⟩ := Rd.of_own hB2 (by decide)
  subst e2
  have R2 := Lib.hid hr2
  have G2 := Lib.hid hG2
  have B2 : Hid (Byts base w2 v xs) := Lib.hid (own_ext H.out hG2)
  have HLT : Hid (∀ g, v.ownBlock = some g → g < w.heap.size) := Lib.hid (fun g e => (World.ownsRow.lt H.out g e).2)
  have hz2 := hG2.size
  clear hB2 hG2 hr2 hl2
  go_wp2_with fail
  refine (pblock_any base v xs A2 (postX ds) c2 _ w2 B2.out R2.out (fun b hb e => by have := HLT.out b e.symm; have h0 : w.heap.size ≤ b := hb; omega) hx (by omega) (by omega)).mono ?_
  rintro e w3 ⟨v3, rfl, hB3, hO3⟩
  have B3 := Lib.hid hB3
  have O3 : Hid (Onto w v v3 w3) := Lib.hid ((Onto.quiet G2.out).trans hO3)
  clear hB3 hO3
  go_wp2_with fail
  go_ret
  exact ⟨v3, rfl, B3.out, O3.out⟩
theorem SM.tight {w : World} {b base n : Nat} {f : ByteArray → List Int} (h : SM w b base n f) {ks : List ByteArray} (hn : ks.Nodup) (hk : ∀ k, k ∈ ks ↔ f k ≠ []) : SM w b base ks.length f := by
  obtain ⟨es, clock, hb, hz⟩ := h.len hn hk
  obtain ⟨es', clock', hb', hS, hs, hbb, hv, hc, ha⟩ := h
  rw [hb] at hb'
  injection hb' with e
  injection e with e1 e2
  subst e1 e2
  exact ⟨es, clock, hb, hS, by omega, hbb, hv, hc, ha⟩
set_option maxHeartbeats 4000000 in
set_option maxRecDepth 100000 in
theorem wordsec_any {S : Nat → Prop} (A : Option Addr) (es : List Ev) (c : Nat) (w : World) (hev : Evs S w A es) (hel : es.length ≤ 40) (hs : ∀ e ∈ es, EvS e) :
    Calls Tryz.prog 28 #[.slice A es.length c] w (NewB w (indexX es)) := by
  have KW := Lib.hid (swords_idx A es c w hev (by omega) (fun e he => ⟨by have := (hs e he).1; omega, fun l hl => by have := (hs e he).2.1 l hl; omega, by have := (hs e he).2.2.1; omega⟩))
  obtain ⟨ds, hds⟩ : ∃ ds, ds = wordsX es := ⟨_, rfl⟩
  have hdl : ds.length ≤ 7240 := by rw [hds]; exact wordsX_len hs hel
  have HDZ : Hid (∀ x ∈ ds, x.size ≤ 40) := Lib.hid (by rw [hds]; exact wordsX_sz es)
  have HDS : Hid (Srt ds) := Lib.hid (by rw [hds]; exact dist_srt _)
  have HTL : Hid (∀ k, k ≤ 7240 → (idxTo es ds k).length ≤ 7000000) := Lib.hid (fun k hk => by have := idxTo_len hel (fun x hx => by have := HDZ.out x hx; omega : ∀ x ∈ ds, x.size ≤ 250) hdl k; omega)
  have HIX : Hid (indexX es = idxTo es ds ds.length) := Lib.hid (by rw [hds]; rfl)
  obtain ⟨f, hf⟩ : ∃ f, f = idxU wordsG es es.length := ⟨_, rfl⟩
  have HKE : Hid (∀ ks, Srt ks → (∀ t, t ∈ ks ↔ f t ≠ []) → ks = ds) := Lib.hid (fun ks h1 h2 => by rw [hds]; rw [hf] at h2; exact keys_words h1 h2)
  have HMF : Hid (∀ t, t ∈ ds ↔ f t ≠ []) := Lib.hid (fun t => by rw [hf, hds, idxU_ne, List.take_length]; exact dist_mem _ _)
  have HRW : Hid (∀ (j : Nat) (x : ByteArray), ds[j]? = some x → f x = rowX es ds es.length j) := Lib.hid (fun j x hx => by
    obtain ⟨h1, h2⟩ := List.getElem?_eq_some_iff.1 hx
    rw [hf, ← h2]; exact idxU_row h1 _ (Nat.le_refl _))
  have HRA : Hid (∀ j, AscN (rowX es ds es.length j) ∧ (rowX es ds es.length j).length ≤ 40 ∧ (blkP (postX (rowX es ds es.length j))).length ≤ 700) := Lib.hid (fun j => ⟨rowX_asc es ds j _ (by omega), by have := rowX_len es ds j es.length; omega, (rowX_post hel ds j).2⟩)
  rw [← hf] at KW
  clear hev hs hds hf
  go_enter Tryz.func28, Tryz.ntmps28
  go_wp2_with fail
  refine KW.out.mono ?_
  rintro e w2 ⟨b, n, rfl, hbw, hSM, hg2⟩
  have M2 := Lib.hid (hSM.tight (srt_nodup2 HDS.out) HMF.out)
  have G2 := Lib.hid hg2
  have hz2 := hg2.size
  clear hSM hg2 KW n
  go_wp2_with fail
  refine (keys_any w2 M2.out (by omega)).mono ?_
  rintro e w3 ⟨A3, c3, ks, rfl, hc3, hm3, hn3, hsr, hmem, hown, hg3⟩
  obtain rfl := HKE.out ks hsr hmem
  have R3 := Lib.hid (rd_own hown (by decide))
  have G3 := Lib.hid hg3
  have hz3 := hg3.size
  clear hsr hmem hown hg3
  go_wp2_with fail
  refine (encoded_any w2.heap.size (.slice none 0 0) [] A3 ks c3 w3 (Byts.nil _ _) R3.out (by omega) (fun x hx => by have := HDZ.out x hx; omega) (by simp) hz3).mono ?_
  rintro e w4 ⟨v4, rfl, hB4, hO4⟩
  have B4 : Hid (Byts w2.heap.size w4 v4 (idxTo es ks 0)) := Lib.hid hB4
  have G4 : Hid (w2.grownBy w4 none) := Lib.hid (Byts.only (Byts.nil w2.heap.size w3) hO4 G3.out (Nat.le_refl _))
  have M4 := Lib.hid (M2.out.quiet G4.out)
  have hz4 := G4.out.size
  clear hB4 hO4
  go_wp2_with fail
  refine (keys_any w4 M4.out (by omega)).mono ?_
  rintro e w5 ⟨A5, c5, ks', rfl, hc5, hm5, hn5, hsr, hmem, hown, hg5⟩
  obtain rfl := HKE.out ks' hsr hmem
  have R5 := Lib.hid ((rd_own hown (by decide)).mono (S' := fun b => w4.heap.size ≤ b ∧ b < w5.heap.size) (fun b h1 h2 => ⟨h1, h2⟩))
  have B5 : Hid (Byts w2.heap.size w5 v4 (idxTo es ks' 0)) := Lib.hid (own_ext B4.out hg5)
  have G5 := Lib.hid (only_trans G4.out hg5)
  have hz5 := hg5.size
  have HNE : Hid (∀ b, (w4.heap.size ≤ b ∧ b < w5.heap.size) → some b ≠ v4.ownBlock) := Lib.hid (fun b hb e => by have := (World.ownsRow.lt B4.out b e.symm).2; omega)
  clear hsr hmem hown hg5 B4 M4
  go_wp2_with fail
  go_loopw [4, 15] (fun u i wr => ∃ k : Nat, k ≤ ks'.length ∧ i = .int .i64 k ∧ Byts w2.heap.size wr u (idxTo es ks' k) ∧ Onto w5 v4 u wr) (fun _ i _ => ks'.length - (intOf i).toNat)
  case atStart => exact ⟨0, Nat.zero_le _, rfl, B5.out, Onto.refl _ _⟩
  case round =>
    obtain ⟨k, hk, rfl, hB, hO⟩ := hrel
    have BB := Lib.hid hB
    have OO := Lib.hid hO
    have GG : Hid (w2.grownBy wr none) := Lib.hid (B5.out.only hO G5.out (Nat.le_refl _))
    have hzr := hO.1.size
    clear hB hO
    by_cases hlt : k < ks'.length
    · obtain ⟨q, off, x, rfl, hc0, hx0⟩ := (R5.out.grown OO.out.1 HNE.out).str_at hlt
      have MM := Lib.hid (M2.out.quiet GG.out)
      have hf := HRW.out k x hx0.out
      have hfx : f x ≠ [] := (HMF.out x).1 (List.mem_of_getElem? hx0.out)
      have h0 : 0 < (f x).length := List.length_pos_iff.2 hfx
      have hsx := HDZ.out x (List.mem_of_getElem? hx0.out)
      obtain ⟨hra, hrl, hrp⟩ := HRA.out k
      rw [← hf] at hra hrl hrp
      have HT1 : Hid (idxTo es ks' (k + 1) = idxTo es ks' k ++ blkP (postX (f x))) := Lib.hid (by rw [hf, idxTo])
      have hxl := HTL.out k (by omega)
      have HRA1 := Lib.hid hra
      have i1 : (k : Int) < (ks'.length : Int) := by omega
      have i2 : (0 : Int) ≤ (k : Int) := by omega
      clear hf hfx hx0 hra
      go_wp2_with (refine wpList_lookS rfl _ _ rfl rfl x rfl MM.out (by unfold SKey maxLen; omega) ?_; intro Av cv hov hback; have HOV := Lib.hid hov; clear hov hback)
      obtain ⟨Ar, cr, er, hcr, hmr, -, hrr⟩ := Rd.of_own HOV.out (by decide)
      injection er with e1 e2 e3
      subst e1 e3
      have RR := Lib.hid hrr
      clear hrr e2
      refine (listed_any w2.heap.size u4 (idxTo es ks' k) Av (f x) cv wr BB.out RR.out hrl h0 HRA1.out hcr hmr (by omega) (by omega)).mono ?_
      rintro e w7 ⟨v7, rfl, hB7, hO7⟩
      have B7 : Hid (Byts w2.heap.size w7 v7 (idxTo es ks' (k + 1))) := Lib.hid (by rw [HT1.out]; exact hB7)
      have O7 := Lib.hid (OO.out.trans hO7)
      clear hB7 hO7
      go_wp2_with fail
      go_roundw
      case rel => exact ⟨k + 1, by omega, by go_num, B7.out, O7.out⟩
      case measure => simp [intOf]; omega
    · have i1 : ¬ (k : Int) < (ks'.length : Int) := by omega
      have hkE : k = ks'.length := by omega
      have B9 : Hid (Byts w2.heap.size wr u4 (indexX es)) := Lib.hid (by rw [HIX.out, ← hkE]; exact BB.out)
      clear hkE
      go_wp2_with fail
      go_ret
      exact ⟨u4, rfl, B9.out.base hz2, only_trans G2.out GG.out⟩
end Go.Proofs.YtpaiideboodaeaaGreatDoor

namespace Go.Proofs.YtpaiideboodaeaaGreatDoor
open Go.RowKit
set_option linter.unusedVariables false
set_option linter.unusedSimpArgs false

set_option maxHeartbeats 2000000 in
theorem pget_any {S : Nat → Prop} (fa : Option Addr) (fields : List FieldD) (fc : Nat) (nm : ByteArray) (w : World) (hr : Rd S w fa (fields.flatMap FieldD.cells)) (hl : fields.length ≤ 1000000) :
    Calls Tryz.prog 112 #[.slice fa fields.length fc, .string nm] w (ValP w (getF fields nm)) := by
  have HR := Lib.hid hr
  clear hr
  go_enter Tryz.func112, Tryz.ntmps112
  go_wp2_with fail
  go_loopw [7, 10] (fun _ i wr => ∃ k : Nat, i = .int .i64 k ∧ k ≤ fields.length ∧ Hid (getF fields nm = getF (fields.drop k) nm) ∧ w.grownBy wr none) (fun _ i _ => fields.length - (intOf i).toNat)
  case atStart => exact ⟨0, rfl, Nat.zero_le _, Lib.hid rfl, only_refl _ _⟩
  case round =>
    obtain ⟨k, rfl, hk, HN, hG⟩ := hrel
    have G := Lib.hid hG
    clear hG
    by_cases hlt : k < fields.length
    · obtain ⟨y, hy⟩ : ∃ y, fields[k]? = some y := ⟨_, List.getElem?_eq_getElem hlt⟩
      obtain ⟨kb, ko, rfl, hkw, z0, z1⟩ := fld_in (HR.out.grown G.out (by simp)) hy
      have hd : fields.drop k = y :: fields.drop (k + 1) := by
        rw [List.getElem?_eq_getElem hlt] at hy
        injection hy with hy
        rw [← List.getElem_cons_drop hlt, hy]
      have i1 : (k : Int) < (fields.length : Int) := by omega
      by_cases he : y.name = nm
      · have q1 : (y.name.toList == nm.toList) = true := by rw [he]; simp
        have HV : Hid (getF fields nm = some y.value) := Lib.hid (by rw [HN.out, hd, getF, if_pos he])
        clear hy hd he
        go_wp2_with fail
        rw [HV.out]
        exact bodyPost_ret (v := valV (some y.value)) (by simp [results, Tryz.results112, go_sem, valV]) rfl ⟨rfl, only_alloc G.out _⟩
      · have q1 : (y.name.toList == nm.toList) = false := str_ne he
        have HV : Hid (getF fields nm = getF (fields.drop (k + 1)) nm) := Lib.hid (by rw [HN.out, hd, getF, if_neg he])
        clear hy hd he
        go_wp2_with fail
        go_roundw
        case rel => exact ⟨k + 1, by go_num, by omega, HV, only_alloc G.out _⟩
        case measure => simp [intOf]; omega
    · have i1 : ¬ (k : Int) < (fields.length : Int) := by omega
      have HV : Hid (getF fields nm = none) := Lib.hid (by rw [HN.out, List.drop_eq_nil_of_le (by omega)]; rfl)
      go_wp2_with fail
      rw [HV.out]
      exact bodyPost_ret (v := valV none) (by simp [results, Tryz.results112, go_sem, valV]) rfl ⟨rfl, G.out⟩
set_option maxHeartbeats 2000000 in
theorem eget_any {S : Nat → Prop} (e : Ev) (nm : ByteArray) (w : World) (hs : e.Sub S w) (hl : e.fields.length ≤ 1000000) :
    Calls Tryz.prog 62 #[.agg e.cells.toArray, .string nm] w (ValP w (getF e.fields nm)) := by
  have HG : Hid (∀ w', w.grownBy w' none → Calls Tryz.prog 112 #[.slice e.fa e.fields.length e.fc, .string nm] w' (ValP w' (getF e.fields nm))) := fun w' hg => pget_any e.fa e.fields e.fc nm w' (hs.2.1.grown hg (by simp)) hl
  clear hs hl
  obtain ⟨host, file, beg, fin, lines, time, weight, trace, stream, fields, la, lc, fa, fc⟩ := e
  simp only at HG
  obtain ⟨o, ho⟩ : ∃ o, o = getF fields nm := ⟨_, rfl⟩
  rw [← ho] at HG
  show Calls _ _ #[.agg #[.int .i64 host, .int .i64 file, .int .i64 beg, .int .i64 fin, .slice la lines.length lc, .int .i64 time, .int .i64 weight, .string trace, .string stream, .slice fa fields.length fc], .string nm] w (ValP w (getF fields nm))
  rw [← ho]
  clear ho
  go_enter Tryz.func62, Tryz.ntmps62
  go_wp2_with fail
  refine (HG.out _ (only_alloc (only_refl _ _) _)).mono ?_
  rintro e w1 ⟨rfl, hg⟩
  have G := Lib.hid (only_trans (only_alloc (only_refl _ _) _) hg)
  clear hg
  cases o with
  | none =>
    simp only [valV]
    go_wp2_with fail
    exact bodyPost_ret (v := valV none) (by simp [results, Tryz.results62, go_sem, valV]) rfl ⟨rfl, G.out⟩
  | some s =>
    simp only [valV]
    go_wp2_with fail
    exact bodyPost_ret (v := valV (some s)) (by simp [results, Tryz.results62, go_sem, valV]) rfl ⟨rfl, G.out⟩
end Go.Proofs.YtpaiideboodaeaaGreatDoor
