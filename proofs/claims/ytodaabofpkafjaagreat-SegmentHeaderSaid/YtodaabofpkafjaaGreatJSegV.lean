/- values: the reference of chapter 27. Conditions: sizes. -/
import Derived.Test.YtodaabofpkafjaaGreatJSegW
namespace Go.Proofs.YtodaabofpkafjaaGreat
open Go.RowKit
set_option linter.unusedVariables false
set_option linter.unusedSimpArgs false

/-- two rows that share no block -/
def Apt (a b : Value) : Prop := ∀ g, a.ownBlock = some g → b.ownBlock ≠ some g
theorem Apt.symm {a b : Value} (h : Apt a b) : Apt b a := fun g h1 h2 => h g h2 h1
theorem Apt.step {a b b' : Value} {n : Nat} (h : Apt a b) (hob : b'.ownBlock = b.ownBlock ∨ b'.ownBlock = some n) (hlt : ∀ g, a.ownBlock = some g → g < n) : Apt a b' := by
  intro g h1 h2
  rcases hob with e | e
  · exact h g h1 (e ▸ h2)
  · rw [e] at h2
    injection h2 with h2
    have := hlt g h1
    omega
theorem Apt.keep {w w' : World} {a b : Value} {base e size n : Nat} {xs : List Value} (h : Apt a b) (ho : w.ownsRow base e size a n xs) (hg : w.grownBy w' b.ownBlock) : w'.ownsRow base e size a n xs :=
  ho.kept hg (by
    cases ha : a.ownBlock with
    | none => exact .inl rfl
    | some g => exact .inr (fun hc => h g ha hc.symm))
def valsTo (es : List Ev) (nm : ByteArray) : Nat → List (Nat × ByteArray)
  | 0 => []
  | k + 1 => valsTo es nm k ++ (match es[k]? with
    | some e => (match getF e.fields nm with
      | some v => [(k, v)]
      | none => [])
    | none => [])
theorem valsTo_some {es : List Ev} {nm v : ByteArray} {k : Nat} {e : Ev} (h : es[k]? = some e) (hv : getF e.fields nm = some v) : valsTo es nm (k + 1) = valsTo es nm k ++ [(k, v)] := by
  simp only [valsTo, h, hv]
theorem valsTo_none {es : List Ev} {nm : ByteArray} {k : Nat} {e : Ev} (h : es[k]? = some e) (hv : getF e.fields nm = none) : valsTo es nm (k + 1) = valsTo es nm k := by
  simp only [valsTo, h, hv, List.append_nil]
theorem valsTo_len (es : List Ev) (nm : ByteArray) : ∀ k, (valsTo es nm k).length ≤ k
  | 0 => Nat.le_refl _
  | k + 1 => by
    have h := valsTo_len es nm k
    simp only [valsTo, List.length_append]
    split
    · split <;> simp <;> omega
    · simp; omega
def posV (ps : List (Nat × ByteArray)) : List Int := ps.map (fun p => (p.1 : Int))
def strV (ps : List (Nat × ByteArray)) : List ByteArray := ps.map (·.2)
def ValsP (w : World) (ps : List (Nat × ByteArray)) (e : Ending) (w' : World) : Prop :=
  ∃ A c B d, e = .returned (.tuple #[.slice A ps.length c, .slice B ps.length d]) ∧ ps.length ≤ c ∧ c ≤ maxLen ∧ ps.length ≤ d ∧ d ≤ maxLen ∧ Rd (w.heap.size ≤ ·) w' A ((posV ps).map (.int .i64)) ∧ Rd (w.heap.size ≤ ·) w' B ((strV ps).map .string) ∧ w.grownBy w' none
set_option maxHeartbeats 8000000 in
set_option maxRecDepth 100000 in
theorem values_any {S : Nat → Prop} (A : Option Addr) (es : List Ev) (c : Nat) (nm : ByteArray) (w : World) (hev : Evs S w A es) (hel : es.length ≤ 2000) (hs : ∀ e ∈ es, EvS e) :
    Calls Tryz.prog 89 #[.slice A es.length c, .string nm] w (ValsP w (valsTo es nm es.length)) := by
  have HEV := Lib.hid hev
  have KG : Hid (∀ (e : Ev) (w' : World), e ∈ es → w.grownBy w' none → Calls Tryz.prog 107 #[.slice e.fa e.fields.length e.fc, .string nm] w' (ValP w' (getF e.fields nm))) := Lib.hid (fun e w' he hg => rget_any e.fa e.fields e.fc nm w' ((hev.2 e he).2.1.grown hg (by simp)) (by have := (hs e he).2.2.2.1; omega))
  have HPL := Lib.hid (valsTo_len es nm)
  obtain ⟨R, hR⟩ : ∃ r, r = valsTo es nm es.length := ⟨_, rfl⟩
  have HR := Lib.hid hR
  rw [← hR]
  clear hev hs hR
  go_enter Tryz.func89, Tryz.ntmps89
  go_wp2_with fail
  go_loopw [6, 7, 8] (fun vI vS vi wr => ∃ (k : Nat) (ps : List (Nat × ByteArray)), vi = .int .i64 k ∧ k ≤ es.length ∧ Hid (valsTo es nm k = ps) ∧ wr.ownsRow w.heap.size 3 1 vI ps.length ((posV ps).map (.int .i64)) ∧ wr.ownsRow w.heap.size 9 1 vS ps.length ((strV ps).map .string) ∧ Apt vI vS ∧ w.grownBy wr none) (fun _ _ vi _ => es.length - (intOf vi).toNat)
  case atStart => exact ⟨0, [], rfl, Nat.zero_le _, Lib.hid rfl, World.ownsRow_nil _ _ _ _, World.ownsRow_nil _ _ _ _, fun g h => by simp [Value.ownBlock] at h, only_refl _ _⟩
  case round =>
    obtain ⟨k, ps, rfl, hk, HK, hO1, hO2, hA, hG⟩ := hrel
    have OI := Lib.hid hO1
    have OS := Lib.hid hO2
    have HA := Lib.hid hA
    have G := Lib.hid hG
    have hbase : w.heap.size ≤ wr.heap.size := hG.size
    have hpl : ps.length ≤ k := by rw [← HK.out]; exact HPL.out k
    obtain ⟨vI, hvI⟩ : ∃ v, v = u6 := ⟨_, rfl⟩
    obtain ⟨vS, hvS⟩ : ∃ v, v = u7 := ⟨_, rfl⟩
    rw [← hvI] at OI HA ⊢
    rw [← hvS] at OS HA ⊢
    clear hO1 hO2 hA hG hvI hvS
    by_cases hlt : k < es.length
    · obtain ⟨y, hy⟩ : ∃ y, es[k]? = some y := ⟨_, List.getElem?_eq_getElem hlt⟩
      have HY := Lib.hid hy
      obtain ⟨kb, ko, eE, hkw, -, -, -, -, -, -, -, -, -, z9⟩ := ev_in (HEV.out.1.grown G.out (by simp)) hy
      subst eE
      have K1 := Lib.hid (KG.out y wr (List.mem_of_getElem? hy) G.out)
      have i1 : (k : Int) < (es.length : Int) := by omega
      clear hy
      go_wp2_with fail
      refine K1.out.mono ?_
      rintro e w2 ⟨rfl, hg2⟩
      have G2 := Lib.hid (only_trans G.out hg2)
      have OI2 := Lib.hid (own_ext OI.out hg2)
      have OS2 := Lib.hid (own_ext OS.out hg2)
      have hb2 := G2.out.size
      clear hg2 K1 z9
      cases hgv : getF y.fields nm with
      | none =>
        have HN := Lib.hid (valsTo_none HY.out hgv)
        clear hgv
        simp only [valV]
        go_wp2_with fail
        go_roundw
        case rel => exact ⟨k + 1, ps, by go_num, by omega, Lib.hid (by rw [HN.out, HK.out]), OI2.out, OS2.out, HA.out, G2.out⟩
        case measure => simp [intOf]; omega
      | some s =>
        have HN := Lib.hid (valsTo_some HY.out hgv)
        have HLI : Hid (∀ g, vI.ownBlock = some g → g < w2.heap.size) := Lib.hid (fun g h => (World.ownsRow.lt OI2.out g h).2)
        have HLS : Hid (∀ g, vS.ownBlock = some g → g < w2.heap.size) := Lib.hid (fun g h => (World.ownsRow.lt OS2.out g h).2)
        clear hgv
        simp only [valV]
        go_wp2_with (at_builtin; first
          | (refine wpList_append1 rfl _ _ 47 rfl w.heap.size Tryz.underlying47 intInfoS rfl (by decide) (v := vI) (by rfl) (w0 := w2) (cs := #[.int .i64 (k : Nat)]) OI2.out (by rfl) rfl (by simp [Value.oneCell']) (by decide) (by omega) (by omega) ?_
             intro v5 w5 hown5 hg5 hob5
             have OI5 : Hid (w5.ownsRow w.heap.size 3 1 v5 (ps ++ [(k, s)]).length ((posV (ps ++ [(k, s)])).map (.int .i64))) := Lib.hid (by
               unfold posV
               rw [List.length_append, List.map_append, List.map_append]
               exact hown5)
             have OS5 := Lib.hid (HA.out.symm.keep OS2.out hg5)
             have HA5 : Hid (Apt v5 vS) := Lib.hid ((HA.out.symm.step hob5 (fun g h => by have := HLS.out g h; omega)).symm)
             have G5 : Hid (w.grownBy w5 none) := Lib.hid (only_own G2.out hg5 OI2.out (Nat.le_refl _))
             have hb5 := G5.out.size
             have HLI5 : Hid (∀ g, v5.ownBlock = some g → g < w5.heap.size) := Lib.hid (fun g h => (World.ownsRow.lt OI5.out g h).2)
             clear hown5 hg5 hob5)
          | (go_must (refine wpList_append1 rfl _ _ 29 rfl w.heap.size Tryz.underlying29 strInfo rfl (by decide) (v := vS) (by rfl) (w0 := w5) (cs := #[.string s]) OS5.out (by rfl) rfl (by simp [Value.oneCell']) (by decide) (by omega) (by omega) ?_)
             intro v6 w6 hown6 hg6 hob6))
        have OS6 : Hid (w6.ownsRow w.heap.size 9 1 v6 (ps ++ [(k, s)]).length ((strV (ps ++ [(k, s)])).map .string)) := Lib.hid (by
          unfold strV
          rw [List.length_append, List.map_append, List.map_append]
          exact hown6)
        have OI6 := Lib.hid (HA5.out.keep OI5.out hg6)
        have HA6 : Hid (Apt v5 v6) := Lib.hid (HA5.out.step hob6 (fun g h => by have := HLI5.out g h; omega))
        have G6 : Hid (w.grownBy w6 none) := Lib.hid (only_own G5.out hg6 OS5.out (Nat.le_refl _))
        clear hown6 hg6 hob6
        go_wp2_with fail
        go_roundw
        case rel => exact ⟨k + 1, ps ++ [(k, s)], by go_num, by omega, Lib.hid (by rw [HN.out, HK.out]), OI6.out, OS6.out, HA6.out, G6.out⟩
        case measure => simp [intOf]; omega
    · have i1 : ¬ (k : Int) < (es.length : Int) := by omega
      have HE : Hid (R = ps) := Lib.hid (by rw [HR.out, ← HK.out, show k = es.length from by omega])
      obtain ⟨A1, c1, hv1, h1, h2, -, h3⟩ := Rd.of_own OI.out (by decide)
      obtain ⟨A2, c2, hv2, h4, h5, -, h6⟩ := Rd.of_own OS.out (by decide)
      have R1 := Lib.hid h3
      have R2 := Lib.hid h6
      have H12 := Lib.hid (And.intro h1 h2)
      have H45 := Lib.hid (And.intro h4 h5)
      rw [hv1, hv2]
      clear hv1 hv2 h1 h2 h3 h4 h5 h6 OI OS
      go_wp2_with fail
      go_ret2
      rw [HE.out]
      exact ⟨A1, c1, A2, c2, rfl, H12.out.1, H12.out.2, H45.out.1, H45.out.2, R1.out, R2.out, G.out⟩
end Go.Proofs.YtodaabofpkafjaaGreat

namespace Go.Proofs.YtodaabofpkafjaaGreat
open Go.RowKit
set_option linter.unusedVariables false
set_option linter.unusedSimpArgs false

/-- the number of an event that a section asks for -/
def numX (e : Ev) (j : Nat) : Int :=
  if j = 1 then e.host else if j = 2 then e.file else if j = 3 then e.beg else if j = 4 then e.fin else if j = 5 then e.time else if j = 6 then e.weight else 0
set_option maxHeartbeats 4000000 in
set_option maxRecDepth 100000 in
theorem number_any (e : Ev) (j : Nat) (w : World) (h1 : 1 ≤ j) (h6 : j ≤ 6) :
    Calls Tryz.prog 60 #[.agg e.cells.toArray, .int .i64 j] w (fun e' w' => e' = .returned (.int .i64 (numX e j)) ∧ w.grownBy w' none) := by
  obtain ⟨host, file, beg, fin, lines, time, weight, trace, stream, fields, la, lc, fa, fc⟩ := e
  have h : j = 1 ∨ j = 2 ∨ j = 3 ∨ j = 4 ∨ j = 5 ∨ j = 6 := by omega
  show Calls _ _ #[.agg #[.int .i64 host, .int .i64 file, .int .i64 beg, .int .i64 fin, .slice la lines.length lc, .int .i64 time, .int .i64 weight, .string trace, .string stream, .slice fa fields.length fc], .int .i64 j] w _
  rcases h with rfl | rfl | rfl | rfl | rfl | rfl
  all_goals
    go_enter Tryz.func60, Tryz.ntmps60
    go_wp2_with fail
    go_ret
    exact ⟨rfl, only_alloc (only_refl _ _) _⟩
end Go.Proofs.YtodaabofpkafjaaGreat
