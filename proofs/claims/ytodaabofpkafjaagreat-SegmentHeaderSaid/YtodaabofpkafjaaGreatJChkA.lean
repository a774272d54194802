/- Names of fields, Sort, Same: the reference of chapter 11, at good fields. Conditions: good names. -/
import Derived.Test.YtodaabofpkafjaaGreatJSegT
import Derived.Deep.DeepCutAuto
import Derived.Test.YtodaabofpkafjaaGreatJGen
namespace Go.Proofs.YtodaabofpkafjaaGreat
open Go.RowKit
set_option linter.unusedVariables false
set_option linter.unusedSimpArgs false

def StayB (b : Bool) (w : World) (e : Ending) (w' : World) : Prop := e = .returned (.bool b) ∧ w' = w
set_option maxHeartbeats 1000000 in
theorem letter01 (c : Nat) (h1 : 97 ≤ c) (h2 : c ≤ 122) (w : World) : Calls Tryz.prog 116 #[.int .u8 (c : Int)] w (StayB true w) := by
  have i1 : (97 : Int) ≤ (c : Int) := by omega
  have i2 : (c : Int) ≤ 122 := by omega
  go_enter Tryz.func116, Tryz.ntmps116
  go_wp2_with fail
  go_ret
  exact ⟨rfl, rfl⟩
set_option maxHeartbeats 1000000 in
theorem digit01 (c : Nat) (h1 : 97 ≤ c) (h2 : c ≤ 122) (w : World) : Calls Tryz.prog 124 #[.int .u8 (c : Int)] w (StayB false w) := by
  have i1 : (48 : Int) ≤ (c : Int) := by omega
  have i2 : ¬ (c : Int) ≤ 57 := by omega
  have i3 : ¬ c ≤ 57 := by omega
  go_enter Tryz.func124, Tryz.ntmps124
  go_wp2_with fail
  go_ret
  exact ⟨rfl, rfl⟩
set_option maxHeartbeats 1000000 in
theorem word01 (c : Nat) (h1 : 97 ≤ c) (h2 : c ≤ 122) (w : World) : Calls Tryz.prog 117 #[.int .u8 (c : Int)] w (StayB true w) := by
  have KD := Lib.hid (digit01 c h1 h2 w)
  have KL := Lib.hid (letter01 c h1 h2 w)
  go_enter Tryz.func117, Tryz.ntmps117
  go_wp2_with fail
  refine KD.out.mono ?_
  rintro e w1 ⟨rfl, rfl⟩
  go_wp2_with fail
  refine KL.out.mono ?_
  rintro e w1 ⟨rfl, rfl⟩
  go_wp2_with fail
  go_ret
  exact ⟨rfl, rfl⟩
/-- a name of small letters -/
def LowName (s : ByteArray) : Prop := 1 ≤ s.size ∧ s.size ≤ 32 ∧ ∀ (k : Nat) (h : k < s.size), 97 ≤ (s[k]'h).toNat ∧ (s[k]'h).toNat ≤ 122
set_option maxHeartbeats 2000000 in
set_option maxRecDepth 100000 in
theorem fieldname_any (s : ByteArray) (hs : LowName s) (w : World) : Calls Tryz.prog 104 #[.string s] w (StayB true w) := by
  obtain ⟨h1, h2, h3⟩ := hs
  have H3 := Lib.hid h3
  have h0 : 0 < s.size := by omega
  have i0 : ¬ s.size < 1 := by omega
  have i00 : ¬ (s.size : Int) < 1 := by omega
  have i1 : ¬ (32 : Int) < (s.size : Int) := by omega
  have i2 : ¬ 32 < s.size := by omega
  have K0 := Lib.hid (letter01 (s[0]'h0).toNat (h3 0 h0).1 (h3 0 h0).2 w)
  have KW : Hid (∀ (k : Nat) (h : k < s.size), Calls Tryz.prog 117 #[.int .u8 ((s[k]'h).toNat : Int)] w (StayB true w)) := Lib.hid (fun k h => word01 _ (h3 k h).1 (h3 k h).2 w)
  clear h3
  go_enter Tryz.func104, Tryz.ntmps104
  go_wp2_with fail
  refine K0.out.mono ?_
  rintro e w1 ⟨rfl, rfl⟩
  go_wp2_with fail
  go_loopw [3] (fun vi wr => ∃ k : Nat, vi = .int .i64 k ∧ k ≤ s.size ∧ wr = w1) (fun vi _ => s.size - (intOf vi).toNat)
  case atStart => exact ⟨0, rfl, Nat.zero_le _, rfl⟩
  case round =>
    obtain ⟨k, rfl, hk, rfl⟩ := hrel
    by_cases hlt : k < s.size
    · have KK := Lib.hid (KW.out k hlt)
      have j1 : (k : Int) < (s.size : Int) := by omega
      go_wp2_with fail
      refine KK.out.mono ?_
      rintro e w1 ⟨rfl, rfl⟩
      go_wp2_with fail
      go_roundw
      case rel => exact ⟨k + 1, by go_num, by omega, trivial⟩
      case measure => simp [intOf]; omega
    · have j1 : ¬ (k : Int) < (s.size : Int) := by omega
      go_wp2_with fail
      go_ret
      exact ⟨rfl, rfl⟩
def QuietB (v : Value) (w : World) (e : Ending) (w' : World) : Prop := e = .returned v ∧ ∃ n, w' = w.drewN n
set_option maxHeartbeats 1000000 in
theorem fsame_true {S S' : Nat → Prop} (A B : Option Addr) (ls : List FieldD) (c d : Nat) (w : World) (ha : Rd S w A (ls.flatMap FieldD.cells)) (hb : Rd S' w B (ls.flatMap FieldD.cells)) (hl : ls.length ≤ 10000000) :
    Calls Tryz.prog 85 #[.slice A ls.length c, .slice B ls.length d] w (QuietB (.bool true) w) := by
  have HA := Lib.hid ha
  have HB := Lib.hid hb
  clear ha hb
  have t1 : ((ls.length : Int) != (ls.length : Int)) = false := by simp
  go_enter Tryz.func85, Tryz.ntmps85
  go_wp2
  go_loopw [5] (fun i wr => ∃ k : Nat, k ≤ ls.length ∧ i = .int .i64 k ∧ ∃ q, wr = w.drewN q) (fun i _ => ls.length - (intOf i).toNat)
  case atStart => exact ⟨0, Nat.zero_le _, rfl, 0, rfl⟩
  case round =>
    obtain ⟨k, hk, rfl, q, rfl⟩ := hrel
    by_cases hlt : k < ls.length
    · obtain ⟨x, hx⟩ : ∃ x, ls[k]? = some x := ⟨_, List.getElem?_eq_getElem hlt⟩
      obtain ⟨ba, oa, rfl, -, a0, a1⟩ := fld_in HA.out hx
      obtain ⟨bb, ob, rfl, -, b0, b1⟩ := fld_in HB.out hx
      have i1 : (k : Int) < (ls.length : Int) := by omega
      clear hx
      go_wp2
      go_quiet (fail)
      go_wp2
      go_roundw
      case rel => exact ⟨k + 1, by omega, by go_num, _, rfl⟩
      case measure => simp [intOf]; omega
    · have i1 : ¬ ((k : Int) < (ls.length : Int)) := by omega
      go_wp2
      go_ret
      exact ⟨rfl, _, rfl⟩
end Go.Proofs.YtodaabofpkafjaaGreat

namespace Go.Proofs.YtodaabofpkafjaaGreat
open Go.RowKit
set_option linter.unusedVariables false
set_option linter.unusedSimpArgs false

theorem set_sameZ {α : Type} {xs : List α} {i : Nat} {u : α} (h : xs[i]? = some u) : xs.set i u = xs := by
  apply List.ext_getElem?
  intro j
  rw [List.getElem?_set]
  split
  · rename_i e
    subst e
    split
    · exact h.symm
    · rename_i hn
      rw [List.getElem?_eq_none (by omega)] at h
      cases h
  · rfl
theorem own_block {w : World} {base e size k c : Nat} {A : Option Addr} {xs : List Value} (h : w.ownsRow base e size (.slice A (k + 1) c) (k + 1) xs) : ∃ g, A = some ⟨g, 0, none⟩ ∧ base ≤ g ∧ g < w.heap.size ∧ (∀ j u, xs[j]? = some u → w.cell? ⟨g, j, none⟩ = some u) ∧ ∀ j, w.frozen? ⟨g, j, none⟩ = false := by
  obtain ⟨hl, h2⟩ := h
  rcases h2 with ⟨h3, _⟩ | ⟨g, cap, cur, h3, h4, h5, h6, h7, h8, h9⟩
  · cases h3
  · injection h3 with e1 e2 e3
    refine ⟨g, e1, h4, (Array.getElem?_eq_some_iff.1 h5).1, fun j u hu => ?_, fun j => Blk.frozen h5 j⟩
    rw [Blk.cell h5 j, ← Array.getElem?_toList]
    rw [← h9, List.getElem?_take] at hu
    split at hu
    · exact hu
    · cases hu
theorem own_putz {w : World} {base e size g n c k : Nat} {xs : List Value} {u : Value} (h : w.ownsRow base e size (.slice (some ⟨g, 0, none⟩) n c) n xs) (hk : xs[k]? = some u) : (w.setCell ⟨g, k, none⟩ u).ownsRow base e size (.slice (some ⟨g, 0, none⟩) n c) n xs := by
  have h1 := own_putk (u := u) h (k := k) (by have := (List.getElem?_eq_some_iff.1 hk).1; rw [← h.1]; exact this)
  rw [set_sameZ hk] at h1
  exact h1
def SortP (w : World) (fs : List FieldD) (e : Ending) (w' : World) : Prop := ∃ A' c', e = .returned (.tuple #[.slice A' fs.length c', .int .i64 0]) ∧ Rd (w.heap.size ≤ ·) w' A' (fs.flatMap FieldD.cells) ∧ w.grownBy w' none
theorem flen2 (fs : List FieldD) : (fs.flatMap FieldD.cells).length = fs.length * 2 := flat_len _ 2 FieldD.cells_len fs
set_option maxHeartbeats 8000000 in
set_option maxRecDepth 100000 in
theorem fsort_any {S : Nat → Prop} (A : Option Addr) (fs : List FieldD) (c : Nat) (w : World) (h : Rd S w A (fs.flatMap FieldD.cells)) (hl : fs.length ≤ 32) (hn : ∀ f ∈ fs, LowName f.name) (hs : Srt (fs.map FieldD.name)) :
    Calls Tryz.prog 84 #[.slice A fs.length c] w (SortP w fs) := by
  have H := Lib.hid (h.mono (S' := fun b => b < w.heap.size) (fun b _ h => h))
  have KN := Lib.hid (fun (f : FieldD) (hf : f ∈ fs) (w' : World) => fieldname_any f.name (hn f hf) w')
  have HSL : Hid (∀ (k : Nat) (x y : FieldD), fs[k]? = some x → fs[k + 1]? = some y → sl x.name y.name = true) := Lib.hid (fun k x y hx hy => by
    obtain ⟨h1, h2⟩ := List.getElem?_eq_some_iff.1 hx
    obtain ⟨h3, h4⟩ := List.getElem?_eq_some_iff.1 hy
    have h5 := List.pairwise_iff_getElem.1 hs k (k + 1) (by simpa using h1) (by simpa using h3) (Nat.lt_succ_self k)
    simp only [List.getElem_map, h2, h4] at h5
    exact h5)
  have HSN : Hid (∀ (k : Nat) (y : FieldD), fs[k]? = some y → (fs.take (k + 1)).flatMap FieldD.cells = (fs.take k).flatMap FieldD.cells ++ y.cells) := Lib.hid (fun k y hy => flat_snoc FieldD.cells hy)
  have HSF := Lib.hid (flen2)
  have i0 : ¬ (32 : Int) < (fs.length : Int) := by omega
  have i00 : ¬ 32 < fs.length := by omega
  clear h hn hs
  go_enter Tryz.func84, Tryz.ntmps84
  go_wp2_with fail
  go_loopw [4] (fun vi wr => ∃ k : Nat, vi = .int .i64 k ∧ k ≤ fs.length ∧ wr = w) (fun vi _ => fs.length - (intOf vi).toNat)
  case atStart => exact ⟨0, rfl, Nat.zero_le _, rfl⟩
  case round =>
    obtain ⟨k, rfl, hk, rfl⟩ := hrel
    by_cases hlt : k < fs.length
    · obtain ⟨y, hy⟩ : ∃ y, fs[k]? = some y := ⟨_, List.getElem?_eq_getElem hlt⟩
      obtain ⟨fb, fo, rfl, -, f0, f1⟩ := fld_in H.out hy
      have K1 := Lib.hid (KN.out y (List.mem_of_getElem? hy) wr)
      have i1 : (k : Int) < (fs.length : Int) := by omega
      clear hy
      go_wp2_with fail
      refine K1.out.mono ?_
      rintro e w1 ⟨rfl, rfl⟩
      go_wp2_with fail
      go_roundw
      case rel => exact ⟨k + 1, by go_num, by omega, trivial⟩
      case measure => simp [intOf]; omega
    · have i1 : ¬ (k : Int) < (fs.length : Int) := by omega
      go_wp2_with fail
      obtain ⟨w, rfl⟩ : ∃ w : World, w = wr := ⟨_, rfl⟩
      go_loopw [5, 6] (fun v vi wr => ∃ k : Nat, vi = .int .i64 k ∧ k ≤ fs.length ∧ wr.ownsRow w.heap.size 60 2 v k ((fs.take k).flatMap FieldD.cells) ∧ w.grownBy wr none) (fun _ vi _ => fs.length - (intOf vi).toNat)
      case atStart => exact ⟨0, rfl, Nat.zero_le _, World.ownsRow_nil _ _ _ _, only_refl _ _⟩
      case round =>
        clear i1 hk hlt
        obtain ⟨k, rfl, hk, hO, hG⟩ := hrel
        obtain ⟨AO, cO, hv, h1, h2, -, h3⟩ := Rd.of_own hO (by decide)
        have OO := Lib.hid hO
        have G := Lib.hid hG
        have hbase : w.heap.size ≤ wr.heap.size := hG.size
        have R3 := Lib.hid h3
        rw [hv] at OO
        rw [hv]
        clear hO hG hv h3
        by_cases hlt : k < fs.length
        · obtain ⟨y, hy⟩ : ∃ y, fs[k]? = some y := ⟨_, List.getElem?_eq_getElem hlt⟩
          have HY := Lib.hid hy
          obtain ⟨fb, fo, eA, hfb, f0, f1⟩ := fld_in (H.out.grown G.out (by simp)) hy
          subst eA
          have HS1 := Lib.hid (HSN.out k y hy)
          have i1 : (k : Int) < (fs.length : Int) := by omega
          clear hy h1 h2
          go_wp2_with (at_builtin; go_must (refine wpList_append1 rfl _ _ 32 rfl w.heap.size Tryz.underlying32 fieldInfo rfl (by decide) (v := .slice AO k cO) (by rfl) (w0 := wr) (cs := #[.string y.name, .string y.value]) OO.out (by rfl) rfl (by simp [Value.oneCell']) (by decide) (by omega) (by omega) ?_); intro v5 w5 hown5 hg5 hob5; obtain ⟨A5, c5, rfl, -, -, -, -⟩ := Rd.of_own hown5 (by decide))
          have O5 : Hid (w5.ownsRow w.heap.size 60 2 (.slice A5 (k + 1) c5) (k + 1) ((fs.take (k + 1)).flatMap FieldD.cells)) := Lib.hid (by rw [HS1.out]; exact hown5)
          have G5 : Hid (w.grownBy w5 none) := Lib.hid (only_own G.out hg5 OO.out (Nat.le_refl _))
          clear hown5 hg5 hob5 f0 f1 OO G R3 hbase
          obtain ⟨g5, rfl, hgb, hgl, hcc, hff⟩ := own_block O5.out
          have HCC := Lib.hid hcc
          have HFF := Lib.hid hff
          obtain ⟨fb', fo', eA', hfb', f0, f1⟩ := fld_in (H.out.grown G5.out (by simp)) HY.out
          injection eA' with eA'
          injection eA' with e1 e2
          subst e1 e2
          clear hcc hff hfb'
          have HL0 : Hid (((fs.take (k + 1)).flatMap FieldD.cells)[k * 2]? = some (.string y.name)) := Lib.hid (by rw [HS1.out, List.getElem?_append_right (by rw [HSF.out, List.length_take]; omega), HSF.out, List.length_take]; rw [show k * 2 - min k fs.length * 2 = 0 by omega]; rfl)
          have HL1 : Hid (((fs.take (k + 1)).flatMap FieldD.cells)[k * 2 + 1]? = some (.string y.value)) := Lib.hid (by rw [HS1.out, List.getElem?_append_right (by rw [HSF.out, List.length_take]; omega), HSF.out, List.length_take]; rw [show k * 2 + 1 - min k fs.length * 2 = 1 by omega]; rfl)
          have p0 : w5.cell? ⟨g5, k * 2, none⟩ = some (.string y.name) := HCC.out _ _ HL0.out
          have p1 : w5.cell? ⟨g5, k * 2 + 1, none⟩ = some (.string y.value) := HCC.out _ _ HL1.out
          have z0 := HFF.out (k * 2)
          have z1 := HFF.out (k * 2 + 1)
          go_loopw [7] (fun vk wr => vk = .int .i64 k ∧ ∃ q, wr = w5.drewN q) (fun _ _ => 0)
          case atStart => exact ⟨rfl, 0, rfl⟩
          case round =>
            obtain ⟨rfl, q, rfl⟩ := hrel
            by_cases k0 : k = 0
            · subst k0
              have j1 : ¬ (0 : Int) < ((0 : Nat) : Int) := by omega
              simp only [Nat.zero_mul, Nat.add_zero, Nat.zero_add] at f0 f1 p0 p1 z0 z1
              go_wp2_with fail
              go_quiet (fail)
              go_upto_region 18 with fail
              obtain ⟨W9, hW9⟩ : ∃ W, W = ((w5.drewN (q + nq)).setCell ⟨g5, 0, none⟩ (.string y.name)).setCell ⟨g5, 1, none⟩ (.string y.value) := ⟨_, rfl⟩
              have hO9 : W9.ownsRow w.heap.size 60 2 (.slice (some ⟨g5, 0, none⟩) (0 + 1) c5) (0 + 1) ((fs.take (0 + 1)).flatMap FieldD.cells) := by
                rw [hW9]
                exact own_putz (own_putz (own_drewN O5.out (q + nq)) HL0.out) HL1.out
              have hg9 : w5.grownBy W9 (some g5) := by rw [hW9]; exact only_setCell (g := g5) (only_setCell (g := g5) (only_drewN (only_refl _ _) (q + nq)) (p := ⟨g5, 0, none⟩) (.inl rfl) _) (p := ⟨g5, 1, none⟩) (.inl rfl) _
              have O9 := Lib.hid hO9
              have G9 : Hid (w.grownBy W9 none) := Lib.hid (only_fresh G5.out hg9 hgb)
              rw [← hW9]
              clear hW9 hO9 hg9 p0 p1 z0 z1 f0 f1
              obtain ⟨fb', fo', eA', hfb', f0, f1⟩ := fld_in (H.out.grown G9.out (by simp)) HY.out
              injection eA' with eA'
              injection eA' with e1 e2
              subst e1 e2
              simp only [Nat.zero_mul, Nat.add_zero, Nat.zero_add] at f0 f1
              go_quiet (fail)
              go_wp2_with fail
              go_roundw
              case rel => exact ⟨0 + 1, by go_num, by omega, own_drewN O9.out _, only_drewN G9.out _⟩
              case measure => simp [intOf]; omega
            · obtain ⟨m, rfl⟩ : ∃ m, k = m + 1 := ⟨k - 1, by omega⟩
              obtain ⟨x, hx⟩ : ∃ x, fs[m]? = some x := ⟨_, List.getElem?_eq_getElem (by omega)⟩
              have hsl := HSL.out m x y hx HY.out
              have s1 : Op.bytesLess x.name.toList y.name.toList = true := hsl
              have s2 : Op.bytesLess y.name.toList x.name.toList = false := sl_asymm hsl
              have s3 : (x.name.toList == y.name.toList) = false := by rw [beq_eq_false_iff_ne]; intro e; rw [e, bl_irrefl] at s1; cases s1
              have s4 : (y.name.toList == x.name.toList) = false := by rw [beq_eq_false_iff_ne]; intro e; rw [e, bl_irrefl] at s1; cases s1
              have pm : w5.cell? ⟨g5, m * 2, none⟩ = some (.string x.name) := by
                obtain ⟨b', o', e', -, q0, -⟩ := fld_in (rd_ownG O5.out (by decide)) (i := m) (y := x) (by rw [List.getElem?_take, if_pos (by omega)]; exact hx)
                injection e' with e'
                injection e' with e1 e2
                subst e1 e2
                simpa using q0
              have j1 : (0 : Int) < ((m : Nat) : Int) + 1 := by omega
              have j2 : (m : Int) < (fs.length : Int) := by omega
              have j3 : (0 : Int) ≤ (m : Int) := by omega
              have HXM := Lib.hid hx
              clear hx hsl
              go_wp2_with fail
              go_quiet (fail)
              go_upto_region 18 with fail
              obtain ⟨W9, hW9⟩ : ∃ W, W = ((w5.drewN (q + nq)).setCell ⟨g5, (m + 1) * 2, none⟩ (.string y.name)).setCell ⟨g5, (m + 1) * 2 + 1, none⟩ (.string y.value) := ⟨_, rfl⟩
              have hO9 : W9.ownsRow w.heap.size 60 2 (.slice (some ⟨g5, 0, none⟩) (m + 1 + 1) c5) (m + 1 + 1) ((fs.take (m + 1 + 1)).flatMap FieldD.cells) := by
                rw [hW9]
                exact own_putz (own_putz (own_drewN O5.out (q + nq)) HL0.out) HL1.out
              have hg9 : w5.grownBy W9 (some g5) := by rw [hW9]; exact only_setCell (g := g5) (only_setCell (g := g5) (only_drewN (only_refl _ _) (q + nq)) (p := ⟨g5, (m + 1) * 2, none⟩) (.inl rfl) _) (p := ⟨g5, (m + 1) * 2 + 1, none⟩) (.inl rfl) _
              have O9 := Lib.hid hO9
              have G9 : Hid (w.grownBy W9 none) := Lib.hid (only_fresh G5.out hg9 hgb)
              rw [← hW9]
              clear hW9 hO9 hg9 p0 p1 z0 z1 f0 f1 pm
              obtain ⟨fb', fo', eA', hfb', f0, f1⟩ := fld_in (H.out.grown G9.out (by simp)) HY.out
              injection eA' with eA'
              injection eA' with e1 e2
              subst e1 e2
              obtain ⟨b', o', e', -, pm, -⟩ := fld_in (rd_ownG O9.out (by decide)) (i := m) (y := x) (by rw [List.getElem?_take, if_pos (by omega)]; exact HXM.out)
              injection e' with e'
              injection e' with e1 e2
              subst e1 e2
              simp only [Nat.zero_add] at pm
              go_quiet (fail)
              go_wp2_with fail
              go_roundw
              case rel => exact ⟨m + 1 + 1, by go_num, by omega, own_drewN O9.out _, only_drewN G9.out _⟩
              case measure => simp [intOf]; omega
        · have i1 : ¬ (k : Int) < (fs.length : Int) := by omega
          have hkE : k = fs.length := by omega
          have R4 : Hid (Rd (w.heap.size ≤ ·) wr AO (fs.flatMap FieldD.cells)) := Lib.hid (by have h := R3.out; rw [List.take_of_length_le (by omega)] at h; exact h)
          go_wp2_with fail
          go_ret2
          exact ⟨AO, cO, rfl, R4.out, G.out⟩
end Go.Proofs.YtodaabofpkafjaaGreat
