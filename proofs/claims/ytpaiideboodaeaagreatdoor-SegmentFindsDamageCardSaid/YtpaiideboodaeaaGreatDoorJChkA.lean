/- Names of fields, Sort, Same: the reference of chapter 11, at good fields. Conditions: good names. -/
import Derived.Test.YtpaiideboodaeaaGreatDoorJSegG
import Derived.Deep.DeepCutAuto
import Derived.Test.YtpaiideboodaeaaGreatDoorJGenC
import Derived.Test.YtpaiideboodaeaaGreatDoorJIdxP
import Derived.ArgAppend
namespace Go.Proofs.YtpaiideboodaeaaGreatDoor
open Go.RowKit
set_option linter.unusedVariables false
set_option linter.unusedSimpArgs false

def StayB (b : Bool) (w : World) (e : Ending) (w' : World) : Prop := e = .returned (.bool b) ∧ w' = w
set_option maxHeartbeats 1000000 in
theorem letter01 (c : Nat) (h1 : 97 ≤ c) (h2 : c ≤ 122) (w : World) : Calls Tryz.prog 224 #[.int .u8 (c : Int)] w (StayB true w) := by
  have i1 : (97 : Int) ≤ (c : Int) := by omega
  have i2 : (c : Int) ≤ 122 := by omega
  go_enter Tryz.func224, Tryz.ntmps224
  go_wp2_with fail
  go_ret
  exact ⟨rfl, rfl⟩
set_option maxHeartbeats 1000000 in
theorem digit01 (c : Nat) (h1 : 97 ≤ c) (h2 : c ≤ 122) (w : World) : Calls Tryz.prog 242 #[.int .u8 (c : Int)] w (StayB false w) := by
  have i1 : (48 : Int) ≤ (c : Int) := by omega
  have i2 : ¬ (c : Int) ≤ 57 := by omega
  have i3 : ¬ c ≤ 57 := by omega
  go_enter Tryz.func242, Tryz.ntmps242
  go_wp2_with fail
  go_ret
  exact ⟨rfl, rfl⟩
set_option maxHeartbeats 1000000 in
theorem word01 (c : Nat) (h1 : 97 ≤ c) (h2 : c ≤ 122) (w : World) : Calls Tryz.prog 225 #[.int .u8 (c : Int)] w (StayB true w) := by
  have KD := Lib.hid (digit01 c h1 h2 w)
  have KL := Lib.hid (letter01 c h1 h2 w)
  go_enter Tryz.func225, Tryz.ntmps225
  go_wp2_with fail
  refine KD.out.mono ?_
  rintro e w1 ⟨rfl, rfl⟩
  go_wp2_with fail
  refine KL.out.mono ?_
  rintro e w1 ⟨rfl, rfl⟩
  go_wp2_with fail
  go_ret
  exact ⟨rfl, rfl⟩
/-- a name of small letters -/
def LowName (s : ByteArray) : Prop := 1 ≤ s.size ∧ s.size ≤ 32 ∧ ∀ (k : Nat) (h : k < s.size), 97 ≤ (s[k]'h).toNat ∧ (s[k]'h).toNat ≤ 122
set_option maxHeartbeats 2000000 in
set_option maxRecDepth 100000 in
theorem fieldname_any (s : ByteArray) (hs : LowName s) (w : World) : Calls Tryz.prog 194 #[.string s] w (StayB true w) := by
  obtain ⟨h1, h2, h3⟩ := hs
  have H3 := Lib.hid h3
  have h0 : 0 < s.size := by omega
  have i0 : ¬ s.size < 1 := by omega
  have i00 : ¬ (s.size : Int) < 1 := by omega
  have i1 : ¬ (32 : Int) < (s.size : Int) := by omega
  have i2 : ¬ 32 < s.size := by omega
  have K0 := Lib.hid (letter01 (s[0]'h0).toNat (h3 0 h0).1 (h3 0 h0).2 w)
  have KW : Hid (∀ (k : Nat) (h : k < s.size), Calls Tryz.prog 225 #[.int .u8 ((s[k]'h).toNat : Int)] w (StayB true w)) := Lib.hid (fun k h => word01 _ (h3 k h).1 (h3 k h).2 w)
  clear h3
  go_enter Tryz.func194, Tryz.ntmps194
  go_wp2_with fail
  refine K0.out.mono ?_
  rintro e w1 ⟨rfl, rfl⟩
  go_wp2_with fail
  go_loopw [3] (fun vi wr => ∃ k : Nat, vi = .int .i64 k ∧ k ≤ s.size ∧ wr = w1) (fun vi _ => s.size - (intOf vi).toNat)
  case atStart => exact ⟨0, rfl, Nat.zero_le _, rfl⟩
  case round =>
    obtain ⟨k, rfl, hk, rfl⟩ := hrel
    by_cases hlt : k < s.size
    · have KK := Lib.hid (KW.out k hlt)
      have j1 : (k : Int) < (s.size : Int) := by omega
      go_wp2_with fail
      refine KK.out.mono ?_
      rintro e w1 ⟨rfl, rfl⟩
      go_wp2_with fail
      go_roundw
      case rel => exact ⟨k + 1, by go_num, by omega, trivial⟩
      case measure => simp [intOf]; omega
    · have j1 : ¬ (k : Int) < (s.size : Int) := by omega
      go_wp2_with fail
      go_ret
      exact ⟨rfl, rfl⟩
def QuietB (v : Value) (w : World) (e : Ending) (w' : World) : Prop := e = .returned v ∧ ∃ n, w' = w.drewN n
set_option maxHeartbeats 1000000 in
theorem fsame_true {S S' : Nat → Prop} (A B : Option Addr) (ls : List FieldD) (c d : Nat) (w : World) (ha : Rd S w A (ls.flatMap FieldD.cells)) (hb : Rd S' w B (ls.flatMap FieldD.cells)) (hl : ls.length ≤ 10000000) :
    Calls Tryz.prog 145 #[.slice A ls.length c, .slice B ls.length d] w (QuietB (.bool true) w) := by
  have HA := Lib.hid ha
  have HB := Lib.hid hb
  clear ha hb
  have t1 : ((ls.length : Int) != (ls.length : Int)) = false := by simp
  go_enter Tryz.func145, Tryz.ntmps145
  go_wp2
  go_loopw [5] (fun i wr => ∃ k : Nat, k ≤ ls.length ∧ i = .int .i64 k ∧ ∃ q, wr = w.drewN q) (fun i _ => ls.length - (intOf i).toNat)
  case atStart => exact ⟨0, Nat.zero_le _, rfl, 0, rfl⟩
  case round =>
    obtain ⟨k, hk, rfl, q, rfl⟩ := hrel
    by_cases hlt : k < ls.length
    · obtain ⟨x, hx⟩ : ∃ x, ls[k]? = some x := ⟨_, List.getElem?_eq_getElem hlt⟩
      obtain ⟨ba, oa, rfl, -, a0, a1⟩ := fld_in HA.out hx
      obtain ⟨bb, ob, rfl, -, b0, b1⟩ := fld_in HB.out hx
      have i1 : (k : Int) < (ls.length : Int) := by omega
      clear hx
      go_wp2
      go_quiet (fail)
      go_wp2
      go_roundw
      case rel => exact ⟨k + 1, by omega, by go_num, _, rfl⟩
      case measure => simp [intOf]; omega
    · have i1 : ¬ ((k : Int) < (ls.length : Int)) := by omega
      go_wp2
      go_ret
      exact ⟨rfl, _, rfl⟩
end Go.Proofs.YtpaiideboodaeaaGreatDoor

namespace Go.Proofs.YtpaiideboodaeaaGreatDoor
open Go.RowKit
set_option linter.unusedVariables false
set_option linter.unusedSimpArgs false

theorem set_sameZ {α : Type} {xs : List α} {i : Nat} {u : α} (h : xs[i]? = some u) : xs.set i u = xs := by
  apply List.ext_getElem?
  intro j
  rw [List.getElem?_set]
  split
  · rename_i e
    subst e
    split
    · exact h.symm
    · rename_i hn
      rw [List.getElem?_eq_none (by omega)] at h
      cases h
  · rfl
theorem own_block {w : World} {base e size k c : Nat} {A : Option Addr} {xs : List Value} (h : w.ownsRow base e size (.slice A (k + 1) c) (k + 1) xs) : ∃ g, A = some ⟨g, 0, none⟩ ∧ base ≤ g ∧ g < w.heap.size ∧ (∀ j u, xs[j]? = some u → w.cell? ⟨g, j, none⟩ = some u) ∧ ∀ j, w.frozen? ⟨g, j, none⟩ = false := by
  obtain ⟨hl, h2⟩ := h
  rcases h2 with ⟨h3, _⟩ | ⟨g, cap, cur, h3, h4, h5, h6, h7, h8, h9⟩
  · cases h3
  · injection h3 with e1 e2 e3
    refine ⟨g, e1, h4, (Array.getElem?_eq_some_iff.1 h5).1, fun j u hu => ?_, fun j => Blk.frozen h5 j⟩
    rw [Blk.cell h5 j, ← Array.getElem?_toList]
    rw [← h9, List.getElem?_take] at hu
    split at hu
    · exact hu
    · cases hu
theorem own_putz {w : World} {base e size g n c k : Nat} {xs : List Value} {u : Value} (h : w.ownsRow base e size (.slice (some ⟨g, 0, none⟩) n c) n xs) (hk : xs[k]? = some u) : (w.setCell ⟨g, k, none⟩ u).ownsRow base e size (.slice (some ⟨g, 0, none⟩) n c) n xs := by
  have h1 := own_putk (u := u) h (k := k) (by have := (List.getElem?_eq_some_iff.1 hk).1; rw [← h.1]; exact this)
  rw [set_sameZ hk] at h1
  exact h1
def SortP (w : World) (fs : List FieldD) (e : Ending) (w' : World) : Prop := ∃ A' c', e = .returned (.tuple #[.slice A' fs.length c', .int .i64 0]) ∧ Rd (w.heap.size ≤ ·) w' A' (fs.flatMap FieldD.cells) ∧ w.grownBy w' none
theorem flen2 (fs : List FieldD) : (fs.flatMap FieldD.cells).length = fs.length * 2 := flat_len _ 2 FieldD.cells_len fs
set_option maxHeartbeats 8000000 in
set_option maxRecDepth 100000 in
theorem fsort_any {S : Nat → Prop} (A : Option Addr) (fs : List FieldD) (c : Nat) (w : World) (h : Rd S w A (fs.flatMap FieldD.cells)) (hl : fs.length ≤ 32) (hn : ∀ f ∈ fs, LowName f.name) (hs : Srt (fs.map FieldD.name)) :
    Calls Tryz.prog 144 #[.slice A fs.length c] w (SortP w fs) := by
  have H := Lib.hid (h.mono (S' := fun b => b < w.heap.size) (fun b _ h => h))
  have KN := Lib.hid (fun (f : FieldD) (hf : f ∈ fs) (w' : World) => fieldname_any f.name (hn f hf) w')
  have HSL : Hid (∀ (k : Nat) (x y : FieldD), fs[k]? = some x → fs[k + 1]? = some y → sl x.name y.name = true) := Lib.hid (fun k x y hx hy => by
    obtain ⟨h1, h2⟩ := List.getElem?_eq_some_iff.1 hx
    obtain ⟨h3, h4⟩ := List.getElem?_eq_some_iff.1 hy
    have h5 := List.pairwise_iff_getElem.1 hs k (k + 1) (by simpa using h1) (by simpa using h3) (Nat.lt_succ_self k)
    simp only [List.getElem_map, h2, h4] at h5
    exact h5)
  have HSN : Hid (∀ (k : Nat) (y : FieldD), fs[k]? = some y → (fs.take (k + 1)).flatMap FieldD.cells = (fs.take k).flatMap FieldD.cells ++ y.cells) := Lib.hid (fun k y hy => flat_snoc FieldD.cells hy)
  have HSF := Lib.hid (flen2)
  have i0 : ¬ (32 : Int) < (fs.length : Int) := by omega
  have i00 : ¬ 32 < fs.length := by omega
  clear h hn hs
  go_enter Tryz.func144, Tryz.ntmps144
  go_wp2_with fail
  go_loopw [4] (fun vi wr => ∃ k : Nat, vi = .int .i64 k ∧ k ≤ fs.length ∧ wr = w) (fun vi _ => fs.length - (intOf vi).toNat)
  case atStart => exact ⟨0, rfl, Nat.zero_le _, rfl⟩
  case round =>
    obtain ⟨k, rfl, hk, rfl⟩ := hrel
    by_cases hlt : k < fs.length
    · obtain ⟨y, hy⟩ : ∃ y, fs[k]? = some y := ⟨_, List.getElem?_eq_getElem hlt⟩
      obtain ⟨fb, fo, rfl, -, f0, f1⟩ := fld_in H.out hy
      have K1 := Lib.hid (KN.out y (List.mem_of_getElem? hy) wr)
      have i1 : (k : Int) < (fs.length : Int) := by omega
      clear hy
      go_wp2_with fail
      refine K1.out.mono ?_
      rintro e w1 ⟨rfl, rfl⟩
      go_wp2_with fail
      go_roundw
      case rel => exact ⟨k + 1, by go_num, by omega, trivial⟩
      case measure => simp [intOf]; omega
    · have i1 : ¬ (k : Int) < (fs.length : Int) := by omega
      go_wp2_with fail
      obtain ⟨w, rfl⟩ : ∃ w : World, w = wr := ⟨_, rfl⟩
      go_loopw [5, 6] (fun v vi wr => ∃ k : Nat, vi = .int .i64 k ∧ k ≤ fs.length ∧ wr.ownsRow w.heap.size 85 2 v k ((fs.take k).flatMap FieldD.cells) ∧ w.grownBy wr none) (fun _ vi _ => fs.length - (intOf vi).toNat)
      case atStart => exact ⟨0, rfl, Nat.zero_le _, World.ownsRow_nil _ _ _ _, only_refl _ _⟩
      case round =>
        clear i1 hk hlt
        obtain ⟨k, rfl, hk, hO, hG⟩ := hrel
        obtain ⟨AO, cO, hv, h1, h2, -, h3⟩ := Rd.of_own hO (by decide)
        have OO := Lib.hid hO
        have G := Lib.hid hG
        have hbase : w.heap.size ≤ wr.heap.size := hG.size
        have R3 := Lib.hid h3
        rw [hv] at OO
        rw [hv]
        clear hO hG hv h3
        by_cases hlt : k < fs.length
        · obtain ⟨y, hy⟩ : ∃ y, fs[k]? = some y := ⟨_, List.getElem?_eq_getElem hlt⟩
          have HY := Lib.hid hy
          obtain ⟨fb, fo, eA, hfb, f0, f1⟩ := fld_in (H.out.grown G.out (by simp)) hy
          subst eA
          have HS1 := Lib.hid (HSN.out k y hy)
          have i1 : (k : Int) < (fs.length : Int) := by omega
          clear hy h1 h2
          go_wp2_with (at_builtin; go_must (refine wpList_append1 rfl _ _ 42 rfl w.heap.size Tryz.underlying42 fieldInfo rfl (by decide) (v := .slice AO k cO) (by rfl) (w0 := wr) (cs := #[.string y.name, .string y.value]) OO.out (by rfl) rfl (by simp [Value.oneCell']) (by decide) (by omega) (by omega) ?_); intro v5 w5 hown5 hg5 hob5; obtain ⟨A5, c5, rfl, -, -, -, -⟩ := Rd.of_own hown5 (by decide))
          have O5 : Hid (w5.ownsRow w.heap.size 85 2 (.slice A5 (k + 1) c5) (k + 1) ((fs.take (k + 1)).flatMap FieldD.cells)) := Lib.hid (by rw [HS1.out]; exact hown5)
          have G5 : Hid (w.grownBy w5 none) := Lib.hid (only_own G.out hg5 OO.out (Nat.le_refl _))
          clear hown5 hg5 hob5 f0 f1 OO G R3 hbase
          obtain ⟨g5, rfl, hgb, hgl, hcc, hff⟩ := own_block O5.out
          have HCC := Lib.hid hcc
          have HFF := Lib.hid hff
          obtain ⟨fb', fo', eA', hfb', f0, f1⟩ := fld_in (H.out.grown G5.out (by simp)) HY.out
          injection eA' with eA'
          injection eA' with e1 e2
          subst e1 e2
          clear hcc hff hfb'
          have HL0 : Hid (((fs.take (k + 1)).flatMap FieldD.cells)[k * 2]? = some (.string y.name)) := Lib.hid (by rw [HS1.out, List.getElem?_append_right (by rw [HSF.out, List.length_take]; omega), HSF.out, List.length_take]; rw [show k * 2 - min k fs.length * 2 = 0 by omega]; rfl)
          have HL1 : Hid (((fs.take (k + 1)).flatMap FieldD.cells)[k * 2 + 1]? = some (.string y.value)) := Lib.hid (by rw [HS1.out, List.getElem?_append_right (by rw [HSF.out, List.length_take]; omega), HSF.out, List.length_take]; rw [show k * 2 + 1 - min k fs.length * 2 = 1 by omega]; rfl)
          have p0 : w5.cell? ⟨g5, k * 2, none⟩ = some (.string y.name) := HCC.out _ _ HL0.out
          have p1 : w5.cell? ⟨g5, k * 2 + 1, none⟩ = some (.string y.value) := HCC.out _ _ HL1.out
          have z0 := HFF.out (k * 2)
          have z1 := HFF.out (k * 2 + 1)
          go_loopw [7] (fun vk wr => vk = .int .i64 k ∧ ∃ q, wr = w5.drewN q) (fun _ _ => 0)
          case atStart => exact ⟨rfl, 0, rfl⟩
          case round =>
            obtain ⟨rfl, q, rfl⟩ := hrel
            by_cases k0 : k = 0
            · subst k0
              have j1 : ¬ (0 : Int) < ((0 : Nat) : Int) := by omega
              simp only [Nat.zero_mul, Nat.add_zero, Nat.zero_add] at f0 f1 p0 p1 z0 z1
              go_wp2_with fail
              go_quiet (fail)
              go_upto_region 18 with fail
              obtain ⟨W9, hW9⟩ : ∃ W, W = ((w5.drewN (q + nq)).setCell ⟨g5, 0, none⟩ (.string y.name)).setCell ⟨g5, 1, none⟩ (.string y.value) := ⟨_, rfl⟩
              have hO9 : W9.ownsRow w.heap.size 85 2 (.slice (some ⟨g5, 0, none⟩) (0 + 1) c5) (0 + 1) ((fs.take (0 + 1)).flatMap FieldD.cells) := by
                rw [hW9]
                exact own_putz (own_putz (own_drewN O5.out (q + nq)) HL0.out) HL1.out
              have hg9 : w5.grownBy W9 (some g5) := by rw [hW9]; exact only_setCell (g := g5) (only_setCell (g := g5) (only_drewN (only_refl _ _) (q + nq)) (p := ⟨g5, 0, none⟩) (.inl rfl) _) (p := ⟨g5, 1, none⟩) (.inl rfl) _
              have O9 := Lib.hid hO9
              have G9 : Hid (w.grownBy W9 none) := Lib.hid (only_fresh G5.out hg9 hgb)
              rw [← hW9]
              clear hW9 hO9 hg9 p0 p1 z0 z1 f0 f1
              obtain ⟨fb', fo', eA', hfb', f0, f1⟩ := fld_in (H.out.grown G9.out (by simp)) HY.out
              injection eA' with eA'
              injection eA' with e1 e2
              subst e1 e2
              simp only [Nat.zero_mul, Nat.add_zero, Nat.zero_add] at f0 f1
              go_quiet (fail)
              go_wp2_with fail
              go_roundw
              case rel => exact ⟨0 + 1, by go_num, by omega, own_drewN O9.out _, only_drewN G9.out _⟩
              case measure => simp [intOf]; omega
            · obtain ⟨m, rfl⟩ : ∃ m, k = m + 1 := ⟨k - 1, by omega⟩
              obtain ⟨x, hx⟩ : ∃ x, fs[m]? = some x := ⟨_, List.getElem?_eq_getElem (by omega)⟩
              have hsl := HSL.out m x y hx HY.out
              have s1 : Op.bytesLess x.name.toList y.name.toList = true := hsl
              have s2 : Op.bytesLess y.name.toList x.name.toList = false := sl_asymm hsl
              have s3 : (x.name.toList == y.name.toList) = false := by rw [beq_eq_false_iff_ne]; intro e; rw [e, bl_irrefl] at s1; cases s1
              have s4 : (y.name.toList == x.name.toList) = false := by rw [beq_eq_false_iff_ne]; intro e; rw [e, bl_irrefl] at s1; cases s1
              have pm : w5.cell? ⟨g5, m * 2, none⟩ = some (.string x.name) := by
                obtain ⟨b', o', e', -, q0, -⟩ := fld_in (rd_ownG O5.out (by decide)) (i := m) (y := x) (by rw [List.getElem?_take, if_pos (by omega)]; exact hx)
                injection e' with e'
                injection e' with e1 e2
                subst e1 e2
                simpa using q0
              have j1 : (0 : Int) < ((m : Nat) : Int) + 1 := by omega
              have j2 : (m : Int) < (fs.length : Int) := by omega
              have j3 : (0 : Int) ≤ (m : Int) := by omega
              have HXM := Lib.hid hx
              clear hx hsl
              go_wp2_with fail
              go_quiet (fail)
              go_upto_region 18 with fail
              obtain ⟨W9, hW9⟩ : ∃ W, W = ((w5.drewN (q + nq)).setCell ⟨g5, (m + 1) * 2, none⟩ (.string y.name)).setCell ⟨g5, (m + 1) * 2 + 1, none⟩ (.string y.value) := ⟨_, rfl⟩
              have hO9 : W9.ownsRow w.heap.size 85 2 (.slice (some ⟨g5, 0, none⟩) (m + 1 + 1) c5) (m + 1 + 1) ((fs.take (m + 1 + 1)).flatMap FieldD.cells) := by
                rw [hW9]
                exact own_putz (own_putz (own_drewN O5.out (q + nq)) HL0.out) HL1.out
              have hg9 : w5.grownBy W9 (some g5) := by rw [hW9]; exact only_setCell (g := g5) (only_setCell (g := g5) (only_drewN (only_refl _ _) (q + nq)) (p := ⟨g5, (m + 1) * 2, none⟩) (.inl rfl) _) (p := ⟨g5, (m + 1) * 2 + 1, none⟩) (.inl rfl) _
              have O9 := Lib.hid hO9
              have G9 : Hid (w.grownBy W9 none) := Lib.hid (only_fresh G5.out hg9 hgb)
              rw [← hW9]
              clear hW9 hO9 hg9 p0 p1 z0 z1 f0 f1 pm
              obtain ⟨fb', fo', eA', hfb', f0, f1⟩ := fld_in (H.out.grown G9.out (by simp)) HY.out
              injection eA' with eA'
              injection eA' with e1 e2
              subst e1 e2
              obtain ⟨b', o', e', -, pm, -⟩ := fld_in (rd_ownG O9.out (by decide)) (i := m) (y := x) (by rw [List.getElem?_take, if_pos (by omega)]; exact HXM.out)
              injection e' with e'
              injection e' with e1 e2
              subst e1 e2
              simp only [Nat.zero_add] at pm
              go_quiet (fail)
              go_wp2_with fail
              go_roundw
              case rel => exact ⟨m + 1 + 1, by go_num, by omega, own_drewN O9.out _, only_drewN G9.out _⟩
              case measure => simp [intOf]; omega
        · have i1 : ¬ (k : Int) < (fs.length : Int) := by omega
          have hkE : k = fs.length := by omega
          have R4 : Hid (Rd (w.heap.size ≤ ·) wr AO (fs.flatMap FieldD.cells)) := Lib.hid (by have h := R3.out; rw [List.take_of_length_le (by omega)] at h; exact h)
          go_wp2_with fail
          go_ret2
          exact ⟨AO, cO, rfl, R4.out, G.out⟩
end Go.Proofs.YtpaiideboodaeaaGreatDoor

namespace Go.Proofs.YtpaiideboodaeaaGreatDoor
open Go.RowKit
set_option linter.unusedVariables false
set_option linter.unusedSimpArgs false

/-- an event that Check lets by -/
structure EvC (e : Ev) : Prop where
  h0 : 0 ≤ e.host
  h1 : e.host ≤ 999
  f0 : 0 ≤ e.file
  f1 : e.file ≤ 2147483646
  b0 : 0 ≤ e.beg
  bf : e.beg < e.fin
  f2 : e.fin ≤ 60000
  t0 : 0 ≤ e.time
  t1 : e.time ≤ 253402300799999
  wt : IsWeight e.weight
  l0 : 1 ≤ e.lines.length
  l1 : e.lines.length ≤ 40
  ch : Chain e.beg e.lines e.fin
  tr : e.trace.size ≤ 32
  st : e.stream.size ≤ 32
  fl : e.fields.length ≤ 32
  fn : ∀ f ∈ e.fields, LowName f.name
  fs : Srt (e.fields.map FieldD.name)
  fv : ∀ f ∈ e.fields, f.value.size ≤ 2000
def OkP0 (w : World) (e : Ending) (w' : World) : Prop := e = .returned (.int .i64 0) ∧ w.grownBy w' none
theorem evAgg (e : Ev) : e.cells.toArray = #[.int .i64 e.host, .int .i64 e.file, .int .i64 e.beg, .int .i64 e.fin, .slice e.la e.lines.length e.lc, .int .i64 e.time, .int .i64 e.weight, .string e.trace, .string e.stream, .slice e.fa e.fields.length e.fc] := rfl
set_option maxHeartbeats 4000000 in
set_option maxRecDepth 100000 in
theorem place_any (e : Ev) (h : EvC e) (w : World) : Calls Tryz.prog 141 #[.agg e.cells.toArray] w (OkP0 w) := by
  rw [evAgg]
  have i1 : ¬ e.host < 0 := by have := h.h0; omega
  have i2 : ¬ 999 < e.host := by have := h.h1; omega
  have i3 : ¬ e.file < 0 := by have := h.f0; omega
  have i4 : ¬ 2147483646 < e.file := by have := h.f1; omega
  have i5 : ¬ e.beg < 0 := by have := h.b0; omega
  have i6 : ¬ e.fin ≤ e.beg := by have := h.bf; omega
  have i7 : ¬ 60000 < e.fin := by have := h.f2; omega
  clear h
  go_enter Tryz.func141, Tryz.ntmps141
  go_wp2_with fail
  go_ret
  exact ⟨rfl, only_alloc (only_refl _ _) _⟩
set_option maxHeartbeats 2000000 in
theorem weight_any (x : Int) (h : IsWeight x) (w : World) : Calls Tryz.prog 142 #[.int .i64 x] w (StayB true w) := by
  rcases h with rfl | rfl | rfl | rfl | rfl
  all_goals
    go_enter Tryz.func142, Tryz.ntmps142
    go_wp2_with fail
    go_ret
    exact ⟨rfl, rfl⟩
set_option maxHeartbeats 8000000 in
set_option maxRecDepth 100000 in
theorem lines12_any {S : Nat → Prop} (e : Ev) (h : EvC e) (w : World) (hs : e.Sub S w) : Calls Tryz.prog 143 #[.agg e.cells.toArray, .int .i64 2000] w (OkP0 w) := by
  rw [evAgg]
  have HL := Lib.hid hs.1
  have CH0 := Lib.hid h.ch
  have hb0 := h.b0
  have hb1 := h.f2
  have hb2 := h.bf
  have l0 := h.l0
  have l1 := h.l1
  obtain ⟨host, file, beg, fin, ls, time, weight, trace, stream, fields, la, lc, fa, fc⟩ := e
  simp only at HL CH0 hb0 hb1 hb2 l0 l1 ⊢
  clear h hs
  have i0 : ¬ ls.length = 0 := by omega
  have i00 : ¬ (ls.length : Int) = 0 := by omega
  have i1 : ¬ (40 : Int) < (ls.length : Int) := by omega
  have i11 : ¬ 40 < ls.length := by omega
  go_enter Tryz.func143, Tryz.ntmps143
  go_upto_region 1 with fail
  obtain ⟨xb, hxb⟩ : ∃ b, b = w.heap.size := ⟨_, rfl⟩
  obtain ⟨W, hW⟩ : ∃ W, W = w.alloc (.cells #[.int .i64 host, .int .i64 file, .int .i64 beg, .int .i64 fin, .slice la ls.length lc, .int .i64 time, .int .i64 weight, .string trace, .string stream, .slice fa fields.length fc] 44) := ⟨_, rfl⟩
  have hBW : Blk W xb 44 #[.int .i64 host, .int .i64 file, .int .i64 beg, .int .i64 fin, .slice la ls.length lc, .int .i64 time, .int .i64 weight, .string trace, .string stream, .slice fa fields.length fc] := by rw [hW, hxb]; exact Blk.new _ _ _
  have hG0 : w.grownBy W none := by rw [hW]; exact only_alloc (only_refl _ _) _
  have BW := Lib.hid hBW
  have G0 := Lib.hid hG0
  have e2 := hBW.cell 2; have e3 := hBW.cell 3; have e4 := hBW.cell 4
  simp at e2 e3 e4
  rw [← hW, ← hxb]
  clear hW hxb hBW hG0
  go_wp2_with fail
  go_loopw [5, 6] (fun va vi wr => ∃ (k : Nat) (a : Int), vi = .int .i64 k ∧ k ≤ ls.length ∧ va = .int .i64 a ∧ 0 ≤ a ∧ Chain a (ls.drop k) fin ∧ W.grownBy wr none) (fun _ vi _ => ls.length - (intOf vi).toNat)
  case atStart => exact ⟨0, beg, rfl, Nat.zero_le _, rfl, hb0, CH0.out, only_refl _ _⟩
  case round =>
    clear e2 e3 e4
    obtain ⟨k, a, rfl, hk, rfl, ha0, hC, hG⟩ := hrel
    have BW2 := BW.out.grown hG (by simp)
    have e2 := BW2.cell 2; have e3 := BW2.cell 3; have e4 := BW2.cell 4
    simp at e2 e3 e4
    have G := Lib.hid hG
    have CC := Lib.hid hC
    have hxw : xb < wr.heap.size := BW2.lt
    clear BW2 hG hC
    by_cases hlt : k < ls.length
    · obtain ⟨x, hx⟩ : ∃ x, ls[k]? = some x := ⟨_, List.getElem?_eq_getElem hlt⟩
      have hdr : ls.drop k = x :: ls.drop (k + 1) := by
        obtain ⟨h1, h2⟩ := List.getElem?_eq_some_iff.1 hx
        rw [List.drop_eq_getElem_cons h1, h2]
      have hC := CC.out
      rw [hdr] at hC
      obtain ⟨hoff, hsz, hlen, hrest⟩ := hC
      have hle := hrest.le
      rw [List.length_drop] at hle
      have hrr := HL.out.grown (only_trans G0.out G.out) (by simp)
      obtain ⟨lb, lo, ela, hlb, -, -⟩ := hrr (by rw [flat_len _ 3 LineD.cells_len]; omega)
      rw [ela] at hrr e4
      have d0 : wr.cell? ⟨lb, lo + k * 3, none⟩ = some (.int .i64 x.off) := hrr.flatAt LineD.cells_len hx 0 (by omega)
      have d1 : wr.cell? ⟨lb, lo + k * 3 + 1, none⟩ = some (.int .i64 x.len) := hrr.flatAt LineD.cells_len hx 1 (by omega)
      have d2 : wr.cell? ⟨lb, lo + k * 3 + 2, none⟩ = some (.string x.text) := hrr.flatAt LineD.cells_len hx 2 (by omega)
      rw [hoff] at d0
      have HR := Lib.hid hrest
      have hlast : k + 1 = ls.length → x.len = fin - a := fun h => by
        have h1 := hrest
        rw [List.drop_of_length_le (by omega)] at h1
        simp only [Chain] at h1
        omega
      have HLA := Lib.hid hlast
      have j0 : (a != a) = false := by simp
      have j1 : ¬ x.len < 1 := by omega
      have j2 : ¬ fin - a < x.len := by omega
      have j3 : ¬ (2000 : Int) < (x.text.size : Int) := by omega
      have j33 : ¬ 2000 < x.text.size := by omega
      have i2 : (k : Int) < (ls.length : Int) := by omega
      have ja : a ≤ 60000 := by omega
      clear hx hdr hrr ela hrest hlast hle hlb hoff
      go_upto_region 10 with fail
      obtain ⟨yb, hyb⟩ : ∃ b, b = wr.heap.size := ⟨_, rfl⟩
      obtain ⟨V, hV⟩ : ∃ V, V = wr.alloc (.cells #[.int .i64 a, .int .i64 x.len, .string x.text] 117) := ⟨_, rfl⟩
      have hBV : Blk V yb 117 #[.int .i64 a, .int .i64 x.len, .string x.text] := by rw [hV, hyb]; exact Blk.new _ _ _
      have hGV : wr.grownBy V none := by rw [hV]; exact only_alloc (only_refl _ _) _
      have GV := Lib.hid (only_trans G.out hGV)
      have BW3 := BW.out.grown GV.out (by simp)
      rw [← hV, ← hyb]
      clear e2 e3 e4 hV hyb hGV d0 d1 d2
      have e2 := BW3.cell 2; have e3 := BW3.cell 3; have e4 := BW3.cell 4
      simp at e2 e3 e4
      have y0 := hBV.cell 0; have y1 := hBV.cell 1; have y2 := hBV.cell 2
      simp at y0 y1 y2
      clear BW3 hBV
      by_cases hl : k + 1 = ls.length
      · have c1 : ((k : Int) == (ls.length : Int) - 1) = true := by simp; omega
        have c2 : (x.len != fin - a) = false := by rw [HLA.out hl]; simp
        clear hl
        go_wp2_with fail
        go_roundw
        case rel => exact ⟨k + 1, a + x.len, by go_num, by omega, by go_num, by omega, HR.out, GV.out⟩
        case measure => simp [intOf]; omega
      · have c1 : ((k : Int) == (ls.length : Int) - 1) = false := by simp; omega
        clear hl
        go_wp2_with fail
        go_roundw
        case rel => exact ⟨k + 1, a + x.len, by go_num, by omega, by go_num, by omega, HR.out, GV.out⟩
        case measure => simp [intOf]; omega
    · have i2 : ¬ (k : Int) < (ls.length : Int) := by omega
      go_wp2_with fail
      go_ret
      exact ⟨rfl, only_trans G0.out G.out⟩
set_option maxHeartbeats 8000000 in
set_option maxRecDepth 100000 in
theorem check12_any {S : Nat → Prop} (e : Ev) (h : EvC e) (w : World) (hs : e.Sub S w) : Calls Tryz.prog 81 #[.agg e.cells.toArray] w (OkP0 w) := by
  have KP := Lib.hid (place_any e h)
  have KW := Lib.hid (weight_any e.weight h.wt)
  have KL := Lib.hid (fun w' (hg : w.grownBy w' none) => lines12_any e h w' (hs.grown hg (by simp)))
  have KS := Lib.hid (fun w' (hg : w.grownBy w' none) => fsort_any e.fa e.fields e.fc w' (hs.2.1.grown hg (by simp)) h.fl h.fn h.fs)
  have HF := Lib.hid (hs.2.1.mono (S' := fun b => b < w.heap.size) (fun b _ h => h))
  have HFV := Lib.hid h.fv
  have hfl := h.fl
  have a1 : ¬ e.time < 0 := by have := h.t0; omega
  have a2 : ¬ 253402300799999 < e.time := by have := h.t1; omega
  have a3 : ¬ (32 : Int) < (e.trace.size : Int) := by have := h.tr; omega
  have a33 : ¬ 32 < e.trace.size := by have := h.tr; omega
  have a4 : ¬ (32 : Int) < (e.stream.size : Int) := by have := h.st; omega
  have a44 : ¬ 32 < e.stream.size := by have := h.st; omega
  rw [evAgg] at KP KL ⊢
  obtain ⟨host, file, beg, fin, ls, time, weight, trace, stream, fs, la, lc, fa, fc⟩ := e
  simp only at KP KW KL KS HF HFV hfl a1 a2 a3 a33 a4 a44 ⊢
  clear h hs
  go_enter Tryz.func81, Tryz.ntmps81
  go_upto_region 1 with fail
  obtain ⟨xb, hxb⟩ : ∃ b, b = w.heap.size := ⟨_, rfl⟩
  obtain ⟨W, hW⟩ : ∃ W, W = w.alloc (.cells #[.int .i64 host, .int .i64 file, .int .i64 beg, .int .i64 fin, .slice la ls.length lc, .int .i64 time, .int .i64 weight, .string trace, .string stream, .slice fa fs.length fc] 44) := ⟨_, rfl⟩
  have hBW : Blk W xb 44 #[.int .i64 host, .int .i64 file, .int .i64 beg, .int .i64 fin, .slice la ls.length lc, .int .i64 time, .int .i64 weight, .string trace, .string stream, .slice fa fs.length fc] := by rw [hW, hxb]; exact Blk.new _ _ _
  have hG0 : w.grownBy W none := by rw [hW]; exact only_alloc (only_refl _ _) _
  have BW := Lib.hid hBW
  have G0 := Lib.hid hG0
  have GR : Hid (W.grownBy W none) := Lib.hid (only_refl _ _)
  rw [← hW, ← hxb]
  clear hW hxb hBW hG0
  have BX := BW.out.grown GR.out (by simp)
  have e0 := BX.cell 0; have e1 := BX.cell 1; have e2 := BX.cell 2; have e3 := BX.cell 3; have e4 := BX.cell 4; have e5 := BX.cell 5; have e6 := BX.cell 6; have e7 := BX.cell 7; have e8 := BX.cell 8; have e9 := BX.cell 9
  simp at e0 e1 e2 e3 e4 e5 e6 e7 e8 e9
  clear BX
  go_wp2_with fail
  refine (KP.out W).mono ?_
  rintro en w1 ⟨rfl, hg1⟩
  have G1 := Lib.hid hg1
  clear hg1 KP e0 e1 e2 e3 e4 e5 e6 e7 e8 e9
  have BX := BW.out.grown G1.out (by simp)
  have e0 := BX.cell 0; have e1 := BX.cell 1; have e2 := BX.cell 2; have e3 := BX.cell 3; have e4 := BX.cell 4; have e5 := BX.cell 5; have e6 := BX.cell 6; have e7 := BX.cell 7; have e8 := BX.cell 8; have e9 := BX.cell 9
  simp at e0 e1 e2 e3 e4 e5 e6 e7 e8 e9
  clear BX
  go_wp2_with fail
  refine (KW.out w1).mono ?_
  rintro en w2 ⟨rfl, rfl⟩
  clear KW
  go_wp2_with fail
  refine (KL.out w2 (only_trans G0.out G1.out)).mono ?_
  rintro en w3 ⟨rfl, hg3⟩
  have G3 := Lib.hid (only_trans G1.out hg3)
  clear hg3 KL G1 e0 e1 e2 e3 e4 e5 e6 e7 e8 e9
  have BX := BW.out.grown G3.out (by simp)
  have e0 := BX.cell 0; have e1 := BX.cell 1; have e2 := BX.cell 2; have e3 := BX.cell 3; have e4 := BX.cell 4; have e5 := BX.cell 5; have e6 := BX.cell 6; have e7 := BX.cell 7; have e8 := BX.cell 8; have e9 := BX.cell 9
  simp at e0 e1 e2 e3 e4 e5 e6 e7 e8 e9
  clear BX
  go_wp2_with fail
  refine (KS.out w3 (only_trans G0.out G3.out)).mono ?_
  rintro en w4 ⟨AS, cS, rfl, hrs, hg4⟩
  have G4 := Lib.hid (only_trans G3.out hg4)
  have RS := Lib.hid hrs
  clear hg4 KS hrs G3 e0 e1 e2 e3 e4 e5 e6 e7 e8 e9
  have BX := BW.out.grown G4.out (by simp)
  have e0 := BX.cell 0; have e1 := BX.cell 1; have e2 := BX.cell 2; have e3 := BX.cell 3; have e4 := BX.cell 4; have e5 := BX.cell 5; have e6 := BX.cell 6; have e7 := BX.cell 7; have e8 := BX.cell 8; have e9 := BX.cell 9
  simp at e0 e1 e2 e3 e4 e5 e6 e7 e8 e9
  clear BX e0 e1 e2 e3 e4 e5 e6 e7 e8
  have KE := Lib.hid (fsame_true AS fa fs cS fc w4 RS.out (HF.out.grown (only_trans G0.out G4.out) (by simp)) (by omega))
  go_wp2_with fail
  refine KE.out.mono ?_
  rintro en w5 ⟨rfl, n5, hw5⟩
  have G5 : Hid (W.grownBy w5 none) := Lib.hid (by rw [hw5]; exact only_drewN G4.out n5)
  have R5 : Hid (Rd (w3.heap.size ≤ ·) w5 AS (fs.flatMap FieldD.cells)) := Lib.hid (by rw [hw5]; exact RS.out)
  clear hw5 KE G4 RS e9
  go_wp2_with fail
  go_loopw [7] (fun vi wr => ∃ k : Nat, vi = .int .i64 k ∧ k ≤ fs.length ∧ wr = w5) (fun vi _ => fs.length - (intOf vi).toNat)
  case atStart => exact ⟨0, rfl, Nat.zero_le _, rfl⟩
  case round =>
    obtain ⟨k, rfl, hk, rfl⟩ := hrel
    by_cases hlt : k < fs.length
    · obtain ⟨y, hy⟩ : ∃ y, fs[k]? = some y := ⟨_, List.getElem?_eq_getElem hlt⟩
      obtain ⟨fb, fo, rfl, -, f0, f1⟩ := fld_in R5.out hy
      have hyv := HFV.out y (List.mem_of_getElem? hy)
      have i1 : (k : Int) < (fs.length : Int) := by omega
      have i2 : ¬ (2000 : Int) < (y.value.size : Int) := by omega
      have i3 : ¬ 2000 < y.value.size := by omega
      clear hy
      go_wp2_with fail
      go_roundw
      case rel => exact ⟨k + 1, by go_num, by omega, trivial⟩
      case measure => simp [intOf]; omega
    · have i1 : ¬ (k : Int) < (fs.length : Int) := by omega
      go_wp2_with fail
      go_ret
      exact ⟨rfl, only_trans G0.out G5.out⟩
set_option maxHeartbeats 8000000 in
set_option maxRecDepth 100000 in
theorem check27_wide {S : Nat → Prop} (A : Option Addr) (es : List Ev) (c : Nat) (w : World) (hev : Evs S w A es) (hel : es.length ≤ 256) (hwl : (wordsX es).length ≤ 32768) (hnl : (namesX es).length ≤ 32768) (hs : ∀ e ∈ es, EvS e) (hc : ∀ e ∈ es, EvC e) (hr : SrtE es) :
    Calls Tryz.prog 48 #[.slice A es.length c] w (OkP0 w) := by
  have HEV := Lib.hid (hev.mono (S' := fun b => b < w.heap.size) (fun b _ h => h))
  have KC := Lib.hid (fun (e : Ev) (he : e ∈ es) (w' : World) (hg : w.grownBy w' none) => check12_any e (hc e he) w' ((hev.2 e he).grown hg (by simp)))
  have KWD := Lib.hid (fun (w' : World) (hg : w.grownBy w' none) => words_any A es c w' (hev.grown hg (by simp)) (by omega) hs)
  have KNM := Lib.hid (fun (w' : World) (hg : w.grownBy w' none) => names_any A es c w' (hev.grown hg (by simp)) (by omega) hs)
  have HLS : Hid (∀ (k : Nat) (x y : Ev), es[k]? = some x → es[k + 1]? = some y → x.less y = true) := Lib.hid (fun k x y hx hy => by
    obtain ⟨h1, h2⟩ := List.getElem?_eq_some_iff.1 hx
    obtain ⟨h3, h4⟩ := List.getElem?_eq_some_iff.1 hy
    have h5 := List.pairwise_iff_getElem.1 hr k (k + 1) h1 h3 (Nat.lt_succ_self k)
    rw [h2, h4] at h5
    exact h5)
  have n1 : ¬ (32768 : Int) < ((wordsX es).length : Int) := by omega
  have n11 : ¬ 32768 < (wordsX es).length := by omega
  have n2 : ¬ (32768 : Int) < ((namesX es).length : Int) := by omega
  have n22 : ¬ 32768 < (namesX es).length := by omega
  have n3 : ¬ (256 : Int) < (es.length : Int) := by omega
  have n33 : ¬ 256 < es.length := by omega
  clear hev hs hc hr hwl hnl
  go_enter Tryz.func48, Tryz.ntmps48
  go_wp2_with fail
  go_loopw [3] (fun vi wr => ∃ k : Nat, vi = .int .i64 k ∧ k ≤ es.length ∧ w.grownBy wr none) (fun vi _ => es.length - (intOf vi).toNat)
  case atStart => exact ⟨0, rfl, Nat.zero_le _, only_refl _ _⟩
  case round =>
    obtain ⟨k, rfl, hk, hG⟩ := hrel
    have G := Lib.hid hG
    clear hG
    by_cases hlt : k < es.length
    · obtain ⟨y, hy⟩ : ∃ y, es[k]? = some y := ⟨_, List.getElem?_eq_getElem hlt⟩
      obtain ⟨kb, ko, eE, hkw, z0, z1, z2, z3, z4, z5, z6, z7, z8, z9⟩ := ev_in (HEV.out.1.grown G.out (by simp)) hy
      subst eE
      have K1 := KC.out y (List.mem_of_getElem? hy) wr G.out
      rw [evAgg] at K1
      have K1 := Lib.hid K1
      have i1 : (k : Int) < (es.length : Int) := by omega
      clear hy
      go_wp2_with fail
      refine K1.out.mono ?_
      rintro en w2 ⟨rfl, hg2⟩
      have G2 := Lib.hid (only_trans G.out hg2)
      clear hg2 K1 z0 z1 z2 z3 z4 z5 z6 z7 z8 z9
      go_wp2_with fail
      go_roundw
      case rel => exact ⟨k + 1, by go_num, by omega, G2.out⟩
      case measure => simp [intOf]; omega
    · have i1 : ¬ (k : Int) < (es.length : Int) := by omega
      go_wp2_with fail
      obtain ⟨wo, rfl⟩ : ∃ wo : World, wo = wr := ⟨_, rfl⟩
      go_loopw [5] (fun vi wr => ∃ k : Nat, vi = .int .i64 ((k : Int) + 1) ∧ (k ≤ es.length) ∧ w.grownBy wr none) (fun vi _ => es.length + 2 - (intOf vi).toNat)
      case atStart => exact ⟨0, rfl, Nat.zero_le _, G.out⟩
      case round =>
        clear i1 hlt hk
        obtain ⟨k, rfl, hk, hG⟩ := hrel
        have G2 := Lib.hid hG
        clear hG
        by_cases hlt : k + 1 < es.length
        · obtain ⟨x, hx⟩ : ∃ x, es[k]? = some x := ⟨_, List.getElem?_eq_getElem (by omega)⟩
          obtain ⟨y, hy⟩ : ∃ y, es[k + 1]? = some y := ⟨_, List.getElem?_eq_getElem hlt⟩
          have hxy := HLS.out k x y hx hy
          obtain ⟨kb, ko, eE, hkw, z0, z1, z2, z3, z4, z5, z6, z7, z8, z9⟩ := ev_in (HEV.out.1.grown G2.out (by simp)) hx
          subst eE
          obtain ⟨kb', ko', eE, hkw', y0, y1, y2, y3, y4, y5, y6, y7, y8, y9⟩ := ev_in (HEV.out.1.grown G2.out (by simp)) hy
          injection eE with eE
          injection eE with e1 e2
          subst e1 e2
          have KL := rless_any x y
          rw [evAgg, evAgg, hxy] at KL
          have KL := Lib.hid KL
          have i2 : (k : Int) + 1 < (es.length : Int) := by omega
          have i3 : (k : Int) < (es.length : Int) := by omega
          have i4 : (0 : Int) ≤ (k : Int) := by omega
          have hwk : IntKind.i64.wrap (k : Int) = (k : Int) := IntWalk.i64_in _ (by omega)
          clear hx hy hxy
          go_upto_region 12 with fail
          go_cut [39] (fun v wx => v = .bool false ∧ wr.grownBy wx none)
          case first =>
            go_region_with (go_at_call 80; refine (KL.out _).mono ?_; rintro en w2 ⟨rfl, hg2⟩)
            all_goals
              go_wp2_with fail
              go_meet
              exact ⟨rfl, only_trans (only_drew (only_refl _ _)) hg2⟩
          case rest =>
            obtain ⟨rfl, hgc⟩ := hcut
            have G3 := Lib.hid (only_trans G2.out hgc)
            clear hgc z0 z1 z2 z3 z4 z5 z6 z7 z8 z9 y0 y1 y2 y3 y4 y5 y6 y7 y8 y9
            go_wp2_with fail
            go_roundw
            case rel => exact ⟨k + 1, by go_num, by omega, G3.out⟩
            case measure => simp [intOf]; omega
        · have i2 : ¬ (k : Int) + 1 < (es.length : Int) := by omega
          have K1 := Lib.hid (KWD.out wr G2.out)
          go_wp2_with fail
          refine K1.out.mono ?_
          rintro en w3 ⟨AW, cW, rfl, -, -, -, hg3⟩
          have G3 := Lib.hid (only_trans G2.out hg3)
          have K2 := Lib.hid (KNM.out w3 G3.out)
          clear hg3 K1
          go_wp2_with fail
          refine K2.out.mono ?_
          rintro en w4 ⟨AW, cW, rfl, -, -, -, hg4⟩
          have G4 := Lib.hid (only_trans G3.out hg4)
          clear hg4 K2
          go_wp2_with fail
          go_ret
          exact ⟨rfl, G4.out⟩
theorem check27_any {S : Nat → Prop} (A : Option Addr) (es : List Ev) (c : Nat) (w : World) (hev : Evs S w A es) (hel : es.length ≤ 40) (hs : ∀ e ∈ es, EvS e) (hc : ∀ e ∈ es, EvC e) (hr : SrtE es) :
    Calls Tryz.prog 48 #[.slice A es.length c] w (OkP0 w) :=
  check27_wide A es c w hev (by omega) (by have := wordsX_len hs hel; omega) (by have := namesX_len hs hel; omega) hs hc hr
end Go.Proofs.YtpaiideboodaeaaGreatDoor

namespace Go.Proofs.YtpaiideboodaeaaGreatDoor
open Go.RowKit
set_option linter.unusedVariables false
set_option linter.unusedSimpArgs false

theorem wpList_append1F {P : Program} {ops : Array Oper} {rest : List Oper} {o : Oper} {a : Act} {Q : Exit → Act → World → Prop} (hgd : o.guard = none) (s x : Operand) (t : TypeId)
    (ho : o.op = .call { callee := .builtin .append, args := #[s, x], argTypes := #[t, t] })
    {e : TypeId} {z : Value} {bytes : Nat} (ht : P.underlying t = some (.slice e)) (hi : (P.info? e).map (fun i => (i.zero, i.size, i.bytes)) = some (some z, 1, bytes)) (hzs : z.cells.size = 1)
    {b off n : Nat} {xs : List Value} (hs : a.eval s = .slice (some ⟨b, off, none⟩) n n) {w0 : World} {u : Value} (hl : xs.length = n) (hxs : ∀ j u, xs[j]? = some u → w0.cell? ⟨b, off + j, none⟩ = some u) (hb0 : b < w0.heap.size)
    (hx : a.eval x = .slice (some ⟨w0.heap.size, 0, none⟩) 1 1) (h1 : u.oneCell' = true) (hb : bytes ≤ 1000) (hn : n ≤ 10000000)
    (h : ∀ v' w', w'.ownsRow w0.heap.size e 1 v' (n + 1) (xs ++ [u]) → w0.grownBy w' none → wpList P ops Q rest (a.put o.dst v') w') : wpList P ops Q (o :: rest) a (w0.alloc (.cells #[u] e)) := by
  obtain ⟨i0, hi0, hz0, hz1, hz2⟩ := info_parts hi
  refine wpList_append_grows _ hgd s x t ho e i0 z 1 bytes ht hi0 hz0 hz1 hz2 hzs (by decide) (some ⟨b, off, none⟩) n n xs hs (fun h => by cases h) (by omega) (fun b' hb' j u' hu => ?_) ⟨w0.heap.size, 0, none⟩ 1 1 [u] hx rfl (fun j u' hu => ?_) (by intro u' hu; rw [List.mem_singleton.1 hu]; exact h1) (by omega) (by unfold maxLen; omega) ?_ ?_
  · injection hb' with hb'
    subst hb'
    have hadd : (⟨b, off, none⟩ : Addr).add j = ⟨b, off + j, none⟩ := by unfold Addr.add; split <;> simp_all
    rw [hadd, World.cell?_of_block (w := w0) (a := ⟨b, off + j, none⟩) (Below.heap_alloc w0 _ b hb0)]
    exact hxs j u' hu
  · have hadd : (⟨w0.heap.size, 0, none⟩ : Addr).add j = ⟨w0.heap.size, j, none⟩ := by unfold Addr.add; split <;> simp_all
    rw [hadd, (Blk.new w0 e #[u]).cell j]
    simpa using hu
  · have : (n + 1) * bytes ≤ 10000001 * 1000 := Nat.mul_le_mul (by omega) hb
    omega
  · intro v' w' ho' hg'
    refine h v' w' ⟨ho'.1, ho'.2.imp id (fun ⟨g, cap, cur, h1, h2, h3⟩ => ⟨g, cap, cur, h1, Nat.le_trans (by simp) h2, h3⟩)⟩ ?_
    exact ⟨hg'.os, hg'.tape, hg'.output, Nat.le_trans (by simp) hg'.size, fun i hi _ => (hg'.block i (by simp; omega) (by simp)).trans (Below.heap_alloc w0 _ i hi)⟩
set_option maxHeartbeats 4000000 in
set_option maxRecDepth 100000 in
theorem sput_full {S : Nat → Prop} (A : Option Addr) (xs : List Int) (n width : Nat) (w : World) (h : Rd S w A (xs.map (.int .u8))) (hx0 : 0 < xs.length) (hx : xs.length ≤ 4000000) (hw0 : 0 < width) (hw : width ≤ 8) (hn : n < 18446744073709551616) :
    Calls Tryz.prog 49 #[.slice A xs.length xs.length, .int .u64 n, .int .i64 (width : Int)] w (NewB w (xs ++ beB width n)) := by
  obtain ⟨b0, o0, rfl, -, hb0, hc0⟩ := h (by rw [List.length_map]; exact hx0)
  have HC := Lib.hid hc0
  clear h hc0
  go_enter Tryz.func49, Tryz.ntmps49
  go_wp2_with fail
  go_loopw [0, 7] (fun u i wr => ∃ (m : Nat) (ys : List Int), m ≤ width ∧ i = .int .i64 ((m : Int) - 1) ∧ ys ++ beB m n = xs ++ beB width n ∧ ((m = width ∧ u = .slice (some ⟨b0, o0, none⟩) xs.length xs.length ∧ ys = xs ∧ wr = w) ∨ (m < width ∧ Byts w.heap.size wr u ys ∧ w.grownBy wr none))) (fun _ i _ => (intOf i + 1).toNat)
  case atStart => exact ⟨width, xs, Nat.le_refl _, rfl, rfl, .inl ⟨rfl, rfl, rfl, rfl⟩⟩
  case round =>
    obtain ⟨m, ys, hm, rfl, he, hor⟩ := hrel
    have hl : ys.length ≤ 4000010 := by
      have h1 := congrArg List.length he
      simp [beB_len] at h1
      omega
    have HE := Lib.hid he
    clear he
    by_cases hc : 1 ≤ m
    · obtain ⟨j, rfl⟩ : ∃ j, m = j + 1 := ⟨m - 1, by omega⟩
      have hjj : (((j + 1 : Nat) : Int) - 1) = (j : Int) := by omega
      rw [hjj]
      have i1 : (0 : Int) ≤ (j : Int) := by omega
      clear hjj
      have HE2 : Hid (ys ++ [((n / 256 ^ j % 256 : Nat) : Int)] ++ beB j n = xs ++ beB width n) := Lib.hid (by rw [← HE.out, beB]; simp)
      rcases hor with ⟨hmw, rfl, rfl, rfl⟩ | ⟨hmw, hB, hG⟩
      · go_wp2_with (at_builtin; go_must (refine wpList_append1F rfl _ _ 22 rfl Tryz.underlying22 byteInfo rfl (by rfl) (w0 := wr) (xs := ys.map (.int .u8)) (u := .int .u8 ((n : Int) / 2 ^ (8 * j) % 256)) (by rw [List.length_map]) HC.out hb0 (by rfl) (by simp [Value.oneCell']) (by decide) (by omega) ?_); intro v1 w1 hv1 hg1)
        rw [be_el] at hv1
        have B1 := Lib.hid (Byts.snoc hv1)
        have G1 := Lib.hid hg1
        clear hv1 hg1
        go_wp2_with fail
        go_roundw
        case rel => exact ⟨j, ys ++ [((n / 256 ^ j % 256 : Nat) : Int)], by omega, rfl, HE2.out, .inr ⟨by omega, B1.out, G1.out⟩⟩
        case measure => simp [intOf] <;> omega
      · have HB := Lib.hid hB
        have HG := Lib.hid hG
        have hz := hG.size
        clear hB hG
        go_wp2_with (at_builtin; go_must (refine wpList_append1 rfl _ _ 22 rfl w.heap.size Tryz.underlying22 byteInfo rfl (by decide) (v := u0) (by rfl) (w0 := wr) (cs := #[.int .u8 ((n : Int) / 2 ^ (8 * j) % 256)]) HB.out (by rfl) rfl (by simp [Value.oneCell']) (by decide) (by omega) (by omega) ?_); intro v1 w1 hv1 hg1 hob1)
        rw [be_el] at hv1
        have B1 := Lib.hid (Byts.snoc hv1)
        have G1 := Lib.hid (HB.out.only (onto_ap hg1 hob1) HG.out (Nat.le_refl _))
        clear hv1 hg1 hob1
        go_wp2_with fail
        go_roundw
        case rel => exact ⟨j, ys ++ [((n / 256 ^ j % 256 : Nat) : Int)], by omega, rfl, HE2.out, .inr ⟨by omega, B1.out, G1.out⟩⟩
        case measure => simp [intOf] <;> omega
    · have hm0 : m = 0 := by omega
      subst hm0
      rcases hor with ⟨hmw, -, -, -⟩ | ⟨hmw, hB, hG⟩
      · omega
      · have HE2 : Hid (ys = xs ++ beB width n) := Lib.hid (by have h := HE.out; simpa [beB] using h)
        have B9 : Hid (Byts w.heap.size wr u0 (xs ++ beB width n)) := Lib.hid (by rw [← HE2.out]; exact hB)
        have G9 := Lib.hid hG
        clear hB hG
        go_wp2_with fail
        go_ret
        exact ⟨u0, rfl, B9.out, G9.out⟩
end Go.Proofs.YtpaiideboodaeaaGreatDoor
