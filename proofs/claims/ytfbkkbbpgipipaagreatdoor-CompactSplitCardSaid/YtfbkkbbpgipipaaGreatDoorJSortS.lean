/- Sorting and compacting a row of strings of the call's own (seat of part 36). Condition: sizes. -/
import Derived.Test.YtfbkkbbpgipipaaGreatDoorJMapA
import Derived.Test.YtfbkkbbpgipipaaGreatDoorJEv
import Derived.Test.YtfbkkbbpgipipaaGreatDoorJEChk0
import Derived.Sort.OwnSorted
import Derived.Lib.RowBridge
import Derived.Test.YtfbkkbbpgipipaaGreatDoorJRWords
import Derived.Deep.DeepCutAuto
import Derived.Test.YtfbkkbbpgipipaaGreatDoorJFiles
namespace Go.Proofs.YtfbkkbbpgipipaaGreatDoor
open Go.RowKit
set_option linter.unusedVariables false
set_option linter.unusedSimpArgs false

theorem strEnc (ws : List ByteArray) : (ws.map ofB).map encStr = ws.map .string := by
  rw [List.map_map]
  apply List.map_congr_left
  intro s _
  show Value.string ⟨(ofB s).toArray⟩ = Value.string s
  exact congrArg Value.string (toB_ofB s)
theorem encStrB (ls : List (List UInt8)) : ls.map encStr = (ls.map toB).map .string := by
  rw [List.map_map]; rfl
def SSPost (w : World) (base : Nat) (v : Value) (ls : List (List UInt8)) (e : Ending) (w' : World) : Prop :=
  e = .returned (.tuple #[]) ∧ w'.ownsRow base 9 1 v ls.length (ls.map encStr) ∧ w.grownBy w' v.ownBlock
theorem sort_ownS (base : Nat) (v : Value) (ws : List ByteArray) (w : World) (h : w.ownsRow base 9 1 v ws.length (ws.map .string)) (hl : ws.length ≤ 1000000) :
    Calls Tryz.prog 67 #[v] w (SSPost w base v (sorted (ws.map ofB))) := by
  have hsl : (sorted (ws.map ofB)).length = ws.length := by rw [sorted_len, List.length_map]
  rcases h.2 with ⟨rfl, hz⟩ | ⟨g, cap, cur, rfl, hge, hb, h1, h2, h3, h4⟩
  · have h0 : ws = [] := List.eq_nil_of_length_eq_zero hz
    subst h0
    refine (Tryz.slices_Sort_string_none none 0 w).mono ?_
    rintro e w2 ⟨rfl, rfl⟩
    have e : sorted (([] : List ByteArray).map ofB) = [] := List.eq_nil_of_length_eq_zero hsl
    rw [e]
    exact ⟨rfl, h, only_refl _ _⟩
  · have h4' : cur.toList.take (ws.map ofB).length = (ws.map ofB).map encStr := by rw [List.length_map, strEnc]; simpa using h4
    have hH := holds_of_block hb h4'
    have hgl : g < w.heap.size := (Array.getElem?_eq_some_iff.1 hb).1
    have c1 := Tryz.slices_Sort_string g 0 cap (ws.map ofB) w hH hgl (by rw [List.length_map]; omega)
    rw [List.length_map] at c1
    refine c1.mono ?_
    rintro e w2 ⟨rfl, n, os, rfl⟩
    have HO2 := ownsRow_sorted (os := os) (n := n) (ts := sorted (ws.map ofB)) (ss := ws.map ofB) (by rw [hsl, List.length_map]) hge hb (by rw [List.length_map]; exact h1) h2 h3
    have HG2 := grownBy_sorted (w := w) (g := g) (n := n) (os := os) (sorted (ws.map ofB)).toArray
    rw [List.length_map] at HO2
    refine ⟨rfl, ?_, HG2⟩
    rw [hsl]
    exact HO2
def CSPost (w : World) (base : Nat) (row : Option Nat) (ls : List (List UInt8)) (e : Ending) (w' : World) : Prop :=
  ∃ A c, e = .returned (.slice A ls.length c) ∧ ls.length ≤ c ∧ c ≤ maxLen ∧ Rd (base ≤ ·) w' A (ls.map encStr) ∧ w.grownBy w' row
theorem comp_ownS (base : Nat) (v : Value) (ls : List (List UInt8)) (w : World) (h : w.ownsRow base 9 1 v ls.length (ls.map encStr)) (hl : ls.length ≤ 1000000) :
    Calls Tryz.prog 68 #[v] w (CSPost w base v.ownBlock (Lib.compact ls)) := by
  have hcl := Lib.compact_length_le ls
  rcases h.2 with ⟨rfl, hz⟩ | ⟨g, cap, cur, rfl, hge, hb, h1, h2, h3, h4⟩
  · have h0 : ls = [] := List.eq_nil_of_length_eq_zero hz
    subst h0
    refine (Tryz.slices_Compact_string_empty none 0 w).mono ?_
    rintro e w2 ⟨rfl, rfl⟩
    exact ⟨none, 0, rfl, Nat.le_refl _, by unfold maxLen; omega, Rd.nil, only_refl _ _⟩
  · have h4' : cur.toList.take ls.length = ls.map encStr := by simpa using h4
    have hH := holds_of_block hb h4'
    refine (Tryz.slices_Compact_string g 0 cap ls w hH (by omega) (by omega)).mono ?_
    rintro e w2 ⟨rfl, n, hw2⟩
    obtain ⟨ts, hts⟩ : ∃ ts, ts = Lib.compact ls ++ List.replicate (ls.length - (Lib.compact ls).length) ([] : List UInt8) := ⟨_, rfl⟩
    have hsl : ts.length = ls.length := by rw [hts]; simp; omega
    rw [← hts] at hw2
    have hw2 : w2 = Go.Sort.grow (Go.Sort.putRow encStr (Go.Sort.ahead w n) g 0 ts.toArray) #[] := by rw [Go.Sort.grow_empty]; exact hw2
    have HO2 := ownsRow_sorted (os := #[]) (n := n) (ts := ts) (ss := ls) hsl hge hb h1 h2 h3
    have HG2 := grownBy_sorted (w := w) (g := g) (n := n) (os := #[]) ts.toArray
    rw [← hw2] at HO2 HG2
    obtain ⟨A9, c9, e9, hc9, hm9, -, hr9⟩ := Rd.of_own HO2 (by decide)
    injection e9 with e91 e92 e93
    subst e91 e93
    refine ⟨_, _, rfl, by omega, hm9, ?_, HG2⟩
    have := hr9.take (Lib.compact ls).length
    rw [← List.map_take, hts, List.take_left' rfl] at this
    exact this
end Go.Proofs.YtfbkkbbpgipipaaGreatDoor

namespace Go.Proofs.YtfbkkbbpgipipaaGreatDoor
open Go.RowKit
set_option linter.unusedVariables false
set_option linter.unusedSimpArgs false

theorem own_take {w : World} {base e n c k : Nat} {A : Option Addr} {xs : List Value} (h : w.ownsRow base e 1 (.slice A n c) n xs) (hk : k ≤ n) : w.ownsRow base e 1 (.slice A k c) k (xs.take k) := by
  have hl : xs.length = n := by have := h.1; omega
  refine ⟨by rw [List.length_take]; omega, ?_⟩
  rcases h.2 with ⟨h1, h2⟩ | ⟨g, cap, cur, h1, h2, h3, h4, h5, h6, h7⟩
  · injection h1 with e1 e2 e3
    subst e1 e3
    exact .inl ⟨by rw [show k = 0 by omega], by omega⟩
  · injection h1 with e1 e2 e3
    subst e1 e3
    refine .inr ⟨g, c, cur, rfl, h2, h3, by omega, h5, h6, ?_⟩
    rw [← h7, List.take_take]
    congr 1; omega
def CSOwn (w : World) (base : Nat) (row : Option Nat) (ls : List (List UInt8)) (e : Ending) (w' : World) : Prop :=
  ∃ A c, e = .returned (.slice A ls.length c) ∧ ls.length ≤ c ∧ c ≤ maxLen ∧ w'.ownsRow base 9 1 (.slice A ls.length c) ls.length (ls.map encStr) ∧ w.grownBy w' row ∧ (Value.slice A ls.length c).ownBlock = row
theorem comp_ownO (base : Nat) (v : Value) (ls : List (List UInt8)) (w : World) (h : w.ownsRow base 9 1 v ls.length (ls.map encStr)) (hl : ls.length ≤ 1000000) :
    Calls Tryz.prog 68 #[v] w (CSOwn w base v.ownBlock (Lib.compact ls)) := by
  have hcl := Lib.compact_length_le ls
  rcases h.2 with ⟨rfl, hz⟩ | ⟨g, cap, cur, rfl, hge, hb, h1, h2, h3, h4⟩
  · have h0 : ls = [] := List.eq_nil_of_length_eq_zero hz
    subst h0
    refine (Tryz.slices_Compact_string_empty none 0 w).mono ?_
    rintro e w2 ⟨rfl, rfl⟩
    exact ⟨none, 0, rfl, Nat.le_refl _, by unfold maxLen; omega, World.ownsRow_nil _ _ _ _, only_refl _ _, rfl⟩
  · have h4' : cur.toList.take ls.length = ls.map encStr := by simpa using h4
    have hH := holds_of_block hb h4'
    refine (Tryz.slices_Compact_string g 0 cap ls w hH (by omega) (by omega)).mono ?_
    rintro e w2 ⟨rfl, n, hw2⟩
    obtain ⟨ts, hts⟩ : ∃ ts, ts = Lib.compact ls ++ List.replicate (ls.length - (Lib.compact ls).length) ([] : List UInt8) := ⟨_, rfl⟩
    have hsl : ts.length = ls.length := by rw [hts]; simp; omega
    rw [← hts] at hw2
    have hw2 : w2 = Go.Sort.grow (Go.Sort.putRow encStr (Go.Sort.ahead w n) g 0 ts.toArray) #[] := by rw [Go.Sort.grow_empty]; exact hw2
    have HO2 := ownsRow_sorted (os := #[]) (n := n) (ts := ts) (ss := ls) hsl hge hb h1 h2 h3
    have HG2 := grownBy_sorted (w := w) (g := g) (n := n) (os := #[]) ts.toArray
    rw [← hw2] at HO2 HG2
    refine ⟨_, _, rfl, by omega, h2, ?_, HG2, rfl⟩
    have := own_take HO2 hcl
    rw [← List.map_take, hts, List.take_left' rfl] at this
    exact this
end Go.Proofs.YtfbkkbbpgipipaaGreatDoor

namespace Go.Proofs.YtfbkkbbpgipipaaGreatDoor
open Go.RowKit
set_option linter.unusedVariables false
set_option linter.unusedSimpArgs false

theorem own_zero {w : World} {base e z n c : Nat} {A : Option Addr} {xs : List Value} (h : w.ownsRow base e z (.slice A n c) n xs) : w.ownsRow base e z (.slice A 0 c) 0 [] := by
  refine ⟨by simp, ?_⟩
  rcases h.2 with ⟨e1, _⟩ | ⟨g, cap, cur, e1, h1, h2, h3, h4, h5, h6⟩
  · injection e1 with e1 e2 e3
    subst e1 e3
    exact .inl ⟨rfl, rfl⟩
  · injection e1 with e1 e2 e3
    subst e1 e3
    exact .inr ⟨g, c, cur, rfl, h1, h2, Nat.zero_le _, h4, h5, by simp⟩
set_option maxHeartbeats 4000000 in
set_option maxRecDepth 100000 in
theorem swords_own (s : ByteArray) (w : World) (hl : s.size ≤ 100000) :
    Calls Tryz.prog 50 #[.string s] w (DistOwn w (rawW (bts s))) := by
  obtain ⟨cs, hcs⟩ : ∃ cs, cs = bts s := ⟨_, rfl⟩
  have HLEN : Hid (cs.length = s.size) := Lib.hid (by rw [hcs]; exact bts_length s)
  have HCS := Lib.hid hcs
  rw [← hcs]
  clear hcs
  go_enter Tryz.func50, Tryz.ntmps50
  go_wp2_with fail
  go_loopw [3, 4, 11] (fun vo vw i wr => ∃ k : Nat, k ≤ s.size + 1 ∧ i = .int .i64 k ∧ wr.ownsRow w.heap.size 9 1 vo (outK cs k).length ((outK cs k).map .string) ∧ wr.ownsRow w.heap.size 5 1 vw (curK cs k).length ((curK cs k).map (.int .u8)) ∧ w.grownBy wr none) (fun _ _ i _ => s.size + 1 - (intOf i).toNat)
  case atStart => exact ⟨0, Nat.zero_le _, rfl, World.ownsRow_nil _ _ _ _, World.ownsRow_nil _ _ _ _, only_refl _ _⟩
  case round =>
    obtain ⟨k, hk, rfl, hO, hC, hG⟩ := hrel
    have G := Lib.hid hG
    have hsz := hG.size
    obtain ⟨out, hout⟩ : ∃ out, out = outK cs k := ⟨_, rfl⟩
    obtain ⟨cur, hcur⟩ : ∃ cur, cur = curK cs k := ⟨_, rfl⟩
    rw [← hout] at hO
    rw [← hcur] at hC
    obtain ⟨Ao, co, rfl, hoc, hom, -, hor⟩ := Rd.of_own hO (by decide)
    obtain ⟨Aw, cw, rfl, -, -, -, hrw⟩ := Rd.of_own hC (by decide)
    have OO := Lib.hid hO
    have OC := Lib.hid hC
    have RO := Lib.hid hor
    have RW := Lib.hid hrw
    have HOUT := Lib.hid hout
    have HCUR := Lib.hid hcur
    have hlo : out.length ≤ 200000 ∧ cur.length ≤ 200000 := by
      have h1 := wst_len _ (cs.take k) (Nat.le_refl _)
      have h2 := rawW_len cs
      have h3 := HLEN.out
      rw [List.length_take] at h1
      rw [hout, hcur]
      unfold outK curK
      constructor
      · split <;> omega
      · split
        · omega
        · simp
    obtain ⟨hlo1, hlo2⟩ := hlo
    clear hO hC hG hor hrw hout hcur
    by_cases hlt : k < s.size
    · have hx := bts_at s hlt
      have hxb : (s[k]'hlt).toNat ≤ 255 := by have := (s[k]'hlt).toNat_lt; omega
      have hst := k_step (cs := cs) (k := k) (by rw [HCS.out]; exact hx)
      have hko : outK cs k = (wst (cs.take k)).2 ∧ curK cs k = (wst (cs.take k)).1 := by unfold outK curK; rw [if_pos (by rw [HLEN.out]; omega), if_pos (by rw [HLEN.out]; omega)]; exact ⟨rfl, rfl⟩
      have HKO := Lib.hid hko
      have i1 : (k : Int) < (s.size : Int) := by omega
      have i2 : (k : Int) < (s.size : Int) + 1 := by omega
      have HST := Lib.hid hst
      clear hx hst hko
      go_wp2_with fail
      refine (lower_any _ wr (by omega) (by omega)).mono ?_
      rintro e w2 ⟨rfl, rfl⟩
      cases hlow : lowI ((s[k]'hlt).toNat : Int) with
      | some d =>
        have hd := lowI_in hlow
        have HO1 : Hid (outK cs (k + 1) = out) := Lib.hid (by
          rw [HST.out.1, HOUT.out, HKO.out.1]; unfold stepW; rw [hlow])
        have HC1 : Hid (curK cs (k + 1) = cur ++ [d]) := Lib.hid (by
          rw [HST.out.2, HCUR.out, HKO.out.2]; unfold stepW; rw [hlow])

        simp only [Option.getD_some, Option.isSome_some]
        clear hlow
        obtain ⟨wr, rfl⟩ : ∃ w0 : World, w0 = w2 := ⟨_, rfl⟩
        go_wp2_with (at_builtin; refine wpList_append1 rfl _ _ 22 rfl w.heap.size Tryz.underlying22 u8Info27 rfl (by decide) (v := .slice Aw cur.length cw) (by rfl) (w0 := wr) (cs := #[.int .u8 d]) OC.out (by rfl) rfl (by simp [Value.oneCell']) (by decide) (by omega) (by omega) ?_; intro v7 w7 hown7 hg7 hob7)
        have C7 : Hid (w7.ownsRow w.heap.size 5 1 v7 (cur ++ [d]).length ((cur ++ [d]).map (.int .u8))) := Lib.hid (by simpa using hown7)
        have O7 := Lib.hid (OO.out.kept hg7 (own_apart2 OO.out OC.out (by decide)))
        have G7 : Hid (w.grownBy w7 none) := Lib.hid (only_own G.out hg7 OC.out (Nat.le_refl _))
        clear hown7 hg7 hob7
        go_wp2_with fail
        go_roundw
        case rel => exact ⟨k + 1, by omega, by go_num, by rw [HO1.out]; exact O7.out, by rw [HC1.out]; exact C7.out, G7.out⟩
        case measure => simp [intOf]; omega
      | none =>
        have HO1 : Hid (outK cs (k + 1) = flushW cur out) := Lib.hid (by
          rw [HST.out.1, HOUT.out, HCUR.out, HKO.out.1, HKO.out.2]; unfold stepW; rw [hlow])
        have HC1 : Hid (curK cs (k + 1) = []) := Lib.hid (by
          rw [HST.out.2]; unfold stepW; rw [hlow])

        simp only [Option.getD_none, Option.isSome_none]
        clear hlow
        obtain ⟨wr, rfl⟩ : ∃ w0 : World, w0 = w2 := ⟨_, rfl⟩
        by_cases hc0 : 0 < cur.length
        · by_cases hc40 : cur.length ≤ 40
          · have HF : Hid (flushW cur out = out ++ [strOfNums cur]) := Lib.hid (by unfold flushW; rw [if_pos ⟨hc0, hc40⟩])
            have j1 : (0 : Int) < (cur.length : Int) := by omega
            have j2 : (cur.length : Int) ≤ 40 := by omega
            have hcv := Lib.BytesIn.convert (P := Tryz.prog) (w := wr) (p := Aw) (n := cur.length) (xs := cur) (bytesin_rd RW.out) rfl cw 22 5 9 Tryz.underlying22 Tryz.underlying5 Tryz.underlying9
            go_wp2_with (at_builtin; refine wpList_append1 rfl _ _ 56 rfl w.heap.size Tryz.underlying56 strInfo rfl (by decide) (v := .slice Ao out.length co) (by rfl) (w0 := wr) (cs := #[.string (strOfNums cur)]) OO.out (by rfl) rfl (by simp [Value.oneCell']) (by decide) (by omega) (by omega) ?_; intro v7 w7 hown7 hg7 hob7)
            have O7 : Hid (w7.ownsRow w.heap.size 9 1 v7 (flushW cur out).length ((flushW cur out).map .string)) := Lib.hid (by rw [HF.out]; simpa using hown7)
            have G7 : Hid (w.grownBy w7 none) := Lib.hid (only_own G.out hg7 OO.out (Nat.le_refl _))
            have C7 := Lib.hid (OC.out.kept hg7 (own_apart2 OC.out OO.out (by decide)))
            clear hown7 hg7 hob7 hcv
            go_wp2_with fail
            go_roundw
            case rel => exact ⟨k + 1, by omega, by go_num, by rw [HO1.out]; exact O7.out, by rw [HC1.out]; exact own_zero C7.out, G7.out⟩
            case measure => simp [intOf]; omega
          · have HF : Hid (flushW cur out = out) := Lib.hid (by unfold flushW; rw [if_neg (by omega)])
            have j1 : (0 : Int) < (cur.length : Int) := by omega
            have j2 : ¬ ((cur.length : Int) ≤ 40) := by omega
            have O7 : Hid (wr.ownsRow w.heap.size 9 1 (.slice Ao out.length co) (flushW cur out).length ((flushW cur out).map .string)) := Lib.hid (by rw [HF.out]; exact OO.out)
            have G7 := G
            have C7 := OC
            go_wp2_with fail
            go_roundw
            case rel => exact ⟨k + 1, by omega, by go_num, by rw [HO1.out]; exact O7.out, by rw [HC1.out]; exact own_zero C7.out, G7.out⟩
            case measure => simp [intOf]; omega
        · have HF : Hid (flushW cur out = out) := Lib.hid (by unfold flushW; rw [if_neg (by omega)])
          have j1 : ¬ ((0 : Int) < (cur.length : Int)) := by omega
          have O7 : Hid (wr.ownsRow w.heap.size 9 1 (.slice Ao out.length co) (flushW cur out).length ((flushW cur out).map .string)) := Lib.hid (by rw [HF.out]; exact OO.out)
          have G7 := G
          have C7 := OC
          go_wp2_with fail
          go_roundw
          case rel => exact ⟨k + 1, by omega, by go_num, by rw [HO1.out]; exact O7.out, by rw [HC1.out]; exact own_zero C7.out, G7.out⟩
          case measure => simp [intOf]; omega
    · by_cases hke : k = s.size
      · have i1 : ¬ ((k : Int) < (s.size : Int)) := by omega
        have i2 : (k : Int) < (s.size : Int) + 1 := by omega
        have HO1 : Hid (outK cs (k + 1) = flushW cur out) := Lib.hid (by
          rw [HOUT.out, HCUR.out]
          unfold outK curK
          rw [if_neg (by rw [HLEN.out]; omega), if_pos (by rw [HLEN.out]; omega), if_pos (by rw [HLEN.out]; omega), List.take_of_length_le (by rw [HLEN.out]; omega)]
          rfl)
        have HC1 : Hid (curK cs (k + 1) = []) := Lib.hid (by unfold curK; rw [if_neg (by rw [HLEN.out]; omega)])
        have HKE := Lib.hid hke
        clear hke
        by_cases hc0 : 0 < cur.length
        · by_cases hc40 : cur.length ≤ 40
          · have HF : Hid (flushW cur out = out ++ [strOfNums cur]) := Lib.hid (by unfold flushW; rw [if_pos ⟨hc0, hc40⟩])
            have j1 : (0 : Int) < (cur.length : Int) := by omega
            have j2 : (cur.length : Int) ≤ 40 := by omega
            have hcv := Lib.BytesIn.convert (P := Tryz.prog) (w := wr) (p := Aw) (n := cur.length) (xs := cur) (bytesin_rd RW.out) rfl cw 22 5 9 Tryz.underlying22 Tryz.underlying5 Tryz.underlying9
            go_wp2_with (at_builtin; refine wpList_append1 rfl _ _ 56 rfl w.heap.size Tryz.underlying56 strInfo rfl (by decide) (v := .slice Ao out.length co) (by rfl) (w0 := wr) (cs := #[.string (strOfNums cur)]) OO.out (by rfl) rfl (by simp [Value.oneCell']) (by decide) (by omega) (by omega) ?_; intro v7 w7 hown7 hg7 hob7)
            have O7 : Hid (w7.ownsRow w.heap.size 9 1 v7 (flushW cur out).length ((flushW cur out).map .string)) := Lib.hid (by rw [HF.out]; simpa using hown7)
            have G7 : Hid (w.grownBy w7 none) := Lib.hid (only_own G.out hg7 OO.out (Nat.le_refl _))
            have C7 := Lib.hid (OC.out.kept hg7 (own_apart2 OC.out OO.out (by decide)))
            clear hown7 hg7 hob7 hcv
            go_wp2_with fail
            go_roundw
            case rel => exact ⟨k + 1, by omega, by go_num, by rw [HO1.out]; exact O7.out, by rw [HC1.out]; exact own_zero C7.out, G7.out⟩
            case measure => simp [intOf]; omega
          · have HF : Hid (flushW cur out = out) := Lib.hid (by unfold flushW; rw [if_neg (by omega)])
            have j1 : (0 : Int) < (cur.length : Int) := by omega
            have j2 : ¬ ((cur.length : Int) ≤ 40) := by omega
            have O7 : Hid (wr.ownsRow w.heap.size 9 1 (.slice Ao out.length co) (flushW cur out).length ((flushW cur out).map .string)) := Lib.hid (by rw [HF.out]; exact OO.out)
            have G7 := G
            have C7 := OC
            go_wp2_with fail
            go_roundw
            case rel => exact ⟨k + 1, by omega, by go_num, by rw [HO1.out]; exact O7.out, by rw [HC1.out]; exact own_zero C7.out, G7.out⟩
            case measure => simp [intOf]; omega
        · have HF : Hid (flushW cur out = out) := Lib.hid (by unfold flushW; rw [if_neg (by omega)])
          have j1 : ¬ ((0 : Int) < (cur.length : Int)) := by omega
          have O7 : Hid (wr.ownsRow w.heap.size 9 1 (.slice Ao out.length co) (flushW cur out).length ((flushW cur out).map .string)) := Lib.hid (by rw [HF.out]; exact OO.out)
          have G7 := G
          have C7 := OC
          go_wp2_with fail
          go_roundw
          case rel => exact ⟨k + 1, by omega, by go_num, by rw [HO1.out]; exact O7.out, by rw [HC1.out]; exact own_zero C7.out, G7.out⟩
          case measure => simp [intOf]; omega
      · have i2 : ¬ ((k : Int) < (s.size : Int) + 1) := by omega
        have HE : Hid (out = rawW cs) := Lib.hid (by rw [HOUT.out]; unfold outK; rw [if_neg (by rw [HLEN.out]; omega)])
        go_wp2_with fail
        refine (sort_ownS w.heap.size _ out wr OO.out (by omega)).mono ?_
        rintro e w3 ⟨rfl, ho3, hg3⟩
        have O3 := Lib.hid ho3
        have G3 := Lib.hid (only_own G.out hg3 OO.out (Nat.le_refl _))
        have hsl : (sorted (out.map ofB)).length = out.length := by rw [sorted_len, List.length_map]
        have hsl2 : (sorted (out.map ofB)).length ≤ 1000000 := by omega
        have hcl := Lib.compact_length_le (sorted (out.map ofB))
        have hdl : (dist out).length ≤ out.length := by unfold dist; rw [List.length_map]; omega
        clear ho3 hg3 hsl hcl
        go_wp2_with fail
        refine (comp_ownO w.heap.size _ (sorted (out.map ofB)) w3 O3.out hsl2).mono ?_
        rintro e w4 ⟨A4, c4, rfl, h1, h2, h3, hg4, -⟩
        have G4 := Lib.hid (only_own G3.out hg4 O3.out (Nat.le_refl _))
        have e1 : (Lib.compact (sorted (out.map ofB))).length = (dist out).length := by unfold dist; rw [List.length_map]
        rw [e1] at h1 h3 ⊢
        have H3 : Hid (w4.ownsRow w.heap.size 9 1 (.slice A4 (dist out).length c4) (dist out).length ((dist out).map .string)) := Lib.hid (by have h9 := h3; rw [encStrB] at h9; exact h9)
        clear h3 hg4 e1 O3
        go_wp2_with fail
        go_ret
        rw [← HE.out]
        exact ⟨A4, c4, dist out, rfl, h1, h2, dist_srt out, dist_mem out, hdl, H3.out, G4.out⟩
end Go.Proofs.YtfbkkbbpgipipaaGreatDoor

namespace Go.Proofs.YtfbkkbbpgipipaaGreatDoor
open Go.RowKit
set_option linter.unusedVariables false
set_option linter.unusedSimpArgs false

/-- words are short -/
theorem wst_sz : ∀ (n : Nat) (cs : List Int), cs.length ≤ n → ∀ x ∈ (wst cs).2, x.size ≤ 40 := by
  have fl : ∀ (cur : List Int) (out : List ByteArray), (∀ x ∈ out, x.size ≤ 40) → ∀ x ∈ flushW cur out, x.size ≤ 40 := fun cur out h x hx => by
    unfold flushW at hx
    split at hx
    · rename_i hc
      rcases List.mem_append.1 hx with hx | hx
      · exact h x hx
      · rw [List.mem_singleton] at hx
        subst hx
        have : (strOfNums cur).size = cur.length := by simp [strOfNums, ByteArray.size]
        omega
    · exact h x hx
  intro n
  induction n with
  | zero => intro cs h x hx; have : cs = [] := List.eq_nil_of_length_eq_zero (by omega); subst this; simp [wst] at hx
  | succ n ih =>
    intro cs h
    rcases List.eq_nil_or_concat cs with rfl | ⟨l, c, rfl⟩
    · intro x hx; simp [wst] at hx
    · have e : l.concat c = l ++ [c] := List.concat_eq_append
      rw [e] at h ⊢
      rw [wst_snoc]
      have h1 := ih l (by simp at h; omega)
      unfold stepW
      cases lowI c with
      | some d => exact h1
      | none => exact fl _ _ h1
theorem rawW_sz (cs : List Int) : ∀ x ∈ rawW cs, x.size ≤ 40 := by
  intro x hx
  have h := wst_sz cs.length cs (Nat.le_refl _)
  unfold rawW flushW at hx
  split at hx
  · rename_i hc
    rcases List.mem_append.1 hx with hx | hx
    · exact h x hx
    · rw [List.mem_singleton] at hx
      subst hx
      have : (strOfNums (wst cs).1).size = (wst cs).1.length := by simp [strOfNums, ByteArray.size]
      omega
  · exact h x hx
end Go.Proofs.YtfbkkbbpgipipaaGreatDoor

namespace Go.Proofs.YtfbkkbbpgipipaaGreatDoor
open Go.RowKit
set_option linter.unusedVariables false
set_option linter.unusedSimpArgs false

def addAll (f : ByteArray → List Int) (ss : List ByteArray) (id : Int) : ByteArray → List Int := ss.foldl (fun f s => moreS f s id) f
theorem addAll_snoc (f : ByteArray → List Int) (ss : List ByteArray) (s : ByteArray) (id : Int) : addAll f (ss ++ [s]) id = moreS (addAll f ss id) s id := by simp [addAll, List.foldl_append]
theorem addAll_ne (f : ByteArray → List Int) (id : Int) (s : ByteArray) : ∀ (ss : List ByteArray), addAll f ss id s ≠ [] ↔ f s ≠ [] ∨ s ∈ ss := by
  intro ss
  induction ss generalizing f with
  | nil => simp [addAll]
  | cons x ss ih =>
    have h := ih (moreS f x id)
    have e : addAll f (x :: ss) id = addAll (moreS f x id) ss id := rfl
    rw [e, h]
    unfold moreS
    by_cases hs : s = x
    · simp [hs]
    · simp [hs]
theorem addAll_len (f : ByteArray → List Int) (id : Int) (s : ByteArray) : ∀ (ss : List ByteArray), (addAll f ss id s).length ≤ (f s).length + ss.length := by
  intro ss
  induction ss generalizing f with
  | nil => simp [addAll]
  | cons x ss ih =>
    have h := ih (moreS f x id)
    have e : addAll f (x :: ss) id = addAll (moreS f x id) ss id := rfl
    rw [e]
    have : (moreS f x id s).length ≤ (f s).length + 1 := by unfold moreS; split <;> simp
    simp only [List.length_cons]
    omega
/-- the index of the strings of events: the first k events -/
def idxM (g : Ev → List ByteArray) : List Ev → Nat → Int → (ByteArray → List Int) → ByteArray → List Int
  | [], _, _, f => f
  | _, 0, _, f => f
  | e :: es, k + 1, id, f => idxM g es k (id + 1) (addAll f (g e) id)
def idxU (g : Ev → List ByteArray) (es : List Ev) (k : Nat) : ByteArray → List Int := idxM g es k 0 (fun _ => [])
theorem idxM_step (g : Ev → List ByteArray) : ∀ (es : List Ev) (k : Nat) (id : Int) (f : ByteArray → List Int) (e : Ev), es[k]? = some e → idxM g es (k + 1) id f = addAll (idxM g es k id f) (g e) (id + k) := by
  intro es
  induction es with
  | nil => intro k id f e h; simp at h
  | cons x es ih =>
    intro k id f e h
    cases k with
    | zero =>
      simp at h
      subst h
      cases es <;> simp [idxM]
    | succ k =>
      have := ih k (id + 1) (addAll f (g x) id) e (by simpa using h)
      simp only [idxM] at this ⊢
      rw [this]
      congr 1
      omega
theorem idxU_step {g : Ev → List ByteArray} {es : List Ev} {k : Nat} {e : Ev} (h : es[k]? = some e) : idxU g es (k + 1) = addAll (idxU g es k) (g e) k := by
  have := idxM_step g es k 0 (fun _ => []) e h
  simpa [idxU] using this
theorem idxM_ne (g : Ev → List ByteArray) (s : ByteArray) : ∀ (es : List Ev) (k : Nat) (id : Int) (f : ByteArray → List Int), idxM g es k id f s ≠ [] ↔ f s ≠ [] ∨ s ∈ (es.take k).flatMap g := by
  intro es
  induction es with
  | nil => intro k id f; simp [idxM]
  | cons x es ih =>
    intro k id f
    cases k with
    | zero => simp [idxM]
    | succ k =>
      simp only [idxM, List.take_succ_cons, List.flatMap_cons, List.mem_append]
      rw [ih, addAll_ne, or_assoc]
theorem idxM_len (g : Ev → List ByteArray) (s : ByteArray) : ∀ (es : List Ev) (k : Nat) (id : Int) (f : ByteArray → List Int), (idxM g es k id f s).length ≤ (f s).length + ((es.take k).flatMap g).length := by
  intro es
  induction es with
  | nil => intro k id f; simp [idxM]
  | cons x es ih =>
    intro k id f
    cases k with
    | zero => simp [idxM]
    | succ k =>
      simp only [idxM, List.take_succ_cons, List.flatMap_cons, List.length_append]
      have h1 := ih k (id + 1) (addAll f (g x) id)
      have h2 := addAll_len f id s (g x)
      omega
theorem idxU_ne (g : Ev → List ByteArray) (es : List Ev) (k : Nat) (s : ByteArray) : idxU g es k s ≠ [] ↔ s ∈ (es.take k).flatMap g := by
  have := idxM_ne g s es k 0 (fun _ => [])
  simpa [idxU] using this
theorem idxU_len (g : Ev → List ByteArray) (es : List Ev) (k : Nat) (s : ByteArray) : (idxU g es k s).length ≤ ((es.take k).flatMap g).length := by
  have := idxM_len g s es k 0 (fun _ => [])
  simpa [idxU] using this
/-- a map that has just been made and filled -/
def IdxP (f : ByteArray → List Int) (w : World) (e : Ending) (w' : World) : Prop :=
  ∃ b n, e = .returned (.map (some b)) ∧ w.heap.size ≤ b ∧ SM w' b (b + 1) n f ∧ w.grownBy w' none
def namesG (e : Ev) : List ByteArray := e.fields.map FieldD.name
set_option maxHeartbeats 4000000 in
set_option maxRecDepth 100000 in
theorem snames_any {S : Nat → Prop} (A : Option Addr) (es : List Ev) (c : Nat) (w : World) (hev : Evs S w A es) (hel : es.length ≤ 2000) (hs : ∀ e ∈ es, e.fields.length ≤ 100 ∧ ∀ f ∈ e.fields, f.name.size ≤ 1000) :
    Calls Tryz.prog 27 #[.slice A es.length c] w (IdxP (idxU namesG es es.length) w) := by
  have HEV := Lib.hid (hev.mono (S' := (· < w.heap.size)) (fun b _ h => h))
  have HS := Lib.hid hs
  have HL : Hid (∀ k, ((es.take k).flatMap namesG).length ≤ 200000) := Lib.hid (fun k => by
    have h0 : ∀ (l : List Ev), (∀ e ∈ l, e.fields.length ≤ 100) → (l.flatMap namesG).length ≤ l.length * 100 := fun l hl => by
      induction l with
      | nil => simp
      | cons x l ih =>
        have h1 := hl x (by simp)
        have h2 := ih (fun e he => hl e (by simp [he]))
        simp only [List.flatMap_cons, List.length_append, List.length_cons, namesG, List.length_map] at h2 ⊢
        omega
    have h1 := h0 (es.take k) (fun e he => (hs e (List.mem_of_mem_take he)).1)
    have h2 : (es.take k).length ≤ es.length := by rw [List.length_take]; omega
    omega)
  clear hev hs
  go_enter Tryz.func27, Tryz.ntmps27
  have hmm := @run_makeMap Tryz.prog
  obtain ⟨b, hb⟩ : ∃ b, b = w.heap.size := ⟨_, rfl⟩
  obtain ⟨W1, hW1⟩ : ∃ W, W = w.alloc (.map #[] 0) := ⟨_, rfl⟩
  have M1 : Hid (SM W1 b (b + 1) 0 (idxU namesG es 0)) := Lib.hid (by
    rw [hW1, hb]
    have := SM.made w (base := w.heap.size + 1) (by omega)
    have e : idxU namesG es 0 = fun _ => [] := by funext s; cases es <;> rfl
    rw [e]; exact this)
  have G1 : Hid (w.grownBy W1 none) := Lib.hid (by rw [hW1]; exact only_alloc (only_refl _ _) _)
  have hbw : w.heap.size ≤ b := by omega
  have HW := Lib.hid hW1.symm
  have HB := Lib.hid hb
  clear hb hW1
  go_upto_region 2 with fail
  rw [HW.out, ← HB.out]
  clear hmm HW
  go_wp2_with fail
  go_loopw [11] (fun vi wr => ∃ k n : Nat, vi = .int .i64 k ∧ k ≤ es.length ∧ SM wr b (b + 1) n (idxU namesG es k) ∧ w.grownBy wr none) (fun vi _ => es.length - (intOf vi).toNat)
  case atStart => exact ⟨0, 0, rfl, Nat.zero_le _, M1.out, G1.out⟩
  case round =>
    obtain ⟨k, n, rfl, hk, hM, hG⟩ := hrel
    have M := Lib.hid hM
    have G := Lib.hid hG
    clear hM hG
    by_cases hlt : k < es.length
    · obtain ⟨y, hy⟩ : ∃ y, es[k]? = some y := ⟨_, List.getElem?_eq_getElem hlt⟩
      obtain ⟨kb, ko, eE, hkw, z0, z1, z2, z3, z4, z5, z6, z7, z8, z9⟩ := ev_in (HEV.out.1.grown G.out (by simp)) hy
      subst eE
      have i1 : (k : Int) < (es.length : Int) := by omega
      have i2 : (0 : Int) ≤ (k : Int) := by omega
      have hym := List.mem_of_getElem? hy
      have HF : Hid (∀ W', w.grownBy W' none → Rd (· < w.heap.size) W' y.fa (y.fields.flatMap FieldD.cells)) := Lib.hid (fun W' hg => (HEV.out.2 y hym).2.1.grown hg (by simp))
      have hfl := (HS.out y hym).1
      have hfn := Lib.hid (HS.out y hym).2
      have HY := Lib.hid hy
      clear hy hym
      go_wp2_with fail
      obtain ⟨wo, rfl⟩ : ∃ x, x = wr := ⟨_, rfl⟩
      go_loopw [19] (fun vj wr => ∃ j n : Nat, vj = .int .i64 j ∧ j ≤ y.fields.length ∧ SM wr b (b + 1) n (addAll (idxU namesG es k) ((y.fields.take j).map FieldD.name) k) ∧ w.grownBy wr none) (fun vj _ => y.fields.length - (intOf vj).toNat)
      case atStart => exact ⟨0, n, rfl, Nat.zero_le _, M.out.quiet (only_alloc (only_refl _ _) _), only_alloc G.out _⟩
      case round =>
        clear M G
        obtain ⟨j, n, rfl, hj, hM, hG⟩ := hrel
        have M := Lib.hid hM
        have G := Lib.hid hG
        clear hM hG
        by_cases hlt2 : j < y.fields.length
        · obtain ⟨z, hz⟩ : ∃ z, y.fields[j]? = some z := ⟨_, List.getElem?_eq_getElem hlt2⟩
          have hrf := HF.out wr G.out
          obtain ⟨fb, fo, eF, -, -, -⟩ := hrf (by rw [flat_len _ 2 FieldD.cells_len]; omega)
          rw [eF] at hrf
          have q0 : wr.cell? ⟨fb, fo + j * 2, none⟩ = some (.string z.name) := hrf.flatAt FieldD.cells_len hz 0 (by omega)
          have q1 : wr.cell? ⟨fb, fo + j * 2 + 1, none⟩ = some (.string z.value) := hrf.flatAt FieldD.cells_len hz 1 (by omega)
          have j1 : (j : Int) < (y.fields.length : Int) := by omega
          have j2 : (0 : Int) ≤ (j : Int) := by omega
          have hnz := hfn.out z (List.mem_of_getElem? hz)
          have KA : Hid (Calls Tryz.prog 52 #[.map (some b), .string z.name, .int .i64 (k : Int)] (wr.alloc (.cells #[.string z.name, .string z.value] 69)) (AddP b (b + 1) n (addAll (idxU namesG es k) ((y.fields.take j).map FieldD.name) k) z.name k (wr.alloc (.cells #[.string z.name, .string z.value] 69)))) := Lib.hid (add_row z.name k _ (M.out.quiet (only_alloc (only_refl _ _) _)) (by unfold SKey maxLen; omega) (by have := M.out.lt; simp; omega) (by omega) (by
            have h1 := addAll_len (idxU namesG es k) k z.name ((y.fields.take j).map FieldD.name)
            have h2 := idxU_len namesG es k z.name
            have h3 := HL.out k
            rw [List.length_map, List.length_take] at h1
            omega))
          have HZ : Hid (moreS (addAll (idxU namesG es k) ((y.fields.take j).map FieldD.name) k) z.name k = addAll (idxU namesG es k) ((y.fields.take (j + 1)).map FieldD.name) k) := Lib.hid (by
            obtain ⟨h1, h2⟩ := List.getElem?_eq_some_iff.1 hz
            rw [List.take_succ_eq_append_getElem h1, h2, List.map_append, List.map_cons, List.map_nil, addAll_snoc])
          have EF := Lib.hid eF
          clear hrf hz hnz eF
          go_upto_region 8 with (rw [EF.out])
          go_wp2_with fail
          refine KA.out.mono ?_
          rintro e w3 ⟨rfl, hm3, hf3, hs3, -⟩
          rw [HZ.out] at hm3
          have M3 := Lib.hid hm3
          have G3 : Hid (w.grownBy w3 none) := Lib.hid (hf3 w none hbw (only_alloc G.out _))
          clear hm3 hf3 hs3 KA q0 q1 M G HZ
          go_wp2_with fail
          go_roundw
          case rel => exact ⟨j + 1, n + 1, by go_num, by omega, M3.out, G3.out⟩
          case measure => simp [intOf]; omega
        · obtain rfl : j = y.fields.length := by omega
          have i3 : ¬ ((y.fields.length : Int) < (y.fields.length : Int)) := by omega
          have HZ : Hid (SM wr b (b + 1) n (idxU namesG es (k + 1))) := Lib.hid (by
            rw [idxU_step HY.out]
            have := M.out
            rwa [List.take_length] at this)
          clear M
          go_wp2_with fail
          go_roundw
          case rel => exact ⟨k + 1, n, by go_num, by omega, HZ.out, G.out⟩
          case measure => simp [intOf]; omega
    · obtain rfl : k = es.length := by omega
      have i3 : ¬ ((es.length : Int) < (es.length : Int)) := by omega
      go_wp2_with fail
      go_ret
      exact ⟨b, n, rfl, hbw, M.out, G.out⟩
def wordsG (e : Ev) : List ByteArray := dist (rawW (bts (textOf e.lines)))
set_option maxHeartbeats 4000000 in
set_option maxRecDepth 100000 in
theorem swords_idx {S : Nat → Prop} (A : Option Addr) (es : List Ev) (c : Nat) (w : World) (hev : Evs S w A es) (hel : es.length ≤ 2000) (hs : ∀ e ∈ es, e.lines.length ≤ 1000 ∧ (∀ l ∈ e.lines, l.text.size ≤ 100000) ∧ (textOf e.lines).size ≤ 400) :
    Calls Tryz.prog 26 #[.slice A es.length c] w (IdxP (idxU wordsG es es.length) w) := by
  have HEV := Lib.hid (hev.mono (S' := (· < w.heap.size)) (fun b _ h => h))
  have HS := Lib.hid hs
  have HW1 : Hid (∀ e ∈ es, (wordsG e).length ≤ 401) := Lib.hid (fun e he => by
    have h1 := dist_len (rawW (bts (textOf e.lines)))
    have h2 := rawW_len (bts (textOf e.lines))
    rw [bts_length] at h2
    have := (hs e he).2.2
    unfold wordsG
    omega)
  have HL : Hid (∀ k, ((es.take k).flatMap wordsG).length ≤ 900000) := Lib.hid (fun k => by
    have h0 : ∀ (l : List Ev), (∀ e ∈ l, (wordsG e).length ≤ 401) → (l.flatMap wordsG).length ≤ l.length * 401 := fun l hl => by
      induction l with
      | nil => simp
      | cons x l ih =>
        have h1 := hl x (by simp)
        have h2 := ih (fun e he => hl e (by simp [he]))
        simp only [List.flatMap_cons, List.length_append, List.length_cons] at h2 ⊢
        omega
    have h1 := h0 (es.take k) (fun e he => HW1.out e (List.mem_of_mem_take he))
    have h2 : (es.take k).length ≤ es.length := by rw [List.length_take]; omega
    omega)
  clear hev hs
  go_enter Tryz.func26, Tryz.ntmps26
  have hmm := @run_makeMap Tryz.prog
  obtain ⟨b, hb⟩ : ∃ b, b = w.heap.size := ⟨_, rfl⟩
  obtain ⟨W1, hW1⟩ : ∃ W, W = w.alloc (.map #[] 0) := ⟨_, rfl⟩
  have M1 : Hid (SM W1 b (b + 1) 0 (idxU wordsG es 0)) := Lib.hid (by
    rw [hW1, hb]
    have := SM.made w (base := w.heap.size + 1) (by omega)
    have e : idxU wordsG es 0 = fun _ => [] := by funext s; cases es <;> rfl
    rw [e]; exact this)
  have G1 : Hid (w.grownBy W1 none) := Lib.hid (by rw [hW1]; exact only_alloc (only_refl _ _) _)
  have hbw : w.heap.size ≤ b := by omega
  have HW := Lib.hid hW1.symm
  have HB := Lib.hid hb
  clear hb hW1
  go_upto_region 2 with fail
  rw [HW.out, ← HB.out]
  clear hmm HW
  go_wp2_with fail
  go_loopw [11] (fun vi wr => ∃ k n : Nat, vi = .int .i64 k ∧ k ≤ es.length ∧ SM wr b (b + 1) n (idxU wordsG es k) ∧ w.grownBy wr none) (fun vi _ => es.length - (intOf vi).toNat)
  case atStart => exact ⟨0, 0, rfl, Nat.zero_le _, M1.out, G1.out⟩
  case round =>
    obtain ⟨k, n, rfl, hk, hM, hG⟩ := hrel
    have M := Lib.hid hM
    have G := Lib.hid hG
    clear hM hG
    by_cases hlt : k < es.length
    · obtain ⟨y, hy⟩ : ∃ y, es[k]? = some y := ⟨_, List.getElem?_eq_getElem hlt⟩
      obtain ⟨kb, ko, eE, hkw, z0, z1, z2, z3, z4, z5, z6, z7, z8, z9⟩ := ev_in (HEV.out.1.grown G.out (by simp)) hy
      subst eE
      have i1 : (k : Int) < (es.length : Int) := by omega
      have i2 : (0 : Int) ≤ (k : Int) := by omega
      have hym := List.mem_of_getElem? hy
      have HY := Lib.hid hy
      obtain ⟨T, hT⟩ : ∃ T, T = textOf y.lines := ⟨_, rfl⟩
      have KT : Hid (∀ W, w.grownBy W none → Calls Tryz.prog 51 #[.agg y.cells.toArray] W (TextP W T)) := Lib.hid (fun W hg => by rw [hT]; exact text_any y W ((HEV.out.2 y hym).grown hg (by simp)) (HS.out y hym).1 (HS.out y hym).2.1)
      have KW : Hid (∀ W, Calls Tryz.prog 50 #[.string T] W (DistOwn W (rawW (bts T)))) := Lib.hid (fun W => swords_own T W (by rw [hT]; have := (HS.out y hym).2.2; omega))
      have HWY : Hid (wordsG y = dist (rawW (bts T))) := Lib.hid (by rw [hT]; rfl)
      have hwy := HW1.out y hym
      clear hy hym hT
      have KT1 := KT.out (wr.alloc (.cells #[.int .i64 y.host, .int .i64 y.file, .int .i64 y.beg, .int .i64 y.fin, .slice y.la y.lines.length y.lc, .int .i64 y.time, .int .i64 y.weight, .string y.trace, .string y.stream, .slice y.fa y.fields.length y.fc] 35)) (only_alloc G.out _)
      rw [show y.cells.toArray = #[.int .i64 y.host, .int .i64 y.file, .int .i64 y.beg, .int .i64 y.fin, .slice y.la y.lines.length y.lc, .int .i64 y.time, .int .i64 y.weight, .string y.trace, .string y.stream, .slice y.fa y.fields.length y.fc] from rfl] at KT1
      have KT2 := Lib.hid KT1
      clear KT1 KT
      go_wp2_with fail
      refine KT2.out.mono ?_
      rintro e w3 ⟨rfl, hg3⟩
      have G3 := Lib.hid (only_trans (only_alloc G.out _) hg3)
      have M3 := Lib.hid ((M.out.quiet (only_alloc (only_refl _ _) _)).quiet hg3)
      clear hg3 KT2 z0 z1 z2 z3 z4 z5 z6 z7 z8 z9
      go_wp2_with fail
      refine (KW.out w3).mono ?_
      rintro e w4 ⟨A4, c4, ds, rfl, hc4, hm4, hsr, hmem, hdl, hown, hg4⟩
      obtain rfl : ds = wordsG y := by rw [HWY.out]; exact srt_ext hsr (dist_srt _) (fun s => by rw [hmem, dist_mem])
      have G4 := Lib.hid (only_trans G3.out hg4)
      have M4 := Lib.hid (M3.out.quiet hg4)
      have R4 : Hid (w4.ownsRow w3.heap.size 9 1 (.slice A4 (wordsG y).length c4) (wordsG y).length ((wordsG y).map .string)) := Lib.hid hown
      have hb3 : b + 1 ≤ w3.heap.size := M3.out.lt
      have hsz4 : w3.heap.size ≤ w4.heap.size := hg4.size
      have hwz : Hid (∀ x ∈ wordsG y, x.size ≤ 40) := Lib.hid (fun x hx => by rw [HWY.out] at hx; exact rawW_sz _ x ((dist_mem _ _).1 hx))
      clear hsr hmem hdl hown hg4 G3 M3 KW M G HWY
      go_wp2_with fail
      go_loopw [20] (fun vj wr => ∃ j n : Nat, vj = .int .i64 j ∧ j ≤ (wordsG y).length ∧ SM wr b (b + 1) n (addAll (idxU wordsG es k) ((wordsG y).take j) k) ∧ wr.ownsRow w3.heap.size 9 1 (.slice A4 (wordsG y).length c4) (wordsG y).length ((wordsG y).map .string) ∧ w.grownBy wr none) (fun vj _ => (wordsG y).length - (intOf vj).toNat)
      case atStart => exact ⟨0, n, rfl, Nat.zero_le _, M4.out, R4.out, G4.out⟩
      case round =>
        clear M4 R4 G4
        obtain ⟨j, n, rfl, hj, hM, hR, hG⟩ := hrel
        have M := Lib.hid hM
        have G := Lib.hid hG
        have R := Lib.hid hR
        clear hM hG
        by_cases hlt2 : j < (wordsG y).length
        · obtain ⟨z, hz⟩ : ∃ z, (wordsG y)[j]? = some z := ⟨_, List.getElem?_eq_getElem hlt2⟩
          obtain ⟨fb, fo, eF, -, -, hcz⟩ := (rd_own hR (by decide)) (by simp; omega)
          subst eF
          have q0 : wr.cell? ⟨fb, fo + j, none⟩ = some (.string z) := hcz j _ (by rw [List.getElem?_map, hz]; rfl)
          have j1 : (j : Int) < ((wordsG y).length : Int) := by omega
          have j2 : (0 : Int) ≤ (j : Int) := by omega
          have hnz := hwz.out z (List.mem_of_getElem? hz)
          have KA : Hid (Calls Tryz.prog 52 #[.map (some b), .string z, .int .i64 (k : Int)] wr (AddP b (b + 1) n (addAll (idxU wordsG es k) ((wordsG y).take j) k) z k wr)) := Lib.hid (add_row z k _ M.out (by unfold SKey maxLen; omega) M.out.lt (by omega) (by
            have h1 := addAll_len (idxU wordsG es k) k z ((wordsG y).take j)
            have h2 := idxU_len wordsG es k z
            have h3 := HL.out k
            rw [List.length_take] at h1
            omega))
          have HZ : Hid (moreS (addAll (idxU wordsG es k) ((wordsG y).take j) k) z k = addAll (idxU wordsG es k) ((wordsG y).take (j + 1)) k) := Lib.hid (by
            obtain ⟨h1, h2⟩ := List.getElem?_eq_some_iff.1 hz
            rw [List.take_succ_eq_append_getElem h1, h2, addAll_snoc])
          clear hR hcz hz hnz
          go_wp2_with fail
          refine KA.out.mono ?_
          rintro e w5 ⟨rfl, hm5, hf5, hs5, hk5⟩
          rw [HZ.out] at hm5
          have M5 := Lib.hid hm5
          have G5 : Hid (w.grownBy w5 none) := Lib.hid (hf5 w none hbw G.out)
          have R5 := Lib.hid (own_keepNI R.out hk5 (by omega) (by decide))
          clear hm5 hf5 hs5 hk5 KA q0 M G HZ R
          go_wp2_with fail
          go_roundw
          case rel => exact ⟨j + 1, n + 1, by go_num, by omega, M5.out, R5.out, G5.out⟩
          case measure => simp [intOf]; omega
        · obtain rfl : j = (wordsG y).length := by omega
          have i3 : ¬ (((wordsG y).length : Int) < ((wordsG y).length : Int)) := by omega
          have HZ : Hid (SM wr b (b + 1) n (idxU wordsG es (k + 1))) := Lib.hid (by
            rw [idxU_step HY.out]
            have := M.out
            rwa [List.take_length] at this)
          clear M hR R
          go_wp2_with fail
          go_roundw
          case rel => exact ⟨k + 1, n, by go_num, by omega, HZ.out, G.out⟩
          case measure => simp [intOf]; omega
    · obtain rfl : k = es.length := by omega
      have i3 : ¬ ((es.length : Int) < (es.length : Int)) := by omega
      go_wp2_with fail
      go_ret
      exact ⟨b, n, rfl, hbw, M.out, G.out⟩
end Go.Proofs.YtfbkkbbpgipipaaGreatDoor
