/- Sorting and compacting a row of strings of the call's own (seat of part 36). Condition: sizes. -/
import Derived.Test.YtpaiideboodaeaaGreatDoorJShelf36
import Derived.Test.YtpaiideboodaeaaGreatDoorJStr
import Derived.Sort.OwnSorted
import Derived.Lib.RowBridge
import Derived.Test.YtpaiideboodaeaaGreatDoorJRWords
import Derived.Deep.DeepCutAuto
namespace Go.Proofs.YtpaiideboodaeaaGreatDoor
open Go.RowKit
set_option linter.unusedVariables false
set_option linter.unusedSimpArgs false

theorem strEnc (ws : List ByteArray) : (ws.map ofB).map encStr = ws.map .string := by
  rw [List.map_map]
  apply List.map_congr_left
  intro s _
  show Value.string ⟨(ofB s).toArray⟩ = Value.string s
  exact congrArg Value.string (toB_ofB s)
theorem encStrB (ls : List (List UInt8)) : ls.map encStr = (ls.map toB).map .string := by
  rw [List.map_map]; rfl
def SSPost (w : World) (base : Nat) (v : Value) (ls : List (List UInt8)) (e : Ending) (w' : World) : Prop :=
  e = .returned (.tuple #[]) ∧ w'.ownsRow base 9 1 v ls.length (ls.map encStr) ∧ w.grownBy w' v.ownBlock
theorem sort_ownS (base : Nat) (v : Value) (ws : List ByteArray) (w : World) (h : w.ownsRow base 9 1 v ws.length (ws.map .string)) (hl : ws.length ≤ 1000000) :
    Calls Tryz.prog 43 #[v] w (SSPost w base v (sorted (ws.map ofB))) := by
  have hsl : (sorted (ws.map ofB)).length = ws.length := by rw [sorted_len, List.length_map]
  rcases h.2 with ⟨rfl, hz⟩ | ⟨g, cap, cur, rfl, hge, hb, h1, h2, h3, h4⟩
  · have h0 : ws = [] := List.eq_nil_of_length_eq_zero hz
    subst h0
    refine (Tryz.slices_Sort_string_none none 0 w).mono ?_
    rintro e w2 ⟨rfl, rfl⟩
    have e : sorted (([] : List ByteArray).map ofB) = [] := List.eq_nil_of_length_eq_zero hsl
    rw [e]
    exact ⟨rfl, h, only_refl _ _⟩
  · have h4' : cur.toList.take (ws.map ofB).length = (ws.map ofB).map encStr := by rw [List.length_map, strEnc]; simpa using h4
    have hH := holds_of_block hb h4'
    have hgl : g < w.heap.size := (Array.getElem?_eq_some_iff.1 hb).1
    have c1 := Tryz.slices_Sort_string g 0 cap (ws.map ofB) w hH hgl (by rw [List.length_map]; omega)
    rw [List.length_map] at c1
    refine c1.mono ?_
    rintro e w2 ⟨rfl, n, os, rfl⟩
    have HO2 := ownsRow_sorted (os := os) (n := n) (ts := sorted (ws.map ofB)) (ss := ws.map ofB) (by rw [hsl, List.length_map]) hge hb (by rw [List.length_map]; exact h1) h2 h3
    have HG2 := grownBy_sorted (w := w) (g := g) (n := n) (os := os) (sorted (ws.map ofB)).toArray
    rw [List.length_map] at HO2
    refine ⟨rfl, ?_, HG2⟩
    rw [hsl]
    exact HO2
def CSPost (w : World) (base : Nat) (row : Option Nat) (ls : List (List UInt8)) (e : Ending) (w' : World) : Prop :=
  ∃ A c, e = .returned (.slice A ls.length c) ∧ ls.length ≤ c ∧ c ≤ maxLen ∧ Rd (base ≤ ·) w' A (ls.map encStr) ∧ w.grownBy w' row
theorem comp_ownS (base : Nat) (v : Value) (ls : List (List UInt8)) (w : World) (h : w.ownsRow base 9 1 v ls.length (ls.map encStr)) (hl : ls.length ≤ 1000000) :
    Calls Tryz.prog 44 #[v] w (CSPost w base v.ownBlock (Lib.compact ls)) := by
  have hcl := Lib.compact_length_le ls
  rcases h.2 with ⟨rfl, hz⟩ | ⟨g, cap, cur, rfl, hge, hb, h1, h2, h3, h4⟩
  · have h0 : ls = [] := List.eq_nil_of_length_eq_zero hz
    subst h0
    refine (Tryz.slices_Compact_string_empty none 0 w).mono ?_
    rintro e w2 ⟨rfl, rfl⟩
    exact ⟨none, 0, rfl, Nat.le_refl _, by unfold maxLen; omega, Rd.nil, only_refl _ _⟩
  · have h4' : cur.toList.take ls.length = ls.map encStr := by simpa using h4
    have hH := holds_of_block hb h4'
    refine (Tryz.slices_Compact_string g 0 cap ls w hH (by omega) (by omega)).mono ?_
    rintro e w2 ⟨rfl, n, hw2⟩
    obtain ⟨ts, hts⟩ : ∃ ts, ts = Lib.compact ls ++ List.replicate (ls.length - (Lib.compact ls).length) ([] : List UInt8) := ⟨_, rfl⟩
    have hsl : ts.length = ls.length := by rw [hts]; simp; omega
    rw [← hts] at hw2
    have hw2 : w2 = Go.Sort.grow (Go.Sort.putRow encStr (Go.Sort.ahead w n) g 0 ts.toArray) #[] := by rw [Go.Sort.grow_empty]; exact hw2
    have HO2 := ownsRow_sorted (os := #[]) (n := n) (ts := ts) (ss := ls) hsl hge hb h1 h2 h3
    have HG2 := grownBy_sorted (w := w) (g := g) (n := n) (os := #[]) ts.toArray
    rw [← hw2] at HO2 HG2
    obtain ⟨A9, c9, e9, hc9, hm9, -, hr9⟩ := Rd.of_own HO2 (by decide)
    injection e9 with e91 e92 e93
    subst e91 e93
    refine ⟨_, _, rfl, by omega, hm9, ?_, HG2⟩
    have := hr9.take (Lib.compact ls).length
    rw [← List.map_take, hts, List.take_left' rfl] at this
    exact this
end Go.Proofs.YtpaiideboodaeaaGreatDoor

namespace Go.Proofs.YtpaiideboodaeaaGreatDoor
open Go.RowKit
set_option linter.unusedVariables false
set_option linter.unusedSimpArgs false

theorem own_take {w : World} {base e n c k : Nat} {A : Option Addr} {xs : List Value} (h : w.ownsRow base e 1 (.slice A n c) n xs) (hk : k ≤ n) : w.ownsRow base e 1 (.slice A k c) k (xs.take k) := by
  have hl : xs.length = n := by have := h.1; omega
  refine ⟨by rw [List.length_take]; omega, ?_⟩
  rcases h.2 with ⟨h1, h2⟩ | ⟨g, cap, cur, h1, h2, h3, h4, h5, h6, h7⟩
  · injection h1 with e1 e2 e3
    subst e1 e3
    exact .inl ⟨by rw [show k = 0 by omega], by omega⟩
  · injection h1 with e1 e2 e3
    subst e1 e3
    refine .inr ⟨g, c, cur, rfl, h2, h3, by omega, h5, h6, ?_⟩
    rw [← h7, List.take_take]
    congr 1; omega
def CSOwn (w : World) (base : Nat) (row : Option Nat) (ls : List (List UInt8)) (e : Ending) (w' : World) : Prop :=
  ∃ A c, e = .returned (.slice A ls.length c) ∧ ls.length ≤ c ∧ c ≤ maxLen ∧ w'.ownsRow base 9 1 (.slice A ls.length c) ls.length (ls.map encStr) ∧ w.grownBy w' row ∧ (Value.slice A ls.length c).ownBlock = row
theorem comp_ownO (base : Nat) (v : Value) (ls : List (List UInt8)) (w : World) (h : w.ownsRow base 9 1 v ls.length (ls.map encStr)) (hl : ls.length ≤ 1000000) :
    Calls Tryz.prog 44 #[v] w (CSOwn w base v.ownBlock (Lib.compact ls)) := by
  have hcl := Lib.compact_length_le ls
  rcases h.2 with ⟨rfl, hz⟩ | ⟨g, cap, cur, rfl, hge, hb, h1, h2, h3, h4⟩
  · have h0 : ls = [] := List.eq_nil_of_length_eq_zero hz
    subst h0
    refine (Tryz.slices_Compact_string_empty none 0 w).mono ?_
    rintro e w2 ⟨rfl, rfl⟩
    exact ⟨none, 0, rfl, Nat.le_refl _, by unfold maxLen; omega, World.ownsRow_nil _ _ _ _, only_refl _ _, rfl⟩
  · have h4' : cur.toList.take ls.length = ls.map encStr := by simpa using h4
    have hH := holds_of_block hb h4'
    refine (Tryz.slices_Compact_string g 0 cap ls w hH (by omega) (by omega)).mono ?_
    rintro e w2 ⟨rfl, n, hw2⟩
    obtain ⟨ts, hts⟩ : ∃ ts, ts = Lib.compact ls ++ List.replicate (ls.length - (Lib.compact ls).length) ([] : List UInt8) := ⟨_, rfl⟩
    have hsl : ts.length = ls.length := by rw [hts]; simp; omega
    rw [← hts] at hw2
    have hw2 : w2 = Go.Sort.grow (Go.Sort.putRow encStr (Go.Sort.ahead w n) g 0 ts.toArray) #[] := by rw [Go.Sort.grow_empty]; exact hw2
    have HO2 := ownsRow_sorted (os := #[]) (n := n) (ts := ts) (ss := ls) hsl hge hb h1 h2 h3
    have HG2 := grownBy_sorted (w := w) (g := g) (n := n) (os := #[]) ts.toArray
    rw [← hw2] at HO2 HG2
    refine ⟨_, _, rfl, by omega, h2, ?_, HG2, rfl⟩
    have := own_take HO2 hcl
    rw [← List.map_take, hts, List.take_left' rfl] at this
    exact this
end Go.Proofs.YtpaiideboodaeaaGreatDoor

namespace Go.Proofs.YtpaiideboodaeaaGreatDoor
open Go.RowKit
set_option linter.unusedVariables false
set_option linter.unusedSimpArgs false

theorem own_zero {w : World} {base e z n c : Nat} {A : Option Addr} {xs : List Value} (h : w.ownsRow base e z (.slice A n c) n xs) : w.ownsRow base e z (.slice A 0 c) 0 [] := by
  refine ⟨by simp, ?_⟩
  rcases h.2 with ⟨e1, _⟩ | ⟨g, cap, cur, e1, h1, h2, h3, h4, h5, h6⟩
  · injection e1 with e1 e2 e3
    subst e1 e3
    exact .inl ⟨rfl, rfl⟩
  · injection e1 with e1 e2 e3
    subst e1 e3
    exact .inr ⟨g, c, cur, rfl, h1, h2, Nat.zero_le _, h4, h5, by simp⟩
set_option maxHeartbeats 4000000 in
set_option maxRecDepth 100000 in
theorem swords_own (s : ByteArray) (w : World) (hl : s.size ≤ 100000) :
    Calls Tryz.prog 17 #[.string s] w (DistOwn w (rawW (bts s))) := by
  obtain ⟨cs, hcs⟩ : ∃ cs, cs = bts s := ⟨_, rfl⟩
  have HLEN : Hid (cs.length = s.size) := Lib.hid (by rw [hcs]; exact bts_length s)
  have HCS := Lib.hid hcs
  rw [← hcs]
  clear hcs
  go_enter Tryz.func17, Tryz.ntmps17
  go_wp2_with fail
  go_loopw [3, 4, 11] (fun vo vw i wr => ∃ k : Nat, k ≤ s.size + 1 ∧ i = .int .i64 k ∧ wr.ownsRow w.heap.size 9 1 vo (outK cs k).length ((outK cs k).map .string) ∧ wr.ownsRow w.heap.size 5 1 vw (curK cs k).length ((curK cs k).map (.int .u8)) ∧ w.grownBy wr none) (fun _ _ i _ => s.size + 1 - (intOf i).toNat)
  case atStart => exact ⟨0, Nat.zero_le _, rfl, World.ownsRow_nil _ _ _ _, World.ownsRow_nil _ _ _ _, only_refl _ _⟩
  case round =>
    obtain ⟨k, hk, rfl, hO, hC, hG⟩ := hrel
    have G := Lib.hid hG
    have hsz := hG.size
    obtain ⟨out, hout⟩ : ∃ out, out = outK cs k := ⟨_, rfl⟩
    obtain ⟨cur, hcur⟩ : ∃ cur, cur = curK cs k := ⟨_, rfl⟩
    rw [← hout] at hO
    rw [← hcur] at hC
    obtain ⟨Ao, co, rfl, hoc, hom, -, hor⟩ := Rd.of_own hO (by decide)
    obtain ⟨Aw, cw, rfl, -, -, -, hrw⟩ := Rd.of_own hC (by decide)
    have OO := Lib.hid hO
    have OC := Lib.hid hC
    have RO := Lib.hid hor
    have RW := Lib.hid hrw
    have HOUT := Lib.hid hout
    have HCUR := Lib.hid hcur
    have hlo : out.length ≤ 200000 ∧ cur.length ≤ 200000 := by
      have h1 := wst_len _ (cs.take k) (Nat.le_refl _)
      have h2 := rawW_len cs
      have h3 := HLEN.out
      rw [List.length_take] at h1
      rw [hout, hcur]
      unfold outK curK
      constructor
      · split <;> omega
      · split
        · omega
        · simp
    obtain ⟨hlo1, hlo2⟩ := hlo
    clear hO hC hG hor hrw hout hcur
    by_cases hlt : k < s.size
    · have hx := bts_at s hlt
      have hxb : (s[k]'hlt).toNat ≤ 255 := by have := (s[k]'hlt).toNat_lt; omega
      have hst := k_step (cs := cs) (k := k) (by rw [HCS.out]; exact hx)
      have hko : outK cs k = (wst (cs.take k)).2 ∧ curK cs k = (wst (cs.take k)).1 := by unfold outK curK; rw [if_pos (by rw [HLEN.out]; omega), if_pos (by rw [HLEN.out]; omega)]; exact ⟨rfl, rfl⟩
      have HKO := Lib.hid hko
      have i1 : (k : Int) < (s.size : Int) := by omega
      have i2 : (k : Int) < (s.size : Int) + 1 := by omega
      have HST := Lib.hid hst
      clear hx hst hko
      go_wp2_with fail
      refine (lower_any _ wr (by omega) (by omega)).mono ?_
      rintro e w2 ⟨rfl, rfl⟩
      cases hlow : lowI ((s[k]'hlt).toNat : Int) with
      | some d =>
        have hd := lowI_in hlow
        have HO1 : Hid (outK cs (k + 1) = out) := Lib.hid (by
          rw [HST.out.1, HOUT.out, HKO.out.1]; unfold stepW; rw [hlow])
        have HC1 : Hid (curK cs (k + 1) = cur ++ [d]) := Lib.hid (by
          rw [HST.out.2, HCUR.out, HKO.out.2]; unfold stepW; rw [hlow])

        simp only [Option.getD_some, Option.isSome_some]
        clear hlow
        obtain ⟨wr, rfl⟩ : ∃ w0 : World, w0 = w2 := ⟨_, rfl⟩
        go_wp2_with (at_builtin; refine wpList_append1 rfl _ _ 22 rfl w.heap.size Tryz.underlying22 u8Info27 rfl (by decide) (v := .slice Aw cur.length cw) (by rfl) (w0 := wr) (cs := #[.int .u8 d]) OC.out (by rfl) rfl (by simp [Value.oneCell']) (by decide) (by omega) (by omega) ?_; intro v7 w7 hown7 hg7 hob7)
        have C7 : Hid (w7.ownsRow w.heap.size 5 1 v7 (cur ++ [d]).length ((cur ++ [d]).map (.int .u8))) := Lib.hid (by simpa using hown7)
        have O7 := Lib.hid (OO.out.kept hg7 (own_apart2 OO.out OC.out (by decide)))
        have G7 : Hid (w.grownBy w7 none) := Lib.hid (only_own G.out hg7 OC.out (Nat.le_refl _))
        clear hown7 hg7 hob7
        go_wp2_with fail
        go_roundw
        case rel => exact ⟨k + 1, by omega, by go_num, by rw [HO1.out]; exact O7.out, by rw [HC1.out]; exact C7.out, G7.out⟩
        case measure => simp [intOf]; omega
      | none =>
        have HO1 : Hid (outK cs (k + 1) = flushW cur out) := Lib.hid (by
          rw [HST.out.1, HOUT.out, HCUR.out, HKO.out.1, HKO.out.2]; unfold stepW; rw [hlow])
        have HC1 : Hid (curK cs (k + 1) = []) := Lib.hid (by
          rw [HST.out.2]; unfold stepW; rw [hlow])

        simp only [Option.getD_none, Option.isSome_none]
        clear hlow
        obtain ⟨wr, rfl⟩ : ∃ w0 : World, w0 = w2 := ⟨_, rfl⟩
        by_cases hc0 : 0 < cur.length
        · by_cases hc40 : cur.length ≤ 40
          · have HF : Hid (flushW cur out = out ++ [strOfNums cur]) := Lib.hid (by unfold flushW; rw [if_pos ⟨hc0, hc40⟩])
            have j1 : (0 : Int) < (cur.length : Int) := by omega
            have j2 : (cur.length : Int) ≤ 40 := by omega
            have hcv := Lib.BytesIn.convert (P := Tryz.prog) (w := wr) (p := Aw) (n := cur.length) (xs := cur) (bytesin_rd RW.out) rfl cw 22 5 9 Tryz.underlying22 Tryz.underlying5 Tryz.underlying9
            go_wp2_with (at_builtin; refine wpList_append1 rfl _ _ 39 rfl w.heap.size Tryz.underlying39 strInfo rfl (by decide) (v := .slice Ao out.length co) (by rfl) (w0 := wr) (cs := #[.string (strOfNums cur)]) OO.out (by rfl) rfl (by simp [Value.oneCell']) (by decide) (by omega) (by omega) ?_; intro v7 w7 hown7 hg7 hob7)
            have O7 : Hid (w7.ownsRow w.heap.size 9 1 v7 (flushW cur out).length ((flushW cur out).map .string)) := Lib.hid (by rw [HF.out]; simpa using hown7)
            have G7 : Hid (w.grownBy w7 none) := Lib.hid (only_own G.out hg7 OO.out (Nat.le_refl _))
            have C7 := Lib.hid (OC.out.kept hg7 (own_apart2 OC.out OO.out (by decide)))
            clear hown7 hg7 hob7 hcv
            go_wp2_with fail
            go_roundw
            case rel => exact ⟨k + 1, by omega, by go_num, by rw [HO1.out]; exact O7.out, by rw [HC1.out]; exact own_zero C7.out, G7.out⟩
            case measure => simp [intOf]; omega
          · have HF : Hid (flushW cur out = out) := Lib.hid (by unfold flushW; rw [if_neg (by omega)])
            have j1 : (0 : Int) < (cur.length : Int) := by omega
            have j2 : ¬ ((cur.length : Int) ≤ 40) := by omega
            have O7 : Hid (wr.ownsRow w.heap.size 9 1 (.slice Ao out.length co) (flushW cur out).length ((flushW cur out).map .string)) := Lib.hid (by rw [HF.out]; exact OO.out)
            have G7 := G
            have C7 := OC
            go_wp2_with fail
            go_roundw
            case rel => exact ⟨k + 1, by omega, by go_num, by rw [HO1.out]; exact O7.out, by rw [HC1.out]; exact own_zero C7.out, G7.out⟩
            case measure => simp [intOf]; omega
        · have HF : Hid (flushW cur out = out) := Lib.hid (by unfold flushW; rw [if_neg (by omega)])
          have j1 : ¬ ((0 : Int) < (cur.length : Int)) := by omega
          have O7 : Hid (wr.ownsRow w.heap.size 9 1 (.slice Ao out.length co) (flushW cur out).length ((flushW cur out).map .string)) := Lib.hid (by rw [HF.out]; exact OO.out)
          have G7 := G
          have C7 := OC
          go_wp2_with fail
          go_roundw
          case rel => exact ⟨k + 1, by omega, by go_num, by rw [HO1.out]; exact O7.out, by rw [HC1.out]; exact own_zero C7.out, G7.out⟩
          case measure => simp [intOf]; omega
    · by_cases hke : k = s.size
      · have i1 : ¬ ((k : Int) < (s.size : Int)) := by omega
        have i2 : (k : Int) < (s.size : Int) + 1 := by omega
        have HO1 : Hid (outK cs (k + 1) = flushW cur out) := Lib.hid (by
          rw [HOUT.out, HCUR.out]
          unfold outK curK
          rw [if_neg (by rw [HLEN.out]; omega), if_pos (by rw [HLEN.out]; omega), if_pos (by rw [HLEN.out]; omega), List.take_of_length_le (by rw [HLEN.out]; omega)]
          rfl)
        have HC1 : Hid (curK cs (k + 1) = []) := Lib.hid (by unfold curK; rw [if_neg (by rw [HLEN.out]; omega)])
        have HKE := Lib.hid hke
        clear hke
        by_cases hc0 : 0 < cur.length
        · by_cases hc40 : cur.length ≤ 40
          · have HF : Hid (flushW cur out = out ++ [strOfNums cur]) := Lib.hid (by unfold flushW; rw [if_pos ⟨hc0, hc40⟩])
            have j1 : (0 : Int) < (cur.length : Int) := by omega
            have j2 : (cur.length : Int) ≤ 40 := by omega
            have hcv := Lib.BytesIn.convert (P := Tryz.prog) (w := wr) (p := Aw) (n := cur.length) (xs := cur) (bytesin_rd RW.out) rfl cw 22 5 9 Tryz.underlying22 Tryz.underlying5 Tryz.underlying9
            go_wp2_with (at_builtin; refine wpList_append1 rfl _ _ 39 rfl w.heap.size Tryz.underlying39 strInfo rfl (by decide) (v := .slice Ao out.length co) (by rfl) (w0 := wr) (cs := #[.string (strOfNums cur)]) OO.out (by rfl) rfl (by simp [Value.oneCell']) (by decide) (by omega) (by omega) ?_; intro v7 w7 hown7 hg7 hob7)
            have O7 : Hid (w7.ownsRow w.heap.size 9 1 v7 (flushW cur out).length ((flushW cur out).map .string)) := Lib.hid (by rw [HF.out]; simpa using hown7)
            have G7 : Hid (w.grownBy w7 none) := Lib.hid (only_own G.out hg7 OO.out (Nat.le_refl _))
            have C7 := Lib.hid (OC.out.kept hg7 (own_apart2 OC.out OO.out (by decide)))
            clear hown7 hg7 hob7 hcv
            go_wp2_with fail
            go_roundw
            case rel => exact ⟨k + 1, by omega, by go_num, by rw [HO1.out]; exact O7.out, by rw [HC1.out]; exact own_zero C7.out, G7.out⟩
            case measure => simp [intOf]; omega
          · have HF : Hid (flushW cur out = out) := Lib.hid (by unfold flushW; rw [if_neg (by omega)])
            have j1 : (0 : Int) < (cur.length : Int) := by omega
            have j2 : ¬ ((cur.length : Int) ≤ 40) := by omega
            have O7 : Hid (wr.ownsRow w.heap.size 9 1 (.slice Ao out.length co) (flushW cur out).length ((flushW cur out).map .string)) := Lib.hid (by rw [HF.out]; exact OO.out)
            have G7 := G
            have C7 := OC
            go_wp2_with fail
            go_roundw
            case rel => exact ⟨k + 1, by omega, by go_num, by rw [HO1.out]; exact O7.out, by rw [HC1.out]; exact own_zero C7.out, G7.out⟩
            case measure => simp [intOf]; omega
        · have HF : Hid (flushW cur out = out) := Lib.hid (by unfold flushW; rw [if_neg (by omega)])
          have j1 : ¬ ((0 : Int) < (cur.length : Int)) := by omega
          have O7 : Hid (wr.ownsRow w.heap.size 9 1 (.slice Ao out.length co) (flushW cur out).length ((flushW cur out).map .string)) := Lib.hid (by rw [HF.out]; exact OO.out)
          have G7 := G
          have C7 := OC
          go_wp2_with fail
          go_roundw
          case rel => exact ⟨k + 1, by omega, by go_num, by rw [HO1.out]; exact O7.out, by rw [HC1.out]; exact own_zero C7.out, G7.out⟩
          case measure => simp [intOf]; omega
      · have i2 : ¬ ((k : Int) < (s.size : Int) + 1) := by omega
        have HE : Hid (out = rawW cs) := Lib.hid (by rw [HOUT.out]; unfold outK; rw [if_neg (by rw [HLEN.out]; omega)])
        go_wp2_with fail
        refine (sort_ownS w.heap.size _ out wr OO.out (by omega)).mono ?_
        rintro e w3 ⟨rfl, ho3, hg3⟩
        have O3 := Lib.hid ho3
        have G3 := Lib.hid (only_own G.out hg3 OO.out (Nat.le_refl _))
        have hsl : (sorted (out.map ofB)).length = out.length := by rw [sorted_len, List.length_map]
        have hsl2 : (sorted (out.map ofB)).length ≤ 1000000 := by omega
        have hcl := Lib.compact_length_le (sorted (out.map ofB))
        have hdl : (dist out).length ≤ out.length := by unfold dist; rw [List.length_map]; omega
        clear ho3 hg3 hsl hcl
        go_wp2_with fail
        refine (comp_ownO w.heap.size _ (sorted (out.map ofB)) w3 O3.out hsl2).mono ?_
        rintro e w4 ⟨A4, c4, rfl, h1, h2, h3, hg4, -⟩
        have G4 := Lib.hid (only_own G3.out hg4 O3.out (Nat.le_refl _))
        have e1 : (Lib.compact (sorted (out.map ofB))).length = (dist out).length := by unfold dist; rw [List.length_map]
        rw [e1] at h1 h3 ⊢
        have H3 : Hid (w4.ownsRow w.heap.size 9 1 (.slice A4 (dist out).length c4) (dist out).length ((dist out).map .string)) := Lib.hid (by have h9 := h3; rw [encStrB] at h9; exact h9)
        clear h3 hg4 e1 O3
        go_wp2_with fail
        go_ret
        rw [← HE.out]
        exact ⟨A4, c4, dist out, rfl, h1, h2, dist_srt out, dist_mem out, hdl, H3.out, G4.out⟩
end Go.Proofs.YtpaiideboodaeaaGreatDoor
