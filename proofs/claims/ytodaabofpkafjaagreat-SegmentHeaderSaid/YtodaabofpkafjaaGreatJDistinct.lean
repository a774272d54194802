/- Distinct of the reference of chapter 23. No condition. -/
import Derived.Test.YtodaabofpkafjaaGreatJUnion
import Derived.Deep.DeepMust
import Derived.Deep.RegionWith
import Derived.Test.YtodaabofpkafjaaGreatJNatB
import Derived.Shelf.Bytes.SlEqualAll
import Derived.Deep.DeepCutAuto
namespace Go.Proofs.YtodaabofpkafjaaGreat
open Go.RowKit
set_option linter.unusedVariables false
set_option linter.unusedSimpArgs false

def DistPost (w : World) (ws : List ByteArray) (e : Ending) (w' : World) : Prop :=
  ∃ (A : Option Addr) (c : Nat) (ds : List ByteArray), e = .returned (.slice A ds.length c) ∧ ds.length ≤ c ∧ c ≤ maxLen ∧ Srt ds ∧ (∀ s, s ∈ ds ↔ s ∈ ws) ∧ ds.length ≤ ws.length ∧ Rd (w.heap.size ≤ ·) w' A (ds.map .string) ∧ w.grownBy w' none

/-- the same, and the row is the call's own -/
def DistOwn (w : World) (ws : List ByteArray) (e : Ending) (w' : World) : Prop :=
  ∃ (A : Option Addr) (c : Nat) (ds : List ByteArray), e = .returned (.slice A ds.length c) ∧ ds.length ≤ c ∧ c ≤ maxLen ∧ Srt ds ∧ (∀ s, s ∈ ds ↔ s ∈ ws) ∧ ds.length ≤ ws.length ∧ w'.ownsRow w.heap.size 9 1 (.slice A ds.length c) ds.length (ds.map .string) ∧ w.grownBy w' none
theorem DistOwn.post {w w' : World} {ws : List ByteArray} {e : Ending} (h : DistOwn w ws e w') : DistPost w ws e w' := by
  obtain ⟨A, c, ds, h1, h2, h3, h4, h5, h6, h7, h8⟩ := h
  exact ⟨A, c, ds, h1, h2, h3, h4, h5, h6, rd_own h7 (by decide), h8⟩
set_option maxHeartbeats 1000000 in
set_option maxRecDepth 100000 in
theorem distinct_own_any (k : Nat) : ∀ (A : Option Addr) (ws : List ByteArray) (n c : Nat) (w : World), n ≤ k → ws.length = n → Rd (fun _ => True) w A (ws.map .string) → n ≤ 1000000 → n ≤ c → c ≤ maxLen →
    Calls Tryz.prog 31 #[.slice A n c] w (DistOwn w ws) := by
  induction k with
  | zero =>
    intro A ws n c w hk hn h hl hc hcm
    obtain rfl : n = 0 := by omega
    obtain rfl : ws = [] := List.eq_nil_of_length_eq_zero hn
    clear h
    go_enter Tryz.func31, Tryz.ntmps31
    go_wp2_with (at_builtin; refine wpList_appendN rfl _ _ 29 rfl w.heap.size Tryz.underlying29 strInfo rfl (by decide) (v := .slice none 0 0) (by rfl) (World.ownsRow_nil _ _ _ _) A 0 c (by rfl) (Rd.nil (S := fun _ => True)) (by simp) (by simp) (by decide) (by omega) (Nat.le_refl _) ?_; intro v5 w5 hown5 hg5 hob5)
    obtain ⟨A5, c5, rfl, hc5, hm5, -, hr5⟩ := Rd.of_own hown5 (by decide)
    go_ret
    exact ⟨A5, c5, [], by simp, by simp, hm5, List.Pairwise.nil, by simp, by simp, by simpa using hown5, by simpa [Value.ownBlock] using hg5⟩
  | succ k ih =>
    intro A ws n c w hk hn h hl hc hcm
    have H := Lib.hid h
    have HN := Lib.hid hn
    have IH := Lib.hid ih
    unfold maxLen at hcm
    clear h ih hn
    by_cases h2 : n < 2
    · go_enter Tryz.func31, Tryz.ntmps31
      go_wp2_with (at_builtin; refine wpList_appendN rfl _ _ 29 rfl w.heap.size Tryz.underlying29 strInfo rfl (by decide) (v := .slice none 0 0) (by rfl) (World.ownsRow_nil _ _ _ _) A n c (by rfl) H.out (by have := HN.out; simp; omega) (by simp [Value.oneCell']) (by decide) (by omega) (Nat.le_refl _) ?_; intro v5 w5 hown5 hg5 hob5)
      obtain ⟨A5, c5, rfl, hc5, hm5, -, hr5⟩ := Rd.of_own hown5 (by decide)
      have HR5 := Lib.hid hown5
      clear hown5 hob5 hr5
      go_ret
      have e := HN.out
      refine ⟨A5, c5, ws, by rw [e]; simp, by rw [e]; omega, hm5, ?_, fun _ => Iff.rfl, Nat.le_refl _, by rw [e]; simpa using HR5.out, by simpa [Value.ownBlock] using hg5⟩
      match ws, e with
      | [], _ => exact List.Pairwise.nil
      | [x], _ => exact List.pairwise_singleton _ _
      | x :: y :: l, e => exfalso; simp at e; omega
    · have h0 : (0 : Int) ≤ (n : Int) / 2 := by omega
      have h1 : (n : Int) / 2 ≤ (n : Int) := by omega
      have hd2 : decide ((n : Int) < 2) = false := by simp; omega
      go_enter Tryz.func31, Tryz.ntmps31
      go_wp2_with fail
      have HT : Hid (Rd (fun _ => True) w A ((ws.take (n / 2)).map .string)) := by
        have := H.out.take (n / 2)
        rwa [← List.map_take] at this
      have HD : Hid (Rd (fun _ => True) w (Option.map (fun x => x.add (n / 2)) A) ((ws.drop (n / 2)).map .string)) := by
        have := H.out.drop (n / 2)
        rwa [← List.map_drop] at this
      go_region_with (first
        | (have tk := HR6; go_at_call 48; go_must (refine (union_own A5 A6 d5 d6 c5 c6 _ (S := fun _ => True) (by exact ((rd_own HR5.out (by decide)).grown hg6 (by simp)).mono (fun _ _ _ => trivial)) (by exact (rd_own HR6.out (by decide)).mono (fun _ _ _ => trivial)) (by have := HN.out; simp at hl5; omega) (by have := HN.out; simp at hl6; omega)).mono ?_); rintro e w7 ⟨A7, c7, x7, y7, rfl, hc7, hm7, hr7, hg7⟩)
        | (have tk := HR5; go_at_call 31; go_must (refine (IH.out (Option.map (fun x => x.add (n / 2)) A) (ws.drop (n / 2)) (n - n / 2) (c - n / 2) _ (by omega) (by have := HN.out; simp; omega) (by exact (HD.out.drewN 1).grown hg5 (by simp)) (by omega) (by omega) (by unfold maxLen; omega)).mono ?_); rintro e w6 ⟨A6, c6, d6, rfl, hc6, hm6, hs6, he6, hl6, hr6, hg6⟩; have HR6 := Lib.hid hr6; have HE6 := Lib.hid he6; clear hr6 he6 tk)
        | (go_at_call 31; go_must (refine (IH.out A (ws.take (n / 2)) (n / 2) c _ (by omega) (by have := HN.out; simp; omega) (by exact HT.out.drewN 1) (by omega) (by omega) (by unfold maxLen; omega)).mono ?_); rintro e w5 ⟨A5, c5, d5, rfl, hc5, hm5, hs5, he5, hl5, hr5, hg5⟩; have HR5 := Lib.hid hr5; have HE5 := Lib.hid he5; clear hr5 he5))
      have HR7 := Lib.hid hr7
      clear hr7
      go_wp2_with fail
      go_ret
      refine ⟨A7, c7, un d5 d6, rfl, hc7, hm7, un_srt _ _ hs5 hs6, fun s => ?_, ?_, own_dn HR7.out ?_, only_trans (only_trans (only_trans (only_drew (only_refl _ _)) hg5) hg6) hg7⟩
      · rw [un_mem, HE5.out, HE6.out]
        constructor
        · rintro (h | h)
          · exact List.mem_of_mem_take h
          · exact List.mem_of_mem_drop h
        · intro h
          rw [← List.take_append_drop (n / 2) ws] at h
          exact List.mem_append.1 h
      · have := un_len d5 d6
        have := HN.out
        simp at hl5 hl6
        omega
      · have h5 := hg5.size
        have h6 := hg6.size
        have h8 : w.drew.heap.size = w.heap.size := rfl
        omega
theorem distinct_any (k : Nat) (A : Option Addr) (ws : List ByteArray) (n c : Nat) (w : World) (h1 : n ≤ k) (h2 : ws.length = n) (h3 : Rd (fun _ => True) w A (ws.map .string)) (h4 : n ≤ 1000000) (h5 : n ≤ c) (h6 : c ≤ maxLen) :
    Calls Tryz.prog 31 #[.slice A n c] w (DistPost w ws) := (distinct_own_any k A ws n c w h1 h2 h3 h4 h5 h6).mono fun _ _ h => h.post
theorem distinct_post {S : Nat → Prop} (A : Option Addr) (ws : List ByteArray) (c : Nat) (w : World) (h : Rd S w A (ws.map .string)) (hl : ws.length ≤ 1000000) (hc : ws.length ≤ c) (hm : c ≤ maxLen) :
    Calls Tryz.prog 31 #[.slice A ws.length c] w (DistPost w ws) :=
  distinct_any ws.length A ws ws.length c w (Nat.le_refl _) rfl (h.mono (fun _ _ _ => trivial)) hl hc hm
theorem distinct_own {S : Nat → Prop} (A : Option Addr) (ws : List ByteArray) (c : Nat) (w : World) (h : Rd S w A (ws.map .string)) (hl : ws.length ≤ 1000000) (hc : ws.length ≤ c) (hm : c ≤ maxLen) :
    Calls Tryz.prog 31 #[.slice A ws.length c] w (DistOwn w ws) :=
  distinct_own_any ws.length A ws ws.length c w (Nat.le_refl _) rfl (h.mono (fun _ _ _ => trivial)) hl hc hm
end Go.Proofs.YtodaabofpkafjaaGreat

namespace Go.Proofs.YtodaabofpkafjaaGreat
open Go.RowKit
set_option linter.unusedVariables false
set_option linter.unusedSimpArgs false

theorem own_apart2 {w : World} {b1 e1 z1 n1 b2 e2 z2 n2 : Nat} {v1 v2 : Value} {x1 x2 : List Value} (h1 : w.ownsRow b1 e1 z1 v1 n1 x1) (h2 : w.ownsRow b2 e2 z2 v2 n2 x2) (hne : e1 ≠ e2) : v1.ownBlock = none ∨ v1.ownBlock ≠ v2.ownBlock := by
  rcases h1.2 with ⟨rfl, _⟩ | ⟨g, cap, cur, rfl, _, hh, _⟩
  · exact .inl rfl
  · right
    intro e
    rcases h2.2 with ⟨rfl, _⟩ | ⟨g', cap', cur', rfl, _, hh', _⟩
    · simp [Value.ownBlock] at e
    · have e' : g = g' := by simpa [Value.ownBlock] using e
      subst e'
      rw [hh] at hh'
      injection hh' with hh'
      injection hh' with _ h _
      exact hne h
/-- the words behind the first k bytes; behind the last one what is left is put out -/
def outK (cs : List Int) (k : Nat) : List ByteArray := if k ≤ cs.length then (wst (cs.take k)).2 else rawW cs
def curK (cs : List Int) (k : Nat) : List Int := if k ≤ cs.length then (wst (cs.take k)).1 else []
theorem k_step {cs : List Int} {k : Nat} {x : Int} (h : cs[k]? = some x) : outK cs (k + 1) = (stepW (wst (cs.take k)) x).2 ∧ curK cs (k + 1) = (stepW (wst (cs.take k)) x).1 := by
  have hk := (List.getElem?_eq_some_iff.1 h)
  unfold outK curK
  rw [if_pos (by have := hk.1; omega), if_pos (by have := hk.1; omega), List.take_succ_eq_append_getElem hk.1, wst_snoc, hk.2]
  exact ⟨rfl, rfl⟩
set_option maxHeartbeats 4000000 in
set_option maxRecDepth 100000 in
theorem rwords_own (s : ByteArray) (w : World) (hl : s.size ≤ 100000) :
    Calls Tryz.prog 11 #[.string s] w (DistOwn w (rawW (bts s))) := by
  obtain ⟨cs, hcs⟩ : ∃ cs, cs = bts s := ⟨_, rfl⟩
  have HLEN : Hid (cs.length = s.size) := Lib.hid (by rw [hcs]; exact bts_length s)
  have HCS := Lib.hid hcs
  rw [← hcs]
  clear hcs
  go_enter Tryz.func11, Tryz.ntmps11
  go_wp2_with fail
  go_loopw [3, 4, 5] (fun vo vw i wr => ∃ k : Nat, k ≤ s.size + 1 ∧ i = .int .i64 k ∧ wr.ownsRow w.heap.size 9 1 vo (outK cs k).length ((outK cs k).map .string) ∧ wr.ownsRow w.heap.size 5 1 vw (curK cs k).length ((curK cs k).map (.int .u8)) ∧ w.grownBy wr none) (fun _ _ i _ => s.size + 1 - (intOf i).toNat)
  case atStart => exact ⟨0, Nat.zero_le _, rfl, World.ownsRow_nil _ _ _ _, World.ownsRow_nil _ _ _ _, only_refl _ _⟩
  case round =>
    obtain ⟨k, hk, rfl, hO, hC, hG⟩ := hrel
    have G := Lib.hid hG
    have hsz := hG.size
    obtain ⟨out, hout⟩ : ∃ out, out = outK cs k := ⟨_, rfl⟩
    obtain ⟨cur, hcur⟩ : ∃ cur, cur = curK cs k := ⟨_, rfl⟩
    rw [← hout] at hO
    rw [← hcur] at hC
    obtain ⟨Ao, co, rfl, hoc, hom, -, hor⟩ := Rd.of_own hO (by decide)
    obtain ⟨Aw, cw, rfl, -, -, -, hrw⟩ := Rd.of_own hC (by decide)
    have OO := Lib.hid hO
    have OC := Lib.hid hC
    have RO := Lib.hid hor
    have RW := Lib.hid hrw
    have HOUT := Lib.hid hout
    have HCUR := Lib.hid hcur
    have hlo : out.length ≤ 200000 ∧ cur.length ≤ 200000 := by
      have h1 := wst_len _ (cs.take k) (Nat.le_refl _)
      have h2 := rawW_len cs
      have h3 := HLEN.out
      rw [List.length_take] at h1
      rw [hout, hcur]
      unfold outK curK
      constructor
      · split <;> omega
      · split
        · omega
        · simp
    obtain ⟨hlo1, hlo2⟩ := hlo
    clear hO hC hG hor hrw hout hcur
    by_cases hlt : k < s.size
    · have hx := bts_at s hlt
      have hxb : (s[k]'hlt).toNat ≤ 255 := by have := (s[k]'hlt).toNat_lt; omega
      have hst := k_step (cs := cs) (k := k) (by rw [HCS.out]; exact hx)
      have hko : outK cs k = (wst (cs.take k)).2 ∧ curK cs k = (wst (cs.take k)).1 := by unfold outK curK; rw [if_pos (by rw [HLEN.out]; omega), if_pos (by rw [HLEN.out]; omega)]; exact ⟨rfl, rfl⟩
      have HKO := Lib.hid hko
      have i1 : (k : Int) < (s.size : Int) := by omega
      have i2 : (k : Int) ≤ (s.size : Int) := by omega
      have HST := Lib.hid hst
      clear hx hst hko
      go_wp2_with fail
      refine (letter_any _ wr (by omega) (by omega)).mono ?_
      rintro e w2 ⟨rfl, rfl⟩
      cases hlow : lowI ((s[k]'hlt).toNat : Int) with
      | some d =>
        have hd := lowI_in hlow
        have HO1 : Hid (outK cs (k + 1) = out) := Lib.hid (by
          rw [HST.out.1, HOUT.out, HKO.out.1]; unfold stepW; rw [hlow])
        have HC1 : Hid (curK cs (k + 1) = cur ++ [d]) := Lib.hid (by
          rw [HST.out.2, HCUR.out, HKO.out.2]; unfold stepW; rw [hlow])
        have d1 : (d != 0) = true := by simp; omega
        simp only [Option.getD_some]
        clear hlow
        obtain ⟨wr, rfl⟩ : ∃ w0 : World, w0 = w2 := ⟨_, rfl⟩
        go_wp2_with (at_builtin; refine wpList_append1 rfl _ _ 22 rfl w.heap.size Tryz.underlying22 u8Info27 rfl (by decide) (v := .slice Aw cur.length cw) (by rfl) (w0 := wr) (cs := #[.int .u8 d]) OC.out (by rfl) rfl (by simp [Value.oneCell']) (by decide) (by omega) (by omega) ?_; intro v7 w7 hown7 hg7 hob7)
        have C7 : Hid (w7.ownsRow w.heap.size 5 1 v7 (cur ++ [d]).length ((cur ++ [d]).map (.int .u8))) := Lib.hid (by simpa using hown7)
        have O7 := Lib.hid (OO.out.kept hg7 (own_apart2 OO.out OC.out (by decide)))
        have G7 : Hid (w.grownBy w7 none) := Lib.hid (only_own G.out hg7 OC.out (Nat.le_refl _))
        clear hown7 hg7 hob7
        go_wp2_with fail
        go_roundw
        case rel => exact ⟨k + 1, by omega, by go_num, by rw [HO1.out]; exact O7.out, by rw [HC1.out]; exact C7.out, G7.out⟩
        case measure => simp [intOf]; omega
      | none =>
        have HO1 : Hid (outK cs (k + 1) = flushW cur out) := Lib.hid (by
          rw [HST.out.1, HOUT.out, HCUR.out, HKO.out.1, HKO.out.2]; unfold stepW; rw [hlow])
        have HC1 : Hid (curK cs (k + 1) = []) := Lib.hid (by
          rw [HST.out.2]; unfold stepW; rw [hlow])
        simp only [Option.getD_none]
        clear hlow
        obtain ⟨wr, rfl⟩ : ∃ w0 : World, w0 = w2 := ⟨_, rfl⟩
        by_cases hc0 : 0 < cur.length
        · by_cases hc40 : cur.length ≤ 40
          · have HF : Hid (flushW cur out = out ++ [strOfNums cur]) := Lib.hid (by unfold flushW; rw [if_pos ⟨hc0, hc40⟩])
            have j1 : (0 : Int) < (cur.length : Int) := by omega
            have j2 : (cur.length : Int) ≤ 40 := by omega
            have hcv := Lib.BytesIn.convert (P := Tryz.prog) (w := wr) (p := Aw) (n := cur.length) (xs := cur) (bytesin_rd RW.out) rfl cw 22 5 9 Tryz.underlying22 Tryz.underlying5 Tryz.underlying9
            go_wp2_with (at_builtin; refine wpList_append1 rfl _ _ 29 rfl w.heap.size Tryz.underlying29 strInfo rfl (by decide) (v := .slice Ao out.length co) (by rfl) (w0 := wr) (cs := #[.string (strOfNums cur)]) OO.out (by rfl) rfl (by simp [Value.oneCell']) (by decide) (by omega) (by omega) ?_; intro v7 w7 hown7 hg7 hob7)
            have O7 : Hid (w7.ownsRow w.heap.size 9 1 v7 (flushW cur out).length ((flushW cur out).map .string)) := Lib.hid (by rw [HF.out]; simpa using hown7)
            have G7 : Hid (w.grownBy w7 none) := Lib.hid (only_own G.out hg7 OO.out (Nat.le_refl _))
            clear hown7 hg7 hob7 hcv
            go_wp2_with fail
            go_roundw
            case rel => exact ⟨k + 1, by omega, by go_num, by rw [HO1.out]; exact O7.out, by rw [HC1.out]; exact World.ownsRow_nil _ _ _ _, G7.out⟩
            case measure => simp [intOf]; omega
          · have HF : Hid (flushW cur out = out) := Lib.hid (by unfold flushW; rw [if_neg (by omega)])
            have j1 : (0 : Int) < (cur.length : Int) := by omega
            have j2 : ¬ ((cur.length : Int) ≤ 40) := by omega
            have O7 : Hid (wr.ownsRow w.heap.size 9 1 (.slice Ao out.length co) (flushW cur out).length ((flushW cur out).map .string)) := Lib.hid (by rw [HF.out]; exact OO.out)
            have G7 := G
            go_wp2_with fail
            go_roundw
            case rel => exact ⟨k + 1, by omega, by go_num, by rw [HO1.out]; exact O7.out, by rw [HC1.out]; exact World.ownsRow_nil _ _ _ _, G7.out⟩
            case measure => simp [intOf]; omega
        · have HF : Hid (flushW cur out = out) := Lib.hid (by unfold flushW; rw [if_neg (by omega)])
          have j1 : ¬ ((0 : Int) < (cur.length : Int)) := by omega
          have O7 : Hid (wr.ownsRow w.heap.size 9 1 (.slice Ao out.length co) (flushW cur out).length ((flushW cur out).map .string)) := Lib.hid (by rw [HF.out]; exact OO.out)
          have G7 := G
          go_wp2_with fail
          go_roundw
          case rel => exact ⟨k + 1, by omega, by go_num, by rw [HO1.out]; exact O7.out, by rw [HC1.out]; exact World.ownsRow_nil _ _ _ _, G7.out⟩
          case measure => simp [intOf]; omega
    · by_cases hke : k = s.size
      · have i1 : ¬ ((k : Int) < (s.size : Int)) := by omega
        have i2 : (k : Int) ≤ (s.size : Int) := by omega
        have HO1 : Hid (outK cs (k + 1) = flushW cur out) := Lib.hid (by
          rw [HOUT.out, HCUR.out]
          unfold outK curK
          rw [if_neg (by rw [HLEN.out]; omega), if_pos (by rw [HLEN.out]; omega), if_pos (by rw [HLEN.out]; omega), List.take_of_length_le (by rw [HLEN.out]; omega)]
          rfl)
        have HC1 : Hid (curK cs (k + 1) = []) := Lib.hid (by unfold curK; rw [if_neg (by rw [HLEN.out]; omega)])
        have HKE := Lib.hid hke
        clear hke
        by_cases hc0 : 0 < cur.length
        · by_cases hc40 : cur.length ≤ 40
          · have HF : Hid (flushW cur out = out ++ [strOfNums cur]) := Lib.hid (by unfold flushW; rw [if_pos ⟨hc0, hc40⟩])
            have j1 : (0 : Int) < (cur.length : Int) := by omega
            have j2 : (cur.length : Int) ≤ 40 := by omega
            have hcv := Lib.BytesIn.convert (P := Tryz.prog) (w := wr) (p := Aw) (n := cur.length) (xs := cur) (bytesin_rd RW.out) rfl cw 22 5 9 Tryz.underlying22 Tryz.underlying5 Tryz.underlying9
            go_wp2_with (at_builtin; refine wpList_append1 rfl _ _ 29 rfl w.heap.size Tryz.underlying29 strInfo rfl (by decide) (v := .slice Ao out.length co) (by rfl) (w0 := wr) (cs := #[.string (strOfNums cur)]) OO.out (by rfl) rfl (by simp [Value.oneCell']) (by decide) (by omega) (by omega) ?_; intro v7 w7 hown7 hg7 hob7)
            have O7 : Hid (w7.ownsRow w.heap.size 9 1 v7 (flushW cur out).length ((flushW cur out).map .string)) := Lib.hid (by rw [HF.out]; simpa using hown7)
            have G7 : Hid (w.grownBy w7 none) := Lib.hid (only_own G.out hg7 OO.out (Nat.le_refl _))
            clear hown7 hg7 hob7 hcv
            go_wp2_with fail
            go_roundw
            case rel => exact ⟨k + 1, by omega, by go_num, by rw [HO1.out]; exact O7.out, by rw [HC1.out]; exact World.ownsRow_nil _ _ _ _, G7.out⟩
            case measure => simp [intOf]; omega
          · have HF : Hid (flushW cur out = out) := Lib.hid (by unfold flushW; rw [if_neg (by omega)])
            have j1 : (0 : Int) < (cur.length : Int) := by omega
            have j2 : ¬ ((cur.length : Int) ≤ 40) := by omega
            have O7 : Hid (wr.ownsRow w.heap.size 9 1 (.slice Ao out.length co) (flushW cur out).length ((flushW cur out).map .string)) := Lib.hid (by rw [HF.out]; exact OO.out)
            have G7 := G
            go_wp2_with fail
            go_roundw
            case rel => exact ⟨k + 1, by omega, by go_num, by rw [HO1.out]; exact O7.out, by rw [HC1.out]; exact World.ownsRow_nil _ _ _ _, G7.out⟩
            case measure => simp [intOf]; omega
        · have HF : Hid (flushW cur out = out) := Lib.hid (by unfold flushW; rw [if_neg (by omega)])
          have j1 : ¬ ((0 : Int) < (cur.length : Int)) := by omega
          have O7 : Hid (wr.ownsRow w.heap.size 9 1 (.slice Ao out.length co) (flushW cur out).length ((flushW cur out).map .string)) := Lib.hid (by rw [HF.out]; exact OO.out)
          have G7 := G
          go_wp2_with fail
          go_roundw
          case rel => exact ⟨k + 1, by omega, by go_num, by rw [HO1.out]; exact O7.out, by rw [HC1.out]; exact World.ownsRow_nil _ _ _ _, G7.out⟩
          case measure => simp [intOf]; omega
      · have i2 : ¬ ((k : Int) ≤ (s.size : Int)) := by omega
        have HE : Hid (out = rawW cs) := Lib.hid (by rw [HOUT.out]; unfold outK; rw [if_neg (by rw [HLEN.out]; omega)])
        have KD := Lib.hid (distinct_own Ao out co wr RO.out (by omega) hoc hom)
        go_wp2_with fail
        refine KD.out.mono ?_
        rintro e w3 ⟨A3, c3, ds, rfl, e1, e2, e3, e4, e5, e6, e7⟩
        have H6 := Lib.hid (own_dn e6 hsz)
        have G3 := Lib.hid (only_trans G.out e7)
        have E4 := Lib.hid e4
        have E3 := Lib.hid e3
        clear e6 e7 e4 e3 KD
        go_wp2_with fail
        go_ret
        exact ⟨A3, c3, ds, rfl, e1, e2, E3.out, by rw [← HE.out]; exact E4.out, by rw [← HE.out]; exact e5, H6.out, G3.out⟩
theorem rwords_any (s : ByteArray) (w : World) (hl : s.size ≤ 100000) :
    Calls Tryz.prog 11 #[.string s] w (DistPost w (rawW (bts s))) := (rwords_own s w hl).mono fun _ _ h => h.post
end Go.Proofs.YtodaabofpkafjaaGreat

namespace Go.Proofs.YtodaabofpkafjaaGreat
open Go.RowKit
set_option linter.unusedVariables false
set_option linter.unusedSimpArgs false

set_option maxHeartbeats 2000000 in
set_option maxRecDepth 100000 in
theorem lower_any (c : Int) (w : World) (h0 : 0 ≤ c) (h255 : c ≤ 255) : Calls Tryz.prog 32 #[.int .u8 c] w (LowP c w) := by
  rcases nine c with h | ⟨h, h'⟩ | ⟨h, h'⟩ | ⟨h, h'⟩ | ⟨h, h'⟩ | h | h | ⟨h, h'⟩ | h
  · have HV := Lib.hid (lowI_no (c := c) (by omega) (by omega))
    have a1 : ¬ (65 ≤ c) := by omega
    have a2 : ¬ (97 ≤ c) := by omega
    have a3 : ¬ (48 ≤ c) := by omega
    have a4 : (c == 95) = false := by simp; omega
    go_enter Tryz.func32, Tryz.ntmps32
    go_wp2
    go_ret2
    exact ⟨by rw [HV.out]; rfl, rfl⟩
  · have HV := Lib.hid (lowI_lo (c := c) (by omega))
    have a1 : ¬ (65 ≤ c) := by omega
    have a2 : ¬ (97 ≤ c) := by omega
    go_enter Tryz.func32, Tryz.ntmps32
    go_wp2
    go_ret2
    exact ⟨by rw [HV.out]; rfl, rfl⟩
  · have HV := Lib.hid (lowI_no (c := c) (by omega) (by omega))
    have a1 : ¬ (65 ≤ c) := by omega
    have a2 : ¬ (97 ≤ c) := by omega
    have a3 : (48 ≤ c) := by omega
    have a5 : ¬ (c ≤ 57) := by omega
    have a4 : (c == 95) = false := by simp; omega
    go_enter Tryz.func32, Tryz.ntmps32
    go_wp2
    go_ret2
    exact ⟨by rw [HV.out]; rfl, rfl⟩
  · have HV := Lib.hid (lowI_up (c := c) h h')
    have hw1 : IntKind.u8.wrap (c + 97) = c + 97 := IntWalk.u8_in _ (by omega)
    have hw2 : IntKind.u8.wrap (c + 97 - 65) = c + 32 := by rw [show c + 97 - 65 = c + 32 by omega]; exact IntWalk.u8_in _ (by omega)
    go_enter Tryz.func32, Tryz.ntmps32
    go_wp2
    go_ret2
    exact ⟨by rw [HV.out]; rfl, rfl⟩
  · have HV := Lib.hid (lowI_no (c := c) (by omega) (by omega))
    have a1 : (65 ≤ c) := by omega
    have a6 : ¬ (c ≤ 90) := by omega
    have a2 : ¬ (97 ≤ c) := by omega
    have a3 : (48 ≤ c) := by omega
    have a5 : ¬ (c ≤ 57) := by omega
    have a4 : (c == 95) = false := by simp; omega
    go_enter Tryz.func32, Tryz.ntmps32
    go_wp2
    go_ret2
    exact ⟨by rw [HV.out]; rfl, rfl⟩
  · subst h
    go_enter Tryz.func32, Tryz.ntmps32
    go_wp2
    go_ret2
    exact ⟨rfl, rfl⟩
  · subst h
    go_enter Tryz.func32, Tryz.ntmps32
    go_wp2
    go_ret2
    exact ⟨rfl, rfl⟩
  · have HV := Lib.hid (lowI_lo (c := c) (by omega))
    have a1 : (65 ≤ c) := by omega
    have a6 : ¬ (c ≤ 90) := by omega
    go_enter Tryz.func32, Tryz.ntmps32
    go_wp2
    go_ret2
    exact ⟨by rw [HV.out]; rfl, rfl⟩
  · have HV := Lib.hid (lowI_no (c := c) (by omega) (by omega))
    have a1 : (65 ≤ c) := by omega
    have a6 : ¬ (c ≤ 90) := by omega
    have a2 : (97 ≤ c) := by omega
    have a7 : ¬ (c ≤ 122) := by omega
    have a3 : (48 ≤ c) := by omega
    have a5 : ¬ (c ≤ 57) := by omega
    have a4 : (c == 95) = false := by simp; omega
    go_enter Tryz.func32, Tryz.ntmps32
    go_wp2
    go_ret2
    exact ⟨by rw [HV.out]; rfl, rfl⟩
end Go.Proofs.YtodaabofpkafjaaGreat
