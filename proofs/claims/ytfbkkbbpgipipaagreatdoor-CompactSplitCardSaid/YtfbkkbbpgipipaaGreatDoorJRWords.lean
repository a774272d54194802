/- Words of the reference of chapter 27 (printed by mkrwords.py). Condition: sizes. -/
import Derived.Test.YtfbkkbbpgipipaaGreatDoorJEChk0
import Derived.Shelf.Bytes.SlEqualAll
import Derived.Deep.DeepCutAuto
import Derived.Lib.Join
import Derived.Test.YtfbkkbbpgipipaaGreatDoorJEv
import Derived.Test.YtfbkkbbpgipipaaGreatDoorJBase
namespace Go.Proofs.YtfbkkbbpgipipaaGreatDoor
open Go.RowKit
set_option linter.unusedVariables false
set_option linter.unusedSimpArgs false

theorem own_apart2 {w : World} {b1 e1 z1 n1 b2 e2 z2 n2 : Nat} {v1 v2 : Value} {x1 x2 : List Value} (h1 : w.ownsRow b1 e1 z1 v1 n1 x1) (h2 : w.ownsRow b2 e2 z2 v2 n2 x2) (hne : e1 ≠ e2) : v1.ownBlock = none ∨ v1.ownBlock ≠ v2.ownBlock := by
  rcases h1.2 with ⟨rfl, _⟩ | ⟨g, cap, cur, rfl, _, hh, _⟩
  · exact .inl rfl
  · right
    intro e
    rcases h2.2 with ⟨rfl, _⟩ | ⟨g', cap', cur', rfl, _, hh', _⟩
    · simp [Value.ownBlock] at e
    · have e' : g = g' := by simpa [Value.ownBlock] using e
      subst e'
      rw [hh] at hh'
      injection hh' with hh'
      injection hh' with _ h _
      exact hne h
/-- the words behind the first k bytes; behind the last one what is left is put out -/
def outK (cs : List Int) (k : Nat) : List ByteArray := if k ≤ cs.length then (wst (cs.take k)).2 else rawW cs
def curK (cs : List Int) (k : Nat) : List Int := if k ≤ cs.length then (wst (cs.take k)).1 else []
theorem k_step {cs : List Int} {k : Nat} {x : Int} (h : cs[k]? = some x) : outK cs (k + 1) = (stepW (wst (cs.take k)) x).2 ∧ curK cs (k + 1) = (stepW (wst (cs.take k)) x).1 := by
  have hk := (List.getElem?_eq_some_iff.1 h)
  unfold outK curK
  rw [if_pos (by have := hk.1; omega), if_pos (by have := hk.1; omega), List.take_succ_eq_append_getElem hk.1, wst_snoc, hk.2]
  exact ⟨rfl, rfl⟩
set_option maxHeartbeats 4000000 in
set_option maxRecDepth 100000 in
theorem rwords_own (s : ByteArray) (w : World) (hl : s.size ≤ 100000) :
    Calls Tryz.prog 34 #[.string s] w (DistOwn w (rawW (bts s))) := by
  obtain ⟨cs, hcs⟩ : ∃ cs, cs = bts s := ⟨_, rfl⟩
  have HLEN : Hid (cs.length = s.size) := Lib.hid (by rw [hcs]; exact bts_length s)
  have HCS := Lib.hid hcs
  rw [← hcs]
  clear hcs
  go_enter Tryz.func34, Tryz.ntmps34
  go_wp2_with fail
  go_loopw [3, 4, 5] (fun vo vw i wr => ∃ k : Nat, k ≤ s.size + 1 ∧ i = .int .i64 k ∧ wr.ownsRow w.heap.size 9 1 vo (outK cs k).length ((outK cs k).map .string) ∧ wr.ownsRow w.heap.size 5 1 vw (curK cs k).length ((curK cs k).map (.int .u8)) ∧ w.grownBy wr none) (fun _ _ i _ => s.size + 1 - (intOf i).toNat)
  case atStart => exact ⟨0, Nat.zero_le _, rfl, World.ownsRow_nil _ _ _ _, World.ownsRow_nil _ _ _ _, only_refl _ _⟩
  case round =>
    obtain ⟨k, hk, rfl, hO, hC, hG⟩ := hrel
    have G := Lib.hid hG
    have hsz := hG.size
    obtain ⟨out, hout⟩ : ∃ out, out = outK cs k := ⟨_, rfl⟩
    obtain ⟨cur, hcur⟩ : ∃ cur, cur = curK cs k := ⟨_, rfl⟩
    rw [← hout] at hO
    rw [← hcur] at hC
    obtain ⟨Ao, co, rfl, hoc, hom, -, hor⟩ := Rd.of_own hO (by decide)
    obtain ⟨Aw, cw, rfl, -, -, -, hrw⟩ := Rd.of_own hC (by decide)
    have OO := Lib.hid hO
    have OC := Lib.hid hC
    have RO := Lib.hid hor
    have RW := Lib.hid hrw
    have HOUT := Lib.hid hout
    have HCUR := Lib.hid hcur
    have hlo : out.length ≤ 200000 ∧ cur.length ≤ 200000 := by
      have h1 := wst_len _ (cs.take k) (Nat.le_refl _)
      have h2 := rawW_len cs
      have h3 := HLEN.out
      rw [List.length_take] at h1
      rw [hout, hcur]
      unfold outK curK
      constructor
      · split <;> omega
      · split
        · omega
        · simp
    obtain ⟨hlo1, hlo2⟩ := hlo
    clear hO hC hG hor hrw hout hcur
    by_cases hlt : k < s.size
    · have hx := bts_at s hlt
      have hxb : (s[k]'hlt).toNat ≤ 255 := by have := (s[k]'hlt).toNat_lt; omega
      have hst := k_step (cs := cs) (k := k) (by rw [HCS.out]; exact hx)
      have hko : outK cs k = (wst (cs.take k)).2 ∧ curK cs k = (wst (cs.take k)).1 := by unfold outK curK; rw [if_pos (by rw [HLEN.out]; omega), if_pos (by rw [HLEN.out]; omega)]; exact ⟨rfl, rfl⟩
      have HKO := Lib.hid hko
      have i1 : (k : Int) < (s.size : Int) := by omega
      have i2 : (k : Int) ≤ (s.size : Int) := by omega
      have HST := Lib.hid hst
      clear hx hst hko
      go_wp2_with fail
      refine (letter_any _ wr (by omega) (by omega)).mono ?_
      rintro e w2 ⟨rfl, rfl⟩
      cases hlow : lowI ((s[k]'hlt).toNat : Int) with
      | some d =>
        have hd := lowI_in hlow
        have HO1 : Hid (outK cs (k + 1) = out) := Lib.hid (by
          rw [HST.out.1, HOUT.out, HKO.out.1]; unfold stepW; rw [hlow])
        have HC1 : Hid (curK cs (k + 1) = cur ++ [d]) := Lib.hid (by
          rw [HST.out.2, HCUR.out, HKO.out.2]; unfold stepW; rw [hlow])
        have d1 : (d != 0) = true := by simp; omega
        simp only [Option.getD_some]
        clear hlow
        obtain ⟨wr, rfl⟩ : ∃ w0 : World, w0 = w2 := ⟨_, rfl⟩
        go_wp2_with (at_builtin; refine wpList_append1 rfl _ _ 22 rfl w.heap.size Tryz.underlying22 u8Info27 rfl (by decide) (v := .slice Aw cur.length cw) (by rfl) (w0 := wr) (cs := #[.int .u8 d]) OC.out (by rfl) rfl (by simp [Value.oneCell']) (by decide) (by omega) (by omega) ?_; intro v7 w7 hown7 hg7 hob7)
        have C7 : Hid (w7.ownsRow w.heap.size 5 1 v7 (cur ++ [d]).length ((cur ++ [d]).map (.int .u8))) := Lib.hid (by simpa using hown7)
        have O7 := Lib.hid (OO.out.kept hg7 (own_apart2 OO.out OC.out (by decide)))
        have G7 : Hid (w.grownBy w7 none) := Lib.hid (only_own G.out hg7 OC.out (Nat.le_refl _))
        clear hown7 hg7 hob7
        go_wp2_with fail
        go_roundw
        case rel => exact ⟨k + 1, by omega, by go_num, by rw [HO1.out]; exact O7.out, by rw [HC1.out]; exact C7.out, G7.out⟩
        case measure => simp [intOf]; omega
      | none =>
        have HO1 : Hid (outK cs (k + 1) = flushW cur out) := Lib.hid (by
          rw [HST.out.1, HOUT.out, HCUR.out, HKO.out.1, HKO.out.2]; unfold stepW; rw [hlow])
        have HC1 : Hid (curK cs (k + 1) = []) := Lib.hid (by
          rw [HST.out.2]; unfold stepW; rw [hlow])
        simp only [Option.getD_none]
        clear hlow
        obtain ⟨wr, rfl⟩ : ∃ w0 : World, w0 = w2 := ⟨_, rfl⟩
        by_cases hc0 : 0 < cur.length
        · by_cases hc40 : cur.length ≤ 40
          · have HF : Hid (flushW cur out = out ++ [strOfNums cur]) := Lib.hid (by unfold flushW; rw [if_pos ⟨hc0, hc40⟩])
            have j1 : (0 : Int) < (cur.length : Int) := by omega
            have j2 : (cur.length : Int) ≤ 40 := by omega
            have hcv := Lib.BytesIn.convert (P := Tryz.prog) (w := wr) (p := Aw) (n := cur.length) (xs := cur) (bytesin_rd RW.out) rfl cw 22 5 9 Tryz.underlying22 Tryz.underlying5 Tryz.underlying9
            go_wp2_with (at_builtin; refine wpList_append1 rfl _ _ 56 rfl w.heap.size Tryz.underlying56 strInfo rfl (by decide) (v := .slice Ao out.length co) (by rfl) (w0 := wr) (cs := #[.string (strOfNums cur)]) OO.out (by rfl) rfl (by simp [Value.oneCell']) (by decide) (by omega) (by omega) ?_; intro v7 w7 hown7 hg7 hob7)
            have O7 : Hid (w7.ownsRow w.heap.size 9 1 v7 (flushW cur out).length ((flushW cur out).map .string)) := Lib.hid (by rw [HF.out]; simpa using hown7)
            have G7 : Hid (w.grownBy w7 none) := Lib.hid (only_own G.out hg7 OO.out (Nat.le_refl _))
            clear hown7 hg7 hob7 hcv
            go_wp2_with fail
            go_roundw
            case rel => exact ⟨k + 1, by omega, by go_num, by rw [HO1.out]; exact O7.out, by rw [HC1.out]; exact World.ownsRow_nil _ _ _ _, G7.out⟩
            case measure => simp [intOf]; omega
          · have HF : Hid (flushW cur out = out) := Lib.hid (by unfold flushW; rw [if_neg (by omega)])
            have j1 : (0 : Int) < (cur.length : Int) := by omega
            have j2 : ¬ ((cur.length : Int) ≤ 40) := by omega
            have O7 : Hid (wr.ownsRow w.heap.size 9 1 (.slice Ao out.length co) (flushW cur out).length ((flushW cur out).map .string)) := Lib.hid (by rw [HF.out]; exact OO.out)
            have G7 := G
            go_wp2_with fail
            go_roundw
            case rel => exact ⟨k + 1, by omega, by go_num, by rw [HO1.out]; exact O7.out, by rw [HC1.out]; exact World.ownsRow_nil _ _ _ _, G7.out⟩
            case measure => simp [intOf]; omega
        · have HF : Hid (flushW cur out = out) := Lib.hid (by unfold flushW; rw [if_neg (by omega)])
          have j1 : ¬ ((0 : Int) < (cur.length : Int)) := by omega
          have O7 : Hid (wr.ownsRow w.heap.size 9 1 (.slice Ao out.length co) (flushW cur out).length ((flushW cur out).map .string)) := Lib.hid (by rw [HF.out]; exact OO.out)
          have G7 := G
          go_wp2_with fail
          go_roundw
          case rel => exact ⟨k + 1, by omega, by go_num, by rw [HO1.out]; exact O7.out, by rw [HC1.out]; exact World.ownsRow_nil _ _ _ _, G7.out⟩
          case measure => simp [intOf]; omega
    · by_cases hke : k = s.size
      · have i1 : ¬ ((k : Int) < (s.size : Int)) := by omega
        have i2 : (k : Int) ≤ (s.size : Int) := by omega
        have HO1 : Hid (outK cs (k + 1) = flushW cur out) := Lib.hid (by
          rw [HOUT.out, HCUR.out]
          unfold outK curK
          rw [if_neg (by rw [HLEN.out]; omega), if_pos (by rw [HLEN.out]; omega), if_pos (by rw [HLEN.out]; omega), List.take_of_length_le (by rw [HLEN.out]; omega)]
          rfl)
        have HC1 : Hid (curK cs (k + 1) = []) := Lib.hid (by unfold curK; rw [if_neg (by rw [HLEN.out]; omega)])
        have HKE := Lib.hid hke
        clear hke
        by_cases hc0 : 0 < cur.length
        · by_cases hc40 : cur.length ≤ 40
          · have HF : Hid (flushW cur out = out ++ [strOfNums cur]) := Lib.hid (by unfold flushW; rw [if_pos ⟨hc0, hc40⟩])
            have j1 : (0 : Int) < (cur.length : Int) := by omega
            have j2 : (cur.length : Int) ≤ 40 := by omega
            have hcv := Lib.BytesIn.convert (P := Tryz.prog) (w := wr) (p := Aw) (n := cur.length) (xs := cur) (bytesin_rd RW.out) rfl cw 22 5 9 Tryz.underlying22 Tryz.underlying5 Tryz.underlying9
            go_wp2_with (at_builtin; refine wpList_append1 rfl _ _ 56 rfl w.heap.size Tryz.underlying56 strInfo rfl (by decide) (v := .slice Ao out.length co) (by rfl) (w0 := wr) (cs := #[.string (strOfNums cur)]) OO.out (by rfl) rfl (by simp [Value.oneCell']) (by decide) (by omega) (by omega) ?_; intro v7 w7 hown7 hg7 hob7)
            have O7 : Hid (w7.ownsRow w.heap.size 9 1 v7 (flushW cur out).length ((flushW cur out).map .string)) := Lib.hid (by rw [HF.out]; simpa using hown7)
            have G7 : Hid (w.grownBy w7 none) := Lib.hid (only_own G.out hg7 OO.out (Nat.le_refl _))
            clear hown7 hg7 hob7 hcv
            go_wp2_with fail
            go_roundw
            case rel => exact ⟨k + 1, by omega, by go_num, by rw [HO1.out]; exact O7.out, by rw [HC1.out]; exact World.ownsRow_nil _ _ _ _, G7.out⟩
            case measure => simp [intOf]; omega
          · have HF : Hid (flushW cur out = out) := Lib.hid (by unfold flushW; rw [if_neg (by omega)])
            have j1 : (0 : Int) < (cur.length : Int) := by omega
            have j2 : ¬ ((cur.length : Int) ≤ 40) := by omega
            have O7 : Hid (wr.ownsRow w.heap.size 9 1 (.slice Ao out.length co) (flushW cur out).length ((flushW cur out).map .string)) := Lib.hid (by rw [HF.out]; exact OO.out)
            have G7 := G
            go_wp2_with fail
            go_roundw
            case rel => exact ⟨k + 1, by omega, by go_num, by rw [HO1.out]; exact O7.out, by rw [HC1.out]; exact World.ownsRow_nil _ _ _ _, G7.out⟩
            case measure => simp [intOf]; omega
        · have HF : Hid (flushW cur out = out) := Lib.hid (by unfold flushW; rw [if_neg (by omega)])
          have j1 : ¬ ((0 : Int) < (cur.length : Int)) := by omega
          have O7 : Hid (wr.ownsRow w.heap.size 9 1 (.slice Ao out.length co) (flushW cur out).length ((flushW cur out).map .string)) := Lib.hid (by rw [HF.out]; exact OO.out)
          have G7 := G
          go_wp2_with fail
          go_roundw
          case rel => exact ⟨k + 1, by omega, by go_num, by rw [HO1.out]; exact O7.out, by rw [HC1.out]; exact World.ownsRow_nil _ _ _ _, G7.out⟩
          case measure => simp [intOf]; omega
      · have i2 : ¬ ((k : Int) ≤ (s.size : Int)) := by omega
        have HE : Hid (out = rawW cs) := Lib.hid (by rw [HOUT.out]; unfold outK; rw [if_neg (by rw [HLEN.out]; omega)])
        have KD := Lib.hid (distinct_own Ao out co wr RO.out (by omega) hoc hom)
        go_wp2_with fail
        refine KD.out.mono ?_
        rintro e w3 ⟨A3, c3, ds, rfl, e1, e2, e3, e4, e5, e6, e7⟩
        have H6 := Lib.hid (own_dn e6 hsz)
        have G3 := Lib.hid (only_trans G.out e7)
        have E4 := Lib.hid e4
        have E3 := Lib.hid e3
        clear e6 e7 e4 e3 KD
        go_wp2_with fail
        go_ret
        exact ⟨A3, c3, ds, rfl, e1, e2, E3.out, by rw [← HE.out]; exact E4.out, by rw [← HE.out]; exact e5, H6.out, G3.out⟩
theorem rwords_any (s : ByteArray) (w : World) (hl : s.size ≤ 100000) :
    Calls Tryz.prog 34 #[.string s] w (DistPost w (rawW (bts s))) := (rwords_own s w hl).mono fun _ _ h => h.post
end Go.Proofs.YtfbkkbbpgipipaaGreatDoor

namespace Go.Proofs.YtfbkkbbpgipipaaGreatDoor
open Go.RowKit
set_option linter.unusedVariables false
set_option linter.unusedSimpArgs false

/-- the text of an event -/
def textOf (ls : List LineD) : ByteArray := ⟨(Lib.join (ls.map (·.text.data.toList)) [10]).toArray⟩
def TextP (w : World) (t : ByteArray) (e : Ending) (w' : World) : Prop := e = .returned (.string t) ∧ w.grownBy w' none
theorem join_len : ∀ (xs : List (List UInt8)) (m : Nat), (∀ x ∈ xs, x.length ≤ m) → (Lib.join xs [10]).length ≤ xs.length * (m + 1) := by
  intro xs m
  induction xs with
  | nil => intro _; simp [Lib.join]
  | cons a t ih =>
    intro h
    have h1 := h a List.mem_cons_self
    have h2 := ih (fun x hx => h x (List.mem_cons_of_mem _ hx))
    rw [List.length_cons, Nat.add_mul]
    cases t with
    | nil => simp [Lib.join]; omega
    | cons b t => simp [Lib.join] at h2 ⊢; omega
end Go.Proofs.YtfbkkbbpgipipaaGreatDoor
namespace Go.Proofs.YtfbkkbbpgipipaaGreatDoor
open Go.RowKit
set_option linter.unusedVariables false
set_option linter.unusedSimpArgs false

theorem textOf_nil : textOf [] = ⟨#[]⟩ := rfl
theorem textOf_step {ls : List LineD} {k : Nat} {y : LineD} (h : ls[k]? = some y) : textOf (ls.take (k + 1)) = if k = 0 then y.text else textOf (ls.take k) ++ ⟨#[10]⟩ ++ y.text := by
  cases ls with
  | nil => simp at h
  | cons a r =>
    rcases k with _ | k
    · simp at h
      subst h
      rw [if_pos rfl]
      simp [textOf, Lib.join_one]
    · rw [if_neg (by omega)]
      simp at h
      have e : ∀ m, textOf ((a :: r).take (m + 1)) = ⟨(a.text.data.toList ++ Lib.joinTail [10] ((r.map (·.text.data.toList)).take m)).toArray⟩ := fun m => by
        unfold textOf
        rw [List.take_succ_cons, List.map_cons, Lib.join_cons, List.map_take]
      rw [e (k + 1), e k, Lib.joinTail_take_succ [10] _ k y.text.data.toList (by rw [List.getElem?_map, h]; rfl)]
      apply ByteArray.ext
      simp [ByteArray.data_append]
theorem textOf_size {ls : List LineD} (ht : ∀ l ∈ ls, l.text.size ≤ 100000) : ∀ k, k ≤ ls.length → (textOf (ls.take k)).size ≤ k * 100001 := by
  intro k
  induction k with
  | zero => intro _; simp [textOf_nil, ByteArray.size]
  | succ k ih =>
    intro hk
    have h := ih (by omega)
    have hy : ls[k]? = some (ls[k]'(by omega)) := List.getElem?_eq_getElem _
    have hm := ht _ (List.getElem_mem (by omega : k < ls.length))
    rw [textOf_step hy]
    split
    · omega
    · rw [ByteArray.size_append, ByteArray.size_append]
      have : (⟨#[10]⟩ : ByteArray).size = 1 := rfl
      omega
set_option maxHeartbeats 2000000 in
set_option maxRecDepth 100000 in
theorem rtext_any {S : Nat → Prop} (e : Ev) (w : World) (hs : e.Sub S w) (hl : e.lines.length ≤ 1000) (ht : ∀ l ∈ e.lines, l.text.size ≤ 100000) :
    Calls Tryz.prog 35 #[.agg e.cells.toArray] w (TextP w (textOf e.lines)) := by
  obtain ⟨xb, hxb⟩ : ∃ b, b = w.heap.size := ⟨_, rfl⟩
  obtain ⟨W1, hW1⟩ : ∃ W, W = w.alloc (.cells e.cells.toArray 35) := ⟨_, rfl⟩
  have hB1 : Blk W1 xb 35 e.cells.toArray := by rw [hW1, hxb]; exact Blk.new w _ _
  have g1 : w.grownBy W1 none := by rw [hW1]; exact only_alloc (only_refl _ _) _
  have G1 := Lib.hid g1
  have HR := Lib.hid (hs.1.grown g1 (by simp))
  have HT := Lib.hid ht
  have b4 := hB1.cell 4
  simp [Ev.cells] at b4
  have HW1 := Lib.hid hW1.symm
  have HXE := Lib.hid hxb.symm
  obtain ⟨ls, hls⟩ : ∃ ls, ls = e.lines := ⟨_, rfl⟩
  rw [← hls] at HR HT b4 hl ⊢
  clear hs ht hW1 hxb hB1 g1 hls
  go_enter Tryz.func35, Tryz.ntmps35
  go_upto_region 1 with fail
  rw [HW1.out, HXE.out]
  clear HW1 HXE
  go_wp2_with fail
  go_loop [3, 4] (fun v i => ∃ k : Nat, k ≤ ls.length ∧ i = .int .i64 k ∧ v = .string (textOf (ls.take k))) (fun _ i => ls.length - (intOf i).toNat)
  case atStart => exact ⟨0, Nat.zero_le _, rfl, rfl⟩
  case round =>
    obtain ⟨k, hk, rfl, rfl⟩ := hrel
    obtain ⟨t, ht⟩ : ∃ t, t = textOf (ls.take k) := ⟨_, rfl⟩
    have hts := textOf_size HT.out k hk
    have hts2 : k * 100001 ≤ 100001000 := by omega
    rw [← ht] at hts ⊢
    have htz : t.size ≤ 100001000 := Nat.le_trans hts hts2
    have HTT := Lib.hid ht
    clear ht hts hts2
    by_cases hlt : k < ls.length
    · obtain ⟨y, hy⟩ : ∃ y, ls[k]? = some y := ⟨_, List.getElem?_eq_getElem hlt⟩
      obtain ⟨b, o, ela, hbl, -, -⟩ := HR.out (by rw [flat_len _ 3 LineD.cells_len]; omega)
      have hrr := HR.out
      rw [ela] at hrr
      have d2 : W1.cell? ⟨b, o + k * 3 + 2, none⟩ = some (.string y.text) := hrr.flatAt LineD.cells_len hy 2 (by omega)
      have i1 : (k : Int) < (ls.length : Int) := by omega
      rw [ela] at b4
      have HST := Lib.hid (textOf_step hy)
      have hyz := HT.out y (List.mem_of_getElem? hy)
      clear hy hrr hbl ela
      by_cases h0 : k = 0
      · have HV : Hid (textOf (ls.take (k + 1)) = y.text) := Lib.hid (by rw [HST.out, if_pos h0])
        have HV0 : Hid (t = ⟨#[]⟩) := Lib.hid (by rw [HTT.out, h0]; rfl)
        subst h0
        have et := HV0.out
        subst et
        have he : (⟨#[]⟩ : ByteArray) ++ y.text = y.text := ByteArray.empty_append
        go_wp2_with fail
        go_round
        case rel => exact ⟨1, by omega, by go_num, by rw [HV.out]⟩
        case measure => simp [intOf]; omega
      · have i2 : (0 : Int) < (k : Int) := by omega
        have HV : Hid (textOf (ls.take (k + 1)) = t ++ ⟨#[10]⟩ ++ y.text) := Lib.hid (by rw [HST.out, if_neg h0, HTT.out])
        have hs1 : (⟨#[10]⟩ : ByteArray).size = 1 := rfl
        have hs2 : (t ++ (⟨#[10]⟩ : ByteArray)).size ≤ 100001001 := by rw [ByteArray.size_append, hs1]; omega
        clear h0
        go_wp2_with fail
        go_round
        case rel => exact ⟨k + 1, by omega, by go_num, by rw [HV.out]⟩
        case measure => simp [intOf]; omega
    · have HE : Hid (t = textOf ls) := Lib.hid (by rw [HTT.out, List.take_of_length_le (by omega)])
      go_wp2_with fail
      go_ret
      exact ⟨by rw [← HE.out]; rfl, G1.out⟩
end Go.Proofs.YtfbkkbbpgipipaaGreatDoor

namespace Go.Proofs.YtfbkkbbpgipipaaGreatDoor
open Go.RowKit
set_option linter.unusedVariables false
set_option linter.unusedSimpArgs false

theorem blk_norow {w : World} {g t e z n base : Nat} {cs : Array Value} {v : Value} {xs : List Value} (hB : Blk w g t cs) (h : w.ownsRow base e z v n xs) (hte : t ≠ e) : v.ownBlock ≠ some g := by
  rcases h.2 with ⟨rfl, _⟩ | ⟨g', cap, cur, rfl, _, hh, _⟩
  · simp [Value.ownBlock]
  · intro e1
    have e2 : g' = g := by simpa [Value.ownBlock] using e1
    subst e2
    unfold Blk at hB
    rw [hB] at hh
    injection hh with hh
    injection hh with _ h2 _
    exact hte h2
theorem own_off {w w' : World} {base e z n g : Nat} {v : Value} {xs : List Value} (h : w.ownsRow base e z v n xs) (hg : w.grownBy w' (some g)) (hne : v.ownBlock ≠ some g) : w'.ownsRow base e z v n xs := h.kept hg (.inr hne)
theorem own_putk {w : World} {base e size g n c k : Nat} {xs : List Value} {u : Value} (h : w.ownsRow base e size (.slice (some ⟨g, 0, none⟩) n c) n xs) (hk : k < n * size) : (w.setCell ⟨g, k, none⟩ u).ownsRow base e size (.slice (some ⟨g, 0, none⟩) n c) n (xs.set k u) := by
  obtain ⟨hl, h2⟩ := h
  refine ⟨by simpa using hl, ?_⟩
  rcases h2 with ⟨h3, _⟩ | ⟨g', cap, cur, h3, h4, h5, h6, h7, h8, h9⟩
  · cases h3
  · injection h3 with e1 e2 e3
    injection e1 with e1
    injection e1 with e1
    subst e1 e3
    refine .inr ⟨g, c, cur.setIfInBounds k u, rfl, h4, ?_, h6, h7, by simpa using h8, ?_⟩
    · simp [World.setCell, Array.getElem?_modify, h5]
    · rw [Array.toList_setIfInBounds, List.take_set, h9]
end Go.Proofs.YtfbkkbbpgipipaaGreatDoor
