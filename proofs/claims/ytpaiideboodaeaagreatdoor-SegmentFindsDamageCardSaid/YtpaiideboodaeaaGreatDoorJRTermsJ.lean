/- Terms of the reference of chapter 27. Condition: sizes. -/
import Derived.Test.YtpaiideboodaeaaGreatDoorJFlat
import Derived.Test.YtpaiideboodaeaaGreatDoorJRWords
import Derived.Test.YtpaiideboodaeaaGreatDoorJFiles
import Derived.Test.YtpaiideboodaeaaGreatDoorJSortS
import Derived.Test.YtpaiideboodaeaaGreatDoorJBase
import Derived.Laws.Bits64b
import Derived.Deep.DeepMust
import Derived.Test.YtpaiideboodaeaaGreatDoorJShelf36
namespace Go.Proofs.YtpaiideboodaeaaGreatDoor
open Go.RowKit
set_option linter.unusedVariables false
set_option linter.unusedSimpArgs false

def eqSign : ByteArray := ⟨#[61]⟩
/-- the term of a test -/
def nmeq (nm tx : ByteArray) : ByteArray := nm ++ eqSign ++ tx
theorem nmeq_size (nm tx : ByteArray) : (nmeq nm tx).size = nm.size + 1 + tx.size := by unfold nmeq; rw [ByteArray.size_append, ByteArray.size_append]; rfl

def EvT (e : Ev) : Prop := e.lines.length ≤ 1000 ∧ (∀ l ∈ e.lines, l.text.size ≤ 1000) ∧ (textOf e.lines).size ≤ 10000 ∧ e.fields.length ≤ 1000 ∧ ∀ f ∈ e.fields, f.name.size ≤ 100 ∧ f.value.size ≤ 1000
theorem chain_text : ∀ {xs : List LineD} {a b : Int}, Chain a xs b → ∀ l ∈ xs, l.text.size ≤ 59
  | [], _, _, _, l, hl => by cases hl
  | x :: xs, a, b, h, l, hl => by
    rcases List.mem_cons.1 hl with rfl | hl
    · have := h.2.1; have := h.2.2.1; omega
    · exact chain_text h.2.2.2 l hl
theorem textOf_le {ls : List LineD} {m : Nat} (h : ∀ l ∈ ls, l.text.size ≤ m) : (textOf ls).size ≤ ls.length * (m + 1) := by
  have := join_len (ls.map (·.text.data.toList)) m (by
    intro x hx
    obtain ⟨l, hl, rfl⟩ := List.mem_map.1 hx
    have h2 := h l hl
    have : l.text.data.toList.length = l.text.size := rfl
    omega)
  rw [List.length_map] at this
  exact this
theorem EvGood.evT {e : Ev} (h : EvGood e) : EvT e := by
  obtain ⟨hf, hc, h1, h2, _⟩ := h
  have ht := chain_text hc
  refine ⟨by omega, fun l hl => Nat.le_trans (ht l hl) (by omega), ?_, ?_, fun f hfm => ?_⟩
  · have := textOf_le ht
    have : e.lines.length * (59 + 1) ≤ 3 * 60 := Nat.mul_le_mul h2 (by omega)
    omega
  · have := hf.2.2.2.2.2.1.length_le
    simp [nameTab] at this
    omega
  · have hm := hf.2.2.2.2.2.1.subset (List.mem_map_of_mem (f := FieldD.name) hfm)
    have hv := hf.2.2.2.2.2.2 f hfm
    refine ⟨?_, by omega⟩
    have hall : ∀ x ∈ nameTab.take 4, x.size ≤ 100 := by
      intro x hx
      have hx := List.mem_of_mem_take hx
      simp only [nameTab, List.mem_cons, List.not_mem_nil, or_false] at hx
      rcases hx with rfl | rfl | rfl | rfl <;> decide
    exact hall _ hm
def rawT (e : Ev) : List ByteArray := rawW (bts (textOf e.lines)) ++ e.fields.map (fun f => nmeq f.name f.value)
set_option maxHeartbeats 4000000 in
set_option maxRecDepth 100000 in
theorem terms_own {S : Nat → Prop} (e : Ev) (w : World) (hs : e.Sub S w) (ht : EvT e) :
    Calls Tryz.prog 12 #[.agg e.cells.toArray] w (DistOwn w (rawT e)) := by
  have HT : Hid (∀ w', w.grownBy w' none → Calls Tryz.prog 37 #[.agg e.cells.toArray] w' (TextP w' (textOf e.lines))) := fun w' hg => rtext_any e w' (hs.grown hg (by simp)) ht.1 (fun l hl => Nat.le_trans (ht.2.1 l hl) (by omega))
  have HW : Hid (∀ w', Calls Tryz.prog 36 #[.string (textOf e.lines)] w' (DistOwn w' (rawW (bts (textOf e.lines))))) := fun w' => rwords_own _ w' (by have := ht.2.2.1; omega)
  have HF : Hid (Rd S w e.fa (e.fields.flatMap FieldD.cells)) := hs.2.1
  have HFB : Hid (∀ f ∈ e.fields, f.name.size ≤ 100 ∧ f.value.size ≤ 1000) := ht.2.2.2.2
  have hfl : e.fields.length ≤ 1000 := ht.2.2.2.1
  have HLN : Hid ((rawW (bts (textOf e.lines))).length ≤ 20000) := Lib.hid (by have := rawW_len (bts (textOf e.lines)); rw [bts_length] at this; have := ht.2.2.1; omega)
  have HRT : Hid (rawT e = rawW (bts (textOf e.lines)) ++ e.fields.map (fun f => nmeq f.name f.value)) := Lib.hid rfl
  obtain ⟨tx, htx⟩ : ∃ tx, tx = textOf e.lines := ⟨_, rfl⟩
  rw [← htx] at HT HW HLN HRT
  clear hs ht htx
  obtain ⟨host, file, beg, fin, lines, time, weight, trace, stream, fields, la, lc, fa, fc⟩ := e
  obtain ⟨RT, hRT⟩ : ∃ x, x = rawT ⟨host, file, beg, fin, lines, time, weight, trace, stream, fields, la, lc, fa, fc⟩ := ⟨_, rfl⟩
  rw [← hRT] at HRT ⊢
  clear hRT
  show Calls _ _ #[.agg #[.int .i64 host, .int .i64 file, .int .i64 beg, .int .i64 fin, .slice la lines.length lc, .int .i64 time, .int .i64 weight, .string trace, .string stream, .slice fa fields.length fc]] w _
  simp only at hfl HF HFB
  go_enter Tryz.func12, Tryz.ntmps12
  go_wp2_with fail
  refine (HT.out _ (only_alloc (only_refl _ _) _)).mono ?_
  rintro e w1 ⟨rfl, hg1⟩
  have hB1 := (Blk.new w 44 #[.int .i64 host, .int .i64 file, .int .i64 beg, .int .i64 fin, .slice la lines.length lc, .int .i64 time, .int .i64 weight, .string trace, .string stream, .slice fa fields.length fc]).grown hg1 (by simp)
  have G1 : Hid (w.grownBy w1 none) := only_trans (only_alloc (only_refl _ _) _) hg1
  have hz1 := hg1.size
  simp at hz1
  clear hg1
  go_wp2_with fail
  refine (HW.out _).mono ?_
  rintro e w2 ⟨A2, c2, ds, rfl, hc2, hm2, hs2, he2, hl2, ho2, hg2⟩
  have hB2 := hB1.grown hg2 (by simp)
  have G2 : Hid (w.grownBy w2 none) := only_trans G1.out hg2
  have O2 := Lib.hid (own_dn ho2 (show w.heap.size + 1 ≤ w1.heap.size from hz1))
  have HE2 := Lib.hid he2
  have HL2 := Lib.hid hl2
  have hl2' : ds.length ≤ 20000 := by have := HLN.out; omega
  obtain ⟨r, hr⟩ : ∃ r, r = w.heap.size := ⟨_, rfl⟩
  have HR := Lib.hid hr
  rw [← hr] at hB1 hB2 O2 ⊢
  have B2 := Lib.hid hB2
  clear hg2 ho2 he2 hl2 hs2 hm2 hc2 hB1 hB2 hr hz1 HT HW
  go_wp2_with fail
  go_loopw [3, 4] (fun vo i wr => ∃ k : Nat, i = .int .i64 k ∧ k ≤ fields.length ∧ wr.ownsRow (r + 1) 9 1 vo (ds ++ (fields.take k).map (fun f => nmeq f.name f.value)).length ((ds ++ (fields.take k).map (fun f => nmeq f.name f.value)).map .string) ∧ Blk wr r 44 #[.int .i64 host, .int .i64 file, .int .i64 beg, .int .i64 fin, .slice la lines.length lc, .int .i64 time, .int .i64 weight, .string trace, .string stream, .slice fa fields.length fc] ∧ w.grownBy wr none) (fun _ i _ => fields.length - (intOf i).toNat)
  case atStart => exact ⟨0, rfl, Nat.zero_le _, by simpa using O2.out, B2.out, G2.out⟩
  case round =>
    obtain ⟨k, rfl, hk, hO, hB, hG⟩ := hrel
    obtain ⟨zs, hzs⟩ : ∃ zs, zs = ds ++ (fields.take k).map (fun f => nmeq f.name f.value) := ⟨_, rfl⟩
    rw [← hzs] at hO
    have HZ := Lib.hid hzs
    have hzl : zs.length ≤ 21000 := by rw [hzs]; simp; omega
    obtain ⟨Ao, co, rfl, hoc, hom, -, hro⟩ := Rd.of_own hO (by decide)
    have OO := Lib.hid hO
    have RO := Lib.hid hro
    have B := Lib.hid hB
    have G := Lib.hid hG
    have hsz := hG.size
    have hrr := hB.lt
    have e9 := hB.cell 9
    simp at e9
    clear hO hro hB hG hzs
    by_cases hlt : k < fields.length
    · obtain ⟨y, hy⟩ : ∃ y, fields[k]? = some y := ⟨_, List.getElem?_eq_getElem hlt⟩
      obtain ⟨kb, ko, rfl, hkw, z0, z1⟩ := fld_in (HF.out.grown G.out (by simp)) hy
      obtain ⟨hy1, hy2⟩ := HFB.out y (List.mem_of_getElem? hy)
      have HT1 : Hid (zs ++ [nmeq y.name y.value] = ds ++ (fields.take (k + 1)).map (fun f => nmeq f.name f.value)) := Lib.hid (by
        rw [HZ.out, List.take_succ_eq_append_getElem hlt]
        rw [List.getElem?_eq_getElem hlt] at hy
        injection hy with hy
        rw [hy]; simp)
      clear hy HZ
      go_wp2_with fail
      go_quiet (fail)
      obtain ⟨W, hWq⟩ : ∃ W, W = wr.drewN nq := ⟨_, rfl⟩
      have OW : Hid (W.ownsRow (r + 1) 9 1 (.slice Ao zs.length co) zs.length (zs.map .string)) := by rw [hWq]; exact own_drewN OO.out nq
      have BW : Hid (Blk W r 44 #[.int .i64 host, .int .i64 file, .int .i64 beg, .int .i64 fin, .slice la lines.length lc, .int .i64 time, .int .i64 weight, .string trace, .string stream, .slice (some ⟨kb, ko, none⟩) fields.length fc]) := by rw [hWq]; exact B.out
      have GW : Hid (w.grownBy W none) := by rw [hWq]; exact only_drewN G.out nq
      have hszW : w.heap.size ≤ W.heap.size := GW.out.size
      have hrW := BW.out.lt
      rw [← hWq]
      clear hWq OO B G hsz hrr z0 z1 e9
      go_wp2_with (at_builtin; refine wpList_append1 rfl _ _ 39 rfl (r + 1) Tryz.underlying39 strInfo rfl (by decide) (v := .slice Ao zs.length co) (by rfl) (w0 := W) (cs := #[.string (nmeq y.name y.value)]) OW.out (by rfl) rfl (by simp [Value.oneCell']) (by decide) (by omega) (by omega) ?_; intro v7 w7 hown7 hg7 hob7)
      have O7 : Hid (w7.ownsRow (r + 1) 9 1 v7 (ds ++ (fields.take (k + 1)).map (fun f => nmeq f.name f.value)).length ((ds ++ (fields.take (k + 1)).map (fun f => nmeq f.name f.value)).map .string)) := Lib.hid (by rw [← HT1.out]; simpa using hown7)
      have B7 := Lib.hid (BW.out.grown hg7 (by
        cases hv : (Value.slice Ao zs.length co).ownBlock with
        | none => simp
        | some g => have := (OW.out.lt g hv).1; intro e; injection e; omega))
      have G7 : Hid (w.grownBy w7 none) := Lib.hid (only_own GW.out hg7 OW.out (by have := HR.out; omega))
      clear hown7 hg7 hob7
      go_wp2_with fail
      go_roundw
      case rel => exact ⟨k + 1, by go_num, by omega, O7.out, B7.out, G7.out⟩
      case measure => simp [intOf]; omega
    · have HE : Hid (zs = ds ++ fields.map (fun f => nmeq f.name f.value)) := Lib.hid (by rw [HZ.out, List.take_of_length_le (by omega)])
      have KD := Lib.hid (distinct_own Ao zs co wr RO.out (by omega) hoc hom)
      go_wp2_with fail
      refine KD.out.mono ?_
      rintro e w3 ⟨A3, c3, ds3, rfl, d1, d2, d3, d4, d5, d6, d7⟩
      have H6 := Lib.hid (own_dn d6 hsz)
      have G3 := Lib.hid (only_trans G.out d7)
      have E4 : Hid (∀ s, s ∈ ds3 ↔ s ∈ RT) := Lib.hid (fun s => by rw [d4 s, HE.out, HRT.out, List.mem_append, List.mem_append, HE2.out s])
      have E5 : Hid (ds3.length ≤ RT.length) := Lib.hid (by
        have h1 := HL2.out
        rw [HRT.out, List.length_append, List.length_map]
        rw [HE.out, List.length_append, List.length_map] at d5
        omega)
      have E3 := Lib.hid d3
      clear d3 d4 d5 d6 d7 KD
      go_wp2_with fail
      go_ret
      exact ⟨A3, c3, ds3, rfl, d1, d2, E3.out, E4.out, E5.out, H6.out, G3.out⟩
theorem scratch_len : ∀ (e : Ev), EvT e → (rawT e).length ≤ 20000 := by
  intro e he
  have h1 := rawW_len (bts (textOf e.lines))
  rw [bts_length] at h1
  have := he.2.2.1
  have := he.2.2.2.1
  unfold rawT
  rw [List.length_append, List.length_map]
  omega
end Go.Proofs.YtpaiideboodaeaaGreatDoor

namespace Go.Proofs.YtpaiideboodaeaaGreatDoor
open Go.RowKit
set_option linter.unusedVariables false
set_option linter.unusedSimpArgs false

set_option maxHeartbeats 4000000 in
set_option maxRecDepth 100000 in
theorem sterms_own {S : Nat → Prop} (e : Ev) (w : World) (hs : e.Sub S w) (ht : EvT e) :
    Calls Tryz.prog 64 #[.agg e.cells.toArray] w (DistOwn w (rawT e)) := by
  have HT : Hid (∀ w', w.grownBy w' none → Calls Tryz.prog 100 #[.agg e.cells.toArray] w' (TextP w' (textOf e.lines))) := fun w' hg => text_any e w' (hs.grown hg (by simp)) ht.1 (fun l hl => Nat.le_trans (ht.2.1 l hl) (by omega))
  have HW : Hid (∀ w', Calls Tryz.prog 17 #[.string (textOf e.lines)] w' (DistOwn w' (rawW (bts (textOf e.lines))))) := fun w' => swords_own _ w' (by have := ht.2.2.1; omega)
  have HF : Hid (Rd S w e.fa (e.fields.flatMap FieldD.cells)) := hs.2.1
  have HFB : Hid (∀ f ∈ e.fields, f.name.size ≤ 100 ∧ f.value.size ≤ 1000) := ht.2.2.2.2
  have hfl : e.fields.length ≤ 1000 := ht.2.2.2.1
  have HLN : Hid ((rawW (bts (textOf e.lines))).length ≤ 20000) := Lib.hid (by have := rawW_len (bts (textOf e.lines)); rw [bts_length] at this; have := ht.2.2.1; omega)
  have HRT : Hid (rawT e = rawW (bts (textOf e.lines)) ++ e.fields.map (fun f => nmeq f.name f.value)) := Lib.hid rfl
  obtain ⟨tx, htx⟩ : ∃ tx, tx = textOf e.lines := ⟨_, rfl⟩
  rw [← htx] at HT HW HLN HRT
  clear hs ht htx
  obtain ⟨host, file, beg, fin, lines, time, weight, trace, stream, fields, la, lc, fa, fc⟩ := e
  obtain ⟨RT, hRT⟩ : ∃ x, x = rawT ⟨host, file, beg, fin, lines, time, weight, trace, stream, fields, la, lc, fa, fc⟩ := ⟨_, rfl⟩
  rw [← hRT] at HRT ⊢
  clear hRT
  show Calls _ _ #[.agg #[.int .i64 host, .int .i64 file, .int .i64 beg, .int .i64 fin, .slice la lines.length lc, .int .i64 time, .int .i64 weight, .string trace, .string stream, .slice fa fields.length fc]] w _
  simp only at hfl HF HFB
  go_enter Tryz.func64, Tryz.ntmps64
  go_wp2_with fail
  refine (HT.out _ (only_alloc (only_refl _ _) _)).mono ?_
  rintro e w1 ⟨rfl, hg1⟩
  have hB1 := (Blk.new w 44 #[.int .i64 host, .int .i64 file, .int .i64 beg, .int .i64 fin, .slice la lines.length lc, .int .i64 time, .int .i64 weight, .string trace, .string stream, .slice fa fields.length fc]).grown hg1 (by simp)
  have G1 : Hid (w.grownBy w1 none) := only_trans (only_alloc (only_refl _ _) _) hg1
  have hz1 := hg1.size
  simp at hz1
  clear hg1
  go_wp2_with fail
  refine (HW.out _).mono ?_
  rintro e w2 ⟨A2, c2, ds, rfl, hc2, hm2, hs2, he2, hl2, ho2, hg2⟩
  have hB2 := hB1.grown hg2 (by simp)
  have G2 : Hid (w.grownBy w2 none) := only_trans G1.out hg2
  have O2 := Lib.hid (own_dn ho2 (show w.heap.size ≤ w1.heap.size by omega))
  have HE2 := Lib.hid he2
  have HL2 := Lib.hid hl2
  have hl2' : ds.length ≤ 20000 := by have := HLN.out; omega
  have e9 := hB2.cell 9
  simp at e9
  clear hg2 ho2 he2 hl2 hs2 hm2 hc2 hB1 hB2 hz1 HT HW
  go_wp2_with fail
  go_loopw [3, 13] (fun vo i wr => ∃ k : Nat, i = .int .i64 k ∧ k ≤ fields.length ∧ wr.ownsRow w.heap.size 9 1 vo (ds ++ (fields.take k).map (fun f => nmeq f.name f.value)).length ((ds ++ (fields.take k).map (fun f => nmeq f.name f.value)).map .string) ∧ w.grownBy wr none) (fun _ i _ => fields.length - (intOf i).toNat)
  case atStart => exact ⟨0, rfl, Nat.zero_le _, by simpa using O2.out, G2.out⟩
  case round =>
    clear e9 O2 G2
    obtain ⟨k, rfl, hk, hO, hG⟩ := hrel
    obtain ⟨zs, hzs⟩ : ∃ zs, zs = ds ++ (fields.take k).map (fun f => nmeq f.name f.value) := ⟨_, rfl⟩
    rw [← hzs] at hO
    have HZ := Lib.hid hzs
    have hzl : zs.length ≤ 21000 := by rw [hzs]; simp; omega
    obtain ⟨Ao, co, rfl, hoc, hom, -, hro⟩ := Rd.of_own hO (by decide)
    have OO := Lib.hid hO
    have G := Lib.hid hG
    have hsz := hG.size
    clear hO hro hG hzs hoc hom
    by_cases hlt : k < fields.length
    · obtain ⟨y, hy⟩ : ∃ y, fields[k]? = some y := ⟨_, List.getElem?_eq_getElem hlt⟩
      obtain ⟨kb, ko, rfl, hkw, z0, z1⟩ := fld_in (HF.out.grown G.out (by simp)) hy
      obtain ⟨hy1, hy2⟩ := HFB.out y (List.mem_of_getElem? hy)
      have HT1 : Hid (zs ++ [nmeq y.name y.value] = ds ++ (fields.take (k + 1)).map (fun f => nmeq f.name f.value)) := Lib.hid (by
        rw [HZ.out, List.take_succ_eq_append_getElem hlt]
        rw [List.getElem?_eq_getElem hlt] at hy
        injection hy with hy
        rw [hy]; simp)
      have i1 : (k : Int) < (fields.length : Int) := by omega
      clear hy HZ
      go_upto_region 5 with fail
      obtain ⟨fb, hfb⟩ : ∃ b, b = wr.heap.size := ⟨_, rfl⟩
      obtain ⟨V, hV⟩ : ∃ V, V = wr.alloc (.cells #[.string y.name, .string y.value] 85) := ⟨_, rfl⟩
      have hBV : Blk V fb 85 #[.string y.name, .string y.value] := by rw [hV, hfb]; exact Blk.new _ _ _
      have hgV : wr.grownBy V none := by rw [hV]; exact only_alloc (only_refl _ _) _
      have OW := Lib.hid (own_ext OO.out hgV)
      have GW := Lib.hid (only_trans G.out hgV)
      have hszW : w.heap.size ≤ V.heap.size := GW.out.size
      have q0 := hBV.cell 0; have q1 := hBV.cell 1
      simp at q0 q1
      rw [← hV, ← hfb]
      have hnz := nmeq_size y.name y.value
      have hns : y.name ++ eqSign ++ y.value = nmeq y.name y.value := rfl
      have he1 : eqSign.size = 1 := rfl
      have hn1 : (y.name ++ eqSign).size ≤ 101 := by rw [ByteArray.size_append, he1]; omega
      have hn2 : (nmeq y.name y.value).size ≤ 1101 := by omega
      have hn3 : (y.name.size : Int) + 1 + (y.value.size : Int) ≤ 2048 := by omega
      clear hV hfb hBV hgV OO G hsz z0 z1 hnz
      go_wp2_with (at_builtin; go_must (refine wpList_append1 rfl _ _ 39 rfl w.heap.size Tryz.underlying39 strInfo rfl (by decide) (v := .slice Ao zs.length co) (by rfl) (w0 := V) (cs := #[.string (y.name ++ (⟨#[61]⟩ : ByteArray) ++ y.value)]) OW.out (by rfl) rfl (by simp [Value.oneCell']) (by decide) (by omega) (by omega) ?_); intro v7 w7 hown7 hg7 hob7)
      have O7 : Hid (w7.ownsRow w.heap.size 9 1 v7 (ds ++ (fields.take (k + 1)).map (fun f => nmeq f.name f.value)).length ((ds ++ (fields.take (k + 1)).map (fun f => nmeq f.name f.value)).map .string)) := Lib.hid (by
        rw [← HT1.out, List.length_append, List.map_append]
        exact hown7)
      have G7 : Hid (w.grownBy w7 none) := Lib.hid (only_own GW.out hg7 OW.out (Nat.le_refl _))
      clear hown7 hg7 hob7
      go_wp2_with fail
      go_roundw
      case rel => exact ⟨k + 1, by go_num, by omega, O7.out, G7.out⟩
      case measure => simp [intOf]; omega
    · have HE : Hid (zs = ds ++ fields.map (fun f => nmeq f.name f.value)) := Lib.hid (by rw [HZ.out, List.take_of_length_le (by omega)])
      have i1 : ¬ (k : Int) < (fields.length : Int) := by omega
      go_wp2_with fail
      refine (sort_ownS w.heap.size _ zs wr OO.out (by omega)).mono ?_
      rintro e w3 ⟨rfl, ho3, hg3⟩
      have O3 := Lib.hid ho3
      have G3 := Lib.hid (only_own G.out hg3 OO.out (Nat.le_refl _))
      have hsl : (sorted (zs.map ofB)).length = zs.length := by rw [sorted_len, List.length_map]
      have hsl2 : (sorted (zs.map ofB)).length ≤ 1000000 := by omega
      have hcl := Lib.compact_length_le (sorted (zs.map ofB))
      have hdl : (dist zs).length ≤ zs.length := by unfold dist; rw [List.length_map]; omega
      clear ho3 hg3 hsl hcl OO
      go_wp2_with fail
      refine (comp_ownO w.heap.size _ (sorted (zs.map ofB)) w3 O3.out hsl2).mono ?_
      rintro e w4 ⟨A4, c4, rfl, h1, h2, h3, hg4, -⟩
      have G4 := Lib.hid (only_own G3.out hg4 O3.out (Nat.le_refl _))
      have e1 : (Lib.compact (sorted (zs.map ofB))).length = (dist zs).length := by unfold dist; rw [List.length_map]
      rw [e1] at h1 h3 ⊢
      have H3 : Hid (w4.ownsRow w.heap.size 9 1 (.slice A4 (dist zs).length c4) (dist zs).length ((dist zs).map .string)) := Lib.hid (by have h9 := h3; rw [encStrB] at h9; exact h9)
      have E4 : Hid (∀ s, s ∈ dist zs ↔ s ∈ RT) := Lib.hid (fun s => by rw [dist_mem, HE.out, HRT.out, List.mem_append, List.mem_append, HE2.out s])
      have E5 : Hid ((dist zs).length ≤ RT.length) := Lib.hid (by
        have h1 := HL2.out
        have h2 := hdl
        rw [HRT.out, List.length_append, List.length_map]
        have h3 : zs.length = ds.length + fields.length := by rw [HE.out, List.length_append, List.length_map]
        omega)
      clear h3 hg4 e1 O3
      go_wp2_with fail
      go_ret
      exact ⟨A4, c4, dist zs, rfl, h1, h2, dist_srt zs, E4.out, E5.out, H3.out, G4.out⟩
end Go.Proofs.YtpaiideboodaeaaGreatDoor

namespace Go.Proofs.YtpaiideboodaeaaGreatDoor
open Go.RowKit
set_option linter.unusedVariables false
set_option linter.unusedSimpArgs false

theorem ofInt_nat (n a : Nat) (h : a < 2 ^ n) : (BitVec.ofInt n (a : Int)).toNat = a := by
  rw [BitVec.ofInt_natCast, BitVec.toNat_ofNat]; exact Nat.mod_eq_of_lt h
theorem and_i64 (a b : Nat) (ha : a < 2 ^ 63) (hb : b < 2 ^ 63) : bits .and .i64 (a : Int) (b : Int) = ((a &&& b : Nat) : Int) := by
  have hx : a &&& b < 2 ^ 63 := Nat.and_lt_two_pow _ hb
  show IntKind.i64.wrap ((BitVec.ofInt 64 (a : Int) &&& BitVec.ofInt 64 (b : Int)).toNat : Int) = _
  rw [BitVec.toNat_and, ofInt_nat 64 a (by omega), ofInt_nat 64 b (by omega), IntKind.wrap_i64]
  omega
theorem or_i64 (a b : Nat) (ha : a < 2 ^ 63) (hb : b < 2 ^ 63) : bits .or .i64 (a : Int) (b : Int) = ((a ||| b : Nat) : Int) := by
  have hx : a ||| b < 2 ^ 63 := Nat.or_lt_two_pow ha hb
  show IntKind.i64.wrap ((BitVec.ofInt 64 (a : Int) ||| BitVec.ofInt 64 (b : Int)).toNat : Int) = _
  rw [BitVec.toNat_or, ofInt_nat 64 a (by omega), ofInt_nat 64 b (by omega), IntKind.wrap_i64]
  omega
theorem and_u8 (a b : Nat) (ha : a < 256) (hb : b < 256) : bits .and .u8 (a : Int) (b : Int) = ((a &&& b : Nat) : Int) := by
  have hx : a &&& b < 2 ^ 8 := Nat.and_lt_two_pow _ hb
  show IntKind.u8.wrap ((BitVec.ofInt 8 (a : Int) &&& BitVec.ofInt 8 (b : Int)).toNat : Int) = _
  rw [BitVec.toNat_and, ofInt_nat 8 a (by omega), ofInt_nat 8 b (by omega), IntKind.wrap_u8]
  omega
theorem or_u8 (a b : Nat) (ha : a < 256) (hb : b < 256) : bits .or .u8 (a : Int) (b : Int) = ((a ||| b : Nat) : Int) := by
  have hx : a ||| b < 2 ^ 8 := Nat.or_lt_two_pow (n := 8) ha hb
  show IntKind.u8.wrap ((BitVec.ofInt 8 (a : Int) ||| BitVec.ofInt 8 (b : Int)).toNat : Int) = _
  rw [BitVec.toNat_or, ofInt_nat 8 a (by omega), ofInt_nat 8 b (by omega), IntKind.wrap_u8]
  omega
theorem or128 (a : Nat) (h : a < 128) : a ||| 128 = a + 128 := by
  have := Nat.two_pow_add_eq_or_of_lt (i := 7) (b := a) h 1
  rw [Nat.or_comm] at this
  simpa [Nat.add_comm] using this.symm
theorem or128' (a : Nat) (h : a < 256) : a ||| 128 = a % 128 + 128 := by
  have h1 := or128 (a % 128) (by omega)
  by_cases h2 : a < 128
  · rw [Nat.mod_eq_of_lt h2] at h1 ⊢; exact h1
  · have e : a = (a % 128) ||| 128 := by rw [h1]; omega
    rw [← h1]
    rw [e, Nat.or_assoc, Nat.or_self]
    congr 1
    rw [h1]; omega
/-- the byte that varint appends, as the walk writes it -/
theorem vb_i64 (m : Nat) (h : m < 2 ^ 62) : bits .or .i64 (bits .and .i64 (m : Int) 127) 128 % 256 = ((m % 128 + 128 : Nat) : Int) := by
  have h1 := and_i64 m 127 (by omega) (by decide)
  have e : m &&& 127 = m % 128 := Nat.and_two_pow_sub_one_eq_mod m 7
  rw [e] at h1
  have h2 := or_i64 (m % 128) 128 (by omega) (by decide)
  rw [or128 _ (by omega)] at h2
  have h1' : bits .and .i64 (m : Int) 127 = ((m % 128 : Nat) : Int) := h1
  have h2' : bits .or .i64 ((m % 128 : Nat) : Int) 128 = ((m % 128 + 128 : Nat) : Int) := h2
  rw [h1', h2']
  omega
theorem vb_u64 (m : Nat) (h : m < 18446744073709551616) : bits .or .u64 (bits .and .u64 (m : Int) 127) 128 % 256 = ((m % 128 + 128 : Nat) : Int) := by
  have h1 := bits_and_u64_nat m 127 h (by decide)
  have e : m &&& 127 = m % 128 := Nat.and_two_pow_sub_one_eq_mod m 7
  rw [e] at h1
  have h2 := bits_or_u64_nat (m % 128) 128 (by omega) (by decide)
  rw [or128 _ (by omega)] at h2
  have h1' : bits .and .u64 (m : Int) 127 = ((m % 128 : Nat) : Int) := h1
  have h2' : bits .or .u64 ((m % 128 : Nat) : Int) 128 = ((m % 128 + 128 : Nat) : Int) := h2
  rw [h1', h2']
  omega
theorem vb_u8 (m : Nat) : bits .or .u8 ((m : Int) % 256) 128 = ((m % 128 + 128 : Nat) : Int) := by
  have h2 := or_u8 (m % 256) 128 (by omega) (by decide)
  rw [or128' _ (by omega)] at h2
  have e : ((m : Int) % 256) = ((m % 256 : Nat) : Int) := by omega
  have h2' : bits .or .u8 ((m % 256 : Nat) : Int) 128 = ((m % 256 % 128 + 128 : Nat) : Int) := h2
  rw [e, h2']
  omega
end Go.Proofs.YtpaiideboodaeaaGreatDoor

namespace Go.Proofs.YtpaiideboodaeaaGreatDoor
open Go.RowKit
set_option linter.unusedVariables false
set_option linter.unusedSimpArgs false

theorem vint_len_pow (k : Nat) : ∀ n, n < 128 ^ (k + 1) → (vint n).length ≤ k + 1 := by
  induction k with
  | zero => intro n h; rw [vint_lt (by simpa using h)]; simp
  | succ k ih =>
    intro n h
    by_cases h1 : n < 128
    · rw [vint_lt h1]; simp
    · rw [vint_ge h1]
      have := ih (n / 128) (by rw [Nat.div_lt_iff_lt_mul (by decide)]; rw [Nat.pow_succ] at h; exact h)
      simp; omega
theorem vint_len10 {n : Nat} (h : n < 18446744073709551616) : (vint n).length ≤ 10 := vint_len_pow 9 n (Nat.lt_trans h (by decide))

set_option maxHeartbeats 1000000 in
set_option maxRecDepth 100000 in
theorem rvarint_any (base : Nat) (v : Value) (xs : List Int) (n : Nat) (w : World) (h : Byts base w v xs) (hx : xs.length ≤ 9000000) (hn : n < 18446744073709551616) (hb : base ≤ w.heap.size) :
    Calls Tryz.prog 195 #[v, .int .u64 n] w (VPost base w v (xs ++ vint n)) := by
  have H := Lib.hid h
  have HN := Lib.hid hn
  clear h hn
  go_enter Tryz.func195, Tryz.ntmps195
  go_wp2_with fail
  go_loopw [0, 1] (fun u i wr => ∃ (m : Nat) (ys : List Int), m ≤ n ∧ i = .int .u64 m ∧ Byts base wr u ys ∧ ys ++ vint m = xs ++ vint n ∧ Onto w v u wr) (fun _ i _ => (intOf i).toNat)
  case atStart => exact ⟨n, xs, Nat.le_refl _, rfl, H.out, rfl, Onto.refl _ _⟩
  case round =>
    obtain ⟨m, ys, hm, rfl, hB, he, hO⟩ := hrel
    have hl : ys.length ≤ 9000010 := by
      have h1 := congrArg List.length he
      have h2 := vint_len10 HN.out
      simp at h1
      omega
    have HO := Lib.hid hO
    have HE := Lib.hid he
    have HB := Lib.hid hB
    have hz := hO.1.size
    clear hO he hB
    by_cases hc : 128 ≤ m
    · have HV := Lib.hid (vb_u8 m)
      have HV2 := Lib.hid (vint_ge (n := m) (by omega))
      go_wp2_with (at_builtin; refine wpList_append1 rfl _ _ 22 rfl base Tryz.underlying22 byteInfo rfl (by decide) (v := _) (by rfl) (w0 := _) (cs := #[.int .u8 (bits BinOp.or IntKind.u8 ((m : Int) % 256) 128)]) HB.out (by rfl) rfl (by simp [Value.oneCell']) (by decide) (by omega) (by omega) ?_; intro v1 w1 hv1 hg1 hob1)
      rw [HV.out] at hv1
      have B1 := Lib.hid (Byts.snoc hv1)
      have O1 := Lib.hid (HO.out.trans (onto_ap hg1 hob1))
      clear hv1 hg1 hob1
      go_wp2_with fail
      go_roundw
      case rel => exact ⟨m / 128, ys ++ [((m % 128 + 128 : Nat) : Int)], by omega, by simp, B1.out, by rw [← HE.out, HV2.out]; simp, O1.out⟩
      case measure => simp [intOf]; omega
    · have HV2 := Lib.hid (vint_lt (n := m) (by omega))
      have hd : decide ((128 : Int) ≤ (m : Int)) = false := by simp; omega
      have hd2 : decide (128 ≤ m) = false := by simp; omega
      go_wp2_with (at_builtin; refine wpList_append1 rfl _ _ 22 rfl base Tryz.underlying22 byteInfo rfl (by decide) (v := _) (by rfl) (w0 := _) (cs := #[.int .u8 (m : Int)]) HB.out (by rfl) rfl (by simp [Value.oneCell']) (by decide) (by omega) (by omega) ?_; intro v1 w1 hv1 hg1 hob1)
      have B1 := Lib.hid (Byts.snoc hv1)
      have O1 := Lib.hid (HO.out.trans (onto_ap hg1 hob1))
      clear hv1 hg1 hob1
      go_wp2_with fail
      go_ret
      exact ⟨v1, rfl, by rw [← HE.out, HV2.out]; exact B1.out, O1.out⟩
end Go.Proofs.YtpaiideboodaeaaGreatDoor

