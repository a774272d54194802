/- match.Holds at a test for a word; the sanity check. No condition. -/
import Derived.Test.YtceebhgbebkafaaGreatDoorPWords
import Derived.Test.YtceebhgbebkafaaGreatDoorText
import Derived.Test.YtceebhgbebkafaaGreatDoorTestD
import Derived.Deep.RegionLaw
import Derived.Deep.DeepMust
namespace Go.Proofs.YtceebhgbebkafaaGreatDoor
open Go.RowKit
set_option linter.unusedVariables false
set_option linter.unusedSimpArgs false

def BoolP (w : World) (b : Bool) (e : Ending) (w' : World) : Prop := e = .returned (.bool b) ∧ w.grownBy w' none
theorem contains_any {S : Nat → Prop} (A : Option Addr) (c : Nat) (zs : List ByteArray) (x : ByteArray) (w : World) (hr : Rd S w A (zs.map .string)) (hn : zs.length ≤ 1000000) :
    Calls Tryz.prog 49 #[.slice A zs.length c, .string x] w fun e w' => e = .returned (.bool (Lib.containsS zs x)) ∧ w' = w := by
  by_cases h0 : zs.length = 0
  · have hz : zs = [] := List.eq_nil_of_length_eq_zero h0
    subst hz
    exact (Tryz.slices_Contains_string_empty A c x w).mono fun e w' h => ⟨by rw [h.1]; rfl, h.2⟩
  · obtain ⟨b, off, rfl, -, -, hc⟩ := hr (by rw [List.length_map]; omega)
    refine (Tryz.slices_Contains_string b off zs.length c zs x w (Nat.le_refl _) (by omega) (fun j hj => ?_)).mono fun e w' h => ⟨by rw [h.1, List.take_length], h.2⟩
    refine hc j _ ?_
    rw [List.getElem?_map, List.getElem?_eq_getElem hj]
    simp [hj]
set_option maxHeartbeats 2000000 in
set_option maxRecDepth 100000 in
theorem holdsW_any {S : Nat → Prop} (e : Ev) (tx : ByteArray) (A : Option Addr) (c : Nat) (zs : List ByteArray) (nm x : ByteArray) (num : Int) (ka : Option Addr) (kn kc : Nat) (w : World) (hr : Rd S w A (zs.map .string)) (hn : zs.length ≤ 1000000) :
    Calls Tryz.prog 33 #[.agg (e.cells ++ [Value.string tx, Value.slice A zs.length c]).toArray, .agg #[.int .i64 1, .string nm, .string x, .int .i64 num, .slice ka kn kc]] w (BoolP w (Lib.containsS zs x)) := by
  have HC : Hid (∀ w', w.grownBy w' none → Calls Tryz.prog 49 #[.slice A zs.length c, .string x] w' fun e w'' => e = .returned (.bool (Lib.containsS zs x)) ∧ w'' = w') := fun w' hg => contains_any A c zs x w' (hr.grown hg (by simp)) hn
  clear hr hn
  obtain ⟨host, file, beg, fin, lines, time, weight, trace, stream, fields, la, lc, fa, fc⟩ := e
  show Calls _ _ #[.agg #[.int .i64 host, .int .i64 file, .int .i64 beg, .int .i64 fin, .slice la lines.length lc, .int .i64 time, .int .i64 weight, .string trace, .string stream, .slice fa fields.length fc, .string tx, .slice A zs.length c], .agg #[.int .i64 1, .string nm, .string x, .int .i64 num, .slice ka kn kc]] w _
  go_enter Tryz.func33, Tryz.ntmps33
  go_wp2_with fail
  refine (HC.out _ (only_alloc (only_alloc (only_refl _ _) _) _)).mono ?_
  rintro e w1 ⟨rfl, rfl⟩
  go_wp2_with fail
  go_ret
  exact ⟨rfl, only_alloc (only_alloc (only_refl _ _) _) _⟩
set_option maxHeartbeats 4000000 in
set_option maxRecDepth 100000 in
theorem holdsWord {S : Nat → Prop} (e : Ev) (nm x : ByteArray) (num : Int) (ka : Option Addr) (kn kc : Nat) (w : World) (hs : e.Sub S w) (hl : e.lines.length ≤ 1000) (ht : ∀ l ∈ e.lines, l.text.size ≤ 100000) (hz : (textOf e.lines).size ≤ 100000) :
    Calls Tryz.prog 11 #[.agg #[.int .i64 1, .string nm, .string x, .int .i64 num, .slice ka kn kc], .agg e.cells.toArray] w (fun en w' => ∃ b, BoolP w b en w' ∧ (b = true ↔ x ∈ rawW (bts (textOf e.lines)))) := by
  have HT : Hid (∀ w', w.grownBy w' none → Calls Tryz.prog 31 #[.agg e.cells.toArray] w' (TextP w' (textOf e.lines))) := fun w' hg => text_any e w' (hs.grown hg (by simp)) hl ht
  have HWD : Hid (∀ w', Calls Tryz.prog 32 #[.string (textOf e.lines)] w' (DistPost w' (rawW (bts (textOf e.lines))))) := fun w' => words_any _ w' hz
  have HLN : Hid ((rawW (bts (textOf e.lines))).length ≤ 1000000) := Lib.hid (by have := rawW_len (bts (textOf e.lines)); rw [bts_length] at this; omega)
  obtain ⟨tx, htx⟩ : ∃ tx, tx = textOf e.lines := ⟨_, rfl⟩
  rw [← htx] at HT HWD HLN ⊢
  clear hs hl ht hz htx
  obtain ⟨host, file, beg, fin, lines, time, weight, trace, stream, fields, la, lc, fa, fc⟩ := e
  show Calls _ _ #[.agg #[.int .i64 1, .string nm, .string x, .int .i64 num, .slice ka kn kc], .agg #[.int .i64 host, .int .i64 file, .int .i64 beg, .int .i64 fin, .slice la lines.length lc, .int .i64 time, .int .i64 weight, .string trace, .string stream, .slice fa fields.length fc]] w _
  go_enter Tryz.func11, Tryz.ntmps11
  go_upto_region 2 with (go_at_call 31; refine (HT.out _ (only_alloc (only_alloc (only_refl _ _) _) _)).mono ?_; rintro e w1 ⟨rfl, hg1⟩)
  have hB0 := (((Blk.new w 26 #[.int .i64 1, .string nm, .string x, .int .i64 num, .slice ka kn kc]).alloc (.cells #[.int .i64 host, .int .i64 file, .int .i64 beg, .int .i64 fin, .slice la lines.length lc, .int .i64 time, .int .i64 weight, .string trace, .string stream, .slice fa fields.length fc] 35)).grown hg1 (by simp))
  have hB1 : Blk w1 (w.heap.size + 1) 35 #[.int .i64 host, .int .i64 file, .int .i64 beg, .int .i64 fin, .slice la lines.length lc, .int .i64 time, .int .i64 weight, .string trace, .string stream, .slice fa fields.length fc] := by simpa using ((Blk.new (w.alloc (.cells #[.int .i64 1, .string nm, .string x, .int .i64 num, .slice ka kn kc] 26)) 35 #[.int .i64 host, .int .i64 file, .int .i64 beg, .int .i64 fin, .slice la lines.length lc, .int .i64 time, .int .i64 weight, .string trace, .string stream, .slice fa fields.length fc]).grown hg1 (by simp))
  have B0 := Lib.hid hB0
  have B1 := Lib.hid hB1
  have G1 : Hid (w.grownBy w1 none) := only_trans (only_alloc (only_alloc (only_refl _ _) _) _) hg1
  have a0 := hB0.cell 0; have a1 := hB0.cell 1; have a2 := hB0.cell 2; have a3 := hB0.cell 3; have a4 := hB0.cell 4
  have b0 := hB1.cell 0; have b1 := hB1.cell 1; have b2 := hB1.cell 2; have b3 := hB1.cell 3; have b4 := hB1.cell 4; have b5 := hB1.cell 5; have b6 := hB1.cell 6; have b7 := hB1.cell 7; have b8 := hB1.cell 8; have b9 := hB1.cell 9
  simp at a0 a1 a2 a3 a4 b0 b1 b2 b3 b4 b5 b6 b7 b8 b9
  clear hg1 hB0 hB1 HT
  go_region_law (first
    | (have htok := hgk; go_simp; go_at_call 33; refine (holdsW_any ⟨host, file, beg, fin, lines, time, weight, trace, stream, fields, la, lc, fa, fc⟩ tx A c ds nm x num ka kn kc _ HRD.out HLD.out).mono ?_; rintro e w3 ⟨rfl, hg3⟩)
    | (go_simp; go_at_call 32; refine (HWD.out _).mono ?_; rintro e w2 ⟨A, c, ds, rfl, hdc, hcm, hsrt, hmem, hlen, hrd, hg2⟩; have hgk : True := trivial; have HRD := Lib.hid hrd; have HLD : Hid (ds.length ≤ 1000000) := Lib.hid (by have := HLN.out; omega); have HMEM := Lib.hid hmem; have hB02 := B0.out.drew.grown hg2 (by simp); have hB12 := B1.out.drew.grown hg2 (by simp); have G2 : Hid (w.grownBy w2 none) := only_trans (only_drew G1.out) hg2; have p0 := hB02.cell 0; have p1 := hB02.cell 1; have p2 := hB02.cell 2; have p3 := hB02.cell 3; have p4 := hB02.cell 4; have q0 := hB12.cell 0; have q1 := hB12.cell 1; have q2 := hB12.cell 2; have q3 := hB12.cell 3; have q4 := hB12.cell 4; have q5 := hB12.cell 5; have q6 := hB12.cell 6; have q7 := hB12.cell 7; have q8 := hB12.cell 8; have q9 := hB12.cell 9; simp at p0 p1 p2 p3 p4 q0 q1 q2 q3 q4 q5 q6 q7 q8 q9; clear hg2 hB02 hB12 hrd hmem hsrt hcm hdc hlen))
  all_goals
    go_wp2_with fail
    exact bodyPost_ret (v := .bool (Lib.containsS ds x)) (by simp [results, Tryz.results11, go_sem]) rfl ⟨_, ⟨rfl, only_trans G2.out hg3⟩, (Lib.containsS_iff ds x).trans (HMEM.out x)⟩
end Go.Proofs.YtceebhgbebkafaaGreatDoor
namespace Go.Proofs.YtceebhgbebkafaaGreatDoor
open Go.RowKit
set_option linter.unusedVariables false
set_option linter.unusedSimpArgs false

def evA (b : Nat) : Ev := ⟨0, 0, 0, 0, [⟨0, 0, ⟨#[97, 32, 98]⟩⟩], 0, 0, ⟨#[]⟩, ⟨#[]⟩, [], some ⟨b, 0, none⟩, 1, none, 0⟩
theorem textA : textOf [⟨0, 0, ⟨#[97, 32, 98]⟩⟩] = ⟨#[97, 32, 98]⟩ := by kernel_rfl
theorem wordsA : rawW (bts ⟨#[97, 32, 98]⟩) = [⟨#[97]⟩, ⟨#[98]⟩] := by kernel_rfl
theorem evA_sub {w : World} {b : Nat} (h : Blk w b 55 #[.int .i64 0, .int .i64 0, .string ⟨#[97, 32, 98]⟩]) : (evA b).Sub (fun _ => True) w := by
  refine ⟨fun _ => ⟨b, 0, rfl, trivial, h.lt, fun j u hu => ?_⟩, fun hn => absurd hn (by simp [evA]), by simp [evA], by show 1 ≤ maxLen; unfold maxLen; omega, by simp [evA], by simp [evA]⟩
  rw [Nat.zero_add, h.cell j]
  simpa [evA, LineD.cells] using hu
theorem holdsA (b : Nat) (x : ByteArray) (v : Bool) (hx : v = true ↔ x ∈ [(⟨#[97]⟩ : ByteArray), ⟨#[98]⟩]) (w : World) (h : Blk w b 55 #[.int .i64 0, .int .i64 0, .string ⟨#[97, 32, 98]⟩]) :
    Calls Tryz.prog 11 #[.agg #[.int .i64 1, .string ⟨#[]⟩, .string x, .int .i64 0, .slice none 0 0], .agg #[.int .i64 0, .int .i64 0, .int .i64 0, .int .i64 0, .slice (some ⟨b, 0, none⟩) 1 1, .int .i64 0, .int .i64 0, .string ⟨#[]⟩, .string ⟨#[]⟩, .slice none 0 0]] w (BoolP w v) := by
  refine (holdsWord (evA b) ⟨#[]⟩ x 0 none 0 0 w (evA_sub h) (by simp [evA]) (fun l hl => by obtain rfl : l = ⟨0, 0, ⟨#[97, 32, 98]⟩⟩ := (by simpa [evA] using hl); exact (by decide : 3 ≤ 100000)) (by show (textOf [⟨0, 0, ⟨#[97, 32, 98]⟩⟩]).size ≤ 100000; rw [textA]; show 3 ≤ 100000; omega)).mono ?_
  rintro e w' ⟨c, hc, hm⟩
  have hm : c = true ↔ x ∈ rawW (bts (textOf [⟨0, 0, ⟨#[97, 32, 98]⟩⟩])) := hm
  rw [textA, wordsA] at hm
  have hcv : c = true ↔ v = true := hm.trans hx.symm
  have : c = v := by cases c <;> cases v <;> simp_all
  rw [← this]
  exact hc
set_option maxHeartbeats 2000000 in
theorem awake_any (w : World) : Calls Tryz.prog 9 #[] w (BoolP w true) := by
  go_enter Tryz.func9, Tryz.ntmps9
  go_wp2_with fail
  have hB := (Blk.new w 55 #[.int .i64 0, .int .i64 0, .string ⟨#[97, 32, 98]⟩]).alloc (.cells #[.int .i64 0, .int .i64 0, .int .i64 0, .int .i64 0, .slice (some ⟨w.heap.size, 0, none⟩) 1 1, .int .i64 0, .int .i64 0, .string ⟨#[]⟩, .string ⟨#[]⟩, .slice none 0 0] 35)
  refine (holdsA w.heap.size ⟨#[98]⟩ true (by simp) _ hB).mono ?_
  rintro e w1 ⟨rfl, hg1⟩
  have hE : Blk w1 (w.heap.size + 1) 35 #[.int .i64 0, .int .i64 0, .int .i64 0, .int .i64 0, .slice (some ⟨w.heap.size, 0, none⟩) 1 1, .int .i64 0, .int .i64 0, .string ⟨#[]⟩, .string ⟨#[]⟩, .slice none 0 0] := by simpa using (Blk.new (w.alloc (.cells #[.int .i64 0, .int .i64 0, .string ⟨#[97, 32, 98]⟩] 55)) 35 _).grown hg1 (by simp)
  have HB := Lib.hid (hB.grown hg1 (by simp))
  have G1 : Hid (w.grownBy w1 none) := only_trans (only_alloc (only_alloc (only_refl _ _) _) _) hg1
  have b0 := hE.cell 0; have b1 := hE.cell 1; have b2 := hE.cell 2; have b3 := hE.cell 3; have b4 := hE.cell 4; have b5 := hE.cell 5; have b6 := hE.cell 6; have b7 := hE.cell 7; have b8 := hE.cell 8; have b9 := hE.cell 9
  simp at b0 b1 b2 b3 b4 b5 b6 b7 b8 b9
  clear hg1 hB hE
  go_wp2_with fail
  refine (holdsA w.heap.size ⟨#[99]⟩ false (by simp) _ HB.out).mono ?_
  rintro e w2 ⟨rfl, hg2⟩
  have G2 := Lib.hid (only_trans G1.out hg2)
  clear hg2
  go_wp2_with fail
  go_ret
  exact ⟨rfl, G2.out⟩
end Go.Proofs.YtceebhgbebkafaaGreatDoor
