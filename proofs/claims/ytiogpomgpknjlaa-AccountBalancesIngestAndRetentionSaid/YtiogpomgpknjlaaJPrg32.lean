/- Purge of the reference of chapter 32: every line is kept or counted (printed by mk42i.py). Conditions: good events. -/
import Derived.Test.YtiogpomgpknjlaaJExp32
import Derived.Test.YtiogpomgpknjlaaJEv
import Derived.Test.YtiogpomgpknjlaaJBatS
import Derived.Test.YtiogpomgpknjlaaJLwL42
import Derived.Test.YtiogpomgpknjlaaJBase
namespace Go.Proofs.Ytiogpomgpknjlaa
open Go.RowKit
set_option linter.unusedVariables false
set_option linter.unusedSimpArgs false

/-- the state between the rounds of Purge -/
structure PuR (w : World) (es : List Ev) (v : Value) (wr : World) (k : Nat) (kept : List Ev) (B : Option Addr) (us : List Tal) (d g : Nat) : Prop where
  fr : w.grownBy wr none
  ink : Ink (fun b => w.heap.size ≤ b ∧ v.ownBlock ≠ some b) wr 0 g (6 * g) none [] 0 B us d
  own : wr.ownsRow w.heap.size 75 10 v kept.length (kept.flatMap Ev.cells)
  kg : kept.length + g = k
  ke : ∀ e ∈ kept, e ∈ es
  ct : ∀ h, cntE h kept + sumT h us = cntE h (es.take k)
section
variable {w wr w' : World} {es : List Ev} {v : Value} {k : Nat} {kept : List Ev} {B : Option Addr} {us : List Tal} {d g : Nat}
theorem PuR.grown (h : PuR w es v wr k kept B us d g) (hg : wr.grownBy w' none) : PuR w es v w' k kept B us d g :=
  { h with fr := only_trans h.fr hg, ink := h.ink.grown hg (by simp)
           own := h.own.kept hg (by cases v.ownBlock with
             | none => exact .inl rfl
             | some _ => exact .inr (by simp)) }
theorem PuR.tal (h : PuR w es v wr k kept B us d g) {x : Ev} (hx : es[k]? = some x) (s : ByteArray) (hl : 1 ≤ x.lines.length ∧ x.lines.length ≤ 6) (hg : wr.grownBy w' none) {B' : Option Addr} {d' : Nat} (hd : (mrg us [⟨x.host, s, x.lines.length⟩]).length ≤ d') (hdm : d' ≤ maxLen) (hr : Rd (wr.heap.size ≤ ·) w' B' ((mrg us [⟨x.host, s, x.lines.length⟩]).flatMap Tal.cells)) :
    PuR w es v w' (k + 1) kept B' (mrg us [⟨x.host, s, x.lines.length⟩]) d' (g + 1) := by
  have q := h.grown hg
  refine ⟨q.fr, ?_, q.own, by have := h.kg; omega, h.ke, fun h' => ?_⟩
  · have := q.ink.tal ⟨x.host, s, x.lines.length⟩ ⟨by show 1 ≤ (x.lines.length : Int); omega, by show (x.lines.length : Int) ≤ 6; omega⟩ hd hdm (hr.mono (fun b hb _ => ⟨Nat.le_trans h.fr.size hb, fun e => by have := (h.own.lt b e).2; have h0 : wr.heap.size ≤ b := hb; omega⟩))
    exact this.wide (by omega) (by omega) (by omega)
  · obtain ⟨hk, hx2⟩ := List.getElem?_eq_some_iff.1 hx
    rw [sumT_mrg, List.take_succ_eq_append_getElem hk, cntE_app, hx2, ← h.ct h']
    by_cases he : x.host = h' <;> simp [sumT, cntE, he] <;> omega
theorem PuR.keep (h : PuR w es v wr k kept B us d g) {x : Ev} (hx : es[k]? = some x) {v' : Value} (ho : w'.ownsRow w.heap.size 75 10 v' (kept.length + 1) (kept.flatMap Ev.cells ++ x.cells.toArray.toList)) (hg : wr.grownBy w' v.ownBlock) (hob : v'.ownBlock = v.ownBlock ∨ v'.ownBlock = some (wr.heap.size + 1)) :
    PuR w es v' w' (k + 1) (kept ++ [x]) B us d g := by
  refine ⟨only_own h.fr hg h.own (Nat.le_refl _), ?_, by simpa using ho, by have := h.kg; simp; omega, mem_snoc h.ke (List.mem_of_getElem? hx), fun h' => ?_⟩
  · refine ((h.ink.mono (S' := fun b => (w.heap.size ≤ b ∧ v.ownBlock ≠ some b) ∧ b < wr.heap.size) (fun b hb hl => ⟨hb, hl⟩)).grown hg (fun b hb e => hb.1.2 e.symm)).mono (fun b hb _ => ⟨hb.1.1, fun e => ?_⟩)
    rcases hob with h1 | h1
    · exact hb.1.2 (by rw [← h1]; exact e)
    · rw [h1] at e; injection e with e; have := hb.2; omega
  · obtain ⟨hk, hx2⟩ := List.getElem?_eq_some_iff.1 hx
    rw [List.take_succ_eq_append_getElem hk, cntE_app, cntE_app, hx2, ← h.ct h']
    omega
end
def PurgeP (es : List Ev) (w : World) (e : Ending) (w' : World) : Prop :=
  ∃ (A' : Option Addr) (kept : List Ev) (c' : Nat) (B' : Option Addr) (us : List Tal) (d' g : Nat), e = .returned (.tuple #[.slice A' kept.length c', .slice B' us.length d']) ∧ PuR w es (.slice A' kept.length c') w' es.length kept B' us d' g
set_option maxHeartbeats 8000000 in
set_option maxRecDepth 100000 in
theorem purge32_any {S S1 S2 : Nat → Prop} (A : Option Addr) (ps : List PolD) (c : Nat) (B : Option Addr) (hs : List HoldD) (d : Nat) (now : Int) (E : Option Addr) (es : List Ev) (c3 : Nat) (w : World) (hr : Rd S w A (ps.flatMap PolD.cells)) (hl : ps.length ≤ 1000) (hr2 : Rd S1 w B (hs.flatMap HoldD.cells)) (hl2 : hs.length ≤ 1000) (he : Rd S2 w E (es.flatMap Ev.cells)) (hel : es.length ≤ 900) (hev : ∀ e ∈ es, EvC e ∧ e.lines.length ≤ 6 ∧ e.Sub S2 w) :
    Calls Try.prog 29 #[.slice A ps.length c, .slice B hs.length d, .int .i64 now, .slice E es.length c3] w (PurgeP es w) := by
  have HR := Lib.hid hr
  have HR2 := Lib.hid hr2
  have HE := Lib.hid (he.mono (S' := (· < w.heap.size)) (fun b _ hlt => hlt))
  have HEV := Lib.hid hev
  clear hr hr2 he hev
  go_enter Try.func29, Try.ntmps29
  go_wp2_with fail
  go_loopw [10, 11, 12] (fun vo vt vi wr => ∃ (k : Nat) (kept : List Ev) (B' : Option Addr) (us : List Tal) (d' g : Nat), vi = .int .i64 k ∧ k ≤ es.length ∧ vt = .slice B' us.length d' ∧ PuR w es vo wr k kept B' us d' g) (fun _ _ vi _ => es.length - (intOf vi).toNat)
  case atStart => exact ⟨0, [], none, [], 0, 0, rfl, Nat.zero_le _, rfl, ⟨only_refl _ _, ⟨Rd.nil, by simp, by simp, by unfold maxLen; omega, fun _ => rfl, Rd.nil, by simp, by simp, by unfold maxLen; omega, fun _ => ⟨rfl, rfl⟩, List.Pairwise.nil, fun t ht => by simp at ht⟩, World.ownsRow_nil _ _ _ _, rfl, by simp, by simp [cntE, sumT]⟩⟩
  case round =>
    obtain ⟨k, kept, B', us, d', g, rfl, hk, rfl, hP⟩ := hrel
    have P := Lib.hid hP
    clear hP
    by_cases hlt : k < es.length
    · obtain ⟨x, hx⟩ : ∃ x, es[k]? = some x := ⟨_, List.getElem?_eq_getElem hlt⟩
      have hm := HEV.out x (List.mem_of_getElem? hx)
      have her := HE.out.grown P.out.fr (by simp)
      obtain ⟨b, o, hE, -, hbw, -⟩ := her (by rw [flat_len _ 10 Ev.cells_len]; omega)
      rw [hE] at her
      have HER := Lib.hid her
      have HX := Lib.hid hx
      have XG := Lib.hid hm.1
      have x6 := hm.2.1
      have xl := hm.1.l0
      obtain ⟨d0, d1, d2, d3, d4, d5, d6, d7, d8, d9⟩ := Evs.load10 her hlt (List.getElem?_eq_some_iff.1 hx).2
      have i1 : (k : Int) < (es.length : Int) := by omega
      have i2 : (0 : Int) ≤ (k : Int) := by omega
      have KE : Hid (Calls Try.prog 58 #[.slice A ps.length c, .slice B hs.length d, .int .i64 now, .agg #[.int .i64 x.host, .int .i64 x.file, .int .i64 x.beg, .int .i64 x.fin, .slice x.la x.lines.length x.lc, .int .i64 x.time, .int .i64 x.weight, .string x.trace, .string x.stream, .slice x.fa x.fields.length x.fc]] wr (ExpP wr)) := Lib.hid (by
        have h0 := expired32_any A ps c B hs d now x wr ((HR.out.mono (S' := fun _ => True) (fun _ _ _ => trivial)).grown P.out.fr (by simp)) hl ((HR2.out.mono (S' := fun _ => True) (fun _ _ _ => trivial)).grown P.out.fr (by simp)) hl2 ((hm.2.2.mono (S' := fun _ => True) (fun _ _ _ => trivial)).grown P.out.fr (by simp)) (by have := hm.1.fl; omega)
        rw [evAgg] at h0; exact h0)
      have HEE := Lib.hid hE
      clear hx hm her hbw hE
      rw [HEE.out]
      go_wp2_with fail
      refine KE.out.mono ?_
      rintro e w2 ⟨s, gone, rfl, hg2⟩
      have P2 := Lib.hid (P.out.grown hg2)
      have her2 := HER.out.grown hg2 (by simp)
      clear d0 d1 d2 d3 d4 d5 d6 d7 d8 d9 KE hg2
      obtain ⟨d0, d1, d2, d3, d4, d5, d6, d7, d8, d9⟩ := Evs.load10 her2 hlt (List.getElem?_eq_some_iff.1 HX.out).2
      clear her2
      cases gone with
      | true =>
        have KA : Hid (Calls Try.prog 31 #[.slice B' us.length d', .int .i64 x.host, .string s, .int .i64 x.lines.length] w2.drew (TalsPost w2.drew (mrg us [⟨x.host, s, x.lines.length⟩]))) := Lib.hid (add28_any (P2.out.ink.grown (row := none) (only_drew (only_refl _ _)) (by simp)) ⟨x.host, s, x.lines.length⟩ ⟨by show 1 ≤ (x.lines.length : Int); omega, by show (x.lines.length : Int) ≤ 6; omega⟩ (by have := P2.out.kg; omega) (by have := P2.out.kg; omega))
        go_upto_region 8 with fail
        go_still_tail 13, (by kernel_rfl)
        change wpList _ _ _ _ _ w2.drew
        clear d0 d1 d2 d3 d4 d5 d6 d7 d8 d9
        go_wp2_with (go_at_call 31; refine KA.out.mono ?_; rintro e w3 ⟨B3, d3, rfl, hd3, hm3, hr3, hg3⟩; have PN := Lib.hid ((P2.out.grown (only_drew (only_refl _ _))).tal HX.out s ⟨xl, x6⟩ hg3 hd3 hm3 hr3); clear hr3 hg3)
        go_roundw
        case rel => exact ⟨k + 1, kept, B3, mrg us [⟨x.host, s, x.lines.length⟩], d3, g + 1, by go_num, by omega, rfl, PN.out⟩
        case measure => simp [intOf]; omega
      | false =>
        have hkl : kept.length ≤ 1000 := by have := P2.out.kg; omega
        have hsz := P2.out.fr.size
        go_wp2_with (at_builtin; go_must (refine wpList_append1 rfl _ _ 31 rfl w.heap.size Try.underlying31 eventInfo rfl (by decide) (v := u10) (by rfl) (w0 := w2) (cs := x.cells.toArray) P2.out.own (by rfl) rfl (by simpa using Ev.one x) (by decide) (by omega) (by omega) ?_); intro v7 w7 hown7 hg7 hob7)
        have PN := Lib.hid (P2.out.keep HX.out hown7 hg7 hob7)
        clear d0 d1 d2 d3 d4 d5 d6 d7 d8 d9 hown7 hg7 hob7
        go_wp2_with fail
        go_roundw
        case rel => exact ⟨k + 1, kept ++ [x], B', us, d', g, by go_num, by omega, rfl, PN.out⟩
        case measure => simp [intOf]; omega
    · have i1 : ¬ ((k : Int) < (es.length : Int)) := by omega
      obtain rfl : k = es.length := by omega
      obtain ⟨O9, c9, e9, -, -, -, -⟩ := Rd.of_own P.out.own (by decide)
      subst e9
      go_wp2_with fail
      exact bodyPost_ret (v := .tuple #[.slice O9 kept.length c9, .slice B' us.length d']) (by simp [results, Try.results29, go_sem]) rfl ⟨O9, kept, c9, B', us, d', g, rfl, P.out⟩
end Go.Proofs.Ytiogpomgpknjlaa

namespace Go.Proofs.Ytiogpomgpknjlaa
open Go.RowKit
set_option linter.unusedVariables false
set_option linter.unusedSimpArgs false

theorem polInfo : (Try.prog.info? 97).map (fun i => (i.zero, i.size, i.bytes)) = some (some (.agg #[.string ⟨#[]⟩, .string ⟨#[]⟩, .string ⟨#[]⟩, .int .i64 0]), 4, 56) := by kernel_rfl
theorem holdInfo : (Try.prog.info? 100).map (fun i => (i.zero, i.size, i.bytes)) = some (some (.agg #[.string ⟨#[]⟩, .string ⟨#[]⟩, .string ⟨#[]⟩, .int .i64 0, .int .i64 0]), 5, 64) := by kernel_rfl
/-- a growing row while draws are made -/
structure DrM (w : World) (g : Nat) (l : List Int) (k : Nat) (T : TypeId) (z : Nat) (v : Value) (n : Nat) (cs : List Value) (wx : World) : Prop where
  fr : w.grownBy wx (some g)
  gl : g < w.heap.size
  cd : CodesAt wx g l k
  own : wx.ownsRow w.heap.size T z v n cs
section
variable {w wx w' : World} {g k z n : Nat} {l : List Int} {T : TypeId} {v : Value} {cs : List Value}
theorem DrM.nown (h : DrM w g l k T z v n cs wx) : v.ownBlock ≠ some g := fun e => by have := (h.own.lt g e).1; have := h.gl; omega
theorem DrM.next (h : DrM w g l k T z v n cs wx) (hg : wx.grownBy w' (some g)) {k' : Nat} (hC : CodesAt w' g l k') : DrM w g l k' T z v n cs w' :=
  ⟨only_trans h.fr hg, h.gl, hC, h.own.kept hg (.inr h.nown)⟩
theorem DrM.alloc (h : DrM w g l k T z v n cs wx) (o : Obj) : DrM w g l k T z v n cs (wx.alloc o) :=
  ⟨only_alloc h.fr o, h.gl, h.cd.alloc o, h.own.alloc o⟩
theorem DrM.app (h : DrM w g l k T z v n cs wx) {v' : Value} {n' : Nat} {cs' : List Value} (ho : w'.ownsRow w.heap.size T z v' n' cs') (hg : wx.grownBy w' v.ownBlock) : DrM w g l k T z v' n' cs' w' :=
  ⟨only_own h.fr hg h.own (Nat.le_refl _), h.gl, h.cd.grown hg (fun b hb e => by have := (h.own.lt b e.symm).1; have := h.gl; omega), ho⟩
end
def PolDPost (w : World) (g : Nat) (l : List Int) (e : Ending) (w' : World) : Prop :=
  ∃ (A : Option Addr) (c : Nat) (ps : List PolD) (k : Nat), e = .returned (.slice A ps.length c) ∧ ps.length ≤ 3 ∧ ps.length ≤ c ∧ c ≤ maxLen ∧ Rd (w.heap.size ≤ ·) w' A (ps.flatMap PolD.cells) ∧ CodesAt w' g l k ∧ w.grownBy w' (some g)
set_option maxHeartbeats 4000000 in
set_option maxRecDepth 100000 in
theorem policies_some (g : Nat) (l : List Int) (k : Nat) (w : World) (h : CodesAt w g l k) :
    Calls Try.prog 24 #[.pointer (some ⟨g, 0, none⟩)] w (PolDPost w g l) := by
  have hgl := h.lt
  have M : Hid (DrM w g l k 97 4 (.slice none 0 0) 0 [] w) := Lib.hid ⟨only_refl _ _, hgl, h, World.ownsRow_nil _ _ _ _⟩
  clear h
  go_enter Try.func24, Try.ntmps24
  go_wp2_with fail
  refine (next_some g l k 2 _ M.out.cd (by omega) (by omega)).mono ?_
  rintro e w0a ⟨v0, k0a, rfl, hv0, hC0, hg0⟩
  have M0 := Lib.hid (M.out.next hg0 hC0)
  clear hC0 hg0
  go_upto_if 6 with fail
  go_cut [3] (fun v wx => ∃ (ps : List PolD) (k' : Nat), ps.length ≤ 1 ∧ DrM w g l k' 97 4 v ps.length (ps.flatMap PolD.cells) wx)
  case first =>
    by_cases c0 : v0 = 1
    · have cb0 : (v0 == 1) = true := by simp [c0]
      clear c0
      go_wp2_with fail
      refine (next_some g l k0a 4 _ M0.out.cd (by omega) (by omega)).mono ?_
      rintro e wn ⟨j, kn, rfl, hj, hCn, hgn⟩
      have MX := Lib.hid (M0.out.next hgn hCn)
      obtain ⟨a, ha⟩ : ∃ a, IntKind.i64.wrap (j * 86400000) = a := ⟨_, rfl⟩
      clear hCn hgn hj
      go_wp2_with (at_builtin; go_must (refine wpList_append1 rfl _ _ 45 rfl w.heap.size Try.underlying45 polInfo rfl (by decide) (v := (.slice none 0 0)) (by rfl) (w0 := wn) (cs := #[.string ⟨#[119, 97, 114, 110]⟩, .string ⟨#[108, 101, 118, 101, 108]⟩, .string ⟨#[119, 97, 114, 110]⟩, .int .i64 a]) MX.out.own (by rfl) rfl (by simp [Value.oneCell']) (by decide) (by omega) (by have := MX.out.fr.size; omega) ?_); intro v7 w7 hown7 hg7 hob7)
      have MN := Lib.hid (MX.out.app hown7 hg7)
      clear hown7 hg7 hob7
      go_wp2_with fail
      go_meet
      exact ⟨([] : List PolD) ++ [⟨⟨#[119, 97, 114, 110]⟩, ⟨#[108, 101, 118, 101, 108]⟩, ⟨#[119, 97, 114, 110]⟩, a⟩], kn, by simp, by simpa [PolD.cells] using MN.out⟩
    · have cb0 : (v0 == 1) = false := by simp [c0]
      clear c0
      go_wp2_with fail
      go_meet
      exact ⟨([] : List PolD), k0a, by simp, M0.out⟩
  case rest =>
    obtain ⟨ps0, k0b, hp0, hM0⟩ := hcut
    have N0 := Lib.hid hM0
    clear hM0 M M0
    obtain ⟨w0b, rfl⟩ : ∃ x, x = wc := ⟨_, rfl⟩
    go_wp2_with fail
    refine (next_some g l k0b 2 _ N0.out.cd (by omega) (by omega)).mono ?_
    rintro e w1a ⟨v1, k1a, rfl, hv1, hC1, hg1⟩
    have M1 := Lib.hid (N0.out.next hg1 hC1)
    clear hC1 hg1
    go_upto_if 16 with fail
    go_cut [3] (fun v wx => ∃ (ps : List PolD) (k' : Nat), ps.length ≤ 2 ∧ DrM w g l k' 97 4 v ps.length (ps.flatMap PolD.cells) wx)
    case first =>
      by_cases c1 : v1 = 1
      · have cb1 : (v1 == 1) = true := by simp [c1]
        clear c1
        go_wp2_with fail
        refine (next_some g l k1a 50 _ M1.out.cd (by omega) (by omega)).mono ?_
        rintro e wn ⟨j, kn, rfl, hj, hCn, hgn⟩
        have MX := Lib.hid (M1.out.next hgn hCn)
        obtain ⟨a, ha⟩ : ∃ a, IntKind.i64.wrap (1 + j) = a := ⟨_, rfl⟩
        clear hCn hgn hj
        go_wp2_with (at_builtin; go_must (refine wpList_append1 rfl _ _ 45 rfl w.heap.size Try.underlying45 polInfo rfl (by decide) (v := u3) (by rfl) (w0 := wn) (cs := #[.string ⟨#[115, 101, 118, 101, 110]⟩, .string ⟨#[99, 111, 100, 101]⟩, .string ⟨#[55]⟩, .int .i64 a]) MX.out.own (by rfl) rfl (by simp [Value.oneCell']) (by decide) (by omega) (by have := MX.out.fr.size; omega) ?_); intro v7 w7 hown7 hg7 hob7)
        have MN := Lib.hid (MX.out.app hown7 hg7)
        clear hown7 hg7 hob7
        go_wp2_with fail
        go_meet
        exact ⟨ps0 ++ [⟨⟨#[115, 101, 118, 101, 110]⟩, ⟨#[99, 111, 100, 101]⟩, ⟨#[55]⟩, a⟩], kn, by simp; omega, by simpa [PolD.cells] using MN.out⟩
      · have cb1 : (v1 == 1) = false := by simp [c1]
        clear c1
        go_wp2_with fail
        go_meet
        exact ⟨ps0, k1a, by omega, M1.out⟩
    case rest =>
      obtain ⟨ps1, k1b, hp1, hM1⟩ := hcut
      have N1 := Lib.hid hM1
      clear hM1 N0 M1
      obtain ⟨w1b, rfl⟩ : ∃ x, x = wc := ⟨_, rfl⟩
      go_wp2_with fail
      refine (next_some g l k1b 3 _ N1.out.cd (by omega) (by omega)).mono ?_
      rintro e w2a ⟨v2, k2a, rfl, hv2, hC2, hg2⟩
      have M2 := Lib.hid (N1.out.next hg2 hC2)
      clear hC2 hg2
      go_upto_if 26 with fail
      go_cut [3] (fun v wx => ∃ (ps : List PolD) (k' : Nat), ps.length ≤ 3 ∧ DrM w g l k' 97 4 v ps.length (ps.flatMap PolD.cells) wx)
      case first =>
        by_cases c2 : 0 < v2
        · skip
          go_wp2_with fail
          obtain ⟨sb, hsb⟩ : ∃ b, b = w2a.heap.size := ⟨_, rfl⟩
          refine (next_some g l k2a 5 _ (M2.out.cd.alloc _) (by omega) (by omega)).mono ?_
          rintro e wn ⟨j, kn, rfl, hj, hCn, hgn⟩
          have MX := Lib.hid ((M2.out.alloc (.cells #[.int .i64 0, .int .i64 20, .int .i64 86400000, .int .i64 1728000000, .int .i64 253402300799999] 3)).next hgn hCn)
          have hB : Blk wn sb 3 #[.int .i64 0, .int .i64 20, .int .i64 86400000, .int .i64 1728000000, .int .i64 253402300799999] := by rw [hsb]; exact (Blk.new w2a _ _).grown hgn (fun e => by have := M2.out.cd.lt; injection e with e; omega)
          obtain ⟨jn, rfl⟩ := Int.eq_ofNat_of_zero_le hj.1
          have hj5 : jn < 5 := by omega
          obtain ⟨a, ha⟩ : ∃ a : Int, wn.cell? ⟨sb, jn, none⟩ = some (.int .i64 a) := by
            rw [hB.cell jn]
            match jn, hj5 with
            | 0, _ => exact ⟨_, rfl⟩
            | 1, _ => exact ⟨_, rfl⟩
            | 2, _ => exact ⟨_, rfl⟩
            | 3, _ => exact ⟨_, rfl⟩
            | 4, _ => exact ⟨_, rfl⟩
          rw [hsb] at ha
          have i1 : (jn : Int) < 5 := by omega
          have i2 : (0 : Int) ≤ (jn : Int) := by omega
          clear hCn hgn hB hsb hj
          go_wp2_with (at_builtin; go_must (refine wpList_append1 rfl _ _ 45 rfl w.heap.size Try.underlying45 polInfo rfl (by decide) (v := u3) (by rfl) (w0 := wn) (cs := #[.string ⟨#[97, 108, 108]⟩, .string ⟨#[]⟩, .string ⟨#[]⟩, .int .i64 a]) MX.out.own (by rfl) rfl (by simp [Value.oneCell']) (by decide) (by omega) (by have := MX.out.fr.size; omega) ?_); intro v7 w7 hown7 hg7 hob7)
          have MN := Lib.hid (MX.out.app hown7 hg7)
          clear hown7 hg7 hob7
          go_wp2_with fail
          go_meet
          exact ⟨ps1 ++ [⟨⟨#[97, 108, 108]⟩, ⟨#[]⟩, ⟨#[]⟩, a⟩], kn, by simp; omega, by simpa [PolD.cells] using MN.out⟩
        · skip
          go_wp2_with fail
          go_meet
          exact ⟨ps1, k2a, by omega, M2.out⟩
      case rest =>
        obtain ⟨ps2, k2b, hp2, hM2⟩ := hcut
        have N2 := Lib.hid hM2
        clear hM2 N1 M2
        obtain ⟨w2b, rfl⟩ : ∃ x, x = wc := ⟨_, rfl⟩
        obtain ⟨A9, c9, e9, hc9, hm9, -, hr9⟩ := Rd.of_own N2.out.own (by decide)
        subst e9
        have R9 := Lib.hid hr9
        clear hr9
        go_wp2_with fail
        go_ret
        exact ⟨A9, c9, ps2, k2b, rfl, hp2, hc9, hm9, R9.out, N2.out.cd, N2.out.fr⟩

def HoldDPost (w : World) (g : Nat) (l : List Int) (e : Ending) (w' : World) : Prop :=
  ∃ (A : Option Addr) (c : Nat) (ps : List HoldD) (k : Nat), e = .returned (.slice A ps.length c) ∧ ps.length ≤ 2 ∧ ps.length ≤ c ∧ c ≤ maxLen ∧ Rd (w.heap.size ≤ ·) w' A (ps.flatMap HoldD.cells) ∧ CodesAt w' g l k ∧ w.grownBy w' (some g)
set_option maxHeartbeats 4000000 in
set_option maxRecDepth 100000 in
theorem holds_some (g : Nat) (l : List Int) (k : Nat) (w : World) (h : CodesAt w g l k) :
    Calls Try.prog 25 #[.pointer (some ⟨g, 0, none⟩)] w (HoldDPost w g l) := by
  have hgl := h.lt
  have M : Hid (DrM w g l k 100 5 (.slice none 0 0) 0 [] w) := Lib.hid ⟨only_refl _ _, hgl, h, World.ownsRow_nil _ _ _ _⟩
  clear h
  go_enter Try.func25, Try.ntmps25
  go_wp2_with fail
  refine (next_some g l k 3 _ M.out.cd (by omega) (by omega)).mono ?_
  rintro e w0a ⟨v0, k0a, rfl, hv0, hC0, hg0⟩
  have M0 := Lib.hid (M.out.next hg0 hC0)
  clear hC0 hg0
  go_upto_if 7 with fail
  go_cut [3] (fun v wx => ∃ (ps : List HoldD) (k' : Nat), ps.length ≤ 1 ∧ DrM w g l k' 100 5 v ps.length (ps.flatMap HoldD.cells) wx)
  case first =>
    by_cases c0 : v0 = 2
    · have cb0 : (v0 == 2) = true := by simp [c0]
      clear c0
      go_wp2_with fail
      refine (value_some g l k0a _ M0.out.cd).mono ?_
      rintro e wn ⟨sv, kn, rfl, hsv, hCn, hgn⟩
      have MX := Lib.hid (M0.out.next hgn hCn)
      clear hCn hgn hsv
      go_wp2_with (at_builtin; go_must (refine wpList_append1 rfl _ _ 47 rfl w.heap.size Try.underlying47 holdInfo rfl (by decide) (v := (.slice none 0 0)) (by rfl) (w0 := wn) (cs := #[.string ⟨#[99, 97, 115, 101, 49]⟩, .string ⟨#[117, 115, 101, 114]⟩, .string sv, .int .i64 0, .int .i64 253402300799999]) MX.out.own (by rfl) rfl (by simp [Value.oneCell']) (by decide) (by omega) (by have := MX.out.fr.size; omega) ?_); intro v7 w7 hown7 hg7 hob7)
      have MN := Lib.hid (MX.out.app hown7 hg7)
      clear hown7 hg7 hob7
      go_wp2_with fail
      go_meet
      exact ⟨([] : List HoldD) ++ [⟨⟨#[99, 97, 115, 101, 49]⟩, ⟨#[117, 115, 101, 114]⟩, sv, 0, 253402300799999⟩], kn, by simp, by simpa [HoldD.cells] using MN.out⟩
    · have cb0 : (v0 == 2) = false := by simp [c0]
      clear c0
      go_wp2_with fail
      go_meet
      exact ⟨([] : List HoldD), k0a, by simp, M0.out⟩
  case rest =>
    obtain ⟨ps0, k0b, hp0, hM0⟩ := hcut
    have N0 := Lib.hid hM0
    clear hM0 M M0
    obtain ⟨w0b, rfl⟩ : ∃ x, x = wc := ⟨_, rfl⟩
    go_wp2_with fail
    refine (next_some g l k0b 3 _ N0.out.cd (by omega) (by omega)).mono ?_
    rintro e w1a ⟨v1, k1a, rfl, hv1, hC1, hg1⟩
    have M1 := Lib.hid (N0.out.next hg1 hC1)
    clear hC1 hg1
    go_upto_if 16 with fail
    go_cut [3] (fun v wx => ∃ (ps : List HoldD) (k' : Nat), ps.length ≤ 2 ∧ DrM w g l k' 100 5 v ps.length (ps.flatMap HoldD.cells) wx)
    case first =>
      by_cases c1 : v1 = 2
      · have cb1 : (v1 == 2) = true := by simp [c1]
        clear c1
        go_wp2_with fail
        refine (next_some g l k1a 30 _ M1.out.cd (by omega) (by omega)).mono ?_
        rintro e wm ⟨j, km, rfl, hj, hCn, hgn⟩
        have MY := Lib.hid (M1.out.next hgn hCn)
        obtain ⟨a, ha⟩ : ∃ a, IntKind.i64.wrap (j * 86400000) = a := ⟨_, rfl⟩
        clear hCn hgn hj
        go_wp2_with fail
        refine (next_some g l km 10 _ MY.out.cd (by omega) (by omega)).mono ?_
        rintro e wn ⟨j2, kn, rfl, hj2, hCn, hgn⟩
        have MX := Lib.hid (MY.out.next hgn hCn)
        obtain ⟨a2, ha2⟩ : ∃ a, IntKind.i64.wrap (j2 * 86400000) = a := ⟨_, rfl⟩
        obtain ⟨a3, ha3⟩ : ∃ x, IntKind.i64.wrap (a + a2) = x := ⟨_, rfl⟩
        clear hCn hgn hj2
        go_wp2_with (at_builtin; go_must (refine wpList_append1 rfl _ _ 47 rfl w.heap.size Try.underlying47 holdInfo rfl (by decide) (v := u3) (by rfl) (w0 := wn) (cs := #[.string ⟨#[99, 97, 115, 101, 50]⟩, .string ⟨#[]⟩, .string ⟨#[]⟩, .int .i64 a, .int .i64 a3]) MX.out.own (by rfl) rfl (by simp [Value.oneCell']) (by decide) (by omega) (by have := MX.out.fr.size; omega) ?_); intro v7 w7 hown7 hg7 hob7)
        have MN := Lib.hid (MX.out.app hown7 hg7)
        clear hown7 hg7 hob7
        go_wp2_with fail
        go_meet
        exact ⟨ps0 ++ [⟨⟨#[99, 97, 115, 101, 50]⟩, ⟨#[]⟩, ⟨#[]⟩, a, a3⟩], kn, by simp; omega, by simpa [HoldD.cells] using MN.out⟩
      · have cb1 : (v1 == 2) = false := by simp [c1]
        clear c1
        go_wp2_with fail
        go_meet
        exact ⟨ps0, k1a, by omega, M1.out⟩
    case rest =>
      obtain ⟨ps1, k1b, hp1, hM1⟩ := hcut
      have N1 := Lib.hid hM1
      clear hM1 N0 M1
      obtain ⟨w1b, rfl⟩ : ∃ x, x = wc := ⟨_, rfl⟩
      obtain ⟨A9, c9, e9, hc9, hm9, -, hr9⟩ := Rd.of_own N1.out.own (by decide)
      subst e9
      have R9 := Lib.hid hr9
      clear hr9
      go_wp2_with fail
      go_ret
      exact ⟨A9, c9, ps1, k1b, rfl, hp1, hc9, hm9, R9.out, N1.out.cd, N1.out.fr⟩

end Go.Proofs.Ytiogpomgpknjlaa

namespace Go.Proofs.Ytiogpomgpknjlaa
open Go.RowKit
set_option linter.unusedVariables false
set_option linter.unusedSimpArgs false

theorem own_le {w : World} {base base' e size n : Nat} {v : Value} {xs : List Value} (h : w.ownsRow base e size v n xs) (hb : base' ≤ base) : w.ownsRow base' e size v n xs :=
  ⟨h.1, h.2.imp id (fun ⟨g, cap, cur, h1, h2, h3⟩ => ⟨g, cap, cur, h1, Nat.le_trans hb h2, h3⟩)⟩
/-- batches in memory -/
def Bts (Q : Nat → Prop) (w : World) (host : Int) (A : Option Addr) (bs : List BatD) : Prop :=
  Rd Q w A (bs.flatMap BatD.cells) ∧ ∀ b ∈ bs, b.host = host ∧ b.items.length ≤ 3 ∧ Its Q w host b.a b.items
theorem Bts.grown {Q : Nat → Prop} {w w' : World} {host : Int} {A : Option Addr} {bs : List BatD} {row : Option Nat} (h : Bts Q w host A bs) (hg : w.grownBy w' row) (hr : ∀ b, Q b → some b ≠ row) : Bts Q w' host A bs :=
  ⟨h.1.grown hg hr, fun b hb => ⟨(h.2 b hb).1, (h.2 b hb).2.1, (h.2 b hb).2.2.grown hg hr⟩⟩
theorem Bts.mono {Q Q' : Nat → Prop} {w : World} {host : Int} {A : Option Addr} {bs : List BatD} (h : Bts Q w host A bs) (hS : ∀ b, Q b → b < w.heap.size → Q' b) : Bts Q' w host A bs :=
  ⟨h.1.mono hS, fun b hb => ⟨(h.2 b hb).1, (h.2 b hb).2.1, (h.2 b hb).2.2.mono hS⟩⟩
/-- what lies in blocks of Q stays, whatever the row beside it does, and lies in blocks of Q' then -/
def Qn (W0 : World) (sb : Nat) (v : Value) (b : Nat) : Prop := W0.heap.size ≤ b ∧ b ≠ sb ∧ v.ownBlock ≠ some b
/-- the state between the rounds -/
structure LwS (W0 : World) (g sb : Nat) (l : List Int) (Ap : Option Addr) (ps : List PolD) (Ah : Option Addr) (hs : List HoldD) (q : Nat) (wr : World) (v : Value) (live : List Ev) (A : Option Addr) (ms : List MarkD) (c : Nat) (B : Option Addr) (ts : List Tal) (d : Nat) (X : Option Addr) (ex : List Tal) (cx E : Nat) : Prop where
  fr : W0.grownBy wr (some g)
  gl : g < W0.heap.size
  sl : W0.heap.size ≤ sb
  cd : ∃ k, CodesAt wr g l k
  rp : Rd (fun b => W0.heap.size ≤ b ∧ b < sb) wr Ap (ps.flatMap PolD.cells)
  rh : Rd (fun b => W0.heap.size ≤ b ∧ b < sb) wr Ah (hs.flatMap HoldD.cells)
  sk : Blk wr sb 39 #[.slice A ms.length c, .slice B ts.length d]
  ink : Ink (Qn W0 sb v) wr (3 * q) (6 * q) (36 * q) A ms c B ts d
  own : wr.ownsRow (sb + 1) 75 10 v live.length (live.flatMap Ev.cells)
  le : ∀ e ∈ live, EvC e ∧ e.lines.length ≤ 6 ∧ e.Sub (Qn W0 sb v) wr
  rx : Rd (Qn W0 sb v) wr X (ex.flatMap Tal.cells)
  xc : ex.length ≤ cx
  xm : cx ≤ maxLen
  tx : TIn (6 * E) ex
  lx : ex.length ≤ E
  nl : E + live.length ≤ 3 * q
  bal : ∀ h, sumP p2 h ts = cntE h live + sumT h ex
section
variable {W0 wr w' : World} {g sb : Nat} {l : List Int} {Ap : Option Addr} {ps : List PolD} {Ah : Option Addr} {hs : List HoldD} {q : Nat} {v : Value} {live : List Ev} {A : Option Addr} {ms : List MarkD} {c : Nat} {B : Option Addr} {ts : List Tal} {d : Nat} {X : Option Addr} {ex : List Tal} {cx E : Nat}
theorem LwS.quiet (h : LwS W0 g sb l Ap ps Ah hs q wr v live A ms c B ts d X ex cx E) (hg : wr.grownBy w' none) : LwS W0 g sb l Ap ps Ah hs q w' v live A ms c B ts d X ex cx E :=
  { h with fr := only_trans h.fr (only_of_none hg _), cd := by obtain ⟨k, hk⟩ := h.cd; exact ⟨k, hk.grown hg (by simp)⟩, rp := h.rp.grown hg (by simp), rh := h.rh.grown hg (by simp), sk := h.sk.grown hg (by simp), ink := h.ink.grown hg (by simp), own := own_ext h.own hg, le := fun e he => ⟨(h.le e he).1, (h.le e he).2.1, (h.le e he).2.2.grown hg (by simp)⟩, rx := h.rx.grown hg (by simp) }
theorem LwS.next (h : LwS W0 g sb l Ap ps Ah hs q wr v live A ms c B ts d X ex cx E) (hg : wr.grownBy w' (some g)) {k' : Nat} (hc : CodesAt w' g l k') : LwS W0 g sb l Ap ps Ah hs q w' v live A ms c B ts d X ex cx E := by
  have h1 := h.gl
  have h2 := h.sl
  have hne : ∀ b, W0.heap.size ≤ b → some b ≠ some g := fun b hb e => by injection e; omega
  exact { h with fr := only_trans h.fr hg, cd := ⟨k', hc⟩, rp := h.rp.grown hg (fun b hb => hne b hb.1), rh := h.rh.grown hg (fun b hb => hne b hb.1), sk := h.sk.grown hg (hne sb h2), ink := h.ink.grown hg (fun b hb => hne b hb.1), own := own_only h.own hg (by omega), le := fun e he => ⟨(h.le e he).1, (h.le e he).2.1, (h.le e he).2.2.grown hg (fun b hb => hne b hb.1)⟩, rx := h.rx.grown hg (fun b hb => hne b hb.1) }
theorem LwS.new (h : LwS W0 g sb l Ap ps Ah hs q wr v live A ms c B ts d X ex cx E) {b : Nat} (hb : wr.heap.size ≤ b) : Qn W0 sb v b :=
  ⟨Nat.le_trans h.fr.size hb, fun e => by have := h.sk.lt; omega, fun e => by have := (h.own.lt b e).2; omega⟩
theorem LwS.nsb (h : LwS W0 g sb l Ap ps Ah hs q wr v live A ms c B ts d X ex cx E) : v.ownBlock ≠ some sb := fun e => by have := (h.own.lt sb e).1; omega
end
/-- the row beside may grow, the intake may be put anew -/
structure Tr (W0 : World) (sb : Nat) (v v' : Value) (wx wy wz : World) : Prop where
  gy : wx.grownBy wy v.ownBlock
  gz : wy.grownBy wz (some sb)
  ob : ∀ b, v'.ownBlock = some b → v.ownBlock = some b ∨ wx.heap.size ≤ b
section
variable {W0 wx wy wz : World} {sb : Nat} {v v' : Value}
theorem Tr.next (t : Tr W0 sb v v' wx wy wz) {b : Nat} (hb : Qn W0 sb v b ∧ b < wx.heap.size) : Qn W0 sb v' b :=
  ⟨hb.1.1, hb.1.2.1, fun e => by
    rcases t.ob b e with h | h
    · exact hb.1.2.2 h
    · have := hb.2; omega⟩
theorem Tr.y (t : Tr W0 sb v v' wx wy wz) {b : Nat} (hb : Qn W0 sb v b ∧ b < wx.heap.size) : some b ≠ v.ownBlock := fun e => hb.1.2.2 e.symm
theorem Tr.z (t : Tr W0 sb v v' wx wy wz) {b : Nat} (hb : Qn W0 sb v b ∧ b < wx.heap.size) : some b ≠ some sb := fun e => hb.1.2.1 (by injection e)
theorem Tr.rd (t : Tr W0 sb v v' wx wy wz) {A : Option Addr} {xs : List Value} (h : Rd (Qn W0 sb v) wx A xs) : Rd (Qn W0 sb v') wz A xs :=
  (((h.mono (S' := fun b => Qn W0 sb v b ∧ b < wx.heap.size) (fun b hb hl => ⟨hb, hl⟩)).grown t.gy (fun b hb => t.y hb)).grown t.gz (fun b hb => t.z hb)).mono (fun b hb _ => t.next hb)
theorem Tr.sub (t : Tr W0 sb v v' wx wy wz) {e : Ev} (h : e.Sub (Qn W0 sb v) wx) : e.Sub (Qn W0 sb v') wz :=
  (((h.mono (S' := fun b => Qn W0 sb v b ∧ b < wx.heap.size) (fun b hb hl => ⟨hb, hl⟩)).grown t.gy (fun b hb => t.y hb)).grown t.gz (fun b hb => t.z hb)).mono (fun b hb _ => t.next hb)
theorem Tr.bts (t : Tr W0 sb v v' wx wy wz) {host : Int} {A : Option Addr} {bs : List BatD} (h : Bts (Qn W0 sb v) wx host A bs) : Bts (Qn W0 sb v') wz host A bs :=
  (((h.mono (Q' := fun b => Qn W0 sb v b ∧ b < wx.heap.size) (fun b hb hl => ⟨hb, hl⟩)).grown t.gy (fun b hb => t.y hb)).grown t.gz (fun b hb => t.z hb)).mono (fun b hb _ => t.next hb)
theorem Tr.ink (t : Tr W0 sb v v' wx wy wz) {n m T : Nat} {A : Option Addr} {ms : List MarkD} {c : Nat} {B : Option Addr} {ts : List Tal} {d : Nat} (h : Ink (Qn W0 sb v) wx n m T A ms c B ts d) : Ink (Qn W0 sb v') wz n m T A ms c B ts d :=
  { h with rm := t.rd h.rm, rt := t.rd h.rt }
end
section
variable {W0 wr w' : World} {g sb : Nat} {l : List Int} {Ap : Option Addr} {ps : List PolD} {Ah : Option Addr} {hs : List HoldD} {q : Nat} {v : Value} {live : List Ev} {A : Option Addr} {ms : List MarkD} {c : Nat} {B : Option Addr} {ts : List Tal} {d : Nat} {X : Option Addr} {ex : List Tal} {cx E : Nat}
/-- a batch has been applied: the row of live events has grown, the intake is put anew -/
theorem LwS.step {wx wy wz : World} (h : LwS W0 g sb l Ap ps Ah hs q wr v live A ms c B ts d X ex cx E) (hgx : wr.grownBy wx none) {A' : Option Addr} {ms' : List MarkD} {c' : Nat} {B' : Option Addr} {ts' : List Tal} {d' k : Nat} {out : List Ev} {v' : Value}
    (hk : k ≤ 3) (hi : Ink (Qn W0 sb v) wx (3 * q + k) (6 * q + 2 * k) (36 * q + 12 * k) A' ms' c' B' ts' d') (hol : out.length ≤ k) (hoe : ∀ e ∈ out, EvC e ∧ e.lines.length ≤ 6 ∧ e.Sub (Qn W0 sb v) wx) (hsm : ∀ h, sumP p2 h ts' = sumP p2 h ts + cntE h out)
    (t : Tr W0 sb v v' wx wy wz) (ho : wy.ownsRow (sb + 1) 75 10 v' (live.length + out.length) (live.flatMap Ev.cells ++ out.flatMap Ev.cells))
    (hB : Blk wz sb 39 #[.slice A' ms'.length c', .slice B' ts'.length d']) :
    LwS W0 g sb l Ap ps Ah hs (q + 1) wz v' (live ++ out) A' ms' c' B' ts' d' X ex cx E := by
  have k := h.quiet hgx
  have h1 := h.gl
  have h2 := h.sl
  have hv : ∀ b, b ≤ sb → some b ≠ v.ownBlock := fun b hb e => by have := (h.own.lt b e.symm).1; omega
  have hs' : ∀ b, b < sb → some b ≠ some sb := fun b hb e => by injection e; omega
  refine ⟨only_fresh (only_own k.fr t.gy k.own (by omega)) t.gz h2, h1, h2, ?_, (k.rp.grown t.gy (fun b hb => hv b (by omega))).grown t.gz (fun b hb => hs' b hb.2), (k.rh.grown t.gy (fun b hb => hv b (by omega))).grown t.gz (fun b hb => hs' b hb.2), hB, (t.ink hi).wide (by omega) (by omega) (by omega), ?_, ?_, t.rd k.rx, h.xc, h.xm, h.tx, h.lx, by have := h.nl; simp; omega, fun h' => ?_⟩
  · obtain ⟨k', hk'⟩ := k.cd
    exact ⟨k', (hk'.grown t.gy (fun b hb => hv b (by omega))).grown t.gz (fun b hb => hs' b (by omega))⟩
  · have := ho.kept t.gz (.inr (fun e => by have := (ho.lt sb e).1; omega))
    simpa using this
  · intro e he
    rcases List.mem_append.1 he with he | he
    · exact ⟨(k.le e he).1, (k.le e he).2.1, t.sub (k.le e he).2.2⟩
    · exact ⟨(hoe e he).1, (hoe e he).2.1, t.sub (hoe e he).2.2⟩
  · rw [hsm h', cntE_app, h.bal h']
    omega
/-- purged: the row of live events is a new one, the expired lines are put anew -/
theorem LwS.purge {wx wy : World} (h : LwS W0 g sb l Ap ps Ah hs q wr v live A ms c B ts d X ex cx E) {v' : Value} {kept : List Ev} {B' : Option Addr} {us : List Tal} {d' e : Nat} (hP : PuR wr live v' wx live.length kept B' us d' e)
    {X' : Option Addr} {cx' : Nat} (hgy : wx.grownBy wy none) (hx1 : (mrg ex us).length ≤ cx') (hx2 : cx' ≤ maxLen) (hr : Rd (wx.heap.size ≤ ·) wy X' ((mrg ex us).flatMap Tal.cells)) :
    LwS W0 g sb l Ap ps Ah hs q wy v' kept A ms c B ts d X' (mrg ex us) cx' (E + e) := by
  have k := (h.quiet hP.fr).quiet hgy
  have hlt := h.sk.lt
  have hsz := hP.fr.size
  have t : Tr W0 sb v v' wr wr wr := ⟨only_refl _ _, only_refl _ _, fun b hb => .inr (hP.own.lt b hb).1⟩
  have hin := (t.ink h.ink)
  refine { k with ink := (hin.grown hP.fr (by simp)).grown hgy (by simp), own := own_le (own_ext hP.own hgy) (by omega), le := fun x hx => ?_, rx := hr.mono (fun b hb _ => ?_), xc := hx1, xm := hx2, tx := ?_, lx := ?_, nl := ?_, bal := fun h' => ?_ }
  · have hm := h.le x (hP.ke x hx)
    exact ⟨hm.1, hm.2.1, ((t.sub hm.2.2).grown hP.fr (by simp)).grown hgy (by simp)⟩
  · have hb' : wx.heap.size ≤ b := hb
    exact ⟨by have := h.fr.size; omega, by omega, fun e => by have := (hP.own.lt b e).2; omega⟩
  · have := mrg_in h.tx (m := ((6 * e : Nat) : Int)) (vs := us) hP.ink.it (by omega) (by omega)
    intro u hu
    have := this u hu
    omega
  · have := mrg_len ex us
    have := hP.ink.lt
    have := h.lx
    omega
  · have := hP.kg
    have := h.nl
    omega
  · have := hP.ct h'
    rw [List.take_length] at this
    rw [sumT_mrg, h.bal h']
    omega
end
end Go.Proofs.Ytiogpomgpknjlaa

namespace Go.Proofs.Ytiogpomgpknjlaa
open Go.RowKit
set_option linter.unusedVariables false
set_option linter.unusedSimpArgs false

theorem mk_one (z : Value) (hz : z.cells = #[z]) (n : Nat) : madeCells z.cells (n * 1) = Array.replicate n z := by
  rw [hz, Nat.mul_one]
  apply Array.ext
  · simp [madeCells]
  · intro i h1 h2
    simp [madeCells, Nat.mod_one]
theorem mk_any {P : Program} {t e : TypeId} {z : Value} {bytes : Nat} (ht : P.underlying t = some (.slice e)) (hi : (P.info? e).map (fun i => (i.zero, i.size, i.bytes)) = some (some z, 1, bytes)) (hz : z.cells = #[z]) (hb : bytes ≤ 100) (n : Nat) (hn : n ≤ 10000000) (w : World) :
    Sem.run P (Instr.makeSlice t (.int .i64 (n : Int)) (.int .i64 (n : Int))) w = .ok (.slice (some ⟨w.heap.size, 0, none⟩) n n) (w.alloc (.cells (Array.replicate n z) e)) := by
  obtain ⟨i0, hi0, hz0, hz1, hz2⟩ := info_parts hi
  have hbi : (i0.bytes : Int) * (n : Int) ≤ 281474976710656 := by
    have h1 : i0.bytes * n ≤ 100 * 10000000 := Nat.mul_le_mul (by omega) hn
    have h2 : ((i0.bytes * n : Nat) : Int) ≤ 1000000000 := by omega
    rw [Int.natCast_mul] at h2; omega
  have h := run_makeSlice (P := P) w t e i0 z ht hi0 hz0 .i64 .i64 n n (by omega) (Int.le_refl _) (by rw [hz1, Int.toNat_natCast]; omega) hbi (by omega)
  rw [Int.toNat_natCast, hz1, mk_one z hz] at h
  exact h
theorem only_setN {a w : World} {row : Option Nat} (h : a.grownBy w row) {p : Addr} (hp : a.heap.size ≤ p.block) (u : Value) : a.grownBy (w.setCell p u) row :=
  ⟨h.os, h.tape, h.output, by simpa [World.setCell] using h.size, fun i hi hne => (Below.heap_setCell w p u i (by rintro rfl; omega)).trans (h.block i hi hne)⟩
theorem only_setB (w : World) {p : Addr} (u : Value) : w.grownBy (w.setCell p u) (some p.block) :=
  ⟨rfl, rfl, rfl, by simp [World.setCell], fun k _ hne => Below.heap_setCell w p u k (fun e => hne (by rw [e]))⟩
end Go.Proofs.Ytiogpomgpknjlaa
