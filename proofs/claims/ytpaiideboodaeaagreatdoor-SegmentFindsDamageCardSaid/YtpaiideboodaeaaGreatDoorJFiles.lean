/- The draw of the items of some files. No condition. -/
import Derived.Test.YtpaiideboodaeaaGreatDoorJItem
import Derived.Test.YtpaiideboodaeaaGreatDoorJInsert
import Derived.Test.YtpaiideboodaeaaGreatDoorJFlat
namespace Go.Proofs.YtpaiideboodaeaaGreatDoor
open Go.RowKit
set_option linter.unusedVariables false
set_option linter.unusedSimpArgs false

theorem itemInfo : (Tryz.prog.info? 102).map (fun i => (i.zero, i.size, i.bytes)) = some (some (.agg zeroIt), 11, 144) := by kernel_rfl
theorem itemsInfo : (Tryz.prog.info? 100).map (fun i => (i.zero, i.size, i.bytes)) = some (some (.slice none 0 0), 1, 24) := by kernel_rfl
theorem It.one (e : It) : ∀ u ∈ e.cells, u.oneCell' = true := by simp [It.cells, Ev.cells, Value.oneCell']
/-- items one behind the other -/
def ItChain (host file : Int) : Int → List It → Int → Prop
  | a, [], b => a = b
  | a, x :: xs, b => ItOk host file a x ∧ ItChain host file x.ev.fin xs b
theorem ItChain.snoc {host file : Int} {xs : List It} : ∀ {a b : Int} (h : ItChain host file a xs b) (x : It), ItOk host file b x → ItChain host file a (xs ++ [x]) x.ev.fin := by
  induction xs with
  | nil => intro a b h x hx; simp only [ItChain] at h; subst h; exact ⟨hx, rfl⟩
  | cons y ys ih => intro a b h x hx; exact ⟨h.1, ih h.2 x hx⟩
theorem ItChain.le {host file : Int} {xs : List It} : ∀ {a b : Int} (h : ItChain host file a xs b), a + xs.length ≤ b ∧ b ≤ a + 180 * xs.length := by
  induction xs with
  | nil => intro a b h; simp only [ItChain] at h; subst h; simp
  | cons y ys ih =>
    intro a b h
    obtain ⟨⟨-, -, h1, h2, h3, h4, -⟩, h6⟩ := h
    have := ih h6
    have := h2.le
    simp; omega
/-- a file: its items and where they lie -/
structure Fl where
  items : List It
  a : Option Addr
  c : Nat
def Fl.cell (f : Fl) : Value := .slice f.a f.items.length f.c
def Fl.Ok (S : Nat → Prop) (w : World) (host file most : Int) (f : Fl) : Prop :=
  Rd S w f.a (f.items.flatMap It.cells) ∧ f.items.length ≤ f.c ∧ f.c ≤ maxLen ∧ (f.items.length : Int) ≤ most ∧ (∃ b, ItChain host file 0 f.items b) ∧ ∀ x ∈ f.items, x.ev.Sub S w
theorem Fl.Ok.grown {S : Nat → Prop} {w w' : World} {host file most : Int} {f : Fl} {row : Option Nat} (h : f.Ok S w host file most) (hg : w.grownBy w' row) (hr : ∀ b, S b → some b ≠ row) : f.Ok S w' host file most :=
  ⟨h.1.grown hg hr, h.2.1, h.2.2.1, h.2.2.2.1, h.2.2.2.2.1, fun x hx => (h.2.2.2.2.2 x hx).grown hg hr⟩
theorem Fl.Ok.mono {S S' : Nat → Prop} {w : World} {host file most : Int} {f : Fl} (h : f.Ok S w host file most) (hS : ∀ b, S b → b < w.heap.size → S' b) : f.Ok S' w host file most :=
  ⟨h.1.mono hS, h.2.1, h.2.2.1, h.2.2.2.1, h.2.2.2.2.1, fun x hx => (h.2.2.2.2.2 x hx).mono hS⟩
/-- the files so far: number i is the file 5 + i -/
def FlsOk (S : Nat → Prop) (w : World) (host most : Int) (fs : List Fl) : Prop := ∀ (i : Nat) (f : Fl), fs[i]? = some f → f.Ok S w host (5 + i) most
theorem FlsOk.grown {S : Nat → Prop} {w w' : World} {host most : Int} {fs : List Fl} {row : Option Nat} (h : FlsOk S w host most fs) (hg : w.grownBy w' row) (hr : ∀ b, S b → some b ≠ row) : FlsOk S w' host most fs := fun i f hf => (h i f hf).grown hg hr
theorem FlsOk.mono {S S' : Nat → Prop} {w : World} {host most : Int} {fs : List Fl} (h : FlsOk S w host most fs) (hS : ∀ b, S b → b < w.heap.size → S' b) : FlsOk S' w host most fs := fun i f hf => (h i f hf).mono hS
theorem FlsOk.snoc {S : Nat → Prop} {w : World} {host most : Int} {fs : List Fl} (h : FlsOk S w host most fs) {f : Fl} (hf : f.Ok S w host (5 + fs.length) most) : FlsOk S w host most (fs ++ [f]) := by
  intro i y hy
  rcases Nat.lt_or_ge i fs.length with hi | hi
  · rw [List.getElem?_append_left hi] at hy; exact h i y hy
  · rw [List.getElem?_append_right hi] at hy
    rcases Nat.eq_or_lt_of_le hi with e | e
    · subst e; simp at hy; subst hy; exact hf
    · rw [List.getElem?_eq_none (by simp; omega)] at hy; cases hy
/-- a block that is not the row's own -/
def Apart (base : Nat) (v : Value) (b : Nat) : Prop := base ≤ b ∧ v.ownBlock ≠ some b
def FilesPost (w : World) (g : Nat) (l : List Int) (host most : Int) (e : Ending) (w' : World) : Prop :=
  ∃ (A : Option Addr) (c : Nat) (fs : List Fl) (k : Nat), e = .returned (.slice A fs.length c) ∧ (1 ≤ fs.length ∧ fs.length ≤ 3) ∧ fs.length ≤ c ∧ c ≤ maxLen ∧ Rd (w.heap.size ≤ ·) w' A (fs.map Fl.cell) ∧ FlsOk (w.heap.size ≤ ·) w' host most fs ∧ CodesAt w' g l k ∧ w.grownBy w' (some g)
/-- the head of a round -/
def FRel (w : World) (g : Nat) (l : List Int) (host most : Int) (f : Nat) (v : Value) (wr : World) (fs : List Fl) (k : Nat) : Prop :=
  f ≤ 3 ∧ fs.length = f ∧ wr.ownsRow w.heap.size 100 1 v f (fs.map Fl.cell) ∧ FlsOk (Apart w.heap.size v) wr host most fs ∧ CodesAt wr g l k ∧ w.grownBy wr (some g)
def GRel (w0 : World) (g : Nat) (l : List Int) (host file most : Int) (a m : Int) (v : Value) (wr : World) (xs : List It) (k : Nat) : Prop :=
  wr.ownsRow w0.heap.size 102 11 v xs.length (xs.flatMap It.cells) ∧ ItChain host file 0 xs a ∧ 0 ≤ m ∧ (xs.length : Int) + m ≤ most ∧ (∀ x ∈ xs, x.ev.Sub (Apart w0.heap.size v) wr) ∧ CodesAt wr g l k ∧ w0.grownBy wr (some g)
theorem own_neF {w : World} {base e size n : Nat} {v : Value} {xs : List Value} (h : w.ownsRow base e size v n xs) {b : Nat} (hb : w.heap.size ≤ b) : v.ownBlock ≠ some b := fun e => by have := (h.lt b e).2; omega

set_option maxHeartbeats 4000000 in
set_option maxRecDepth 100000 in
theorem files_some (g : Nat) (l : List Int) (k : Nat) (host most : Int) (w : World) (h : CodesAt w g l k) (hm : 0 ≤ most ∧ most ≤ 1000) :
    Calls Tryz.prog 46 #[.pointer (some ⟨g, 0, none⟩), .int .i64 host, .int .i64 most] w (FilesPost w g l host most) := by
  have hlt0 := h.lt
  have HC := Lib.hid h
  clear h
  go_enter Tryz.func46, Tryz.ntmps46
  go_wp2_with fail
  go_loopw [7, 8] (fun v i wr => ∃ (f : Nat) (fs : List Fl) (k : Nat), i = .int .i64 f ∧ FRel w g l host most f v wr fs k) (fun _ i _ => 4 - (intOf i).toNat)
  case atStart => exact ⟨0, [], k, rfl, by omega, rfl, World.ownsRow_nil _ _ _ _, (fun i f hf => by simp at hf), HC.out, only_refl _ _⟩
  case round =>
    obtain ⟨f, fs, k1, rfl, hf3, hfl, hown, hfo, hC, hG⟩ := hrel
    obtain ⟨A, c, rfl, hc, hcm, -, hrd⟩ := Rd.of_own hown (by decide)
    have HFL := Lib.hid hfl
    have HO := Lib.hid hown
    have HF := Lib.hid hfo
    have G1 := Lib.hid hG
    have HRD := Lib.hid hrd
    have hsz1 := hG.size
    clear hfl hown hfo hG hrd HC
    unfold maxLen at hcm
    go_wp2_with fail
    refine (next_some g l k1 3 _ hC (by omega) (by omega)).mono ?_
    rintro e w2 ⟨v2, k2, rfl, hv2, h2, hg2⟩
    have O2 : Hid (w2.ownsRow w.heap.size 100 1 (.slice A f c) f (fs.map Fl.cell)) := own_only HO.out hg2 hlt0
    have F2 : Hid (FlsOk (Apart w.heap.size (.slice A f c)) w2 host most fs) := HF.out.grown hg2 (fun b hb => by have := hb.1; intro e; injection e; omega)
    have G2 : Hid (w.grownBy w2 (some g)) := only_trans G1.out hg2
    have hsz2 := hg2.size
    clear hC hg2 HF G1
    by_cases hle : (f : Int) ≤ v2
    · have hb : decide ((f : Int) ≤ v2) = true := by simp; omega
      go_wp2_with fail
      refine (next_some g l k2 (most + 1) _ h2 (by omega) (by omega)).mono ?_
      rintro e w3 ⟨v3, k3, rfl, hv3, h3, hg3⟩
      have O3 : Hid (w3.ownsRow w.heap.size 100 1 (.slice A f c) f (fs.map Fl.cell)) := own_only O2.out hg3 hlt0
      have F3 : Hid (FlsOk (Apart w.heap.size (.slice A f c)) w3 host most fs) := F2.out.grown hg3 (fun b hb => by have := hb.1; intro e; injection e; omega)
      have G3 : Hid (w.grownBy w3 (some g)) := only_trans G2.out hg3
      have hsz3 := hg3.size
      clear h2 hg3 O2 F2 G2 HO HRD
      have hlt3 := h3.lt
      go_wp2_with fail
      obtain ⟨wo, rfl⟩ : ∃ wo : World, wo = wr := ⟨_, rfl⟩
      go_loopw [9, 10, 11] (fun v a i wr => ∃ (a' m : Int) (xs : List It) (k : Nat), a = .int .i64 a' ∧ i = .int .i64 m ∧ GRel w3 g l host (5 + f) most a' m v wr xs k) (fun _ _ i _ => (intOf i).toNat)
      case atStart => exact ⟨0, v3, [], k3, rfl, rfl, World.ownsRow_nil _ _ _ _, rfl, hv3.1, by simp; omega, by simp, h3, only_refl _ _⟩
      case round =>
        obtain ⟨a, m, xs, k4, rfl, rfl, hown4, hch, hm0, hxm, hsub, hC4, hG4⟩ := hrel
        have hle4 := hch.le
        obtain ⟨A4, c4, rfl, hc4, hcm4, -, hrd4⟩ := Rd.of_own hown4 (by decide)
        have CH := Lib.hid hch
        have SB := Lib.hid hsub
        have G4 := Lib.hid hG4
        have O4 := Lib.hid hown4
        have hsz4 := hG4.size
        have RD4 := Lib.hid hrd4
        clear hch hsub hG4 hown4 hrd4 h3
        unfold maxLen at hcm4
        by_cases hmp : 0 < m
        · go_wp2_with fail
          refine (item_some g l k4 host (5 + f) a _ hC4 (by omega)).mono ?_
          rintro e w5 ⟨x, k5, rfl, hx, hxs, h5, hg5⟩
          have hcx : x.cells.toArray = #[.string x.rule, .int .i64 x.ev.host, .int .i64 x.ev.file, .int .i64 x.ev.beg, .int .i64 x.ev.fin, .slice x.ev.la x.ev.lines.length x.ev.lc, .int .i64 x.ev.time, .int .i64 x.ev.weight, .string x.ev.trace, .string x.ev.stream, .slice x.ev.fa x.ev.fields.length x.ev.fc] := rfl
          rw [hcx]
          clear hcx
          have O5 : Hid (w5.ownsRow w3.heap.size 102 11 (.slice A4 xs.length c4) xs.length (xs.flatMap It.cells)) := own_only O4.out hg5 (by omega)
          have S5 : Hid (∀ y ∈ xs, y.ev.Sub (Apart w3.heap.size (.slice A4 xs.length c4)) w5) := fun y hy => (SB.out y hy).grown hg5 (fun b hb => by have := hb.1; intro e; injection e; omega)
          have SX : Hid (x.ev.Sub (Apart w3.heap.size (.slice A4 xs.length c4)) w5) := hxs.mono (fun b hb _ => ⟨by omega, own_neF O4.out hb⟩)
          have G5 : Hid (w3.grownBy w5 (some g)) := only_trans G4.out hg5
          have HX := Lib.hid hx
          have hsz5 := hg5.size
          have hlt5 := h5.lt
          clear hxs hg5 O4 SB G4 hx hC4
          go_wp2_with (at_builtin; go_must (refine wpList_append1h rfl _ _ 100 rfl w3.heap.size Tryz.underlying100 itemInfo rfl (by decide) (v := _) (by rfl) (w0 := _) (cs := x.cells.toArray) (O5.out.alloc _) (w5.heap.size + 1) (by simp) (by rfl) rfl (by simpa using It.one x) (by decide) (by omega) (by omega) ?_); intro v6 w6 hown6 hg6 hob6; obtain ⟨A6, c6, rfl, hc6, hm6, -, -⟩ := Rd.of_own hown6 (by decide); have hB6 := (Blk.new w5 102 x.cells.toArray).grown hg6 (fun e => own_neF O5.out (Nat.le_refl _) e.symm); have c64 := hB6.cell 4; simp [It.cells, Ev.cells] at c64)
          have G6 : Hid (w3.grownBy w6 (some g)) := only_own (only_alloc G5.out _) hg6 (O5.out.alloc _) (Nat.le_refl _)
          have hown7 : w6.ownsRow w3.heap.size 102 11 (.slice A6 (xs.length + 1) c6) (xs ++ [x]).length ((xs ++ [x]).flatMap It.cells) := by simpa using hown6
          have hap : ∀ b, Apart w3.heap.size (.slice A4 xs.length c4) b → b < w5.heap.size → Apart w3.heap.size (.slice A6 (xs.length + 1) c6) b := fun b hb hlt => ⟨hb.1, fun e => by
            rcases hob6 with h | h
            · exact hb.2 (h.symm.trans e)
            · rw [h] at e; injection e with e; omega⟩
          have S7 : ∀ y ∈ xs ++ [x], y.ev.Sub (Apart w3.heap.size (.slice A6 (xs.length + 1) c6)) w6 := by
            intro y hy
            have h0 : y.ev.Sub (Apart w3.heap.size (.slice A4 xs.length c4)) w5 := by
              rcases List.mem_append.1 hy with hy | hy
              · exact S5.out y hy
              · rw [List.mem_singleton.1 hy]; exact SX.out
            exact (((h0.mono (S' := fun b => Apart w3.heap.size (.slice A4 xs.length c4) b ∧ b < w5.heap.size) (fun b hb hlt => ⟨hb, hlt⟩)).grown (World.grownBy_alloc w5 _ none) (by simp)).grown hg6 (fun b hb e => hb.1.2 e.symm)).mono (fun b hb _ => hap b hb.1 hb.2)
          have h7 := (h5.alloc (.cells x.cells.toArray 102)).grown hg6 (fun b hb e => by have := (O5.out.lt b e.symm).1; omega)
          have S7' := Lib.hid S7
          clear hown6 hg6 hob6 hap S7 hB6
          go_roundw
          case rel => exact ⟨x.ev.fin, m - 1, xs ++ [x], k5, rfl, rfl, hown7, CH.out.snoc x HX.out, by omega, by simp; omega, S7'.out, h7, G6.out⟩
          case measure => simp [intOf]; omega
        · obtain rfl : m = 0 := by omega
          clear hmp
          have O6 : Hid (wr.ownsRow w.heap.size 100 1 (.slice A f c) f (fs.map Fl.cell)) := own_only O3.out G4.out hlt0
          have F6 : Hid (FlsOk (Apart w.heap.size (.slice A f c)) wr host most fs) := F3.out.grown G4.out (fun b hb => by have := hb.1; intro e; injection e; omega)
          have G6 : Hid (w.grownBy wr (some g)) := only_trans G3.out G4.out
          have hne3 := O3.out
          have FX : Hid (Fl.Ok (Apart w.heap.size (.slice A f c)) wr host (5 + f) most ⟨xs, A4, c4⟩) := ⟨RD4.out.mono (fun b hb _ => ⟨by omega, own_neF O3.out hb⟩), hc4, by unfold maxLen; omega, by simp only []; omega, ⟨a, CH.out⟩, fun x hx => (SB.out x hx).mono (fun b hb _ => ⟨by have := hb.1; omega, own_neF O3.out hb.1⟩)⟩
          clear O3 F3 G3 CH SB G4 O4 RD4 hne3
          have hlt6 := hC4.lt
          go_wp2_with (at_builtin; refine wpList_append1 rfl _ _ 98 rfl w.heap.size Tryz.underlying98 itemsInfo rfl (by decide) (v := _) (by rfl) (w0 := _) (cs := #[.slice A4 xs.length c4]) O6.out (by rfl) rfl (by simp [Value.oneCell']) (by decide) (by omega) (by omega) ?_; intro v7 w7 hown7 hg7 hob7; obtain ⟨A7, c7, rfl, hc7, hm7, -, -⟩ := Rd.of_own hown7 (by decide))
          have G7 : Hid (w.grownBy w7 (some g)) := only_own G6.out hg7 O6.out (Nat.le_refl _)
          have hown8 : w7.ownsRow w.heap.size 100 1 (.slice A7 (f + 1) c7) (f + 1) ((fs ++ [(⟨xs, A4, c4⟩ : Fl)]).map Fl.cell) := by simpa [Fl.cell] using hown7
          have hap : ∀ b, Apart w.heap.size (.slice A f c) b → b < wr.heap.size → Apart w.heap.size (.slice A7 (f + 1) c7) b := fun b hb hlt => ⟨hb.1, fun e => by
            rcases hob7 with h | h
            · exact hb.2 (h.symm.trans e)
            · rw [h] at e; injection e with e; omega⟩
          have F8 : FlsOk (Apart w.heap.size (.slice A7 (f + 1) c7)) w7 host most (fs ++ [(⟨xs, A4, c4⟩ : Fl)]) := by
            have h0 : FlsOk (Apart w.heap.size (.slice A f c)) wr host most (fs ++ [(⟨xs, A4, c4⟩ : Fl)]) := F6.out.snoc (by rw [HFL.out]; exact FX.out)
            exact ((h0.mono (S' := fun b => Apart w.heap.size (.slice A f c) b ∧ b < wr.heap.size) (fun b hb hlt => ⟨hb, hlt⟩)).grown hg7 (fun b hb e => hb.1.2 e.symm)).mono (fun b hb _ => hap b hb.1 hb.2)
          have h8 := hC4.grown hg7 (fun b hb e => by have := (O6.out.lt b e.symm).1; omega)
          have F8' := Lib.hid F8
          clear hown7 hg7 hob7 hap F8 hC4 O6 F6 G6 FX
          go_roundw
          case rel => exact ⟨f + 1, fs ++ [(⟨xs, A4, c4⟩ : Fl)], k4, by go_num, by omega, by simp [HFL.out], hown8, F8'.out, h8, G7.out⟩
          case measure => simp [intOf]; omega
    · have hb : decide ((f : Int) ≤ v2) = false := by simp; omega
      have R2 := O2.out
      obtain ⟨A', c', e', hc', hcm', -, hrd2⟩ := Rd.of_own R2 (by decide)
      injection e' with e1 e2 e3
      subst e1
      have RD2 := Lib.hid hrd2
      clear R2 e2 e3 hrd2
      go_wp2_with fail
      go_ret
      have hlf := HFL.out
      exact ⟨A, c, fs, k2, (by rw [hlf]; rfl), by omega, by omega, by unfold maxLen; omega, RD2.out, F2.out.mono (fun b hb _ => hb.1), h2, G2.out⟩
end Go.Proofs.YtpaiideboodaeaaGreatDoor

namespace Go.Proofs.YtpaiideboodaeaaGreatDoor
open Go.RowKit
set_option linter.unusedVariables false
set_option linter.unusedSimpArgs false

theorem less_iff (a b : Ev) : a.less b = true ↔ (a.time < b.time ∨ (a.time = b.time ∧ (a.host < b.host ∨ (a.host = b.host ∧ (a.file < b.file ∨ (a.file = b.file ∧ a.beg < b.beg)))))) := by
  unfold Ev.less
  split
  · simp; omega
  · split
    · simp; omega
    · split
      · simp; omega
      · simp; omega
theorem less_trans {a b c : Ev} (h : a.less b = true) (k : b.less c = true) : a.less c = true := by
  rw [less_iff] at *; omega
theorem less_of_not {a b : Ev} (h : a.less b = false) (hk : a.host ≠ b.host ∨ a.file ≠ b.file ∨ a.beg ≠ b.beg) : b.less a = true := by
  have h' : ¬ a.less b = true := by rw [h]; simp
  rw [less_iff] at *; omega
def SrtE (es : List Ev) : Prop := es.Pairwise fun a b => a.less b = true
theorem srt_ins {es : List Ev} {x : Ev} {i : Nat} (hs : SrtE es) (hi : i ≤ es.length) (h1 : ∀ j y, i ≤ j → es[j]? = some y → x.less y = true) (h2 : ∀ z, 0 < i → es[i - 1]? = some z → x.less z = false)
    (hd : ∀ y ∈ es, x.host ≠ y.host ∨ x.file ≠ y.file ∨ x.beg ≠ y.beg) : SrtE (insAt es x i) := by
  unfold SrtE insAt
  have hp : (es.take i ++ es.drop i).Pairwise (fun a b => a.less b = true) := by rw [List.take_append_drop]; exact hs
  rw [List.pairwise_append] at hp
  obtain ⟨p1, p2, p3⟩ := hp
  have hdrop : ∀ y ∈ es.drop i, x.less y = true := by
    intro y hy
    obtain ⟨n, hn, hny⟩ := List.mem_iff_getElem.1 hy
    rw [List.getElem_drop] at hny
    exact h1 (i + n) y (by omega) (by rw [← hny]; exact List.getElem?_eq_getElem _)
  have htake : ∀ y ∈ es.take i, y.less x = true := by
    intro y hy
    obtain ⟨n, hn, hny⟩ := List.mem_iff_getElem.1 hy
    rw [List.getElem_take] at hny
    have hni : n < i ∧ n < es.length := by simp at hn; omega
    have hi1 : i - 1 < es.length := by omega
    have hzx : (es[i - 1]).less x = true := less_of_not (h2 _ (by omega) (List.getElem?_eq_getElem hi1)) (hd _ (List.getElem_mem hi1))
    rcases Nat.lt_or_ge n (i - 1) with hlt | hge
    · have := List.pairwise_iff_getElem.1 hs n (i - 1) hni.2 hi1 hlt
      rw [hny] at this
      exact less_trans this hzx
    · have e : n = i - 1 := by omega
      subst e
      rw [← hny]; exact hzx
  rw [List.pairwise_append]
  refine ⟨p1, List.pairwise_cons.2 ⟨hdrop, p2⟩, fun a ha b hb => ?_⟩
  rcases List.mem_cons.1 hb with rfl | hb
  · exact htake a ha
  · exact p3 a ha b hb
theorem mem_ins {es : List Ev} {x y : Ev} {i : Nat} (h : y ∈ insAt es x i) : y = x ∨ y ∈ es := by
  unfold insAt at h
  rcases List.mem_append.1 h with h | h
  · exact .inr (List.mem_of_mem_take h)
  · rcases List.mem_cons.1 h with h | h
    · exact .inl h
    · exact .inr (List.mem_of_mem_drop h)
theorem ins_len {es : List Ev} {x : Ev} {i : Nat} (hi : i ≤ es.length) : (insAt es x i).length = es.length + 1 := by
  unfold insAt; simp; omega
/-- the event comes ahead of the place -/
def Ahead (host file at_ : Int) (y : Ev) : Prop := y.host < host ∨ (y.host = host ∧ (y.file < file ∨ (y.file = file ∧ y.beg < at_)))
def EvGood (e : Ev) : Prop := FullEv e ∧ Chain e.beg e.lines e.fin ∧ 1 ≤ e.lines.length ∧ e.lines.length ≤ 3 ∧ 1 ≤ e.host ∧ e.host ≤ 2 ∧ 5 ≤ e.file ∧ e.file ≤ 7 ∧ 0 ≤ e.beg ∧ e.beg ≤ 54000
theorem ItChain.at_ {host file : Int} {xs : List It} : ∀ {a b : Int}, ItChain host file a xs b → ∀ (k : Nat) (x : It) (a' : Int), xs[k]? = some x → ItChain host file a (xs.take k) a' → ItOk host file a' x ∧ ItChain host file a (xs.take (k + 1)) x.ev.fin := by
  induction xs with
  | nil => intro a b _ k x a' h; simp at h
  | cons y ys ih =>
    intro a b h k x a' hx ht
    cases k with
    | zero =>
      simp at hx; subst hx
      simp only [List.take_zero, ItChain] at ht
      subst ht
      exact ⟨h.1, h.1, rfl⟩
    | succ k =>
      have h2 := ih h.2 k x a' (by simpa using hx) ht.2
      exact ⟨h2.1, h.1, h2.2⟩
def OutOk (S : Nat → Prop) (w : World) (A : Option Addr) (c n : Nat) (host file at_ : Int) (es : List Ev) : Prop :=
  Evs S w A es ∧ es.length ≤ c ∧ c ≤ maxLen ∧ es.length ≤ n ∧ SrtE es ∧ (∀ e ∈ es, EvGood e) ∧ (∀ e ∈ es, Ahead host file at_ e) ∧ ∃ N, (∀ b, N ≤ b → S b) ∧ w.ownsRow N 44 10 (.slice A es.length c) es.length (es.flatMap Ev.cells) ∧ ∀ e ∈ es, e.Sub (fun b => S b ∧ b < N) w
theorem OutOk.grown {S : Nat → Prop} {w w' : World} {A : Option Addr} {c n : Nat} {host file at_ : Int} {es : List Ev} {row : Option Nat} (h : OutOk S w A c n host file at_ es) (hg : w.grownBy w' row) (hr : ∀ b, S b → some b ≠ row) : OutOk S w' A c n host file at_ es := by
  obtain ⟨h1, h2, h3, h4, h5, h6, h7, N, hN, ho, hs⟩ := h
  refine ⟨h1.grown hg hr, h2, h3, h4, h5, h6, h7, N, hN, ho.kept hg ?_, fun e he => (hs e he).grown hg (fun b hb => hr b hb.1)⟩
  cases hv : (Value.slice A es.length c).ownBlock with
  | none => exact .inl rfl
  | some b => exact .inr (hr b (hN b (ho.lt b hv).1))
theorem OutOk.turn {S : Nat → Prop} {w : World} {A : Option Addr} {c n : Nat} {host file at_ : Int} {es : List Ev} (h : OutOk S w A c n host file at_ es) {n' : Nat} {host' file' at' : Int} (hn : n ≤ n') (hk : ∀ y, EvGood y → Ahead host file at_ y → Ahead host' file' at' y) : OutOk S w A c n' host' file' at' es :=
  ⟨h.1, h.2.1, h.2.2.1, by have := h.2.2.2.1; omega, h.2.2.2.2.1, h.2.2.2.2.2.1, fun e he => hk e (h.2.2.2.2.2.1 e he) (h.2.2.2.2.2.2.1 e he), h.2.2.2.2.2.2.2⟩
/-- the same, and the row is the call's own -/
def EventsPostO (w : World) (g : Nat) (l : List Int) (most : Int) (e : Ending) (w' : World) : Prop :=
  ∃ (A : Option Addr) (c : Nat) (es : List Ev) (k : Nat), e = .returned (.slice A es.length c) ∧ es.length ≤ c ∧ c ≤ maxLen ∧ (es.length : Int) ≤ 6 * most ∧ Evs (w.heap.size ≤ ·) w' A es ∧ SrtE es ∧ (∀ e ∈ es, EvGood e) ∧ CodesAt w' g l k ∧ w.grownBy w' (some g) ∧ ∃ N, w.heap.size ≤ N ∧ w'.ownsRow N 44 10 (.slice A es.length c) es.length (es.flatMap Ev.cells) ∧ ∀ e ∈ es, e.Sub (fun b => w.heap.size ≤ b ∧ b < N) w'
def EventsPost (w : World) (g : Nat) (l : List Int) (most : Int) (e : Ending) (w' : World) : Prop :=
  ∃ (A : Option Addr) (c : Nat) (es : List Ev) (k : Nat), e = .returned (.slice A es.length c) ∧ es.length ≤ c ∧ c ≤ maxLen ∧ (es.length : Int) ≤ 6 * most ∧ Evs (w.heap.size ≤ ·) w' A es ∧ SrtE es ∧ (∀ e ∈ es, EvGood e) ∧ CodesAt w' g l k ∧ w.grownBy w' (some g)
theorem Fl.load11 {S : Nat → Prop} {w : World} {b off : Nat} {xs : List It} (h : Rd S w (some ⟨b, off, none⟩) (xs.flatMap It.cells)) {i : Nat} {y : It} (hy : xs[i]? = some y) :
    w.cell? ⟨b, off + i * 11, none⟩ = some (.string y.rule) ∧ w.cell? ⟨b, off + i * 11 + 1, none⟩ = some (.int .i64 y.ev.host) ∧ w.cell? ⟨b, off + i * 11 + 2, none⟩ = some (.int .i64 y.ev.file) ∧ w.cell? ⟨b, off + i * 11 + 3, none⟩ = some (.int .i64 y.ev.beg) ∧
    w.cell? ⟨b, off + i * 11 + 4, none⟩ = some (.int .i64 y.ev.fin) ∧ w.cell? ⟨b, off + i * 11 + 5, none⟩ = some (.slice y.ev.la y.ev.lines.length y.ev.lc) ∧ w.cell? ⟨b, off + i * 11 + 6, none⟩ = some (.int .i64 y.ev.time) ∧
    w.cell? ⟨b, off + i * 11 + 7, none⟩ = some (.int .i64 y.ev.weight) ∧ w.cell? ⟨b, off + i * 11 + 8, none⟩ = some (.string y.ev.trace) ∧ w.cell? ⟨b, off + i * 11 + 9, none⟩ = some (.string y.ev.stream) ∧ w.cell? ⟨b, off + i * 11 + 10, none⟩ = some (.slice y.ev.fa y.ev.fields.length y.ev.fc) := by
  have hi : i < xs.length := by
    rcases Nat.lt_or_ge i xs.length with h | h
    · exact h
    · rw [List.getElem?_eq_none h] at hy; cases hy
  have hyi : xs[i] = y := by rw [List.getElem?_eq_getElem hi] at hy; injection hy
  have key : ∀ j, j < 11 → w.cell? ⟨b, off + i * 11 + j, none⟩ = y.cells[j]? := by
    intro j hj
    obtain ⟨b', off', e, _, _, hc⟩ := h (by rw [flat_len _ 11 It.cells_len]; omega)
    injection e with e
    injection e with e1 e2
    subst e1 e2
    have h1 := flat_at It.cells 11 It.cells_len xs i j hi hj
    rw [hyi] at h1
    have hlt : j < y.cells.length := by rw [It.cells_len]; exact hj
    rw [List.getElem?_eq_getElem hlt] at h1 ⊢
    rw [Nat.add_assoc]
    exact hc _ _ h1
  exact ⟨key 0 (by omega), key 1 (by omega), key 2 (by omega), key 3 (by omega), key 4 (by omega), key 5 (by omega), key 6 (by omega), key 7 (by omega), key 8 (by omega), key 9 (by omega), key 10 (by omega)⟩
theorem EvGood.of {host file a : Int} {x : It} (h : ItOk host file a x) (hr : x.rule = ⟨#[]⟩) (h1 : 1 ≤ host ∧ host ≤ 2) (h2 : 5 ≤ file ∧ file ≤ 7) (h3 : 0 ≤ a ∧ a ≤ 54000) : EvGood x.ev := by
  obtain ⟨e1, e2, e3, h4, h5, h6, h7⟩ := h
  rcases h7 with ⟨_, h7⟩ | ⟨h7, _⟩
  · exact ⟨h7, by rw [e3]; exact h4, h5, h6, by omega, by omega, by omega, by omega, by omega, by omega⟩
  · rw [hr] at h7; simp [ByteArray.size] at h7

set_option maxHeartbeats 4000000 in
set_option maxRecDepth 100000 in
theorem events_own (g : Nat) (l : List Int) (k : Nat) (most : Int) (w : World) (h : CodesAt w g l k) (hm : 0 ≤ most ∧ most ≤ 300) :
    Calls Tryz.prog 19 #[.pointer (some ⟨g, 0, none⟩), .int .i64 most] w (EventsPostO w g l most) := by
  have hlt0 := h.lt
  have HC := Lib.hid h
  obtain ⟨mo, rfl⟩ := Int.eq_ofNat_of_zero_le hm.1
  obtain ⟨-, hm⟩ := hm
  have hm' : mo ≤ 300 := by omega
  clear h hm
  go_enter Tryz.func19, Tryz.ntmps19
  go_wp2_with fail
  go_loopw [5, 6] (fun v i wr => ∃ (h : Nat) (A : Option Addr) (c : Nat) (es : List Ev) (k : Nat), i = .int .i64 ((h : Int) + 1) ∧ h ≤ 2 ∧ v = .slice A es.length c ∧ OutOk (w.heap.size ≤ ·) wr A c (3 * mo * h) (h + 1) 5 0 es ∧ CodesAt wr g l k ∧ w.grownBy wr (some g)) (fun _ i _ => 4 - (intOf i).toNat)
  case atStart => exact ⟨0, none, 0, [], k, rfl, by omega, rfl, ⟨⟨Rd.nil, by simp⟩, Nat.le_refl _, Nat.zero_le _, by simp, List.Pairwise.nil, by simp, by simp, w.heap.size, fun b hb => hb, World.ownsRow_nil _ _ _ _, by simp⟩, HC.out, only_refl _ _⟩
  case round =>
    obtain ⟨h, A, c, es, k1, rfl, hh, rfl, hO, hC, hG⟩ := hrel
    have O1 := Lib.hid hO
    have G1 := Lib.hid hG
    have hsz1 := hG.size
    clear hO hG HC
    go_wp2_with fail
    refine (next_some g l k1 2 _ hC (by omega) (by omega)).mono ?_
    rintro e w2 ⟨v2, k2, rfl, hv2, h2, hg2⟩
    have O2 : Hid (OutOk (w.heap.size ≤ ·) w2 A c (3 * mo * h) (h + 1) 5 0 es) := O1.out.grown hg2 (fun b hb => by intro e; injection e; omega)
    have G2 : Hid (w.grownBy w2 (some g)) := only_trans G1.out hg2
    have hsz2 := hg2.size
    clear hC hg2 O1 G1
    by_cases hle : (h : Int) + 1 ≤ 1 + v2
    · have hb : decide ((h : Int) + 1 ≤ 1 + v2) = true := by simp; omega
      have hh1 : h ≤ 1 := by omega
      go_wp2_with fail
      refine (files_some g l k2 ((h : Int) + 1) mo _ h2 (by omega)).mono ?_
      rintro e w3 ⟨AF, cF, fs, k3, rfl, hf3, hfc, hfm, hrF, hF, h3, hg3⟩
      have O3 : Hid (OutOk (w.heap.size ≤ ·) w3 A c (3 * mo * h) (h + 1) 5 0 es) := O2.out.grown hg3 (fun b hb => by intro e; injection e; omega)
      have G3 : Hid (w.grownBy w3 (some g)) := only_trans G2.out hg3
      have RF := Lib.hid (hrF.mono (S' := (w.heap.size ≤ ·)) (fun b hb _ => by omega))
      have F3 := Lib.hid (hF.mono (S' := (w.heap.size ≤ ·)) (fun b hb _ => by omega))
      have hsz3 := hg3.size
      clear h2 hg3 O2 G2 hrF hF
      unfold maxLen at hfm
      go_wp2_with fail
      obtain ⟨wo, rfl⟩ : ∃ wo : World, wo = wr := ⟨_, rfl⟩
      go_loopw [5, 8] (fun v i wr => ∃ (n : Nat) (A : Option Addr) (c : Nat) (es : List Ev), i = .int .i64 n ∧ n ≤ fs.length ∧ v = .slice A es.length c ∧ OutOk (w.heap.size ≤ ·) wr A c (3 * mo * h + mo * n) (h + 1) (5 + n) 0 es ∧ w3.grownBy wr none) (fun _ i _ => fs.length - (intOf i).toNat)
      case atStart => exact ⟨0, A, c, es, rfl, Nat.zero_le _, rfl, by simpa using O3.out, only_refl _ _⟩
      case round =>
        obtain ⟨n, A4, c4, es4, rfl, hn, rfl, hO4, hG4⟩ := hrel
        have O4 := Lib.hid hO4
        have G4 := Lib.hid hG4
        have hsz4 := hG4.size
        clear hO4 hG4
        by_cases hnl : n < fs.length
        · obtain ⟨f, hf⟩ : ∃ f, fs[n]? = some f := ⟨_, List.getElem?_eq_getElem hnl⟩
          have hfo := F3.out n f hf
          obtain ⟨hrI, hic, hicm, himo, ⟨fin, hch⟩, hsub⟩ := hfo
          obtain ⟨bF, oF, rfl, hbF, -, hcF⟩ := RF.out (by simp; omega)
          have HCF : Hid (∀ W', w3.grownBy W' none → W'.cell? ⟨bF, oF + n, none⟩ = some (.slice f.a f.items.length f.c)) := fun W' hW' => by
            obtain ⟨b', o', e', -, -, hc'⟩ := (RF.out.grown hW' (by simp)) (by simp; omega)
            injection e' with e'
            injection e' with e1 e2
            subst e1 e2
            exact hc' n _ (by rw [List.getElem?_map, hf]; rfl)
          have RI := Lib.hid hrI
          have CH := Lib.hid hch
          have SB := Lib.hid hsub
          have hmo : f.items.length ≤ mo := by omega
          unfold maxLen at hicm
          clear hf hrI hch hsub hcF himo RF
          go_wp2_with fail
          obtain ⟨wp, rfl⟩ : ∃ wp : World, wp = wr := ⟨_, rfl⟩
          go_loopw [5, 9] (fun v i wr => ∃ (m : Nat) (A : Option Addr) (c : Nat) (es : List Ev) (at_ : Int), i = .int .i64 m ∧ m ≤ f.items.length ∧ v = .slice A es.length c ∧ ItChain (h + 1) (5 + n) 0 (f.items.take m) at_ ∧ OutOk (w.heap.size ≤ ·) wr A c (3 * mo * h + mo * n + m) (h + 1) (5 + n) at_ es ∧ w3.grownBy wr none) (fun _ i _ => f.items.length - (intOf i).toNat)
          case atStart => exact ⟨0, A4, c4, es4, 0, rfl, Nat.zero_le _, rfl, rfl, O4.out, G4.out⟩
          case round =>
            obtain ⟨m, A5, c5, es5, at5, rfl, hml, rfl, hch5, hO5, hG5⟩ := hrel
            have O5 := Lib.hid hO5
            have G5 := Lib.hid hG5
            have CH5 := Lib.hid hch5
            have hsz5 := hG5.size
            have hat := hch5.le
            have hcf := HCF.out _ hG5
            clear hO5 hG5 hch5
            by_cases hmi : m < f.items.length
            · obtain ⟨x, hx⟩ : ∃ x, f.items[m]? = some x := ⟨_, List.getElem?_eq_getElem hmi⟩
              obtain ⟨hok, hch6⟩ := CH.out.at_ m x at5 hx CH5.out
              obtain ⟨bI, oI, hIa, -, -, -⟩ := RI.out (by rw [flat_len _ 11 It.cells_len]; omega)
              obtain ⟨fit, fa, fc⟩ := f
              simp only [] at *
              subst hIa
              have HI : Hid (∀ W', w3.grownBy W' none → Rd (w.heap.size ≤ ·) W' (some ⟨bI, oI, none⟩) (fit.flatMap It.cells)) := fun W' hW' => RI.out.grown hW' (by simp)
              obtain ⟨d0, d1, d2, d3, d4, d5, d6, d7, d8, d9, d10⟩ := Fl.load11 (HI.out _ G5.out) hx
              have HX := Lib.hid hx
              have HOK := Lib.hid hok
              have CH6 := Lib.hid hch6
              have SX : Hid (x.ev.Sub (w.heap.size ≤ ·) wr) := (SB.out x (List.mem_of_getElem? hx)).grown G5.out (by simp)
              clear hx hok hch6
              by_cases hr : x.rule = ⟨#[]⟩
              · rw [hr] at d0
                have HR := Lib.hid hr
                clear hr
                go_wp2_with fail
                have HI9 : Calls Tryz.prog 47 #[.slice A5 es5.length c5, .agg #[.int .i64 x.ev.host, .int .i64 x.ev.file, .int .i64 x.ev.beg, .int .i64 x.ev.fin, .slice x.ev.la x.ev.lines.length x.ev.lc, .int .i64 x.ev.time, .int .i64 x.ev.weight, .string x.ev.trace, .string x.ev.stream, .slice x.ev.fa x.ev.fields.length x.ev.fc]] wr (InsPostO wr es5 x.ev) := insert_own A5 es5 c5 x.ev wr O5.out.1.1 (by
                  have h1 := O5.out.2.2.2.1
                  have : 3 * mo * h ≤ 3 * mo * 1 := Nat.mul_le_mul (Nat.le_refl _) hh1
                  have : mo * n ≤ mo * 3 := Nat.mul_le_mul (Nat.le_refl _) (by omega)
                  omega) O5.out.2.1 O5.out.2.2.1
                clear d0 d1 d2 d3 d4 d5 d6 d7 d8 d9 d10 hcf
                refine HI9.mono ?_
                clear HI9
                rintro e w6 ⟨A6, c6, i6, hi6, ha6, hb6, rfl, hc6, hm6, hr6, hg6, ho6⟩
                have hn6 : OutOk (w.heap.size ≤ ·) w6 A6 c6 (3 * mo * h + mo * n + (m + 1)) (h + 1) (5 + n) x.ev.fin (insAt es5 x.ev i6) := by
                  obtain ⟨o1, o2, o3, o4, o5, o6, o7, -⟩ := O5.out
                  obtain ⟨q1, q2, q3, q4, q5, q6, -⟩ := HOK.out
                  have q7 := q4.le
                  refine ⟨⟨hr6.mono (fun b hb _ => by omega), fun e he => ?_⟩, by rw [ins_len hi6]; exact hc6, hm6, by rw [ins_len hi6]; omega, srt_ins o5 hi6 ha6 hb6 (fun y hy => ?_), fun e he => ?_, fun e he => ?_, wr.heap.size, fun b hb => by omega, by rw [ins_len hi6]; exact ho6, fun e he => ?_⟩
                  · rcases mem_ins he with rfl | he
                    · exact SX.out.grown hg6 (by simp)
                    · exact (o1.2 e he).grown hg6 (by simp)
                  · have := o7 y hy
                    unfold Ahead at this
                    omega
                  · rcases mem_ins he with rfl | he
                    · exact EvGood.of HOK.out HR.out (by omega) (by omega) (by rw [List.length_take] at hat; omega)
                    · exact o6 e he
                  · rcases mem_ins he with rfl | he
                    · exact .inr ⟨q1, .inr ⟨q2, by omega⟩⟩
                    · have := o7 e he
                      unfold Ahead at *
                      omega
                  · rcases mem_ins he with rfl | he
                    · exact (SX.out.mono (S' := fun b => w.heap.size ≤ b ∧ b < wr.heap.size) (fun b hb hl => ⟨hb, hl⟩)).grown hg6 (by simp)
                    · exact ((o1.2 e he).mono (S' := fun b => w.heap.size ≤ b ∧ b < wr.heap.size) (fun b hb hl => ⟨hb, hl⟩)).grown hg6 (by simp)
                have HN6 := Lib.hid hn6
                have G6 : Hid (w3.grownBy w6 none) := only_trans G5.out hg6
                have HL6 : Hid ((insAt es5 x.ev i6).length = es5.length + 1) := ins_len hi6
                clear hn6 hr6 hg6 ha6 hb6 ho6
                go_wp2_with fail
                go_roundw
                case rel => exact ⟨m + 1, A6, c6, insAt es5 x.ev i6, x.ev.fin, by go_num, by omega, by rw [HL6.out], CH6.out, HN6.out, G6.out⟩
                case measure => simp [intOf]; omega
              · have hr0 : x.rule.toList ≠ [] := fun e => hr (by
                  rw [ByteArray.toList_eq] at e
                  exact ByteArray.ext (by simpa using e))
                have hr1 : x.rule.toList.isEmpty = false := by simpa using hr0
                clear hr
                go_wp2_with fail
                go_roundw
                case rel => exact ⟨m + 1, A5, c5, es5, x.ev.fin, by go_num, by omega, rfl, CH6.out, O5.out.turn (by omega) (fun y _ hy => by have := HOK.out.2.2.2.1.le; unfold Ahead at *; omega), G5.out⟩
                case measure => simp [intOf]; omega
            · have hmm : m = f.items.length := by omega
              clear hmi
              go_wp2_with fail
              go_roundw
              case rel => exact ⟨n + 1, A5, c5, es5, by go_num, by omega, rfl, O5.out.turn (by rw [Nat.mul_add]; omega) (fun y _ hy => by unfold Ahead at *; omega), G5.out⟩
              case measure => simp [intOf]; omega
        · have hnn : n = fs.length := by omega
          clear hnl
          have h5 := h3.grown G4.out (by simp)
          go_wp2_with fail
          go_roundw
          case rel => exact ⟨h + 1, A4, c4, es4, k3, by go_num, by omega, rfl, O4.out.turn (by have : mo * n ≤ mo * 3 := Nat.mul_le_mul (Nat.le_refl _) (by omega); rw [Nat.mul_add]; omega) (fun y hy hy2 => by have := hy.2.2.2.2.2.1; unfold Ahead at *; omega), h5, only_trans G3.out (only_of_none G4.out _)⟩
          case measure => simp [intOf]; omega
    · have hb : decide ((h : Int) + 1 ≤ 1 + v2) = false := by simp; omega
      go_wp2_with fail
      go_ret
      obtain ⟨o1, o2, o3, o4, o5, o6, -, N, hN, ho, hs⟩ := O2.out
      exact ⟨A, c, es, k2, rfl, o2, o3, by have : 3 * mo * h ≤ 3 * mo * 2 := Nat.mul_le_mul (Nat.le_refl _) hh; omega, o1, o5, o6, h2, G2.out, N, hN N (Nat.le_refl _), ho, hs⟩
theorem events_some (g : Nat) (l : List Int) (k : Nat) (most : Int) (w : World) (h : CodesAt w g l k) (hm : 0 ≤ most ∧ most ≤ 300) :
    Calls Tryz.prog 19 #[.pointer (some ⟨g, 0, none⟩), .int .i64 most] w (EventsPost w g l most) :=
  (events_own g l k most w h hm).mono fun e w' ⟨A, c, es, k, h1, h2, h3, h4, h5, h6, h7, h8, h9, _⟩ => ⟨A, c, es, k, h1, h2, h3, h4, h5, h6, h7, h8, h9⟩
end Go.Proofs.YtpaiideboodaeaaGreatDoor

namespace Go.Proofs.YtpaiideboodaeaaGreatDoor
open Go.RowKit
set_option linter.unusedVariables false
set_option linter.unusedSimpArgs false

theorem ev_in {S : Nat → Prop} {w : World} {A : Option Addr} {es : List Ev} (h : Rd S w A (es.flatMap Ev.cells)) {i : Nat} {y : Ev} (hy : es[i]? = some y) :
    ∃ b off, A = some ⟨b, off, none⟩ ∧ b < w.heap.size ∧ w.cell? ⟨b, off + i * 10, none⟩ = some (.int .i64 y.host) ∧ w.cell? ⟨b, off + i * 10 + 1, none⟩ = some (.int .i64 y.file) ∧ w.cell? ⟨b, off + i * 10 + 2, none⟩ = some (.int .i64 y.beg) ∧
    w.cell? ⟨b, off + i * 10 + 3, none⟩ = some (.int .i64 y.fin) ∧ w.cell? ⟨b, off + i * 10 + 4, none⟩ = some (.slice y.la y.lines.length y.lc) ∧ w.cell? ⟨b, off + i * 10 + 5, none⟩ = some (.int .i64 y.time) ∧
    w.cell? ⟨b, off + i * 10 + 6, none⟩ = some (.int .i64 y.weight) ∧ w.cell? ⟨b, off + i * 10 + 7, none⟩ = some (.string y.trace) ∧ w.cell? ⟨b, off + i * 10 + 8, none⟩ = some (.string y.stream) ∧ w.cell? ⟨b, off + i * 10 + 9, none⟩ = some (.slice y.fa y.fields.length y.fc) := by
  obtain ⟨hi, hyi⟩ := List.getElem?_eq_some_iff.1 hy
  obtain ⟨b, off, rfl, _, hlt, _⟩ := h (by rw [flat_len _ 10 Ev.cells_len]; omega)
  exact ⟨b, off, rfl, hlt, Evs.load10 h hi hyi⟩
theorem box5 {W w' : World} {N : Nat} {a b : ByteArray} {x y : Int} {v : Value} {T : TypeId} (h : Blk W N T #[.int .i64 x, .string a, .string b, .int .i64 y, v]) (hg : W.grownBy w' none) :
    w'.cell? ⟨N, 0, none⟩ = some (.int .i64 x) ∧ w'.cell? ⟨N, 1, none⟩ = some (.string a) ∧ w'.cell? ⟨N, 2, none⟩ = some (.string b) ∧ w'.cell? ⟨N, 3, none⟩ = some (.int .i64 y) ∧ w'.cell? ⟨N, 4, none⟩ = some v := by
  have h := h.grown hg (by simp)
  exact ⟨h.cell 0, h.cell 1, h.cell 2, h.cell 3, h.cell 4⟩
end Go.Proofs.YtpaiideboodaeaaGreatDoor
namespace Go.Proofs.YtpaiideboodaeaaGreatDoor
open Go.RowKit
set_option linter.unusedVariables false
set_option linter.unusedSimpArgs false

theorem fld_in {S : Nat → Prop} {w : World} {fa : Option Addr} {xs : List FieldD} (h : Rd S w fa (xs.flatMap FieldD.cells)) {i : Nat} {y : FieldD} (hy : xs[i]? = some y) :
    ∃ b off, fa = some ⟨b, off, none⟩ ∧ b < w.heap.size ∧ w.cell? ⟨b, off + i * 2, none⟩ = some (.string y.name) ∧ w.cell? ⟨b, off + i * 2 + 1, none⟩ = some (.string y.value) := by
  obtain ⟨hi, hyi⟩ := List.getElem?_eq_some_iff.1 hy
  obtain ⟨b, off, rfl, _, hlt, hc⟩ := h (by rw [flat_len _ 2 FieldD.cells_len]; omega)
  have key : ∀ j, j < 2 → w.cell? ⟨b, off + i * 2 + j, none⟩ = y.cells[j]? := by
    intro j hj
    have h1 := flat_at FieldD.cells 2 FieldD.cells_len xs i j hi hj
    rw [hyi] at h1
    have hlt : j < y.cells.length := by rw [FieldD.cells_len]; exact hj
    rw [List.getElem?_eq_getElem hlt] at h1 ⊢
    rw [Nat.add_assoc]
    exact hc _ _ h1
  exact ⟨b, off, rfl, hlt, key 0 (by omega), key 1 (by omega)⟩
end Go.Proofs.YtpaiideboodaeaaGreatDoor
