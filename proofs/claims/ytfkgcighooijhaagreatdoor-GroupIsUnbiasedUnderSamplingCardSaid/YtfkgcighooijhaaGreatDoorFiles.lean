/- The draw of the items of some files. No condition. -/
import Derived.Test.YtfkgcighooijhaaGreatDoorItem
namespace Go.Proofs.YtfkgcighooijhaaGreatDoor
open Go.RowKit
set_option linter.unusedVariables false
set_option linter.unusedSimpArgs false

theorem itemInfo : (Tryz.prog.info? 52).map (fun i => (i.zero, i.size, i.bytes)) = some (some (.agg zeroIt), 11, 144) := by kernel_rfl
theorem itemsInfo : (Tryz.prog.info? 88).map (fun i => (i.zero, i.size, i.bytes)) = some (some (.slice none 0 0), 1, 24) := by kernel_rfl
theorem It.one (e : It) : ∀ u ∈ e.cells, u.oneCell' = true := by simp [It.cells, Ev.cells, Value.oneCell']
/-- items one behind the other -/
def ItChain (host file : Int) : Int → List It → Int → Prop
  | a, [], b => a = b
  | a, x :: xs, b => ItOk host file a x ∧ ItChain host file x.ev.fin xs b
theorem ItChain.snoc {host file : Int} {xs : List It} : ∀ {a b : Int} (h : ItChain host file a xs b) (x : It), ItOk host file b x → ItChain host file a (xs ++ [x]) x.ev.fin := by
  induction xs with
  | nil => intro a b h x hx; simp only [ItChain] at h; subst h; exact ⟨hx, rfl⟩
  | cons y ys ih => intro a b h x hx; exact ⟨h.1, ih h.2 x hx⟩
theorem ItChain.le {host file : Int} {xs : List It} : ∀ {a b : Int} (h : ItChain host file a xs b), a + xs.length ≤ b ∧ b ≤ a + 180 * xs.length := by
  induction xs with
  | nil => intro a b h; simp only [ItChain] at h; subst h; simp
  | cons y ys ih =>
    intro a b h
    obtain ⟨⟨-, -, h1, h2, h3, h4, -⟩, h6⟩ := h
    have := ih h6
    have := h2.le
    simp; omega
/-- a file: its items and where they lie -/
structure Fl where
  items : List It
  a : Option Addr
  c : Nat
def Fl.cell (f : Fl) : Value := .slice f.a f.items.length f.c
def Fl.Ok (S : Nat → Prop) (w : World) (host file most : Int) (f : Fl) : Prop :=
  Rd S w f.a (f.items.flatMap It.cells) ∧ f.items.length ≤ f.c ∧ f.c ≤ maxLen ∧ (f.items.length : Int) ≤ most ∧ (∃ b, ItChain host file 0 f.items b) ∧ ∀ x ∈ f.items, x.ev.Sub S w
theorem Fl.Ok.grown {S : Nat → Prop} {w w' : World} {host file most : Int} {f : Fl} {row : Option Nat} (h : f.Ok S w host file most) (hg : w.grownBy w' row) (hr : ∀ b, S b → some b ≠ row) : f.Ok S w' host file most :=
  ⟨h.1.grown hg hr, h.2.1, h.2.2.1, h.2.2.2.1, h.2.2.2.2.1, fun x hx => (h.2.2.2.2.2 x hx).grown hg hr⟩
theorem Fl.Ok.mono {S S' : Nat → Prop} {w : World} {host file most : Int} {f : Fl} (h : f.Ok S w host file most) (hS : ∀ b, S b → b < w.heap.size → S' b) : f.Ok S' w host file most :=
  ⟨h.1.mono hS, h.2.1, h.2.2.1, h.2.2.2.1, h.2.2.2.2.1, fun x hx => (h.2.2.2.2.2 x hx).mono hS⟩
/-- the files so far: number i is the file 5 + i -/
def FlsOk (S : Nat → Prop) (w : World) (host most : Int) (fs : List Fl) : Prop := ∀ (i : Nat) (f : Fl), fs[i]? = some f → f.Ok S w host (5 + i) most
theorem FlsOk.grown {S : Nat → Prop} {w w' : World} {host most : Int} {fs : List Fl} {row : Option Nat} (h : FlsOk S w host most fs) (hg : w.grownBy w' row) (hr : ∀ b, S b → some b ≠ row) : FlsOk S w' host most fs := fun i f hf => (h i f hf).grown hg hr
theorem FlsOk.mono {S S' : Nat → Prop} {w : World} {host most : Int} {fs : List Fl} (h : FlsOk S w host most fs) (hS : ∀ b, S b → b < w.heap.size → S' b) : FlsOk S' w host most fs := fun i f hf => (h i f hf).mono hS
theorem FlsOk.snoc {S : Nat → Prop} {w : World} {host most : Int} {fs : List Fl} (h : FlsOk S w host most fs) {f : Fl} (hf : f.Ok S w host (5 + fs.length) most) : FlsOk S w host most (fs ++ [f]) := by
  intro i y hy
  rcases Nat.lt_or_ge i fs.length with hi | hi
  · rw [List.getElem?_append_left hi] at hy; exact h i y hy
  · rw [List.getElem?_append_right hi] at hy
    rcases Nat.eq_or_lt_of_le hi with e | e
    · subst e; simp at hy; subst hy; exact hf
    · rw [List.getElem?_eq_none (by simp; omega)] at hy; cases hy
/-- a block that is not the row's own -/
def Apart (base : Nat) (v : Value) (b : Nat) : Prop := base ≤ b ∧ v.ownBlock ≠ some b
def FilesPost (w : World) (g : Nat) (l : List Int) (host most : Int) (e : Ending) (w' : World) : Prop :=
  ∃ (A : Option Addr) (c : Nat) (fs : List Fl) (k : Nat), e = .returned (.slice A fs.length c) ∧ fs.length ≤ 3 ∧ fs.length ≤ c ∧ c ≤ maxLen ∧ Rd (w.heap.size ≤ ·) w' A (fs.map Fl.cell) ∧ FlsOk (w.heap.size ≤ ·) w' host most fs ∧ CodesAt w' g l k ∧ w.grownBy w' (some g)
/-- the head of a round -/
def FRel (w : World) (g : Nat) (l : List Int) (host most : Int) (f : Nat) (v : Value) (wr : World) (fs : List Fl) (k : Nat) : Prop :=
  f ≤ 3 ∧ fs.length = f ∧ wr.ownsRow w.heap.size 88 1 v f (fs.map Fl.cell) ∧ FlsOk (Apart w.heap.size v) wr host most fs ∧ CodesAt wr g l k ∧ w.grownBy wr (some g)
def GRel (w0 : World) (g : Nat) (l : List Int) (host file most : Int) (a m : Int) (v : Value) (wr : World) (xs : List It) (k : Nat) : Prop :=
  wr.ownsRow w0.heap.size 52 11 v xs.length (xs.flatMap It.cells) ∧ ItChain host file 0 xs a ∧ 0 ≤ m ∧ (xs.length : Int) + m ≤ most ∧ (∀ x ∈ xs, x.ev.Sub (Apart w0.heap.size v) wr) ∧ CodesAt wr g l k ∧ w0.grownBy wr (some g)
theorem own_neF {w : World} {base e size n : Nat} {v : Value} {xs : List Value} (h : w.ownsRow base e size v n xs) {b : Nat} (hb : w.heap.size ≤ b) : v.ownBlock ≠ some b := fun e => by have := (h.lt b e).2; omega

set_option maxHeartbeats 4000000 in
set_option maxRecDepth 100000 in
theorem files_some (g : Nat) (l : List Int) (k : Nat) (host most : Int) (w : World) (h : CodesAt w g l k) (hm : 0 ≤ most ∧ most ≤ 1000) :
    Calls Tryz.prog 47 #[.pointer (some ⟨g, 0, none⟩), .int .i64 host, .int .i64 most] w (FilesPost w g l host most) := by
  have hlt0 := h.lt
  have HC := Lib.hid h
  clear h
  go_enter Tryz.func47, Tryz.ntmps47
  go_wp2_with fail
  go_loopw [7, 8] (fun v i wr => ∃ (f : Nat) (fs : List Fl) (k : Nat), i = .int .i64 f ∧ FRel w g l host most f v wr fs k) (fun _ i _ => 4 - (intOf i).toNat)
  case atStart => exact ⟨0, [], k, rfl, by omega, rfl, World.ownsRow_nil _ _ _ _, (fun i f hf => by simp at hf), HC.out, only_refl _ _⟩
  case round =>
    obtain ⟨f, fs, k1, rfl, hf3, hfl, hown, hfo, hC, hG⟩ := hrel
    obtain ⟨A, c, rfl, hc, hcm, -, hrd⟩ := Rd.of_own hown (by decide)
    have HFL := Lib.hid hfl
    have HO := Lib.hid hown
    have HF := Lib.hid hfo
    have G1 := Lib.hid hG
    have HRD := Lib.hid hrd
    have hsz1 := hG.size
    clear hfl hown hfo hG hrd HC
    unfold maxLen at hcm
    go_wp2_with fail
    refine (next_some g l k1 3 _ hC (by omega) (by omega)).mono ?_
    rintro e w2 ⟨v2, k2, rfl, hv2, h2, hg2⟩
    have O2 : Hid (w2.ownsRow w.heap.size 88 1 (.slice A f c) f (fs.map Fl.cell)) := own_only HO.out hg2 hlt0
    have F2 : Hid (FlsOk (Apart w.heap.size (.slice A f c)) w2 host most fs) := HF.out.grown hg2 (fun b hb => by have := hb.1; intro e; injection e; omega)
    have G2 : Hid (w.grownBy w2 (some g)) := only_trans G1.out hg2
    have hsz2 := hg2.size
    clear hC hg2 HF G1
    by_cases hle : (f : Int) ≤ v2
    · have hb : decide ((f : Int) ≤ v2) = true := by simp; omega
      go_wp2_with fail
      refine (next_some g l k2 (most + 1) _ h2 (by omega) (by omega)).mono ?_
      rintro e w3 ⟨v3, k3, rfl, hv3, h3, hg3⟩
      have O3 : Hid (w3.ownsRow w.heap.size 88 1 (.slice A f c) f (fs.map Fl.cell)) := own_only O2.out hg3 hlt0
      have F3 : Hid (FlsOk (Apart w.heap.size (.slice A f c)) w3 host most fs) := F2.out.grown hg3 (fun b hb => by have := hb.1; intro e; injection e; omega)
      have G3 : Hid (w.grownBy w3 (some g)) := only_trans G2.out hg3
      have hsz3 := hg3.size
      clear h2 hg3 O2 F2 G2 HO HRD
      have hlt3 := h3.lt
      go_wp2_with fail
      obtain ⟨wo, rfl⟩ : ∃ wo : World, wo = wr := ⟨_, rfl⟩
      go_loopw [9, 10, 11] (fun v a i wr => ∃ (a' m : Int) (xs : List It) (k : Nat), a = .int .i64 a' ∧ i = .int .i64 m ∧ GRel w3 g l host (5 + f) most a' m v wr xs k) (fun _ _ i _ => (intOf i).toNat)
      case atStart => exact ⟨0, v3, [], k3, rfl, rfl, World.ownsRow_nil _ _ _ _, rfl, hv3.1, by simp; omega, by simp, h3, only_refl _ _⟩
      case round =>
        obtain ⟨a, m, xs, k4, rfl, rfl, hown4, hch, hm0, hxm, hsub, hC4, hG4⟩ := hrel
        have hle4 := hch.le
        obtain ⟨A4, c4, rfl, hc4, hcm4, -, hrd4⟩ := Rd.of_own hown4 (by decide)
        have CH := Lib.hid hch
        have SB := Lib.hid hsub
        have G4 := Lib.hid hG4
        have O4 := Lib.hid hown4
        have hsz4 := hG4.size
        have RD4 := Lib.hid hrd4
        clear hch hsub hG4 hown4 hrd4 h3
        unfold maxLen at hcm4
        by_cases hmp : 0 < m
        · go_wp2_with fail
          refine (item_some g l k4 host (5 + f) a _ hC4 (by omega)).mono ?_
          rintro e w5 ⟨x, k5, rfl, hx, hxs, h5, hg5⟩
          have hcx : x.cells.toArray = #[.string x.rule, .int .i64 x.ev.host, .int .i64 x.ev.file, .int .i64 x.ev.beg, .int .i64 x.ev.fin, .slice x.ev.la x.ev.lines.length x.ev.lc, .int .i64 x.ev.time, .int .i64 x.ev.weight, .string x.ev.trace, .string x.ev.stream, .slice x.ev.fa x.ev.fields.length x.ev.fc] := rfl
          rw [hcx]
          clear hcx
          have O5 : Hid (w5.ownsRow w3.heap.size 52 11 (.slice A4 xs.length c4) xs.length (xs.flatMap It.cells)) := own_only O4.out hg5 (by omega)
          have S5 : Hid (∀ y ∈ xs, y.ev.Sub (Apart w3.heap.size (.slice A4 xs.length c4)) w5) := fun y hy => (SB.out y hy).grown hg5 (fun b hb => by have := hb.1; intro e; injection e; omega)
          have SX : Hid (x.ev.Sub (Apart w3.heap.size (.slice A4 xs.length c4)) w5) := hxs.mono (fun b hb _ => ⟨by omega, own_neF O4.out hb⟩)
          have G5 : Hid (w3.grownBy w5 (some g)) := only_trans G4.out hg5
          have HX := Lib.hid hx
          have hsz5 := hg5.size
          have hlt5 := h5.lt
          clear hxs hg5 O4 SB G4 hx hC4
          go_wp2_with (at_builtin; go_must (refine wpList_append1h rfl _ _ 88 rfl w3.heap.size Tryz.underlying88 itemInfo rfl (by decide) (v := _) (by rfl) (w0 := _) (cs := x.cells.toArray) (O5.out.alloc _) (w5.heap.size + 1) (by simp) (by rfl) rfl (by simpa using It.one x) (by decide) (by omega) (by omega) ?_); intro v6 w6 hown6 hg6 hob6; obtain ⟨A6, c6, rfl, hc6, hm6, -, -⟩ := Rd.of_own hown6 (by decide); have hB6 := (Blk.new w5 52 x.cells.toArray).grown hg6 (fun e => own_neF O5.out (Nat.le_refl _) e.symm); have c64 := hB6.cell 4; simp [It.cells, Ev.cells] at c64)
          have G6 : Hid (w3.grownBy w6 (some g)) := only_own (only_alloc G5.out _) hg6 (O5.out.alloc _) (Nat.le_refl _)
          have hown7 : w6.ownsRow w3.heap.size 52 11 (.slice A6 (xs.length + 1) c6) (xs ++ [x]).length ((xs ++ [x]).flatMap It.cells) := by simpa using hown6
          have hap : ∀ b, Apart w3.heap.size (.slice A4 xs.length c4) b → b < w5.heap.size → Apart w3.heap.size (.slice A6 (xs.length + 1) c6) b := fun b hb hlt => ⟨hb.1, fun e => by
            rcases hob6 with h | h
            · exact hb.2 (h.symm.trans e)
            · rw [h] at e; injection e with e; omega⟩
          have S7 : ∀ y ∈ xs ++ [x], y.ev.Sub (Apart w3.heap.size (.slice A6 (xs.length + 1) c6)) w6 := by
            intro y hy
            have h0 : y.ev.Sub (Apart w3.heap.size (.slice A4 xs.length c4)) w5 := by
              rcases List.mem_append.1 hy with hy | hy
              · exact S5.out y hy
              · rw [List.mem_singleton.1 hy]; exact SX.out
            exact (((h0.mono (S' := fun b => Apart w3.heap.size (.slice A4 xs.length c4) b ∧ b < w5.heap.size) (fun b hb hlt => ⟨hb, hlt⟩)).grown (World.grownBy_alloc w5 _ none) (by simp)).grown hg6 (fun b hb e => hb.1.2 e.symm)).mono (fun b hb _ => hap b hb.1 hb.2)
          have h7 := (h5.alloc (.cells x.cells.toArray 52)).grown hg6 (fun b hb e => by have := (O5.out.lt b e.symm).1; omega)
          have S7' := Lib.hid S7
          clear hown6 hg6 hob6 hap S7 hB6
          go_roundw
          case rel => exact ⟨x.ev.fin, m - 1, xs ++ [x], k5, rfl, rfl, hown7, CH.out.snoc x HX.out, by omega, by simp; omega, S7'.out, h7, G6.out⟩
          case measure => simp [intOf]; omega
        · obtain rfl : m = 0 := by omega
          clear hmp
          have O6 : Hid (wr.ownsRow w.heap.size 88 1 (.slice A f c) f (fs.map Fl.cell)) := own_only O3.out G4.out hlt0
          have F6 : Hid (FlsOk (Apart w.heap.size (.slice A f c)) wr host most fs) := F3.out.grown G4.out (fun b hb => by have := hb.1; intro e; injection e; omega)
          have G6 : Hid (w.grownBy wr (some g)) := only_trans G3.out G4.out
          have hne3 := O3.out
          have FX : Hid (Fl.Ok (Apart w.heap.size (.slice A f c)) wr host (5 + f) most ⟨xs, A4, c4⟩) := ⟨RD4.out.mono (fun b hb _ => ⟨by omega, own_neF O3.out hb⟩), hc4, by unfold maxLen; omega, by simp only []; omega, ⟨a, CH.out⟩, fun x hx => (SB.out x hx).mono (fun b hb _ => ⟨by have := hb.1; omega, own_neF O3.out hb.1⟩)⟩
          clear O3 F3 G3 CH SB G4 O4 RD4 hne3
          have hlt6 := hC4.lt
          go_wp2_with (at_builtin; refine wpList_append1 rfl _ _ 86 rfl w.heap.size Tryz.underlying86 itemsInfo rfl (by decide) (v := _) (by rfl) (w0 := _) (cs := #[.slice A4 xs.length c4]) O6.out (by rfl) rfl (by simp [Value.oneCell']) (by decide) (by omega) (by omega) ?_; intro v7 w7 hown7 hg7 hob7; obtain ⟨A7, c7, rfl, hc7, hm7, -, -⟩ := Rd.of_own hown7 (by decide))
          have G7 : Hid (w.grownBy w7 (some g)) := only_own G6.out hg7 O6.out (Nat.le_refl _)
          have hown8 : w7.ownsRow w.heap.size 88 1 (.slice A7 (f + 1) c7) (f + 1) ((fs ++ [(⟨xs, A4, c4⟩ : Fl)]).map Fl.cell) := by simpa [Fl.cell] using hown7
          have hap : ∀ b, Apart w.heap.size (.slice A f c) b → b < wr.heap.size → Apart w.heap.size (.slice A7 (f + 1) c7) b := fun b hb hlt => ⟨hb.1, fun e => by
            rcases hob7 with h | h
            · exact hb.2 (h.symm.trans e)
            · rw [h] at e; injection e with e; omega⟩
          have F8 : FlsOk (Apart w.heap.size (.slice A7 (f + 1) c7)) w7 host most (fs ++ [(⟨xs, A4, c4⟩ : Fl)]) := by
            have h0 : FlsOk (Apart w.heap.size (.slice A f c)) wr host most (fs ++ [(⟨xs, A4, c4⟩ : Fl)]) := F6.out.snoc (by rw [HFL.out]; exact FX.out)
            exact ((h0.mono (S' := fun b => Apart w.heap.size (.slice A f c) b ∧ b < wr.heap.size) (fun b hb hlt => ⟨hb, hlt⟩)).grown hg7 (fun b hb e => hb.1.2 e.symm)).mono (fun b hb _ => hap b hb.1 hb.2)
          have h8 := hC4.grown hg7 (fun b hb e => by have := (O6.out.lt b e.symm).1; omega)
          have F8' := Lib.hid F8
          clear hown7 hg7 hob7 hap F8 hC4 O6 F6 G6 FX
          go_roundw
          case rel => exact ⟨f + 1, fs ++ [(⟨xs, A4, c4⟩ : Fl)], k4, by go_num, by omega, by simp [HFL.out], hown8, F8'.out, h8, G7.out⟩
          case measure => simp [intOf]; omega
    · have hb : decide ((f : Int) ≤ v2) = false := by simp; omega
      have R2 := O2.out
      obtain ⟨A', c', e', hc', hcm', -, hrd2⟩ := Rd.of_own R2 (by decide)
      injection e' with e1 e2 e3
      subst e1
      have RD2 := Lib.hid hrd2
      clear R2 e2 e3 hrd2
      go_wp2_with fail
      go_ret
      have hlf := HFL.out
      exact ⟨A, c, fs, k2, (by rw [hlf]; rfl), by omega, by omega, by unfold maxLen; omega, RD2.out, F2.out.mono (fun b hb _ => hb.1), h2, G2.out⟩
end Go.Proofs.YtfkgcighooijhaaGreatDoor
