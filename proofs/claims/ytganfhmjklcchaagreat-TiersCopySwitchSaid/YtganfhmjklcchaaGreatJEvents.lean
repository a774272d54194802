/- The draw of events: strictly ascending. No condition. -/
import Derived.Test.YtganfhmjklcchaaGreatJItem
import Derived.Test.YtganfhmjklcchaaGreatJRWords
import Derived.Test.YtganfhmjklcchaaGreatJWordP
import Derived.Test.YtganfhmjklcchaaGreatJBase
import Derived.Deep.DeepCutAuto
namespace Go.Proofs.YtganfhmjklcchaaGreat
open Go.RowKit
set_option linter.unusedVariables false
set_option linter.unusedSimpArgs false

theorem less_iff (a b : Ev) : a.less b = true ↔ (a.time < b.time ∨ (a.time = b.time ∧ (a.host < b.host ∨ (a.host = b.host ∧ (a.file < b.file ∨ (a.file = b.file ∧ a.beg < b.beg)))))) := by
  unfold Ev.less
  split
  · simp; omega
  · split
    · simp; omega
    · split
      · simp; omega
      · simp; omega
theorem less_trans {a b c : Ev} (h : a.less b = true) (k : b.less c = true) : a.less c = true := by
  rw [less_iff] at *; omega
theorem less_of_not {a b : Ev} (h : a.less b = false) (hk : a.host ≠ b.host ∨ a.file ≠ b.file ∨ a.beg ≠ b.beg) : b.less a = true := by
  have h' : ¬ a.less b = true := by rw [h]; simp
  rw [less_iff] at *; omega
def SrtE (es : List Ev) : Prop := es.Pairwise fun a b => a.less b = true
theorem srt_ins {es : List Ev} {x : Ev} {i : Nat} (hs : SrtE es) (hi : i ≤ es.length) (h1 : ∀ j y, i ≤ j → es[j]? = some y → x.less y = true) (h2 : ∀ z, 0 < i → es[i - 1]? = some z → x.less z = false)
    (hd : ∀ y ∈ es, x.host ≠ y.host ∨ x.file ≠ y.file ∨ x.beg ≠ y.beg) : SrtE (insAt es x i) := by
  unfold SrtE insAt
  have hp : (es.take i ++ es.drop i).Pairwise (fun a b => a.less b = true) := by rw [List.take_append_drop]; exact hs
  rw [List.pairwise_append] at hp
  obtain ⟨p1, p2, p3⟩ := hp
  have hdrop : ∀ y ∈ es.drop i, x.less y = true := by
    intro y hy
    obtain ⟨n, hn, hny⟩ := List.mem_iff_getElem.1 hy
    rw [List.getElem_drop] at hny
    exact h1 (i + n) y (by omega) (by rw [← hny]; exact List.getElem?_eq_getElem _)
  have htake : ∀ y ∈ es.take i, y.less x = true := by
    intro y hy
    obtain ⟨n, hn, hny⟩ := List.mem_iff_getElem.1 hy
    rw [List.getElem_take] at hny
    have hni : n < i ∧ n < es.length := by simp at hn; omega
    have hi1 : i - 1 < es.length := by omega
    have hzx : (es[i - 1]).less x = true := less_of_not (h2 _ (by omega) (List.getElem?_eq_getElem hi1)) (hd _ (List.getElem_mem hi1))
    rcases Nat.lt_or_ge n (i - 1) with hlt | hge
    · have := List.pairwise_iff_getElem.1 hs n (i - 1) hni.2 hi1 hlt
      rw [hny] at this
      exact less_trans this hzx
    · have e : n = i - 1 := by omega
      subst e
      rw [← hny]; exact hzx
  rw [List.pairwise_append]
  refine ⟨p1, List.pairwise_cons.2 ⟨hdrop, p2⟩, fun a ha b hb => ?_⟩
  rcases List.mem_cons.1 hb with rfl | hb
  · exact htake a ha
  · exact p3 a ha b hb
theorem mem_ins {es : List Ev} {x y : Ev} {i : Nat} (h : y ∈ insAt es x i) : y = x ∨ y ∈ es := by
  unfold insAt at h
  rcases List.mem_append.1 h with h | h
  · exact .inr (List.mem_of_mem_take h)
  · rcases List.mem_cons.1 h with h | h
    · exact .inl h
    · exact .inr (List.mem_of_mem_drop h)
theorem ins_len {es : List Ev} {x : Ev} {i : Nat} (hi : i ≤ es.length) : (insAt es x i).length = es.length + 1 := by
  unfold insAt; simp; omega
/-- the event comes ahead of the place -/
def Ahead (host file at_ : Int) (y : Ev) : Prop := y.host < host ∨ (y.host = host ∧ (y.file < file ∨ (y.file = file ∧ y.beg < at_)))
def EvGood (e : Ev) : Prop := FullEv e ∧ Chain e.beg e.lines e.fin ∧ 1 ≤ e.lines.length ∧ e.lines.length ≤ 3 ∧ 1 ≤ e.host ∧ e.host ≤ 2 ∧ 5 ≤ e.file ∧ e.file ≤ 7 ∧ 0 ≤ e.beg ∧ e.beg ≤ 54000
theorem ItChain.at_ {host file : Int} {xs : List It} : ∀ {a b : Int}, ItChain host file a xs b → ∀ (k : Nat) (x : It) (a' : Int), xs[k]? = some x → ItChain host file a (xs.take k) a' → ItOk host file a' x ∧ ItChain host file a (xs.take (k + 1)) x.ev.fin := by
  induction xs with
  | nil => intro a b _ k x a' h; simp at h
  | cons y ys ih =>
    intro a b h k x a' hx ht
    cases k with
    | zero =>
      simp at hx; subst hx
      simp only [List.take_zero, ItChain] at ht
      subst ht
      exact ⟨h.1, h.1, rfl⟩
    | succ k =>
      have h2 := ih h.2 k x a' (by simpa using hx) ht.2
      exact ⟨h2.1, h.1, h2.2⟩
def OutOk (S : Nat → Prop) (w : World) (A : Option Addr) (c n : Nat) (host file at_ : Int) (es : List Ev) : Prop :=
  Evs S w A es ∧ es.length ≤ c ∧ c ≤ maxLen ∧ es.length ≤ n ∧ SrtE es ∧ (∀ e ∈ es, EvGood e) ∧ ∀ e ∈ es, Ahead host file at_ e
theorem OutOk.grown {S : Nat → Prop} {w w' : World} {A : Option Addr} {c n : Nat} {host file at_ : Int} {es : List Ev} {row : Option Nat} (h : OutOk S w A c n host file at_ es) (hg : w.grownBy w' row) (hr : ∀ b, S b → some b ≠ row) : OutOk S w' A c n host file at_ es :=
  ⟨h.1.grown hg hr, h.2⟩
theorem OutOk.turn {S : Nat → Prop} {w : World} {A : Option Addr} {c n : Nat} {host file at_ : Int} {es : List Ev} (h : OutOk S w A c n host file at_ es) {n' : Nat} {host' file' at' : Int} (hn : n ≤ n') (hk : ∀ y, EvGood y → Ahead host file at_ y → Ahead host' file' at' y) : OutOk S w A c n' host' file' at' es :=
  ⟨h.1, h.2.1, h.2.2.1, by have := h.2.2.2.1; omega, h.2.2.2.2.1, h.2.2.2.2.2.1, fun e he => hk e (h.2.2.2.2.2.1 e he) (h.2.2.2.2.2.2 e he)⟩
def EventsPost (w : World) (g : Nat) (l : List Int) (most : Int) (e : Ending) (w' : World) : Prop :=
  ∃ (A : Option Addr) (c : Nat) (es : List Ev) (k : Nat), e = .returned (.slice A es.length c) ∧ es.length ≤ c ∧ c ≤ maxLen ∧ (es.length : Int) ≤ 6 * most ∧ Evs (w.heap.size ≤ ·) w' A es ∧ SrtE es ∧ (∀ e ∈ es, EvGood e) ∧ CodesAt w' g l k ∧ w.grownBy w' (some g)
theorem Fl.load11 {S : Nat → Prop} {w : World} {b off : Nat} {xs : List It} (h : Rd S w (some ⟨b, off, none⟩) (xs.flatMap It.cells)) {i : Nat} {y : It} (hy : xs[i]? = some y) :
    w.cell? ⟨b, off + i * 11, none⟩ = some (.string y.rule) ∧ w.cell? ⟨b, off + i * 11 + 1, none⟩ = some (.int .i64 y.ev.host) ∧ w.cell? ⟨b, off + i * 11 + 2, none⟩ = some (.int .i64 y.ev.file) ∧ w.cell? ⟨b, off + i * 11 + 3, none⟩ = some (.int .i64 y.ev.beg) ∧
    w.cell? ⟨b, off + i * 11 + 4, none⟩ = some (.int .i64 y.ev.fin) ∧ w.cell? ⟨b, off + i * 11 + 5, none⟩ = some (.slice y.ev.la y.ev.lines.length y.ev.lc) ∧ w.cell? ⟨b, off + i * 11 + 6, none⟩ = some (.int .i64 y.ev.time) ∧
    w.cell? ⟨b, off + i * 11 + 7, none⟩ = some (.int .i64 y.ev.weight) ∧ w.cell? ⟨b, off + i * 11 + 8, none⟩ = some (.string y.ev.trace) ∧ w.cell? ⟨b, off + i * 11 + 9, none⟩ = some (.string y.ev.stream) ∧ w.cell? ⟨b, off + i * 11 + 10, none⟩ = some (.slice y.ev.fa y.ev.fields.length y.ev.fc) := by
  have hi : i < xs.length := by
    rcases Nat.lt_or_ge i xs.length with h | h
    · exact h
    · rw [List.getElem?_eq_none h] at hy; cases hy
  have hyi : xs[i] = y := by rw [List.getElem?_eq_getElem hi] at hy; injection hy
  have key : ∀ j, j < 11 → w.cell? ⟨b, off + i * 11 + j, none⟩ = y.cells[j]? := by
    intro j hj
    obtain ⟨b', off', e, _, _, hc⟩ := h (by rw [flat_len _ 11 It.cells_len]; omega)
    injection e with e
    injection e with e1 e2
    subst e1 e2
    have h1 := flat_at It.cells 11 It.cells_len xs i j hi hj
    rw [hyi] at h1
    have hlt : j < y.cells.length := by rw [It.cells_len]; exact hj
    rw [List.getElem?_eq_getElem hlt] at h1 ⊢
    rw [Nat.add_assoc]
    exact hc _ _ h1
  exact ⟨key 0 (by omega), key 1 (by omega), key 2 (by omega), key 3 (by omega), key 4 (by omega), key 5 (by omega), key 6 (by omega), key 7 (by omega), key 8 (by omega), key 9 (by omega), key 10 (by omega)⟩
theorem EvGood.of {host file a : Int} {x : It} (h : ItOk host file a x) (hr : x.rule = ⟨#[]⟩) (h1 : 1 ≤ host ∧ host ≤ 2) (h2 : 5 ≤ file ∧ file ≤ 7) (h3 : 0 ≤ a ∧ a ≤ 54000) : EvGood x.ev := by
  obtain ⟨e1, e2, e3, h4, h5, h6, h7⟩ := h
  rcases h7 with ⟨_, h7⟩ | ⟨h7, _⟩
  · exact ⟨h7, by rw [e3]; exact h4, h5, h6, by omega, by omega, by omega, by omega, by omega, by omega⟩
  · rw [hr] at h7; simp [ByteArray.size] at h7

set_option maxHeartbeats 4000000 in
set_option maxRecDepth 100000 in
theorem events_some (g : Nat) (l : List Int) (k : Nat) (most : Int) (w : World) (h : CodesAt w g l k) (hm : 0 ≤ most ∧ most ≤ 300) :
    Calls Tryz.prog 23 #[.pointer (some ⟨g, 0, none⟩), .int .i64 most] w (EventsPost w g l most) := by
  have hlt0 := h.lt
  have HC := Lib.hid h
  obtain ⟨mo, rfl⟩ := Int.eq_ofNat_of_zero_le hm.1
  obtain ⟨-, hm⟩ := hm
  have hm' : mo ≤ 300 := by omega
  clear h hm
  go_enter Tryz.func23, Tryz.ntmps23
  go_wp2_with fail
  go_loopw [5, 6] (fun v i wr => ∃ (h : Nat) (A : Option Addr) (c : Nat) (es : List Ev) (k : Nat), i = .int .i64 ((h : Int) + 1) ∧ h ≤ 2 ∧ v = .slice A es.length c ∧ OutOk (w.heap.size ≤ ·) wr A c (3 * mo * h) (h + 1) 5 0 es ∧ CodesAt wr g l k ∧ w.grownBy wr (some g)) (fun _ i _ => 4 - (intOf i).toNat)
  case atStart => exact ⟨0, none, 0, [], k, rfl, by omega, rfl, ⟨⟨Rd.nil, by simp⟩, Nat.le_refl _, Nat.zero_le _, by simp, List.Pairwise.nil, by simp, by simp⟩, HC.out, only_refl _ _⟩
  case round =>
    obtain ⟨h, A, c, es, k1, rfl, hh, rfl, hO, hC, hG⟩ := hrel
    have O1 := Lib.hid hO
    have G1 := Lib.hid hG
    have hsz1 := hG.size
    clear hO hG HC
    go_wp2_with fail
    refine (next_some g l k1 2 _ hC (by omega) (by omega)).mono ?_
    rintro e w2 ⟨v2, k2, rfl, hv2, h2, hg2⟩
    have O2 : Hid (OutOk (w.heap.size ≤ ·) w2 A c (3 * mo * h) (h + 1) 5 0 es) := O1.out.grown hg2 (fun b hb => by intro e; injection e; omega)
    have G2 : Hid (w.grownBy w2 (some g)) := only_trans G1.out hg2
    have hsz2 := hg2.size
    clear hC hg2 O1 G1
    by_cases hle : (h : Int) + 1 ≤ 1 + v2
    · have hb : decide ((h : Int) + 1 ≤ 1 + v2) = true := by simp; omega
      have hh1 : h ≤ 1 := by omega
      go_wp2_with fail
      refine (files_some g l k2 ((h : Int) + 1) mo _ h2 (by omega)).mono ?_
      rintro e w3 ⟨AF, cF, fs, k3, rfl, hf3, hfc, hfm, hrF, hF, h3, hg3⟩
      have O3 : Hid (OutOk (w.heap.size ≤ ·) w3 A c (3 * mo * h) (h + 1) 5 0 es) := O2.out.grown hg3 (fun b hb => by intro e; injection e; omega)
      have G3 : Hid (w.grownBy w3 (some g)) := only_trans G2.out hg3
      have RF := Lib.hid (hrF.mono (S' := (w.heap.size ≤ ·)) (fun b hb _ => by omega))
      have F3 := Lib.hid (hF.mono (S' := (w.heap.size ≤ ·)) (fun b hb _ => by omega))
      have hsz3 := hg3.size
      clear h2 hg3 O2 G2 hrF hF
      unfold maxLen at hfm
      go_wp2_with fail
      obtain ⟨wo, rfl⟩ : ∃ wo : World, wo = wr := ⟨_, rfl⟩
      go_loopw [5, 8] (fun v i wr => ∃ (n : Nat) (A : Option Addr) (c : Nat) (es : List Ev), i = .int .i64 n ∧ n ≤ fs.length ∧ v = .slice A es.length c ∧ OutOk (w.heap.size ≤ ·) wr A c (3 * mo * h + mo * n) (h + 1) (5 + n) 0 es ∧ w3.grownBy wr none) (fun _ i _ => fs.length - (intOf i).toNat)
      case atStart => exact ⟨0, A, c, es, rfl, Nat.zero_le _, rfl, by simpa using O3.out, only_refl _ _⟩
      case round =>
        obtain ⟨n, A4, c4, es4, rfl, hn, rfl, hO4, hG4⟩ := hrel
        have O4 := Lib.hid hO4
        have G4 := Lib.hid hG4
        have hsz4 := hG4.size
        clear hO4 hG4
        by_cases hnl : n < fs.length
        · obtain ⟨f, hf⟩ : ∃ f, fs[n]? = some f := ⟨_, List.getElem?_eq_getElem hnl⟩
          have hfo := F3.out n f hf
          obtain ⟨hrI, hic, hicm, himo, ⟨fin, hch⟩, hsub⟩ := hfo
          obtain ⟨bF, oF, rfl, hbF, -, hcF⟩ := RF.out (by simp; omega)
          have HCF : Hid (∀ W', w3.grownBy W' none → W'.cell? ⟨bF, oF + n, none⟩ = some (.slice f.a f.items.length f.c)) := fun W' hW' => by
            obtain ⟨b', o', e', -, -, hc'⟩ := (RF.out.grown hW' (by simp)) (by simp; omega)
            injection e' with e'
            injection e' with e1 e2
            subst e1 e2
            exact hc' n _ (by rw [List.getElem?_map, hf]; rfl)
          have RI := Lib.hid hrI
          have CH := Lib.hid hch
          have SB := Lib.hid hsub
          have hmo : f.items.length ≤ mo := by omega
          unfold maxLen at hicm
          clear hf hrI hch hsub hcF himo RF
          go_wp2_with fail
          obtain ⟨wp, rfl⟩ : ∃ wp : World, wp = wr := ⟨_, rfl⟩
          go_loopw [5, 9] (fun v i wr => ∃ (m : Nat) (A : Option Addr) (c : Nat) (es : List Ev) (at_ : Int), i = .int .i64 m ∧ m ≤ f.items.length ∧ v = .slice A es.length c ∧ ItChain (h + 1) (5 + n) 0 (f.items.take m) at_ ∧ OutOk (w.heap.size ≤ ·) wr A c (3 * mo * h + mo * n + m) (h + 1) (5 + n) at_ es ∧ w3.grownBy wr none) (fun _ i _ => f.items.length - (intOf i).toNat)
          case atStart => exact ⟨0, A4, c4, es4, 0, rfl, Nat.zero_le _, rfl, rfl, O4.out, G4.out⟩
          case round =>
            obtain ⟨m, A5, c5, es5, at5, rfl, hml, rfl, hch5, hO5, hG5⟩ := hrel
            have O5 := Lib.hid hO5
            have G5 := Lib.hid hG5
            have CH5 := Lib.hid hch5
            have hsz5 := hG5.size
            have hat := hch5.le
            have hcf := HCF.out _ hG5
            clear hO5 hG5 hch5
            by_cases hmi : m < f.items.length
            · obtain ⟨x, hx⟩ : ∃ x, f.items[m]? = some x := ⟨_, List.getElem?_eq_getElem hmi⟩
              obtain ⟨hok, hch6⟩ := CH.out.at_ m x at5 hx CH5.out
              obtain ⟨bI, oI, hIa, -, -, -⟩ := RI.out (by rw [flat_len _ 11 It.cells_len]; omega)
              obtain ⟨fit, fa, fc⟩ := f
              simp only [] at *
              subst hIa
              have HI : Hid (∀ W', w3.grownBy W' none → Rd (w.heap.size ≤ ·) W' (some ⟨bI, oI, none⟩) (fit.flatMap It.cells)) := fun W' hW' => RI.out.grown hW' (by simp)
              obtain ⟨d0, d1, d2, d3, d4, d5, d6, d7, d8, d9, d10⟩ := Fl.load11 (HI.out _ G5.out) hx
              have HX := Lib.hid hx
              have HOK := Lib.hid hok
              have CH6 := Lib.hid hch6
              have SX : Hid (x.ev.Sub (w.heap.size ≤ ·) wr) := (SB.out x (List.mem_of_getElem? hx)).grown G5.out (by simp)
              clear hx hok hch6
              by_cases hr : x.rule = ⟨#[]⟩
              · rw [hr] at d0
                have HR := Lib.hid hr
                clear hr
                go_wp2_with fail
                have HI9 : Calls Tryz.prog 46 #[.slice A5 es5.length c5, .agg #[.int .i64 x.ev.host, .int .i64 x.ev.file, .int .i64 x.ev.beg, .int .i64 x.ev.fin, .slice x.ev.la x.ev.lines.length x.ev.lc, .int .i64 x.ev.time, .int .i64 x.ev.weight, .string x.ev.trace, .string x.ev.stream, .slice x.ev.fa x.ev.fields.length x.ev.fc]] wr (InsPost wr es5 x.ev) := insert_any A5 es5 c5 x.ev wr O5.out.1.1 (by
                  have h1 := O5.out.2.2.2.1
                  have : 3 * mo * h ≤ 3 * mo * 1 := Nat.mul_le_mul (Nat.le_refl _) hh1
                  have : mo * n ≤ mo * 3 := Nat.mul_le_mul (Nat.le_refl _) (by omega)
                  omega) O5.out.2.1 O5.out.2.2.1
                clear d0 d1 d2 d3 d4 d5 d6 d7 d8 d9 d10 hcf
                refine HI9.mono ?_
                clear HI9
                rintro e w6 ⟨A6, c6, i6, hi6, ha6, hb6, rfl, hc6, hm6, hr6, hg6⟩
                have hn6 : OutOk (w.heap.size ≤ ·) w6 A6 c6 (3 * mo * h + mo * n + (m + 1)) (h + 1) (5 + n) x.ev.fin (insAt es5 x.ev i6) := by
                  obtain ⟨o1, o2, o3, o4, o5, o6, o7⟩ := O5.out
                  obtain ⟨q1, q2, q3, q4, q5, q6, -⟩ := HOK.out
                  have q7 := q4.le
                  refine ⟨⟨hr6.mono (fun b hb _ => by omega), fun e he => ?_⟩, by rw [ins_len hi6]; exact hc6, hm6, by rw [ins_len hi6]; omega, srt_ins o5 hi6 ha6 hb6 (fun y hy => ?_), fun e he => ?_, fun e he => ?_⟩
                  · rcases mem_ins he with rfl | he
                    · exact SX.out.grown hg6 (by simp)
                    · exact (o1.2 e he).grown hg6 (by simp)
                  · have := o7 y hy
                    unfold Ahead at this
                    omega
                  · rcases mem_ins he with rfl | he
                    · exact EvGood.of HOK.out HR.out (by omega) (by omega) (by rw [List.length_take] at hat; omega)
                    · exact o6 e he
                  · rcases mem_ins he with rfl | he
                    · exact .inr ⟨q1, .inr ⟨q2, by omega⟩⟩
                    · have := o7 e he
                      unfold Ahead at *
                      omega
                have HN6 := Lib.hid hn6
                have G6 : Hid (w3.grownBy w6 none) := only_trans G5.out hg6
                have HL6 : Hid ((insAt es5 x.ev i6).length = es5.length + 1) := ins_len hi6
                clear hn6 hr6 hg6 ha6 hb6
                go_wp2_with fail
                go_roundw
                case rel => exact ⟨m + 1, A6, c6, insAt es5 x.ev i6, x.ev.fin, by go_num, by omega, by rw [HL6.out], CH6.out, HN6.out, G6.out⟩
                case measure => simp [intOf]; omega
              · have hr0 : x.rule.toList ≠ [] := fun e => hr (by
                  rw [ByteArray.toList_eq] at e
                  exact ByteArray.ext (by simpa using e))
                have hr1 : x.rule.toList.isEmpty = false := by simpa using hr0
                clear hr
                go_wp2_with fail
                go_roundw
                case rel => exact ⟨m + 1, A5, c5, es5, x.ev.fin, by go_num, by omega, rfl, CH6.out, O5.out.turn (by omega) (fun y _ hy => by have := HOK.out.2.2.2.1.le; unfold Ahead at *; omega), G5.out⟩
                case measure => simp [intOf]; omega
            · have hmm : m = f.items.length := by omega
              clear hmi
              go_wp2_with fail
              go_roundw
              case rel => exact ⟨n + 1, A5, c5, es5, by go_num, by omega, rfl, O5.out.turn (by rw [Nat.mul_add]; omega) (fun y _ hy => by unfold Ahead at *; omega), G5.out⟩
              case measure => simp [intOf]; omega
        · have hnn : n = fs.length := by omega
          clear hnl
          have h5 := h3.grown G4.out (by simp)
          go_wp2_with fail
          go_roundw
          case rel => exact ⟨h + 1, A4, c4, es4, k3, by go_num, by omega, rfl, O4.out.turn (by have : mo * n ≤ mo * 3 := Nat.mul_le_mul (Nat.le_refl _) (by omega); rw [Nat.mul_add]; omega) (fun y hy hy2 => by have := hy.2.2.2.2.2.1; unfold Ahead at *; omega), h5, only_trans G3.out (only_of_none G4.out _)⟩
          case measure => simp [intOf]; omega
    · have hb : decide ((h : Int) + 1 ≤ 1 + v2) = false := by simp; omega
      go_wp2_with fail
      go_ret
      obtain ⟨o1, o2, o3, o4, o5, o6, -⟩ := O2.out
      exact ⟨A, c, es, k2, rfl, o2, o3, by have : 3 * mo * h ≤ 3 * mo * 2 := Nat.mul_le_mul (Nat.le_refl _) hh; omega, o1, o5, o6, h2, G2.out⟩
end Go.Proofs.YtganfhmjklcchaaGreat

namespace Go.Proofs.YtganfhmjklcchaaGreat
open Go.RowKit
set_option linter.unusedVariables false
set_option linter.unusedSimpArgs false

theorem ev_in {S : Nat → Prop} {w : World} {A : Option Addr} {es : List Ev} (h : Rd S w A (es.flatMap Ev.cells)) {i : Nat} {y : Ev} (hy : es[i]? = some y) :
    ∃ b off, A = some ⟨b, off, none⟩ ∧ b < w.heap.size ∧ w.cell? ⟨b, off + i * 10, none⟩ = some (.int .i64 y.host) ∧ w.cell? ⟨b, off + i * 10 + 1, none⟩ = some (.int .i64 y.file) ∧ w.cell? ⟨b, off + i * 10 + 2, none⟩ = some (.int .i64 y.beg) ∧
    w.cell? ⟨b, off + i * 10 + 3, none⟩ = some (.int .i64 y.fin) ∧ w.cell? ⟨b, off + i * 10 + 4, none⟩ = some (.slice y.la y.lines.length y.lc) ∧ w.cell? ⟨b, off + i * 10 + 5, none⟩ = some (.int .i64 y.time) ∧
    w.cell? ⟨b, off + i * 10 + 6, none⟩ = some (.int .i64 y.weight) ∧ w.cell? ⟨b, off + i * 10 + 7, none⟩ = some (.string y.trace) ∧ w.cell? ⟨b, off + i * 10 + 8, none⟩ = some (.string y.stream) ∧ w.cell? ⟨b, off + i * 10 + 9, none⟩ = some (.slice y.fa y.fields.length y.fc) := by
  obtain ⟨hi, hyi⟩ := List.getElem?_eq_some_iff.1 hy
  obtain ⟨b, off, rfl, _, hlt, _⟩ := h (by rw [flat_len _ 10 Ev.cells_len]; omega)
  exact ⟨b, off, rfl, hlt, Evs.load10 h hi hyi⟩
theorem box5 {W w' : World} {N : Nat} {a b : ByteArray} {x y : Int} {v : Value} {T : TypeId} (h : Blk W N T #[.int .i64 x, .string a, .string b, .int .i64 y, v]) (hg : W.grownBy w' none) :
    w'.cell? ⟨N, 0, none⟩ = some (.int .i64 x) ∧ w'.cell? ⟨N, 1, none⟩ = some (.string a) ∧ w'.cell? ⟨N, 2, none⟩ = some (.string b) ∧ w'.cell? ⟨N, 3, none⟩ = some (.int .i64 y) ∧ w'.cell? ⟨N, 4, none⟩ = some v := by
  have h := h.grown hg (by simp)
  exact ⟨h.cell 0, h.cell 1, h.cell 2, h.cell 3, h.cell 4⟩
end Go.Proofs.YtganfhmjklcchaaGreat
namespace Go.Proofs.YtganfhmjklcchaaGreat
open Go.RowKit
set_option linter.unusedVariables false
set_option linter.unusedSimpArgs false

theorem fld_in {S : Nat → Prop} {w : World} {fa : Option Addr} {xs : List FieldD} (h : Rd S w fa (xs.flatMap FieldD.cells)) {i : Nat} {y : FieldD} (hy : xs[i]? = some y) :
    ∃ b off, fa = some ⟨b, off, none⟩ ∧ b < w.heap.size ∧ w.cell? ⟨b, off + i * 2, none⟩ = some (.string y.name) ∧ w.cell? ⟨b, off + i * 2 + 1, none⟩ = some (.string y.value) := by
  obtain ⟨hi, hyi⟩ := List.getElem?_eq_some_iff.1 hy
  obtain ⟨b, off, rfl, _, hlt, hc⟩ := h (by rw [flat_len _ 2 FieldD.cells_len]; omega)
  have key : ∀ j, j < 2 → w.cell? ⟨b, off + i * 2 + j, none⟩ = y.cells[j]? := by
    intro j hj
    have h1 := flat_at FieldD.cells 2 FieldD.cells_len xs i j hi hj
    rw [hyi] at h1
    have hlt : j < y.cells.length := by rw [FieldD.cells_len]; exact hj
    rw [List.getElem?_eq_getElem hlt] at h1 ⊢
    rw [Nat.add_assoc]
    exact hc _ _ h1
  exact ⟨b, off, rfl, hlt, key 0 (by omega), key 1 (by omega)⟩
end Go.Proofs.YtganfhmjklcchaaGreat

namespace Go.Proofs.YtganfhmjklcchaaGreat
open Go.RowKit
set_option linter.unusedVariables false
set_option linter.unusedSimpArgs false

def eqSign : ByteArray := ⟨#[61]⟩
/-- the term of a test -/
def nmeq (nm tx : ByteArray) : ByteArray := nm ++ eqSign ++ tx
theorem nmeq_size (nm tx : ByteArray) : (nmeq nm tx).size = nm.size + 1 + tx.size := by unfold nmeq; rw [ByteArray.size_append, ByteArray.size_append]; rfl

def EvT (e : Ev) : Prop := e.lines.length ≤ 1000 ∧ (∀ l ∈ e.lines, l.text.size ≤ 1000) ∧ (textOf e.lines).size ≤ 10000 ∧ e.fields.length ≤ 1000 ∧ ∀ f ∈ e.fields, f.name.size ≤ 100 ∧ f.value.size ≤ 1000
theorem chain_text : ∀ {xs : List LineD} {a b : Int}, Chain a xs b → ∀ l ∈ xs, l.text.size ≤ 59
  | [], _, _, _, l, hl => by cases hl
  | x :: xs, a, b, h, l, hl => by
    rcases List.mem_cons.1 hl with rfl | hl
    · have := h.2.1; have := h.2.2.1; omega
    · exact chain_text h.2.2.2 l hl
theorem textOf_le {ls : List LineD} {m : Nat} (h : ∀ l ∈ ls, l.text.size ≤ m) : (textOf ls).size ≤ ls.length * (m + 1) := by
  have := join_len (ls.map (·.text.data.toList)) m (by
    intro x hx
    obtain ⟨l, hl, rfl⟩ := List.mem_map.1 hx
    have h2 := h l hl
    have : l.text.data.toList.length = l.text.size := rfl
    omega)
  rw [List.length_map] at this
  exact this
theorem EvGood.evT {e : Ev} (h : EvGood e) : EvT e := by
  obtain ⟨hf, hc, h1, h2, _⟩ := h
  have ht := chain_text hc
  refine ⟨by omega, fun l hl => Nat.le_trans (ht l hl) (by omega), ?_, ?_, fun f hfm => ?_⟩
  · have := textOf_le ht
    have : e.lines.length * (59 + 1) ≤ 3 * 60 := Nat.mul_le_mul h2 (by omega)
    omega
  · have := hf.2.2.2.2.2.1.length_le
    simp [nameTab] at this
    omega
  · have hm := hf.2.2.2.2.2.1.subset (List.mem_map_of_mem (f := FieldD.name) hfm)
    have hv := hf.2.2.2.2.2.2 f hfm
    refine ⟨?_, by omega⟩
    have hall : ∀ x ∈ nameTab.take 4, x.size ≤ 100 := by
      intro x hx
      have hx := List.mem_of_mem_take hx
      simp only [nameTab, List.mem_cons, List.not_mem_nil, or_false] at hx
      rcases hx with rfl | rfl | rfl | rfl <;> decide
    exact hall _ hm
def rawT (e : Ev) : List ByteArray := rawW (bts (textOf e.lines)) ++ e.fields.map (fun f => nmeq f.name f.value)
set_option maxHeartbeats 4000000 in
set_option maxRecDepth 100000 in
theorem terms_own {S : Nat → Prop} (e : Ev) (w : World) (hs : e.Sub S w) (ht : EvT e) :
    Calls Tryz.prog 107 #[.agg e.cells.toArray] w (DistOwn w (rawT e)) := by
  have HT : Hid (∀ w', w.grownBy w' none → Calls Tryz.prog 100 #[.agg e.cells.toArray] w' (TextP w' (textOf e.lines))) := fun w' hg => rtext_any e w' (hs.grown hg (by simp)) ht.1 (fun l hl => Nat.le_trans (ht.2.1 l hl) (by omega))
  have HW : Hid (∀ w', Calls Tryz.prog 99 #[.string (textOf e.lines)] w' (DistOwn w' (rawW (bts (textOf e.lines))))) := fun w' => rwords_own _ w' (by have := ht.2.2.1; omega)
  have HF : Hid (Rd S w e.fa (e.fields.flatMap FieldD.cells)) := hs.2.1
  have HFB : Hid (∀ f ∈ e.fields, f.name.size ≤ 100 ∧ f.value.size ≤ 1000) := ht.2.2.2.2
  have hfl : e.fields.length ≤ 1000 := ht.2.2.2.1
  have HLN : Hid ((rawW (bts (textOf e.lines))).length ≤ 20000) := Lib.hid (by have := rawW_len (bts (textOf e.lines)); rw [bts_length] at this; have := ht.2.2.1; omega)
  have HRT : Hid (rawT e = rawW (bts (textOf e.lines)) ++ e.fields.map (fun f => nmeq f.name f.value)) := Lib.hid rfl
  obtain ⟨tx, htx⟩ : ∃ tx, tx = textOf e.lines := ⟨_, rfl⟩
  rw [← htx] at HT HW HLN HRT
  clear hs ht htx
  obtain ⟨host, file, beg, fin, lines, time, weight, trace, stream, fields, la, lc, fa, fc⟩ := e
  obtain ⟨RT, hRT⟩ : ∃ x, x = rawT ⟨host, file, beg, fin, lines, time, weight, trace, stream, fields, la, lc, fa, fc⟩ := ⟨_, rfl⟩
  rw [← hRT] at HRT ⊢
  clear hRT
  show Calls _ _ #[.agg #[.int .i64 host, .int .i64 file, .int .i64 beg, .int .i64 fin, .slice la lines.length lc, .int .i64 time, .int .i64 weight, .string trace, .string stream, .slice fa fields.length fc]] w _
  simp only at hfl HF HFB
  go_enter Tryz.func107, Tryz.ntmps107
  go_wp2_with fail
  refine (HT.out _ (only_alloc (only_refl _ _) _)).mono ?_
  rintro e w1 ⟨rfl, hg1⟩
  have hB1 := (Blk.new w 67 #[.int .i64 host, .int .i64 file, .int .i64 beg, .int .i64 fin, .slice la lines.length lc, .int .i64 time, .int .i64 weight, .string trace, .string stream, .slice fa fields.length fc]).grown hg1 (by simp)
  have G1 : Hid (w.grownBy w1 none) := only_trans (only_alloc (only_refl _ _) _) hg1
  have hz1 := hg1.size
  simp at hz1
  clear hg1
  go_wp2_with fail
  refine (HW.out _).mono ?_
  rintro e w2 ⟨A2, c2, ds, rfl, hc2, hm2, hs2, he2, hl2, ho2, hg2⟩
  have hB2 := hB1.grown hg2 (by simp)
  have G2 : Hid (w.grownBy w2 none) := only_trans G1.out hg2
  have O2 := Lib.hid (own_dn ho2 (show w.heap.size + 1 ≤ w1.heap.size from hz1))
  have HE2 := Lib.hid he2
  have HL2 := Lib.hid hl2
  have hl2' : ds.length ≤ 20000 := by have := HLN.out; omega
  obtain ⟨r, hr⟩ : ∃ r, r = w.heap.size := ⟨_, rfl⟩
  have HR := Lib.hid hr
  rw [← hr] at hB1 hB2 O2 ⊢
  have B2 := Lib.hid hB2
  clear hg2 ho2 he2 hl2 hs2 hm2 hc2 hB1 hB2 hr hz1 HT HW
  go_wp2_with fail
  go_loopw [3, 4] (fun vo i wr => ∃ k : Nat, i = .int .i64 k ∧ k ≤ fields.length ∧ wr.ownsRow (r + 1) 9 1 vo (ds ++ (fields.take k).map (fun f => nmeq f.name f.value)).length ((ds ++ (fields.take k).map (fun f => nmeq f.name f.value)).map .string) ∧ Blk wr r 67 #[.int .i64 host, .int .i64 file, .int .i64 beg, .int .i64 fin, .slice la lines.length lc, .int .i64 time, .int .i64 weight, .string trace, .string stream, .slice fa fields.length fc] ∧ w.grownBy wr none) (fun _ i _ => fields.length - (intOf i).toNat)
  case atStart => exact ⟨0, rfl, Nat.zero_le _, by simpa using O2.out, B2.out, G2.out⟩
  case round =>
    obtain ⟨k, rfl, hk, hO, hB, hG⟩ := hrel
    obtain ⟨zs, hzs⟩ : ∃ zs, zs = ds ++ (fields.take k).map (fun f => nmeq f.name f.value) := ⟨_, rfl⟩
    rw [← hzs] at hO
    have HZ := Lib.hid hzs
    have hzl : zs.length ≤ 21000 := by rw [hzs]; simp; omega
    obtain ⟨Ao, co, rfl, hoc, hom, -, hro⟩ := Rd.of_own hO (by decide)
    have OO := Lib.hid hO
    have RO := Lib.hid hro
    have B := Lib.hid hB
    have G := Lib.hid hG
    have hsz := hG.size
    have hrr := hB.lt
    have e9 := hB.cell 9
    simp at e9
    clear hO hro hB hG hzs
    by_cases hlt : k < fields.length
    · obtain ⟨y, hy⟩ : ∃ y, fields[k]? = some y := ⟨_, List.getElem?_eq_getElem hlt⟩
      obtain ⟨kb, ko, rfl, hkw, z0, z1⟩ := fld_in (HF.out.grown G.out (by simp)) hy
      obtain ⟨hy1, hy2⟩ := HFB.out y (List.mem_of_getElem? hy)
      have HT1 : Hid (zs ++ [nmeq y.name y.value] = ds ++ (fields.take (k + 1)).map (fun f => nmeq f.name f.value)) := Lib.hid (by
        rw [HZ.out, List.take_succ_eq_append_getElem hlt]
        rw [List.getElem?_eq_getElem hlt] at hy
        injection hy with hy
        rw [hy]; simp)
      clear hy HZ
      go_wp2_with fail
      go_quiet (fail)
      obtain ⟨W, hWq⟩ : ∃ W, W = wr.drewN nq := ⟨_, rfl⟩
      have OW : Hid (W.ownsRow (r + 1) 9 1 (.slice Ao zs.length co) zs.length (zs.map .string)) := by rw [hWq]; exact own_drewN OO.out nq
      have BW : Hid (Blk W r 67 #[.int .i64 host, .int .i64 file, .int .i64 beg, .int .i64 fin, .slice la lines.length lc, .int .i64 time, .int .i64 weight, .string trace, .string stream, .slice (some ⟨kb, ko, none⟩) fields.length fc]) := by rw [hWq]; exact B.out
      have GW : Hid (w.grownBy W none) := by rw [hWq]; exact only_drewN G.out nq
      have hszW : w.heap.size ≤ W.heap.size := GW.out.size
      have hrW := BW.out.lt
      rw [← hWq]
      clear hWq OO B G hsz hrr z0 z1 e9
      go_wp2_with (at_builtin; refine wpList_append1 rfl _ _ 123 rfl (r + 1) Tryz.underlying123 strInfo rfl (by decide) (v := .slice Ao zs.length co) (by rfl) (w0 := W) (cs := #[.string (nmeq y.name y.value)]) OW.out (by rfl) rfl (by simp [Value.oneCell']) (by decide) (by omega) (by omega) ?_; intro v7 w7 hown7 hg7 hob7)
      have O7 : Hid (w7.ownsRow (r + 1) 9 1 v7 (ds ++ (fields.take (k + 1)).map (fun f => nmeq f.name f.value)).length ((ds ++ (fields.take (k + 1)).map (fun f => nmeq f.name f.value)).map .string)) := Lib.hid (by rw [← HT1.out]; simpa using hown7)
      have B7 := Lib.hid (BW.out.grown hg7 (by
        cases hv : (Value.slice Ao zs.length co).ownBlock with
        | none => simp
        | some g => have := (OW.out.lt g hv).1; intro e; injection e; omega))
      have G7 : Hid (w.grownBy w7 none) := Lib.hid (only_own GW.out hg7 OW.out (by have := HR.out; omega))
      clear hown7 hg7 hob7
      go_wp2_with fail
      go_roundw
      case rel => exact ⟨k + 1, by go_num, by omega, O7.out, B7.out, G7.out⟩
      case measure => simp [intOf]; omega
    · have HE : Hid (zs = ds ++ fields.map (fun f => nmeq f.name f.value)) := Lib.hid (by rw [HZ.out, List.take_of_length_le (by omega)])
      have KD := Lib.hid (distinct_own Ao zs co wr RO.out (by omega) hoc hom)
      go_wp2_with fail
      refine KD.out.mono ?_
      rintro e w3 ⟨A3, c3, ds3, rfl, d1, d2, d3, d4, d5, d6, d7⟩
      have H6 := Lib.hid (own_dn d6 hsz)
      have G3 := Lib.hid (only_trans G.out d7)
      have E4 : Hid (∀ s, s ∈ ds3 ↔ s ∈ RT) := Lib.hid (fun s => by rw [d4 s, HE.out, HRT.out, List.mem_append, List.mem_append, HE2.out s])
      have E5 : Hid (ds3.length ≤ RT.length) := Lib.hid (by
        have h1 := HL2.out
        rw [HRT.out, List.length_append, List.length_map]
        rw [HE.out, List.length_append, List.length_map] at d5
        omega)
      have E3 := Lib.hid d3
      clear d3 d4 d5 d6 d7 KD
      go_wp2_with fail
      go_ret
      exact ⟨A3, c3, ds3, rfl, d1, d2, E3.out, E4.out, E5.out, H6.out, G3.out⟩
theorem scratch_len : ∀ (e : Ev), EvT e → (rawT e).length ≤ 20000 := by
  intro e he
  have h1 := rawW_len (bts (textOf e.lines))
  rw [bts_length] at h1
  have := he.2.2.1
  have := he.2.2.2.1
  unfold rawT
  rw [List.length_append, List.length_map]
  omega
end Go.Proofs.YtganfhmjklcchaaGreat

namespace Go.Proofs.YtganfhmjklcchaaGreat
open Go.RowKit
set_option linter.unusedVariables false
set_option linter.unusedSimpArgs false

/-- a new slice of strings -/
def NewS (w : World) (ws : List ByteArray) (e : Ending) (w' : World) : Prop := ∃ A c, e = .returned (.slice A ws.length c) ∧ ws.length ≤ c ∧ c ≤ maxLen ∧ Rd (w.heap.size ≤ ·) w' A (ws.map .string) ∧ w.grownBy w' none
theorem str_onesG {l : List ByteArray} : ∀ u ∈ l.map Value.string, u.oneCell' = true := by
  intro u hu
  obtain ⟨s, -, rfl⟩ := List.mem_map.1 hu
  rfl
theorem dist_new {S : Nat → Prop} (A : Option Addr) (ws : List ByteArray) (c : Nat) (w : World) (h : Rd S w A (ws.map .string)) (hl : ws.length ≤ 1000000) (hc : ws.length ≤ c) (hm : c ≤ maxLen) :
    Calls Tryz.prog 101 #[.slice A ws.length c] w (NewS w (dist ws)) :=
  (distinct_post A ws c w h hl hc hm).mono (by
    rintro e w' ⟨A', c', ds, rfl, h1, h2, h3, h4, h5, h6, h7⟩
    obtain rfl : ds = dist ws := srt_ext h3 (dist_srt ws) (fun s => by rw [h4, dist_mem])
    exact ⟨A', c', rfl, h1, h2, h6, h7⟩)
theorem dist_len' (ws : List ByteArray) : (dist ws).length ≤ ws.length := by
  have := dist_len ws
  exact this
/-- events whose texts and fields are small -/
def EvS (e : Ev) : Prop := e.lines.length ≤ 3 ∧ (∀ l ∈ e.lines, l.text.size ≤ 59) ∧ (textOf e.lines).size ≤ 180 ∧ e.fields.length ≤ 4 ∧ (∀ f ∈ e.fields, f.name.size ≤ 20 ∧ f.value.size ≤ 20) ∧ e.trace.size ≤ 10 ∧ e.stream.size ≤ 10
def wordsE (e : Ev) : List ByteArray := dist (rawW (bts (textOf e.lines)))
theorem wordsE_len {e : Ev} (h : EvS e) : (wordsE e).length ≤ 181 := by
  have h1 := dist_len' (rawW (bts (textOf e.lines)))
  have h2 := rawW_len (bts (textOf e.lines))
  rw [bts_length] at h2
  have := h.2.2.1
  unfold wordsE
  omega
def wordsX (es : List Ev) : List ByteArray := dist (es.flatMap wordsE)
def namesE (e : Ev) : List ByteArray := e.fields.map FieldD.name
def namesX (es : List Ev) : List ByteArray := dist (es.flatMap namesE)
theorem flat_le {α β : Type} (f : α → List β) (m : Nat) : ∀ l : List α, (∀ x ∈ l, (f x).length ≤ m) → (l.flatMap f).length ≤ l.length * m
  | [], _ => by simp
  | x :: l, h => by
    rw [List.flatMap_cons, List.length_append, List.length_cons, Nat.succ_mul]
    have h1 := h x (List.mem_cons_self ..)
    have h2 := flat_le f m l (fun y hy => h y (List.mem_cons_of_mem _ hy))
    omega
theorem flat_snoc {α β : Type} (f : α → List β) {l : List α} {k : Nat} {y : α} (hy : l[k]? = some y) : (l.take (k + 1)).flatMap f = (l.take k).flatMap f ++ f y := by
  obtain ⟨h1, e⟩ := List.getElem?_eq_some_iff.1 hy
  rw [List.take_succ_eq_append_getElem h1, e, List.flatMap_append]
  simp
theorem wE_any {S : Nat → Prop} (e : Ev) (w : World) (hs : e.Sub S w) (he : EvS e) : Calls Tryz.prog 100 #[.agg e.cells.toArray] w (TextP w (textOf e.lines)) :=
  rtext_any e w hs (by have := he.1; omega) (fun l hl => by have := he.2.1 l hl; omega)
theorem wW_any (e : Ev) (w : World) (he : EvS e) : Calls Tryz.prog 99 #[.string (textOf e.lines)] w (NewS w (wordsE e)) :=
  (rwords_any _ w (by have := he.2.2.1; omega)).mono (by
    rintro e' w' ⟨A', c', ds, rfl, h1, h2, h3, h4, h5, h6, h7⟩
    obtain rfl : ds = wordsE e := srt_ext h3 (dist_srt _) (fun s => by rw [h4]; unfold wordsE; rw [dist_mem])
    exact ⟨A', c', rfl, h1, h2, h6, h7⟩)
set_option maxHeartbeats 8000000 in
set_option maxRecDepth 100000 in
theorem words_any {S : Nat → Prop} (A : Option Addr) (es : List Ev) (c : Nat) (w : World) (hev : Evs S w A es) (hel : es.length ≤ 2000) (hs : ∀ e ∈ es, EvS e) :
    Calls Tryz.prog 70 #[.slice A es.length c] w (NewS w (wordsX es)) := by
  have HEV := Lib.hid hev
  have HS := Lib.hid hs
  have HL : Hid (∀ k, ((es.take k).flatMap wordsE).length ≤ 400000) := Lib.hid (fun k => by
    have h1 := flat_le wordsE 181 (es.take k) (fun e he => wordsE_len (hs e (List.mem_of_mem_take he)))
    rw [List.length_take] at h1
    have h2 : min k es.length * 181 ≤ 2000 * 181 := Nat.mul_le_mul (by omega) (Nat.le_refl _)
    omega)
  have KT : Hid (∀ (e : Ev) (w' : World), e ∈ es → w.grownBy w' none → Calls Tryz.prog 100 #[.agg e.cells.toArray] w' (TextP w' (textOf e.lines))) := Lib.hid (fun e w' he hg => wE_any e w' ((hev.2 e he).grown hg (by simp)) (hs e he))
  have KW : Hid (∀ (e : Ev) (w' : World), e ∈ es → Calls Tryz.prog 99 #[.string (textOf e.lines)] w' (NewS w' (wordsE e))) := Lib.hid (fun e w' he => wW_any e w' (hs e he))
  have HSN : Hid (∀ (k : Nat) (y : Ev), es[k]? = some y → (es.take (k + 1)).flatMap wordsE = (es.take k).flatMap wordsE ++ wordsE y) := Lib.hid (fun k y hy => flat_snoc wordsE hy)
  have HX : Hid (wordsX es = dist (es.flatMap wordsE)) := Lib.hid rfl
  obtain ⟨R, hR⟩ : ∃ r, r = wordsX es := ⟨_, rfl⟩
  rw [← hR] at HX ⊢
  clear hev hs hR
  go_enter Tryz.func70, Tryz.ntmps70
  go_wp2_with fail
  go_loopw [3, 4] (fun v vi wr => ∃ (k : Nat) (ws : List ByteArray), vi = .int .i64 k ∧ k ≤ es.length ∧ Hid ((es.take k).flatMap wordsE = ws) ∧ wr.ownsRow w.heap.size 9 1 v ws.length (ws.map .string) ∧ w.grownBy wr none) (fun _ vi _ => es.length - (intOf vi).toNat)
  case atStart => exact ⟨0, [], rfl, Nat.zero_le _, Lib.hid rfl, World.ownsRow_nil _ _ _ _, only_refl _ _⟩
  case round =>
    obtain ⟨k, ws, rfl, hk, HK, hO, hG⟩ := hrel
    have OO := Lib.hid hO
    have G := Lib.hid hG
    have hbase : w.heap.size ≤ wr.heap.size := hG.size
    have hwl : ws.length ≤ 400000 := by rw [← HK.out]; exact HL.out k
    obtain ⟨vO, hvOd⟩ : ∃ v, v = u3 := ⟨_, rfl⟩
    rw [← hvOd] at OO ⊢
    clear hO hG hvOd
    by_cases hlt : k < es.length
    · obtain ⟨y, hy⟩ : ∃ y, es[k]? = some y := ⟨_, List.getElem?_eq_getElem hlt⟩
      obtain ⟨kb, ko, eE, hkw, z0, z1, z2, z3, z4, z5, z6, z7, z8, z9⟩ := ev_in (HEV.out.1.grown G.out (by simp)) hy
      subst eE
      have K1 := Lib.hid (KT.out y wr (List.mem_of_getElem? hy) G.out)
      have K2 := Lib.hid (fun w' => KW.out y w' (List.mem_of_getElem? hy))
      have hycl : y.cells.toArray = #[.int .i64 y.host, .int .i64 y.file, .int .i64 y.beg, .int .i64 y.fin, .slice y.la y.lines.length y.lc, .int .i64 y.time, .int .i64 y.weight, .string y.trace, .string y.stream, .slice y.fa y.fields.length y.fc] := rfl
      rw [hycl] at K1
      have HS1 := Lib.hid (HSN.out k y hy)
      have hyl : (wordsE y).length ≤ 181 := wordsE_len (HS.out y (List.mem_of_getElem? hy))
      have i1 : (k : Int) < (es.length : Int) := by omega
      clear hy hycl
      go_wp2_with fail
      refine K1.out.mono ?_
      rintro e w2 ⟨rfl, hg2⟩
      have G2 := Lib.hid (only_trans G.out hg2)
      have O2 := Lib.hid (own_ext OO.out hg2)
      clear hg2
      go_wp2_with fail
      refine (K2.out w2).mono ?_
      rintro e w3 ⟨AW, cW, rfl, h1, h2, h3, hg3⟩
      have G3 := Lib.hid (only_trans G2.out hg3)
      have O3 := Lib.hid (own_ext O2.out hg3)
      have R3 := Lib.hid h3
      have hb3 : w.heap.size ≤ w3.heap.size := G3.out.size
      clear h1 h2 h3 hg3 z0 z1 z2 z3 z4 z5 z6 z7 z8 z9
      go_wp2_with (at_builtin; go_must (refine wpList_appendN rfl _ _ 123 rfl w.heap.size Tryz.underlying123 strInfo rfl (by decide) (v := vO) (by rfl) O3.out AW (wordsE y).length cW (by rfl) R3.out (by simp) str_onesG (by decide) (by omega) (by omega) ?_); intro v5 w5 hown5 hg5 hob5)
      have O5 : Hid (w5.ownsRow w.heap.size 9 1 v5 (ws ++ wordsE y).length ((ws ++ wordsE y).map .string)) := Lib.hid (by rw [List.length_append, List.map_append]; exact hown5)
      have G5 : Hid (w.grownBy w5 none) := Lib.hid (only_own G3.out hg5 O3.out (Nat.le_refl _))
      clear hown5 hg5 hob5
      go_wp2_with fail
      go_roundw
      case rel => exact ⟨k + 1, ws ++ wordsE y, by go_num, by omega, Lib.hid (by rw [HS1.out, HK.out]), O5.out, G5.out⟩
      case measure => simp [intOf]; omega
    · have i1 : ¬ (k : Int) < (es.length : Int) := by omega
      obtain ⟨AO, cO, hv, h1, h2, -, h3⟩ := Rd.of_own OO.out (by decide)
      have HE : Hid (R = dist ws) := Lib.hid (by have h := HK.out; rw [List.take_of_length_le (by omega)] at h; rw [HX.out, h])
      have KD := Lib.hid (dist_new AO ws cO wr h3 (by omega) h1 h2)
      rw [hv]
      clear hv h1 h2 h3 OO
      go_wp2_with fail
      refine KD.out.mono ?_
      rintro e w3 ⟨AD, cD, rfl, d1, d2, d3, hg3⟩
      have D3 := Lib.hid (d3.mono (S' := (w.heap.size ≤ ·)) (fun b hb _ => Nat.le_trans hbase hb))
      have D12 := Lib.hid (And.intro d1 d2)
      have G3 := Lib.hid (only_trans G.out hg3)
      clear d1 d2 d3 hg3
      go_wp2_with fail
      go_ret
      rw [HE.out]
      exact ⟨AD, cD, rfl, D12.out.1, D12.out.2, D3.out, G3.out⟩
set_option maxHeartbeats 8000000 in
set_option maxRecDepth 100000 in
theorem names_any {S : Nat → Prop} (A : Option Addr) (es : List Ev) (c : Nat) (w : World) (hev : Evs S w A es) (hel : es.length ≤ 2000) (hs : ∀ e ∈ es, EvS e) :
    Calls Tryz.prog 71 #[.slice A es.length c] w (NewS w (namesX es)) := by
  have HEV := Lib.hid hev
  have HS := Lib.hid hs
  have HL : Hid (∀ k, ((es.take k).flatMap namesE).length ≤ 8000) := Lib.hid (fun k => by
    have h1 := flat_le namesE 4 (es.take k) (fun e he => by unfold namesE; rw [List.length_map]; exact (hs e (List.mem_of_mem_take he)).2.2.2.1)
    rw [List.length_take] at h1
    have h2 : min k es.length * 4 ≤ 2000 * 4 := Nat.mul_le_mul (by omega) (Nat.le_refl _)
    omega)
  have HSN : Hid (∀ (k : Nat) (y : Ev), es[k]? = some y → (es.take (k + 1)).flatMap namesE = (es.take k).flatMap namesE ++ namesE y) := Lib.hid (fun k y hy => flat_snoc namesE hy)
  have HX : Hid (namesX es = dist (es.flatMap namesE)) := Lib.hid rfl
  obtain ⟨R, hR⟩ : ∃ r, r = namesX es := ⟨_, rfl⟩
  rw [← hR] at HX ⊢
  clear hev hs hR
  go_enter Tryz.func71, Tryz.ntmps71
  go_wp2_with fail
  go_loopw [3, 4] (fun v vi wr => ∃ (k : Nat) (ws : List ByteArray), vi = .int .i64 k ∧ k ≤ es.length ∧ Hid ((es.take k).flatMap namesE = ws) ∧ wr.ownsRow w.heap.size 9 1 v ws.length (ws.map .string) ∧ w.grownBy wr none) (fun _ vi _ => es.length - (intOf vi).toNat)
  case atStart => exact ⟨0, [], rfl, Nat.zero_le _, Lib.hid rfl, World.ownsRow_nil _ _ _ _, only_refl _ _⟩
  case round =>
    obtain ⟨k, ws, rfl, hk, HK, hO, hG⟩ := hrel
    have OO := Lib.hid hO
    have G := Lib.hid hG
    have hbase : w.heap.size ≤ wr.heap.size := hG.size
    have hwl : ws.length ≤ 8000 := by rw [← HK.out]; exact HL.out k
    obtain ⟨vO, hvOd⟩ : ∃ v, v = u3 := ⟨_, rfl⟩
    rw [← hvOd] at OO ⊢
    clear hO hG hvOd
    by_cases hlt : k < es.length
    · obtain ⟨y, hy⟩ : ∃ y, es[k]? = some y := ⟨_, List.getElem?_eq_getElem hlt⟩
      have HY := Lib.hid hy
      obtain ⟨kb, ko, eE, -⟩ := ev_in (HEV.out.1.grown G.out (by simp)) hy
      subst eE
      have HS1 := Lib.hid (HSN.out k y hy)
      have hfl : y.fields.length ≤ 4 := (HS.out y (List.mem_of_getElem? hy)).2.2.2.1
      have HFR := Lib.hid ((HEV.out.2 y (List.mem_of_getElem? hy)).2.1)
      have i1 : (k : Int) < (es.length : Int) := by omega
      clear hy
      go_wp2_with fail
      obtain ⟨wo, rfl⟩ : ∃ wo : World, wo = wr := ⟨_, rfl⟩
      go_loopw [3, 5] (fun v vj wr => ∃ (j : Nat), vj = .int .i64 j ∧ j ≤ y.fields.length ∧ wr.ownsRow w.heap.size 9 1 v (ws ++ (namesE y).take j).length ((ws ++ (namesE y).take j).map .string) ∧ w.grownBy wr none) (fun _ vj _ => y.fields.length - (intOf vj).toNat)
      case atStart => exact ⟨0, rfl, Nat.zero_le _, by simpa using OO.out, G.out⟩
      case round =>
        obtain ⟨j, rfl, hj, hO2, hG2⟩ := hrel
        have O2 := Lib.hid hO2
        have G2 := Lib.hid hG2
        have hbase2 : w.heap.size ≤ wr.heap.size := hG2.size
        have hzl : (ws ++ (namesE y).take j).length ≤ 8010 := by simp [namesE]; omega
        obtain ⟨kb', ko', eE', hkw, -, -, -, -, -, -, -, -, -, z9⟩ := ev_in (HEV.out.1.grown G2.out (by simp)) HY.out
        injection eE' with eE'
        injection eE' with e1 e2
        subst e1 e2
        obtain ⟨vQ, hvQd⟩ : ∃ v, v = u3 := ⟨_, rfl⟩
        rw [← hvQd] at O2 ⊢
        clear hO2 hG2 hvQd OO G
        by_cases hlt2 : j < y.fields.length
        · obtain ⟨f, hf⟩ : ∃ f, y.fields[j]? = some f := ⟨_, List.getElem?_eq_getElem hlt2⟩
          obtain ⟨fb, fo, eF, hfw, f0, f1⟩ := fld_in (HFR.out.grown G2.out (by simp)) hf
          rw [eF] at z9
          have HNX : Hid (ws ++ (namesE y).take (j + 1) = (ws ++ (namesE y).take j) ++ [f.name]) := Lib.hid (by
            have h1 : (namesE y)[j]? = some f.name := by unfold namesE; rw [List.getElem?_map, hf]; rfl
            obtain ⟨h2, h3⟩ := List.getElem?_eq_some_iff.1 h1
            rw [List.take_succ_eq_append_getElem h2, h3, List.append_assoc])
          have i2 : (j : Int) < (y.fields.length : Int) := by omega
          obtain ⟨zs, hzs⟩ : ∃ z, z = ws ++ (namesE y).take j := ⟨_, rfl⟩
          rw [← hzs] at O2 HNX hzl
          clear hf eF hzs
          go_wp2_with (at_builtin; go_must (refine wpList_append1 rfl _ _ 123 rfl w.heap.size Tryz.underlying123 strInfo rfl (by decide) (v := vQ) (by rfl) (w0 := wr) (cs := #[.string f.name]) O2.out (by rfl) rfl (by simp [Value.oneCell']) (by decide) (by omega) (by omega) ?_); intro v5 w5 hown5 hg5 hob5)
          have O5 : Hid (w5.ownsRow w.heap.size 9 1 v5 (zs ++ [f.name]).length ((zs ++ [f.name]).map .string)) := Lib.hid (by rw [List.length_append, List.map_append]; exact hown5)
          have G5 : Hid (w.grownBy w5 none) := Lib.hid (only_own G2.out hg5 O2.out (Nat.le_refl _))
          clear hown5 hg5 hob5 z9 f0 f1
          go_wp2_with fail
          go_roundw
          case rel => exact ⟨j + 1, by go_num, by omega, by rw [HNX.out]; exact O5.out, G5.out⟩
          case measure => simp [intOf]; omega
        · have i2 : ¬ (j : Int) < (y.fields.length : Int) := by omega
          have HT : Hid ((namesE y).take j = namesE y) := Lib.hid (List.take_of_length_le (by unfold namesE; rw [List.length_map]; omega))
          rw [HT.out] at O2
          go_wp2_with fail
          go_roundw
          case rel => exact ⟨k + 1, ws ++ namesE y, by go_num, by omega, Lib.hid (by rw [HS1.out, HK.out]), O2.out, G2.out⟩
          case measure => simp [intOf]; omega
    · have i1 : ¬ (k : Int) < (es.length : Int) := by omega
      obtain ⟨AO, cO, hv, h1, h2, -, h3⟩ := Rd.of_own OO.out (by decide)
      have HE : Hid (R = dist ws) := Lib.hid (by have h := HK.out; rw [List.take_of_length_le (by omega)] at h; rw [HX.out, h])
      have KD := Lib.hid (dist_new AO ws cO wr h3 (by omega) h1 h2)
      rw [hv]
      clear hv h1 h2 h3 OO
      go_wp2_with fail
      refine KD.out.mono ?_
      rintro e w3 ⟨AD, cD, rfl, d1, d2, d3, hg3⟩
      have D3 := Lib.hid (d3.mono (S' := (w.heap.size ≤ ·)) (fun b hb _ => Nat.le_trans hbase hb))
      have D12 := Lib.hid (And.intro d1 d2)
      have G3 := Lib.hid (only_trans G.out hg3)
      clear d1 d2 d3 hg3
      go_wp2_with fail
      go_ret
      rw [HE.out]
      exact ⟨AD, cD, rfl, D12.out.1, D12.out.2, D3.out, G3.out⟩
end Go.Proofs.YtganfhmjklcchaaGreat

namespace Go.Proofs.YtganfhmjklcchaaGreat
open Go.RowKit
set_option linter.unusedVariables false
set_option linter.unusedSimpArgs false

def getF : List FieldD → ByteArray → Option ByteArray
  | [], _ => none
  | f :: fs, nm => if f.name = nm then some f.value else getF fs nm
def valV : Option ByteArray → Value
  | some s => .tuple #[.string s, .bool true]
  | none => .tuple #[.string ⟨#[]⟩, .bool false]
def ValP (w : World) (o : Option ByteArray) (e : Ending) (w' : World) : Prop := e = .returned (valV o) ∧ w.grownBy w' none
theorem str_ne {a b : ByteArray} (h : a ≠ b) : (a.toList == b.toList) = false := by
  rw [beq_eq_false_iff_ne]; exact fun e => h (toList_inj e)
set_option maxHeartbeats 4000000 in
set_option maxRecDepth 100000 in
/-- the value of a name -/
theorem rget_any {S : Nat → Prop} (fa : Option Addr) (fields : List FieldD) (fc : Nat) (nm : ByteArray) (w : World) (hr : Rd S w fa (fields.flatMap FieldD.cells)) (hl : fields.length ≤ 1000000) :
    Calls Tryz.prog 120 #[.slice fa fields.length fc, .string nm] w (ValP w (getF fields nm)) := by
  have HR := Lib.hid hr
  clear hr
  go_enter Tryz.func120, Tryz.ntmps120
  go_wp2_with fail
  go_loopw [6] (fun i wr => ∃ k : Nat, i = .int .i64 k ∧ k ≤ fields.length ∧ Hid (getF fields nm = getF (fields.drop k) nm) ∧ w.grownBy wr none) (fun i _ => fields.length - (intOf i).toNat)
  case atStart => exact ⟨0, rfl, Nat.zero_le _, Lib.hid rfl, only_refl _ _⟩
  case round =>
    obtain ⟨k, rfl, hk, HN, hG⟩ := hrel
    have G := Lib.hid hG
    clear hG
    by_cases hlt : k < fields.length
    · obtain ⟨y, hy⟩ : ∃ y, fields[k]? = some y := ⟨_, List.getElem?_eq_getElem hlt⟩
      obtain ⟨kb, ko, rfl, hkw, z0, z1⟩ := fld_in (HR.out.grown G.out (by simp)) hy
      have hd : fields.drop k = y :: fields.drop (k + 1) := by
        rw [List.getElem?_eq_getElem hlt] at hy
        injection hy with hy
        rw [← List.getElem_cons_drop hlt, hy]
      have i1 : (k : Int) < (fields.length : Int) := by omega
      by_cases he : y.name = nm
      · have q1 : (y.name.toList == nm.toList) = true := by rw [he]; simp
        have HV : Hid (getF fields nm = some y.value) := Lib.hid (by rw [HN.out, hd, getF, if_pos he])
        clear hy hd he
        go_wp2_with fail
        rw [HV.out]
        exact bodyPost_ret (v := valV (some y.value)) (by simp [results, Tryz.results120, go_sem, valV]) rfl ⟨rfl, G.out⟩
      · have q1 : (y.name.toList == nm.toList) = false := str_ne he
        have HV : Hid (getF fields nm = getF (fields.drop (k + 1)) nm) := Lib.hid (by rw [HN.out, hd, getF, if_neg he])
        clear hy hd he
        go_wp2_with fail
        go_roundw
        case rel => exact ⟨k + 1, by go_num, by omega, HV, G.out⟩
        case measure => simp [intOf]; omega
    · have i1 : ¬ (k : Int) < (fields.length : Int) := by omega
      have HV : Hid (getF fields nm = none) := Lib.hid (by rw [HN.out, List.drop_eq_nil_of_le (by omega)]; rfl)
      go_wp2_with fail
      rw [HV.out]
      exact bodyPost_ret (v := valV none) (by simp [results, Tryz.results120, go_sem, valV]) rfl ⟨rfl, G.out⟩
end Go.Proofs.YtganfhmjklcchaaGreat
