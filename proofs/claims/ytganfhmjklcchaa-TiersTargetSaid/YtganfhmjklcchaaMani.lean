/- The draw of a manifest. No condition. -/
import Derived.Test.YtganfhmjklcchaaIntake
import Derived.Test.YtganfhmjklcchaaGenC
import Derived.Deep.DeepCutAuto
namespace Go.Proofs.Ytganfhmjklcchaa
open Go.RowKit
set_option linter.unusedVariables false
set_option linter.unusedSimpArgs false

def SegOk (s : SegD) : Prop := 0 ≤ s.id ∧ 0 ≤ s.level ∧ s.level ≤ 2 ∧ 0 ≤ s.tier ∧ s.tier ≤ 2 ∧ 0 ≤ s.count ∧ s.count ≤ 8 ∧ 0 ≤ s.min ∧ s.min ≤ s.max ∧ s.max ≤ 253402300800010 ∧ 0 ≤ s.size ∧ s.size ≤ 255
def SegsOk (ss : List SegD) (nid : Int) : Prop := (ss.Pairwise fun a b => a.id < b.id) ∧ ∀ s ∈ ss, SegOk s ∧ s.id < nid
theorem SegsOk.turn {ss : List SegD} {n m : Int} (h : SegsOk ss n) (hn : n ≤ m) : SegsOk ss m := ⟨h.1, fun s hs => ⟨(h.2 s hs).1, by have := (h.2 s hs).2; omega⟩⟩
theorem SegsOk.snoc {ss : List SegD} {n : Int} (h : SegsOk ss n) {s : SegD} (hs : SegOk s) (hi : s.id = n) : SegsOk (ss ++ [s]) (n + 1) := by
  refine ⟨List.pairwise_append.2 ⟨h.1, List.pairwise_singleton _ _, fun a ha b hb => ?_⟩, fun x hx => ?_⟩
  · rw [List.mem_singleton.1 hb, hi]; exact (h.2 a ha).2
  · rcases List.mem_append.1 hx with hx | hx
    · exact ⟨(h.2 x hx).1, by have := (h.2 x hx).2; omega⟩
    · rw [List.mem_singleton.1 hx]; exact ⟨hs, by omega⟩
def zeroMani : Array Value := #[.int .i64 0, .int .i64 0, .int .i64 0, .slice none 0 0, .slice none 0 0, .slice none 0 0, .slice none 0 0]
/-- a manifest that grows -/
def MR (w : World) (g : Nat) (l : List Int) (rb mb : Nat) (num jn nid : Int) (vs : Value) (ss : List SegD) (wr : World) : Prop :=
  Blk wr rb 45 zeroMani ∧ Blk wr mb 45 #[.int .i64 num, .int .i64 nid, .int .i64 jn, vs, .slice none 0 0, .slice none 0 0, .slice none 0 0] ∧ wr.ownsRow w.heap.size 38 7 vs ss.length (ss.flatMap SegD.cells) ∧ SegsOk ss nid ∧ (∃ k, CodesAt wr g l k) ∧ w.grownBy wr (some g)
theorem MR.next {w wr w2 : World} {g : Nat} {l : List Int} {rb mb : Nat} {num jn nid : Int} {vs : Value} {ss : List SegD} {k : Nat} (h : MR w g l rb mb num jn nid vs ss wr) (hc : CodesAt w2 g l k) (hg : wr.grownBy w2 (some g)) (hlt : g < w.heap.size) (h1 : g < rb) (h2 : g < mb) : MR w g l rb mb num jn nid vs ss w2 :=
  ⟨h.1.grown hg (by intro e; injection e; omega), h.2.1.grown hg (by intro e; injection e; omega), own_only h.2.2.1 hg hlt, h.2.2.2.1, ⟨k, hc⟩, only_trans h.2.2.2.2.2 hg⟩
/-- a manifest that has been drawn -/
def ManiPost (w : World) (g : Nat) (l : List Int) (e : Ending) (w' : World) : Prop :=
  ∃ (A B C E : Option Addr) (c d f h : Nat) (num jn nid : Int) (ss : List SegD) (ms : List MarkD) (ts xs : List Tal) (k : Nat),
    e = .returned (.agg #[.int .i64 num, .int .i64 nid, .int .i64 jn, .slice A ss.length c, .slice B ms.length d, .slice C ts.length f, .slice E xs.length h]) ∧ 0 ≤ num ∧ num ≤ 8 ∧ 0 ≤ jn ∧ jn ≤ 4 ∧ 0 ≤ nid ∧ nid ≤ 26 ∧ ss.length ≤ 13 ∧ SegsOk ss nid ∧
    w'.ownsRow w.heap.size 38 7 (.slice A ss.length c) ss.length (ss.flatMap SegD.cells) ∧
    ms.length ≤ 100 ∧ ms.length ≤ d ∧ d ≤ maxLen ∧ MarksOk ms 3 0 ∧ Rd (fun b => w.heap.size ≤ b ∧ (Value.slice A ss.length c).ownBlock ≠ some b) w' B (ms.flatMap MarkD.cells) ∧
    ts.length ≤ f ∧ f ≤ maxLen ∧ ts.length ≤ 4 ∧ TSrt ts ∧ Rd (fun b => w.heap.size ≤ b ∧ (Value.slice A ss.length c).ownBlock ≠ some b) w' C (ts.flatMap Tal.cells) ∧
    xs.length ≤ h ∧ h ≤ maxLen ∧ xs.length ≤ 4 ∧ TSrt xs ∧ Rd (fun b => w.heap.size ≤ b ∧ (Value.slice A ss.length c).ownBlock ≠ some b) w' E (xs.flatMap Tal.cells) ∧ CodesAt w' g l k ∧ w.grownBy w' (some g)
/-- the next identifier is turned -/
theorem MR.nid {w wr : World} {g : Nat} {l : List Int} {rb mb : Nat} {num jn nid nid' : Int} {vs : Value} {ss : List SegD} (h : MR w g l rb mb num jn nid vs ss wr) (hn : nid ≤ nid') (hlt : g < mb) (hm : w.heap.size ≤ mb) (hr : rb ≠ mb) : MR w g l rb mb num jn nid' vs ss (wr.setCell ⟨mb, 1, none⟩ (.int .i64 nid')) := by
  obtain ⟨h1, h2, h3, h4, ⟨k, h5⟩, h6⟩ := h
  have hs := only_setCell (only_refl wr (some mb)) (p := ⟨mb, 1, none⟩) (.inl rfl) (.int .i64 nid')
  exact ⟨h1.grown hs (by intro e; injection e; exact hr (by assumption)), by simpa using h2.set_ 1 (.int .i64 nid'), own_off h3 hs (blk_norow h2 h3 (by decide)), h4.turn hn, ⟨k, h5.grown hs (fun b hb e => by injection e; omega)⟩, only_fresh h6 hs hm⟩
set_option maxHeartbeats 8000000 in
set_option maxRecDepth 100000 in
theorem manifest_some (g : Nat) (l : List Int) (k : Nat) (w : World) (h : CodesAt w g l k) :
    Calls Try.prog 17 #[.pointer (some ⟨g, 0, none⟩)] w (ManiPost w g l) := by
  have hlt0 := h.lt
  have HC := Lib.hid (h.alloc (.cells zeroMani 45))
  clear h
  go_enter Try.func17, Try.ntmps17
  go_wp2_with fail
  obtain ⟨rb, hrb⟩ : ∃ b, b = w.heap.size := ⟨_, rfl⟩
  refine (next_some g l k 9 _ (by exact HC.out) (by omega) (by omega)).mono ?_
  rintro e w1 ⟨v1, k1, rfl, hv1, h1, hg1⟩
  have hR1 : Blk w1 rb 45 zeroMani := by rw [hrb]; exact (Blk.new w _ _).grown hg1 (by intro e; injection e; omega)
  have G1 : Hid (w.grownBy w1 (some g)) := Lib.hid (only_trans (only_alloc (only_refl _ _) _) hg1)
  have hsz1 : w.heap.size + 1 ≤ w1.heap.size := by have := hg1.size; simpa using this
  have R1 := Lib.hid hR1
  clear hg1 hR1 HC
  go_wp2_with fail
  refine (next_some g l k1 5 _ h1 (by omega) (by omega)).mono ?_
  rintro e w2 ⟨v2, k2, rfl, hv2, h2, hg2⟩
  have hsz2 := hg2.size
  obtain ⟨mb, hmb⟩ : ∃ b, b = w2.heap.size := ⟨_, rfl⟩
  obtain ⟨W2, hW2⟩ : ∃ W2, W2 = w2.alloc (.cells #[.int .i64 v1, .int .i64 0, .int .i64 v2, .slice none 0 0, .slice none 0 0, .slice none 0 0, .slice none 0 0] 45) := ⟨_, rfl⟩
  have M2 : Hid (MR w g l rb mb v1 v2 0 (.slice none 0 0) [] W2) := Lib.hid (by
    rw [hW2, hmb]
    exact ⟨(R1.out.grown hg2 (by intro e; injection e; omega)).alloc _, Blk.new _ _ _, World.ownsRow_nil _ _ _ _, ⟨List.Pairwise.nil, by simp⟩, ⟨k2, h2.alloc _⟩, only_alloc (only_trans G1.out hg2) _⟩)
  have HW2 := Lib.hid hW2.symm
  have hgr : g < rb := by omega
  have hgm : g < mb := by omega
  have hrm : rb ≠ mb := by omega
  have hmr : mb ≠ rb := by omega
  have hwm : w.heap.size ≤ mb := by omega
  have HRB := Lib.hid hrb
  have HMB := Lib.hid hmb
  clear hg2 h2 h1 hrb hmb hW2 G1 R1
  go_upto_region 2 with fail
  rw [HW2.out, ← HMB.out, ← HRB.out]
  clear HW2
  obtain ⟨k3, h3⟩ := M2.out.2.2.2.2.1
  go_wp2_with fail
  refine (next_some g l k3 14 _ h3 (by omega) (by omega)).mono ?_
  rintro e w3 ⟨v3, k4, rfl, hv3, h4, hg4⟩
  have M3 := Lib.hid (M2.out.next h4 hg4 hlt0 hgr hgm)
  obtain ⟨n3, rfl⟩ := Int.eq_ofNat_of_zero_le hv3.1
  have hn3 : n3 ≤ 13 := by omega
  clear h3 h4 hg4 M2 hv3
  go_wp2_with fail
  go_loopw [4] (fun vn wr => ∃ (n : Nat) (nid : Int) (vs : Value) (ss : List SegD), vn = .int .i64 n ∧ ss.length + n ≤ 13 ∧ 0 ≤ nid ∧ nid + 2 * n ≤ 26 ∧ MR w g l rb mb v1 v2 nid vs ss wr) (fun vn _ => (intOf vn).toNat)
  case atStart => exact ⟨n3, 0, _, [], rfl, by simpa using hn3, by omega, by omega, M3.out⟩
  case round =>
    obtain ⟨n, nid, vs, ss, rfl, hsn, hnid, hnb, hM⟩ := hrel
    have M4 := Lib.hid hM
    clear hM M3
    by_cases hn0 : 0 < n
    · have i1 : (0 : Int) < (n : Int) := by omega
      go_upto_region 5 with fail
      go_cut [] (fun wx => ∃ nid1, nid ≤ nid1 ∧ nid1 ≤ nid + 1 ∧ MR w g l rb mb v1 v2 nid1 vs ss wx)
      case first =>
        obtain ⟨k5, h5⟩ := M4.out.2.2.2.2.1
        have hB5 := M4.out.2.1
        have HB5 := Lib.hid hB5
        have c5 := hB5.cell 1
        simp at c5
        clear hB5
        go_region_law (first
          | (go_simp; go_at_call 8; refine (next_some g l k5 2 _ (by exact h5.drew) (by omega) (by omega)).mono ?_; rintro e w6 ⟨v6, k6, rfl, hv6, h6, hg6⟩; have hB6 := HB5.out.drew.grown hg6 (by intro e; injection e; omega); have c6 := hB6.cell 1; have f6 := hB6.frozen 1; simp at c6; have hw6 : IntKind.i64.wrap (nid + v6) = nid + v6 := IntWalk.i64_in _ (by omega)))
        all_goals
          have M6 : Hid (MR w g l rb mb v1 v2 (nid + v6) vs ss (w6.setCell ⟨mb, 1, none⟩ (.int .i64 (nid + v6)))) := Lib.hid ((M4.out.next h6 (only_trans (only_drew (only_refl _ _)) hg6) hlt0 hgr hgm).nid (by omega) hgm hwm hrm)
          clear c5 c6 f6 hB6 hg6 h6 hw6 M4 HB5
          go_wp2_with fail
          first | go_meet | (go_simp; go_meet)
          exact ⟨nid + v6, by omega, by omega, M6.out⟩
      case rest =>
        obtain ⟨nid1, hn1, hn2, hM⟩ := hcut
        have M5 := Lib.hid hM
        clear hM M4
        obtain ⟨k5, h5⟩ := M5.out.2.2.2.2.1
        go_wp2_with fail
        refine (time_some g l k5 _ h5).mono ?_
        rintro e w6 ⟨tm, k6, rfl, htm, h6, hg6⟩
        have M6 := Lib.hid (M5.out.next h6 hg6 hlt0 hgr hgm)
        clear hg6 h5 M5
        obtain ⟨As, cs, rfl, -, -, -, -⟩ := Rd.of_own M6.out.2.2.1 (by decide)
        have hss : ss.length ≤ 13 := by omega
        go_upto_region 7 with fail
        go_cut [] (fun wx => ∃ (A' : Option Addr) (q' : Nat) (s : SegD), SegOk s ∧ s.id = nid1 ∧ Blk wx rb 45 zeroMani ∧ Blk wx mb 45 #[.int .i64 v1, .int .i64 nid1, .int .i64 v2, .slice A' (ss.length + 1) q', .slice none 0 0, .slice none 0 0, .slice none 0 0] ∧ wx.ownsRow w.heap.size 38 7 (.slice A' (ss.length + 1) q') (ss ++ [s]).length ((ss ++ [s]).flatMap SegD.cells) ∧ SegsOk (ss ++ [s]) (nid1 + 1) ∧ (∃ k, CodesAt wx g l k) ∧ w.grownBy wx (some g))
        case first =>
          have hB6 := M6.out.2.1
          have HB6 := Lib.hid hB6
          have HO6 := Lib.hid M6.out.2.2.1
          have a6 := hB6.cell 1
          have b6 := hB6.cell 3
          simp at a6 b6
          clear hB6
          have HR6 := Lib.hid M6.out.1
          have HG6 := Lib.hid M6.out.2.2.2.2.2
          obtain ⟨k7, h7⟩ := M6.out.2.2.2.2.1
          have HC6 := Lib.hid h7
          have hsz6 := M6.out.2.2.2.2.2.size
          have hnid1 : 0 ≤ nid1 := by omega
          have SO := Lib.hid M6.out.2.2.2.1
          clear h7 a6 b6 M6
          obtain ⟨W0, rfl⟩ : ∃ W0 : World, W0 = w6 := ⟨_, rfl⟩
          refine wp_region_gen 21 (JC [some (.pointer (some ⟨mb, 3, none⟩)), some (.slice As ss.length cs), some (.pointer (some ⟨mb, 1, none⟩)), some (.int .i64 (nid1)), some (.pointer (some ⟨g, 0, none⟩)), none, some (.pointer (some ⟨g, 0, none⟩)), none, some (.pointer (some ⟨g, 0, none⟩)), none, some (.int .i64 (tm)), some (.int .i64 (tm)), some (.pointer (some ⟨g, 0, none⟩)), none, none, some (.pointer (some ⟨g, 0, none⟩)), none, none, none, none, some (.pointer (some ⟨mb, 3, none⟩))] (fun D u wx => Blk wx mb 45 #[.int .i64 v1, .int .i64 nid1, .int .i64 v2, .slice As ss.length cs, .slice none 0 0, .slice none 0 0, .slice none 0 0] ∧ (D 18 = false → (∃ k, CodesAt wx g l k) ∧ W0.grownBy wx (some g)) ∧ (D 5 = true → ∃ v : Int, 0 ≤ v ∧ v < 3 ∧ u 5 = .int .i64 v) ∧ (D 7 = true → ∃ v : Int, 0 ≤ v ∧ v < 3 ∧ u 7 = .int .i64 v) ∧ (D 9 = true → ∃ v : Int, 0 ≤ v ∧ v < 9 ∧ u 9 = .int .i64 v) ∧ (D 13 = true → ∃ v : Int, 0 ≤ v ∧ v < 9 ∧ u 13 = .int .i64 v) ∧ (D 16 = true → ∃ v : Int, 0 ≤ v ∧ v < 256 ∧ u 16 = .int .i64 v) ∧ (D 14 = true → ∃ v : Int, tm ≤ v ∧ v ≤ tm + 8 ∧ u 14 = .int .i64 v) ∧ (D 17 = true → ∃ s : SegD, SegOk s ∧ s.id = nid1 ∧ u 17 = .agg s.cells.toArray) ∧ (D 14 = true → D 13 = true) ∧ (D 17 = true → D 16 = true ∧ D 14 = true ∧ D 9 = true ∧ D 7 = true ∧ D 5 = true) ∧ (D 18 = true → D 17 = true) ∧ (D 19 = true → D 18 = true) ∧ (D 18 = true → D 19 = false → ∃ (W1 : World) (s : SegD), SegOk s ∧ s.id = nid1 ∧ (∃ k, CodesAt W1 g l k) ∧ W0.grownBy W1 (some g) ∧ wx = W1.alloc (.cells s.cells.toArray 38) ∧ u 18 = .slice (some ⟨W1.heap.size, 0, none⟩) 1 1) ∧ (D 19 = true → ∃ (s : SegD), SegOk s ∧ s.id = nid1 ∧ (∃ k, CodesAt wx g l k) ∧ w.grownBy wx (some g) ∧ Blk wx rb 45 zeroMani ∧ wx.ownsRow w.heap.size 38 7 (u 19) (ss.length + 1) (ss.flatMap SegD.cells ++ s.cells)))) (by kernel_rfl) (by kernel_rfl) ?_ ?_ ?_
          · intro u
            exact ⟨(fun j c _ h => by cases h), ⟨HB6.out, (fun _ => ⟨⟨_, HC6.out.drew⟩, only_drew (only_refl _ _)⟩), (fun h => by cases h), (fun h => by cases h), (fun h => by cases h), (fun h => by cases h), (fun h => by cases h), (fun h => by cases h), (fun h => by cases h), (fun h => by cases h), (fun h => by cases h), (fun h => by cases h), (fun h => by cases h), (fun h => by cases h), fun h => by cases h⟩⟩
          · intro AA hA
            have hasz : AA.tmps.size = 57 := by rw [hA]; kernel_rfl
            have ea0 : AA.eval (.tmp 0) = .pointer (some ⟨g, 0, none⟩) := by rw [hA]; kernel_rfl
            have ea3 : AA.eval (.tmp 3) = .pointer (some ⟨mb, 0, none⟩) := by rw [hA]; kernel_rfl
            have ea5 : AA.eval (.tmp 5) = .int .i64 (tm) := by rw [hA]; kernel_rfl
            clear hA
            simp only [List.take_succ_cons, List.take_zero]
            refine .cons ?_ (.cons ?_ (.cons ?_ (.cons ?_ (.cons ?_ (.cons ?_ (.cons ?_ (.cons ?_ (.cons ?_ (.cons ?_ (.cons ?_ (.cons ?_ (.cons ?_ (.cons ?_ (.cons ?_ (.cons ?_ (.cons ?_ (.cons ?_ (.cons ?_ (.cons ?_ (.cons ?_ (.nil)))))))))))))))))))))
            · exact gd_gen (by kernel_rfl) (Want.none_ rfl) rfl (fun D u w v h => by simpa [updB, upd] using h) (fun D u ρ w kn => by
                have e0 := kn.own 3 (c := .pointer (some ⟨mb, 0, none⟩)) (by kernel_rfl) ea3
                simp [execOp, kn.rho.con, e0, go_sem])
            · exact gd_gen (by kernel_rfl) (Want.none_ rfl) rfl (fun D u w v h => by simpa [updB, upd] using h) (fun D u ρ w kn => by
                have e0 := kn.con 0 25 (c := .pointer (some ⟨mb, 3, none⟩)) (by kernel_rfl) (by omega) (by kernel_rfl) rfl
                have f0 := (kn.ext.1.cell 3)
                simp [execOp, kn.rho.con, e0, f0, go_sem])
            · exact gd_gen (by kernel_rfl) (Want.none_ rfl) rfl (fun D u w v h => by simpa [updB, upd] using h) (fun D u ρ w kn => by
                have e0 := kn.own 3 (c := .pointer (some ⟨mb, 0, none⟩)) (by kernel_rfl) ea3
                simp [execOp, kn.rho.con, e0, go_sem])
            · exact gd_gen (by kernel_rfl) (Want.none_ rfl) rfl (fun D u w v h => by simpa [updB, upd] using h) (fun D u ρ w kn => by
                have e0 := kn.con 2 27 (c := .pointer (some ⟨mb, 1, none⟩)) (by kernel_rfl) (by omega) (by kernel_rfl) rfl
                have f0 := (kn.ext.1.cell 1)
                simp [execOp, kn.rho.con, e0, f0, go_sem])
            · exact gd_gen (by kernel_rfl) (Want.none_ rfl) rfl (fun D u w v h => by simpa [updB, upd] using h) (fun D u ρ w kn => by
                have e0 := kn.own 0 (c := .pointer (some ⟨g, 0, none⟩)) (by kernel_rfl) ea0
                simp [execOp, kn.rho.con, e0, go_sem])
            · refine gd_call (by kernel_rfl) (Want.none_ rfl) 8 (fun D u ρ wx kn hD => ?_)
              have e0 := kn.con 4 29 (c := .pointer (some ⟨g, 0, none⟩)) (by kernel_rfl) (by omega) (by kernel_rfl) rfl
              obtain ⟨xb, x0, x5, x7, x9, x13, x16, x14, x17, c14, c17, c18, c19, xl, xa⟩ := kn.ext
              have h17 : D 17 = false := by cases h : D 17 with | false => rfl | true => have := (c17 h).2.2.2.2; rw [hD] at this; cases this
              have h18 : D 18 = false := by cases h : D 18 with | false => rfl | true => rw [c18 h] at h17; cases h17
              have h19 : D 19 = false := by cases h : D 19 with | false => rfl | true => rw [c19 h] at h18; cases h18
              obtain ⟨⟨k, hc⟩, hgw⟩ := x0 h18
              refine ⟨#[.pointer (some ⟨g, 0, none⟩), .int .i64 3], ?_, (next_some g l k 3 wx hc (by omega) (by omega)).mono ?_⟩
              · simp only [execOp, resolve, Deferred.ofValue, List.map_toArray, List.map_cons, List.map_nil, e0, kn.rho.con, kn.rho.fn]
                simp [go_sem]
              · rintro e w' ⟨v, k', rfl, hv, hc', hg'⟩
                exact ⟨_, rfl, (fun c h => by cases h), xb.grown hg' (by intro e; injection e; omega), (fun _ => ⟨⟨k', hc'⟩, only_trans hgw hg'⟩), (fun _ => ⟨v, hv.1, hv.2, upd_at _ _ _⟩), (fun h => by rw [updB_ne D (show (7 : Nat) ≠ 5 by omega)] at h; rw [upd_ne u _ (show (7 : Nat) ≠ 5 by omega)]; exact x7 h), (fun h => by rw [updB_ne D (show (9 : Nat) ≠ 5 by omega)] at h; rw [upd_ne u _ (show (9 : Nat) ≠ 5 by omega)]; exact x9 h), (fun h => by rw [updB_ne D (show (13 : Nat) ≠ 5 by omega)] at h; rw [upd_ne u _ (show (13 : Nat) ≠ 5 by omega)]; exact x13 h), (fun h => by rw [updB_ne D (show (16 : Nat) ≠ 5 by omega)] at h; rw [upd_ne u _ (show (16 : Nat) ≠ 5 by omega)]; exact x16 h), (fun h => by rw [updB_ne D (show (14 : Nat) ≠ 5 by omega)] at h; rw [upd_ne u _ (show (14 : Nat) ≠ 5 by omega)]; exact x14 h), (fun h => by rw [updB_ne D (show (17 : Nat) ≠ 5 by omega)] at h; rw [upd_ne u _ (show (17 : Nat) ≠ 5 by omega)]; exact x17 h), (fun h => by rw [updB_ne D (show (14 : Nat) ≠ 5 by omega)] at h; exact (by rw [updB_ne D (show (13 : Nat) ≠ 5 by omega)]; exact (c14 h))), (fun h => by rw [updB_ne D (show (17 : Nat) ≠ 5 by omega)] at h; exact ⟨(by rw [updB_ne D (show (16 : Nat) ≠ 5 by omega)]; exact (c17 h).1), (by rw [updB_ne D (show (14 : Nat) ≠ 5 by omega)]; exact (c17 h).2.1), (by rw [updB_ne D (show (9 : Nat) ≠ 5 by omega)]; exact (c17 h).2.2.1), (by rw [updB_ne D (show (7 : Nat) ≠ 5 by omega)]; exact (c17 h).2.2.2.1), (updB_at D 5)⟩), (fun h => by rw [updB_ne D (show (18 : Nat) ≠ 5 by omega)] at h; exact (by rw [updB_ne D (show (17 : Nat) ≠ 5 by omega)]; exact (c18 h))), (fun h => by rw [updB_ne D (show (19 : Nat) ≠ 5 by omega)] at h; exact (by rw [updB_ne D (show (18 : Nat) ≠ 5 by omega)]; exact (c19 h))), (fun h => by rw [updB_ne D (show (18 : Nat) ≠ 5 by omega), h18] at h; cases h), (fun h => by rw [updB_ne D (show (19 : Nat) ≠ 5 by omega), h19] at h; cases h)⟩
            · exact gd_gen (by kernel_rfl) (Want.none_ rfl) rfl (fun D u w v h => by simpa [updB, upd] using h) (fun D u ρ w kn => by
                have e0 := kn.own 0 (c := .pointer (some ⟨g, 0, none⟩)) (by kernel_rfl) ea0
                simp [execOp, kn.rho.con, e0, go_sem])
            · refine gd_call (by kernel_rfl) (Want.none_ rfl) 8 (fun D u ρ wx kn hD => ?_)
              have e0 := kn.con 6 31 (c := .pointer (some ⟨g, 0, none⟩)) (by kernel_rfl) (by omega) (by kernel_rfl) rfl
              obtain ⟨xb, x0, x5, x7, x9, x13, x16, x14, x17, c14, c17, c18, c19, xl, xa⟩ := kn.ext
              have h17 : D 17 = false := by cases h : D 17 with | false => rfl | true => have := (c17 h).2.2.2.1; rw [hD] at this; cases this
              have h18 : D 18 = false := by cases h : D 18 with | false => rfl | true => rw [c18 h] at h17; cases h17
              have h19 : D 19 = false := by cases h : D 19 with | false => rfl | true => rw [c19 h] at h18; cases h18
              obtain ⟨⟨k, hc⟩, hgw⟩ := x0 h18
              refine ⟨#[.pointer (some ⟨g, 0, none⟩), .int .i64 3], ?_, (next_some g l k 3 wx hc (by omega) (by omega)).mono ?_⟩
              · simp only [execOp, resolve, Deferred.ofValue, List.map_toArray, List.map_cons, List.map_nil, e0, kn.rho.con, kn.rho.fn]
                simp [go_sem]
              · rintro e w' ⟨v, k', rfl, hv, hc', hg'⟩
                exact ⟨_, rfl, (fun c h => by cases h), xb.grown hg' (by intro e; injection e; omega), (fun _ => ⟨⟨k', hc'⟩, only_trans hgw hg'⟩), (fun h => by rw [updB_ne D (show (5 : Nat) ≠ 7 by omega)] at h; rw [upd_ne u _ (show (5 : Nat) ≠ 7 by omega)]; exact x5 h), (fun _ => ⟨v, hv.1, hv.2, upd_at _ _ _⟩), (fun h => by rw [updB_ne D (show (9 : Nat) ≠ 7 by omega)] at h; rw [upd_ne u _ (show (9 : Nat) ≠ 7 by omega)]; exact x9 h), (fun h => by rw [updB_ne D (show (13 : Nat) ≠ 7 by omega)] at h; rw [upd_ne u _ (show (13 : Nat) ≠ 7 by omega)]; exact x13 h), (fun h => by rw [updB_ne D (show (16 : Nat) ≠ 7 by omega)] at h; rw [upd_ne u _ (show (16 : Nat) ≠ 7 by omega)]; exact x16 h), (fun h => by rw [updB_ne D (show (14 : Nat) ≠ 7 by omega)] at h; rw [upd_ne u _ (show (14 : Nat) ≠ 7 by omega)]; exact x14 h), (fun h => by rw [updB_ne D (show (17 : Nat) ≠ 7 by omega)] at h; rw [upd_ne u _ (show (17 : Nat) ≠ 7 by omega)]; exact x17 h), (fun h => by rw [updB_ne D (show (14 : Nat) ≠ 7 by omega)] at h; exact (by rw [updB_ne D (show (13 : Nat) ≠ 7 by omega)]; exact (c14 h))), (fun h => by rw [updB_ne D (show (17 : Nat) ≠ 7 by omega)] at h; exact ⟨(by rw [updB_ne D (show (16 : Nat) ≠ 7 by omega)]; exact (c17 h).1), (by rw [updB_ne D (show (14 : Nat) ≠ 7 by omega)]; exact (c17 h).2.1), (by rw [updB_ne D (show (9 : Nat) ≠ 7 by omega)]; exact (c17 h).2.2.1), (updB_at D 7), (by rw [updB_ne D (show (5 : Nat) ≠ 7 by omega)]; exact (c17 h).2.2.2.2)⟩), (fun h => by rw [updB_ne D (show (18 : Nat) ≠ 7 by omega)] at h; exact (by rw [updB_ne D (show (17 : Nat) ≠ 7 by omega)]; exact (c18 h))), (fun h => by rw [updB_ne D (show (19 : Nat) ≠ 7 by omega)] at h; exact (by rw [updB_ne D (show (18 : Nat) ≠ 7 by omega)]; exact (c19 h))), (fun h => by rw [updB_ne D (show (18 : Nat) ≠ 7 by omega), h18] at h; cases h), (fun h => by rw [updB_ne D (show (19 : Nat) ≠ 7 by omega), h19] at h; cases h)⟩
            · exact gd_gen (by kernel_rfl) (Want.none_ rfl) rfl (fun D u w v h => by simpa [updB, upd] using h) (fun D u ρ w kn => by
                have e0 := kn.own 0 (c := .pointer (some ⟨g, 0, none⟩)) (by kernel_rfl) ea0
                simp [execOp, kn.rho.con, e0, go_sem])
            · refine gd_call (by kernel_rfl) (Want.none_ rfl) 8 (fun D u ρ wx kn hD => ?_)
              have e0 := kn.con 8 33 (c := .pointer (some ⟨g, 0, none⟩)) (by kernel_rfl) (by omega) (by kernel_rfl) rfl
              obtain ⟨xb, x0, x5, x7, x9, x13, x16, x14, x17, c14, c17, c18, c19, xl, xa⟩ := kn.ext
              have h17 : D 17 = false := by cases h : D 17 with | false => rfl | true => have := (c17 h).2.2.1; rw [hD] at this; cases this
              have h18 : D 18 = false := by cases h : D 18 with | false => rfl | true => rw [c18 h] at h17; cases h17
              have h19 : D 19 = false := by cases h : D 19 with | false => rfl | true => rw [c19 h] at h18; cases h18
              obtain ⟨⟨k, hc⟩, hgw⟩ := x0 h18
              refine ⟨#[.pointer (some ⟨g, 0, none⟩), .int .i64 9], ?_, (next_some g l k 9 wx hc (by omega) (by omega)).mono ?_⟩
              · simp only [execOp, resolve, Deferred.ofValue, List.map_toArray, List.map_cons, List.map_nil, e0, kn.rho.con, kn.rho.fn]
                simp [go_sem]
              · rintro e w' ⟨v, k', rfl, hv, hc', hg'⟩
                exact ⟨_, rfl, (fun c h => by cases h), xb.grown hg' (by intro e; injection e; omega), (fun _ => ⟨⟨k', hc'⟩, only_trans hgw hg'⟩), (fun h => by rw [updB_ne D (show (5 : Nat) ≠ 9 by omega)] at h; rw [upd_ne u _ (show (5 : Nat) ≠ 9 by omega)]; exact x5 h), (fun h => by rw [updB_ne D (show (7 : Nat) ≠ 9 by omega)] at h; rw [upd_ne u _ (show (7 : Nat) ≠ 9 by omega)]; exact x7 h), (fun _ => ⟨v, hv.1, hv.2, upd_at _ _ _⟩), (fun h => by rw [updB_ne D (show (13 : Nat) ≠ 9 by omega)] at h; rw [upd_ne u _ (show (13 : Nat) ≠ 9 by omega)]; exact x13 h), (fun h => by rw [updB_ne D (show (16 : Nat) ≠ 9 by omega)] at h; rw [upd_ne u _ (show (16 : Nat) ≠ 9 by omega)]; exact x16 h), (fun h => by rw [updB_ne D (show (14 : Nat) ≠ 9 by omega)] at h; rw [upd_ne u _ (show (14 : Nat) ≠ 9 by omega)]; exact x14 h), (fun h => by rw [updB_ne D (show (17 : Nat) ≠ 9 by omega)] at h; rw [upd_ne u _ (show (17 : Nat) ≠ 9 by omega)]; exact x17 h), (fun h => by rw [updB_ne D (show (14 : Nat) ≠ 9 by omega)] at h; exact (by rw [updB_ne D (show (13 : Nat) ≠ 9 by omega)]; exact (c14 h))), (fun h => by rw [updB_ne D (show (17 : Nat) ≠ 9 by omega)] at h; exact ⟨(by rw [updB_ne D (show (16 : Nat) ≠ 9 by omega)]; exact (c17 h).1), (by rw [updB_ne D (show (14 : Nat) ≠ 9 by omega)]; exact (c17 h).2.1), (updB_at D 9), (by rw [updB_ne D (show (7 : Nat) ≠ 9 by omega)]; exact (c17 h).2.2.2.1), (by rw [updB_ne D (show (5 : Nat) ≠ 9 by omega)]; exact (c17 h).2.2.2.2)⟩), (fun h => by rw [updB_ne D (show (18 : Nat) ≠ 9 by omega)] at h; exact (by rw [updB_ne D (show (17 : Nat) ≠ 9 by omega)]; exact (c18 h))), (fun h => by rw [updB_ne D (show (19 : Nat) ≠ 9 by omega)] at h; exact (by rw [updB_ne D (show (18 : Nat) ≠ 9 by omega)]; exact (c19 h))), (fun h => by rw [updB_ne D (show (18 : Nat) ≠ 9 by omega), h18] at h; cases h), (fun h => by rw [updB_ne D (show (19 : Nat) ≠ 9 by omega), h19] at h; cases h)⟩
            · exact gd_gen (by kernel_rfl) (Want.none_ rfl) rfl (fun D u w v h => by simpa [updB, upd] using h) (fun D u ρ w kn => by
                have e0 := kn.own 5 (c := .int .i64 (tm)) (by kernel_rfl) ea5
                simp [execOp, kn.rho.con, e0, go_sem])
            · exact gd_gen (by kernel_rfl) (Want.none_ rfl) rfl (fun D u w v h => by simpa [updB, upd] using h) (fun D u ρ w kn => by
                have e0 := kn.own 5 (c := .int .i64 (tm)) (by kernel_rfl) ea5
                simp [execOp, kn.rho.con, e0, go_sem])
            · exact gd_gen (by kernel_rfl) (Want.none_ rfl) rfl (fun D u w v h => by simpa [updB, upd] using h) (fun D u ρ w kn => by
                have e0 := kn.own 0 (c := .pointer (some ⟨g, 0, none⟩)) (by kernel_rfl) ea0
                simp [execOp, kn.rho.con, e0, go_sem])
            · refine gd_call (by kernel_rfl) (Want.none_ rfl) 8 (fun D u ρ wx kn hD => ?_)
              have e0 := kn.con 12 37 (c := .pointer (some ⟨g, 0, none⟩)) (by kernel_rfl) (by omega) (by kernel_rfl) rfl
              obtain ⟨xb, x0, x5, x7, x9, x13, x16, x14, x17, c14, c17, c18, c19, xl, xa⟩ := kn.ext
              have h14 : D 14 = false := by cases h : D 14 with | false => rfl | true => have := c14 h; rw [hD] at this; cases this
              have h17 : D 17 = false := by cases h : D 17 with | false => rfl | true => have := (c17 h).2.1; rw [h14] at this; cases this
              have h18 : D 18 = false := by cases h : D 18 with | false => rfl | true => rw [c18 h] at h17; cases h17
              have h19 : D 19 = false := by cases h : D 19 with | false => rfl | true => rw [c19 h] at h18; cases h18
              obtain ⟨⟨k, hc⟩, hgw⟩ := x0 h18
              refine ⟨#[.pointer (some ⟨g, 0, none⟩), .int .i64 9], ?_, (next_some g l k 9 wx hc (by omega) (by omega)).mono ?_⟩
              · simp only [execOp, resolve, Deferred.ofValue, List.map_toArray, List.map_cons, List.map_nil, e0, kn.rho.con, kn.rho.fn]
                simp [go_sem]
              · rintro e w' ⟨v, k', rfl, hv, hc', hg'⟩
                exact ⟨_, rfl, (fun c h => by cases h), xb.grown hg' (by intro e; injection e; omega), (fun _ => ⟨⟨k', hc'⟩, only_trans hgw hg'⟩), (fun h => by rw [updB_ne D (show (5 : Nat) ≠ 13 by omega)] at h; rw [upd_ne u _ (show (5 : Nat) ≠ 13 by omega)]; exact x5 h), (fun h => by rw [updB_ne D (show (7 : Nat) ≠ 13 by omega)] at h; rw [upd_ne u _ (show (7 : Nat) ≠ 13 by omega)]; exact x7 h), (fun h => by rw [updB_ne D (show (9 : Nat) ≠ 13 by omega)] at h; rw [upd_ne u _ (show (9 : Nat) ≠ 13 by omega)]; exact x9 h), (fun _ => ⟨v, hv.1, hv.2, upd_at _ _ _⟩), (fun h => by rw [updB_ne D (show (16 : Nat) ≠ 13 by omega)] at h; rw [upd_ne u _ (show (16 : Nat) ≠ 13 by omega)]; exact x16 h), (fun h => by rw [updB_ne D (show (14 : Nat) ≠ 13 by omega)] at h; rw [upd_ne u _ (show (14 : Nat) ≠ 13 by omega)]; exact x14 h), (fun h => by rw [updB_ne D (show (17 : Nat) ≠ 13 by omega)] at h; rw [upd_ne u _ (show (17 : Nat) ≠ 13 by omega)]; exact x17 h), (fun h => by rw [updB_ne D (show (14 : Nat) ≠ 13 by omega)] at h; exact (updB_at D 13)), (fun h => by rw [updB_ne D (show (17 : Nat) ≠ 13 by omega)] at h; exact ⟨(by rw [updB_ne D (show (16 : Nat) ≠ 13 by omega)]; exact (c17 h).1), (by rw [updB_ne D (show (14 : Nat) ≠ 13 by omega)]; exact (c17 h).2.1), (by rw [updB_ne D (show (9 : Nat) ≠ 13 by omega)]; exact (c17 h).2.2.1), (by rw [updB_ne D (show (7 : Nat) ≠ 13 by omega)]; exact (c17 h).2.2.2.1), (by rw [updB_ne D (show (5 : Nat) ≠ 13 by omega)]; exact (c17 h).2.2.2.2)⟩), (fun h => by rw [updB_ne D (show (18 : Nat) ≠ 13 by omega)] at h; exact (by rw [updB_ne D (show (17 : Nat) ≠ 13 by omega)]; exact (c18 h))), (fun h => by rw [updB_ne D (show (19 : Nat) ≠ 13 by omega)] at h; exact (by rw [updB_ne D (show (18 : Nat) ≠ 13 by omega)]; exact (c19 h))), (fun h => by rw [updB_ne D (show (18 : Nat) ≠ 13 by omega), h18] at h; cases h), (fun h => by rw [updB_ne D (show (19 : Nat) ≠ 13 by omega), h19] at h; cases h)⟩
            · refine gd_eff (by kernel_rfl) (Want.none_ rfl) (fun D u ρ wx kn hD => ?_)
              have e0 := kn.con 11 36 (c := .int .i64 tm) (by kernel_rfl) (by omega) (by kernel_rfl) rfl
              have e1 := kn.slot 13 38 (by kernel_rfl) (by omega)
              have d13 := kn.dep 13 (by kernel_rfl)
              obtain ⟨xb, x0, x5, x7, x9, x13, x16, x14, x17, c14, c17, c18, c19, xl, xa⟩ := kn.ext
              have h17 : D 17 = false := by cases h : D 17 with | false => rfl | true => have := (c17 h).2.1; rw [hD] at this; cases this
              have h18 : D 18 = false := by cases h : D 18 with | false => rfl | true => rw [c18 h] at h17; cases h17
              have h19 : D 19 = false := by cases h : D 19 with | false => rfl | true => rw [c19 h] at h18; cases h18
              obtain ⟨v, hv0, hv1, hu⟩ := x13 d13
              rw [hu] at e1
              have hw : IntKind.i64.wrap (tm + v) = tm + v := IntWalk.i64_in _ (by omega)
              exact ⟨.int .i64 (tm + v), wx, by simp [execOp, kn.rho.con, e0, e1, go_sem, hw], (fun c h => by cases h), xb, (fun h => x0 h18), (fun h => by rw [updB_ne D (show (5 : Nat) ≠ 14 by omega)] at h; rw [upd_ne u _ (show (5 : Nat) ≠ 14 by omega)]; exact x5 h), (fun h => by rw [updB_ne D (show (7 : Nat) ≠ 14 by omega)] at h; rw [upd_ne u _ (show (7 : Nat) ≠ 14 by omega)]; exact x7 h), (fun h => by rw [updB_ne D (show (9 : Nat) ≠ 14 by omega)] at h; rw [upd_ne u _ (show (9 : Nat) ≠ 14 by omega)]; exact x9 h), (fun h => by rw [updB_ne D (show (13 : Nat) ≠ 14 by omega)] at h; rw [upd_ne u _ (show (13 : Nat) ≠ 14 by omega)]; exact x13 h), (fun h => by rw [updB_ne D (show (16 : Nat) ≠ 14 by omega)] at h; rw [upd_ne u _ (show (16 : Nat) ≠ 14 by omega)]; exact x16 h), (fun _ => ⟨tm + v, by omega, by omega, upd_at _ _ _⟩), (fun h => by rw [updB_ne D (show (17 : Nat) ≠ 14 by omega)] at h; rw [upd_ne u _ (show (17 : Nat) ≠ 14 by omega)]; exact x17 h), (fun _ => by rw [updB_ne D (show (13 : Nat) ≠ 14 by omega)]; exact d13), (fun h => by rw [updB_ne D (show (17 : Nat) ≠ 14 by omega)] at h; exact ⟨(by rw [updB_ne D (show (16 : Nat) ≠ 14 by omega)]; exact (c17 h).1), (updB_at D 14), (by rw [updB_ne D (show (9 : Nat) ≠ 14 by omega)]; exact (c17 h).2.2.1), (by rw [updB_ne D (show (7 : Nat) ≠ 14 by omega)]; exact (c17 h).2.2.2.1), (by rw [updB_ne D (show (5 : Nat) ≠ 14 by omega)]; exact (c17 h).2.2.2.2)⟩), (fun h => by rw [updB_ne D (show (18 : Nat) ≠ 14 by omega)] at h; exact (by rw [updB_ne D (show (17 : Nat) ≠ 14 by omega)]; exact (c18 h))), (fun h => by rw [updB_ne D (show (19 : Nat) ≠ 14 by omega)] at h; exact (by rw [updB_ne D (show (18 : Nat) ≠ 14 by omega)]; exact (c19 h))), (fun h => by rw [updB_ne D (show (18 : Nat) ≠ 14 by omega), h18] at h; cases h), (fun h => by rw [updB_ne D (show (19 : Nat) ≠ 14 by omega), h19] at h; cases h)⟩
            · exact gd_gen (by kernel_rfl) (Want.none_ rfl) rfl (fun D u w v h => by simpa [updB, upd] using h) (fun D u ρ w kn => by
                have e0 := kn.own 0 (c := .pointer (some ⟨g, 0, none⟩)) (by kernel_rfl) ea0
                simp [execOp, kn.rho.con, e0, go_sem])
            · refine gd_call (by kernel_rfl) (Want.none_ rfl) 8 (fun D u ρ wx kn hD => ?_)
              have e0 := kn.con 15 40 (c := .pointer (some ⟨g, 0, none⟩)) (by kernel_rfl) (by omega) (by kernel_rfl) rfl
              obtain ⟨xb, x0, x5, x7, x9, x13, x16, x14, x17, c14, c17, c18, c19, xl, xa⟩ := kn.ext
              have h17 : D 17 = false := by cases h : D 17 with | false => rfl | true => have := (c17 h).1; rw [hD] at this; cases this
              have h18 : D 18 = false := by cases h : D 18 with | false => rfl | true => rw [c18 h] at h17; cases h17
              have h19 : D 19 = false := by cases h : D 19 with | false => rfl | true => rw [c19 h] at h18; cases h18
              obtain ⟨⟨k, hc⟩, hgw⟩ := x0 h18
              refine ⟨#[.pointer (some ⟨g, 0, none⟩), .int .i64 256], ?_, (next_some g l k 256 wx hc (by omega) (by omega)).mono ?_⟩
              · simp only [execOp, resolve, Deferred.ofValue, List.map_toArray, List.map_cons, List.map_nil, e0, kn.rho.con, kn.rho.fn]
                simp [go_sem]
              · rintro e w' ⟨v, k', rfl, hv, hc', hg'⟩
                exact ⟨_, rfl, (fun c h => by cases h), xb.grown hg' (by intro e; injection e; omega), (fun _ => ⟨⟨k', hc'⟩, only_trans hgw hg'⟩), (fun h => by rw [updB_ne D (show (5 : Nat) ≠ 16 by omega)] at h; rw [upd_ne u _ (show (5 : Nat) ≠ 16 by omega)]; exact x5 h), (fun h => by rw [updB_ne D (show (7 : Nat) ≠ 16 by omega)] at h; rw [upd_ne u _ (show (7 : Nat) ≠ 16 by omega)]; exact x7 h), (fun h => by rw [updB_ne D (show (9 : Nat) ≠ 16 by omega)] at h; rw [upd_ne u _ (show (9 : Nat) ≠ 16 by omega)]; exact x9 h), (fun h => by rw [updB_ne D (show (13 : Nat) ≠ 16 by omega)] at h; rw [upd_ne u _ (show (13 : Nat) ≠ 16 by omega)]; exact x13 h), (fun _ => ⟨v, hv.1, hv.2, upd_at _ _ _⟩), (fun h => by rw [updB_ne D (show (14 : Nat) ≠ 16 by omega)] at h; rw [upd_ne u _ (show (14 : Nat) ≠ 16 by omega)]; exact x14 h), (fun h => by rw [updB_ne D (show (17 : Nat) ≠ 16 by omega)] at h; rw [upd_ne u _ (show (17 : Nat) ≠ 16 by omega)]; exact x17 h), (fun h => by rw [updB_ne D (show (14 : Nat) ≠ 16 by omega)] at h; exact (by rw [updB_ne D (show (13 : Nat) ≠ 16 by omega)]; exact (c14 h))), (fun h => by rw [updB_ne D (show (17 : Nat) ≠ 16 by omega)] at h; exact ⟨(updB_at D 16), (by rw [updB_ne D (show (14 : Nat) ≠ 16 by omega)]; exact (c17 h).2.1), (by rw [updB_ne D (show (9 : Nat) ≠ 16 by omega)]; exact (c17 h).2.2.1), (by rw [updB_ne D (show (7 : Nat) ≠ 16 by omega)]; exact (c17 h).2.2.2.1), (by rw [updB_ne D (show (5 : Nat) ≠ 16 by omega)]; exact (c17 h).2.2.2.2)⟩), (fun h => by rw [updB_ne D (show (18 : Nat) ≠ 16 by omega)] at h; exact (by rw [updB_ne D (show (17 : Nat) ≠ 16 by omega)]; exact (c18 h))), (fun h => by rw [updB_ne D (show (19 : Nat) ≠ 16 by omega)] at h; exact (by rw [updB_ne D (show (18 : Nat) ≠ 16 by omega)]; exact (c19 h))), (fun h => by rw [updB_ne D (show (18 : Nat) ≠ 16 by omega), h18] at h; cases h), (fun h => by rw [updB_ne D (show (19 : Nat) ≠ 16 by omega), h19] at h; cases h)⟩
            · refine gd_eff (by kernel_rfl) (Want.none_ rfl) (fun D u ρ wx kn hD => ?_)
              have e3 := kn.con 3 28 (c := .int .i64 nid1) (by kernel_rfl) (by omega) (by kernel_rfl) rfl
              have e10 := kn.con 10 35 (c := .int .i64 tm) (by kernel_rfl) (by omega) (by kernel_rfl) rfl
              have e5 := kn.slot 5 30 (by kernel_rfl) (by omega)
              have e7 := kn.slot 7 32 (by kernel_rfl) (by omega)
              have e9 := kn.slot 9 34 (by kernel_rfl) (by omega)
              have e14 := kn.slot 14 39 (by kernel_rfl) (by omega)
              have e16 := kn.slot 16 41 (by kernel_rfl) (by omega)
              have d16 := kn.dep 16 (by kernel_rfl)
              have d14 := kn.dep 14 (by kernel_rfl)
              have d9 := kn.dep 9 (by kernel_rfl)
              have d7 := kn.dep 7 (by kernel_rfl)
              have d5 := kn.dep 5 (by kernel_rfl)
              obtain ⟨xb, x0, x5, x7, x9, x13, x16, x14, x17, c14, c17, c18, c19, xl, xa⟩ := kn.ext
              have h18 : D 18 = false := by cases h : D 18 with | false => rfl | true => have := c18 h; rw [hD] at this; cases this
              have h19 : D 19 = false := by cases h : D 19 with | false => rfl | true => rw [c19 h] at h18; cases h18
              obtain ⟨a5, p5, q5, u5⟩ := x5 d5
              obtain ⟨a7, p7, q7, u7⟩ := x7 d7
              obtain ⟨a9, p9, q9, u9⟩ := x9 d9
              obtain ⟨a14, p14, q14, u14⟩ := x14 d14
              obtain ⟨a16, p16, q16, u16⟩ := x16 d16
              rw [u5] at e5; rw [u7] at e7; rw [u9] at e9; rw [u14] at e14; rw [u16] at e16
              exact ⟨.agg (SegD.mk nid1 a5 a7 a9 tm a14 a16).cells.toArray, wx, by simp [execOp, kn.rho.con, e3, e5, e7, e9, e10, e14, e16, go_sem, SegD.cells], (fun c h => by cases h), xb, (fun h => x0 h18), (fun h => by rw [updB_ne D (show (5 : Nat) ≠ 17 by omega)] at h; rw [upd_ne u _ (show (5 : Nat) ≠ 17 by omega)]; exact x5 h), (fun h => by rw [updB_ne D (show (7 : Nat) ≠ 17 by omega)] at h; rw [upd_ne u _ (show (7 : Nat) ≠ 17 by omega)]; exact x7 h), (fun h => by rw [updB_ne D (show (9 : Nat) ≠ 17 by omega)] at h; rw [upd_ne u _ (show (9 : Nat) ≠ 17 by omega)]; exact x9 h), (fun h => by rw [updB_ne D (show (13 : Nat) ≠ 17 by omega)] at h; rw [upd_ne u _ (show (13 : Nat) ≠ 17 by omega)]; exact x13 h), (fun h => by rw [updB_ne D (show (16 : Nat) ≠ 17 by omega)] at h; rw [upd_ne u _ (show (16 : Nat) ≠ 17 by omega)]; exact x16 h), (fun h => by rw [updB_ne D (show (14 : Nat) ≠ 17 by omega)] at h; rw [upd_ne u _ (show (14 : Nat) ≠ 17 by omega)]; exact x14 h), (fun _ => ⟨⟨nid1, a5, a7, a9, tm, a14, a16⟩, ⟨by show 0 ≤ nid1; omega, p5, by show a5 ≤ 2; omega, p7, by show a7 ≤ 2; omega, p9, by show a9 ≤ 8; omega, htm.1, p14, by show a14 ≤ _; omega, p16, by show a16 ≤ 255; omega⟩, rfl, upd_at _ _ _⟩), (fun h => by rw [updB_ne D (show (14 : Nat) ≠ 17 by omega)] at h; exact (by rw [updB_ne D (show (13 : Nat) ≠ 17 by omega)]; exact (c14 h))), (fun _ => ⟨(by rw [updB_ne D (show (16 : Nat) ≠ 17 by omega)]; exact d16), (by rw [updB_ne D (show (14 : Nat) ≠ 17 by omega)]; exact d14), (by rw [updB_ne D (show (9 : Nat) ≠ 17 by omega)]; exact d9), (by rw [updB_ne D (show (7 : Nat) ≠ 17 by omega)]; exact d7), (by rw [updB_ne D (show (5 : Nat) ≠ 17 by omega)]; exact d5)⟩), (fun h => by rw [updB_ne D (show (18 : Nat) ≠ 17 by omega)] at h; exact (updB_at D 17)), (fun h => by rw [updB_ne D (show (19 : Nat) ≠ 17 by omega)] at h; exact (by rw [updB_ne D (show (18 : Nat) ≠ 17 by omega)]; exact (c19 h))), (fun h => by rw [updB_ne D (show (18 : Nat) ≠ 17 by omega), h18] at h; cases h), (fun h => by rw [updB_ne D (show (19 : Nat) ≠ 17 by omega), h19] at h; cases h)⟩
            · refine gd_eff (by kernel_rfl) (Want.none_ rfl) (fun D u ρ wx kn hD => ?_)
              have e0 := kn.slot 17 42 (by kernel_rfl) (by omega)
              have d17 := kn.dep 17 (by kernel_rfl)
              obtain ⟨xb, x0, x5, x7, x9, x13, x16, x14, x17, c14, c17, c18, c19, xl, xa⟩ := kn.ext
              have h19 : D 19 = false := by cases h : D 19 with | false => rfl | true => have := c19 h; rw [hD] at this; cases this
              obtain ⟨s, hs1, hs2, hu⟩ := x17 d17
              rw [hu] at e0
              obtain ⟨hc, hgw⟩ := x0 hD
              exact ⟨.slice (some ⟨wx.heap.size, 0, none⟩) 1 1, wx.alloc (.cells s.cells.toArray 38), by simp [execOp, e0, go_sem, SegD.cells], (fun c h => by cases h), xb.alloc _, (fun h => by rw [updB_at] at h; cases h), (fun h => by rw [updB_ne D (show (5 : Nat) ≠ 18 by omega)] at h; rw [upd_ne u _ (show (5 : Nat) ≠ 18 by omega)]; exact x5 h), (fun h => by rw [updB_ne D (show (7 : Nat) ≠ 18 by omega)] at h; rw [upd_ne u _ (show (7 : Nat) ≠ 18 by omega)]; exact x7 h), (fun h => by rw [updB_ne D (show (9 : Nat) ≠ 18 by omega)] at h; rw [upd_ne u _ (show (9 : Nat) ≠ 18 by omega)]; exact x9 h), (fun h => by rw [updB_ne D (show (13 : Nat) ≠ 18 by omega)] at h; rw [upd_ne u _ (show (13 : Nat) ≠ 18 by omega)]; exact x13 h), (fun h => by rw [updB_ne D (show (16 : Nat) ≠ 18 by omega)] at h; rw [upd_ne u _ (show (16 : Nat) ≠ 18 by omega)]; exact x16 h), (fun h => by rw [updB_ne D (show (14 : Nat) ≠ 18 by omega)] at h; rw [upd_ne u _ (show (14 : Nat) ≠ 18 by omega)]; exact x14 h), (fun h => by rw [updB_ne D (show (17 : Nat) ≠ 18 by omega)] at h; rw [upd_ne u _ (show (17 : Nat) ≠ 18 by omega)]; exact x17 h), (fun h => by rw [updB_ne D (show (14 : Nat) ≠ 18 by omega)] at h; exact (by rw [updB_ne D (show (13 : Nat) ≠ 18 by omega)]; exact (c14 h))), (fun h => by rw [updB_ne D (show (17 : Nat) ≠ 18 by omega)] at h; exact ⟨(by rw [updB_ne D (show (16 : Nat) ≠ 18 by omega)]; exact (c17 h).1), (by rw [updB_ne D (show (14 : Nat) ≠ 18 by omega)]; exact (c17 h).2.1), (by rw [updB_ne D (show (9 : Nat) ≠ 18 by omega)]; exact (c17 h).2.2.1), (by rw [updB_ne D (show (7 : Nat) ≠ 18 by omega)]; exact (c17 h).2.2.2.1), (by rw [updB_ne D (show (5 : Nat) ≠ 18 by omega)]; exact (c17 h).2.2.2.2)⟩), (fun _ => by rw [updB_ne D (show (17 : Nat) ≠ 18 by omega)]; exact d17), (fun h => by rw [updB_ne D (show (19 : Nat) ≠ 18 by omega), h19] at h; cases h), (fun _ _ => ⟨wx, s, hs1, hs2, hc, hgw, rfl, upd_at _ _ _⟩), (fun h => by rw [updB_ne D (show (19 : Nat) ≠ 18 by omega), h19] at h; cases h)⟩
            · refine gd_eff (by kernel_rfl) (Want.none_ rfl) (fun D u ρ wx kn hD => ?_)
              have e0 := kn.con 1 26 (c := .slice As ss.length cs) (by kernel_rfl) (by omega) (by kernel_rfl) rfl
              have e1 := kn.slot 18 43 (by kernel_rfl) (by omega)
              have d18 := kn.dep 18 (by kernel_rfl)
              obtain ⟨xb, x0, x5, x7, x9, x13, x16, x14, x17, c14, c17, c18, c19, xl, xa⟩ := kn.ext
              obtain ⟨W1, s, hs1, hs2, ⟨k, hc⟩, hgw, hwx, hu⟩ := xl d18 hD
              subst hwx
              rw [hu] at e1
              have hO1 := own_only HO6.out hgw hlt0
              obtain ⟨v', w', hr, h1, h2, h3⟩ := run_append1 (P := Try.prog) w.heap.size 39 39 Try.underlying39 segInfo rfl (by decide) (v := .slice As ss.length cs) (n := ss.length) (xs := ss.flatMap SegD.cells) (w0 := W1) (w := W1.alloc (.cells s.cells.toArray 38)) (cs := s.cells.toArray) rfl rfl rfl rfl hO1 rfl (by simpa using SegD.one s) (by decide) (by omega) (by have := hgw.size; omega)
              have hB1 := HB6.out.grown hgw (by intro e; injection e; omega)
              have hRb := HR6.out.grown hgw (by intro e; injection e; omega)
              refine ⟨v', w', ?_, (fun c h => by cases h), hB1.grown h2 (fun e => blk_norow hB1 hO1 (by decide) e.symm), (fun h => by rw [updB_ne D (show (18 : Nat) ≠ 19 by omega), d18] at h; cases h), (fun h => by rw [updB_ne D (show (5 : Nat) ≠ 19 by omega)] at h; rw [upd_ne u _ (show (5 : Nat) ≠ 19 by omega)]; exact x5 h), (fun h => by rw [updB_ne D (show (7 : Nat) ≠ 19 by omega)] at h; rw [upd_ne u _ (show (7 : Nat) ≠ 19 by omega)]; exact x7 h), (fun h => by rw [updB_ne D (show (9 : Nat) ≠ 19 by omega)] at h; rw [upd_ne u _ (show (9 : Nat) ≠ 19 by omega)]; exact x9 h), (fun h => by rw [updB_ne D (show (13 : Nat) ≠ 19 by omega)] at h; rw [upd_ne u _ (show (13 : Nat) ≠ 19 by omega)]; exact x13 h), (fun h => by rw [updB_ne D (show (16 : Nat) ≠ 19 by omega)] at h; rw [upd_ne u _ (show (16 : Nat) ≠ 19 by omega)]; exact x16 h), (fun h => by rw [updB_ne D (show (14 : Nat) ≠ 19 by omega)] at h; rw [upd_ne u _ (show (14 : Nat) ≠ 19 by omega)]; exact x14 h), (fun h => by rw [updB_ne D (show (17 : Nat) ≠ 19 by omega)] at h; rw [upd_ne u _ (show (17 : Nat) ≠ 19 by omega)]; exact x17 h), (fun h => by rw [updB_ne D (show (14 : Nat) ≠ 19 by omega)] at h; exact (by rw [updB_ne D (show (13 : Nat) ≠ 19 by omega)]; exact (c14 h))), (fun h => by rw [updB_ne D (show (17 : Nat) ≠ 19 by omega)] at h; exact ⟨(by rw [updB_ne D (show (16 : Nat) ≠ 19 by omega)]; exact (c17 h).1), (by rw [updB_ne D (show (14 : Nat) ≠ 19 by omega)]; exact (c17 h).2.1), (by rw [updB_ne D (show (9 : Nat) ≠ 19 by omega)]; exact (c17 h).2.2.1), (by rw [updB_ne D (show (7 : Nat) ≠ 19 by omega)]; exact (c17 h).2.2.2.1), (by rw [updB_ne D (show (5 : Nat) ≠ 19 by omega)]; exact (c17 h).2.2.2.2)⟩), (fun h => by rw [updB_ne D (show (18 : Nat) ≠ 19 by omega)] at h; exact (by rw [updB_ne D (show (17 : Nat) ≠ 19 by omega)]; exact (c18 h))), (fun _ => by rw [updB_ne D (show (18 : Nat) ≠ 19 by omega)]; exact d18), (fun _ h => by rw [updB_at] at h; cases h), (fun _ => ⟨s, hs1, hs2, ⟨k, hc.grown h2 (fun b hb e => by have := (hO1.lt b e.symm).1; omega)⟩, only_own (only_trans HG6.out hgw) h2 hO1 (Nat.le_refl _), hRb.grown h2 (fun e => blk_norow hRb hO1 (by decide) e.symm), by rw [upd_at]; simpa using h1⟩)⟩
              simp only [execOp, resolve, invoke, builtin, Sem.run_bind, Sem.run_pure, Result.andThen_ok, List.map_toArray, List.map_cons, List.map_nil, e0, e1]
              simp [hr]
            · exact gd_gen (by kernel_rfl) (Want.none_ rfl) rfl (fun D u w v h => by simpa [updB, upd] using h) (fun D u ρ w kn => by
                have e0 := kn.own 3 (c := .pointer (some ⟨mb, 0, none⟩)) (by kernel_rfl) ea3
                simp [execOp, kn.rho.con, e0, go_sem])
          · intro D u w9 hJ hD
            obtain ⟨hc, xb, -, -, -, -, -, -, -, -, -, -, -, -, -, xa⟩ := hJ
            obtain ⟨s, hs1, hs2, ⟨k9, hc9⟩, hg9, hr9, ho9⟩ := xa (hD 19 (by omega))
            obtain ⟨A9, q9, e9, -, -, -, -⟩ := Rd.of_own ho9 (by decide)
            have e20 : u 20 = .pointer (some ⟨mb, 3, none⟩) := hc 20 _ rfl (hD 20 (by omega))
            rw [e9] at ho9
            simp only [List.take_succ_cons, List.take_zero, List.drop_succ_cons, List.drop_zero, putAll]
            rw [e9, e20]
            have c3 := xb.cell 3
            have f3 := xb.frozen 3
            simp at c3
            have T9 : Hid (∃ (A' : Option Addr) (q' : Nat) (s : SegD), SegOk s ∧ s.id = nid1 ∧ Blk (w9.setCell ⟨mb, 3, none⟩ (.slice A9 (ss.length + 1) q9)) rb 45 zeroMani ∧ Blk (w9.setCell ⟨mb, 3, none⟩ (.slice A9 (ss.length + 1) q9)) mb 45 #[.int .i64 v1, .int .i64 nid1, .int .i64 v2, .slice A' (ss.length + 1) q', .slice none 0 0, .slice none 0 0, .slice none 0 0] ∧ (w9.setCell ⟨mb, 3, none⟩ (.slice A9 (ss.length + 1) q9)).ownsRow w.heap.size 38 7 (.slice A' (ss.length + 1) q') (ss ++ [s]).length ((ss ++ [s]).flatMap SegD.cells) ∧ SegsOk (ss ++ [s]) (nid1 + 1) ∧ (∃ k, CodesAt (w9.setCell ⟨mb, 3, none⟩ (.slice A9 (ss.length + 1) q9)) g l k) ∧ w.grownBy (w9.setCell ⟨mb, 3, none⟩ (.slice A9 (ss.length + 1) q9)) (some g)) := Lib.hid (by
              have hs := only_setCell (only_refl w9 (some mb)) (p := ⟨mb, 3, none⟩) (.inl rfl) (.slice A9 (ss.length + 1) q9)
              have ho : w9.ownsRow w.heap.size 38 7 (.slice A9 (ss.length + 1) q9) (ss ++ [s]).length ((ss ++ [s]).flatMap SegD.cells) := by simpa using ho9
              exact ⟨A9, q9, s, hs1, hs2, hr9.grown hs (by intro e; injection e; exact hrm (by assumption)), by simpa using xb.set_ 3 (.slice A9 (ss.length + 1) q9), own_off ho hs (blk_norow xb ho (by decide)), SO.out.snoc hs1 hs2, ⟨k9, hc9.grown hs (fun b hb e => by injection e; omega)⟩, only_fresh hg9 hs hwm⟩)
            clear hc xb hc9 hg9 hr9 ho9 e9 e20 hD xa hs1 hs2
            go_wp2_with fail
            go_simp
            go_meet
            exact T9.out
        case rest =>
          obtain ⟨A7, q7, s, hs1, hs2, hR7, hB7, hO7, hS7, ⟨k7, hc7⟩, hg7⟩ := hcut
          have M7 : Hid (MR w g l rb mb v1 v2 (nid1 + 1) (.slice A7 (ss.length + 1) q7) (ss ++ [s]) (wc.setCell ⟨mb, 1, none⟩ (.int .i64 (nid1 + 1)))) := Lib.hid (by
            have hs := only_setCell (only_refl wc (some mb)) (p := ⟨mb, 1, none⟩) (.inl rfl) (.int .i64 (nid1 + 1))
            exact ⟨hR7.grown hs (by intro e; injection e; exact hrm (by assumption)), by simpa using hB7.set_ 1 (.int .i64 (nid1 + 1)), own_off hO7 hs (blk_norow hB7 hO7 (by decide)), hS7, ⟨k7, hc7.grown hs (fun b hb e => by injection e; omega)⟩, only_fresh hg7 hs hwm⟩)
          have c1 := hB7.cell 1
          have f1 := hB7.frozen 1
          simp at c1
          have hb1 : nid1 ≤ 100 := by omega
          have hb0 : 0 ≤ nid1 := by omega
          clear hs1 hs2 hR7 hB7 hO7 hS7 hc7 hg7 M6
          go_wp2_with fail
          go_roundw
          case rel => exact ⟨n - 1, nid1 + 1, _, ss ++ [s], by rw [show ((n - 1 : Nat) : Int) = (n : Int) - 1 by omega], by simp; omega, by omega, by omega, M7.out⟩
          case measure => simp [intOf]; omega
    · have i1 : ¬ ((0 : Int) < (n : Int)) := by omega
      have c4 := M4.out.2.1.cell 4
      have c5 := M4.out.2.1.cell 5
      have f4 := M4.out.2.1.frozen 4
      have f5 := M4.out.2.1.frozen 5
      obtain ⟨k5, h5⟩ := M4.out.2.2.2.2.1
      obtain ⟨As, cs, rfl, -, -, -, -⟩ := Rd.of_own M4.out.2.2.1 (by decide)
      clear c4 c5 f4 f5
      go_wp2_with fail
      refine (intake_some g l k5 _ h5).mono ?_
      rintro e w6 ⟨AI, BI, cI, dI, ms, ts, k6, rfl, hm1, hm2, hm3, hmo, hmr6, ht1, ht2, ht3, hto, htr6, h6, hg6⟩
      have M6 := Lib.hid (M4.out.next h6 hg6 hlt0 hgr hgm)
      have hmw : mb < wr.heap.size := M4.out.2.1.lt
      have RMm : Hid (Rd (fun b => (mb < b ∧ rb < b) ∧ (Value.slice As ss.length cs).ownBlock ≠ some b) w6 AI (ms.flatMap MarkD.cells)) := Lib.hid (hmr6.mono (fun b hb _ => ⟨⟨by omega, by have := M4.out.1.lt; omega⟩, fun e => by have := (M4.out.2.2.1.lt b e).2; omega⟩))
      have RTt : Hid (Rd (fun b => (mb < b ∧ rb < b) ∧ (Value.slice As ss.length cs).ownBlock ≠ some b) w6 BI (ts.flatMap Tal.cells)) := Lib.hid (htr6.mono (fun b hb _ => ⟨⟨by omega, by have := M4.out.1.lt; omega⟩, fun e => by have := (M4.out.2.2.1.lt b e).2; omega⟩))
      have c4 := M6.out.2.1.cell 4
      have c5 := M6.out.2.1.cell 5
      have f4 := M6.out.2.1.frozen 4
      have f5 := M6.out.2.1.frozen 5
      simp at c4 c5
      have HMO := Lib.hid hmo
      have HTO := Lib.hid hto
      clear hmr6 htr6 hg6 h5 M4 hmo hto h6
      obtain ⟨W7, hW7⟩ : ∃ W7, W7 = (w6.setCell ⟨mb, 4, none⟩ (.slice AI ms.length cI)).setCell ⟨mb, 5, none⟩ (.slice BI ts.length dI) := ⟨_, rfl⟩
      have hs7 : w6.grownBy W7 (some mb) := by rw [hW7]; exact only_setCell (only_setCell (only_refl _ _) (p := ⟨mb, 4, none⟩) (.inl rfl) _) (p := ⟨mb, 5, none⟩) (.inl rfl) _
      have hB7 : Blk W7 mb 45 #[.int .i64 v1, .int .i64 nid, .int .i64 v2, .slice As ss.length cs, .slice AI ms.length cI, .slice BI ts.length dI, .slice none 0 0] := by
        have := (M6.out.2.1.set_ 4 (.slice AI ms.length cI)).set_ 5 (.slice BI ts.length dI)
        rw [hW7]; simpa using this
      have HB7 := Lib.hid hB7
      have HR7 : Hid (Blk W7 rb 45 zeroMani) := Lib.hid (M6.out.1.grown hs7 (by intro e; injection e; exact hrm (by assumption)))
      have HO7 : Hid (W7.ownsRow w.heap.size 38 7 (.slice As ss.length cs) ss.length (ss.flatMap SegD.cells)) := Lib.hid (own_off M6.out.2.2.1 hs7 (blk_norow M6.out.2.1 M6.out.2.2.1 (by decide)))
      have RM7 : Hid (Rd (fun b => (mb < b ∧ rb < b) ∧ (Value.slice As ss.length cs).ownBlock ≠ some b) W7 AI (ms.flatMap MarkD.cells)) := Lib.hid (RMm.out.grown hs7 (fun b hb e => by injection e; omega))
      have RT7 : Hid (Rd (fun b => (mb < b ∧ rb < b) ∧ (Value.slice As ss.length cs).ownBlock ≠ some b) W7 BI (ts.flatMap Tal.cells)) := Lib.hid (RTt.out.grown hs7 (fun b hb e => by injection e; omega))
      have G7 : Hid (w.grownBy W7 (some g)) := Lib.hid (only_fresh M6.out.2.2.2.2.2 hs7 hwm)
      obtain ⟨k7, h7'⟩ := M6.out.2.2.2.2.1
      have h7 := h7'.grown hs7 (fun b hb e => by injection e; omega)
      have SO := Lib.hid M6.out.2.2.2.1
      have HW7 : Hid ((w6.setCell ⟨mb, 4, none⟩ (.slice AI ms.length cI)).setCell ⟨mb, 5, none⟩ (.slice BI ts.length dI) = W7) := Lib.hid hW7.symm
      clear hW7 hs7 hB7 h7' M6 RMm RTt
      go_upto_region 10 with fail
      rw [HW7.out]
      clear c4 c5 f4 f5 HW7
      go_wp2_with fail
      refine (tallies_some g l k7 _ h7).mono ?_
      rintro e w8 ⟨AX, cX, xs, k8, rfl, hx1, hx2, hx3, hxo, -, hxr, h8, hg8⟩
      have HB8 := HB7.out.grown hg8 (by intro e; injection e; omega)
      have HR8 := HR7.out.grown hg8 (by intro e; injection e; omega)
      have hmw8 := HB8.lt
      have hrw8 := HR8.lt
      obtain ⟨W9, hW9⟩ : ∃ W9, W9 = w8.setCell ⟨mb, 6, none⟩ (.slice AX xs.length cX) := ⟨_, rfl⟩
      have hs9 : w8.grownBy W9 (some mb) := by rw [hW9]; exact only_setCell (only_refl _ _) (p := ⟨mb, 6, none⟩) (.inl rfl) _
      have c6 := HB8.cell 6
      have f6 := HB8.frozen 6
      simp at c6
      have hB9 : Blk W9 mb 45 #[.int .i64 v1, .int .i64 nid, .int .i64 v2, .slice As ss.length cs, .slice AI ms.length cI, .slice BI ts.length dI, .slice AX xs.length cX] := by
        have := HB8.set_ 6 (.slice AX xs.length cX)
        rw [hW9]; simpa using this
      have hR9 := HR8.grown hs9 (by intro e; injection e; exact hrm (by assumption))
      have hO8 := own_only HO7.out hg8 hlt0
      have HO9 := Lib.hid (own_off hO8 hs9 (blk_norow HB8 hO8 (by decide)))
      have RM9 : Hid (Rd (fun b => (mb < b ∧ rb < b) ∧ (Value.slice As ss.length cs).ownBlock ≠ some b) W9 AI (ms.flatMap MarkD.cells)) := Lib.hid ((RM7.out.grown hg8 (fun b hb e => by injection e; omega)).grown hs9 (fun b hb e => by injection e; omega))
      have RT9 : Hid (Rd (fun b => (mb < b ∧ rb < b) ∧ (Value.slice As ss.length cs).ownBlock ≠ some b) W9 BI (ts.flatMap Tal.cells)) := Lib.hid ((RT7.out.grown hg8 (fun b hb e => by injection e; omega)).grown hs9 (fun b hb e => by injection e; omega))
      have RX9 : Hid (Rd (fun b => (mb < b ∧ rb < b) ∧ (Value.slice As ss.length cs).ownBlock ≠ some b) W9 AX (xs.flatMap Tal.cells)) := Lib.hid ((hxr.mono (S' := fun b => (mb < b ∧ rb < b) ∧ (Value.slice As ss.length cs).ownBlock ≠ some b) (fun b hb _ => ⟨⟨by have := HB7.out.lt; omega, by have := HR7.out.lt; omega⟩, fun e => by have := (HO7.out.lt b e).2; omega⟩)).grown hs9 (fun b hb e => by injection e; omega))
      have G9 : Hid (w.grownBy W9 (some g)) := Lib.hid (only_fresh (only_trans G7.out hg8) hs9 hwm)
      have H9 := Lib.hid (h8.grown hs9 (fun b hb e => by injection e; omega))
      have HXO := Lib.hid hxo
      have HW9 : Hid (w8.setCell ⟨mb, 6, none⟩ (.slice AX xs.length cX) = W9) := Lib.hid hW9.symm
      have HB9 := Lib.hid hB9
      have HR9 := Lib.hid hR9
      clear hW9 hs9 HB8 HR8 hO8 hxr hg8 h8 h7 hxo hB9 hR9 RM7 RT7 HO7 HB7 HR7 G7
      go_upto_region 11 with fail
      rw [HW9.out]
      clear c6 f6 HW9
      have b0 := HB9.out.cell 0
      have b1 := HB9.out.cell 1
      have b2 := HB9.out.cell 2
      have b3 := HB9.out.cell 3
      have b4 := HB9.out.cell 4
      have b5 := HB9.out.cell 5
      have b6 := HB9.out.cell 6
      have q0 := HR9.out.cell 0
      have q1 := HR9.out.cell 1
      have q2 := HR9.out.cell 2
      have q3 := HR9.out.cell 3
      have q4 := HR9.out.cell 4
      have q5 := HR9.out.cell 5
      have q6 := HR9.out.cell 6
      have p0 := HR9.out.frozen 0
      have p1 := HR9.out.frozen 1
      have p2 := HR9.out.frozen 2
      have p3 := HR9.out.frozen 3
      have p4 := HR9.out.frozen 4
      have p5 := HR9.out.frozen 5
      have p6 := HR9.out.frozen 6
      simp [zeroMani] at b0 b1 b2 b3 b4 b5 b6 q0 q1 q2 q3 q4 q5 q6
      go_wp2_with fail
      have hwr : w.heap.size ≤ rb := by have := HRB.out; omega
      have s6 := only_setCell (only_setCell (only_setCell (only_setCell (only_setCell (only_setCell (only_setCell (only_refl W9 (some rb)) (p := ⟨rb, 0, none⟩) (.inl rfl) (.int .i64 v1)) (p := ⟨rb, 1, none⟩) (.inl rfl) (.int .i64 nid)) (p := ⟨rb, 2, none⟩) (.inl rfl) (.int .i64 v2)) (p := ⟨rb, 3, none⟩) (.inl rfl) (.slice As ss.length cs)) (p := ⟨rb, 4, none⟩) (.inl rfl) (.slice AI ms.length cI)) (p := ⟨rb, 5, none⟩) (.inl rfl) (.slice BI ts.length dI)) (p := ⟨rb, 6, none⟩) (.inl rfl) (.slice AX xs.length cX)
      have hr : ∀ b, (mb < b ∧ rb < b) ∧ (Value.slice As ss.length cs).ownBlock ≠ some b → some b ≠ some rb := fun b hb e => by injection e; omega
      have hm : ∀ b, (mb < b ∧ rb < b) ∧ (Value.slice As ss.length cs).ownBlock ≠ some b → b < W9.heap.size → w.heap.size ≤ b := fun b hb _ => by omega
      refine bodyPost_ret (v := .agg #[.int .i64 v1, .int .i64 nid, .int .i64 v2, .slice As ss.length cs, .slice AI ms.length cI, .slice BI ts.length dI, .slice AX xs.length cX]) (by simp [results, Try.results17, go_sem, q0, q1, q2, q3, q4, q5, q6]) rfl ?_
      exact ⟨As, AI, BI, AX, cs, cI, dI, cX, v1, v2, nid, ss, ms, ts, xs, k8, rfl, hv1.1, by omega, hv2.1, by omega, hnid, by omega, by omega, SO.out, own_off HO9.out s6 (blk_norow HR9.out HO9.out (by decide)),
        hm1, hm2, hm3, HMO.out, ((RM9.out.mono (S' := fun b => (mb < b ∧ rb < b) ∧ (Value.slice As ss.length cs).ownBlock ≠ some b) (fun b hb _ => hb)).grown s6 hr).mono (fun b hb _ => ⟨by omega, hb.2⟩), ht1, ht2, ht3, HTO.out, (RT9.out.grown s6 hr).mono (fun b hb _ => ⟨by omega, hb.2⟩), hx1, hx2, hx3, HXO.out, (RX9.out.grown s6 hr).mono (fun b hb _ => ⟨by omega, hb.2⟩), H9.out.grown s6 (fun b hb e => by injection e; omega), only_fresh G9.out s6 hwr⟩
end Go.Proofs.Ytganfhmjklcchaa
