/- The draw of batches (printed by mk42l.py). No condition. -/
import Derived.Test.YtiogpomgpknjlaaJBatS
import Derived.Test.YtiogpomgpknjlaaJPrg32
import Derived.Deep.RegionLaw
import Derived.Deep.DeepCutAuto
import Derived.Deep.CutBlock
import Derived.Test.YtiogpomgpknjlaaJTal
import Derived.Test.YtiogpomgpknjlaaJTalM
import Derived.Test.YtiogpomgpknjlaaJTalC
namespace Go.Proofs.Ytiogpomgpknjlaa
open Go.RowKit
set_option linter.unusedVariables false
set_option linter.unusedSimpArgs false

set_option maxHeartbeats 8000000 in
set_option maxRecDepth 100000 in
theorem batches_some (g : Nat) (l : List Int) (k : Nat) (host : Int) (w : World) (h : CodesAt w g l k) (hh : 0 ≤ host ∧ host ≤ 999) :
    Calls Try.prog 26 #[.pointer (some ⟨g, 0, none⟩), .int .i64 host, .int .i64 5] w (BatPost w g l host) := by
  have hgl := h.lt
  have KF := Lib.hid (files_some g l k host 5 w h (by omega))
  clear h
  go_enter Try.func26, Try.ntmps26
  go_wp2_with fail
  refine KF.out.mono ?_
  rintro e w1 ⟨A0, c0, fs, k1, rfl, hn, hc, hm, hr, hf, hC, hg⟩
  have hn1 := hn.1
  have hn3 := hn.2
  have i1 : (0 : Int) ≤ (fs.length : Int) := by omega
  clear hn KF
  obtain ⟨b0, o0, rfl, -, hb0, -⟩ := hr (by simp; omega)
  obtain ⟨ab, hab⟩ : ∃ b, b = w1.heap.size := ⟨_, rfl⟩
  obtain ⟨W1, hW1⟩ : ∃ W, W = w1.alloc (.cells (Array.replicate fs.length (.int .i64 0)) 3) := ⟨_, rfl⟩
  have g1 : w1.grownBy W1 none := by rw [hW1]; exact only_alloc (only_refl _ _) _
  have O1 : Hid (BaO w g ab W1.heap.size l host (some ⟨b0, o0, none⟩) fs k1 0 (.slice none 0 0) [] (List.replicate fs.length 0) W1) := Lib.hid (by
    have hsw := hg.size
    have hlt1 : ab < W1.heap.size := by rw [hW1, hab]; simp
    refine ⟨only_trans hg (only_of_none g1 _), hgl, by omega, hlt1, Nat.le_refl _, hC.grown g1 (by simp), ?_, by simp, ?_, ?_, ?_, by simp [Value.ownBlock], World.ownsRow_nil _ _ _ _, by simp, by simp⟩
    · rw [hW1, hab]
      have := Blk.new w1 3 (Array.replicate fs.length (.int .i64 0))
      simpa [List.map_replicate] using this
    · intro i a f ha _
      have := List.mem_of_getElem? ha
      have := List.eq_of_mem_replicate this
      omega
    · exact (hr.mono (fun b hb hl => ⟨hb, by omega⟩)).grown g1 (by simp)
    · exact (hf.mono (fun b hb hl => ⟨hb, by omega⟩)).grown g1 (by simp))
  have hmk : Sem.run Try.prog (Instr.makeSlice 33 (.int .i64 (fs.length : Int)) (.int .i64 (fs.length : Int))) w1 = .ok (.slice (some ⟨w1.heap.size, 0, none⟩) fs.length fs.length) (w1.alloc (.cells (Array.replicate fs.length (.int .i64 0)) 3)) := mk_any Try.underlying33 intInfoB rfl (by decide) fs.length (by omega) w1
  have HW1 := Lib.hid hW1.symm
  have HAB := Lib.hid hab
  clear hr hf hC hg hW1 hab g1 hb0
  go_upto_region 3 with fail
  rw [HW1.out, ← HAB.out]
  clear hmk HW1 HAB
  go_wp2_with fail
  go_loopw [9, 10] (fun v vi wr => ∃ (n k M : Nat) (bs : List BatD) (ats : List Nat), vi = .int .i64 n ∧ n ≤ 12 ∧ BaO w g ab M l host (some ⟨b0, o0, none⟩) fs k (2 * n) v bs ats wr) (fun _ vi _ => 12 - (intOf vi).toNat)
  case atStart => exact ⟨0, k1, _, [], _, rfl, by omega, O1.out⟩
  case round =>
    clear O1
    obtain ⟨n, k2, M, bs, ats, rfl, hn, hO⟩ := hrel
    by_cases hlt : n < 12
    · have i2 : (n : Int) < 12 := by omega
      have O2 := Lib.hid hO.rise
      clear hO
      obtain ⟨bb, hbb⟩ : ∃ b, b = wr.heap.size := ⟨_, rfl⟩
      obtain ⟨W2, hW2⟩ : ∃ W, W = wr.alloc (.cells #[.int .i64 host, .int .i64 (n : Int), .slice none 0 0] 56) := ⟨_, rfl⟩
      have I2 : Hid (BaI w g ab bb l host (some ⟨b0, o0, none⟩) fs k2 (2 * n) u9 bs ats bb n none [] 0 0 W2) := Lib.hid (by
        have g2 : wr.grownBy W2 none := by rw [hW2]; exact only_alloc (only_refl _ _) _
        refine ⟨by rw [hbb]; exact O2.out.grown g2 (by simp), Nat.le_refl _, by rw [hW2, hbb]; exact Blk.new wr _ _, World.ownsRow_nil _ _ _ _, by simp, by simp⟩)
      have HW2 := Lib.hid hW2.symm
      have HBB := Lib.hid hbb
      clear hW2 hbb O2
      go_upto_region 8 with fail
      rw [HW2.out, ← HBB.out]
      clear HW2 HBB
      go_wp2_with fail
      refine (next_some g l k2 3 _ I2.out.o.cd (by omega) (by omega)).mono ?_
      rintro e w3 ⟨v3, k3, rfl, hv3, hC3, hg3⟩
      have I3 := Lib.hid (I2.out.next hg3 hC3)
      clear hC3 hg3 I2
      obtain ⟨m0, rfl⟩ := Int.eq_ofNat_of_zero_le hv3.1
      go_wp2_with fail
      go_loopw [12] (fun vk wq => ∃ (m k : Nat) (ats : List Nat) (a : Option Addr) (xs : List It) (c q : Nat), vk = .int .i64 m ∧ q + m ≤ 3 ∧ BaI w g ab bb l host (some ⟨b0, o0, none⟩) fs k (2 * n) u9 bs ats bb n a xs c q wq) (fun vk _ => (intOf vk).toNat)
      case atStart => exact ⟨1 + m0, k3, ats, none, [], 0, 0, by go_num, by omega, I3.out⟩
      case round =>
        clear I3
        obtain ⟨m, k4, ats4, a, xs, c, q, rfl, hq, hI⟩ := hrel
        have I4 := Lib.hid hI
        clear hI
        by_cases hm : 0 < m
        · have i3 : (0 : Int) < (m : Int) := by omega
          go_wp2_with fail
          refine (next_some g l k4 (fs.length : Int) _ I4.out.o.cd (by omega) (by omega)).mono ?_
          rintro e w5 ⟨v5, k5, rfl, hv5, hC5, hg5⟩
          have I5 := Lib.hid (I4.out.next hg5 hC5)
          obtain ⟨fi, rfl⟩ := Int.eq_ofNat_of_zero_le hv5.1
          obtain ⟨f, hf⟩ : ∃ f, fs[fi]? = some f := ⟨_, List.getElem?_eq_getElem (by omega)⟩
          obtain ⟨av, ha, hav⟩ := I5.out.o.atF hf
          have HF := Lib.hid hf
          have HA := Lib.hid ha
          have cf := I5.out.o.cellF hf
          have ca := I5.out.o.cellA ha
          have hfl := I5.out.o.ilen hf
          clear hC5 hg5 I4 hf ha
          have j1 : (fi : Int) < (fs.length : Int) := hv5.2
          have j2 : (0 : Int) ≤ (fi : Int) := by omega
          by_cases hge : f.items.length ≤ av
          · have j3 : (f.items.length : Int) ≤ (av : Int) := by omega
            go_wp2_with fail
            go_quiet (fail)
            have I6 := Lib.hid (I5.out.grown (only_drewN (only_refl _ _) nq))
            clear cf ca
            go_wp2_with fail
            go_roundw
            case rel => exact ⟨m - 1, k5, ats4, a, xs, c, q, by go_num, by omega, I6.out⟩
            case measure => simp [intOf]; omega
          · have j3 : ¬ ((f.items.length : Int) ≤ (av : Int)) := by omega
            obtain ⟨x, hx⟩ : ∃ x, f.items[av]? = some x := ⟨_, List.getElem?_eq_getElem (by omega)⟩
            have j4 : (av : Int) < (f.items.length : Int) := by omega
            have j5 : (0 : Int) ≤ (av : Int) := by omega
            have HX := Lib.hid hx
            clear hx
            go_wp2_with fail
            go_quiet (fail)
            have I6 := Lib.hid (I5.out.grown (only_drewN (only_refl _ _) nq))
            obtain ⟨w6, hw6⟩ : ∃ W, W = w5.drewN nq := ⟨_, rfl⟩
            rw [← hw6] at I6
            clear cf ca I5
            have cf := I6.out.o.cellF HF.out
            have ca := I6.out.o.cellA HA.out
            have hFO := (I6.out.o.fo fi f HF.out).1
            obtain ⟨b1, o1, hfa, hb1, hb1l, -⟩ := hFO (by rw [flat_len _ 11 It.cells_len]; have := (f.items.length : Nat); omega)
            rw [hfa] at hFO cf
            obtain ⟨d0, d1, d2, d3, d4, d5, d6, d7, d8, d9, d10⟩ := Fl.load11 hFO HX.out
            have HFA := Lib.hid hfa
            clear hfa hFO
            go_upto_region 13 with fail
            rw [← hw6]
            clear hw6
            have n1 : ab < w6.heap.size := I6.out.o.ak.lt
            have n2 : b0 < w6.heap.size := I6.out.o.fileLt (by omega)
            have n3 : ab ≠ w6.heap.size := by omega
            have n4 : b0 ≠ w6.heap.size := by omega
            have n5 : b1 ≠ w6.heap.size := by omega
            go_cut [14] (fun vx wx => ∃ xb : Nat, vx = .pointer (some ⟨xb, 0, none⟩) ∧ w6.heap.size ≤ xb ∧ Blk wx xb 77 #[.string x.rule, .int .i64 x.ev.host, .int .i64 x.ev.file, .int .i64 x.ev.beg, .int .i64 x.ev.fin, .slice x.ev.la x.ev.lines.length x.ev.lc, .int .i64 x.ev.time, .int .i64 x.ev.weight, .string x.ev.trace, .string x.ev.stream, .slice x.ev.fa x.ev.fields.length x.ev.fc] ∧ w6.grownBy wx none)
            case first =>
              have hB7 := (Blk.new w6 77 #[.string x.rule, .int .i64 x.ev.host, .int .i64 x.ev.file, .int .i64 x.ev.beg, .int .i64 x.ev.fin, .slice x.ev.la x.ev.lines.length x.ev.lc, .int .i64 x.ev.time, .int .i64 x.ev.weight, .string x.ev.trace, .string x.ev.stream, .slice x.ev.fa x.ev.fields.length x.ev.fc]).drew
              have hG7 := only_drew (only_alloc (only_refl w6 none) (.cells #[.string x.rule, .int .i64 x.ev.host, .int .i64 x.ev.file, .int .i64 x.ev.beg, .int .i64 x.ev.fin, .slice x.ev.la x.ev.lines.length x.ev.lc, .int .i64 x.ev.time, .int .i64 x.ev.weight, .string x.ev.trace, .string x.ev.stream, .slice x.ev.fa x.ev.fields.length x.ev.fc] 77))
              go_region_law (fail)
              all_goals go_simp
              all_goals go_wp2_with fail
              all_goals go_meet
              all_goals exact ⟨_, rfl, Nat.le_refl _, hB7, hG7⟩
            case rest =>
              obtain ⟨xb, rfl, hxb, hX7, hg7⟩ := hcut
              obtain ⟨w7, rfl⟩ : ∃ x, x = wc := ⟨_, rfl⟩
              have hg8w := hg7
              have I7 := Lib.hid (I6.out.grown hg7)
              have hX7' := hX7
              have XN := Lib.hid (I6.out.new hxb)
              have S7 : Hid (∀ (j : Nat) (y : It), f.items[j]? = some y → y.ev.Sub (fun b => w.heap.size ≤ b ∧ b < ab) w7) := Lib.hid (fun j y hy => ((I6.out.o.fo fi f HF.out).2.2.2.2.2 y (List.mem_of_getElem? hy)).grown hg7 (by simp))
              clear cf ca d0 d1 d2 d3 d4 d5 d6 d7 d8 d9 d10 n1 n2 n3 n4 n5 hX7
              go_wp2_with fail
              refine (next_some g l k5 8 _ I7.out.o.cd (by omega) (by omega)).mono ?_
              rintro e w8 ⟨v8, k8, rfl, hv8, hC8, hg8⟩
              have G8 := Lib.hid (only_trans (only_of_none hg7 (some g)) hg8)
              have C8 := Lib.hid hC8
              have I8 := Lib.hid (I6.out.next G8.out hC8)
              have X8 := Lib.hid (hX7'.grown hg8 (fun e => by have := XN.out.1; injection e; omega))
              have S8 : Hid (∀ (j : Nat) (y : It), f.items[j]? = some y → y.ev.Sub (fun b => w.heap.size ≤ b ∧ b < ab) w8) := Lib.hid (fun j y hy => (S7.out j y hy).grown hg8 (fun b hb e => by have := hb.1; injection e; omega))
              have ax : ab < xb := by have := I6.out.abb; have := I6.out.bk.lt; omega
              have gx : g < xb := by have := I6.out.o.gb; omega
              have bx : bb ≠ xb := fun e => XN.out.2.2.2.1 e.symm
              have axn : ab ≠ xb := by omega
              clear hC8 hg8 hg7 I7 hX7' S7 hg8w
              have hszl : xb < w8.heap.size := X8.out.lt
              -- what stands when xb has been written: y's cells
              have HPUT : Hid (∀ (W W' : World), w6.grownBy W (some g) → CodesAt W g l k8 → W.grownBy W' (some xb) → BaI w g ab bb l host (some ⟨b0, o0, none⟩) fs k8 (2 * n) u9 bs ats4 bb n a xs c q W') := Lib.hid (fun W W' hg hc hk => I6.out.next (only_fresh hg hk hxb) (hc.grown hk (fun b hb e => by injection e; omega)))
              have cf := I8.out.o.cellF HF.out
              have ca := I8.out.o.cellA HA.out
              rw [HFA.out] at cf
              go_upto_block 4 with fail
              go_cut [] (fun wx => ∃ z : It, ItG host z ∧ Blk wx xb 77 #[.string z.rule, .int .i64 z.ev.host, .int .i64 z.ev.file, .int .i64 z.ev.beg, .int .i64 z.ev.fin, .slice z.ev.la z.ev.lines.length z.ev.lc, .int .i64 z.ev.time, .int .i64 z.ev.weight, .string z.ev.trace, .string z.ev.stream, .slice z.ev.fa z.ev.fields.length z.ev.fc] ∧ z.ev.Sub (fun q => w.heap.size ≤ q ∧ q ≠ ab ∧ u9.ownBlock ≠ some q ∧ q ≠ bb ∧ (Value.slice a xs.length c).ownBlock ≠ some q) wx ∧ BaI w g ab bb l host (some ⟨b0, o0, none⟩) fs k8 (2 * n) u9 bs ats4 bb n a xs c q wx)
              case first =>
                have HSAME : Hid (∃ z : It, ItG host z ∧ Blk w8 xb 77 #[.string z.rule, .int .i64 z.ev.host, .int .i64 z.ev.file, .int .i64 z.ev.beg, .int .i64 z.ev.fin, .slice z.ev.la z.ev.lines.length z.ev.lc, .int .i64 z.ev.time, .int .i64 z.ev.weight, .string z.ev.trace, .string z.ev.stream, .slice z.ev.fa z.ev.fields.length z.ev.fc] ∧ z.ev.Sub (fun q => w.heap.size ≤ q ∧ q ≠ ab ∧ u9.ownBlock ≠ some q ∧ q ≠ bb ∧ (Value.slice a xs.length c).ownBlock ≠ some q) w8 ∧ BaI w g ab bb l host (some ⟨b0, o0, none⟩) fs k8 (2 * n) u9 bs ats4 bb n a xs c q w8) := Lib.hid ⟨x, (I6.out.o.good hh hn3 HF.out HX.out).1, X8.out, (S8.out av x HX.out).mono (fun b hb _ => I6.out.file hb), I8.out⟩
                by_cases h6 : v8 = 6
                · subst h6
                  by_cases hp : 0 < av
                  · obtain ⟨pv, hpv⟩ : ∃ pv, av = pv + 1 := ⟨av - 1, by omega⟩
                    obtain ⟨y, hy⟩ : ∃ y, f.items[pv]? = some y := ⟨_, List.getElem?_eq_getElem (by omega)⟩
                    have hFO := (I8.out.o.fo fi f HF.out).1
                    rw [HFA.out] at hFO
                    obtain ⟨d0, d1, d2, d3, d4, d5, d6, d7, d8, d9, d10⟩ := Fl.load11 hFO hy
                    have p1 : (0 : Int) < (av : Int) := by omega
                    have p2' : (pv : Int) < (f.items.length : Int) := by omega
                    have p3' : (0 : Int) ≤ (pv : Int) := by omega
                    have hwj : IntKind.i64.wrap ((av : Int) - 1) = (pv : Int) := by rw [show (av : Int) - 1 = (pv : Int) by omega]; exact IntWalk.i64_in _ (by omega)
                    have KT : Hid (Calls Try.prog 52 #[.agg #[.string y.rule, .int .i64 y.ev.host, .int .i64 y.ev.file, .int .i64 y.ev.beg, .int .i64 y.ev.fin, .slice y.ev.la y.ev.lines.length y.ev.lc, .int .i64 y.ev.time, .int .i64 y.ev.weight, .string y.ev.trace, .string y.ev.stream, .slice y.ev.fa y.ev.fields.length y.ev.fc], .agg #[.string x.rule, .int .i64 x.ev.host, .int .i64 x.ev.file, .int .i64 x.ev.beg, .int .i64 x.ev.fin, .slice x.ev.la x.ev.lines.length x.ev.lc, .int .i64 x.ev.time, .int .i64 x.ev.weight, .string x.ev.trace, .string x.ev.stream, .slice x.ev.fa x.ev.fields.length x.ev.fc]] w8.drew (TogP (fun q => (w.heap.size ≤ q ∧ q ≠ ab ∧ u9.ownBlock ≠ some q ∧ q ≠ bb ∧ (Value.slice a xs.length c).ownBlock ≠ some q) ∧ q ≠ xb) host w8.drew)) := Lib.hid (by
                      have gy := I6.out.o.good hh hn3 HF.out hy
                      have gx' := I6.out.o.good hh hn3 HF.out HX.out
                      have hch := I6.out.o.chain HF.out hy (by rw [← hpv]; exact HX.out)
                      have h0 := together_any (S := fun q => (w.heap.size ≤ q ∧ q ≠ ab ∧ u9.ownBlock ≠ some q ∧ q ≠ bb ∧ (Value.slice a xs.length c).ownBlock ≠ some q) ∧ q ≠ xb) host y x w8.drew gy.1 gx'.1 hch gy.2 gx'.2 ((S8.out pv y hy).mono (fun b hb _ => ⟨I6.out.file hb, by omega⟩)) ((S8.out av x HX.out).mono (fun b hb _ => ⟨I6.out.file hb, by omega⟩)) (fun b hb => ⟨I8.out.new (by simpa using hb), by have h0 : w8.heap.size ≤ b := (by simpa using hb); omega⟩)
                      rw [itAgg, itAgg] at h0
                      exact h0)
                    clear hFO hpv hy HSAME
                    have x0 := (X8.out).cell 0; have x1 := (X8.out).cell 1; have x2 := (X8.out).cell 2; have x3 := (X8.out).cell 3; have x4 := (X8.out).cell 4; have x5 := (X8.out).cell 5; have x6 := (X8.out).cell 6; have x7 := (X8.out).cell 7; have x8 := (X8.out).cell 8; have x9 := (X8.out).cell 9; have x10 := (X8.out).cell 10; simp at x0 x1 x2 x3 x4 x5 x6 x7 x8 x9 x10
                    go_upto_region 17 with fail
                    go_region_law (first
                      | (go_simp; go_at_call 52; refine KT.out.mono ?_; rintro e wt ⟨z, rfl, hzg, hzs, hgt⟩; rw [itAgg]; have XT := X8.out.drew.grown hgt (by simp); have f0 := (XT).frozen 0; have f1 := (XT).frozen 1; have f2 := (XT).frozen 2; have f3 := (XT).frozen 3; have f4 := (XT).frozen 4; have f5 := (XT).frozen 5; have f6 := (XT).frozen 6; have f7 := (XT).frozen 7; have f8 := (XT).frozen 8; have f9 := (XT).frozen 9; have f10 := (XT).frozen 10; clear x0 x1 x2 x3 x4 x5 x6 x7 x8 x9 x10; have x0 := (XT).cell 0; have x1 := (XT).cell 1; have x2 := (XT).cell 2; have x3 := (XT).cell 3; have x4 := (XT).cell 4; have x5 := (XT).cell 5; have x6 := (XT).cell 6; have x7 := (XT).cell 7; have x8 := (XT).cell 8; have x9 := (XT).cell 9; have x10 := (XT).cell 10; simp at x0 x1 x2 x3 x4 x5 x6 x7 x8 x9 x10; have ZG := Lib.hid hzg; have ZS := Lib.hid hzs; have GT := Lib.hid (only_trans (only_drew (only_refl w8 none)) hgt); have XH := Lib.hid XT; clear hzg hzs hgt XT))
                    all_goals
                      have g9 : wt.grownBy (((((((((((wt.setCell ⟨xb, 0, none⟩ (.string z.rule)).setCell ⟨xb, 1, none⟩ (.int .i64 z.ev.host)).setCell ⟨xb, 2, none⟩ (.int .i64 z.ev.file)).setCell ⟨xb, 3, none⟩ (.int .i64 z.ev.beg)).setCell ⟨xb, 4, none⟩ (.int .i64 z.ev.fin)).setCell ⟨xb, 5, none⟩ (.slice z.ev.la z.ev.lines.length z.ev.lc)).setCell ⟨xb, 6, none⟩ (.int .i64 z.ev.time)).setCell ⟨xb, 7, none⟩ (.int .i64 z.ev.weight)).setCell ⟨xb, 8, none⟩ (.string z.ev.trace)).setCell ⟨xb, 9, none⟩ (.string z.ev.stream)).setCell ⟨xb, 10, none⟩ (.slice z.ev.fa z.ev.fields.length z.ev.fc)) (some xb) := only_set11 (only_refl _ _) (.string z.rule) (.int .i64 z.ev.host) (.int .i64 z.ev.file) (.int .i64 z.ev.beg) (.int .i64 z.ev.fin) (.slice z.ev.la z.ev.lines.length z.ev.lc) (.int .i64 z.ev.time) (.int .i64 z.ev.weight) (.string z.ev.trace) (.string z.ev.stream) (.slice z.ev.fa z.ev.fields.length z.ev.fc)
                      have X9 : Blk (((((((((((wt.setCell ⟨xb, 0, none⟩ (.string z.rule)).setCell ⟨xb, 1, none⟩ (.int .i64 z.ev.host)).setCell ⟨xb, 2, none⟩ (.int .i64 z.ev.file)).setCell ⟨xb, 3, none⟩ (.int .i64 z.ev.beg)).setCell ⟨xb, 4, none⟩ (.int .i64 z.ev.fin)).setCell ⟨xb, 5, none⟩ (.slice z.ev.la z.ev.lines.length z.ev.lc)).setCell ⟨xb, 6, none⟩ (.int .i64 z.ev.time)).setCell ⟨xb, 7, none⟩ (.int .i64 z.ev.weight)).setCell ⟨xb, 8, none⟩ (.string z.ev.trace)).setCell ⟨xb, 9, none⟩ (.string z.ev.stream)).setCell ⟨xb, 10, none⟩ (.slice z.ev.fa z.ev.fields.length z.ev.fc)) xb 77 #[.string z.rule, .int .i64 z.ev.host, .int .i64 z.ev.file, .int .i64 z.ev.beg, .int .i64 z.ev.fin, .slice z.ev.la z.ev.lines.length z.ev.lc, .int .i64 z.ev.time, .int .i64 z.ev.weight, .string z.ev.trace, .string z.ev.stream, .slice z.ev.fa z.ev.fields.length z.ev.fc] := XH.out.put11 (.string z.rule) (.int .i64 z.ev.host) (.int .i64 z.ev.file) (.int .i64 z.ev.beg) (.int .i64 z.ev.fin) (.slice z.ev.la z.ev.lines.length z.ev.lc) (.int .i64 z.ev.time) (.int .i64 z.ev.weight) (.string z.ev.trace) (.string z.ev.stream) (.slice z.ev.fa z.ev.fields.length z.ev.fc)
                      have hi := HPUT.out wt _ (only_trans G8.out (only_of_none GT.out (some g))) (C8.out.grown GT.out (by simp)) g9
                      have hs := (ZS.out.grown g9 (fun b hb e => hb.2 (by injection e))).mono (S' := fun q => w.heap.size ≤ q ∧ q ≠ ab ∧ u9.ownBlock ≠ some q ∧ q ≠ bb ∧ (Value.slice a xs.length c).ownBlock ≠ some q) (fun b hb _ => hb.1)
                      have HE := Lib.hid (And.intro X9 (And.intro hs hi))
                      clear g9 X9 hi hs x0 x1 x2 x3 x4 x5 x6 x7 x8 x9 x10 f0 f1 f2 f3 f4 f5 f6 f7 f8 f9 f10
                      go_simp
                      go_wp2_with fail
                      go_meet
                      exact ⟨z, ZG.out, HE.out.1, HE.out.2.1, HE.out.2.2⟩
                  · obtain rfl : av = 0 := by omega
                    go_wp2_with fail
                    go_meet
                    exact HSAME.out
                · by_cases h7 : v8 = 7
                  · subst h7
                    obtain ⟨jv, hjv, hjl⟩ : ∃ jv : Nat, (jv : Int) = min ((av : Int) + 1) ((f.items.length : Int) - 1) ∧ jv < f.items.length := ⟨min (av + 1) (f.items.length - 1), by omega, by omega⟩
                    obtain ⟨y, hy⟩ : ∃ y, f.items[jv]? = some y := ⟨_, List.getElem?_eq_getElem hjl⟩
                    have hFO := (I8.out.o.fo fi f HF.out).1
                    rw [HFA.out] at hFO
                    obtain ⟨d0, d1, d2, d3, d4, d5, d6, d7, d8, d9, d10⟩ := Fl.load11 hFO hy
                    have p2' : (jv : Int) < (f.items.length : Int) := by omega
                    have p3' : (0 : Int) ≤ (jv : Int) := by omega
                    have hmn : min (IntKind.i64.wrap ((av : Int) + 1)) (IntKind.i64.wrap ((f.items.length : Int) - 1)) = (jv : Int) := by rw [IntWalk.i64_in _ (by omega), IntWalk.i64_in _ (by omega), hjv]
                    clear hjv
                    clear hFO HSAME
                    have x0 := (X8.out).cell 0; have x1 := (X8.out).cell 1; have x2 := (X8.out).cell 2; have x3 := (X8.out).cell 3; have x4 := (X8.out).cell 4; have x5 := (X8.out).cell 5; have x6 := (X8.out).cell 6; have x7 := (X8.out).cell 7; have x8 := (X8.out).cell 8; have x9 := (X8.out).cell 9; have x10 := (X8.out).cell 10; simp at x0 x1 x2 x3 x4 x5 x6 x7 x8 x9 x10
                    have f0 := (X8.out).frozen 0; have f1 := (X8.out).frozen 1; have f2 := (X8.out).frozen 2; have f3 := (X8.out).frozen 3; have f4 := (X8.out).frozen 4; have f5 := (X8.out).frozen 5; have f6 := (X8.out).frozen 6; have f7 := (X8.out).frozen 7; have f8 := (X8.out).frozen 8; have f9 := (X8.out).frozen 9; have f10 := (X8.out).frozen 10
                    go_upto_region 19 with fail
                    go_cut [] (fun wx => Blk wx xb 77 #[.string y.rule, .int .i64 y.ev.host, .int .i64 y.ev.file, .int .i64 y.ev.beg, .int .i64 y.ev.fin, .slice y.ev.la y.ev.lines.length y.ev.lc, .int .i64 y.ev.time, .int .i64 y.ev.weight, .string y.ev.trace, .string y.ev.stream, .slice y.ev.fa y.ev.fields.length y.ev.fc] ∧ w8.grownBy wx (some xb))
                    case first =>
                      have hB9 := (X8.out.put11 (.string y.rule) (.int .i64 y.ev.host) (.int .i64 y.ev.file) (.int .i64 y.ev.beg) (.int .i64 y.ev.fin) (.slice y.ev.la y.ev.lines.length y.ev.lc) (.int .i64 y.ev.time) (.int .i64 y.ev.weight) (.string y.ev.trace) (.string y.ev.stream) (.slice y.ev.fa y.ev.fields.length y.ev.fc)).drew
                      have hG9 := only_drew (only_set11 (only_refl w8 (some xb)) (.string y.rule) (.int .i64 y.ev.host) (.int .i64 y.ev.file) (.int .i64 y.ev.beg) (.int .i64 y.ev.fin) (.slice y.ev.la y.ev.lines.length y.ev.lc) (.int .i64 y.ev.time) (.int .i64 y.ev.weight) (.string y.ev.trace) (.string y.ev.stream) (.slice y.ev.fa y.ev.fields.length y.ev.fc))
                      go_region_law (fail)
                      all_goals go_simp
                      all_goals go_wp2_with fail
                      all_goals go_meet
                      all_goals exact ⟨hB9, hG9⟩
                    case rest =>
                      obtain ⟨hB9, hG9⟩ := hcut
                      have I9 := Lib.hid (HPUT.out w8 wc G8.out C8.out hG9)
                      have Z9 := Lib.hid hB9
                      have YG : Hid (ItG host y) := Lib.hid (I6.out.o.good hh hn3 HF.out hy).1
                      have YS := Lib.hid (((S8.out jv y hy).mono (S' := fun q => (w.heap.size ≤ q ∧ q ≠ ab ∧ u9.ownBlock ≠ some q ∧ q ≠ bb ∧ (Value.slice a xs.length c).ownBlock ≠ some q) ∧ q ≠ xb) (fun b hb _ => ⟨I6.out.file hb, by omega⟩)).grown hG9 (fun b hb e => hb.2 (by injection e)))
                      have hxl := I9.out.xl
                      clear hB9 hG9 d0 d1 d2 d3 d4 d5 d6 d7 d8 d9 d10 x0 x1 x2 x3 x4 x5 x6 x7 x8 x9 x10 f0 f1 f2 f3 f4 f5 f6 f7 f8 f9 f10 cf ca hmn p2' p3' hy HPUT I8 X8 S8 G8 C8 I6
                      have b0 := (I9.out.bk).cell 0; have b1 := (I9.out.bk).cell 1; have b2 := (I9.out.bk).cell 2; simp at b0 b1 b2
                      have z0 := (Z9.out).cell 0; have z1 := (Z9.out).cell 1; have z2 := (Z9.out).cell 2; have z3 := (Z9.out).cell 3; have z4 := (Z9.out).cell 4; have z5 := (Z9.out).cell 5; have z6 := (Z9.out).cell 6; have z7 := (Z9.out).cell 7; have z8 := (Z9.out).cell 8; have z9 := (Z9.out).cell 9; have z10 := (Z9.out).cell 10; simp at z0 z1 z2 z3 z4 z5 z6 z7 z8 z9 z10
                      go_wp2_with (at_builtin; go_must (refine wpList_append1 rfl _ _ 54 rfl (bb + 1) Try.underlying54 itemInfo rfl (by decide) (v := .slice a xs.length c) (by rfl) (w0 := wc) (cs := y.cells.toArray) I9.out.io (by rfl) rfl (by simpa using It.one y) (by decide) (by omega) (by have := I9.out.bk.lt; omega) ?_); intro v9 wa hown9 hg9 hob9; obtain ⟨a9, c9, rfl, -, -, -, -⟩ := Rd.of_own hown9 (by decide); have bk9 := I9.out.bk.grown hg9 (fun e => by have := (I9.out.io.lt bb e.symm).1; omega); have q2 := bk9.cell 2; have f2 := bk9.frozen 2; simp at q2; have IN := Lib.hid (I9.out.app ⟨YG.out, (YS.out.mono (fun b hb _ => hb.1))⟩ hown9 hg9 hob9); clear hown9 hg9 hob9 bk9)
                      clear q2 f2 z0 z1 z2 z3 z4 z5 z6 z7 z8 z9 z10 b0 b1 b2 Z9 I9 YS
                      go_wp2_with fail
                      go_roundw
                      case rel => exact ⟨m - 1, k8, ats4, a9, xs ++ [y], c9, q + 1, by go_num, by omega, IN.out⟩
                      case measure => simp [intOf]; omega
                  · have h6' : (v8 == 6) = false := by simp [h6]
                    have h7' : (v8 == 7) = false := by simp [h7]
                    go_wp2_with fail
                    go_meet
                    exact HSAME.out
              case rest =>
                obtain ⟨z, hzg, hzb, hzs, hzi⟩ := hcut
                have Z9 := Lib.hid hzb
                have I9 := Lib.hid hzi
                have ZG := Lib.hid hzg
                have ZS := Lib.hid hzs
                have hxl := hzi.xl
                clear hzg hzb hzs hzi cf ca HPUT I8 X8 S8 G8 C8 I6
                have b0 := (I9.out.bk).cell 0; have b1 := (I9.out.bk).cell 1; have b2 := (I9.out.bk).cell 2; simp at b0 b1 b2
                have z0 := (Z9.out).cell 0; have z1 := (Z9.out).cell 1; have z2 := (Z9.out).cell 2; have z3 := (Z9.out).cell 3; have z4 := (Z9.out).cell 4; have z5 := (Z9.out).cell 5; have z6 := (Z9.out).cell 6; have z7 := (Z9.out).cell 7; have z8 := (Z9.out).cell 8; have z9 := (Z9.out).cell 9; have z10 := (Z9.out).cell 10; simp at z0 z1 z2 z3 z4 z5 z6 z7 z8 z9 z10
                go_wp2_with (at_builtin; go_must (refine wpList_append1 rfl _ _ 54 rfl (bb + 1) Try.underlying54 itemInfo rfl (by decide) (v := .slice a xs.length c) (by rfl) (w0 := wc) (cs := z.cells.toArray) I9.out.io (by rfl) rfl (by simpa using It.one z) (by decide) (by omega) (by have := I9.out.bk.lt; omega) ?_); intro v9 wa hown9 hg9 hob9; obtain ⟨a9, c9, rfl, -, -, -, -⟩ := Rd.of_own hown9 (by decide); have bk9 := I9.out.bk.grown hg9 (fun e => by have := (I9.out.io.lt bb e.symm).1; omega); have q2 := bk9.cell 2; have f2 := bk9.frozen 2; simp at q2; have IN := Lib.hid (I9.out.app ⟨ZG.out, ZS.out⟩ hown9 hg9 hob9); clear hown9 hg9 hob9 bk9)
                clear q2 f2 z0 z1 z2 z3 z4 z5 z6 z7 z8 z9 z10 b0 b1 b2 Z9 I9 ZS
                refine (next_some g l k8 4 _ IN.out.o.cd (by omega) (by omega)).mono ?_
                rintro e wd ⟨v10, k10, rfl, hv10, hCd, hgd⟩
                have ID := Lib.hid (IN.out.next hgd hCd)
                clear hCd hgd IN
                by_cases h10 : 0 < v10
                · have i10 : (0 : Int) < v10 := h10
                  have ca := ID.out.o.cellA HA.out
                  have fa := ID.out.o.ak.frozen fi
                  have IU := Lib.hid (ID.out.up HF.out HA.out (by omega))
                  go_wp2_with fail
                  go_roundw
                  case rel => exact ⟨m - 1, k10, _, a9, xs ++ [z], c9, q + 1, by go_num, by omega, by simpa using IU.out⟩
                  case measure => simp [intOf]; omega
                · have i10 : ¬ ((0 : Int) < v10) := h10
                  go_wp2_with fail
                  go_roundw
                  case rel => exact ⟨m - 1, k10, ats4, a9, xs ++ [z], c9, q + 1, by go_num, by omega, ID.out⟩
                  case measure => simp [intOf]; omega
        · obtain rfl : m = 0 := by omega
          have hxl := I4.out.xl
          have bn := I4.out.o.bl
          have b0 := (I4.out.bk).cell 0; have b1 := (I4.out.bk).cell 1; have b2 := (I4.out.bk).cell 2; simp at b0 b1 b2
          go_wp2_with (at_builtin; go_must (refine wpList_append1 rfl _ _ 49 rfl (ab + 1) Try.underlying49 batInfo rfl (by decide) (v := u9) (by rfl) (w0 := wr) (cs := (BatD.mk host n xs a c).cells.toArray) I4.out.o.own (by rfl) rfl (by simpa using BatD.one _) (by decide) (by omega) (by have := I4.out.o.ak.lt; omega) ?_); intro v9 w9 hown9 hg9 hob9; obtain ⟨a9, c9, rfl, -, -, -, -⟩ := Rd.of_own hown9 (by decide); have ON := Lib.hid (I4.out.o.app (b := ⟨host, n, xs, a, c⟩) ⟨rfl, by show xs.length ≤ 3; omega, I4.out.its⟩ (by simpa using hown9) hg9 hob9); clear hown9 hg9 hob9 I4 b0 b1 b2)
          refine (next_some g l k4 4 _ ON.out.cd (by omega) (by omega)).mono ?_
          rintro e w10 ⟨v10, k10, rfl, hv10, hC10, hg10⟩
          have OE := Lib.hid (ON.out.next hg10 hC10)
          clear hC10 hg10 ON
          obtain ⟨bs5, hbs⟩ : ∃ z, z = bs ++ [(⟨host, n, xs, a, c⟩ : BatD)] := ⟨_, rfl⟩
          have hln : bs.length + 1 = bs5.length := by rw [hbs]; simp
          rw [← hbs, hln] at OE
          rw [hln]
          have j1 : (0 : Int) < (bs5.length : Int) := by omega
          have bn5 := OE.out.bl
          clear hbs hln
          by_cases h3 : v10 = 3
          · subst h3
            have hrd : Rd (ab + 1 ≤ ·) w10 a9 (bs5.flatMap BatD.cells) := by
              obtain ⟨A', c', e', -, -, -, hr⟩ := Rd.of_own OE.out.own (by decide)
              injection e' with e1 e2 e3
              subst e1
              exact hr
            obtain ⟨b9, o9, rfl, -, -, -⟩ := hrd (by rw [flat_len _ 3 BatD.cells_len]; omega)
            clear hrd
            go_wp2_with fail
            refine (next_some g l k10 (bs5.length : Int) _ OE.out.cd (by omega) (by omega)).mono ?_
            rintro e w11 ⟨v11, k11, rfl, hv11, hC11, hg11⟩
            have OF := Lib.hid (OE.out.next hg11 hC11)
            clear hC11 hg11 OE
            obtain ⟨j, rfl⟩ := Int.eq_ofNat_of_zero_le hv11.1
            obtain ⟨y, hy⟩ : ∃ y, bs5[j]? = some y := ⟨_, List.getElem?_eq_getElem (by omega)⟩
            have j2 : (j : Int) < (bs5.length : Int) := hv11.2
            have j3 : (0 : Int) ≤ (j : Int) := by omega
            have hrd : Rd (ab + 1 ≤ ·) w11 (some ⟨b9, o9, none⟩) (bs5.flatMap BatD.cells) := by
              obtain ⟨A', c', e', -, -, -, hr⟩ := Rd.of_own OF.out.own (by decide)
              injection e' with e1 e2 e3
              subst e1
              exact hr
            have d0 : w11.cell? ⟨b9, o9 + j * 3, none⟩ = some (.int .i64 y.host) := hrd.flatAt BatD.cells_len hy 0 (by omega)
            have d1 : w11.cell? ⟨b9, o9 + j * 3 + 1, none⟩ = some (.int .i64 y.num) := hrd.flatAt BatD.cells_len hy 1 (by omega)
            have d2 : w11.cell? ⟨b9, o9 + j * 3 + 2, none⟩ = some (.slice y.a y.items.length y.c) := hrd.flatAt BatD.cells_len hy 2 (by omega)
            have HY := Lib.hid hy
            clear hrd hy
            go_wp2_with (at_builtin; go_must (refine wpList_append1 rfl _ _ 49 rfl (ab + 1) Try.underlying49 batInfo rfl (by decide) (v := .slice (some ⟨b9, o9, none⟩) bs5.length c9) (by rfl) (w0 := w11) (cs := y.cells.toArray) OF.out.own (by rfl) rfl (by simpa using BatD.one y) (by decide) (by omega) (by have := OF.out.ak.lt; omega) ?_); intro v12 w12 hown12 hg12 hob12; have OG := Lib.hid (OF.out.app (b := y) (by have := OF.out.bi y (List.mem_of_getElem? HY.out); exact ⟨this.1, this.2.1, this.2.2.mono (fun q hq _ => ⟨hq.1, hq.2.1, hq.2.2.1⟩)⟩) (by simpa using hown12) hg12 hob12); clear hown12 hg12 hob12 OF d0 d1 d2)
            go_roundw
            case rel => exact ⟨n + 1, k11, _, _, ats4, by go_num, by omega, OG.out.wide (by omega)⟩
            case measure => simp [intOf]; omega
          · have h3' : (v10 == 3) = false := by simp [h3]
            go_wp2_with fail
            go_roundw
            case rel => exact ⟨n + 1, k10, _, bs5, ats4, by go_num, by omega, OE.out.wide (by omega)⟩
            case measure => simp [intOf]; omega
    · obtain rfl : n = 12 := by omega
      obtain ⟨A9, c9, e9, hc9, hm9, -, hr9⟩ := Rd.of_own hO.own (by decide)
      subst e9
      have HR9 := Lib.hid hr9
      have O9 := Lib.hid hO
      clear hr9 hO
      go_wp2_with fail
      go_ret
      exact ⟨A9, c9, bs, k2, rfl, by have := O9.out.bl; omega, hc9, hm9, HR9.out.mono (fun b hb _ => by have h0 : ab + 1 ≤ b := hb; have := O9.out.gb; omega), fun b hb => ⟨(O9.out.bi b hb).1, (O9.out.bi b hb).2.1, (O9.out.bi b hb).2.2.mono (fun q hq _ => hq.1)⟩, O9.out.cd, O9.out.fr⟩
end Go.Proofs.Ytiogpomgpknjlaa

namespace Go.Proofs.Ytiogpomgpknjlaa
open Go.RowKit
set_option linter.unusedVariables false
set_option linter.unusedSimpArgs false

set_option maxHeartbeats 2000000 in
theorem sametal_any {S S' : Nat → Prop} (A B : Option Addr) (a b : List Tal) (c d : Nat) (w : World) (ha : Rd S w A (a.flatMap Tal.cells)) (hb : Rd S' w B (b.flatMap Tal.cells)) (hl : a.length ≤ 1000000) (hab : a = b) :
    Calls Try.prog 10 #[.slice A a.length c, .slice B b.length d] w (Quiet (.bool true) w) := by
  subst hab
  have HA := Lib.hid ha
  have HB := Lib.hid hb
  clear ha hb
  go_enter Try.func10, Try.ntmps10
  go_wp2
  go_loopw [5] (fun i wr => ∃ k : Nat, k ≤ a.length ∧ i = .int .i64 k ∧ ∃ q, wr = w.drewN q) (fun i _ => a.length - (intOf i).toNat)
  case atStart => exact ⟨0, Nat.zero_le _, rfl, 0, rfl⟩
  case round =>
    obtain ⟨k, hk, rfl, q, rfl⟩ := hrel
    by_cases hlt : k < a.length
    · obtain ⟨t, ht⟩ : ∃ t, a[k]? = some t := ⟨_, List.getElem?_eq_getElem hlt⟩
      obtain ⟨b1, o1, rfl, x0, x1, x2⟩ := HA.out.tal ht
      obtain ⟨b2, o2, rfl, y0, y1, y2⟩ := HB.out.tal ht
      have i1 : (k : Int) < (a.length : Int) := by omega
      have i0 : (0 : Int) ≤ (k : Int) := by omega
      clear ht
      go_wp2
      go_quiet (fail)
      go_wp2
      go_roundw
      case rel => exact ⟨k + 1, by omega, by go_num, _, rfl⟩
      case measure => simp [intOf]; omega
    · go_wp2
      go_ret
      exact ⟨rfl, _, rfl⟩
end Go.Proofs.Ytiogpomgpknjlaa

namespace Go.Proofs.Ytiogpomgpknjlaa
open Go.RowKit
set_option linter.unusedVariables false
set_option linter.unusedSimpArgs false

def TrueExt (w : World) (e : Ending) (w' : World) : Prop := e = .returned (.bool true) ∧ w.grownBy w' none
theorem Rd.tru {S : Nat → Prop} {w : World} {A : Option Addr} {xs : List Value} (h : Rd S w A xs) : Rd (fun _ => True) w A xs := h.mono (fun _ _ _ => trivial)
theorem Blk.rdlA {w : World} {g : Nat} {t : TypeId} {cs : Array Value} (h : Blk w g t cs) : Rd (fun _ => True) w (some ⟨g, 0, none⟩) cs.toList := fun _ =>
  ⟨g, 0, rfl, trivial, h.lt, fun j u hu => by rw [Nat.zero_add, h.cell j]; simpa using hu⟩
def t12 : Tal := ⟨1, ⟨#[]⟩, 2⟩
def t13 : Tal := ⟨1, ⟨#[120]⟩, 3⟩
set_option maxHeartbeats 1000000 in
set_option maxRecDepth 100000 in
theorem awake_any (w : World) : Calls Try.prog 7 #[] w (TrueExt w) := by
  have hR : Rd (fun _ => True) (w.alloc (.cells ([t12, t13].flatMap Tal.cells).toArray 62)) (some ⟨w.heap.size, 0, none⟩) ([t12, t13].flatMap Tal.cells) := by
    have := (Blk.new w 62 ([t12, t13].flatMap Tal.cells).toArray).rdlA
    simpa using this
  have HC : Hid (Calls Try.prog 13 #[.slice (some ⟨w.heap.size, 0, none⟩) 2 2, .int .i64 1] (w.alloc (.cells ([t12, t13].flatMap Tal.cells).toArray 62)) (SumPost (w.alloc (.cells ([t12, t13].flatMap Tal.cells).toArray 62)) (sumT 1 [t12, t13]))) :=
    sum_any (some ⟨w.heap.size, 0, none⟩) [t12, t13] 2 1 _ hR (by simp) (by intro t ht; simp at ht; rcases ht with rfl | rfl <;> simp [t12, t13])
  clear hR
  go_enter Try.func7, Try.ntmps7
  go_wp2_with fail
  refine HC.out.mono ?_
  rintro e w2 ⟨rfl, hg2⟩
  have hrow : sumT 1 [t12, t13] = 5 := by decide
  rw [hrow]
  have G2 : Hid (w.grownBy w2 none) := only_trans (only_alloc (only_refl _ _) _) hg2
  clear hg2 HC hrow
  go_wp2_with fail
  go_ret
  exact ⟨rfl, G2.out⟩
set_option maxHeartbeats 4000000 in
set_option maxRecDepth 100000 in
theorem law_assoc (A : Option Addr) (l : List Int) (d : Nat) (w : World) (h : Rd (fun _ => True) w A (l.map (.int .u8))) (hc : l.length ≤ d) (hcm : d ≤ maxLen) (hx : ∀ x ∈ l, 0 ≤ x ∧ x ≤ 255) :
    Calls Try.prog 3 #[.slice A l.length d] w (TrueExt w) := by
  have HX := Lib.hid hx
  have HL := Lib.hid h
  clear hx h
  go_enter Try.func3, Try.ntmps3
  go_wp2_with (go_at_call 7; refine (awake_any _).mono ?_; rintro e w1 ⟨rfl, hg1⟩)
  refine (new_any A l d 100 _ (HL.out.grown hg1 (by simp)) hc hcm (by omega) HX.out).mono ?_
  rintro e w2 ⟨rfl, h2, hg2, hlt2⟩
  have G2 : Hid (w.grownBy w2 none) := only_trans hg1 hg2
  have hs2 := G2.out.size
  have hs1 := hg1.size
  generalize w1.heap.size = g at *
  clear HL HX hg1 hg2
  go_wp2_with fail
  refine (tallies_some g _ _ _ h2).mono ?_
  rintro e w3 ⟨A3, c3, x, k3, rfl, hc3, hm3, hl3, hs3, hi3, hr3, h3, hg3⟩
  have G3 : Hid (w.grownBy w3 none) := only_fresh G2.out hg3 (by omega)
  have X3 := Lib.hid hr3
  have SX := Lib.hid hs3
  have IX := Lib.hid hi3
  have hz3 := hg3.size
  clear h2 hg3 hr3 G2 hs3 hi3
  go_wp2_with fail
  refine (tallies_some g _ _ _ h3).mono ?_
  rintro e w4 ⟨A4, c4, y, k4, rfl, hc4, hm4, hl4, hs4, hi4, hr4, h4, hg4⟩
  have G4 : Hid (w.grownBy w4 none) := only_fresh G3.out hg4 (by omega)
  have X4 := Lib.hid (X3.out.grown hg4 (fun b hb => by intro e; injection e; omega))
  have Y4 := Lib.hid hr4
  have SY := Lib.hid hs4
  have IY := Lib.hid hi4
  have hz4 := hg4.size
  clear h3 hg4 hr4 G3 hs4 hi4 X3
  go_wp2_with fail
  refine (tallies_some g _ _ _ h4).mono ?_
  rintro e w5 ⟨A5, c5, z, k5, rfl, hc5, hm5, hl5, hs5, hi5, hr5, h5, hg5⟩
  have G5 : Hid (w.grownBy w5 none) := only_fresh G4.out hg5 (by omega)
  have X5 := Lib.hid (X4.out.grown hg5 (fun b hb => by intro e; injection e; omega))
  have Y5 := Lib.hid (Y4.out.grown hg5 (fun b hb => by intro e; injection e; omega))
  have Z5 := Lib.hid hr5
  have SZ := Lib.hid hs5
  have IZ := Lib.hid hi5
  clear h4 h5 hg5 hr5 G4 hs5 hi5 X4 Y4 hz3 hz4 hs1 hs2
  have up : ∀ {n : Int} {ts : List Tal}, n ≤ 1000000 → TIn n ts → TIn 1000000 ts := fun hn h t ht => by have := h t ht; omega
  go_wp2_with fail
  refine (merge_any A3 A4 x y c3 c4 _ X5.out.tru Y5.out.tru (by omega) (by omega) hc3 hm3 hc4 hm4 (up (by omega) IX.out) (up (by omega) IY.out)).mono ?_
  rintro e w6 ⟨A6, c6, rfl, hc6, hm6, hr6, hg6⟩
  have G6 : Hid (w.grownBy w6 none) := only_trans G5.out hg6
  have X6 := Lib.hid (X5.out.grown hg6 (by simp))
  have Y6 := Lib.hid (Y5.out.grown hg6 (by simp))
  have Z6 := Lib.hid (Z5.out.grown hg6 (by simp))
  have IXY := Lib.hid (mrg_in IX.out IY.out (by omega) (by omega))
  have LXY := mrg_len x y
  have R6 := Lib.hid hr6
  clear hg6 hr6 G5 X5 Y5 Z5
  go_wp2_with fail
  refine (merge_any A6 A5 (mrg x y) z c6 c5 _ R6.out.tru Z6.out.tru (by omega) (by omega) hc6 hm6 hc5 hm5 (up (by omega) IXY.out) (up (by omega) IZ.out)).mono ?_
  rintro e w7 ⟨A7, c7, rfl, hc7, hm7, hr7, hg7⟩
  have G7 : Hid (w.grownBy w7 none) := only_trans G6.out hg7
  have X7 := Lib.hid (X6.out.grown hg7 (by simp))
  have Y7 := Lib.hid (Y6.out.grown hg7 (by simp))
  have Z7 := Lib.hid (Z6.out.grown hg7 (by simp))
  have R7 := Lib.hid hr7
  clear hg7 hr7 G6 X6 Y6 Z6 R6
  go_wp2_with fail
  refine (merge_any A4 A5 y z c4 c5 _ Y7.out.tru Z7.out.tru (by omega) (by omega) hc4 hm4 hc5 hm5 (up (by omega) IY.out) (up (by omega) IZ.out)).mono ?_
  rintro e w8 ⟨A8, c8, rfl, hc8, hm8, hr8, hg8⟩
  have G8 : Hid (w.grownBy w8 none) := only_trans G7.out hg8
  have X8 := Lib.hid (X7.out.grown hg8 (by simp))
  have R8 := Lib.hid hr8
  have Q8 := Lib.hid (R7.out.grown hg8 (by simp))
  have IYZ := Lib.hid (mrg_in IY.out IZ.out (by omega) (by omega))
  have LYZ := mrg_len y z
  clear hg8 hr8 G7 X7 Y7 Z7 R7
  go_wp2_with fail
  refine (merge_any A3 A8 x (mrg y z) c3 c8 _ X8.out.tru R8.out.tru (by omega) (by omega) hc3 hm3 hc8 hm8 (up (by omega) IX.out) (up (by omega) IYZ.out)).mono ?_
  rintro e w9 ⟨A9, c9, rfl, hc9, hm9, hr9, hg9⟩
  have G9 : Hid (w.grownBy w9 none) := only_trans G8.out hg9
  have X9 := Lib.hid (X8.out.grown hg9 (by simp))
  have R9 := Lib.hid hr9
  have Q9 := Lib.hid (Q8.out.grown hg9 (by simp))
  have LXYZ := mrg_len (mrg x y) z
  have HE : Hid (mrg (mrg x y) z = mrg x (mrg y z)) := Lib.hid (mrg_assoc SX.out SY.out SZ.out)
  clear hg9 hr9 G8 X8 R8 Q8
  go_wp2_with fail
  refine (sametal_any A7 A9 _ _ c7 c9 _ Q9.out R9.out (by omega) HE.out).mono ?_
  rintro e w10 ⟨rfl, n10, rfl⟩
  go_wp2_with fail
  refine (merge_any (S := fun _ => True) A3 none x [] c3 0 _ ((X9.out.drewN n10).mono (fun _ _ _ => trivial)) Rd.nil (by omega) (by simp) hc3 hm3 (by simp) (Nat.zero_le _) (up (by omega) IX.out) (fun t ht => by simp at ht)).mono ?_
  rintro e w11 ⟨A11, c11, rfl, hc11, hm11, hr11, hg11⟩
  have G11 : Hid (w.grownBy w11 none) := only_trans (only_drewN G9.out n10) hg11
  have X11 := Lib.hid ((X9.out.drewN n10).grown hg11 (by simp))
  have R11 := Lib.hid hr11
  have LX := mrg_len x []
  have HN : Hid (mrg x [] = x) := Lib.hid (mrg_nil x)
  clear hg11 hr11 G9 X9 R9 Q9
  simp only [List.length_nil] at LX
  go_wp2_with fail
  refine (sametal_any A11 A3 _ _ c11 c3 _ R11.out X11.out (by omega) HN.out).mono ?_
  rintro e w12 ⟨rfl, n12, rfl⟩
  go_wp2_with fail
  go_ret
  exact ⟨rfl, only_drewN G11.out _⟩
end Go.Proofs.Ytiogpomgpknjlaa
