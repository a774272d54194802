/- law23: DictionaryIndexPrefix: the walk of the law itself. For every input. -/
import Derived.Test.YtgaomilmljepoaaLaw23A
import Derived.Test.YtgaomilmljepoaaPref
namespace Go.Proofs.Ytgaomilmljepoaa
open Go.RowKit
set_option linter.unusedVariables false
set_option linter.unusedSimpArgs false

def toOf (ds : List ByteArray) (t : ByteArray) : Nat := ixOf ds t + endsAt ds t (ixOf ds t)
theorem toOf_le (ds : List ByteArray) (t : ByteArray) : ixOf ds t ≤ toOf ds t ∧ toOf ds t ≤ ds.length := by
  have := ixOf_le ds t
  have := endsAt_le ds t (ixOf ds t)
  unfold toOf
  omega
theorem prefix_tup {S : Nat → Prop} (A : Option Addr) (ds : List ByteArray) (c : Nat) (t : ByteArray) (w : World) (h : Rd S w A (ds.map .string)) (hl : ds.length ≤ 10000000) :
    Calls Try.prog 16 #[.slice A ds.length c, .string t] w (RetExt (.tuple #[.int .i64 (ixOf ds t), .int .i64 (toOf ds t)]) w) :=
  (prefix_any A ds c t w h hl).mono fun e w' ⟨he, hg⟩ => ⟨by rw [he]; unfold toOf; rw [Int.natCast_add], hg⟩
theorem rprefix_tup {S : Nat → Prop} (A : Option Addr) (ds : List ByteArray) (c : Nat) (t : ByteArray) (w : World) (h : Rd S w A (ds.map .string)) (hl : ds.length ≤ 10000000) (hs : Srt ds) :
    Calls Try.prog 17 #[.slice A ds.length c, .string t] w (Quiet (.tuple #[.int .i64 (ixOf ds t), .int .i64 (toOf ds t)]) w) :=
  (rprefix_any A ds c t w h hl).mono fun e w' ⟨k, he, h1, h2, h3, h4, hn⟩ => ⟨by rw [he, pref_same hs t k h1 h2 h3 h4]; rfl, hn⟩

set_option maxHeartbeats 3000000 in
set_option maxRecDepth 100000 in
theorem law_indexprefix (A : Option Addr) (l : List Int) (c : Nat) (t : ByteArray) (w : World) (h : Rd (fun _ => True) w A (l.map (.int .u8))) (hc : l.length ≤ c) (hcm : c ≤ maxLen) (hx : ∀ x ∈ l, 0 ≤ x ∧ x ≤ 255) :
    Calls Try.prog 3 #[.slice A l.length c, .string t] w (RetExt (.bool true) w) := by
  have HX := Lib.hid hx
  have HL := Lib.hid h
  clear hx h
  by_cases hbig : 200 < t.size
  · go_enter Try.func3, Try.ntmps3
    go_wp2_with (go_at_call 10; refine (awake_any _).mono ?_; rintro e w1 ⟨rfl, hg1⟩)
    go_ret
    exact ⟨by simp, hg1⟩
  · have hdb : decide ((200 : Int) < (t.size : Int)) = false := by simp; omega
    go_enter Try.func3, Try.ntmps3
    go_wp2_with (go_at_call 10; refine (awake_any _).mono ?_; rintro e w1 ⟨rfl, hg1⟩)
    refine (new_any A l c 100 _ (HL.out.grown hg1 (by simp)) hc hcm (by omega) HX.out).mono ?_
    rintro e w2 ⟨rfl, hC2, hg2, hz2⟩
    go_wp2_with fail
    refine (draw_any _ _ _ _ hC2).mono ?_
    rintro e w3 ⟨A3, c3, ds, k3, rfl, hc3, hm3, hs3, hl3, hsz3, hr3, hC3, hg3⟩
    have HS := Lib.hid hs3
    have hz3 := hg3.size
    have G3 : Hid (w.grownBy w3 none) := only_fresh (only_trans hg1 hg2) hg3 (hg1.size)
    have HR3 := Lib.hid hr3
    clear hr3 hs3 hC2 hg2
    go_wp2_with fail
    refine (word_some _ _ _ _ hC3).mono ?_
    rintro e w4 ⟨s4, k4, rfl, hs4, hC4, hg4⟩
    have G4 : Hid (w.grownBy w4 none) := only_fresh G3.out hg4 (hg1.size)
    have HR4 := Lib.hid (HR3.out.grown hg4 (fun b hb => by simp; omega))
    clear hg4 hg3 HR3 G3 hC3 hC4 hg1 HL HX hsz3
    go_wp2_with fail
    obtain ⟨W, hW⟩ : ∃ W, W = w4.alloc (Obj.cells #[Value.string t, Value.string s4] 9) := ⟨_, rfl⟩
    rw [← hW]
    have HB : Hid (Blk W w4.heap.size 9 #[Value.string t, Value.string s4]) := hW ▸ Blk.new w4 _ _
    have HR : Hid (Rd (fun _ => True) W A3 (ds.map .string)) := hW ▸ (HR4.out.mono (fun _ _ _ => trivial)).alloc _
    have HG : Hid (w.grownBy W none) := hW ▸ only_alloc G4.out _
    clear hW HR4 G4
    generalize w4.heap.size = lb at *
    go_loopw [8] (fun i wr => ∃ k : Nat, k ≤ 2 ∧ i = .int .i64 k ∧ W.grownBy wr none) (fun i _ => 2 - (intOf i).toNat)
    case atStart => exact ⟨0, by omega, rfl, only_refl _ _⟩
    case round =>
      obtain ⟨k, hk, rfl, hgr⟩ := hrel
      by_cases hk2 : k < 2
      · obtain ⟨u, hu⟩ : ∃ u, (#[Value.string t, Value.string s4] : Array Value)[k]? = some (.string u) := by
          rcases k with _ | _ | k
          · exact ⟨t, rfl⟩
          · exact ⟨s4, rfl⟩
          · omega
        have hcu : wr.cell? ⟨lb, k, none⟩ = some (.string u) := ((HB.out.grown hgr (by simp)).cell k).trans hu
        have HRr := Lib.hid (HR.out.grown hgr (by simp))
        have GR := Lib.hid hgr
        clear hu hgr
        obtain ⟨ha, hb⟩ := toOf_le ds u
        go_wp2_with fail
        refine (index_any A3 ds c3 u _ HRr.out (by omega)).mono ?_
        rintro e w5 ⟨rfl, n5, rfl⟩
        go_wp2_with fail
        refine (rindex_any A3 ds c3 u _ (HRr.out.drewN n5) (by omega)).mono ?_
        rintro e w6 ⟨rfl, n6, rfl⟩
        go_wp2_with fail
        refine (prefix_tup A3 ds c3 u _ (by exact HRr.out.drewN _) (by omega)).mono ?_
        rintro e w7 ⟨rfl, hg7⟩
        have hcu7 : w7.cell? ⟨lb, k, none⟩ = some (.string u) := hg7.cell hcu (by simp)
        have HR7 := Lib.hid ((HRr.out.drewN (n5 + n6)).grown hg7 (by simp))
        have GR7 : Hid (W.grownBy w7 none) := only_trans (only_drewN GR.out (n5 + n6)) hg7
        clear hcu HRr GR hg7
        go_wp2_with fail
        refine (rprefix_tup A3 ds c3 u _ HR7.out (by omega) HS.out).mono ?_
        rintro e w8 ⟨rfl, n8, rfl⟩
        have g1 : decide ((toOf ds u : Int) < (ixOf ds u : Int)) = false := by simp; omega
        have g2 : decide ((ds.length : Int) < (toOf ds u : Int)) = false := by simp; omega
        have g3 : decide ((ixOf ds u : Int) < 0) = false := by simp
        go_wp2_with fail
        clear g1 g2 g3
        go_loopw [17] (fun i wx => ∃ n : Nat, n ≤ ds.length ∧ i = .int .i64 n ∧ ∃ q, wx = w7.drewN q) (fun i _ => ds.length - (intOf i).toNat)
        case atStart => exact ⟨0, Nat.zero_le _, rfl, _, rfl⟩
        case round =>
          obtain ⟨n, hn, rfl, q, rfl⟩ := hrel
          by_cases hnl : n < ds.length
          · obtain ⟨bb, off, x, hA, hcx, hxx⟩ := HR7.out.str_at hnl
            subst hA
            have hps := pref_split HS.out u n x hxx.out
            have hti : ixOf ds u + endsAt ds u (ixOf ds u) = toOf ds u := rfl
            rw [hti] at hps
            generalize toOf ds u = b0 at *
            generalize ixOf ds u = a0 at *
            have HPS := Lib.hid hps
            have hni : (n : Int) < (ds.length : Int) := by omega
            have hki : (k : Int) < 2 := by omega
            clear hps hti
            have hin : Hid (∀ v : Bool, hp x u = v → (decide (a0 ≤ n) && decide (n < b0)) = v) := fun v hv => by rw [← hv]; exact HPS.out.symm
            by_cases hsz : u.size ≤ x.size
            · have hy := hp_yes hsz
              have hszi : (u.size : Int) ≤ (x.size : Int) := by omega
              cases hv : hp x u with
              | true =>
                rw [hv] at hy
                have hy' : ((x.extract 0 u.size).toList == u.toList) = true := hy.symm
                have hz := hin.out true hv
                simp at hz
                have d1 : decide ((a0 : Int) ≤ (n : Int)) = true := by simp; omega
                have d2 : decide ((n : Int) < (b0 : Int)) = true := by simp; omega
                clear hy hv HPS hin
                go_wp2_with fail
                go_quiet (fail)
                go_wp2_with fail
                go_roundw
                case rel => exact ⟨n + 1, by omega, by go_num, _, rfl⟩
                case measure => simp [intOf]; omega
              | false =>
                rw [hv] at hy
                have hy' : ((x.extract 0 u.size).toList == u.toList) = false := hy.symm
                have hz := hin.out false hv
                simp at hz
                clear hy hv HPS hin
                by_cases d1' : a0 ≤ n
                · have d1 : decide ((a0 : Int) ≤ (n : Int)) = true := by simp; omega
                  have d2 : decide ((n : Int) < (b0 : Int)) = false := by have := hz d1'; simp; omega
                  have hnb := hz d1'
                  clear hz
                  go_wp2_with fail
                  go_quiet (fail)
                  go_wp2_with fail
                  go_roundw
                  case rel => exact ⟨n + 1, by omega, by go_num, _, rfl⟩
                  case measure => simp [intOf]; omega
                · have d1 : decide ((a0 : Int) ≤ (n : Int)) = false := by simp; omega
                  clear hz
                  go_wp2_with fail
                  go_quiet (fail)
                  go_wp2_with fail
                  go_roundw
                  case rel => exact ⟨n + 1, by omega, by go_num, _, rfl⟩
                  case measure => simp [intOf]; omega
            · have hv := hp_no hsz
              have hszi : decide ((u.size : Int) ≤ (x.size : Int)) = false := by simp; omega
              have hszn : decide (u.size ≤ x.size) = false := by simp; omega
              have hz := hin.out false hv
              simp at hz
              clear hv HPS hin
              by_cases d1' : a0 ≤ n
              · have d1 : decide ((a0 : Int) ≤ (n : Int)) = true := by simp; omega
                have d2 : decide ((n : Int) < (b0 : Int)) = false := by have := hz d1'; simp; omega
                have hnb := hz d1'
                clear hz
                go_wp2_with fail
                go_quiet (fail)
                go_wp2_with fail
                go_roundw
                case rel => exact ⟨n + 1, by omega, by go_num, _, rfl⟩
                case measure => simp [intOf]; omega
              · have d1 : decide ((a0 : Int) ≤ (n : Int)) = false := by simp; omega
                clear hz
                go_wp2_with fail
                go_quiet (fail)
                go_wp2_with fail
                go_roundw
                case rel => exact ⟨n + 1, by omega, by go_num, _, rfl⟩
                case measure => simp [intOf]; omega
          · go_wp2_with fail
            go_roundw
            case rel => exact ⟨k + 1, by omega, by go_num, only_drewN GR7.out _⟩
            case measure => simp [intOf]; omega
      · obtain rfl : k = 2 := by omega
        go_wp2_with fail
        go_ret
        exact ⟨rfl, only_trans HG.out hgr⟩
end Go.Proofs.Ytgaomilmljepoaa
