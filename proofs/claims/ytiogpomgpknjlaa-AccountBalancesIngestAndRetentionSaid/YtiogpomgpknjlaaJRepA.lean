/- account.Report: the hosts. Condition: sizes. -/
import Derived.Test.YtiogpomgpknjlaaJHosts
import Derived.Test.YtiogpomgpknjlaaJFiles
import Derived.Deep.RegionWith
import Derived.Deep.DeepMust
import Derived.Deep.DeepCutAuto
import Derived.Test.YtiogpomgpknjlaaJTal
import Derived.Test.YtiogpomgpknjlaaJCloneT
import Derived.Deep.RegionLaw
namespace Go.Proofs.Ytiogpomgpknjlaa
open Go.RowKit
set_option linter.unusedVariables false
set_option linter.unusedSimpArgs false

noncomputable def tMeth (nm : String) : Option (Option (List FieldStep × Option (FuncId × Bool))) := (Try.prog.info? 79).map (fun i => (i.methods.find? (·.name == nm)).map (fun m => (m.path.toList, m.func)))
theorem t_lines : tMeth "logtide/account.lines" = some (some ([], some (37, false))) := by kernel_rfl
theorem t_hosts : tMeth "logtide/account.hosts" = some (some ([], some (129, false))) := by kernel_rfl
theorem methT {nm : String} {f : FuncId} (h : tMeth nm = some (some ([], some (f, false)))) (k : Nat) (A : Option Addr) (l c : Nat) (w : World) :
    (method (k + 1) 79 (.slice A l c) nm).run Try.prog w = .ok (f, .slice A l c) w := by
  unfold tMeth at h
  cases hi : Try.prog.info? 79 with
  | none => rw [hi] at h; cases h
  | some i =>
    rw [hi] at h
    cases hm : i.methods.find? (·.name == nm) with
    | none => simp [hm] at h
    | some m =>
      simp [hm] at h
      have hu := Try.underlying79
      have ht : (typeInfo 79).run Try.prog w = .ok i w := by simp [typeInfo, hi, Sem.run_bind, go_sem]
      have h3 : m.path.toList = [] := by rw [h.1]
      unfold method
      simp only [Sem.run_bind, ht, Result.andThen_ok, hm, h3, h.2, follow, Sem.run_pure, receiverAt, run_underlying hu, Place.get]
structure BalD where
  host : Int
  received : Int
  stored : Int
  dropped : Int
  dups : Int
  live : Int
  expired : Int
def BalD.cells (b : BalD) : List Value := [.int .i64 b.host, .int .i64 b.received, .int .i64 b.stored, .int .i64 b.dropped, .int .i64 b.dups, .int .i64 b.live, .int .i64 b.expired]
theorem BalD.cells_len (b : BalD) : b.cells.length = 7 := rfl
theorem BalD.one (b : BalD) : ∀ u ∈ b.cells, u.oneCell' = true := by simp [BalD.cells, Value.oneCell']
theorem balInfo : (Try.prog.info? 85).map (fun i => (i.zero, i.size, i.bytes)) = some (some (.agg #[.int .i64 0, .int .i64 0, .int .i64 0, .int .i64 0, .int .i64 0, .int .i64 0, .int .i64 0]), 7, 56) := by kernel_rfl
/-- the balance of a host -/
def balOf (ss ts lv : List Tal) (h : Int) : BalD := ⟨h, sumP p1 h ss, sumP p2 h ss, sumP p3 h ss, sumP p4 h ss, sumT h lv, sumT h ts⟩
def hostL (ss ts : List Tal) (es : List Ev) : List Int := ss.map (·.host) ++ ts.map (·.host) ++ es.map (·.host)
def balL (ss ts : List Tal) (es : List Ev) : List BalD := (hosts (hostL ss ts es)).map (balOf ss ts (linT es))
def BalPost (w : World) (L : List BalD) (e : Ending) (w' : World) : Prop :=
  ∃ A c, e = .returned (.slice A L.length c) ∧ L.length ≤ c ∧ c ≤ maxLen ∧ Rd (w.heap.size ≤ ·) w' A (L.flatMap BalD.cells) ∧ w.grownBy w' none
theorem lin_host : ∀ (es : List Ev) (t : Tal), t ∈ linT es → ∃ e ∈ es, e.host = t.host := by
  intro es
  have key : ∀ k, k ≤ es.length → ∀ t ∈ linT (es.take k), ∃ e ∈ es, e.host = t.host := by
    intro k
    induction k with
    | zero => intro _ t ht; simp [linT] at ht
    | succ k ih =>
      intro hk t ht
      rw [List.take_succ_eq_append_getElem (by omega), linT_snoc] at ht
      obtain ⟨u, hu, h1, -⟩ := mrg_mem t ht
      rcases hu with hu | hu
      · obtain ⟨e, he, h2⟩ := ih (by omega) u hu
        exact ⟨e, he, by rw [h2, h1]⟩
      · have := List.mem_singleton.1 hu
        refine ⟨es[k]'(by omega), List.getElem_mem _, ?_⟩
        rw [← h1, this]; rfl
  intro t ht
  have := key es.length (Nat.le_refl _)
  rw [List.take_length] at this
  exact this t ht
set_option maxHeartbeats 8000000 in
set_option maxRecDepth 100000 in
theorem report_any {S S2 S3 : Nat → Prop} (Am : Option Addr) (nm cm : Nat) (A1 : Option Addr) (ss : List Tal) (c1 : Nat) (A2 : Option Addr) (ts : List Tal) (c2 : Nat) (A3 : Option Addr) (es : List Ev) (c3 : Nat) (w : World)
    (h1 : Rd S w A1 (ss.flatMap Tal.cells)) (h2 : Rd S2 w A2 (ts.flatMap Tal.cells)) (h3 : Rd S3 w A3 (es.flatMap Ev.cells)) (l1 : ss.length ≤ 1000) (l2 : ts.length ≤ 1000) (l3 : es.length ≤ 900) (hi1 : TIn 1000000 ss) (hi2 : TIn 1000000 ts) (hg : ∀ e ∈ es, 1 ≤ e.lines.length ∧ e.lines.length ≤ 6) :
    Calls Try.prog 20 #[.agg #[.slice Am nm cm, .slice A1 ss.length c1], .slice A2 ts.length c2, .slice A3 es.length c3] w (BalPost w (balL ss ts es)) := by
  obtain ⟨xb, hxb⟩ : ∃ b, b = w.heap.size := ⟨_, rfl⟩
  obtain ⟨W1, hW1⟩ : ∃ W, W = w.alloc (.cells #[.slice Am nm cm, .slice A1 ss.length c1] 39) := ⟨_, rfl⟩
  have HB1 : Hid (Blk W1 xb 39 #[.slice Am nm cm, .slice A1 ss.length c1]) := Lib.hid (by rw [hW1, hxb]; exact Blk.new w _ _)
  have g1 : w.grownBy W1 none := by rw [hW1]; exact only_alloc (only_refl _ _) _
  have G1 := Lib.hid g1
  have hsz1 := g1.size
  have R1 := Lib.hid ((h1.mono (S' := (· < w.heap.size)) (fun b _ hlt => hlt)).grown g1 (by simp))
  have R2 := Lib.hid ((h2.mono (S' := (· < w.heap.size)) (fun b _ hlt => hlt)).grown g1 (by simp))
  have R3 := Lib.hid ((h3.mono (S' := (· < w.heap.size)) (fun b _ hlt => hlt)).grown g1 (by simp))
  have HI1 := Lib.hid hi1
  have HI2 := Lib.hid hi2
  have HG := Lib.hid hg
  have HW1 := Lib.hid hW1.symm
  have HXE := Lib.hid hxb.symm
  have KL : Hid (∀ W, W1.grownBy W none → Calls Try.prog 15 #[.slice A3 es.length c3] W (TalsPost W (linT es))) := Lib.hid (fun W hW => linp_any A3 es c3 W (R3.out.grown hW (by simp)) (by omega) HG.out)
  have b1 := HB1.out.cell 1
  simp at b1
  clear h1 h2 h3 hi1 hi2 hg hW1 hxb g1
  go_enter Try.func20, Try.ntmps20
  go_upto_region 1 with fail
  rw [HW1.out, HXE.out]
  clear HW1 HXE
  go_region_with (first | (go_simp; go_at_call 15; refine Calls.mono (KL.out W1.drew (only_drew (only_refl _ _))) ?_; rintro e w2 ⟨A4, c4, rfl, hc4, hm4, hr4, hg4⟩; have d1 := (HB1.out.drew.grown hg4 (by simp)).cell 1; simp at d1))
  all_goals
    have G2 := Lib.hid (only_trans (only_drew (only_refl W1 none)) hg4)
    have R4 := Lib.hid hr4
    clear d1 b1 hg4 hr4 KL
    have hMh : ∀ (A : Option Addr) (l c : Nat) (w : World), (method 277 79 (.slice A l c) "logtide/account.hosts").run Try.prog w = .ok (129, .slice A l c) w := fun A l c w => methT t_hosts 276 A l c w
    have hlv := (linT_ok es HG.out es.length (Nat.le_refl _))
    rw [List.take_length] at hlv
    have hll : (linT es).length ≤ 900 := by have := hlv.2.2; omega
    have HLI : Hid (TIn 1000000 (linT es)) := Lib.hid (fun t ht => by have := hlv.2.1 t ht; omega)
    have HMEM : Hid (∀ x, x ∈ (linT es).map (·.host) → x ∈ es.map (·.host)) := Lib.hid (fun x hx => by
      obtain ⟨t, ht, rfl⟩ := List.mem_map.1 hx
      obtain ⟨e, he, h2⟩ := lin_host es t ht
      exact List.mem_map.2 ⟨e, he, h2⟩)
    obtain ⟨lv, hlvd⟩ : ∃ lv, lv = linT es := ⟨_, rfl⟩
    have HLV := Lib.hid hlvd
    rw [← hlvd] at hll HLI HMEM R4 hc4 ⊢
    clear hlv hlvd
    obtain ⟨l5, hl5⟩ : ∃ l5, l5 = ss.map (·.host) := ⟨_, rfl⟩
    obtain ⟨l6, hl6⟩ : ∃ l6, l6 = ts.map (·.host) := ⟨_, rfl⟩
    obtain ⟨l7, hl7⟩ : ∃ l7, l7 = lv.map (·.host) := ⟨_, rfl⟩
    rw [← hl7] at HMEM
    have K5 : Hid (∀ W, w2.grownBy W none → Calls Try.prog 129 #[.slice A1 ss.length c1] W (IPost W l5)) := Lib.hid (fun W hW => by rw [hl5]; exact hostsM_any A1 ss c1 W (R1.out.grown (only_trans G2.out hW) (by simp)) (by omega))
    have K6 : Hid (∀ W, w2.grownBy W none → Calls Try.prog 129 #[.slice A2 ts.length c2] W (IPost W l6)) := Lib.hid (fun W hW => by rw [hl6]; exact hostsM_any A2 ts c2 W (R2.out.grown (only_trans G2.out hW) (by simp)) (by omega))
    have K7 : Hid (∀ W, w2.grownBy W none → Calls Try.prog 129 #[.slice A4 lv.length c4] W (IPost W l7)) := Lib.hid (fun W hW => by rw [hl7]; exact hostsM_any A4 lv c4 W (R4.out.grown hW (by simp)) (by omega))
    have n5 : l5.length ≤ 1000 := by rw [hl5]; simpa using l1
    have n6 : l6.length ≤ 1000 := by rw [hl6]; simpa using l2
    have n7 : l7.length ≤ 900 := by rw [hl7]; simpa using hll
    have HL5 := Lib.hid hl5
    have HL6 := Lib.hid hl6
    clear hl5 hl6 hl7
    go_simp
    go_wp2_with fail
    refine (K5.out w2 (only_refl _ _)).mono ?_
    rintro e w3 ⟨v3, rfl, ho3, hg3⟩
    have HG3 := Lib.hid hg3
    obtain ⟨A5, c5, rfl, -, -, -, hr5⟩ := Rd.of_own ho3 (by decide)
    have P5 := Lib.hid hr5
    clear hr5 ho3 hg3
    go_wp2_with fail
    refine (K6.out w3 HG3.out).mono ?_
    rintro e w4 ⟨v4, rfl, ho4, hg4⟩
    have HG4 := Lib.hid (only_trans HG3.out hg4)
    have P5' := Lib.hid (P5.out.grown hg4 (by simp))
    obtain ⟨A6, c6, rfl, -, -, -, hr6⟩ := Rd.of_own ho4 (by decide)
    have P6 := Lib.hid hr6
    clear ho4 hg4 hr6 P5
    go_wp2_with fail
    refine (K7.out w4 HG4.out).mono ?_
    rintro e w5 ⟨v5, rfl, ho5, hg5⟩
    have HG5 := Lib.hid (only_trans HG4.out hg5)
    have Q5 := Lib.hid (P5'.out.grown hg5 (by simp))
    have Q6 := Lib.hid (P6.out.grown hg5 (by simp))
    obtain ⟨A7, c7, rfl, -, -, -, hr7⟩ := Rd.of_own ho5 (by decide)
    have Q7 := Lib.hid hr7
    have G5 := Lib.hid (only_trans G2.out HG5.out)
    have R45 := Lib.hid (R4.out.grown HG5.out (by simp))
    clear ho5 hg5 hr7 P5' P6 HG3 HG4 K5 K6 K7
    obtain ⟨rs, hrs⟩ : ∃ rs : List Rw, rs = [⟨A5, l5, c5⟩, ⟨A6, l6, c6⟩, ⟨A7, l7, c7⟩] := ⟨_, rfl⟩
    obtain ⟨vb, hvb⟩ : ∃ b, b = w5.heap.size := ⟨_, rfl⟩
    obtain ⟨W6, hW6⟩ : ∃ W, W = w5.alloc (.cells #[.slice A5 l5.length c5, .slice A6 l6.length c6, .slice A7 l7.length c7] 33) := ⟨_, rfl⟩
    have g6 : w5.grownBy W6 none := by rw [hW6]; exact only_alloc (only_refl _ _) _
    have HBV : Hid (Blk W6 vb 33 (rs.map Rw.v).toArray) := Lib.hid (by rw [hW6, hvb, hrs]; exact Blk.new w5 _ _)
    have G6 := Lib.hid (only_trans G5.out g6)
    have R46 := Lib.hid (R45.out.grown g6 (by simp))
    have KC : Hid (Calls Try.prog 40 #[.slice (some ⟨vb, 0, none⟩) 3 3] W6 (IPost W6 (l5 ++ l6 ++ l7))) := Lib.hid (by
      have := concat_any (S := fun _ => True) vb rs W6 HBV.out (by
        rw [hrs]
        intro r hr
        simp only [List.mem_cons, List.not_mem_nil, or_false] at hr
        rcases hr with rfl | rfl | rfl
        · exact (Q5.out.grown g6 (by simp)).mono (fun _ _ _ => trivial)
        · exact (Q6.out.grown g6 (by simp)).mono (fun _ _ _ => trivial)
        · exact (Q7.out.grown g6 (by simp)).mono (fun _ _ _ => trivial)) (by rw [hrs]; simp) (by
        rw [hrs]
        intro r hr
        simp only [List.mem_cons, List.not_mem_nil, or_false] at hr
        rcases hr with rfl | rfl | rfl
        · show l5.length ≤ 10000; omega
        · show l6.length ≤ 10000; omega
        · show l7.length ≤ 10000; omega)
      have e : catR rs = l5 ++ l6 ++ l7 := by rw [hrs]; simp [catR]
      rw [e] at this
      rw [hrs] at this
      exact this)
    have HW6 := Lib.hid hW6.symm
    have HVB := Lib.hid hvb.symm
    clear hrs hvb hW6 g6 HBV Q5 Q6 Q7 R45 G5
    go_wp2_with fail
    rw [HW6.out, HVB.out]
    refine KC.out.mono ?_
    rintro e w7 ⟨v7, rfl, ho7, hg7⟩
    have HG7 := Lib.hid hg7
    have R47 := Lib.hid (R46.out.grown hg7 (by simp))
    have hz6 := G6.out.size
    obtain ⟨L0, hL0⟩ : ∃ L0, L0 = l5 ++ l6 ++ l7 := ⟨_, rfl⟩
    rw [← hL0] at ho7
    have O7 := Lib.hid ho7
    have hn0 : L0.length ≤ 2900 := by rw [hL0]; simp; omega
    have HL0 := Lib.hid hL0
    clear ho7 hg7 KC HW6 HVB hL0
    go_wp2_with fail
    go_loopw [10, 34] (fun v i wr => ∃ k : Nat, k ≤ es.length ∧ i = .int .i64 k ∧ wr.ownsRow W6.heap.size 3 1 v (L0.length + k) ((L0 ++ (es.take k).map (·.host)).map (.int .i64)) ∧ W6.grownBy wr none) (fun _ i _ => es.length - (intOf i).toNat)
    case atStart => exact ⟨0, Nat.zero_le _, rfl, by simpa using O7.out, HG7.out⟩
    case round =>
      clear O7
      obtain ⟨k, hk, rfl, hO, hG⟩ := hrel
      have G := Lib.hid hG
      have hsz := hG.size
      obtain ⟨Ao, co, rfl, -, -, -, -⟩ := Rd.of_own hO (by decide)
      have O := Lib.hid hO
      clear hG hO
      by_cases hlt : k < es.length
      · obtain ⟨y, hy⟩ : ∃ y, es[k] = y := ⟨_, rfl⟩
        have GW := Lib.hid (only_trans G6.out G.out)
        have hR3 := R3.out.grown GW.out (by simp)
        obtain ⟨b, o, rfl, hbl, -, -⟩ := hR3 (by rw [flat_len _ 10 Ev.cells_len]; omega)
        obtain ⟨e0, e1, e2, e3, e4, e5, e6, e7, e8, e9⟩ := Evs.load10 hR3 hlt hy
        have HT : Hid ((L0 ++ (es.take (k + 1)).map (·.host)).map (Value.int .i64) = (L0 ++ (es.take k).map (·.host)).map (.int .i64) ++ [.int .i64 y.host]) := Lib.hid (by
          rw [List.take_succ_eq_append_getElem hlt, hy]
          simp)
        have i1 : (k : Int) < (es.length : Int) := by omega
        have hzw : w.heap.size ≤ wr.heap.size := by have := GW.out.size; omega
        obtain ⟨W8, hW8⟩ : ∃ W, W = wr.alloc (.cells #[.int .i64 y.host, .int .i64 y.file, .int .i64 y.beg, .int .i64 y.fin, .slice y.la y.lines.length y.lc, .int .i64 y.time, .int .i64 y.weight, .string y.trace, .string y.stream, .slice y.fa y.fields.length y.fc] 75) := ⟨_, rfl⟩
        have hB8 : Blk W8 wr.heap.size 75 #[.int .i64 y.host, .int .i64 y.file, .int .i64 y.beg, .int .i64 y.fin, .slice y.la y.lines.length y.lc, .int .i64 y.time, .int .i64 y.weight, .string y.trace, .string y.stream, .slice y.fa y.fields.length y.fc] := by rw [hW8]; exact Blk.new wr _ _
        have g8 : wr.grownBy W8 none := by rw [hW8]; exact only_alloc (only_refl _ _) _
        have G8 := Lib.hid (only_trans G.out g8)
        have O8 := Lib.hid (own_ext O.out g8)
        have hz8 := G8.out.size
        have b0 := hB8.cell 0
        simp at b0
        have HW8 := Lib.hid hW8.symm
        clear hW8 hB8 g8 hR3 hy
        go_upto_region 6 with fail
        rw [HW8.out]
        clear e0 e1 e2 e3 e4 e5 e6 e7 e8 e9 HW8
        go_wp2_with (at_builtin; refine wpList_append1 rfl _ _ 33 rfl W6.heap.size Try.underlying33 intInfo42 rfl (by decide) (v := .slice Ao (L0.length + k) co) (by rfl) (w0 := W8) (cs := #[.int .i64 y.host]) O8.out (by rfl) rfl (by simp [Value.oneCell']) (by decide) (by omega) (by omega) ?_; intro v9 w9 hown9 hg9 hob9)
        have O9 : Hid (w9.ownsRow W6.heap.size 3 1 v9 (L0.length + (k + 1)) ((L0 ++ (es.take (k + 1)).map (·.host)).map (.int .i64))) := Lib.hid (by rw [HT.out]; exact hown9)
        have G9 : Hid (W6.grownBy w9 none) := Lib.hid (only_own G8.out hg9 O8.out (Nat.le_refl _))
        clear hown9 hg9 hob9 b0
        go_wp2_with fail
        go_roundw
        case rel => exact ⟨k + 1, by omega, by go_num, O9.out, G9.out⟩
        case measure => simp [intOf]; omega
      · obtain ⟨L1, hL1⟩ : ∃ L1, L1 = L0 ++ es.map (·.host) := ⟨_, rfl⟩
        have hn1 : L1.length ≤ 3800 := by rw [hL1]; simp; omega
        have hke : k = es.length := by omega
        have O1 : Hid (wr.ownsRow W6.heap.size 3 1 (.slice Ao (L0.length + k) co) L1.length (L1.map (.int .i64))) := Lib.hid (by
          have := O.out
          rw [hke, List.take_length, ← hL1] at this
          have e : L1.length = L0.length + es.length := by rw [hL1]; simp
          rw [e, hke]; exact this)
        obtain ⟨H, hH⟩ : ∃ H, H = hosts (hostL ss ts es) := ⟨_, rfl⟩
        have HC : Hid (Lib.compact (sortI L1) = H) := Lib.hid (by
          rw [hH]
          refine compact_hosts fun x => ?_
          rw [hL1, HL0.out, HL5.out, HL6.out]
          unfold hostL
          simp only [List.mem_append]
          constructor
          · rintro (((h | h) | h) | h)
            · exact .inl (.inl h)
            · exact .inl (.inr h)
            · exact .inr (HMEM.out x h)
            · exact .inr h
          · rintro ((h | h) | h)
            · exact .inl (.inl (.inl h))
            · exact .inl (.inl (.inr h))
            · exact .inr h)
        have hhl : H.length ≤ 2900 := by
          have := hosts_len (hostL ss ts es)
          rw [hH]
          unfold hostL at *
          simp only [List.length_append, List.length_map] at *
          omega
        have HH := Lib.hid hH
        have HKE := Lib.hid hke
        clear hL1 hke O hH
        go_wp2_with fail
        refine (sort_own W6.heap.size _ L1 wr O1.out (by omega)).mono ?_
        rintro e w8 ⟨rfl, ho8, hg8⟩
        have O8 := Lib.hid ho8
        have G8 := Lib.hid (only_own G.out hg8 O1.out (Nat.le_refl _))
        have hsl : (sortI L1).length ≤ 1000000 := by have := (sortI_perm L1).length_eq; omega
        clear ho8 hg8 O1
        go_wp2_with fail
        refine (comp_own W6.heap.size _ (sortI L1) w8 O8.out hsl).mono ?_
        rintro e w9 ⟨Ah, ch, rfl, hrh, hg9⟩
        rw [HC.out] at hrh ⊢
        have G9 := Lib.hid (only_own G8.out hg9 O8.out (Nat.le_refl _))
        have RH := Lib.hid (hrh.mono (S' := (· < w9.heap.size)) (fun b _ hlt => hlt))
        clear hrh hg9 O8 hsl
        go_wp2_with fail
        have K1 : Hid (∀ (h : Int) (W : World), w9.grownBy W none → Calls Try.prog 37 #[.slice A1 ss.length c1, .int .i64 h, .func (.func 43) #[] #[]] W (SumPost W (sumP p1 h ss))) := Lib.hid (fun h W hW => by
          have hw1 := only_trans (only_trans G6.out G9.out) hW
          have := linesF_any _ _ want1 A1 ss c1 h W (R1.out.grown hw1 (by simp)) (by omega) HI1.out
          skip
          exact this)
        have K2 : Hid (∀ (h : Int) (W : World), w9.grownBy W none → Calls Try.prog 37 #[.slice A1 ss.length c1, .int .i64 h, .func (.func 44) #[] #[]] W (SumPost W (sumP p2 h ss))) := Lib.hid (fun h W hW => by
          have hw1 := only_trans (only_trans G6.out G9.out) hW
          have := linesF_any _ _ want2 A1 ss c1 h W (R1.out.grown hw1 (by simp)) (by omega) HI1.out
          skip
          exact this)
        have K3 : Hid (∀ (h : Int) (W : World), w9.grownBy W none → Calls Try.prog 37 #[.slice A1 ss.length c1, .int .i64 h, .func (.func 45) #[] #[]] W (SumPost W (sumP p3 h ss))) := Lib.hid (fun h W hW => by
          have hw1 := only_trans (only_trans G6.out G9.out) hW
          have := linesF_any _ _ want3 A1 ss c1 h W (R1.out.grown hw1 (by simp)) (by omega) HI1.out
          skip
          exact this)
        have K4 : Hid (∀ (h : Int) (W : World), w9.grownBy W none → Calls Try.prog 37 #[.slice A1 ss.length c1, .int .i64 h, .func (.func 46) #[] #[]] W (SumPost W (sumP p4 h ss))) := Lib.hid (fun h W hW => by
          have hw1 := only_trans (only_trans G6.out G9.out) hW
          have := linesF_any _ _ want4 A1 ss c1 h W (R1.out.grown hw1 (by simp)) (by omega) HI1.out
          skip
          exact this)
        have K5 : Hid (∀ (h : Int) (W : World), w9.grownBy W none → Calls Try.prog 37 #[.slice A4 lv.length c4, .int .i64 h, .func (.func 38) #[] #[]] W (SumPost W (sumT h lv))) := Lib.hid (fun h W hW => by
          have hw1 := only_trans (only_trans G6.out G9.out) hW
          have := linesF_any _ _ want0 A4 lv c4 h W (R46.out.grown (only_trans G9.out hW) (by simp)) (by omega) HLI.out
          rw [sumP_true] at this
          exact this)
        have K6 : Hid (∀ (h : Int) (W : World), w9.grownBy W none → Calls Try.prog 37 #[.slice A2 ts.length c2, .int .i64 h, .func (.func 38) #[] #[]] W (SumPost W (sumT h ts))) := Lib.hid (fun h W hW => by
          have hw1 := only_trans (only_trans G6.out G9.out) hW
          have := linesF_any _ _ want0 A2 ts c2 h W (R2.out.grown hw1 (by simp)) (by omega) HI2.out
          rw [sumP_true] at this
          exact this)
        have hMl : ∀ (A : Option Addr) (l c : Nat) (w : World), (method 277 79 (.slice A l c) "logtide/account.lines").run Try.prog w = .ok (37, .slice A l c) w := fun A l c w => methT t_lines 276 A l c w
        go_loopw [13, 49] (fun v i wx => ∃ k : Nat, k ≤ H.length ∧ i = .int .i64 k ∧ wx.ownsRow w9.heap.size 85 7 v k (((H.take k).map (balOf ss ts lv)).flatMap BalD.cells) ∧ w9.grownBy wx none) (fun _ i _ => H.length - (intOf i).toNat)
        case atStart => exact ⟨0, Nat.zero_le _, rfl, World.ownsRow_nil _ _ _ _, only_refl _ _⟩
        case round =>
          obtain ⟨m, hm, rfl, hO, hGx⟩ := hrel
          obtain ⟨Ab, cb, rfl, hcb, hmb, -, hrb⟩ := Rd.of_own hO (by decide)
          have OX := Lib.hid hO
          have GX := Lib.hid hGx
          have RB := Lib.hid hrb
          have hszx := hGx.size
          clear hO hGx hrb
          by_cases hlt : m < H.length
          · obtain ⟨h, hh⟩ : ∃ h, H[m]? = some h := ⟨_, List.getElem?_eq_getElem hlt⟩
            obtain ⟨b, o, rfl, -, -, hcell⟩ := (RH.out.grown GX.out (by simp)) (by simp; omega)
            have x0 := hcell m _ (by rw [List.getElem?_map, hh]; rfl)
            have HT : Hid ((((H.take (m + 1)).map (balOf ss ts lv)).flatMap BalD.cells) = ((H.take m).map (balOf ss ts lv)).flatMap BalD.cells ++ (balOf ss ts lv h).cells) := Lib.hid (by
              rw [List.take_succ_eq_append_getElem hlt]
              rw [List.getElem?_eq_getElem hlt] at hh
              injection hh with hh
              rw [hh]; simp)
            have i1 : (m : Int) < (H.length : Int) := by omega
            have g0 := GX.out
            clear hcell hh
            go_wp2_with fail
            refine (K1.out h _ g0).mono ?_
            rintro e y1 ⟨rfl, q1⟩
            have g1 := only_trans g0 q1
            go_wp2_with fail
            refine (K2.out h _ g1).mono ?_
            rintro e y2 ⟨rfl, q2⟩
            have g2 := only_trans g1 q2
            go_wp2_with fail
            refine (K3.out h _ g2).mono ?_
            rintro e y3 ⟨rfl, q3⟩
            have g3 := only_trans g2 q3
            go_wp2_with fail
            refine (K4.out h _ g3).mono ?_
            rintro e y4 ⟨rfl, q4⟩
            have g4 := only_trans g3 q4
            go_wp2_with fail
            refine (K5.out h _ g4).mono ?_
            rintro e y5 ⟨rfl, q5⟩
            have g5 := only_trans g4 q5
            go_wp2_with fail
            refine (K6.out h _ g5).mono ?_
            rintro e y6 ⟨rfl, q6⟩
            have g6 := only_trans g5 q6
            have G7 := Lib.hid g6
            have O7 := Lib.hid (own_ext (own_ext (own_ext (own_ext (own_ext (own_ext OX.out q1) q2) q3) q4) q5) q6)
            have hz7 := g6.size
            clear q1 q2 q3 q4 q5 q6 g0 g1 g2 g3 g4 g5 g6 x0
            go_wp2_with (at_builtin; refine wpList_append1 rfl _ _ 42 rfl w9.heap.size Try.underlying42 balInfo rfl (by decide) (v := .slice Ab m cb) (by rfl) (w0 := y6) (cs := #[.int .i64 h, .int .i64 (sumP p1 h ss), .int .i64 (sumP p2 h ss), .int .i64 (sumP p3 h ss), .int .i64 (sumP p4 h ss), .int .i64 (sumT h lv), .int .i64 (sumT h ts)]) O7.out (by rfl) rfl (by simp [Value.oneCell']) (by decide) (by omega) (by omega) ?_; intro v9 w8 hown9 hg9 hob9)
            have O9 : Hid (w8.ownsRow w9.heap.size 85 7 v9 (m + 1) (((H.take (m + 1)).map (balOf ss ts lv)).flatMap BalD.cells)) := Lib.hid (by rw [HT.out]; exact hown9)
            have G9' : Hid (w9.grownBy w8 none) := Lib.hid (only_own G7.out hg9 O7.out (Nat.le_refl _))
            clear hown9 hg9 hob9
            go_wp2_with fail
            go_roundw
            case rel => exact ⟨m + 1, by omega, by go_num, O9.out, G9'.out⟩
            case measure => simp [intOf]; omega
          · have hme : m = H.length := by omega
            have HB : Hid (balL ss ts es = H.map (balOf ss ts lv)) := Lib.hid (by unfold balL; rw [← HH.out, HLV.out])
            have HME := Lib.hid hme
            clear hme
            go_wp2_with fail
            go_ret
            have r := RB.out
            have e : (H.map (balOf ss ts lv)).length = H.length := List.length_map ..
            rw [HME.out, List.take_length] at r
            have hq1 := G6.out.size
            have hq2 := G9.out.size
            have r2 := r.mono (S' := fun b => w.heap.size ≤ b) (fun b hb _ => by
              have h3 : w9.heap.size ≤ b := hb
              show w.heap.size ≤ b
              omega)
            exact ⟨Ab, cb, by rw [HB.out, e, HME.out]; rfl, by rw [HB.out, e, ← HME.out]; exact hcb, hmb, by rw [HB.out]; exact r2, only_trans (only_trans G1.out (only_trans G6.out G9.out)) GX.out⟩
end Go.Proofs.Ytiogpomgpknjlaa

namespace Go.Proofs.Ytiogpomgpknjlaa
open Go.RowKit
set_option linter.unusedVariables false
set_option linter.unusedSimpArgs false

theorem insH_at : ∀ {l : List Int} {h : Int} {k : Nat}, k ≤ l.length → (∀ q x, q < k → l[q]? = some x → x < h) → (∀ x, l[k]? = some x → ¬ x < h) → insH h l = if l[k]? = some h then l else l.take k ++ h :: l.drop k
  | [], h, k, hk, _, _ => by simp at hk; subst hk; simp [insH]
  | a :: t, h, 0, _, _, h2 => by
    have := h2 a rfl
    unfold insH
    rw [if_neg this]
    by_cases e : a = h
    · rw [if_pos e, if_pos (by simp [e])]
    · rw [if_neg e, if_neg (by simpa using e)]; simp
  | a :: t, h, k + 1, hk, h1, h2 => by
    have h0 := h1 0 a (by omega) rfl
    have ih := insH_at (l := t) (h := h) (k := k) (by simpa using hk) (fun q x hq hx => h1 (q + 1) x (by omega) (by simpa using hx)) (fun x hx => h2 x (by simpa using hx))
    unfold insH
    rw [if_pos h0, ih]
    simp only [List.getElem?_cons_succ, List.take_succ_cons, List.drop_succ_cons]
    split <;> simp
def HPost (S : Nat → Prop) (w : World) (L : List Int) (e : Ending) (w' : World) : Prop :=
  ∃ (A : Option Addr) (c : Nat), e = .returned (.slice A L.length c) ∧ L.length ≤ c ∧ c ≤ maxLen ∧ (A = none → c = 0) ∧ Rd S w' A (L.map (.int .i64)) ∧ w.grownBy w' none
theorem intInfoH : (Try.prog.info? 3).map (fun i => (i.zero, i.size, i.bytes)) = some (some (.int .i64 0), 1, 8) := by kernel_rfl
theorem ione (l : List Int) : ∀ u ∈ l.map (Value.int .i64), u.oneCell' = true := by simp [Value.oneCell']
theorem own_none42 {w : World} {base e z n c n' : Nat} {xs : List Value} (h : w.ownsRow base e z (.slice none n c) n' xs) : c = 0 := by
  rcases h.2 with ⟨e, _⟩ | ⟨g', cap, cur, e, _⟩
  · injection e
  · injection e with e1; cases e1
set_option maxHeartbeats 4000000 in
set_option maxRecDepth 100000 in
theorem host_any {S : Nat → Prop} (A : Option Addr) (l : List Int) (c : Nat) (h : Int) (w : World) (hr : Rd S w A (l.map (.int .i64))) (hS : ∀ b, w.heap.size ≤ b → S b) (hl : l.length ≤ 100000) (hc : l.length ≤ c) (hcm : c ≤ maxLen) (hz : A = none → c = 0) :
    Calls Try.prog 47 #[.slice A l.length c, .int .i64 h] w (HPost S w (insH h l)) := by
  have HCM := Lib.hid hcm
  unfold maxLen at hcm
  have HR := Lib.hid hr
  have HS := Lib.hid hS
  have HZ := Lib.hid hz
  have HRW := Lib.hid (hr.mono (S' := (· < w.heap.size)) (fun b _ hlt => hlt))
  clear hr hS hz
  go_enter Try.func47, Try.ntmps47
  go_wp2_with fail
  go_loop [5] (fun i => ∃ k : Nat, k ≤ l.length ∧ i = .int .i64 k ∧ ∀ q x, q < k → l[q]? = some x → x < h) (fun i => l.length - (intOf i).toNat)
  case atStart => exact ⟨0, Nat.zero_le _, rfl, fun q x hq => absurd hq (by omega)⟩
  case round =>
    obtain ⟨k, hk, rfl, hlo⟩ := hrel
    have LO := Lib.hid hlo
    clear hlo
    by_cases hlt : k < l.length
    · obtain ⟨x, hx⟩ : ∃ x, l[k]? = some x := ⟨_, List.getElem?_eq_getElem hlt⟩
      have HX := Lib.hid hx
      obtain ⟨b, o, rfl, -, -, hcell⟩ := HR.out (by simp; omega)
      have x0 : w.cell? ⟨b, o + k, none⟩ = some (.int .i64 x) := hcell k _ (by rw [List.getElem?_map, hx]; rfl)
      have i1 : (k : Int) < (l.length : Int) := by omega
      clear hx hcell
      by_cases hxh : x < h
      · have HXH := Lib.hid hxh
        go_wp2_with fail
        go_round
        case rel => exact ⟨k + 1, by omega, by go_num, fun q y hq hy => if e : q = k then by subst e; rw [HX.out] at hy; injection hy with hy; rw [← hy]; exact HXH.out else LO.out q y (by omega) hy⟩
        case measure => simp [intOf]; omega
      · have HI := Lib.hid (insH_at hk LO.out (fun y hy => by rw [HX.out] at hy; injection hy with hy; rw [← hy]; exact hxh))
        by_cases hxe : x = h
        · have HV : Hid (insH h l = l) := Lib.hid (by rw [HI.out, if_pos (by rw [HX.out, hxe])])
          have d1 : (x == h) = true := by simp [hxe]
          have d2 : ¬ (x < h) := hxh
          clear hxe
          go_wp2_with fail
          go_ret
          exact ⟨_, _, by rw [HV.out]; rfl, by rw [HV.out]; exact hc, HCM.out, HZ.out, by rw [HV.out]; exact HR.out, only_refl _ _⟩
        · have HV : Hid (insH h l = l.take k ++ h :: l.drop k) := Lib.hid (by rw [HI.out, if_neg (by rw [HX.out]; intro e; injection e with e; exact hxe e)])
          have d1 : (x == h) = false := by simp [hxe]
          have j1 : (0 : Int) ≤ (k : Int) := by omega
          have j2 : (k : Int) ≤ (l.length : Int) := by omega
          have j3 : (k : Int) ≤ (c : Int) := by omega
          have j4 : (l.length : Int) ≤ (c : Int) := by omega
          have HTK : Hid (Rd (· < w.heap.size) w (some ⟨b, o, none⟩) ((l.take k).map (.int .i64))) := Lib.hid (by
            have := HRW.out.take k
            rwa [← List.map_take] at this)
          clear hxe
          go_wp2_with (at_builtin; refine wpList_appendN rfl _ _ 33 rfl w.heap.size Try.underlying33 intInfoH rfl (by decide) (v := .slice none 0 0) (by rfl) (World.ownsRow_nil _ _ _ _) (some ⟨b, o, none⟩) k c (by rfl) HTK.out (by rw [List.length_map, List.length_take]; omega) (ione _) (by decide) (by omega) (by omega) ?_; intro v5 w5 hown5 hg5 hob5)
          simp only [Nat.zero_add, List.nil_append] at hown5
          have hsz5 := hg5.size
          have G5 : Hid (w.grownBy w5 none) := Lib.hid (by simpa [Value.ownBlock] using hg5)
          have HR5 : Hid (Rd (· < w.heap.size) w5 (some ⟨b, o + k, none⟩) ((l.drop k).map (.int .i64))) := Lib.hid (by
            have := (HRW.out.grown G5.out (by simp)).dropS k
            rw [← List.map_drop] at this
            exact this)
          have j5 : ¬ (c = k) := by omega
          clear hob5 hg5 x0
          go_region_law (first
            | (have htok := hown7; go_must (refine step_appendN rfl _ _ 33 rfl w.heap.size Try.underlying33 intInfoH rfl (by decide) (v := _) (by rfl) hown7 _ _ _ (by rfl) HR7.out (by simp) (ione _) (by decide) (by omega) (by omega) ?_); intro v8 w8 hown8 hg8 hob8)
            | (go_must (refine step_append1 rfl _ _ 33 rfl w.heap.size Try.underlying33 intInfoH rfl (by decide) (v := _) (by rfl) (w0 := w5) (cs := #[.int .i64 h]) (by rfl) (by rfl) (by rfl) (by rfl) hown5 (by rfl) rfl (by simp [Value.oneCell']) (by decide) (by omega) (by omega) ?_); intro v7 w7 hown7 hg7 hob7; have HR7 : Hid (Rd (· < w.heap.size) w7 _ _) := Lib.hid (HR5.out.grown hg7 (fun b hb e => by have := (hown5.lt b e.symm).1; omega)); have hz7 : w5.heap.size ≤ w7.heap.size := hg7.size))
          all_goals
            have G8 : Hid (w.grownBy w8 none) := Lib.hid (only_own (only_own G5.out hg7 hown5 (Nat.le_refl _)) hg8 hown7 (Nat.le_refl _))
            have O8 : Hid (w8.ownsRow w.heap.size 3 1 v8 (insH h l).length ((insH h l).map (.int .i64))) := Lib.hid (by
              rw [HV.out]
              have e1 : (l.take k ++ h :: l.drop k).length = k + 1 + (l.length - k) := by simp; omega
              rw [e1]
              simpa using hown8)
            obtain ⟨A8, c8, rfl, hc8, hm8, -, hr8⟩ := Rd.of_own O8.out (by decide)
            have HN : Hid (A8 = none → c8 = 0) := Lib.hid (fun e => by have := O8.out; rw [e] at this; exact own_none42 this)
            have R8 := Lib.hid hr8
            clear hown5 hown7 hown8 hg7 hg8 hob7 hob8 hr8
            go_wp2
            all_goals go_ret
            all_goals exact ⟨A8, c8, rfl, hc8, hm8, HN.out, R8.out.mono (fun b hb _ => HS.out b hb), G8.out⟩
    · obtain rfl : k = l.length := by omega
      have HV : Hid (insH h l = l ++ [h]) := Lib.hid (by
        have := insH_at hk LO.out (fun y hy => by rw [List.getElem?_eq_none (Nat.le_refl _)] at hy; cases hy)
        rw [this, if_neg (by rw [List.getElem?_eq_none (Nat.le_refl _)]; simp)]; simp)
      cases A with
      | none =>
        have h0 : l.length = 0 := by
          rcases l with _ | ⟨y, ys⟩
          · rfl
          · obtain ⟨b, o, e, -⟩ := HR.out (by simp); cases e
        have hl0 : l = [] := List.eq_nil_of_length_eq_zero h0
        have hc0 := HZ.out rfl
        subst hl0 hc0
        clear h0
        go_wp2_with (at_builtin; refine wpList_appendN rfl _ _ 33 rfl w.heap.size Try.underlying33 intInfoH rfl (by decide) (v := .slice none 0 0) (by rfl) (World.ownsRow_nil _ _ _ _) (S := fun _ => True) none 0 0 (news := []) (by rfl) Rd.nil rfl (by simp) (by decide) (by omega) (by omega) ?_; intro v5 w5 hown5 hg5 hob5)
        simp only [Nat.zero_add, List.nil_append] at hown5
        have hsz5 := hg5.size
        have G5 : Hid (w.grownBy w5 none) := Lib.hid (by simpa [Value.ownBlock] using hg5)
        clear hob5 hg5
        go_region_law (first
          | (have htok := hown7; go_must (refine step_appendN rfl _ _ 33 rfl w.heap.size Try.underlying33 intInfoH rfl (by decide) (v := _) (by rfl) hown7 (S := fun _ => True) _ 0 _ (news := []) (by rfl) Rd.nil (by simp) (by simp [Value.oneCell']) (by decide) (by omega) (by omega) ?_); intro v8 w8 hown8 hg8 hob8)
          | (go_must (refine step_append1 rfl _ _ 33 rfl w.heap.size Try.underlying33 intInfoH rfl (by decide) (v := _) (by rfl) (w0 := w5) (cs := #[.int .i64 h]) (by rfl) (by rfl) (by rfl) (by rfl) hown5 (by rfl) rfl (by simp [Value.oneCell']) (by decide) (by omega) (by omega) ?_); intro v7 w7 hown7 hg7 hob7; have hz7 : w5.heap.size ≤ w7.heap.size := hg7.size))
        all_goals
          have G8 : Hid (w.grownBy w8 none) := Lib.hid (only_own (only_own G5.out hg7 hown5 (Nat.le_refl _)) hg8 hown7 (Nat.le_refl _))
          have O8 : Hid (w8.ownsRow w.heap.size 3 1 v8 (insH h []).length ((insH h []).map (.int .i64))) := Lib.hid (by
            rw [HV.out]
            have e1 : ([] ++ [h] : List Int).length = 0 + 1 + 0 := by simp
            rw [e1]
            simpa using hown8)
          obtain ⟨A8, c8, rfl, hc8, hm8, -, hr8⟩ := Rd.of_own O8.out (by decide)
          have HN : Hid (A8 = none → c8 = 0) := Lib.hid (fun e => by have := O8.out; rw [e] at this; exact own_none42 this)
          have R8 := Lib.hid hr8
          clear hown5 hown7 hown8 hg7 hg8 hob7 hob8 hr8
          go_wp2
          all_goals go_ret
          all_goals exact ⟨A8, c8, rfl, hc8, hm8, HN.out, R8.out.mono (fun b hb _ => HS.out b hb), G8.out⟩
      | some a =>
        have j1 : (0 : Int) ≤ (l.length : Int) := by omega
        have j2 : (l.length : Int) ≤ (c : Int) := by omega
        go_wp2_with (at_builtin; refine wpList_appendN rfl _ _ 33 rfl w.heap.size Try.underlying33 intInfoH rfl (by decide) (v := .slice none 0 0) (by rfl) (World.ownsRow_nil _ _ _ _) (some a) l.length c (news := l.map (.int .i64)) (by rfl) HRW.out (by simp) (ione _) (by decide) (by omega) (by omega) ?_; intro v5 w5 hown5 hg5 hob5)
        simp only [Nat.zero_add, List.nil_append] at hown5
        have hsz5 := hg5.size
        have G5 : Hid (w.grownBy w5 none) := Lib.hid (by simpa [Value.ownBlock] using hg5)
        clear hob5 hg5
        go_region_law (first
          | (have htok := hown7; go_must (refine step_appendN rfl _ _ 33 rfl w.heap.size Try.underlying33 intInfoH rfl (by decide) (v := _) (by rfl) hown7 (S := fun _ => True) _ 0 _ (news := []) (by rfl) Rd.nil (by simp) (by simp [Value.oneCell']) (by decide) (by omega) (by omega) ?_); intro v8 w8 hown8 hg8 hob8)
          | (go_must (refine step_append1 rfl _ _ 33 rfl w.heap.size Try.underlying33 intInfoH rfl (by decide) (v := _) (by rfl) (w0 := w5) (cs := #[.int .i64 h]) (by rfl) (by rfl) (by rfl) (by rfl) hown5 (by rfl) rfl (by simp [Value.oneCell']) (by decide) (by omega) (by omega) ?_); intro v7 w7 hown7 hg7 hob7; have hz7 : w5.heap.size ≤ w7.heap.size := hg7.size))
        all_goals
          have G8 : Hid (w.grownBy w8 none) := Lib.hid (only_own (only_own G5.out hg7 hown5 (Nat.le_refl _)) hg8 hown7 (Nat.le_refl _))
          have O8 : Hid (w8.ownsRow w.heap.size 3 1 v8 (insH h l).length ((insH h l).map (.int .i64))) := Lib.hid (by
            rw [HV.out]
            have e1 : (l ++ [h]).length = l.length + 1 + 0 := by simp
            rw [e1]
            simpa using hown8)
          obtain ⟨A8, c8, rfl, hc8, hm8, -, hr8⟩ := Rd.of_own O8.out (by decide)
          have HN : Hid (A8 = none → c8 = 0) := Lib.hid (fun e => by have := O8.out; rw [e] at this; exact own_none42 this)
          have R8 := Lib.hid hr8
          clear hown5 hown7 hown8 hg7 hg8 hob7 hob8 hr8
          go_wp2
          all_goals go_ret
          all_goals exact ⟨A8, c8, rfl, hc8, hm8, HN.out, R8.out.mono (fun b hb _ => HS.out b hb), G8.out⟩
end Go.Proofs.Ytiogpomgpknjlaa
namespace Go.Proofs.Ytiogpomgpknjlaa
open Go.RowKit
set_option linter.unusedVariables false
set_option linter.unusedSimpArgs false

theorem beq_list {a b : ByteArray} (h : ¬ a = b) : (a.toList == b.toList) = false := by
  cases hb : a.toList == b.toList with
  | false => rfl
  | true => exact absurd (toList_inj (by simpa using hb)) h
theorem cnt_at {ts : List Tal} {h : Int} {r : ByteArray} {k : Nat} {t : Tal} (hpre : ∀ q x, q < k → ts[q]? = some x → ¬ (x.host = h ∧ x.rule = r)) (ht : ts[k]? = some t) (hm : t.host = h ∧ t.rule = r) : cntT h r ts = t.lines := by
  induction ts generalizing k with
  | nil => simp at ht
  | cons a l ih =>
    unfold cntT
    rcases k with _ | k
    · simp at ht; subst ht; rw [if_pos hm]
    · rw [if_neg (hpre 0 a (by omega) rfl)]
      exact ih (k := k) (fun q x hq hx => hpre (q + 1) x (by omega) (by simpa using hx)) (by simpa using ht)
theorem cnt_none {ts : List Tal} {h : Int} {r : ByteArray} (hpre : ∀ q x, q < ts.length → ts[q]? = some x → ¬ (x.host = h ∧ x.rule = r)) : cntT h r ts = 0 := by
  induction ts with
  | nil => rfl
  | cons a l ih =>
    unfold cntT
    rw [if_neg (hpre 0 a (by simp) rfl)]
    exact ih (fun q x hq hx => hpre (q + 1) x (by simp; omega) (by simpa using hx))
set_option maxHeartbeats 2000000 in
set_option maxRecDepth 100000 in
theorem count_any {S : Nat → Prop} (Am : Option Addr) (nm cm : Nat) (A : Option Addr) (ts : List Tal) (c : Nat) (h : Int) (r : ByteArray) (w : World) (hr : Rd S w A (ts.flatMap Tal.cells)) (hl : ts.length ≤ 100000) :
    Calls Try.prog 48 #[.agg #[.slice Am nm cm, .slice A ts.length c], .int .i64 h, .string r] w (SumPost w (cntT h r ts)) := by
  obtain ⟨xb, hxb⟩ : ∃ b, b = w.heap.size := ⟨_, rfl⟩
  obtain ⟨W1, hW1⟩ : ∃ W, W = w.alloc (.cells #[.slice Am nm cm, .slice A ts.length c] 39) := ⟨_, rfl⟩
  have hB1 : Blk W1 xb 39 #[.slice Am nm cm, .slice A ts.length c] := by rw [hW1, hxb]; exact Blk.new w _ _
  have g1 : w.grownBy W1 none := by rw [hW1]; exact only_alloc (only_refl _ _) _
  have G1 := Lib.hid g1
  have HR := Lib.hid (hr.grown g1 (by simp))
  have b1 := hB1.cell 1
  simp at b1
  have HW1 := Lib.hid hW1.symm
  have HXE := Lib.hid hxb.symm
  clear hr hW1 hxb hB1 g1
  go_enter Try.func48, Try.ntmps48
  go_upto_region 1 with fail
  rw [HW1.out, HXE.out]
  clear HW1 HXE
  go_wp2_with fail
  go_loop [7] (fun i => ∃ k : Nat, k ≤ ts.length ∧ i = .int .i64 k ∧ ∀ q x, q < k → ts[q]? = some x → ¬ (x.host = h ∧ x.rule = r)) (fun i => ts.length - (intOf i).toNat)
  case atStart => exact ⟨0, Nat.zero_le _, rfl, fun q x hq => absurd hq (by omega)⟩
  case round =>
    obtain ⟨k, hk, rfl, hpre⟩ := hrel
    have PRE := Lib.hid hpre
    clear hpre
    by_cases hlt : k < ts.length
    · obtain ⟨t, ht⟩ : ∃ t, ts[k]? = some t := ⟨_, List.getElem?_eq_getElem hlt⟩
      obtain ⟨b, o, rfl, x0, x1, x2⟩ := HR.out.tal ht
      have HT := Lib.hid ht
      have i1 : (k : Int) < (ts.length : Int) := by omega
      clear ht
      by_cases hh : t.host = h
      · have d1 : (t.host == h) = true := by simp [hh]
        by_cases hru : t.rule = r
        · have HV := Lib.hid (cnt_at PRE.out HT.out ⟨hh, hru⟩)
          have d2 : (t.rule.toList == r.toList) = true := by simp [hru]
          clear hh hru
          go_wp2_with fail
          go_ret
          exact ⟨by rw [HV.out]; rfl, G1.out⟩
        · have d2 : (t.rule.toList == r.toList) = false := beq_list hru
          have NP : Hid (¬ (t.host = h ∧ t.rule = r)) := Lib.hid (fun e => hru e.2)
          clear hh hru
          go_wp2_with fail
          go_round
          case rel => exact ⟨k + 1, by omega, by go_num, fun q x hq hx => if e : q = k then by subst e; rw [HT.out] at hx; injection hx with hx; rw [← hx]; exact NP.out else PRE.out q x (by omega) hx⟩
          case measure => simp [intOf]; omega
      · have d1 : (t.host == h) = false := by simp [hh]
        have NP : Hid (¬ (t.host = h ∧ t.rule = r)) := Lib.hid (fun e => hh e.1)
        clear hh
        go_wp2_with fail
        go_round
        case rel => exact ⟨k + 1, by omega, by go_num, fun q x hq hx => if e : q = k then by subst e; rw [HT.out] at hx; injection hx with hx; rw [← hx]; exact NP.out else PRE.out q x (by omega) hx⟩
        case measure => simp [intOf]; omega
    · have HV := Lib.hid (cnt_none (ts := ts) (h := h) (r := r) (fun q x hq hx => PRE.out q x (by omega) hx))
      go_wp2_with fail
      go_ret
      exact ⟨by rw [HV.out]; rfl, G1.out⟩
end Go.Proofs.Ytiogpomgpknjlaa
