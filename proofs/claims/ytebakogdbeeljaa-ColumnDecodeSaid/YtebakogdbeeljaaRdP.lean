/- The reader of columns: packed, the walk. Condition: sizes. -/
import Derived.Test.YtebakogdbeeljaaRdG
namespace Go.Proofs.Ytebakogdbeeljaa
open Go.RowKit
set_option linter.unusedVariables false
set_option linter.unusedSimpArgs false

theorem rd_bit {d k m8 : Nat} {x : Int} (hd : d < 18446744073709551616) (hk : k < 64) (h0 : 0 ≤ x) (h1 : x ≤ 255) :
    bits BinOp.or IntKind.u64 (d : Int) (IntKind.u64.wrap (IntKind.u64.wrap (bits BinOp.and IntKind.u8 (x / 2 ^ m8) 1) * 2 ^ k)) = ((d ||| (x.toNat / 2 ^ m8 % 2) <<< k : Nat) : Int) := by
  obtain ⟨n, rfl⟩ := Int.eq_ofNat_of_zero_le h0
  have e1 : ((n : Int) / 2 ^ m8) = ((n / 2 ^ m8 : Nat) : Int) := by rw [Int.natCast_ediv, Int.natCast_pow]; rfl
  have hlt : n / 2 ^ m8 < 256 := Nat.lt_of_le_of_lt (Nat.div_le_self _ _) (by omega)
  rw [Int.toNat_natCast, e1]
  generalize n / 2 ^ m8 = z at *
  have e2 : bits BinOp.and IntKind.u8 (z : Int) 1 = ((z % 2 : Nat) : Int) := by
    have h := and_u8 z 1 hlt (by decide)
    rw [Nat.and_one_is_mod] at h; exact h
  rw [e2]
  have hb : z % 2 < 2 := Nat.mod_lt _ (by decide)
  generalize z % 2 = b at *
  have h7 : 2 ^ k ≤ 2 ^ 63 := Nat.pow_le_pow_right (by decide) (by omega)
  have h8 : b * 2 ^ k ≤ 1 * 2 ^ 63 := Nat.mul_le_mul (by omega) h7
  have e3 : IntKind.u64.wrap (b : Int) = (b : Int) := by rw [IntKind.wrap_u64]; omega
  have e4 : IntKind.u64.wrap ((b : Int) * 2 ^ k) = ((b <<< k : Nat) : Int) := by
    rw [IntKind.wrap_u64, show ((2 : Int) ^ k) = ((2 ^ k : Nat) : Int) from by rw [Int.natCast_pow]; rfl, ← Int.natCast_mul, Nat.shiftLeft_eq]
    generalize b * 2 ^ k = q at *
    omega
  rw [e3, e4, bits_or_u64_nat _ _ hd (by rw [Nat.shiftLeft_eq]; omega)]
def cellsI (xs : List Int) : Array Value := (xs.map (Value.int .i64)).toArray
theorem cellsI_zero (n : Nat) : Array.replicate n (Value.int .i64 0) = cellsI (List.replicate n 0) := by simp [cellsI]
theorem cellsI_set (xs : List Int) (q : Nat) (x : Int) : (cellsI xs).setIfInBounds q (.int .i64 x) = cellsI (xs.set q x) := by simp [cellsI, List.map_set]
def pkV (n : Nat) (val : Nat → Int) (i : Nat) : List Int := (List.range n).map (fun j => if j < i then val j else 0)
theorem pkV_len (n : Nat) (val : Nat → Int) (i : Nat) : (pkV n val i).length = n := by simp [pkV]
theorem pkV_zero (n : Nat) (val : Nat → Int) : pkV n val 0 = List.replicate n 0 := by
  apply List.ext_getElem?
  intro i
  simp only [pkV, List.getElem?_map, List.getElem?_range', List.getElem?_replicate]
  by_cases h : i < n
  · simp [h]
  · simp [h]
theorem pkV_full (n : Nat) (val : Nat → Int) : pkV n val n = (List.range n).map val := by
  apply List.map_congr_left
  intro j hj
  rw [if_pos (List.mem_range.1 hj)]
theorem pkV_set (n : Nat) (val : Nat → Int) (i : Nat) (h : i < n) : (pkV n val i).set i (val i) = pkV n val (i + 1) := by
  apply List.ext_getElem?
  intro j
  by_cases hj : j < n
  · by_cases hji : i = j
    · subst hji
      rw [List.getElem?_set_self (by rw [pkV_len]; exact h)]
      simp [pkV, hj]
    · rw [List.getElem?_set_ne hji]
      simp only [pkV, List.getElem?_map, List.getElem?_range hj, Option.map_some]
      by_cases h2 : j < i
      · rw [if_pos h2, if_pos (by omega)]
      · rw [if_neg h2, if_neg (by omega)]
  · rw [List.getElem?_eq_none (by simp [pkV]; omega), List.getElem?_eq_none (by simp [pkV]; omega)]
theorem Blk.own {w : World} {g base n : Nat} {xs : List Int} (h : Blk w g 3 (cellsI xs)) (hb : base ≤ g) (hl : xs.length = n) (hn : n ≤ 10000000) : w.ownsRow base 3 1 (.slice (some ⟨g, 0, none⟩) n n) n (xs.map (.int .i64)) :=
  ⟨by simp [hl], .inr ⟨g, n, cellsI xs, rfl, hb, h, Nat.le_refl _, by unfold maxLen; omega, by simp [cellsI, hl], by simp [cellsI, hl]; exact List.take_of_length_le (by simp [hl])⟩⟩
theorem pk_store {u : Int} {d : Nat} (hu : I64 u) (hd : d < 18446744073709551616) : wrap64 (IntKind.u64.wrap (IntKind.u64.wrap u + (d : Int))) = wrap64 (u + (d : Int)) := by
  unfold I64 at hu
  rw [IntKind.wrap_u64, IntKind.wrap_u64]; unfold wrap64; omega
theorem dBits_64 (bs : List Int) (p : Nat) {k : Nat} (h : k ≤ 64) : dBits bs p k < 18446744073709551616 :=
  Nat.lt_of_lt_of_le (dBits_lt bs p k) (Nat.pow_le_pow_right (n := 2) (by decide) h)
theorem RdrAt.bytes {w : World} {g : Nat} {bs : List Int} {bad : Bool} (h : RdrAt w g bs bad) : bs.length ≤ 1000000 ∧ ∀ x ∈ bs, 0 ≤ x ∧ x ≤ 255 := by
  obtain ⟨A, c, _, _, _, _, h1, hx⟩ := h; exact ⟨h1, hx⟩
theorem RdrAt.setNil {w : World} {g : Nat} {bs : List Int} {bad : Bool} (h : RdrAt w g bs bad) : RdrAt (w.setCell ⟨g, 0, none⟩ (.slice none 0 0)) g [] bad := by
  obtain ⟨A, c, hb, _⟩ := h
  exact RdrAt.setB (A := none) (c := 0) (bs := []) hb Rd.nil (by simp) (by unfold maxLen; omega) (by simp) (by simp)
theorem only_setAlso {a w : World} {g : Nat} (h : a.grownBy w (some g)) {p : Addr} (hp : a.heap.size ≤ p.block) (u : Value) : a.grownBy (w.setCell p u) (some g) :=
  only_setCell h (.inr hp) u

set_option maxHeartbeats 4000000 in
set_option maxRecDepth 100000 in
theorem rpacked_any (g : Nat) (n : Nat) (bs : List Int) (bad : Bool) (w : World) (h : RdrAt w g bs bad) (hn : n ≤ 16384) :
    Calls Try.prog 52 #[.pointer (some ⟨g, 0, none⟩), .int .i64 n] w (DPost w g (rPk n bs bad)) := by
  have H := Lib.hid h
  have hgl := h.lt
  clear h
  by_cases h0 : n = 0
  · subst h0
    have HF : Hid (rPk 0 bs bad = ([], bs, bad)) := by show rPk 0 bs bad = _; simp [rPk]
    go_enter Try.func52, Try.ntmps52
    go_wp2_with fail
    go_ret
    exact ⟨_, rfl, by rw [HF.out]; exact World.ownsRow_nil _ _ _ _, by rw [HF.out]; exact H.out, only_refl _ _⟩
  · have t0 : ((n : Int) == 0) = false := by rw [beq_eq_false_iff_ne]; omega
    go_enter Try.func52, Try.ntmps52
    go_wp2_with fail
    refine (num_any g bs bad _ H.out).mono ?_
    rintro e w1 ⟨rfl, hR1, hg1⟩
    have hlt := rNum_lt 10 0 bs bad (by omega)
    have hP : rPk n bs bad = (let r := rNum 10 0 bs bad
      let c := (r.2.1.headD 0).toNat
      let b2 := r.2.1.tail
      let d2 := r.2.2 || r.2.1.isEmpty
      if d2 = true ∨ 64 < c ∨ b2.length ≠ (n * c + 7) / 8 then ([], b2, true)
      else ((List.range n).map (fun i => wrap64 (uz r.1 + (dBits b2 (i * c) c : Nat))), [], false)) := by rw [rPk, if_neg h0]
    generalize rNum 10 0 bs bad = r at *
    obtain ⟨u, cs1, bd1⟩ := r
    have HU := Lib.hid hlt
    have R1 := Lib.hid hR1
    have G1 := Lib.hid hg1
    have HP1 := Lib.hid hP
    clear hR1 hg1 hP hlt
    go_wp2_with fail
    refine (unzig_any u _ HU.out).mono ?_
    rintro e w2 ⟨rfl, n2, rfl⟩
    go_wp2_with fail
    refine (nx_any g cs1 bd1 _ (R1.out.drewN n2)).mono ?_
    rintro e w3 ⟨rfl, hR3, hg3⟩
    have R3 := Lib.hid hR3
    have G3 : Hid (w.grownBy w3 (some g)) := only_trans (only_drewN G1.out n2) hg3
    have HD1 := Lib.hid R1.out.head
    clear hR3 hg3
    have hP := HP1.out
    try simp only at hP
    obtain ⟨c, hc⟩ : ∃ c, c = (cs1.headD 0).toNat := ⟨_, rfl⟩
    have hci : cs1.headD 0 = (c : Int) := by have := HD1.out.1; omega
    have hc255 : c ≤ 255 := by have := HD1.out.2; omega
    rw [← hc] at hP
    rw [hci]
    generalize cs1.tail = b2 at *
    generalize (bd1 || cs1.isEmpty) = bd at *
    obtain ⟨P, hPm⟩ : ∃ P, P = n * c := ⟨_, rfl⟩
    rw [← hPm] at hP
    have hPb : P ≤ 16384 * 255 := by rw [hPm]; exact Nat.mul_le_mul hn hc255
    have hmul : wrap64 ((n : Int) * (c : Int)) = (P : Int) := by
      rw [hPm, ← Int.natCast_mul, ← hPm]; exact IntWalk.wrap64_in _ (by omega)
    obtain ⟨nB, hnB⟩ : ∃ nB, nB = (P + 7) / 8 := ⟨_, rfl⟩
    rw [← hnB] at hP
    have hdiv : ((P : Int) + 7) / 8 = (nB : Int) := by omega
    have hnBb : nB ≤ 1000000 := by omega
    have HP := Lib.hid hP
    have HNB := Lib.hid hnB
    have HPM := Lib.hid hPm
    obtain ⟨A3, c3, hb3, -, -, -, hl3, -⟩ := R3.out
    have c30 := hb3.cell 0
    have c31 := hb3.cell 1
    have f30 := hb3.frozen 0
    have f31 := hb3.frozen 1
    simp at c30 c31
    clear hP hnB hPm hb3 hci hc
    cases bd with
    | true =>
      have HF : Hid (rPk n bs bad = ([], b2, true)) := by show rPk n bs bad = _; rw [HP.out, if_pos (.inl rfl)]
      clear hmul hdiv
      go_wp2_with fail
      go_ret
      exact ⟨_, rfl, by rw [HF.out]; exact World.ownsRow_nil _ _ _ _, by rw [HF.out]; exact R3.out.setBad true, only_trans G3.out (only_cell _)⟩
    | false =>
      by_cases hc64 : 64 < c
      · have d1 : decide ((64 : Int) < (c : Int)) = true := decide_eq_true (by omega)
        have HF : Hid (rPk n bs bad = ([], b2, true)) := by show rPk n bs bad = _; rw [HP.out, if_pos (.inr (.inl hc64))]
        clear hmul hdiv
        go_wp2_with fail
        go_ret
        exact ⟨_, rfl, by rw [HF.out]; exact World.ownsRow_nil _ _ _ _, by rw [HF.out]; exact R3.out.setBad true, only_trans G3.out (only_cell _)⟩
      · have d1 : decide ((64 : Int) < (c : Int)) = false := decide_eq_false (by omega)
        by_cases hne : b2.length = nB
        · have HF : Hid (rPk n bs bad = ((List.range n).map (fun i => wrap64 (uz u + (dBits b2 (i * c) c : Nat))), [], false)) := by
            show rPk n bs bad = _
            rw [HP.out, if_neg (by
              rintro (h1 | h1 | h1)
              · cases h1
              · exact hc64 h1
              · exact h1 hne)]
          have d2 : ((b2.length : Int) == (nB : Int)) = true := by rw [hne]; simp
          have hmk := make_any (P := Try.prog) Try.underlying22 intInfo' rfl (by decide) n (by omega)
          have HU2 := Lib.hid (uz_I64 HU.out)
          have HB2 := Lib.hid R3.out.bytes
          go_wp2_with fail
          have hz3 := G3.out.size
          have BL : Hid (Blk (w3.alloc (.cells (Array.replicate n (Value.int .i64 0)) 3)) w3.heap.size 3 (cellsI (pkV n (fun i => wrap64 (uz u + (dBits b2 (i * c) c : Nat))) 0))) := by
            show Blk _ _ _ _
            rw [pkV_zero, ← cellsI_zero]
            exact Blk.new _ _ _
          have RL : Hid (RdrAt (w3.alloc (.cells (Array.replicate n (Value.int .i64 0)) 3)) g b2 false) := R3.out.grown (World.grownBy_alloc _ _ none) (by simp)
          have GL : Hid (w.grownBy (w3.alloc (.cells (Array.replicate n (Value.int .i64 0)) 3)) (some g)) := only_alloc G3.out _
          obtain ⟨val, hval⟩ : ∃ val : Nat → Int, val = (fun i => wrap64 (uz u + (dBits b2 (i * c) c : Nat))) := ⟨_, rfl⟩
          rw [← hval] at BL HF
          obtain ⟨gB, hgB⟩ : ∃ gB, gB = w3.heap.size := ⟨_, rfl⟩
          rw [← hgB] at BL ⊢
          have hgB1 : w.heap.size ≤ gB := by omega
          have hgB2 : g ≠ gB := by omega
          have HV := Lib.hid hval
          have HGB := Lib.hid hgB
          have HNE := Lib.hid hne
          clear hgB hval hmk hmul hdiv d2 c30 c31 f30 f31 hne t0 hz3
          go_loopw [48] (fun j wr => ∃ i : Nat, i ≤ n ∧ j = .int .i64 i ∧ Blk wr gB 3 (cellsI (pkV n val i)) ∧ RdrAt wr g b2 false ∧ w.grownBy wr (some g)) (fun j _ => n - (intOf j).toNat)
          case atStart => exact ⟨0, Nat.zero_le _, rfl, BL.out, RL.out, GL.out⟩
          case round =>
            obtain ⟨i, hi, rfl, hBk, hRk, hG⟩ := hrel
            have BK := Lib.hid hBk
            have RK := Lib.hid hRk
            have HG := Lib.hid hG
            clear hBk hG hRk BL RL GL
            by_cases hlt : i < n
            · obtain ⟨p, hp⟩ : ∃ p, p = i * c := ⟨_, rfl⟩
              have hpb : p + c ≤ P := by
                rw [hp, HPM.out]
                have := Nat.mul_le_mul_right c (show i + 1 ≤ n from hlt)
                rw [Nat.add_mul] at this; omega
              have hpm : wrap64 ((i : Int) * (c : Int)) = (p : Int) := by
                rw [hp, ← Int.natCast_mul, ← hp]; exact IntWalk.wrap64_in _ (by omega)
              have HPI := Lib.hid hp
              have HPW := Lib.hid hpm
              clear hp hpm
              go_wp2_with fail
              go_loopw [9, 52] (fun dd j wi => ∃ k : Nat, k ≤ c ∧ dd = .int .u64 (dBits b2 p k : Nat) ∧ j = .int .i64 k ∧ Blk wi gB 3 (cellsI (pkV n val i)) ∧ RdrAt wi g b2 false ∧ w.grownBy wi (some g)) (fun _ j _ => c - (intOf j).toNat)
              case atStart => exact ⟨0, Nat.zero_le _, rfl, rfl, BK.out, RK.out, HG.out⟩
              case round =>
                obtain ⟨k, hk, rfl, rfl, hBk2, hRk2, hG2⟩ := hrel
                have BK2 := Lib.hid hBk2
                have RK2 := Lib.hid hRk2
                have HG2 := Lib.hid hG2
                clear hBk2 hG2 hRk2
                by_cases hkw : k < c
                · obtain ⟨q, hq⟩ : ∃ q, q = p + k := ⟨_, rfl⟩
                  have hqP : q < P := hq ▸ Nat.lt_of_lt_of_le (Nat.add_lt_add_left hkw p) hpb
                  have HQW : Hid (wrap64 ((p : Int) + (k : Int)) = (q : Int)) := by
                    show wrap64 ((p : Int) + (k : Int)) = (q : Int)
                    rw [IntWalk.wrap64_in _ (by omega)]; omega
                  have hqn : q / 8 < b2.length := by rw [HNE.out]; exact div_lt HNB.out hqP
                  obtain ⟨q8, hq8⟩ : ∃ q8, q8 = q / 8 := ⟨_, rfl⟩
                  obtain ⟨m8, hm8⟩ : ∃ m8, m8 = q % 8 := ⟨_, rfl⟩
                  have hm7 : m8 ≤ 7 := by omega
                  rw [← hq8] at hqn
                  have hqi : (q8 : Int) < (b2.length : Int) := by omega
                  have hq80 : (0 : Int) ≤ (q8 : Int) := by omega
                  have hm80 : (0 : Int) ≤ (m8 : Int) := by omega
                  obtain ⟨A4, c4, hb4, hr4, -, -, hl4, hx4⟩ := RK2.out
                  have c40 := hb4.cell 0
                  simp at c40
                  obtain ⟨b, off, x, rfl, hcx, hx⟩ := hr4.int_at hqn
                  obtain ⟨hx0, hx1⟩ : 0 ≤ x ∧ x ≤ 255 := by rw [← hx.out]; exact hx4 _ (getD_mem b2 0 hqn)
                  have HQ := Lib.hid (And.intro hq (And.intro hq8 hm8))
                  have hk64 : k < 64 := by omega
                  have HBV := Lib.hid (rd_bit (d := dBits b2 p k) (k := k) (m8 := m8) (x := x) (dBits_64 b2 p (by omega)) hk64 hx0 hx1)
                  have HDB : Hid (dBits b2 p (k + 1) = dBits b2 p k ||| (x.toNat / 2 ^ m8 % 2) <<< k) := by
                    show dBits b2 p (k + 1) = _
                    rw [dBits, ← HQ.out.1, ← HQ.out.2.1, ← HQ.out.2.2, hx.out]
                  have hqd : (q : Int).tdiv 8 = (q8 : Int) := hq8 ▸ tdiv8 q
                  have hqm : (q : Int).tmod 8 = (m8 : Int) := hm8 ▸ tmod8 q
                  have hq8w : IntKind.i64.wrap (q8 : Int) = (q8 : Int) := i64_nat (Nat.le_trans (Nat.le_of_lt hqn) (Nat.le_trans hl4 (by decide)))
                  have hm8w : IntKind.i64.wrap (m8 : Int) = (m8 : Int) := i64_nat (Nat.le_trans hm7 (by decide))
                  have hpm := HPW.out
                  clear hq hq8 hm8 hpb hPb hb4 hr4 hx4
                  have hqw := HQW.out
                  go_wp2_with fail
                  clear hqd hqm hq8w hm8w hqw hpm
                  rw [HBV.out, ← HDB.out]
                  exact ⟨⟨k + 1, hkw, rfl, by go_num, BK2.out, RK2.out, HG2.out⟩, by simp [intOf]; omega⟩
                · obtain rfl : k = c := by omega
                  obtain ⟨d, hd⟩ : ∃ d, d = dBits b2 p k := ⟨_, rfl⟩
                  have HVI : Hid (wrap64 (IntKind.u64.wrap (IntKind.u64.wrap (uz u) + (d : Int))) = val i) := by
                    show wrap64 (IntKind.u64.wrap (IntKind.u64.wrap (uz u) + (d : Int))) = val i
                    rw [hd, pk_store HU2.out (dBits_64 b2 p (by omega)), HV.out]
                    show _ = wrap64 (uz u + ((dBits b2 (i * k) k : Nat) : Int))
                    rw [← HPI.out]
                  rw [← hd]
                  have hbv : (wi : World) → True := fun _ => trivial
                  have hcell := BK2.out.cell i
                  have hfr := BK2.out.frozen i
                  have hci2 : (cellsI (pkV n val i))[i]? = some (.int .i64 ((pkV n val i).getD i 0)) := by
                    have := pkV_len n val i
                    simp [cellsI, this, hlt]
                  rw [hci2] at hcell
                  have i1 : (i : Int) < (n : Int) := by omega
                  clear hd hbv hci2 hpb hPb
                  go_wp2_with fail
                  rw [HVI.out]
                  have hfin := BK2.out.set_ i (.int .i64 (val i))
                  rw [cellsI_set, pkV_set n val i hlt] at hfin
                  exact ⟨⟨i + 1, by omega, by go_num, hfin, RK2.out.grown (only_cell _) (fun b hb e => by injection e; omega), only_setAlso HG2.out hgB1 _⟩, by simp [intOf]; omega⟩
            · obtain rfl : i = n := by omega
              obtain ⟨A4, c4, hb4, hr4, -, -, hl4, hx4⟩ := RK.out
              have c40 := hb4.cell 0
              have f40 := hb4.frozen 0
              simp at c40
              clear hb4 hr4 hx4
              go_wp2_with fail
              go_ret
              refine ⟨_, rfl, ?_, by rw [HF.out]; exact RK.out.setNil, only_trans HG.out (only_cell _)⟩
              rw [HF.out]
              have hB : Blk (wr.setCell ⟨g, 0, none⟩ (.slice none 0 0)) gB 3 (cellsI (pkV i val i)) := BK.out.grown (only_cell _) (by simpa using fun e => hgB2 e.symm)
              have hO := hB.own hgB1 (pkV_len i val i) (by omega)
              rw [pkV_full] at hO
              simpa using hO
        · have HF : Hid (rPk n bs bad = ([], b2, true)) := by show rPk n bs bad = _; rw [HP.out, if_pos (.inr (.inr hne))]
          have d2 : ((b2.length : Int) == (nB : Int)) = false := by rw [beq_eq_false_iff_ne]; omega
          go_wp2_with fail
          go_ret
          exact ⟨_, rfl, by rw [HF.out]; exact World.ownsRow_nil _ _ _ _, by rw [HF.out]; exact R3.out.setBad true, only_trans G3.out (only_cell _)⟩
end Go.Proofs.Ytebakogdbeeljaa
