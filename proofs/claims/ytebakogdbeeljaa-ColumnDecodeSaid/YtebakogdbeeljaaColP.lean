/- The encoder packed of chapter 24. Conditions: sizes. -/
import Derived.Test.YtebakogdbeeljaaColE
import Derived.Test.YtebakogdbeeljaaColA
import Derived.Test.YtebakogdbeeljaaShelf24
import Derived.RegionTactic
import Derived.Laws.MakeOwn
import Derived.BigRegion
import Derived.StillTailTactics
import Derived.Deep.DeepMust
namespace Go.Proofs.Ytebakogdbeeljaa
open Go.RowKit
set_option linter.unusedVariables false
set_option linter.unusedSimpArgs false

def lo (vs : List Int) : Int := loTo vs vs.length
def hi (vs : List Int) : Int := hiTo vs vs.length
theorem loTo_le (vs : List Int) : ∀ k i, i < k → loTo vs k ≤ vs.getD i 0
  | k + 1, i, h => by
    simp only [loTo]
    rcases Nat.lt_or_ge i k with h1 | h1
    · have := loTo_le vs k i h1; omega
    · obtain rfl : i = k := by omega
      omega
theorem hiTo_ge (vs : List Int) : ∀ k i, i < k → vs.getD i 0 ≤ hiTo vs k
  | k + 1, i, h => by
    simp only [hiTo]
    rcases Nat.lt_or_ge i k with h1 | h1
    · have := hiTo_ge vs k i h1; omega
    · obtain rfl : i = k := by omega
      omega
theorem loTo_I64 {vs : List Int} (h : ∀ x ∈ vs, I64 x) : ∀ k, I64 (loTo vs k)
  | 0 => getD_I64 h 0
  | k + 1 => by
    have h1 := loTo_I64 h k
    have h2 := getD_I64 h k
    unfold I64 at *
    simp only [loTo]; omega
theorem hiTo_I64 {vs : List Int} (h : ∀ x ∈ vs, I64 x) : ∀ k, I64 (hiTo vs k)
  | 0 => getD_I64 h 0
  | k + 1 => by
    have h1 := hiTo_I64 h k
    have h2 := getD_I64 h k
    unfold I64 at *
    simp only [hiTo]; omega
/-- the width of the differences -/
def pw (vs : List Int) : Nat := Lib.bitLen (hi vs - lo vs).toNat
theorem bitLenAux_le : ∀ f x, Lib.bitLenAux f x ≤ f
  | 0, x => by simp [Lib.bitLenAux]
  | f + 1, x => by
    have := bitLenAux_le f (x / 2)
    simp only [Lib.bitLenAux]; split <;> omega
theorem pw_le (vs : List Int) : pw vs ≤ 64 := bitLenAux_le 64 _
def nb (vs : List Int) : Nat := (vs.length * pw vs + 7) / 8
/-- the difference from the least value -/
def df (vs : List Int) (i : Nat) : Nat := (vs.getD i 0 - lo vs).toNat
def setBit (bs : List Nat) (q b : Nat) : List Nat := bs.set (q / 8) (bs.getD (q / 8) 0 ||| b <<< (q % 8))
def wBits (bs : List Nat) (q d : Nat) : Nat → List Nat
  | 0 => bs
  | k + 1 => setBit (wBits bs q d k) (q + k) (d / 2 ^ k % 2)
def allBits (vs : List Int) : Nat → List Nat
  | 0 => List.replicate (nb vs) 0
  | i + 1 => wBits (allBits vs i) (i * pw vs) (df vs i) (pw vs)
def packB (vs : List Int) : List Int :=
  if vs.length = 0 then [] else vint (zz (lo vs)) ++ ([(pw vs : Int)] ++ (allBits vs vs.length).map (fun (n : Nat) => (n : Int)))
theorem setBit_len (bs : List Nat) (q b : Nat) : (setBit bs q b).length = bs.length := by simp [setBit]
theorem wBits_len (bs : List Nat) (q d : Nat) : ∀ k, (wBits bs q d k).length = bs.length
  | 0 => rfl
  | k + 1 => by simp only [wBits, setBit_len, wBits_len bs q d k]
theorem allBits_len (vs : List Int) : ∀ i, (allBits vs i).length = nb vs
  | 0 => by simp [allBits]
  | i + 1 => by simp only [allBits, wBits_len, allBits_len vs i]
def Bt (bs : List Nat) : Prop := ∀ i, bs.getD i 0 < 256
theorem Bt.set_ {bs : List Nat} (h : Bt bs) (q b : Nat) (hb : b < 2) : Bt (setBit bs q b) := fun i => by
  unfold setBit
  by_cases hi : i = q / 8
  · subst hi
    by_cases hl : q / 8 < bs.length
    · rw [List.getD_eq_getElem?_getD, List.getElem?_set_self hl]
      simp only [Option.getD_some]
      have h1 := h (q / 8)
      have h2 : b <<< (q % 8) < 2 ^ 8 := by
        rw [Nat.shiftLeft_eq]
        have h3 : 2 ^ (q % 8) ≤ 2 ^ 7 := Nat.pow_le_pow_right (by decide) (by omega)
        have h4 : b * 2 ^ (q % 8) ≤ 1 * 2 ^ 7 := Nat.mul_le_mul (by omega) h3
        omega
      exact Nat.or_lt_two_pow (n := 8) h1 h2
    · rw [List.getD_eq_getElem?_getD, List.getElem?_eq_none (by simp; omega)]; simp
  · rw [List.getD_eq_getElem?_getD, List.getElem?_set_ne (fun e => hi e.symm), ← List.getD_eq_getElem?_getD]; exact h i
theorem Bt.w {bs : List Nat} (h : Bt bs) (q d : Nat) : ∀ k, Bt (wBits bs q d k)
  | 0 => h
  | k + 1 => (Bt.w h q d k).set_ _ _ (by omega)
theorem Bt.all (vs : List Int) : ∀ i, Bt (allBits vs i)
  | 0 => fun i => by
    simp only [allBits, List.getD_eq_getElem?_getD, List.getElem?_replicate]
    split <;> simp
  | i + 1 => (Bt.all vs i).w _ _ _
def cellsOf (bs : List Nat) : Array Value := (bs.map (fun (n : Nat) => Value.int .u8 n)).toArray
theorem cellsOf_set (bs : List Nat) (q n : Nat) : (cellsOf bs).setIfInBounds q (.int .u8 (n : Nat)) = cellsOf (bs.set q n) := by
  simp [cellsOf, List.map_set]
theorem cellsOf_at {bs : List Nat} {q : Nat} (h : q < bs.length) : (cellsOf bs)[q]? = some (.int .u8 (bs.getD q 0 : Nat)) := by
  simp [cellsOf, h]

theorem made_one (z : Value) (hz : z.cells = #[z]) (n : Nat) : madeCells z.cells (n * 1) = Array.replicate n z := by
  rw [hz, Nat.mul_one]
  apply Array.ext
  · simp [madeCells]
  · intro i h1 h2
    simp [madeCells, Nat.mod_one]
theorem make_any {P : Program} {t e : TypeId} {z : Value} {bytes : Nat} (ht : P.underlying t = some (.slice e)) (hi : (P.info? e).map (fun i => (i.zero, i.size, i.bytes)) = some (some z, 1, bytes)) (hz : z.cells = #[z]) (hb : bytes ≤ 8) (n : Nat) (hn : n ≤ 10000000) (w : World) :
    Sem.run P (Instr.makeSlice t (.int .i64 (n : Int)) (.int .i64 (n : Int))) w = .ok (.slice (some ⟨w.heap.size, 0, none⟩) n n) (w.alloc (.cells (Array.replicate n z) e)) := by
  obtain ⟨i0, hi0, hz0, hz1, hz2⟩ := info_parts hi
  have hbi : (i0.bytes : Int) * (n : Int) ≤ 281474976710656 := by
    have h1 : i0.bytes * n ≤ 8 * 10000000 := Nat.mul_le_mul (by omega) hn
    have h2 : ((i0.bytes * n : Nat) : Int) ≤ 80000000 := by omega
    rw [Int.natCast_mul] at h2; omega
  have h := run_makeSlice (P := P) w t e i0 z ht hi0 hz0 .i64 .i64 n n (by omega) (Int.le_refl _) (by rw [hz1, Int.toNat_natCast]; omega) hbi (by omega)
  rw [Int.toNat_natCast, hz1, made_one z hz] at h
  exact h
theorem cells_zero (n : Nat) : Array.replicate n (Value.int .u8 0) = cellsOf (List.replicate n 0) := by
  simp [cellsOf]
theorem only_setNew {a w : World} {row : Option Nat} (h : a.grownBy w row) {p : Addr} (hp : a.heap.size ≤ p.block) (u : Value) : a.grownBy (w.setCell p u) row :=
  ⟨h.os, h.tape, h.output, by simpa [World.setCell] using h.size, fun i hi hne => (Below.heap_setCell w p u i (by rintro rfl; omega)).trans (h.block i hi hne)⟩
theorem tdiv8 (q : Nat) : (q : Int).tdiv 8 = ((q / 8 : Nat) : Int) := by rw [Int.tdiv_eq_ediv_of_nonneg (by omega)]; omega
theorem tmod8 (q : Nat) : (q : Int).tmod 8 = ((q % 8 : Nat) : Int) := by rw [Int.tmod_eq_emod_of_nonneg (by omega)]; omega
theorem u64_diff {x y : Int} (hx : I64 x) (hy : I64 y) (h : y ≤ x) : IntKind.u64.wrap (IntKind.u64.wrap x - IntKind.u64.wrap y) = ((x - y).toNat : Int) := by
  unfold I64 at *
  rw [IntKind.wrap_u64, IntKind.wrap_u64, IntKind.wrap_u64]; omega

theorem wrap_add (p k : Nat) (h : p + k ≤ 2000000) : wrap64 ((p : Int) + (k : Int)) = ((p + k : Nat) : Int) := by
  rw [IntWalk.wrap64_in _ (by omega)]; omega
theorem div_lt {q P n : Nat} (hn : n = (P + 7) / 8) (h : q < P) : q / 8 < n := by omega
theorem i64_nat {n : Nat} (h : n ≤ 2000000) : IntKind.i64.wrap (n : Int) = (n : Int) := IntWalk.i64_in _ (by omega)
theorem bit_val {cur d k m8 : Nat} (hc : cur < 256) (hd : d < 18446744073709551616) (hm : m8 ≤ 7) :
    bits BinOp.or IntKind.u8 (cur : Int) (bits BinOp.and IntKind.u64 ((d : Int) / 2 ^ k) 1 % 256 * 2 ^ m8 % 256) = ((cur ||| (d / 2 ^ k % 2) <<< m8 : Nat) : Int) := by
  have e1 : ((d : Int) / 2 ^ k) = ((d / 2 ^ k : Nat) : Int) := by rw [Int.natCast_ediv, Int.natCast_pow]; rfl
  have h1 := bits_and_u64_nat (d / 2 ^ k) 1 (Nat.lt_of_le_of_lt (Nat.div_le_self _ _) hd) (by decide)
  rw [Nat.and_one_is_mod] at h1
  have h1' : bits .and .u64 ((d / 2 ^ k : Nat) : Int) 1 = ((d / 2 ^ k % 2 : Nat) : Int) := h1
  rw [e1, h1']
  have hb : d / 2 ^ k % 2 < 2 := Nat.mod_lt _ (by decide)
  generalize d / 2 ^ k % 2 = b at *
  have h7 : 2 ^ m8 ≤ 2 ^ 7 := Nat.pow_le_pow_right (by decide) hm
  have h8 : b * 2 ^ m8 ≤ 1 * 2 ^ 7 := Nat.mul_le_mul (by omega) h7
  have e2 : ((b : Int) % 256 * 2 ^ m8 % 256) = ((b * 2 ^ m8 : Nat) : Int) := by
    rw [show (b : Int) % 256 = (b : Int) from by omega, Int.natCast_mul, Int.natCast_pow]
    have h9 : ((b * 2 ^ m8 : Nat) : Int) < 256 := by omega
    rw [Int.natCast_mul, Int.natCast_pow] at h9
    exact Int.emod_eq_of_lt (by rw [show ((2 : Int) ^ m8) = ((2 ^ m8 : Nat) : Int) from by rw [Int.natCast_pow]; rfl, ← Int.natCast_mul]; omega) h9
  rw [e2, or_u8 cur _ hc (by omega), Nat.shiftLeft_eq]
theorem Blk.rd {w : World} {g : Nat} {t : TypeId} {cs : Array Value} (h : Blk w g t cs) : Rd (· = g) w (some ⟨g, 0, none⟩) cs.toList := fun _ =>
  ⟨g, 0, rfl, rfl, h.lt, fun j u hu => by rw [Nat.zero_add, h.cell j]; simpa using hu⟩
theorem cellsOf_list (bs : List Nat) : (cellsOf bs).toList = (bs.map (fun (n : Nat) => (n : Int))).map (.int .u8) := by simp [cellsOf]
theorem nb_eq (vs : List Int) : nb vs = (vs.length * pw vs + 7) / 8 := rfl
theorem pw_is (vs : List Int) : Lib.bitLen ((((hiTo vs vs.length - loTo vs vs.length).toNat : Nat) : Int)).toNat = pw vs := by rw [Int.toNat_natCast]; rfl
theorem lo_is (vs : List Int) : loTo vs vs.length = lo vs := rfl
theorem hi_is (vs : List Int) : hiTo vs vs.length = hi vs := rfl
theorem df_is (vs : List Int) (i : Nat) : df vs i = (vs.getD i 0 - lo vs).toNat := rfl
theorem lo_le {vs : List Int} {i : Nat} (h : i < vs.length) : lo vs ≤ vs.getD i 0 := loTo_le vs _ i h
theorem lo_I64 {vs : List Int} (h : ∀ x ∈ vs, I64 x) : I64 (lo vs) := loTo_I64 h _
theorem df_lt {vs : List Int} (h : ∀ x ∈ vs, I64 x) {i : Nat} (hi : i < vs.length) : df vs i < 18446744073709551616 := by
  have h1 := getD_I64 h i
  have h2 := loTo_I64 h vs.length
  have h3 := loTo_le vs _ i hi
  unfold df lo; unfold I64 at *; omega
attribute [irreducible] pw nb df lo hi
set_option maxHeartbeats 4000000 in
set_option maxRecDepth 100000 in
theorem packed_any (base : Nat) (v : Value) (xs : List Int) (A : Option Addr) (vs : List Int) (c : Nat) (w : World) (h : Byts base w v xs) (hr : Rd (· < base) w A (vs.map (.int .i64))) (hx : xs.length ≤ 1000000) (hl : vs.length ≤ 20000) (hi : ∀ x ∈ vs, I64 x) (hb : base ≤ w.heap.size) :
    Calls Try.prog 46 #[v, .slice A vs.length c] w (VPost base w v (xs ++ packB vs)) := by
  have H := Lib.hid h
  have HR := Lib.hid hr
  have HI := Lib.hid hi
  clear h hr hi
  by_cases h0 : vs.length = 0
  · have H0 := Lib.hid h0
    have hbd := bounds_any A vs c w HR.out (by omega)
    rw [if_pos h0] at hbd
    have HBD := Lib.hid hbd
    clear h0 hbd
    go_enter Try.func46, Try.ntmps46
    go_wp2_with fail
    refine HBD.out.mono ?_
    rintro e w1 ⟨rfl, n1, rfl⟩
    go_wp2_with fail
    go_ret
    exact ⟨_, rfl, by unfold packB; rw [if_pos H0.out, List.append_nil]; exact H.out, (Onto.refl _ _).drewN _⟩
  · have hbd := bounds_any A vs c w HR.out (by omega)
    rw [if_neg h0] at hbd
    have HBD := Lib.hid hbd
    have HPB : Hid (packB vs = vint (zz (lo vs)) ++ ([(pw vs : Int)] ++ (allBits vs vs.length).map (fun (n : Nat) => (n : Int)))) := by
      show packB vs = _; unfold packB; rw [if_neg h0]
    have hp0 : 0 < vs.length := by omega
    have hlohi : loTo vs vs.length ≤ hiTo vs vs.length := Int.le_trans (loTo_le vs _ 0 hp0) (hiTo_ge vs _ 0 hp0)
    have HD := Lib.hid (u64_diff (hiTo_I64 HI.out vs.length) (loTo_I64 HI.out vs.length) hlohi)
    have HLO : Hid (I64 (lo vs)) := lo_I64 HI.out
    have hpw := pw_le vs
    obtain ⟨P, hP⟩ : ∃ P, P = vs.length * pw vs := ⟨_, rfl⟩
    have hPb : P ≤ 1280000 := by rw [hP]; exact Nat.mul_le_mul hl hpw
    have hmul : wrap64 ((vs.length : Int) * (pw vs : Int)) = (P : Int) := by
      rw [hP, ← Int.natCast_mul, ← hP]; exact IntWalk.wrap64_in _ (by omega)
    have hdiv : ((P : Int) + 7) / 8 = (nb vs : Int) := by rw [nb_eq, ← hP]; omega
    have hnb : nb vs ≤ 200000 := by rw [nb_eq, ← hP]; omega
    have hmk := make_any (P := Try.prog) Try.underlying23 byteInfo rfl (by decide) (nb vs) (by omega)
    have HP := Lib.hid hP
    clear h0 hbd hlohi hP
    go_enter Try.func46, Try.ntmps46
    go_wp2_with fail
    refine HBD.out.mono ?_
    rintro e w1 ⟨rfl, n1, rfl⟩
    go_wp2_with fail
    rw [HD.out]
    refine (Try.bits_Len64 _ _ (by omega) (by have h1 := (hiTo_I64 HI.out vs.length); have h2 := loTo_I64 HI.out vs.length; unfold I64 at h1 h2; omega)).mono ?_
    rintro e w2 ⟨rfl, rfl⟩
    rw [pw_is, lo_is, hi_is]
    go_wp2_with fail
    refine (zigzag_any (lo vs) _ HLO.out).mono ?_
    rintro e w3 ⟨rfl, n3, rfl⟩
    go_wp2_with fail
    refine (cvarint_any base _ _ (zz (lo vs)) _ (H.out.drewN _) (by omega) (zz_lt HLO.out) (by exact hb)).mono ?_
    rintro e w4 ⟨v4, rfl, hB4, hO4⟩
    have B4 := Lib.hid hB4
    have O4 : Hid (Onto w v v4 w4) := Onto.trans ((Onto.refl _ _).drewN (n1 + n3)) hO4
    have R4 : Hid (Rd (· < base) w4 A (vs.map (.int .i64))) := (HR.out.drewN (n1 + n3)).onto hO4 H.out.ne
    have hz4 := O4.out.1.size
    have hv4 := vint_len10 (zz_lt HLO.out)
    clear hB4 hO4
    go_wp2_with (at_builtin; refine wpList_append1 rfl _ _ 23 rfl base Try.underlying23 byteInfo rfl (by decide) (v := _) (by rfl) (w0 := _) (cs := #[.int .u8 (pw vs : Int)]) B4.out (by rfl) rfl (by simp [Value.oneCell']) (by decide) (by rw [List.length_append]; omega) (by omega) ?_; intro v5 w5 hv5 hg5 hob5)
    have B5 := Lib.hid (Byts.snoc hv5)
    have O45 := onto_ap hg5 hob5
    have R5 : Hid (Rd (· < base) w5 A (vs.map (.int .i64))) := R4.out.onto O45 B4.out.ne
    have O5 := Lib.hid (O4.out.trans O45)
    have hz5 := O5.out.1.size
    clear hv5 hg5 hob5 O45 B4 R4 O4
    go_wp2_with fail
    have BL : Hid (Blk (w5.alloc (.cells (Array.replicate (nb vs) (Value.int .u8 0)) 5)) w5.heap.size 5 (cellsOf (allBits vs 0))) := by
      show Blk _ _ _ _
      rw [show cellsOf (allBits vs 0) = Array.replicate (nb vs) (Value.int .u8 0) from (cells_zero _).symm]
      exact Blk.new _ _ _
    obtain ⟨gB, hgB⟩ : ∃ gB, gB = w5.heap.size := ⟨_, rfl⟩
    rw [← hgB] at BL ⊢
    have hgB1 : w5.heap.size ≤ gB := by omega
    have HGB := Lib.hid hgB
    clear hgB hmk hmul hdiv
    go_loopw [47] (fun j wr => ∃ i : Nat, i ≤ vs.length ∧ j = .int .i64 i ∧ Blk wr gB 5 (cellsOf (allBits vs i)) ∧ w5.grownBy wr none) (fun j _ => vs.length - (intOf j).toNat)
    case atStart => exact ⟨0, Nat.zero_le _, rfl, BL.out, only_alloc (only_refl _ _) _⟩
    case round =>
      obtain ⟨i, hi, rfl, hBk, hG⟩ := hrel
      have BK := Lib.hid hBk
      have HG := Lib.hid hG
      clear hBk hG BL
      by_cases hlt : i < vs.length
      · obtain ⟨b, off, x, rfl, hc, hx2⟩ := (R5.out.grown HG.out (by simp)).int_at hlt
        have HX : Hid (I64 x) := by show I64 x; rw [← hx2.out]; exact getD_I64 HI.out i
        have HDX : Hid (IntKind.u64.wrap (IntKind.u64.wrap x - IntKind.u64.wrap (lo vs)) = (df vs i : Int)) := by
          show IntKind.u64.wrap (IntKind.u64.wrap x - IntKind.u64.wrap (lo vs)) = (df vs i : Int)
          rw [df_is, hx2.out]
          exact u64_diff HX.out HLO.out (by rw [← hx2.out]; exact lo_le hlt)
        obtain ⟨p, hp⟩ : ∃ p, p = i * pw vs := ⟨_, rfl⟩
        have hpb : p + pw vs ≤ P := by
          rw [hp, HP.out]
          have := Nat.mul_le_mul_right (pw vs) (show i + 1 ≤ vs.length from hlt)
          rw [Nat.add_mul] at this; omega
        have hpm : wrap64 ((i : Int) * (pw vs : Int)) = (p : Int) := by
          rw [hp, ← Int.natCast_mul, ← hp]; exact IntWalk.wrap64_in _ (by omega)
        have HPI := Lib.hid hp
        have HPM := Lib.hid hpm
        clear hp hpm
        obtain ⟨wo, rfl⟩ : ∃ wo : World, wo = wr := ⟨_, rfl⟩
        go_wp2_with fail
        rw [HDX.out]
        go_loopw [58] (fun j wi => ∃ k : Nat, k ≤ pw vs ∧ j = .int .i64 k ∧ Blk wi gB 5 (cellsOf (wBits (allBits vs i) p (df vs i) k)) ∧ w5.grownBy wi none) (fun j _ => pw vs - (intOf j).toNat)
        case atStart => exact ⟨0, Nat.zero_le _, rfl, by rw [wBits]; exact BK.out, HG.out⟩
        case round =>
          obtain ⟨k, hk, rfl, hBk2, hG2⟩ := hrel
          have BK2 := Lib.hid hBk2
          have HG2 := Lib.hid hG2
          clear hBk2 hG2
          by_cases hkw : k < pw vs
          · obtain ⟨q, hq⟩ : ∃ q, q = p + k := ⟨_, rfl⟩
            have hqP : q < P := hq ▸ Nat.lt_of_lt_of_le (Nat.add_lt_add_left hkw p) hpb
            have HQW : Hid (wrap64 ((p : Int) + (k : Int)) = (q : Int)) := by
              show wrap64 ((p : Int) + (k : Int)) = (q : Int)
              have h := wrap_add p k (Nat.le_trans (Nat.le_of_lt (hq ▸ hqP)) (Nat.le_trans hPb (by decide)))
              rw [← hq] at h; exact h
            have hqn : q / 8 < nb vs := div_lt (by rw [nb_eq, HP.out]) hqP
            obtain ⟨q8, hq8⟩ : ∃ q8, q8 = q / 8 := ⟨_, rfl⟩
            obtain ⟨m8, hm8⟩ : ∃ m8, m8 = q % 8 := ⟨_, rfl⟩
            have hm7 : m8 ≤ 7 := by omega
            rw [← hq8] at hqn
            have hqi : (q8 : Int) < (nb vs : Int) := by omega
            have hq80 : (0 : Int) ≤ (q8 : Int) := by omega
            have hm80 : (0 : Int) ≤ (m8 : Int) := by omega
            obtain ⟨cur, hcur⟩ : ∃ cur, cur = (wBits (allBits vs i) p (df vs i) k).getD q8 0 := ⟨_, rfl⟩
            have hcell := (BK2.out.cell q8).trans (cellsOf_at (by rw [wBits_len, allBits_len]; exact hqn))
            rw [← hcur] at hcell
            have hfr := BK2.out.frozen q8
            have HQ := Lib.hid (And.intro hq (And.intro hq8 (And.intro hm8 hcur)))
            have hqd : (q : Int).tdiv 8 = (q8 : Int) := hq8 ▸ tdiv8 q
            have hqm : (q : Int).tmod 8 = (m8 : Int) := hm8 ▸ tmod8 q
            have hq8w : IntKind.i64.wrap (q8 : Int) = (q8 : Int) := i64_nat (Nat.le_trans (Nat.le_of_lt hqn) (Nat.le_trans hnb (by decide)))
            have hm8w : IntKind.i64.wrap (m8 : Int) = (m8 : Int) := i64_nat (Nat.le_trans hm7 (by decide))
            have hpm := HPM.out
            clear hq hq8 hm8 hcur hqn hpb hPb
            go_wp2_with fail
            rw [HQW.out]
            clear hpm
            go_still_tail 15, (by kernel_rfl)
            go_wp2_with fail
            clear hqd hqm hq8w hm8w
            have HV := bit_val (cur := cur) (d := df vs i) (k := k) (m8 := m8) (by rw [HQ.out.2.2.2]; exact (Bt.all vs i).w _ _ _ _) (df_lt HI.out hlt) hm7
            rw [HV]
            have hfin := BK2.out.set_ q8 (.int .u8 ((cur ||| (df vs i / 2 ^ k % 2) <<< m8 : Nat) : Int))
            rw [cellsOf_set] at hfin
            have hw : wBits (allBits vs i) p (df vs i) (k + 1) = (wBits (allBits vs i) p (df vs i) k).set q8 (cur ||| (df vs i / 2 ^ k % 2) <<< m8) := by
              rw [wBits, setBit, ← HQ.out.1, ← HQ.out.2.1, ← HQ.out.2.2.1, ← HQ.out.2.2.2]
            exact ⟨⟨k + 1, hkw, by go_num, by rw [hw]; exact hfin, only_drew (only_setNew HG2.out hgB1 _)⟩, by simp [intOf]; omega⟩
          · obtain rfl : k = pw vs := by omega
            go_wp2_with fail
            go_roundw
            case rel => exact ⟨i + 1, by omega, by go_num, by rw [allBits, ← HPI.out]; exact BK2.out, HG2.out⟩
            case measure => simp [intOf]; omega
      · obtain rfl : i = vs.length := by omega
        have B6 : Hid (Byts base wr v5 (xs ++ vint (zz (lo vs)) ++ [(pw vs : Int)])) := own_ext B5.out HG.out
        have hzr := HG.out.size
        have hRB := BK.out.rd
        rw [cellsOf_list] at hRB
        have RB := Lib.hid hRB
        have hal := allBits_len vs vs.length
        have HAL := Lib.hid hal
        clear hRB hal
        go_wp2_with (at_builtin; refine wpList_appendN rfl _ _ 23 rfl base Try.underlying23 byteInfo rfl (by decide) (v := v5) (by rfl) B6.out (some ⟨gB, 0, none⟩) (nb vs) (nb vs) (by rfl) RB.out (by rw [List.length_map, List.length_map, HAL.out, Nat.mul_one]) (by simp [Value.oneCell']) (by decide) (by rw [List.length_append, List.length_append]; simp; omega) (by omega) ?_; intro v7 w7 hv7 hg7 hob7)
        have HF : Hid (Byts base w7 v7 (xs ++ packB vs)) := by
          show Byts base w7 v7 (xs ++ packB vs)
          rw [HPB.out]
          have e : xs ++ (vint (zz (lo vs)) ++ ([(pw vs : Int)] ++ (allBits vs vs.length).map (fun (n : Nat) => (n : Int)))) = (xs ++ vint (zz (lo vs)) ++ [(pw vs : Int)]) ++ (allBits vs vs.length).map (fun (n : Nat) => (n : Int)) := by simp
          rw [e]
          unfold Byts
          rw [List.map_append, List.length_append, List.length_map, HAL.out]
          exact hv7
        have O7 : Hid (Onto w v v7 w7) := O5.out.trans ((Onto.trans ⟨only_of_none HG.out _, .inl rfl⟩) ⟨hg7, hob7.elim .inl (fun h => .inr ⟨_, Nat.le_refl _, h⟩)⟩)
        clear hv7 hg7 hob7
        go_wp2_with fail
        go_ret
        exact ⟨v7, rfl, HF.out, O7.out⟩
end Go.Proofs.Ytebakogdbeeljaa
