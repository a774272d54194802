/- Numbers in decimal: extract.Parse. Condition: sizes; the table of powers of ten. -/
import Derived.Test.YtfkgcighooijhaaGreatDoorSpec
import Derived.Test.YtfkgcighooijhaaGreatDoorOnto
import Derived.Lib.ConvBytes
namespace Go.Proofs.YtfkgcighooijhaaGreatDoor
open Go.RowKit
set_option linter.unusedVariables false
set_option linter.unusedSimpArgs false

/-- the number that digits spell, behind those that have been read -/
def numF : List Int → Int → Option Int
  | [], n => some n
  | x :: xs, n => if 48 ≤ x ∧ x ≤ 57 then numF xs (10 * n + (x - 48)) else none
def minusB (s : ByteArray) : Bool := Lib.hasPrefix s.data.toList [45]
def digsOf (s : ByteArray) : List Int := if minusB s then (bts s).drop 1 else bts s
def parseN (s : ByteArray) : Option Int :=
  if (digsOf s).length < 1 ∨ 18 < (digsOf s).length then none else (numF (digsOf s) 0).map (fun n => if minusB s then -n else n)
def numV : Option Int → Value
  | some n => .tuple #[.int .i64 n, .bool true]
  | none => .tuple #[.int .i64 0, .bool false]
def NumP (w : World) (o : Option Int) (e : Ending) (w' : World) : Prop := e = .returned (numV o) ∧ w.grownBy w' none
theorem hp_one (l : List UInt8) : Lib.hasPrefix l [45] = true → ∃ t, l = 45 :: t := by
  intro h
  cases l with
  | nil => simp [Lib.hasPrefix] at h
  | cons x t =>
    refine ⟨t, ?_⟩
    simp [Lib.hasPrefix] at h
    rw [h]
/-- what TrimPrefix leaves -/
def trimB (s : ByteArray) : ByteArray := ⟨(Lib.trimPrefix s.data.toList [45]).toArray⟩
theorem trimB_bts (s : ByteArray) : bts (trimB s) = digsOf s := by
  unfold trimB digsOf minusB Lib.trimPrefix bts
  by_cases h : Lib.hasPrefix s.data.toList [45] = true
  · simp [h]
  · have h' : Lib.hasPrefix s.data.toList [45] = false := by simpa using h
    simp [h']
theorem trimB_ne (s : ByteArray) : (trimB s).toList = s.toList ↔ minusB s = false := by
  unfold trimB minusB Lib.trimPrefix
  rw [ByteArray.toList_eq, ByteArray.toList_eq]
  by_cases h : Lib.hasPrefix s.data.toList [45] = true
  · obtain ⟨t, ht⟩ := hp_one _ h
    rw [ht] at h ⊢
    simp [h]
  · have h' : Lib.hasPrefix s.data.toList [45] = false := by simpa using h
    simp [h']
theorem ten_pow {k : Nat} (h : k ≤ 18) : (10 : Int) ^ k ≤ 1000000000000000000 := by
  have : (10 : Nat) ^ k ≤ 10 ^ 18 := Nat.pow_le_pow_right (by omega) h
  have h2 : ((10 ^ k : Nat) : Int) ≤ ((10 ^ 18 : Nat) : Int) := Int.ofNat_le.2 this
  simpa using h2
theorem btsN_size (s : ByteArray) : (bts s).length = s.size := by simp [bts]
theorem bytes_grown (w : World) (e : TypeId) (s : ByteArray) : w.grownBy (Lib.bytesWorld w e s) none :=
  ⟨rfl, rfl, rfl, by rw [Lib.bytesWorld_size]; omega, fun i hi _ => Lib.bytesWorld_at_old w e s i hi⟩
set_option maxHeartbeats 4000000 in
set_option maxRecDepth 100000 in
theorem parse_any (s : ByteArray) (w : World) (hs : s.size ≤ 1000000) :
    Calls Tryz.prog 98 #[.string s] w (NumP w (parseN s)) := by
  have HT : Hid (∀ w', Calls Tryz.prog 104 #[.string s, .string ⟨#[45]⟩] w' fun e w'' => e = .returned (.string (trimB s)) ∧ w'' = w') := fun w' => Tryz.strings_TrimPrefix s ⟨#[45]⟩ w'
  obtain ⟨d, hd⟩ : ∃ d, d = trimB s := ⟨_, rfl⟩
  have HB : Hid (bts d = digsOf s) := Lib.hid (by rw [hd]; exact trimB_bts s)
  have HN : Hid (d.toList = s.toList ↔ minusB s = false) := Lib.hid (by rw [hd]; exact trimB_ne s)
  have HL : Hid ((digsOf s).length = d.size) := Lib.hid (by rw [← HB.out, btsN_size])
  have hdl : d.size ≤ 1000000 := by
    rw [← HL.out]; unfold digsOf; split
    · rw [List.length_drop, btsN_size]; omega
    · rw [btsN_size]; exact hs
  rw [← hd] at HT
  clear hd hs
  go_enter Tryz.func98, Tryz.ntmps98
  go_wp2_with fail
  refine (HT.out _).mono ?_
  rintro e w1 ⟨rfl, rfl⟩
  by_cases hlen : d.size < 1 ∨ 18 < d.size
  · have HV : Hid (parseN s = none) := Lib.hid (by unfold parseN; rw [HL.out, if_pos hlen])
    rcases hlen with h1 | h1
    · have i1 : (d.size : Int) < 1 := by omega
      go_wp2_with fail
      rw [HV.out]
      exact bodyPost_ret (v := numV none) (by simp [results, Tryz.results98, go_sem, numV]) rfl ⟨rfl, only_refl _ _⟩
    · have i1 : ¬ (d.size : Int) < 1 := by omega
      have i2 : (18 : Int) < (d.size : Int) := by omega
      go_wp2_with fail
      rw [HV.out]
      exact bodyPost_ret (v := numV none) (by simp [results, Tryz.results98, go_sem, numV]) rfl ⟨rfl, only_refl _ _⟩
  · have i1 : ¬ (d.size : Int) < 1 := by omega
    have i2 : ¬ (18 : Int) < (d.size : Int) := by omega
    have hd1 : 1 ≤ d.size := by omega
    have hd2 : d.size ≤ 18 := by omega
    have HV : Hid (parseN s = (numF (bts d) 0).map (fun n => if minusB s then -n else n)) := Lib.hid (by unfold parseN; rw [HL.out, if_neg hlen, HB.out])
    clear hlen
    have hcv := Lib.run_convert_string_bytes (P := Tryz.prog) w1 9 22 5 d Tryz.underlying9 Tryz.underlying22 Tryz.underlying5
    have hcell := Lib.bytesWorld_cell w1 5 d
    have hG := bytes_grown w1 5 d
    obtain ⟨W, hW⟩ : ∃ W, W = Lib.bytesWorld w1 5 d := ⟨_, rfl⟩
    obtain ⟨cp, hcp⟩ : ∃ c, c = grownCap w1 d.size 0 5 := ⟨_, rfl⟩
    obtain ⟨r, hr⟩ : ∃ r, r = w1.heap.size := ⟨_, rfl⟩
    rw [← hW, ← hcp, ← hr] at hcv
    rw [← hW, ← hr] at hcell
    rw [← hW] at hG
    have CL : Hid (∀ j x, (bts d)[j]? = some x → W.cell? ⟨r, j, none⟩ = some (.int .u8 x)) := Lib.hid (fun j x hx => by
      have hj : j < d.size := by rw [← btsN_size]; exact (List.getElem?_eq_some_iff.1 hx).1
      rw [hcell j hj]
      unfold bts at hx
      rw [List.getElem?_map] at hx
      have hl : j < d.data.toList.length := hj
      rw [List.getElem?_eq_getElem hl] at hx
      injection hx with hx
      rw [← hx, List.getD_eq_getElem?_getD, List.getElem?_eq_getElem hl]
      rfl)
    have GW := Lib.hid hG
    have hbl : (bts d).length = d.size := btsN_size d
    have HBL := Lib.hid hbl
    have HX : Hid (∀ x ∈ bts d, 0 ≤ x ∧ x ≤ 255) := Lib.hid (fun x hx => by
      unfold bts at hx
      obtain ⟨b, _, rfl⟩ := List.mem_map.1 hx
      have := b.toNat_lt
      omega)
    clear hW hcp hr hcell hG hbl
    go_wp2_with fail
    go_loopw [5, 7, 21] (fun vn _ i wr => ∃ (k : Nat) (n : Int), i = .int .i64 k ∧ vn = .int .i64 n ∧ k ≤ d.size ∧ Hid (numF (bts d) 0 = numF ((bts d).drop k) n) ∧ 0 ≤ n ∧ Hid (n < 10 ^ k) ∧ W.grownBy wr none) (fun _ _ i _ => d.size - (intOf i).toNat)
    case atStart => exact ⟨0, 0, rfl, rfl, Nat.zero_le _, Lib.hid rfl, Int.le_refl _, Lib.hid (by decide), only_refl _ _⟩
    case round =>
      obtain ⟨k, n, rfl, rfl, hk, HF, hn0, HP, hG⟩ := hrel
      have G := Lib.hid hG
      have G1 := Lib.hid (only_trans GW.out hG)
      clear hG
      have hn1 : n < 1000000000000000000 := Int.lt_of_lt_of_le HP.out (ten_pow (by omega))
      by_cases hlt : k < d.size
      · obtain ⟨x, hx⟩ : ∃ x, (bts d)[k]? = some x := ⟨_, List.getElem?_eq_getElem (by rw [HBL.out]; exact hlt)⟩
        obtain ⟨hx0, hx1⟩ := HX.out x (List.mem_of_getElem? hx)
        have hcx := CL.out k x hx
        have hlr : r < W.heap.size := World.block_lt_of_cell? W _ hcx
        have hcx2 : wr.cell? ⟨r, k, none⟩ = some (.int .u8 x) := (G.out.cell_far ⟨r, k, none⟩ hlr (by simp)).trans hcx
        have hd : (bts d).drop k = x :: (bts d).drop (k + 1) := by
          obtain ⟨hkl, e⟩ := List.getElem?_eq_some_iff.1 hx
          rw [← List.getElem_cons_drop hkl, e]
        have HD := Lib.hid hd
        have j1 : (k : Int) < (d.size : Int) := by omega
        clear hx hcx hd hcv
        by_cases hdig : 48 ≤ x ∧ x ≤ 57
        · obtain ⟨c1, c2⟩ := hdig
          have hn2 : n < 100000000000000000 := Int.lt_of_lt_of_le HP.out (by
            have : (10 : Nat) ^ k ≤ 10 ^ 17 := Nat.pow_le_pow_right (by omega) (by omega)
            have h2 : ((10 ^ k : Nat) : Int) ≤ ((10 ^ 17 : Nat) : Int) := Int.ofNat_le.2 this
            simpa using h2)
          have HF2 : Hid (numF (bts d) 0 = numF ((bts d).drop (k + 1)) (10 * n + (x - 48))) := Lib.hid (by rw [HF.out, HD.out, numF, if_pos ⟨c1, c2⟩])
          have HP2 : Hid (10 * n + (x - 48) < 10 ^ (k + 1)) := Lib.hid (by
            have := HP.out
            rw [Int.pow_succ]; omega)
          clear hn1
          go_wp2_with fail
          go_roundw
          case rel => exact ⟨k + 1, 10 * n + (x - 48), by go_num, by go_num, by omega, HF2, by omega, HP2, G.out⟩
          case measure => simp [intOf]; omega
        · have HF2 : Hid (parseN s = none) := Lib.hid (by rw [HV.out, HF.out, HD.out, numF, if_neg hdig]; rfl)
          by_cases c1 : x < 48
          · clear hdig
            go_wp2_with fail
            rw [HF2.out]
            exact bodyPost_ret (v := numV none) (by simp [results, Tryz.results98, go_sem, numV]) rfl ⟨rfl, G1.out⟩
          · have c2 : 57 < x := by omega
            clear hdig
            go_wp2_with fail
            rw [HF2.out]
            exact bodyPost_ret (v := numV none) (by simp [results, Tryz.results98, go_sem, numV]) rfl ⟨rfl, G1.out⟩
      · have j1 : ¬ (k : Int) < (d.size : Int) := by omega
        have HF2 : Hid (numF (bts d) 0 = some n) := Lib.hid (by rw [HF.out, List.drop_eq_nil_of_le (by rw [HBL.out]; omega)]; rfl)
        clear hcv
        by_cases hm : minusB s = true
        · have HR : Hid (parseN s = some (-n)) := Lib.hid (by rw [HV.out, HF2.out]; simp [hm])
          have q1 : (d.toList == s.toList) = false := by
            rw [beq_eq_false_iff_ne]; intro e; have := HN.out.1 e; rw [hm] at this; cases this
          have q2 : (d.toList != s.toList) = true := by rw [bne, q1]; rfl
          clear hm
          go_wp2_with fail
          rw [HR.out]
          exact bodyPost_ret (v := numV (some (-n))) (by simp [results, Tryz.results98, go_sem, numV]) rfl ⟨rfl, G1.out⟩
        · have hm' : minusB s = false := by simpa using hm
          have HR : Hid (parseN s = some n) := Lib.hid (by rw [HV.out, HF2.out]; simp [hm'])
          have q1 : (d.toList == s.toList) = true := by rw [HN.out.2 hm']; simp
          have q2 : (d.toList != s.toList) = false := by rw [bne, q1]; rfl
          clear hm hm'
          go_wp2_with fail
          rw [HR.out]
          exact bodyPost_ret (v := numV (some n)) (by simp [results, Tryz.results98, go_sem, numV]) rfl ⟨rfl, G1.out⟩
end Go.Proofs.YtfkgcighooijhaaGreatDoor
