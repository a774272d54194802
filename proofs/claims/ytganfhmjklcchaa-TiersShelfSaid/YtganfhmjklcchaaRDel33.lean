/- Delete of the reference of chapter 33. Condition: sizes. -/
import Derived.Test.YtganfhmjklcchaaRef33
import Derived.Deep.RegionLaw
import Derived.Deep.DeepCutAuto
namespace Go.Proofs.Ytganfhmjklcchaa
open Go.RowKit
set_option linter.unusedVariables false
set_option linter.unusedSimpArgs false

set_option maxHeartbeats 8000000 in
set_option maxRecDepth 100000 in
theorem rdel_any {S : Nat → Prop} (A : Option Addr) (bs : List BlobD) (c : Nat) (i t : Int) (w : World) (hr : Rd S w A (bs.flatMap BlobD.cells)) (hs : ∀ y ∈ bs, y.Sub S w) (hS : ∀ b, w.heap.size ≤ b → S b) (hl : bs.length ≤ 1000) (hc : bs.length ≤ c) (hcm : c ≤ maxLen) (hz : A = none → c = 0) :
    Calls Try.prog 10 #[.slice A bs.length c, .int .i64 i, .int .i64 t] w (ShPost S w (fun bs' => bs' = delB bs i t)) := by
  have HCM := Lib.hid hcm
  unfold maxLen at hcm
  have HR := Lib.hid hr
  have HRW := Lib.hid (hr.mono (S' := (· < w.heap.size)) (fun b _ hlt => hlt))
  have HSB := Lib.hid hs
  have HS0 := Lib.hid hS
  have HZ := Lib.hid hz
  have KA := Lib.hid (rat_any A bs c i t w hr (by omega))
  have hlow := lowC_le (cf := cfBlob i t) bs
  clear hr hs hS hz
  go_enter Try.func10, Try.ntmps10
  go_wp2_with fail
  refine KA.out.mono ?_
  rintro e w1 ⟨rfl, hg⟩
  have G := Lib.hid hg
  clear hg KA
  cases hok : okC (cfBlob i t) bs with
  | false =>
    have HV : Hid (delB bs i t = bs) := Lib.hid (by unfold delB; rw [hok]; simp)
    clear hok
    go_wp2_with fail
    go_ret
    exact ⟨A, c, bs, rfl, HV.out.symm, hc, HCM.out, HZ.out, HR.out.grown G.out (by simp), (fun y hy => (HSB.out y hy).grown G.out (by simp)), G.out⟩
  | true =>
    obtain ⟨y, hy, -⟩ := okC_some hok
    have HV : Hid (delB bs i t = bs.take (lowC (cfBlob i t) bs) ++ bs.drop (lowC (cfBlob i t) bs + 1)) := Lib.hid (by unfold delB; rw [hok, if_pos rfl])
    obtain ⟨m, hm⟩ : ∃ m, m = lowC (cfBlob i t) bs := ⟨_, rfl⟩
    rw [← hm] at hy hlow HV ⊢
    have hml : m < bs.length := (List.getElem?_eq_some_iff.1 hy).1
    obtain ⟨b, o, rfl, -, -, -⟩ := HR.out (by rw [flat_len _ 3 BlobD.cells_len]; omega)
    have HR1 : Hid (Rd (· < w.heap.size) w1.drew (some ⟨b, o, none⟩) ((bs.take m).flatMap BlobD.cells)) := Lib.hid (by
      have := (HRW.out.grown G.out (by simp)).take (m * 3)
      rw [flat_take BlobD.cells_len]; exact this)
    have hlen1 : ((bs.take m).flatMap BlobD.cells).length = m * 3 := by rw [flat_len _ 3 BlobD.cells_len, List.length_take, Nat.min_eq_left (by omega)]
    have hsz1 := G.out.size
    have hwm : IntKind.i64.wrap ((m : Int) + 1) = (m : Int) + 1 := IntWalk.i64_in _ (by omega)
    have i1 : (0 : Int) ≤ (m : Int) + 1 := by omega
    have i2 : (m : Int) + 1 ≤ (bs.length : Int) := by omega
    have i3 : ((m : Int) + 1).toNat = m + 1 := by omega
    have i4 : (m : Int) ≤ (bs.length : Int) := by omega
    have i5 : (m : Int) ≤ (c : Int) := by omega
    have i6 : (bs.length : Int) ≤ (c : Int) := by omega
    have HL1 := Lib.hid hlen1
    have HRD : Hid (Rd (· < w.heap.size) w1.drew (some ⟨b, o, none⟩) (bs.flatMap BlobD.cells)) := Lib.hid (by
      have := HRW.out.grown G.out (by simp)
      exact this)
    have hszd : w.heap.size ≤ w1.drew.heap.size := hsz1
    clear hok hm hy hlen1
    go_wp2_with fail
    go_region_law (first
      | (have htok := hown7; go_must (refine step_appendN rfl _ _ 26 rfl w.heap.size Try.underlying26 blobInfo rfl (by decide) (v := _) (by rfl) hown7 _ _ _ (by rfl) (HR7.out.cut (n := bs.length) (k := m + 1) (size := 3) (cap := c) (by rw [flat_len _ 3 BlobD.cells_len]) (by omega) (by omega)) (by rw [List.length_drop, flat_len _ 3 BlobD.cells_len, Nat.sub_mul]) (fun u hu => flat_one BlobD.one _ u (List.mem_of_mem_drop hu)) (by decide) (by omega) (by omega) ?_); intro v8 w8 hown8 hg8 hob8)
      | (go_must (refine step_appendN rfl _ _ 26 rfl w.heap.size Try.underlying26 blobInfo rfl (by decide) (v := .slice none 0 0) (by rfl) (World.ownsRow_nil _ _ _ _) (some ⟨b, o, none⟩) m c (by rfl) HR1.out HL1.out (flat_one BlobD.one _) (by decide) (by omega) (by omega) ?_); intro v7 w7 hown7 hg7 hob7; simp only [Nat.zero_add, List.nil_append] at hown7; have HR7 : Hid (Rd (· < w.heap.size) w7 _ _) := Lib.hid (HRD.out.grown hg7 (by simp [Value.ownBlock])); have hz7 : w1.heap.size ≤ w7.heap.size := hg7.size))
    all_goals
      have G8 : Hid (w.grownBy w8 none) := Lib.hid (only_own (only_trans (only_drew G.out) (by simpa [Value.ownBlock] using hg7)) hg8 hown7 (Nat.le_refl _))
      have hown9 : w8.ownsRow w.heap.size 30 3 v8 (delB bs i t).length ((delB bs i t).flatMap BlobD.cells) := by
        rw [HV.out]
        have e1 : (bs.take m ++ bs.drop (m + 1)).length = m + (bs.length - (m + 1)) := by simp; omega
        rw [e1, List.flatMap_append]
        simpa [flat_drop BlobD.cells_len] using hown8
      obtain ⟨A8, c8, rfl, hc8, hm8, -, hr8⟩ := Rd.of_own hown9 (by decide)
      have HN : Hid (A8 = none → c8 = 0) := Lib.hid (fun e => by rw [e] at hown9; exact own_none hown9)
      have HR8 := Lib.hid hr8
      clear hown7 hown8 hown9 hr8 hg7 hg8 hob7 hob8
      go_wp2
      all_goals go_ret
      all_goals exact ⟨A8, c8, delB bs i t, rfl, rfl, hc8, hm8, HN.out, HR8.out.mono (fun b hb _ => HS0.out b hb), (fun y hy => (HSB.out y (delB_sub hy)).grown G8.out (by simp)), G8.out⟩
end Go.Proofs.Ytganfhmjklcchaa
