/- insertionSortCmpFunc at fields that are in order (printed by mk31i.py): nothing is moved. Conditions: the order. -/
import Derived.Test.YtpaiideboodaeaaGreatDoorJEncL
import Derived.Test.YtpaiideboodaeaaGreatDoorJFlat
import Derived.Test.YtpaiideboodaeaaGreatDoorJShelf36
import Derived.Test.YtpaiideboodaeaaGreatDoorJGenC
import Derived.Deep.DeepCutAuto
import Derived.Test.YtpaiideboodaeaaGreatDoorJBase
import Derived.Lib.ConvBytes
import Derived.Lib.SliceRun
import Derived.StillTailTactics
import Derived.Test.YtpaiideboodaeaaGreatDoorJFiles
namespace Go.Proofs.YtpaiideboodaeaaGreatDoor
open Go.RowKit
set_option linter.unusedVariables false
set_option linter.unusedSimpArgs false

theorem load_fd (w : World) (b o : Nat) (s v : ByteArray) (h0 : w.cell? ⟨b, o, none⟩ = some (.string s)) (h1 : w.cell? ⟨b, o + 1, none⟩ = some (.string v)) :
    (Instr.loadAt 85 (.pointer (some ⟨b, o, none⟩))).run Tryz.prog w = .ok (.agg #[.string s, .string v]) w := by
  have hu := Tryz.underlying85
  simp [go_sem, h0, h1]
def QuietV (w : World) (e : Ending) (w' : World) : Prop := e = .returned (.tuple #[]) ∧ w.grownBy w' none
set_option maxHeartbeats 4000000 in
set_option maxRecDepth 100000 in
theorem insc_any {S : Nat → Prop} (fb fo : Nat) (fs : List FieldD) (c : Nat) (w : World) (hr : Rd S w (some ⟨fb, fo, none⟩) (fs.flatMap FieldD.cells)) (hl : fs.length ≤ 1000) (hs : (fs.map FieldD.name).Pairwise (fun a b => a.data.toList < b.data.toList)) :
    Calls Tryz.prog 232 #[.slice (some ⟨fb, fo, none⟩) fs.length c, .int .i64 0, .int .i64 fs.length, .func (.func 157) #[] #[]] w (QuietV w) := by
  have HR := Lib.hid hr
  have HS := Lib.hid hs
  clear hr hs
  go_enter Tryz.func232, Tryz.ntmps232
  go_wp2_with fail
  go_loopw [8] (fun vi wr => ∃ i : Nat, vi = .int .i64 i ∧ 1 ≤ i ∧ i ≤ fs.length + 1 ∧ w.grownBy wr none) (fun vi _ => fs.length + 1 - (intOf vi).toNat)
  case atStart => exact ⟨1, rfl, by omega, by omega, only_refl _ _⟩
  case round =>
    obtain ⟨i, rfl, hi1, hi, hG⟩ := hrel
    have G := Lib.hid hG
    clear hG
    by_cases hlt : i < fs.length
    · have k1 : (i : Int) < (fs.length : Int) := by omega
      go_wp2_with fail
      obtain ⟨wo, rfl⟩ : ∃ x, x = wr := ⟨_, rfl⟩
      go_loopw [9] (fun vj wq => vj = .int .i64 (i : Int) ∧ wq = wo) (fun _ _ => 0)
      case atStart => exact ⟨rfl, rfl⟩
      case round =>
        obtain ⟨rfl, rfl⟩ := hrel
        obtain ⟨x, hx⟩ : ∃ x, fs[i]? = some x := ⟨_, List.getElem?_eq_getElem hlt⟩
        obtain ⟨j, hj⟩ : ∃ j, i = j + 1 := ⟨i - 1, by omega⟩
        obtain ⟨y, hy⟩ : ∃ y, fs[j]? = some y := ⟨_, List.getElem?_eq_getElem (by omega)⟩
        have HX := Lib.hid hx
        have HY := Lib.hid hy
        have hxy : y.name.data.toList < x.name.data.toList := by
          obtain ⟨q1, q2⟩ := List.getElem?_eq_some_iff.1 hx
          obtain ⟨q3, q4⟩ := List.getElem?_eq_some_iff.1 hy
          have := List.pairwise_iff_getElem.1 HS.out j i (by simpa using q3) (by simpa using q1) (by omega)
          simpa [q2, q4] using this
        have HCG : Hid (Lib.compareBytes x.name.data.toList y.name.data.toList = 1) := Lib.hid (cmp_gt _ _ hxy)
        have KB : Hid (∀ W, Calls Tryz.prog 157 #[.agg #[.string x.name, .string x.value], .agg #[.string y.name, .string y.value]] W (FCmpQ x.name y.name W)) := Lib.hid (fun W => fcmp_any x.name x.value y.name y.value W)
        have HRR := Lib.hid (HR.out.grown G.out (by simp))
        have hi0 : 0 < i := by omega
        have i1 : (0 : Int) ≤ (i : Int) := by omega
        have i2 : (i : Int) < (fs.length : Int) := by omega
        have j1 : (0 : Int) ≤ (j : Int) := by omega
        have j2 : (j : Int) < (fs.length : Int) := by omega
        have hwj : IntKind.i64.wrap ((i : Int) - 1) = (j : Int) := by rw [show (i : Int) - 1 = (j : Int) by omega]; exact IntWalk.i64_in _ (by omega)
        clear hx hy hxy hj
        go_upto_region 4 with fail
        refine wp_region_gen 17 (JC [some (.int .i64 ((i : Int))), some (.int .i64 (0)), some (.bool true), some (.bool true), some (.func (.func 157) #[] #[]), some (.slice (some ⟨fb, fo, none⟩) fs.length c), some (.int .i64 ((i : Int))), some (.pointer (some ⟨fb, fo + i * 2, none⟩)), some (.agg #[.string x.name, .string x.value]), some (.slice (some ⟨fb, fo, none⟩) fs.length c), some (.int .i64 ((i : Int))), some (.int .i64 ((j : Int))), some (.pointer (some ⟨fb, fo + j * 2, none⟩)), some (.agg #[.string y.name, .string y.value]), some (.int .i64 (1)), some (.bool false), some (.bool false)] (fun D u wx => wr.grownBy wx none)) (by kernel_rfl) (by kernel_rfl) ?_ ?_ ?_
        · intro u
          exact ⟨(fun j c _ h => by cases h), only_drew (only_refl _ _)⟩
        · intro AA hA
          have hasz : AA.tmps.size = 53 := by rw [hA]; kernel_rfl
          have ea0 : AA.eval (.tmp 0) = .slice (some ⟨fb, fo, none⟩) fs.length c := by rw [hA]; kernel_rfl
          have ea1 : AA.eval (.tmp 1) = .int .i64 (0) := by rw [hA]; kernel_rfl
          have ea3 : AA.eval (.tmp 3) = .func (.func 157) #[] #[] := by rw [hA]; kernel_rfl
          have ea9 : AA.eval (.tmp 9) = .int .i64 ((i : Int)) := by rw [hA]; kernel_rfl
          clear hA
          simp only [List.take_succ_cons, List.take_zero]
          refine .cons ?_ (.cons ?_ (.cons ?_ (.cons ?_ (.cons ?_ (.cons ?_ (.cons ?_ (.cons ?_ (.cons ?_ (.cons ?_ (.cons ?_ (.cons ?_ (.cons ?_ (.cons ?_ (.cons ?_ (.cons ?_ (.cons ?_ (.nil)))))))))))))))))
          · exact gd_gen (by kernel_rfl) (Want.none_ rfl) rfl (fun D u w v h => by simpa [updB, upd] using h) (fun D u ρ w kn => by
              have e0 := kn.own 9 (c := .int .i64 ((i : Int))) (by kernel_rfl) ea9
              simp [execOp, kn.rho.con, e0, go_sem])
          · exact gd_gen (by kernel_rfl) (Want.none_ rfl) rfl (fun D u w v h => by simpa [updB, upd] using h) (fun D u ρ w kn => by
              have e0 := kn.own 1 (c := .int .i64 (0)) (by kernel_rfl) ea1
              simp [execOp, kn.rho.con, e0, go_sem])
          · exact gd_gen (by kernel_rfl) (Want.none_ rfl) rfl (fun D u w v h => by simpa [updB, upd] using h) (fun D u ρ w kn => by
              have e0 := kn.con 0 18 (c := .int .i64 ((i : Int))) (by kernel_rfl) (by omega) (by kernel_rfl) rfl
              have e1 := kn.con 1 19 (c := .int .i64 (0)) (by kernel_rfl) (by omega) (by kernel_rfl) rfl
              simp [execOp, kn.rho.con, e0, e1, go_sem, hi0])
          · exact gd_gen (by kernel_rfl) (Want.none_ rfl) rfl (fun D u w v h => by simpa [updB, upd] using h) (fun D u ρ w kn => by
              have e0 := kn.con 2 20 (c := .bool true) (by kernel_rfl) (by omega) (by kernel_rfl) rfl
              simp [execOp, kn.rho.con, e0, go_sem])
          · exact gd_gen (by kernel_rfl) (Want.some_ (g := 3) (v := true) rfl rfl (by kernel_rfl) (by omega) rfl rfl (by kernel_rfl)) rfl (fun D u w v h => by simpa [updB, upd] using h) (fun D u ρ w kn => by
              have e0 := kn.own 3 (c := .func (.func 157) #[] #[]) (by kernel_rfl) ea3
              simp [execOp, kn.rho.con, e0, go_sem])
          · exact gd_gen (by kernel_rfl) (Want.some_ (g := 3) (v := true) rfl rfl (by kernel_rfl) (by omega) rfl rfl (by kernel_rfl)) rfl (fun D u w v h => by simpa [updB, upd] using h) (fun D u ρ w kn => by
              have e0 := kn.own 0 (c := .slice (some ⟨fb, fo, none⟩) fs.length c) (by kernel_rfl) ea0
              simp [execOp, kn.rho.con, e0, go_sem])
          · exact gd_gen (by kernel_rfl) (Want.some_ (g := 3) (v := true) rfl rfl (by kernel_rfl) (by omega) rfl rfl (by kernel_rfl)) rfl (fun D u w v h => by simpa [updB, upd] using h) (fun D u ρ w kn => by
              have e0 := kn.own 9 (c := .int .i64 ((i : Int))) (by kernel_rfl) ea9
              simp [execOp, kn.rho.con, e0, go_sem])
          · exact gd_gen (by kernel_rfl) (Want.some_ (g := 3) (v := true) rfl rfl (by kernel_rfl) (by omega) rfl rfl (by kernel_rfl)) rfl (fun D u w v h => by simpa [updB, upd] using h) (fun D u ρ w kn => by
              have e0 := kn.con 5 23 (c := .slice (some ⟨fb, fo, none⟩) fs.length c) (by kernel_rfl) (by omega) (by kernel_rfl) rfl
              have e1 := kn.con 6 24 (c := .int .i64 ((i : Int))) (by kernel_rfl) (by omega) (by kernel_rfl) rfl
              simp [execOp, kn.rho.con, e0, e1, go_sem, i1, i2])
          · exact gd_gen (by kernel_rfl) (Want.some_ (g := 3) (v := true) rfl rfl (by kernel_rfl) (by omega) rfl rfl (by kernel_rfl)) rfl (fun D u w v h => by simpa [updB, upd] using h) (fun D u ρ w kn => by
              have e0 := kn.con 7 25 (c := .pointer (some ⟨fb, fo + i * 2, none⟩)) (by kernel_rfl) (by omega) (by kernel_rfl) rfl
              exact run_load ρ w rfl e0 (load_fd w fb (fo + i * 2) _ _ (show w.cell? ⟨fb, fo + i * 2, none⟩ = some (.string x.name) from (HRR.out.grown kn.ext (by simp)).flatAt FieldD.cells_len HX.out 0 (by omega)) (show w.cell? ⟨fb, fo + i * 2 + 1, none⟩ = some (.string x.value) from (HRR.out.grown kn.ext (by simp)).flatAt FieldD.cells_len HX.out 1 (by omega))))
          · exact gd_gen (by kernel_rfl) (Want.some_ (g := 3) (v := true) rfl rfl (by kernel_rfl) (by omega) rfl rfl (by kernel_rfl)) rfl (fun D u w v h => by simpa [updB, upd] using h) (fun D u ρ w kn => by
              have e0 := kn.own 0 (c := .slice (some ⟨fb, fo, none⟩) fs.length c) (by kernel_rfl) ea0
              simp [execOp, kn.rho.con, e0, go_sem])
          · exact gd_gen (by kernel_rfl) (Want.some_ (g := 3) (v := true) rfl rfl (by kernel_rfl) (by omega) rfl rfl (by kernel_rfl)) rfl (fun D u w v h => by simpa [updB, upd] using h) (fun D u ρ w kn => by
              have e0 := kn.own 9 (c := .int .i64 ((i : Int))) (by kernel_rfl) ea9
              simp [execOp, kn.rho.con, e0, go_sem])
          · exact gd_gen (by kernel_rfl) (Want.some_ (g := 3) (v := true) rfl rfl (by kernel_rfl) (by omega) rfl rfl (by kernel_rfl)) rfl (fun D u w v h => by simpa [updB, upd] using h) (fun D u ρ w kn => by
              have e0 := kn.con 10 28 (c := .int .i64 ((i : Int))) (by kernel_rfl) (by omega) (by kernel_rfl) rfl
              simp [execOp, kn.rho.con, e0, go_sem, hwj])
          · exact gd_gen (by kernel_rfl) (Want.some_ (g := 3) (v := true) rfl rfl (by kernel_rfl) (by omega) rfl rfl (by kernel_rfl)) rfl (fun D u w v h => by simpa [updB, upd] using h) (fun D u ρ w kn => by
              have e0 := kn.con 9 27 (c := .slice (some ⟨fb, fo, none⟩) fs.length c) (by kernel_rfl) (by omega) (by kernel_rfl) rfl
              have e1 := kn.con 11 29 (c := .int .i64 ((j : Int))) (by kernel_rfl) (by omega) (by kernel_rfl) rfl
              simp [execOp, kn.rho.con, e0, e1, go_sem, j1, j2])
          · exact gd_gen (by kernel_rfl) (Want.some_ (g := 3) (v := true) rfl rfl (by kernel_rfl) (by omega) rfl rfl (by kernel_rfl)) rfl (fun D u w v h => by simpa [updB, upd] using h) (fun D u ρ w kn => by
              have e0 := kn.con 12 30 (c := .pointer (some ⟨fb, fo + j * 2, none⟩)) (by kernel_rfl) (by omega) (by kernel_rfl) rfl
              exact run_load ρ w rfl e0 (load_fd w fb (fo + j * 2) _ _ (show w.cell? ⟨fb, fo + j * 2, none⟩ = some (.string y.name) from (HRR.out.grown kn.ext (by simp)).flatAt FieldD.cells_len HY.out 0 (by omega)) (show w.cell? ⟨fb, fo + j * 2 + 1, none⟩ = some (.string y.value) from (HRR.out.grown kn.ext (by simp)).flatAt FieldD.cells_len HY.out 1 (by omega))))
          · refine gd_call (by kernel_rfl) (Want.some_ (g := 3) (v := true) rfl rfl (by kernel_rfl) (by omega) rfl rfl (by kernel_rfl)) 157 (fun D u ρ wx kn hD => ?_)
            have e0 := kn.con 4 22 (c := .func (.func 157) #[] #[]) (by kernel_rfl) (by omega) (by kernel_rfl) rfl
            have e1 := kn.con 8 26 (c := .agg #[.string x.name, .string x.value]) (by kernel_rfl) (by omega) (by kernel_rfl) rfl
            have e2 := kn.con 13 31 (c := .agg #[.string y.name, .string y.value]) (by kernel_rfl) (by omega) (by kernel_rfl) rfl
            refine ⟨#[.agg #[.string x.name, .string x.value], .agg #[.string y.name, .string y.value]], ?_, (KB.out wx).mono ?_⟩
            · simp only [execOp, resolve, Deferred.ofValue, List.map_toArray, List.map_cons, List.map_nil, e0, e1, e2, kn.rho.con, kn.rho.fn]
              simp [go_sem]
            · rintro e w' ⟨rfl, hg⟩
              rw [HCG.out]
              exact ⟨_, rfl, (fun c h => by injection h with h; injection h), only_trans kn.ext hg⟩
          · exact gd_gen (by kernel_rfl) (Want.some_ (g := 3) (v := true) rfl rfl (by kernel_rfl) (by omega) rfl rfl (by kernel_rfl)) rfl (fun D u w v h => by simpa [updB, upd] using h) (fun D u ρ w kn => by
              have e0 := kn.con 14 32 (c := .int .i64 (1)) (by kernel_rfl) (by omega) (by kernel_rfl) rfl
              simp [execOp, kn.rho.con, e0, go_sem])
          · exact gd_gen (by kernel_rfl) (Want.none_ rfl) rfl (fun D u w v h => by simpa [updB, upd] using h) (fun D u ρ w kn => by
              have e0 := kn.con 3 21 (c := .bool true) (by kernel_rfl) (by omega) (by kernel_rfl) rfl
              have e1 := kn.con 15 33 (c := .bool false) (by kernel_rfl) (by omega) (by kernel_rfl) rfl
              simp [execOp, kn.rho.con, e0, e1, go_sem])
        · intro D u w9 hJ hD
          simp only [List.take_succ_cons, List.take_zero, List.drop_succ_cons, List.drop_zero, putAll]
          have hcn := hJ.1
          have x1 := hJ.2
          have e16 : u 16 = .bool false := hcn 16 _ rfl (hD 16 (by omega))
          rw [e16]
          have G9 := Lib.hid (only_trans G.out x1)
          clear hJ hcn x1 e16 hD
          go_simp
          go_wp2_with fail
          go_roundw
          case rel => exact ⟨i + 1, by go_num, by omega, by omega, G9.out⟩
          case measure => simp [intOf]; omega
    · have k1 : ¬ ((i : Int) < (fs.length : Int)) := by omega
      go_wp2_with fail
      exact bodyPost_ret (v := .tuple #[]) (by simp [results, Tryz.results232, go_sem]) rfl ⟨rfl, G.out⟩
end Go.Proofs.YtpaiideboodaeaaGreatDoor

namespace Go.Proofs.YtpaiideboodaeaaGreatDoor
open Go.RowKit
set_option linter.unusedVariables false
set_option linter.unusedSimpArgs false

/-- the table of kinds says 'letter' at the small letters -/
def Kinds (w : World) : Prop := 0 < w.heap.size ∧ ∀ c : Nat, 97 ≤ c → c ≤ 122 → w.cell? ⟨0, c, none⟩ = some (.int .u8 2)
theorem Kinds.grown {w w' : World} {row : Option Nat} (h : Kinds w) (hg : w.grownBy w' row) (hr : some 0 ≠ row) : Kinds w' :=
  ⟨Nat.lt_of_lt_of_le h.1 hg.size, fun c h1 h2 => (hg.cell_far ⟨0, c, none⟩ h.1 hr).trans (h.2 c h1 h2)⟩
def StayA (b : Bool) (w : World) (e : Ending) (w' : World) : Prop := e = .returned (.bool b) ∧ w' = w
set_option maxHeartbeats 1000000 in
set_option maxRecDepth 100000 in
theorem aletter_any (c : Nat) (h1 : 97 ≤ c) (h2 : c ≤ 122) (w : World) (hK : Kinds w) : Calls Tryz.prog 202 #[.int .u8 (c : Int)] w (StayA true w) := by
  have hc := hK.2 c h1 h2
  have i1 : (0 : Int) ≤ (c : Int) := by omega
  have i2 : (c : Int) < 256 := by omega
  go_enter Tryz.func202, Tryz.ntmps202
  go_wp2_with fail
  go_ret
  exact ⟨rfl, rfl⟩
set_option maxHeartbeats 1000000 in
set_option maxRecDepth 100000 in
theorem aword_any (c : Nat) (h1 : 97 ≤ c) (h2 : c ≤ 122) (w : World) (hK : Kinds w) : Calls Tryz.prog 203 #[.int .u8 (c : Int)] w (StayA true w) := by
  have hc := hK.2 c h1 h2
  have i1 : (0 : Int) ≤ (c : Int) := by omega
  have i2 : (c : Int) < 256 := by omega
  go_enter Tryz.func203, Tryz.ntmps203
  go_wp2_with fail
  go_ret
  exact ⟨rfl, rfl⟩
/-- a name of small letters -/
def LowNm (s : ByteArray) : Prop := 1 ≤ s.size ∧ s.size ≤ 32 ∧ ∀ (k : Nat) (h : k < s.size), 97 ≤ (s[k]'h).toNat ∧ (s[k]'h).toNat ≤ 122
def OkQ (w : World) (e : Ending) (w' : World) : Prop := e = .returned (.bool true) ∧ w.grownBy w' none
set_option maxHeartbeats 2000000 in
set_option maxRecDepth 100000 in
theorem pname_any (s : ByteArray) (hs : LowNm s) (w : World) (hK : Kinds w) : Calls Tryz.prog 154 #[.string s] w (OkQ w) := by
  obtain ⟨h1, h2, h3⟩ := hs
  have H3 := Lib.hid h3
  have HK := Lib.hid hK
  have h0 : 0 < s.size := by omega
  have i00 : ¬ (s.size : Int) < 1 := by omega
  have i1 : ¬ (32 : Int) < (s.size : Int) := by omega
  have i2 : ¬ 32 < s.size := by omega
  have K0 := Lib.hid (aletter_any (s[0]'h0).toNat (h3 0 h0).1 (h3 0 h0).2 w hK)
  have KW : Hid (∀ (k : Nat) (h : k < s.size) (W : World), w.grownBy W none → Calls Tryz.prog 203 #[.int .u8 ((s[k]'h).toNat : Int)] W (StayA true W)) := Lib.hid (fun k h W hg => aword_any _ (h3 k h).1 (h3 k h).2 W (hK.grown hg (by simp)))
  have e0 : s.toList.isEmpty = false := by
    rw [ByteArray.toList_eq]
    cases h5 : s.data.toList with
    | nil => have : s.size = 0 := by rw [← ByteArray.size_data, ← Array.length_toList, h5]; rfl
             omega
    | cons a l => rfl
  clear h3 hK
  go_enter Tryz.func154, Tryz.ntmps154
  go_wp2_with fail
  refine K0.out.mono ?_
  rintro e w1 ⟨rfl, rfl⟩
  obtain ⟨w, rfl⟩ : ∃ x, x = w1 := ⟨_, rfl⟩
  have hcv := Lib.run_convert_string_bytes (P := Tryz.prog) w 9 22 5 s Tryz.underlying9 Tryz.underlying22 Tryz.underlying5
  obtain ⟨W2, hW2⟩ : ∃ W, W = Lib.bytesWorld w 5 s := ⟨_, rfl⟩
  have HB : Hid (∀ j (h : j < s.size), W2.cell? ⟨w.heap.size, j, none⟩ = some (.int .u8 ((s[j]'h).toNat : Int))) := Lib.hid (fun j h => by
    rw [hW2, Lib.bytesWorld_cell w 5 s j h]
    have hj : j < s.data.toList.length := by rw [Array.length_toList]; exact h
    have : s.data.toList.getD j 0 = s[j]'h := by
      rw [List.getD_eq_getElem?_getD, List.getElem?_eq_getElem hj]
      simp
      rfl
    rw [this])
  have G2 : Hid (w.grownBy W2 none) := Lib.hid (by
    rw [hW2]
    exact ⟨rfl, rfl, rfl, by rw [Lib.bytesWorld_size]; omega, fun i hi _ => Lib.bytesWorld_at_old w 5 s i hi⟩)
  obtain ⟨sb, hsb⟩ : ∃ b, b = w.heap.size := ⟨_, rfl⟩
  have HW := Lib.hid hW2.symm
  have HSB := Lib.hid hsb
  rw [← hsb] at HB
  clear hW2 hsb K0
  go_upto_region 4 with fail
  rw [HW.out, ← HSB.out]
  clear hcv HW
  go_wp2_with fail
  go_loopw [26] (fun vi wr => ∃ k : Nat, vi = .int .i64 k ∧ k ≤ s.size ∧ wr = W2) (fun vi _ => s.size - (intOf vi).toNat)
  case atStart => exact ⟨0, rfl, Nat.zero_le _, rfl⟩
  case round =>
    obtain ⟨k, rfl, hk, rfl⟩ := hrel
    by_cases hlt : k < s.size
    · have j1 : (k : Int) < (s.size : Int) := by omega
      have j2 : (0 : Int) ≤ (k : Int) := by omega
      have hc := HB.out k hlt
      have KK := Lib.hid (KW.out k hlt _ G2.out)
      go_wp2_with fail
      refine KK.out.mono ?_
      rintro e w1 ⟨rfl, rfl⟩
      go_wp2_with fail
      go_roundw
      case rel => exact ⟨k + 1, by go_num, by omega, trivial⟩
      case measure => simp [intOf]; omega
    · have j1 : ¬ (k : Int) < (s.size : Int) := by omega
      go_wp2_with fail
      go_ret
      exact ⟨rfl, G2.out⟩
end Go.Proofs.YtpaiideboodaeaaGreatDoor

namespace Go.Proofs.YtpaiideboodaeaaGreatDoor
open Go.RowKit
set_option linter.unusedVariables false
set_option linter.unusedSimpArgs false

def CloneFdPost (w : World) (n : Nat) (xs : List Value) (e : Ending) (w' : World) : Prop := ∃ A' c', e = .returned (.slice A' n c') ∧ w'.ownsRow w.heap.size 85 2 (.slice A' n c') n xs ∧ w.grownBy w' none
set_option maxHeartbeats 1000000 in
set_option maxRecDepth 100000 in
theorem cloneFd_any {S : Nat → Prop} (A : Option Addr) (n c : Nat) (xs : List Value) (w : World) (hr : Rd S w A xs) (hn : xs.length = n * 2) (hl : n ≤ 1000000) (h1 : ∀ u ∈ xs, u.oneCell' = true) (hA : A = none → n = 0) :
    Calls Tryz.prog 155 #[.slice A n c] w (CloneFdPost w n xs) := by
  have q22 : ∀ (w : World) (a : Option Addr) (n c n' c' : Nat), (binOp .eql 42 (.slice a n c) (.slice none n' c')).run Tryz.prog w = .ok (.bool a.isNone) w := fun w a n c n' c' => Lib.run_eql_slice_nil w _ _ a n c n' c' Tryz.underlying42
  have H1 := Lib.hid h1
  have HR := Lib.hid hr
  clear h1 hr
  cases A with
  | none =>
    obtain rfl := hA rfl
    obtain rfl : xs = [] := List.eq_nil_of_length_eq_zero (by omega)
    clear hA
    go_enter Tryz.func155, Tryz.ntmps155
    go_wp2_with fail
    go_ret
    exact ⟨none, 0, rfl, World.ownsRow_nil _ _ _ _, only_refl _ _⟩
  | some a =>
    clear hA
    go_enter Tryz.func155, Tryz.ntmps155
    go_wp2_with (at_builtin; refine wpList_appendN rfl _ _ 42 rfl w.heap.size Tryz.underlying42 fieldInfo rfl (by decide) (v := .slice (some ⟨w.heap.size, 0, none⟩) 0 0) (by rfl) (World.ownsRow_made w #[] 0 (Nat.le_refl _) (Nat.zero_le _) (by simp)) (some a) n c (news := xs) (by rfl) (HR.out.alloc _) hn H1.out (by decide) (by omega) (by simp) ?_; intro v3 w3 hown3 hg3 hob3)
    have O3 : Hid (w3.ownsRow w.heap.size 85 2 v3 n xs) := Lib.hid (by simpa using hown3)
    have G3 : Hid (w.grownBy w3 none) := Lib.hid (only_fresh (only_alloc (only_refl _ _) _) (by simpa [Value.ownBlock] using hg3) (Nat.le_refl _))
    clear hown3 hg3 hob3
    obtain ⟨A3, c3, rfl, -, -, -, -⟩ := Rd.of_own O3.out (by decide)
    go_wp2_with fail
    go_ret
    exact ⟨A3, c3, rfl, O3.out, G3.out⟩
end Go.Proofs.YtpaiideboodaeaaGreatDoor

namespace Go.Proofs.YtpaiideboodaeaaGreatDoor
open Go.RowKit
set_option linter.unusedVariables false
set_option linter.unusedSimpArgs false

def AscN_ (fs : List FieldD) : Prop := (fs.map FieldD.name).Pairwise (fun a b => a.data.toList < b.data.toList)
set_option maxHeartbeats 2000000 in
set_option maxRecDepth 100000 in
theorem stable_any {S : Nat → Prop} (fb fo : Nat) (fs : List FieldD) (c : Nat) (w : World) (hr : Rd S w (some ⟨fb, fo, none⟩) (fs.flatMap FieldD.cells)) (hl : fs.length ≤ 19) (hs : AscN_ fs) :
    Calls Tryz.prog 204 #[.slice (some ⟨fb, fo, none⟩) fs.length c, .int .i64 fs.length, .func (.func 157) #[] #[]] w (QuietV w) := by
  have KI := Lib.hid (insc_any fb fo fs c w hr (by omega) hs)
  have i1 : ¬ ((20 : Int) ≤ (fs.length : Int)) := by omega
  have i2 : ¬ ((20 : Int) < (fs.length : Int)) := by omega
  clear hr hs
  go_enter Tryz.func204, Tryz.ntmps204
  go_wp2_with fail
  go_loopw [7, 8] (fun va vb wr => va = .int .i64 0 ∧ vb = .int .i64 20 ∧ wr = w) (fun _ _ _ => 0)
  case atStart => exact ⟨rfl, rfl, rfl⟩
  case round =>
    obtain ⟨rfl, rfl, rfl⟩ := hrel
    go_wp2_with fail
    refine KI.out.mono ?_
    rintro e w1 ⟨rfl, hg1⟩
    have G1 := Lib.hid hg1
    clear hg1
    go_wp2_with fail
    go_loopw [6] (fun vb wr => vb = .int .i64 20 ∧ wr = w1) (fun _ _ => 0)
    case atStart => exact ⟨rfl, rfl⟩
    case round =>
      obtain ⟨rfl, rfl⟩ := hrel
      go_wp2_with fail
      exact bodyPost_ret (v := .tuple #[]) (by simp [results, Tryz.results204, go_sem]) rfl ⟨rfl, G1.out⟩
set_option maxHeartbeats 1000000 in
set_option maxRecDepth 100000 in
theorem stablef_any {S : Nat → Prop} (fb fo : Nat) (fs : List FieldD) (c : Nat) (w : World) (hr : Rd S w (some ⟨fb, fo, none⟩) (fs.flatMap FieldD.cells)) (hl : fs.length ≤ 19) (hs : AscN_ fs) :
    Calls Tryz.prog 156 #[.slice (some ⟨fb, fo, none⟩) fs.length c, .func (.func 157) #[] #[]] w (QuietV w) := by
  have KI := Lib.hid (stable_any fb fo fs c w hr hl hs)
  clear hr hs
  go_enter Tryz.func156, Tryz.ntmps156
  go_wp2_with fail
  refine KI.out.mono ?_
  rintro e w1 ⟨rfl, hg1⟩
  have G1 := Lib.hid hg1
  clear hg1
  go_wp2_with fail
  exact bodyPost_ret (v := .tuple #[]) (by simp [results, Tryz.results156, go_sem]) rfl ⟨rfl, G1.out⟩
set_option maxHeartbeats 1000000 in
set_option maxRecDepth 100000 in
theorem insc_nil (A : Option Addr) (c : Nat) (w : World) :
    Calls Tryz.prog 232 #[.slice A 0 c, .int .i64 0, .int .i64 0, .func (.func 157) #[] #[]] w (QuietV w) := by
  go_enter Tryz.func232, Tryz.ntmps232
  go_wp2_with fail
  go_loopw [8] (fun vi wr => vi = .int .i64 1 ∧ wr = w) (fun _ _ => 0)
  case atStart => exact ⟨rfl, rfl⟩
  case round =>
    obtain ⟨rfl, rfl⟩ := hrel
    go_wp2_with fail
    exact bodyPost_ret (v := .tuple #[]) (by simp [results, Tryz.results232, go_sem]) rfl ⟨rfl, only_refl _ _⟩
set_option maxHeartbeats 2000000 in
set_option maxRecDepth 100000 in
theorem stable_nil (A : Option Addr) (c : Nat) (w : World) :
    Calls Tryz.prog 204 #[.slice A 0 c, .int .i64 0, .func (.func 157) #[] #[]] w (QuietV w) := by
  have KI := Lib.hid (insc_nil A c w)
  go_enter Tryz.func204, Tryz.ntmps204
  go_wp2_with fail
  go_loopw [7, 8] (fun va vb wr => va = .int .i64 0 ∧ vb = .int .i64 20 ∧ wr = w) (fun _ _ _ => 0)
  case atStart => exact ⟨rfl, rfl, rfl⟩
  case round =>
    obtain ⟨rfl, rfl, rfl⟩ := hrel
    go_wp2_with fail
    refine KI.out.mono ?_
    rintro e w1 ⟨rfl, hg1⟩
    have G1 := Lib.hid hg1
    clear hg1
    go_wp2_with fail
    go_loopw [6] (fun vb wr => vb = .int .i64 20 ∧ wr = w1) (fun _ _ => 0)
    case atStart => exact ⟨rfl, rfl⟩
    case round =>
      obtain ⟨rfl, rfl⟩ := hrel
      go_wp2_with fail
      exact bodyPost_ret (v := .tuple #[]) (by simp [results, Tryz.results204, go_sem]) rfl ⟨rfl, G1.out⟩
set_option maxHeartbeats 1000000 in
set_option maxRecDepth 100000 in
theorem stablef_all {S : Nat → Prop} (A : Option Addr) (fs : List FieldD) (c : Nat) (w : World) (hr : Rd S w A (fs.flatMap FieldD.cells)) (hl : fs.length ≤ 19) (hs : AscN_ fs) :
    Calls Tryz.prog 156 #[.slice A fs.length c, .func (.func 157) #[] #[]] w (QuietV w) := by
  cases fs with
  | nil =>
    have KI := Lib.hid (stable_nil A c w)
    go_enter Tryz.func156, Tryz.ntmps156
    go_wp2_with fail
    refine KI.out.mono ?_
    rintro e w1 ⟨rfl, hg1⟩
    have G1 := Lib.hid hg1
    clear hg1
    go_wp2_with fail
    exact bodyPost_ret (v := .tuple #[]) (by simp [results, Tryz.results156, go_sem]) rfl ⟨rfl, G1.out⟩
  | cons f fs =>
    obtain ⟨b, o, rfl, -, -, -⟩ := hr (by rw [flat_len _ 2 FieldD.cells_len]; simp)
    exact stablef_any b o (f :: fs) c w hr hl hs
def PSortP (w : World) (fs : List FieldD) (e : Ending) (w' : World) : Prop :=
  ∃ (A : Option Addr) (c : Nat), e = .returned (.tuple #[.slice A fs.length c, .int .i64 0]) ∧ Rd (w.heap.size ≤ ·) w' A (fs.flatMap FieldD.cells) ∧ w.grownBy w' none
set_option maxHeartbeats 8000000 in
set_option maxRecDepth 100000 in
theorem psort_any {S : Nat → Prop} (A : Option Addr) (fs : List FieldD) (c : Nat) (w : World) (hr : Rd S w A (fs.flatMap FieldD.cells)) (hl : fs.length ≤ 19) (hs : AscN_ fs) (hn : ∀ f ∈ fs, LowNm f.name) (hK : Kinds w) (hA : A = none → fs.length = 0) :
    Calls Tryz.prog 94 #[.slice A fs.length c] w (PSortP w fs) := by
  have HR := Lib.hid hr
  have HS := Lib.hid hs
  have HN := Lib.hid hn
  have HK := Lib.hid hK
  have HA := Lib.hid hA
  have i1 : ¬ ((32 : Int) < (fs.length : Int)) := by omega
  clear hr hs hn hK hA
  go_enter Tryz.func94, Tryz.ntmps94
  go_wp2_with fail
  go_loopw [12] (fun vi wr => ∃ k : Nat, vi = .int .i64 k ∧ k ≤ fs.length ∧ w.grownBy wr none) (fun vi _ => fs.length - (intOf vi).toNat)
  case atStart => exact ⟨0, rfl, Nat.zero_le _, only_refl _ _⟩
  case round =>
    obtain ⟨k, rfl, hk, hG⟩ := hrel
    have G := Lib.hid hG
    clear hG
    by_cases hlt : k < fs.length
    · obtain ⟨z, hz⟩ : ∃ z, fs[k]? = some z := ⟨_, List.getElem?_eq_getElem hlt⟩
      have hrr := HR.out.grown G.out (by simp)
      obtain ⟨fb, fo, rfl, -, -, -⟩ := hrr (by rw [flat_len _ 2 FieldD.cells_len]; omega)
      have q0 : wr.cell? ⟨fb, fo + k * 2, none⟩ = some (.string z.name) := hrr.flatAt FieldD.cells_len hz 0 (by omega)
      have q1 : wr.cell? ⟨fb, fo + k * 2 + 1, none⟩ = some (.string z.value) := hrr.flatAt FieldD.cells_len hz 1 (by omega)
      have j1 : (k : Int) < (fs.length : Int) := by omega
      have j2 : (0 : Int) ≤ (k : Int) := by omega
      have KN : Hid (∀ W, w.grownBy W none → Calls Tryz.prog 154 #[.string z.name] W (OkQ W)) := Lib.hid (fun W hg => pname_any z.name (HN.out z (List.mem_of_getElem? hz)) W (HK.out.grown hg (by simp)))
      clear hrr hz
      go_wp2_with fail
      refine (KN.out _ (only_alloc G.out _)).mono ?_
      rintro e w2 ⟨rfl, hg2⟩
      have G2 := Lib.hid (only_trans (only_alloc G.out _) hg2)
      clear hg2 q0 q1 G
      go_wp2_with fail
      go_roundw
      case rel => exact ⟨k + 1, by go_num, by omega, G2.out⟩
      case measure => simp [intOf]; omega
    · have j1 : ¬ ((k : Int) < (fs.length : Int)) := by omega
      have KC := Lib.hid (cloneFd_any A fs.length c (fs.flatMap FieldD.cells) wr (HR.out.grown G.out (by simp)) (by rw [flat_len _ 2 FieldD.cells_len]) (by omega) (flat_one (fun f => by simp [FieldD.cells, Value.oneCell']) _) HA.out)
      go_wp2_with fail
      refine KC.out.mono ?_
      rintro e w2 ⟨A2, c2, rfl, ho2, hg2⟩
      have G2 := Lib.hid (only_trans G.out hg2)
      have R2 := Lib.hid (rd_own ho2 (by decide))
      have KS := Lib.hid (stablef_all A2 fs c2 w2 R2.out hl HS.out)
      obtain ⟨wo, rfl⟩ : ∃ x, x = wr := ⟨_, rfl⟩
      have hsz2 : w.heap.size ≤ wo.heap.size := G.out.size
      clear ho2 hg2 KC
      go_wp2_with fail
      refine KS.out.mono ?_
      rintro e w3 ⟨rfl, hg3⟩
      have G3 := Lib.hid (only_trans G2.out hg3)
      have R3 := Lib.hid (R2.out.grown hg3 (by simp))
      clear hg3 R2 G2 KS
      go_wp2_with fail
      go_loopw [6] (fun vi wr => ∃ k : Nat, vi = .int .i64 k ∧ 1 ≤ k ∧ k ≤ fs.length + 1 ∧ w3.grownBy wr none) (fun vi _ => fs.length + 1 - (intOf vi).toNat)
      case atStart => exact ⟨1, rfl, by omega, by omega, only_refl _ _⟩
      case round =>
        obtain ⟨k, rfl, hk1, hk2, hG⟩ := hrel
        have G4 := Lib.hid hG
        clear hG
        by_cases hlt2 : k < fs.length
        · obtain ⟨x, hx⟩ : ∃ x, fs[k]? = some x := ⟨_, List.getElem?_eq_getElem hlt2⟩
          obtain ⟨j, hj⟩ : ∃ j, k = j + 1 := ⟨k - 1, by omega⟩
          obtain ⟨y, hy⟩ : ∃ y, fs[j]? = some y := ⟨_, List.getElem?_eq_getElem (by omega)⟩
          have hne : (x.name = y.name) ↔ False := by
            constructor
            · intro e
              obtain ⟨q1, q2⟩ := List.getElem?_eq_some_iff.1 hx
              obtain ⟨q3, q4⟩ := List.getElem?_eq_some_iff.1 hy
              have := List.pairwise_iff_getElem.1 HS.out j k (by simpa using q3) (by simpa using q1) (by omega)
              rw [List.getElem_map, List.getElem_map, q2, q4, e] at this
              exact List.lt_irrefl _ this
            · exact False.elim
          have hnb : (x.name.toList == y.name.toList) = false := by
            have : x.name.toList ≠ y.name.toList := fun e => hne.1 (toList_inj e)
            simpa using this
          have hrr := R3.out.grown G4.out (by simp)
          obtain ⟨fb, fo, rfl, -, -, -⟩ := hrr (by rw [flat_len _ 2 FieldD.cells_len]; omega)
          have q0 : wr.cell? ⟨fb, fo + k * 2, none⟩ = some (.string x.name) := hrr.flatAt FieldD.cells_len hx 0 (by omega)
          have q1 : wr.cell? ⟨fb, fo + j * 2, none⟩ = some (.string y.name) := hrr.flatAt FieldD.cells_len hy 0 (by omega)
          have j1 : (k : Int) < (fs.length : Int) := by omega
          have j2 : (0 : Int) ≤ (k : Int) := by omega
          have j3 : (j : Int) < (fs.length : Int) := by omega
          have j4 : (0 : Int) ≤ (j : Int) := by omega
          have hwj : IntKind.i64.wrap ((k : Int) - 1) = (j : Int) := by rw [show (k : Int) - 1 = (j : Int) by omega]; exact IntWalk.i64_in _ (by omega)
          clear hrr hx hy hj
          go_wp2_with fail
          go_quiet (fail)
          have G5 := Lib.hid (only_drewN G4.out nq)
          clear q0 q1 G4
          go_wp2_with fail
          go_roundw
          case rel => exact ⟨k + 1, by go_num, by omega, by omega, G5.out⟩
          case measure => simp [intOf]; omega
        · have j1 : ¬ ((k : Int) < (fs.length : Int)) := by omega
          go_wp2_with fail
          go_ret2
          exact ⟨A2, c2, rfl, (R3.out.grown G4.out (by simp)).mono (fun b hb _ => by have h0 : wo.heap.size ≤ b := hb; omega), only_trans G3.out G4.out⟩
end Go.Proofs.YtpaiideboodaeaaGreatDoor

namespace Go.Proofs.YtpaiideboodaeaaGreatDoor
open Go.RowKit
set_option linter.unusedVariables false
set_option linter.unusedSimpArgs false

def OkB (w : World) (e : Ending) (w' : World) : Prop := e = .returned (.bool true) ∧ w' = w
def OkE (w : World) (e : Ending) (w' : World) : Prop := e = .returned (.int .i64 0) ∧ w.grownBy w' none
set_option maxHeartbeats 1000000 in
theorem within_any (n lo hi : Int) (h1 : lo ≤ n) (h2 : n ≤ hi) (w : World) : Calls Tryz.prog 92 #[.int .i64 n, .int .i64 lo, .int .i64 hi] w (OkB w) := by
  go_enter Tryz.func92, Tryz.ntmps92
  go_wp2_with fail
  go_ret
  exact ⟨rfl, rfl⟩
def OkB0 (w : World) (e : Ending) (w' : World) : Prop := e = .returned (.bool true) ∧ w.grownBy w' none
set_option maxHeartbeats 4000000 in
set_option maxRecDepth 100000 in
theorem place_e (e : Ev) (h0 : 0 ≤ e.host ∧ e.host ≤ 999) (f0 : 0 ≤ e.file ∧ e.file ≤ 2147483646) (b0 : 0 ≤ e.beg) (bf : e.beg < e.fin) (f2 : e.fin ≤ 60000) (w : World) : Calls Tryz.prog 91 #[.agg e.cells.toArray] w (OkB0 w) := by
  obtain ⟨xb, hxb⟩ : ∃ b, b = w.heap.size := ⟨_, rfl⟩
  obtain ⟨W1, hW1⟩ : ∃ W, W = w.alloc (.cells #[.int .i64 e.host, .int .i64 e.file, .int .i64 e.beg, .int .i64 e.fin, .slice e.la e.lines.length e.lc, .int .i64 e.time, .int .i64 e.weight, .string e.trace, .string e.stream, .slice e.fa e.fields.length e.fc] 44) := ⟨_, rfl⟩
  have G1 : Hid (w.grownBy W1 none) := Lib.hid (by rw [hW1]; exact only_alloc (only_refl _ _) _)
  have B1 : Hid (Blk W1 xb 44 #[.int .i64 e.host, .int .i64 e.file, .int .i64 e.beg, .int .i64 e.fin, .slice e.la e.lines.length e.lc, .int .i64 e.time, .int .i64 e.weight, .string e.trace, .string e.stream, .slice e.fa e.fields.length e.fc]) := Lib.hid (by rw [hW1, hxb]; exact Blk.new w _ _)
  have KH := Lib.hid (within_any e.host 0 999 h0.1 h0.2)
  have KF := Lib.hid (within_any e.file 0 2147483646 f0.1 f0.2)
  have HW := Lib.hid hW1.symm
  have HXB := Lib.hid hxb
  clear hW1 hxb
  rw [show e.cells.toArray = #[.int .i64 e.host, .int .i64 e.file, .int .i64 e.beg, .int .i64 e.fin, .slice e.la e.lines.length e.lc, .int .i64 e.time, .int .i64 e.weight, .string e.trace, .string e.stream, .slice e.fa e.fields.length e.fc] from rfl]
  go_enter Tryz.func91, Tryz.ntmps91
  go_upto_region 1 with fail
  rw [HW.out, ← HXB.out]
  clear HW
  have c0 := B1.out.cell 0; have c1 := B1.out.cell 1; have c2 := B1.out.cell 2; have c3 := B1.out.cell 3
  simp at c0 c1 c2 c3
  go_wp2_with fail
  refine (KH.out _).mono ?_
  rintro en w2 ⟨rfl, rfl⟩
  go_wp2_with fail
  refine (KF.out _).mono ?_
  rintro en w2 ⟨rfl, rfl⟩
  go_wp2_with fail
  go_ret
  exact ⟨rfl, G1.out⟩
set_option maxHeartbeats 8000000 in
set_option maxRecDepth 100000 in
theorem lines_e {S : Nat → Prop} {w : World} (e : Ev) (tx : Int) (hs : e.Sub S w) (l0 : 1 ≤ e.lines.length) (l1 : e.lines.length ≤ 40) (b0 : 0 ≤ e.beg) (f2 : e.fin ≤ 60000) (ch : Chain e.beg e.lines e.fin) (ht : 60 ≤ tx) :
    Calls Tryz.prog 93 #[.agg e.cells.toArray, .int .i64 tx] w (OkE w) := by
  obtain ⟨xb, hxb⟩ : ∃ b, b = w.heap.size := ⟨_, rfl⟩
  obtain ⟨W1, hW1⟩ : ∃ W, W = w.alloc (.cells #[.int .i64 e.host, .int .i64 e.file, .int .i64 e.beg, .int .i64 e.fin, .slice e.la e.lines.length e.lc, .int .i64 e.time, .int .i64 e.weight, .string e.trace, .string e.stream, .slice e.fa e.fields.length e.fc] 44) := ⟨_, rfl⟩
  have g1 : w.grownBy W1 none := by rw [hW1]; exact only_alloc (only_refl _ _) _
  have G1 : Hid (w.grownBy W1 none) := Lib.hid g1
  have B1 : Hid (Blk W1 xb 44 #[.int .i64 e.host, .int .i64 e.file, .int .i64 e.beg, .int .i64 e.fin, .slice e.la e.lines.length e.lc, .int .i64 e.time, .int .i64 e.weight, .string e.trace, .string e.stream, .slice e.fa e.fields.length e.fc]) := Lib.hid (by rw [hW1, hxb]; exact Blk.new w _ _)
  have HL : Hid (Rd (fun _ => True) W1 e.la (e.lines.flatMap LineD.cells)) := Lib.hid ((hs.1.grown (row := none) g1 (by simp)).mono (fun _ _ _ => trivial))
  have HC := Lib.hid ch
  have HW := Lib.hid hW1.symm
  have HXB := Lib.hid hxb
  clear hW1 hxb g1 hs ch
  obtain ⟨lb, lo, eL, -, hlb, -⟩ := HL.out (by rw [flat_len _ 3 LineD.cells_len]; omega)
  rw [show e.cells.toArray = #[.int .i64 e.host, .int .i64 e.file, .int .i64 e.beg, .int .i64 e.fin, .slice e.la e.lines.length e.lc, .int .i64 e.time, .int .i64 e.weight, .string e.trace, .string e.stream, .slice e.fa e.fields.length e.fc] from rfl]
  rw [eL] at HL B1 HW ⊢
  go_enter Tryz.func93, Tryz.ntmps93
  go_upto_region 1 with fail
  rw [HW.out, ← HXB.out]
  clear HW eL
  have n1 : ¬ ((e.lines.length : Int) = 0) := by omega
  have n2 : ¬ ((40 : Int) < (e.lines.length : Int)) := by omega
  have n3 : ((e.lines.length : Int) == 0) = false := beq_false_of_ne n1
  have n4 : ¬ e.lines = [] := fun h => by rw [h] at l0; simp at l0
  have c2 := B1.out.cell 2; have c3 := B1.out.cell 3; have c4 := B1.out.cell 4
  simp at c2 c3 c4
  go_wp2_with fail
  go_loopw [5, 24] (fun va vi wr => ∃ (k : Nat) (at_ : Int), va = .int .i64 at_ ∧ vi = .int .i64 k ∧ k ≤ e.lines.length ∧ Chain at_ (e.lines.drop k) e.fin ∧ 0 ≤ at_ ∧ W1.grownBy wr none) (fun _ vi _ => e.lines.length - (intOf vi).toNat)
  case atStart => exact ⟨0, e.beg, rfl, rfl, Nat.zero_le _, by simpa using HC.out, b0, only_refl _ _⟩
  case round =>
    obtain ⟨k, at_, rfl, rfl, hk, hch, ha0, hG⟩ := hrel
    have G := Lib.hid hG
    have BR := Lib.hid (B1.out.grown hG (by simp))
    have hle := hch.le
    by_cases hlt : k < e.lines.length
    · obtain ⟨z, hz⟩ : ∃ z, e.lines[k]? = some z := ⟨_, List.getElem?_eq_getElem hlt⟩
      have hd : e.lines.drop k = z :: e.lines.drop (k + 1) := by
        rw [List.drop_eq_getElem_cons hlt]
        rw [List.getElem?_eq_getElem hlt] at hz
        injection hz with hz
        rw [hz]
      rw [hd] at hch
      obtain ⟨h1, h2, h3, h4⟩ := hch
      have hle4 := h4.le
      rw [List.length_drop] at hle4
      have HCH := Lib.hid h4
      have hr := HL.out.grown hG (by simp)
      have d0 : wr.cell? ⟨lb, lo + k * 3, none⟩ = some (.int .i64 z.off) := hr.flatAt LineD.cells_len hz 0 (by omega)
      have d1 : wr.cell? ⟨lb, lo + k * 3 + 1, none⟩ = some (.int .i64 z.len) := hr.flatAt LineD.cells_len hz 1 (by omega)
      have d2 : wr.cell? ⟨lb, lo + k * 3 + 2, none⟩ = some (.string z.text) := hr.flatAt LineD.cells_len hz 2 (by omega)
      have hlast : k + 1 = e.lines.length → at_ + z.len = e.fin := fun hkk => by
        have : e.lines.drop (k + 1) = [] := by rw [hkk]; simp
        rw [this] at h4
        exact h4
      obtain ⟨zl, hzl⟩ : ∃ q, q = z.len := ⟨_, rfl⟩
      obtain ⟨zo, hzo⟩ : ∃ q, q = z.off := ⟨_, rfl⟩
      rw [← hzl] at d1 h2 h3 hle4 hlast HCH
      rw [← hzo] at d0 h1
      subst h1
      have i1 : (k : Int) < (e.lines.length : Int) := by omega
      have i2 : (0 : Int) ≤ (k : Int) := by omega
      have i3 : (z.text.size : Int) ≤ 59 := by omega
      have hkb : lb < wr.heap.size := Nat.lt_of_lt_of_le hlb hG.size
      have e0 := BR.out.cell 2; have e1 := BR.out.cell 3; have e2 := BR.out.cell 4
      simp at e0 e1 e2
      have i4 : ¬ (zl < 1) := by omega
      have i5 : zl ≤ e.fin - zo := by omega
      have hxl : xb < wr.heap.size := BR.out.lt
      have hxn : xb ≠ wr.heap.size := by omega
      clear hG hr hz hd h4 hzl hzo hlb
      by_cases hl : k + 1 = e.lines.length
      · have i6 := hlast hl
        have i7 : ((k : Int) == (e.lines.length : Int) - 1) = true := by simp; omega
        have HC6 : Hid (Chain e.fin (e.lines.drop (k + 1)) e.fin) := Lib.hid (by rw [← i6]; simpa [i6] using HCH.out)
        go_wp2_with fail
        go_roundw
        case rel => exact ⟨k + 1, e.fin, rfl, by go_num, by omega, HC6.out, by omega, only_alloc G.out _⟩
        case measure => simp [intOf]; omega
      · have i7 : ((k : Int) == (e.lines.length : Int) - 1) = false := by simp; omega
        clear hlast
        go_wp2_with fail
        go_roundw
        case rel => exact ⟨k + 1, zo + zl, by go_num, by go_num, by omega, HCH.out, by omega, only_alloc G.out _⟩
        case measure => simp [intOf]; omega
    · have i1 : ¬ ((k : Int) < (e.lines.length : Int)) := by omega
      go_wp2_with fail
      go_ret
      exact ⟨rfl, only_trans G1.out G.out⟩
end Go.Proofs.YtpaiideboodaeaaGreatDoor
