/- The draw of tallies. No condition. -/
import Derived.Test.YtiogpomgpknjlaaJCloneT
namespace Go.Proofs.Ytiogpomgpknjlaa
open Go.RowKit
set_option linter.unusedVariables false
set_option linter.unusedSimpArgs false

theorem mrg_pos (l : List Tal) (x : Tal) : 0 < (mrg l [x]).length := by
  cases l with
  | nil => simp [mrg]
  | cons a l => rw [mrg]; split; simp; split <;> simp
def TallPost (w : World) (g : Nat) (l : List Int) (e : Ending) (w' : World) : Prop :=
  ∃ (A : Option Addr) (c : Nat) (ts : List Tal) (k : Nat), e = .returned (.slice A ts.length c) ∧ ts.length ≤ c ∧ c ≤ maxLen ∧ ts.length ≤ 4 ∧ TSrt ts ∧ TIn 36 ts ∧ Rd (w.heap.size ≤ ·) w' A (ts.flatMap Tal.cells) ∧ CodesAt w' g l k ∧ w.grownBy w' (some g)
def IsInc (n : Nat) (v : Value) (_ : World) : Prop := ∃ j : Nat, j < n ∧ v = .int .i64 (1 + (j : Int))
theorem St.inc {R : World → World → Prop} {n : Nat} : St R (IsInc n) := fun v w w' _ h => h
theorem run_inc (w : World) (j : Nat) (h : j ≤ 1000) (ρ : Operand → Value) (x : Nat) (hx : ρ (.tmp x) = .int .i64 j) (hc : ∀ v, ρ (.const v) = v) {o : Oper} {t ty : TypeId} (ho : o.op = .binOp .add 3 (.const (.int .i64 1)) (.tmp x) ty) : (execOp ρ o).run Try.prog w = .ok (.value (.int .i64 (1 + (j : Int)))) w := by
  have hw : IntKind.i64.wrap (1 + (j : Int)) = 1 + (j : Int) := IntWalk.i64_in _ (by omega)
  simp [execOp, ho, hx, hc, go_sem, hw]
section
variable {Q : Exit → Act → World → Prop} {ops : Array Oper} {hd : List Oper} {a : Act} {G : World → Prop} {φs : List (Value → World → Prop)} {i : Nat} {o : Oper} {r : Nat}
theorem st_inc (hg : o.guard = none) (hap : dstApart hd = true) {x n : Nat} {t ty : TypeId} (ho : o.op = .binOp .add 3 (.const (.int .i64 1)) (.tmp x) ty) (jx : Nat) (hx : isDst hd jx x = true) (hxs : x < a.tmps.size) (wx : Region.waitsFor .any ops i jx = true) (px : phi φs jx = IsIdx n) (hn : n ≤ 1000) (hp : phi φs i = IsInc n) : StepOk Try.prog Q ops hd a (Rab r) G φs i o :=
  .run hg hap fun u ρ w k => by
    have e1 := k.dep jx wx
    rw [px] at e1
    obtain ⟨j, hj, e1⟩ := e1
    exact ⟨.int .i64 (1 + (j : Int)), w, run_inc (t := t) w j (by omega) ρ x ((k.rho.at_ jx x hx hxs).trans e1) k.rho.con ho, k.good, Rab.refl _ _, by rw [hp]; exact ⟨j, hj, rfl⟩⟩
end
/-- the memory while the choices of one tally are made -/
def TG (w : World) (g : Nat) (l : List Int) (r : Nat) (A : Option Addr) (ts : List Tal) (wx : World) : Prop :=
  (∃ k, CodesAt wx g l k) ∧ Rd (w.heap.size ≤ ·) wx A (ts.flatMap Tal.cells) ∧ w.grownBy wx (some g) ∧ r ≤ wx.heap.size ∧ g < w.heap.size
theorem TG.alloc {w : World} {g : Nat} {l : List Int} {r : Nat} {A : Option Addr} {ts : List Tal} {wx : World} (h : TG w g l r A ts wx) (o : Obj) : TG w g l r A ts (wx.alloc o) := by
  obtain ⟨⟨k, h1⟩, h2, h3, h4, h5⟩ := h
  exact ⟨⟨k, h1.alloc o⟩, h2.alloc o, only_alloc h3 o, by simp; omega, h5⟩
theorem TG.next {w : World} {g : Nat} {l : List Int} {r : Nat} {A : Option Addr} {ts : List Tal} {wx w' : World} (h : TG w g l r A ts wx) (hg : wx.grownBy w' (some g)) {k : Nat} (hC : CodesAt w' g l k) : TG w g l r A ts w' := by
  obtain ⟨_, h2, h3, h4, h5⟩ := h
  exact ⟨⟨k, hC⟩, h2.grown hg (fun b hb => by intro e; injection e; omega), only_trans h3 hg, by have := hg.size; omega, h5⟩

set_option maxHeartbeats 4000000 in
set_option maxRecDepth 100000 in
theorem tallies_some (g : Nat) (l : List Int) (k : Nat) (w : World) (h : CodesAt w g l k) :
    Calls Try.prog 9 #[.pointer (some ⟨g, 0, none⟩)] w (TallPost w g l) := by
  have hlt0 := h.lt
  go_enter Try.func9, Try.ntmps9
  go_wp2_with fail
  refine (next_some g l k 5 _ h (by omega) (by omega)).mono ?_
  rintro e w1 ⟨v1, k1, rfl, hv1, h1, hg1⟩
  have G1 := Lib.hid hg1
  clear h hg1
  go_wp2_with fail
  go_loopw [3, 4] (fun v i wr => ∃ (m d : Nat) (A : Option Addr) (c : Nat) (ts : List Tal) (k : Nat), i = .int .i64 m ∧ m + d ≤ 4 ∧ v = .slice A ts.length c ∧ ts.length ≤ d ∧ ts.length ≤ c ∧ c ≤ maxLen ∧ (ts.length = 0 → A = none ∧ c = 0) ∧ TSrt ts ∧ TIn (9 * d) ts ∧ Rd (w.heap.size ≤ ·) wr A (ts.flatMap Tal.cells) ∧ CodesAt wr g l k ∧ w.grownBy wr (some g)) (fun _ i _ => (intOf i).toNat)
  case atStart =>
    obtain ⟨m, rfl⟩ := Int.eq_ofNat_of_zero_le hv1.1
    exact ⟨m, 0, none, 0, [], k1, rfl, by omega, rfl, Nat.le_refl _, Nat.le_refl _, Nat.zero_le _, fun _ => ⟨rfl, rfl⟩, List.Pairwise.nil, (fun t ht => by simp at ht), Rd.nil, h1, G1.out⟩
  case round =>
    obtain ⟨m, d, A, c, ts, k2, rfl, hmd, rfl, htd, htc, hcm, hnil, hsrt, hin, hrd, hC, hG⟩ := hrel
    have HN := Lib.hid hnil
    have SR := Lib.hid hsrt
    have IN := Lib.hid hin
    have RD := Lib.hid hrd
    have G2 := Lib.hid hG
    have CM := Lib.hid hcm
    have hsz := hG.size
    clear hnil hsrt hin hrd hG h1 G1 hcm
    by_cases hm : 0 < m
    · have HTG : Hid (TG w g l wr.heap.size A ts wr.drew) := ⟨⟨k2, hC.drew⟩, RD.out, only_drew G2.out, Nat.le_refl _, hlt0⟩
      have hmI : (0 : Int) < (m : Int) := by omega
      clear RD G2 hC
      go_wp2_with fail
      refine wp_region_inv 12 (Rab wr.heap.size) (TG w g l wr.heap.size A ts) [(fun v _ => v = .slice A ts.length c), (fun v _ => v = .pointer (some ⟨g, 0, none⟩)), IsIdx 2, IsInc 2, IsRow0 wr.heap.size 9 #[.string ⟨#[]⟩, .string ⟨#[42]⟩, .string ⟨#[100, 114, 111, 112]⟩, .string ⟨#[115, 97, 109, 112, 108, 101]⟩], (fun v _ => v = .pointer (some ⟨g, 0, none⟩)), IsIdx 4, IsAt0 wr.heap.size 9 #[.string ⟨#[]⟩, .string ⟨#[42]⟩, .string ⟨#[100, 114, 111, 112]⟩, .string ⟨#[115, 97, 109, 112, 108, 101]⟩], IsStr0 0 10, (fun v _ => v = .pointer (some ⟨g, 0, none⟩)), IsIdx 9, IsInc 9] (by kernel_rfl) (by kernel_rfl) ?_ HTG.out ?_ ?_
      · intro p hp
        simp only [List.mem_cons, List.not_mem_nil, or_false] at hp
        rcases hp with rfl | rfl | rfl | rfl | rfl | rfl | rfl | rfl | rfl | rfl | rfl | rfl
        · exact St.const _
        · exact St.const _
        · exact St.idx
        · exact St.inc
        · exact St.row
        · exact St.const _
        · exact St.idx
        · exact St.at_
        · exact St.str
        · exact St.const _
        · exact St.idx
        · exact St.inc
      · generalize hA : Act.mk _ _ = AA
        have hasz : AA.tmps.size = 25 := by rw [← hA]; kernel_rfl
        have ea0 : AA.eval (.tmp 0) = .pointer (some ⟨g, 0, none⟩) := by rw [← hA]; kernel_rfl
        have ea3 : AA.eval (.tmp 3) = .slice A ts.length c := by rw [← hA]; kernel_rfl
        clear hA
        have hgr : g < wr.heap.size := by omega
        simp only [List.take_succ_cons, List.take_zero]
        refine .cons ?_ (.cons ?_ (.cons ?_ (.cons ?_ (.cons ?_ (.cons ?_ (.cons ?_ (.cons ?_ (.cons ?_ (.cons ?_ (.cons ?_ (.cons ?_ .nil)))))))))))
        · exact st_copy rfl (by kernel_rfl) rfl (by kernel_rfl) ea3 rfl
        · exact st_copy rfl (by kernel_rfl) rfl (by kernel_rfl) ea0 rfl
        · exact st_next rfl (by kernel_rfl) (n := 2) rfl 1 (by kernel_rfl) (by omega) (by kernel_rfl) rfl (by omega) (by omega) (fun _ h => h.1) (fun _ _ _ h hC hg => h.next hg hC) hgr rfl
        · exact st_inc (t := 0) rfl (by kernel_rfl) rfl 2 (by kernel_rfl) (by omega) (by kernel_rfl) rfl (by omega) rfl
        · exact st_rowlit rfl (by kernel_rfl) rfl (lit_str4 _ _ _ _) (fun _ o h => h.alloc o) (fun _ h => h.2.2.2.1) rfl
        · exact st_copy rfl (by kernel_rfl) rfl (by kernel_rfl) ea0 rfl
        · exact st_next rfl (by kernel_rfl) (n := 4) rfl 5 (by kernel_rfl) (by omega) (by kernel_rfl) rfl (by omega) (by omega) (fun _ h => h.1) (fun _ _ _ h hC hg => h.next hg hC) hgr rfl
        · exact st_ix rfl (by kernel_rfl) rfl Try.underlying66 strSize 4 6 (by kernel_rfl) (by kernel_rfl) (by omega) (by omega) (by kernel_rfl) (by kernel_rfl) rfl rfl rfl
        · exact st_ld rfl (by kernel_rfl) rfl Try.underlying9 7 (by kernel_rfl) (by omega) (by kernel_rfl) rfl (fun j hj => by obtain ⟨x, hx, HX⟩ := tab_str (cs := #[.string ⟨#[]⟩, .string ⟨#[42]⟩, .string ⟨#[100, 114, 111, 112]⟩, .string ⟨#[115, 97, 109, 112, 108, 101]⟩]) (m := 10) (by rfl) (j := j) hj; exact ⟨x, hx, Nat.zero_le _, HX⟩) rfl load_str
        · exact st_copy rfl (by kernel_rfl) rfl (by kernel_rfl) ea0 rfl
        · exact st_next rfl (by kernel_rfl) (n := 9) rfl 9 (by kernel_rfl) (by omega) (by kernel_rfl) rfl (by omega) (by omega) (fun _ h => h.1) (fun _ _ _ h hC hg => h.next hg hC) hgr rfl
        · exact st_inc (t := 0) rfl (by kernel_rfl) rfl 10 (by kernel_rfl) (by omega) (by kernel_rfl) rfl (by omega) rfl
      · intro u w3 hT hu
        have e0 : u 0 = .slice A ts.length c := hu 0 (by omega)
        obtain ⟨j1, hj1, e3⟩ := hu 3 (by omega)
        obtain ⟨s, e8, -, hs⟩ := hu 8 (by omega)
        obtain ⟨j3, hj3, e11⟩ := hu 11 (by omega)
        simp only [List.take_succ_cons, List.take_zero, List.drop_succ_cons, List.drop_zero, putAll]
        rw [e0, e3, e8, e11]
        obtain ⟨⟨k3, t1⟩, t2, t3, t4, -⟩ := hT
        have T2 := Lib.hid t2
        have T3 := Lib.hid t3
        have hsz3 := t3.size
        clear hu e0 e3 e8 e11 t2 t3 HTG
        go_wp2_with fail
        have hadd : Calls Try.prog 31 #[.slice A ts.length c, .int .i64 (1 + (j1 : Int)), .string s, .int .i64 (1 + (j3 : Int))] w3 (TalsPost w3 (mrg ts [⟨1 + j1, s, 1 + j3⟩])) := by
          by_cases hz : ts.length = 0
          · obtain ⟨rfl, rfl⟩ := HN.out hz
            obtain rfl := List.eq_nil_of_length_eq_zero hz
            rw [show mrg [] [(⟨1 + j1, s, 1 + j3⟩ : Tal)] = [⟨1 + j1, s, 1 + j3⟩] by simp [mrg]]
            exact add_nil ⟨1 + j1, s, 1 + j3⟩ w3 (by simp only []; omega)
          · exact add_any A ts c ⟨1 + j1, s, 1 + j3⟩ w3 T2.out (by omega) (by omega) htc CM.out (by simp only []; omega) (fun t ht => by have := IN.out t ht; omega)
        refine hadd.mono ?_
        rintro e w4 ⟨A4, c4, rfl, hc4, hm4, hr4, hg4⟩
        have HP := mrg_pos ts ⟨1 + j1, s, 1 + j3⟩
        have HS4 : Hid (TSrt (mrg ts [⟨1 + j1, s, 1 + j3⟩])) := mrg_srt SR.out (List.pairwise_singleton _ _)
        have HI4 : Hid (TIn (9 * ((d + 1 : Nat) : Int)) (mrg ts [⟨1 + j1, s, 1 + j3⟩])) := by
          have h := mrg_in (n := 9 * d) (m := 9) IN.out (vs := [⟨1 + j1, s, 1 + j3⟩]) (fun t ht => by rw [List.mem_singleton.1 ht]; simp only []; omega) (by omega) (by omega)
          intro t ht
          have := h t ht
          omega
        have HL4 := mrg_len ts [⟨1 + j1, s, 1 + j3⟩]
        simp only [List.length_cons, List.length_nil] at HL4
        generalize mrg ts [⟨1 + j1, s, 1 + j3⟩] = ts4 at *
        have R4 := Lib.hid (hr4.mono (S' := (w.heap.size ≤ ·)) (fun b hb _ => by omega))
        have h4 := t1.grown hg4 (by simp)
        have G4 : Hid (w.grownBy w4 (some g)) := only_trans T3.out (only_of_none hg4 _)
        clear hadd hr4 hg4
        go_wp2_with fail
        go_roundw
        case rel => exact ⟨m - 1, d + 1, A4, c4, ts4, k3, by congr 1; omega, by omega, rfl, by omega, hc4, hm4, (fun hz => by omega), HS4.out, HI4.out, R4.out, h4, G4.out⟩
        case measure => simp [intOf]; omega
    · obtain rfl : m = 0 := by omega
      go_wp2_with fail
      go_ret
      exact ⟨A, c, ts, k2, rfl, htc, CM.out, by omega, SR.out, (fun t ht => by have := IN.out t ht; omega), RD.out, hC, G2.out⟩
end Go.Proofs.Ytiogpomgpknjlaa
