/- slices.DeleteFunc of strings at seat Ytceebhgbebkafaa.ZD (part 36): written by the kit (lay-plain); the numbers are that seat's. -/
import Derived.Test.YtceebhgbebkafaaGreatDoorProg
import Derived.Shelf.SlicesE.DeleteFunc
import Derived.Ground.SlgfProg
import Derived.Lib.SliceRun
import Derived.Test.YtceebhgbebkafaaGreatDoorSortS
namespace Go.Proofs
open Go.Shelf
def Tryz.l54_ren : Go.Shelf.Ren := ⟨fun | 10 => 54 | 6 => 83 | n => n, fun | 22 => 40 | 23 => 9 | 25 => 84 | 3 => 3 | 4 => 4 | 0 => 0 | n => n, fun | n => n⟩
theorem Tryz.l54 : Go.Proofs.SlLaysH.n10 Tryz.prog Tryz.l54_ren := {
  mixed := by kernel_rfl
  f6 := ⟨Tryz.f83.name, by decide, Tryz.func83.trans (congrArg some (by kernel_rfl))⟩
  f10 := ⟨Tryz.f54.name, by decide, Tryz.func54.trans (congrArg some (by kernel_rfl))⟩
  t0 := Tryz.underlying0
  a0 := Tryz.isAgg0
  z0 := Tryz.sizeOf0
  v0 := Tryz.zeroValue0
  t3 := Tryz.underlying3
  a3 := Tryz.isAgg3
  z3 := Tryz.sizeOf3
  v3 := Tryz.zeroValue3
  t4 := Tryz.underlying4
  a4 := Tryz.isAgg4
  z4 := Tryz.sizeOf4
  v4 := Tryz.zeroValue4
  t22 := Tryz.underlying40
  a22 := Tryz.isAgg40
  z22 := Tryz.sizeOf40
  v22 := Tryz.zeroValue40
  a23 := Tryz.isAgg9
  z23 := Tryz.sizeOf9
  t25 := Tryz.underlying84
  a25 := Tryz.isAgg84
  z25 := Tryz.sizeOf84
  v25 := Tryz.zeroValue84 }
end Go.Proofs
namespace Go.Proofs.YtceebhgbebkafaaGreatDoor
open Go.RowKit
set_option linter.unusedVariables false
set_option linter.unusedSimpArgs false

theorem own_take {w : World} {base e n c k : Nat} {A : Option Addr} {xs : List Value} (h : w.ownsRow base e 1 (.slice A n c) n xs) (hk : k ≤ n) : w.ownsRow base e 1 (.slice A k c) k (xs.take k) := by
  have hl : xs.length = n := by have := h.1; omega
  refine ⟨by rw [List.length_take]; omega, ?_⟩
  rcases h.2 with ⟨h1, h2⟩ | ⟨g, cap, cur, h1, h2, h3, h4, h5, h6, h7⟩
  · injection h1 with e1 e2 e3
    subst e1 e3
    exact .inl ⟨by rw [show k = 0 by omega], by omega⟩
  · injection h1 with e1 e2 e3
    subst e1 e3
    refine .inr ⟨g, c, cur, rfl, h2, h3, by omega, h5, h6, ?_⟩
    rw [← h7, List.take_take]
    congr 1; omega
def CSOwn (w : World) (base : Nat) (row : Option Nat) (ls : List (List UInt8)) (e : Ending) (w' : World) : Prop :=
  ∃ A c, e = .returned (.slice A ls.length c) ∧ ls.length ≤ c ∧ c ≤ maxLen ∧ w'.ownsRow base 9 1 (.slice A ls.length c) ls.length (ls.map encStr) ∧ w.grownBy w' row ∧ (Value.slice A ls.length c).ownBlock = row
theorem comp_ownO (base : Nat) (v : Value) (ls : List (List UInt8)) (w : World) (h : w.ownsRow base 9 1 v ls.length (ls.map encStr)) (hl : ls.length ≤ 1000000) :
    Calls Tryz.prog 57 #[v] w (CSOwn w base v.ownBlock (Lib.compact ls)) := by
  have hcl := Lib.compact_length_le ls
  rcases h.2 with ⟨rfl, hz⟩ | ⟨g, cap, cur, rfl, hge, hb, h1, h2, h3, h4⟩
  · have h0 : ls = [] := List.eq_nil_of_length_eq_zero hz
    subst h0
    refine (Tryz.slices_Compact_string_empty none 0 w).mono ?_
    rintro e w2 ⟨rfl, rfl⟩
    exact ⟨none, 0, rfl, Nat.le_refl _, by unfold maxLen; omega, World.ownsRow_nil _ _ _ _, only_refl _ _, rfl⟩
  · have h4' : cur.toList.take ls.length = ls.map encStr := by simpa using h4
    have hH := holds_of_block hb h4'
    refine (Tryz.slices_Compact_string g 0 cap ls w hH (by omega) (by omega)).mono ?_
    rintro e w2 ⟨rfl, n, hw2⟩
    obtain ⟨ts, hts⟩ : ∃ ts, ts = Lib.compact ls ++ List.replicate (ls.length - (Lib.compact ls).length) ([] : List UInt8) := ⟨_, rfl⟩
    have hsl : ts.length = ls.length := by rw [hts]; simp; omega
    rw [← hts] at hw2
    have hw2 : w2 = Go.Sort.grow (Go.Sort.putRow encStr (Go.Sort.ahead w n) g 0 ts.toArray) #[] := by rw [Go.Sort.grow_empty]; exact hw2
    have HO2 := ownsRow_sorted (os := #[]) (n := n) (ts := ts) (ss := ls) hsl hge hb h1 h2 h3
    have HG2 := grownBy_sorted (w := w) (g := g) (n := n) (os := #[]) ts.toArray
    rw [← hw2] at HO2 HG2
    refine ⟨_, _, rfl, by omega, h2, ?_, HG2, rfl⟩
    have := own_take HO2 hcl
    rw [← List.map_take, hts, List.take_left' rfl] at this
    exact this
set_option maxHeartbeats 1000000 in
theorem idxS_nil (c : Nat) (fv : Value) (w : World) : Calls Tryz.prog 83 #[.slice none 0 c, fv] w (fun e w' => e = .returned (.int .i64 (-1)) ∧ w' = w) := by
  go_enter Tryz.func83, Tryz.ntmps83
  go_wp2_with fail
  go_loopw [8] (fun i wr => i = .int .i64 0 ∧ wr = w) (fun _ _ => 0)
  case atStart => exact ⟨rfl, rfl⟩
  case round =>
    obtain ⟨rfl, rfl⟩ := hrel
    go_wp2_with fail
    go_ret
    exact ⟨rfl, rfl⟩
set_option maxHeartbeats 1000000 in
theorem delF_nil (c : Nat) (fv : Value) (w : World) : Calls Tryz.prog 54 #[.slice none 0 c, fv] w (fun e w' => e = .returned (.slice none 0 c) ∧ w' = w) := by
  go_enter Tryz.func54, Tryz.ntmps54
  go_wp2_with fail
  refine (idxS_nil c fv w).mono ?_
  rintro e w2 ⟨rfl, rfl⟩
  go_wp2_with fail
  go_ret
  exact ⟨rfl, rfl⟩
theorem delF_own (base : Nat) (v : Value) (ls : List (List UInt8)) (p : List UInt8 → Bool) (g : FuncId) (lb : Array Value) (eg : ∀ (args : Array Value) (w : World), (callFunc g args).run Tryz.prog w = .ok (.enter g args) w) (w : World) (h : w.ownsRow base 9 1 v ls.length (ls.map encStr)) (hl : ls.length ≤ 1000000)
    (hp : ∀ (W : World) (x : List UInt8), w.grownBy W v.ownBlock → FnGives Tryz.prog g lb #[encStr x] (.bool (p x)) W) :
    Calls Tryz.prog 54 #[v, .func (.func g) #[] lb] w (CSOwn w base v.ownBlock (ls.filter (fun x => !p x))) := by
  have hcl : (ls.filter (fun x => !p x)).length ≤ ls.length := List.length_filter_le _ _
  rcases h.2 with ⟨rfl, hz⟩ | ⟨k, cap, cur, rfl, hge, hb, h1, h2, h3, h4⟩
  · have h0 : ls = [] := List.eq_nil_of_length_eq_zero hz
    subst h0
    refine (delF_nil 0 _ w).mono ?_
    rintro e w2 ⟨rfl, rfl⟩
    exact ⟨none, 0, rfl, Nat.le_refl _, by unfold maxLen; omega, World.ownsRow_nil _ _ _ _, only_refl _ _, rfl⟩
  · have h4' : cur.toList.take ls.length = ls.map encStr := by simpa using h4
    have hH := holds_of_block hb h4'
    have c1 := AnyE.slices_DeleteFunc Tryz.l54 encStr (fun _ => rfl) p g lb eg [] (fun w => Tryz.zeroValue9 w) k 0 cap ls.toArray w
      (fun W x hb => hp W x (only_of_none ⟨hb.os, hb.tape, hb.output, hb.size, fun i hi _ => hb.block i hi⟩ _))
      (fun n os dk x hs => hp _ x (grownBy_sorted dk)) hH (by simp; omega) (by simp; omega)
    simp only [List.size_toArray] at c1
    refine c1.mono ?_
    rintro e w2 ⟨rfl, n, hw2⟩
    obtain ⟨ts, hts⟩ : ∃ ts, ts = (ls.filter (fun x => !p x)) ++ List.replicate (ls.length - (ls.filter (fun x => !p x)).length) ([] : List UInt8) := ⟨_, rfl⟩
    have hsl : ts.length = ls.length := by rw [hts]; simp; omega
    rw [← hts] at hw2
    have hw2 : w2 = Go.Sort.grow (Go.Sort.putRow encStr (Go.Sort.ahead w n) k 0 ts.toArray) #[] := by rw [Go.Sort.grow_empty]; exact hw2
    have HO2 := ownsRow_sorted (os := #[]) (n := n) (ts := ts) (ss := ls) hsl hge hb h1 h2 h3
    have HG2 := grownBy_sorted (w := w) (g := k) (n := n) (os := #[]) ts.toArray
    rw [← hw2] at HO2 HG2
    refine ⟨_, _, rfl, by omega, h2, ?_, HG2, rfl⟩
    have := own_take HO2 hcl
    rw [← List.map_take, hts, List.take_left' rfl] at this
    exact this
end Go.Proofs.YtceebhgbebkafaaGreatDoor
