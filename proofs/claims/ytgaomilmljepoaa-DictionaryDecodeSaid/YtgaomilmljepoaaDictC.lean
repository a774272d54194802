/- dictionary: Prefix of both texts; awake. No condition. -/
import Derived.Test.YtgaomilmljepoaaDictB
namespace Go.Proofs.Ytgaomilmljepoaa
open Go.RowKit
set_option linter.unusedVariables false
set_option linter.unusedSimpArgs false

def RetExt (v : Value) (w : World) (e : Ending) (w' : World) : Prop := e = .returned v ∧ w.grownBy w' none
theorem ixOf_le (ds : List ByteArray) (t : ByteArray) : ixOf ds t ≤ ds.length := (bs_le _ _ 0 ds.length (Nat.zero_le _) (by omega)).2
theorem endsAt_le (ds : List ByteArray) (t : ByteArray) (k : Nat) : endsAt ds t k ≤ ds.length - k := (bs_le _ _ 0 (ds.length - k) (Nat.zero_le _) (by omega)).2

set_option maxHeartbeats 1000000 in
theorem prefix_any {S : Nat → Prop} (A : Option Addr) (ds : List ByteArray) (c : Nat) (t : ByteArray) (w : World) (h : Rd S w A (ds.map .string)) (hl : ds.length ≤ 10000000) :
    Calls Try.prog 16 #[.slice A ds.length c, .string t] w (RetExt (.tuple #[.int .i64 (ixOf ds t), .int .i64 ((ixOf ds t : Int) + (endsAt ds t (ixOf ds t) : Int))]) w) := by
  have H := Lib.hid h
  clear h
  have hmf : ∀ (fn : Fn) (first cap : Array Value) (w : World), (Instr.makeFunc fn first cap).run Try.prog w = .ok (.func fn first cap) w := fun _ _ _ _ => rfl
  have hix := ixOf_le ds t
  have hen := endsAt_le ds t (ixOf ds t)
  go_enter Try.func16, Try.ntmps16
  go_wp2_with fail
  refine (index_any A ds c t _ ((H.out.alloc _).alloc _) hl).mono ?_
  rintro e w1 ⟨rfl, nq, rfl⟩
  generalize hix2 : ixOf ds t = k at *
  go_wp2_with fail
  have hC : Caps ((((w.alloc (Obj.cells #[Value.slice A ds.length c] 26)).alloc (Obj.cells #[Value.string t] 9)).drewN nq).alloc (Obj.cells #[Value.int IntKind.i64 ↑k] 3)) w.heap.size (w.heap.size + 1 + 1) (w.heap.size + 1) A ds c k t := by
    refine ⟨?_, ?_, ?_⟩
    · exact ((((Blk.new w 26 #[Value.slice A ds.length c]).alloc _).drewN nq).alloc _).cell 0
    · have := (Blk.new (((w.alloc (Obj.cells #[Value.slice A ds.length c] 26)).alloc (Obj.cells #[Value.string t] 9)).drewN nq) 3 #[Value.int IntKind.i64 ↑k]).cell 0
      simpa using this
    · have := (((Blk.new (w.alloc (Obj.cells #[Value.slice A ds.length c] 26)) 9 #[Value.string t]).drewN nq).alloc (Obj.cells #[Value.int IntKind.i64 ↑k] 3)).cell 0
      simpa using this
  refine (search_any _ _ _ A ds c k t _ ((((H.out.alloc _).alloc _).drewN nq).alloc _) hl hix hC).mono ?_
  rintro e w2 ⟨rfl, nq2, rfl⟩
  have c6 := hC.2.1
  have HIX := Lib.hid hix2
  clear hC hix2
  go_wp2
  go_quiet (fail)
  go_wp2
  go_ret2
  exact ⟨rfl, by repeat (first | exact only_refl _ _ | apply only_drewN | apply only_alloc)⟩

def PrefPost (ds : List ByteArray) (t : ByteArray) (w : World) (e : Ending) (w' : World) : Prop :=
  ∃ k : Nat, e = .returned (.tuple #[.int .i64 (ixOf ds t), .int .i64 k]) ∧ ixOf ds t ≤ k ∧ k ≤ ds.length ∧ (∀ i x, ixOf ds t ≤ i → i < k → ds[i]? = some x → hp x t = true) ∧ (∀ x, ds[k]? = some x → hp x t = false) ∧ ∃ n, w' = w.drewN n
set_option maxHeartbeats 1000000 in
theorem rprefix_any {S : Nat → Prop} (A : Option Addr) (ds : List ByteArray) (c : Nat) (t : ByteArray) (w : World) (h : Rd S w A (ds.map .string)) (hl : ds.length ≤ 10000000) :
    Calls Try.prog 17 #[.slice A ds.length c, .string t] w (PrefPost ds t w) := by
  have H := Lib.hid h
  clear h
  have hix := ixOf_le ds t
  go_enter Try.func17, Try.ntmps17
  go_wp2_with fail
  refine (rindex_any A ds c t _ H.out hl).mono ?_
  rintro e w1 ⟨rfl, nq, rfl⟩
  obtain ⟨k0, hk0⟩ : ∃ k0, ixOf ds t = k0 := ⟨_, rfl⟩
  have HK := Lib.hid hk0
  rw [hk0] at hix ⊢
  clear hk0
  go_wp2_with fail
  go_loopw [8] (fun x wr => ∃ k : Nat, k0 ≤ k ∧ k ≤ ds.length ∧ x = .int .i64 k ∧ (∀ i x, k0 ≤ i → i < k → ds[i]? = some x → hp x t = true) ∧ ∃ q, wr = w.drewN q) (fun x _ => ds.length - (intOf x).toNat)
  case atStart => exact ⟨k0, Nat.le_refl _, hix, rfl, (fun i x h1 h2 => absurd h1 (by omega)), _, rfl⟩
  case round =>
    obtain ⟨k, hk1, hk2, rfl, hall, q, rfl⟩ := hrel
    have AL := Lib.hid hall
    clear hall
    by_cases hlt : k < ds.length
    · obtain ⟨b, off, x, rfl, hc, hx⟩ := H.out.str_at hlt
      by_cases hs : hp x t = true
      · go_wp2_with (go_at_call 38; refine (begins_any _ _ _).mono ?_; rintro e w' ⟨rfl, n, rfl⟩)
        go_roundw
        case rel =>
          refine ⟨k + 1, by omega, by omega, by go_num, fun i y h1 h2 hy => ?_, _, rfl⟩
          rcases Nat.lt_or_ge i k with h | h
          · exact AL.out i y h1 h hy
          · obtain rfl : i = k := by omega
            rw [hx.out] at hy; injection hy with hy; rw [← hy]; exact hs
        case measure => simp [intOf]; omega
      · have hs' : hp x t = false := by simpa using hs
        clear hs
        go_wp2_with (go_at_call 38; refine (begins_any _ _ _).mono ?_; rintro e w' ⟨rfl, n, rfl⟩)
        go_ret2
        exact ⟨k, by rw [HK.out]; rfl, by rw [HK.out]; exact hk1, hk2, by rw [HK.out]; exact AL.out, fun y hy => by rw [hx.out] at hy; injection hy with hy; rw [← hy]; exact hs', _, rfl⟩
    · go_wp2_with fail
      go_ret2
      exact ⟨k, by rw [HK.out]; rfl, by rw [HK.out]; exact hk1, hk2, by rw [HK.out]; exact AL.out, (fun y hy => by rw [List.getElem?_eq_none (by omega)] at hy; cases hy), _, rfl⟩

set_option maxHeartbeats 400000 in
theorem awake_any (w : World) : Calls Try.prog 10 #[] w (RetExt (.bool true) w) := by
  have hR : Rd (fun _ => True) (w.alloc (.cells #[.string ⟨#[97]⟩, .string ⟨#[98]⟩] 9)) (some ⟨w.heap.size, 0, none⟩) ([(⟨#[97]⟩ : ByteArray), ⟨#[98]⟩].map .string) := fun _ =>
    ⟨w.heap.size, 0, rfl, trivial, by simp, fun j u hu => by rw [Nat.zero_add, (Blk.new w _ _).cell j, ← hu]; simp⟩
  have H := Lib.hid hR
  clear hR
  go_enter Try.func10, Try.ntmps10
  go_wp2_with fail
  refine (index_any _ [(⟨#[97]⟩ : ByteArray), ⟨#[98]⟩] 2 ⟨#[98]⟩ _ H.out (by decide)).mono ?_
  rintro e w' ⟨rfl, n, rfl⟩
  have hr : ixOf [(⟨#[97]⟩ : ByteArray), ⟨#[98]⟩] ⟨#[98]⟩ = 1 := by simp [ixOf, bs, lt, sl, ByteArray.toList_eq, Op.bytesLess]
  have hf : found [(⟨#[97]⟩ : ByteArray), ⟨#[98]⟩] ⟨#[98]⟩ = true := by unfold found; rw [hr]; simp
  rw [hr, hf]
  clear hr hf
  go_wp2
  go_ret
  exact ⟨rfl, only_drewN (only_alloc (only_refl _ _) _) _⟩
end Go.Proofs.Ytgaomilmljepoaa
