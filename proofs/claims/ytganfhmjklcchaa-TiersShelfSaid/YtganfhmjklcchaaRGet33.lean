/- Get of the reference of chapter 33; a shelf at hand. Condition: sizes. -/
import Derived.Test.YtganfhmjklcchaaRDel33
import Derived.Deep.DeepCutAuto
namespace Go.Proofs.Ytganfhmjklcchaa
open Go.RowKit
set_option linter.unusedVariables false
set_option linter.unusedSimpArgs false

set_option maxHeartbeats 2000000 in
set_option maxRecDepth 100000 in
theorem rget_any {S S2 : Nat → Prop} (A : Option Addr) (bs : List BlobD) (c : Nat) (i t : Int) (w : World) (hr : Rd S w A (bs.flatMap BlobD.cells)) (hs : ∀ x ∈ bs, x.Sub S2 w) (hl : bs.length ≤ 100000) :
    Calls Try.prog 14 #[.slice A bs.length c, .int .i64 i, .int .i64 t] w (GetPost w (getB bs i t)) := by
  have HR := Lib.hid hr
  have HS := Lib.hid hs
  have K := Lib.hid (rat_any A bs c i t w hr hl)
  have hlow := lowC_le (cf := cfBlob i t) bs
  clear hr hs
  go_enter Try.func14, Try.ntmps14
  go_wp2_with fail
  refine K.out.mono ?_
  rintro e w1 ⟨rfl, hg⟩
  have G := Lib.hid hg
  clear hg
  cases hok : okC (cfBlob i t) bs with
  | false =>
    have HV : Hid (getB bs i t = none) := Lib.hid (by unfold getB; rw [hok]; simp)
    clear hok
    go_wp2_with fail
    go_ret2
    exact ⟨G.out, by rw [HV.out]; rfl⟩
  | true =>
    obtain ⟨x, hx, -⟩ := okC_some hok
    have HV : Hid (getB bs i t = some x.data) := Lib.hid (by unfold getB; rw [hok, if_pos rfl, hx]; rfl)
    obtain ⟨m, hm⟩ : ∃ m, m = lowC (cfBlob i t) bs := ⟨_, rfl⟩
    rw [← hm] at hx hlow ⊢
    have hml : m < bs.length := (List.getElem?_eq_some_iff.1 hx).1
    have hSub := HS.out x (List.mem_of_getElem? hx)
    obtain ⟨b, o, rfl, -, -, -⟩ := HR.out (by rw [flat_len _ 3 BlobD.cells_len]; omega)
    have d2 : w1.cell? ⟨b, o + m * 3 + 2, none⟩ = some (.slice x.A x.data.length x.c) := (HR.out.grown G.out (by simp)).flatAt BlobD.cells_len hx 2 (by omega)
    have i1 : (m : Int) < (bs.length : Int) := by omega
    have RX := Lib.hid (hSub.1.grown G.out (by simp))
    have hxl := hSub.2.2.2
    have hs1 := G.out.size
    clear hok hm hx hSub
    go_wp2_with (at_builtin; refine wpList_appendS rfl _ _ 22 rfl w1.heap.size Try.underlying22 byteInfo8 rfl (by decide) (v := .slice none 0 0) (by rfl) (World.ownsRow_nil _ _ _ _) x.A x.data.length x.c (news := x.data.map (.int .u8)) (by rfl) RX.out (by simp) (by simp [Value.oneCell']) (by decide) (by omega) (by omega) ?_; intro A3 c3 w3 hown3 hg3)
    have D3 : Hid (w3.ownsRow w1.heap.size 5 1 (.slice A3 x.data.length c3) x.data.length (x.data.map (.int .u8))) := Lib.hid (by simpa using hown3)
    have G3 : Hid (w.grownBy w3 none) := Lib.hid (only_trans G.out (by simpa [Value.ownBlock] using hg3))
    clear hown3 hg3 d2
    obtain ⟨A9, c9, e9, hc9, hm9, -, hr9⟩ := Rd.of_own D3.out (by decide)
    injection e9 with e91 e92 e93
    subst e91 e93
    have HR9 := Lib.hid hr9
    clear hr9
    go_wp2_with fail
    go_ret2
    exact ⟨G3.out, by rw [HV.out]; exact ⟨A3, c3, rfl, hc9, hm9, HR9.out.mono (fun b hb _ => Nat.le_trans hs1 hb)⟩⟩
/-- a shelf at hand -/
def Shf (n : Nat) (w : World) (A : Option Addr) (al : List BlobD) (c : Nat) : Prop := Rd (n ≤ ·) w A (al.flatMap BlobD.cells) ∧ (∀ x ∈ al, x.Sub (n ≤ ·) w) ∧ al.length ≤ c ∧ c ≤ maxLen ∧ (A = none → c = 0)
theorem Shf.grown {n : Nat} {w w' : World} {A : Option Addr} {al : List BlobD} {c : Nat} {row : Option Nat} (h : Shf n w A al c) (hg : w.grownBy w' row) (hr : ∀ b, n ≤ b → some b ≠ row) : Shf n w' A al c :=
  ⟨h.1.grown hg hr, fun x hx => (h.2.1 x hx).grown hg hr, h.2.2⟩
def UpPost (w : World) (g : Nat) (l : List Int) (k : Nat) (n : Int) (e : Ending) (w' : World) : Prop :=
  ∃ (v : Int) (k' : Nat), e = .returned (.int .i64 v) ∧ 0 ≤ v ∧ v < n ∧ k ≤ k' ∧ (k < l.length → k < k') ∧ k' ≤ l.length ∧ CodesAt w' g l k' ∧ w.grownBy w' (some g)
theorem next_up (g : Nat) (l : List Int) (k : Nat) (n : Int) (w : World) (h : CodesAt w g l k) (h1 : 1 ≤ n) (hn : n ≤ 1000000) :
    Calls Try.prog 8 #[.pointer (some ⟨g, 0, none⟩), .int .i64 n] w (UpPost w g l k n) :=
  (next_any g l k n w h hn).mono fun e w' ⟨he, hc, hg⟩ => by
    obtain ⟨A, c, _, _, _, _, hx⟩ := h
    have hc' := hc
    obtain ⟨A', c', _, _, hk', _, _⟩ := hc'
    exact ⟨_, _, he, nextV_nonneg hx k n, nextV_lt hx k n h1, by unfold nextK; split <;> omega, fun hk => by unfold nextK; rw [if_pos ⟨hk, h1⟩]; omega, hk', hc, hg⟩
end Go.Proofs.Ytganfhmjklcchaa
