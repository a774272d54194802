/- XDelT, XRDel33, XRGet33, XInsB, XCloneB, XPutB: what this seat has of them (joined by partseat.py). Conditions: as there. -/
import Derived.Test.YtganfhmjklcchaaGreatJCloneY
import Derived.Test.YtganfhmjklcchaaGreatJGenC
import Derived.StillTailTactics
import Derived.Deep.DeepCutAuto
import Derived.Deep.RegionLaw
import Derived.Test.YtganfhmjklcchaaGreatJCmpI
import Derived.Lib.SliceRun
import Derived.Test.YtganfhmjklcchaaGreatJInv
import Derived.Test.YtganfhmjklcchaaGreatJBase
import Derived.Lib.AppendStr
import Derived.IntWalk
import Derived.Laws.Bits64b
import Derived.Deep.DeepMust
import Derived.Shelf.Strconv.Itoa0
import Derived.Test.YtganfhmjklcchaaGreatProg
namespace Go.Proofs.YtganfhmjklcchaaGreat
open Go.RowKit
set_option linter.unusedVariables false
set_option linter.unusedSimpArgs false

/-- clear of one element of several cells -/
theorem run_clear1 {P : Program} (w : World) (t e ty : TypeId) (z : Value) (ht : P.underlying t = some (.slice e)) (hv : ∀ w, (zeroValue e).run P w = .ok z w) (g o c : Nat) (cur : Array Value) (t' : TypeId) (hg : w.heap[g]? = some (.cells cur t' (0, 0))) (hfit : o + z.cells.toList.length ≤ cur.size) (h1 : ∀ u ∈ z.cells.toList, u.oneCell' = true) :
    (Builtin.clear_ #[t] ty #[.slice (some ⟨g, o, none⟩) 1 c]).run P w = .ok (.tuple #[]) (w.setRow g (cur.toList.take o ++ z.cells.toList ++ cur.toList.drop (o + z.cells.toList.length)).toArray) := by
  have hzc : (Builtin.zeroCells z.cells 1).toList = z.cells.toList := by
    apply List.ext_getElem
    · simp [Builtin.zeroCells]
    · intro i h1 h2
      simp [Builtin.zeroCells] at h1
      simp [Builtin.zeroCells, Nat.mod_eq_of_lt h1]
      exact getElem!_pos z.cells i h1
  have hst := run_storeCells_at P g o t' z.cells.toList 0 cur w hg (by simpa using hfit) h1
  simp only [Nat.add_zero] at hst
  simp [Builtin.clear_, run_underlying ht, hv, hzc, hst]
def DelPost (w : World) (base g c : Nat) (ys : List BlobD) (e : Ending) (w' : World) : Prop :=
  e = .returned (.slice (some ⟨g, 0, none⟩) ys.length c) ∧ w'.ownsRow base 59 3 (.slice (some ⟨g, 0, none⟩) ys.length c) ys.length (ys.flatMap BlobD.cells) ∧ w.grownBy w' (some g)
theorem zeroBlob : ∀ w, (zeroValue 59).run Tryz.prog w = .ok (.agg #[.int .i64 0, .int .i64 0, .slice none 0 0]) w := fun w => by kernel_rfl
end Go.Proofs.YtganfhmjklcchaaGreat

namespace Go.Proofs.YtganfhmjklcchaaGreat
open Go.RowKit
set_option linter.unusedVariables false
set_option linter.unusedSimpArgs false

end Go.Proofs.YtganfhmjklcchaaGreat

namespace Go.Proofs.YtganfhmjklcchaaGreat
open Go.RowKit
set_option linter.unusedVariables false
set_option linter.unusedSimpArgs false

set_option maxHeartbeats 2000000 in
set_option maxRecDepth 100000 in
theorem rget33_any {S S2 : Nat → Prop} (A : Option Addr) (bs : List BlobD) (c : Nat) (i t : Int) (w : World) (hr : Rd S w A (bs.flatMap BlobD.cells)) (hs : ∀ x ∈ bs, x.Sub S2 w) (hl : bs.length ≤ 100000) :
    Calls Tryz.prog 34 #[.slice A bs.length c, .int .i64 i, .int .i64 t] w (GetPost w (getB bs i t)) := by
  have HR := Lib.hid hr
  have HS := Lib.hid hs
  have K := Lib.hid (rat_any A bs c i t w hr hl)
  have hlow := lowC_le (cf := cfBlob i t) bs
  clear hr hs
  go_enter Tryz.func34, Tryz.ntmps34
  go_wp2_with fail
  refine K.out.mono ?_
  rintro e w1 ⟨rfl, hg⟩
  have G := Lib.hid hg
  clear hg
  cases hok : okC (cfBlob i t) bs with
  | false =>
    have HV : Hid (getB bs i t = none) := Lib.hid (by unfold getB; rw [hok]; simp)
    clear hok
    go_wp2_with fail
    go_ret2
    exact ⟨G.out, by rw [HV.out]; rfl⟩
  | true =>
    obtain ⟨x, hx, -⟩ := okC_some hok
    have HV : Hid (getB bs i t = some x.data) := Lib.hid (by unfold getB; rw [hok, if_pos rfl, hx]; rfl)
    obtain ⟨m, hm⟩ : ∃ m, m = lowC (cfBlob i t) bs := ⟨_, rfl⟩
    rw [← hm] at hx hlow ⊢
    have hml : m < bs.length := (List.getElem?_eq_some_iff.1 hx).1
    have hSub := HS.out x (List.mem_of_getElem? hx)
    obtain ⟨b, o, rfl, -, -, -⟩ := HR.out (by rw [flat_len _ 3 BlobD.cells_len]; omega)
    have d2 : w1.cell? ⟨b, o + m * 3 + 2, none⟩ = some (.slice x.A x.data.length x.c) := (HR.out.grown G.out (by simp)).flatAt BlobD.cells_len hx 2 (by omega)
    have i1 : (m : Int) < (bs.length : Int) := by omega
    have RX := Lib.hid (hSub.1.grown G.out (by simp))
    have hxl := hSub.2.2.2
    have hs1 := G.out.size
    clear hok hm hx hSub
    go_wp2_with (at_builtin; refine wpList_appendT rfl _ _ 22 rfl w1.heap.size Tryz.underlying22 byteInfo8 rfl (by decide) (v := .slice none 0 0) (by rfl) (World.ownsRow_nil _ _ _ _) x.A x.data.length x.c (news := x.data.map (.int .u8)) (by rfl) RX.out (by simp) (by simp [Value.oneCell']) (by decide) (by omega) (by omega) ?_; intro A3 c3 w3 hown3 hg3)
    have D3 : Hid (w3.ownsRow w1.heap.size 5 1 (.slice A3 x.data.length c3) x.data.length (x.data.map (.int .u8))) := Lib.hid (by simpa using hown3)
    have G3 : Hid (w.grownBy w3 none) := Lib.hid (only_trans G.out (by simpa [Value.ownBlock] using hg3))
    clear hown3 hg3 d2
    obtain ⟨A9, c9, e9, hc9, hm9, -, hr9⟩ := Rd.of_own D3.out (by decide)
    injection e9 with e91 e92 e93
    subst e91 e93
    have HR9 := Lib.hid hr9
    clear hr9
    go_wp2_with fail
    go_ret2
    exact ⟨G3.out, by rw [HV.out]; exact ⟨A3, c3, rfl, hc9, hm9, HR9.out.mono (fun b hb _ => Nat.le_trans hs1 hb)⟩⟩
/-- a shelf at hand -/
def Shf (n : Nat) (w : World) (A : Option Addr) (al : List BlobD) (c : Nat) : Prop := Rd (n ≤ ·) w A (al.flatMap BlobD.cells) ∧ (∀ x ∈ al, x.Sub (n ≤ ·) w) ∧ al.length ≤ c ∧ c ≤ maxLen ∧ (A = none → c = 0)
theorem Shf.grown {n : Nat} {w w' : World} {A : Option Addr} {al : List BlobD} {c : Nat} {row : Option Nat} (h : Shf n w A al c) (hg : w.grownBy w' row) (hr : ∀ b, n ≤ b → some b ≠ row) : Shf n w' A al c :=
  ⟨h.1.grown hg hr, fun x hx => (h.2.1 x hx).grown hg hr, h.2.2⟩
def UpPost (w : World) (g : Nat) (l : List Int) (k : Nat) (n : Int) (e : Ending) (w' : World) : Prop :=
  ∃ (v : Int) (k' : Nat), e = .returned (.int .i64 v) ∧ 0 ≤ v ∧ v < n ∧ k ≤ k' ∧ (k < l.length → k < k') ∧ k' ≤ l.length ∧ CodesAt w' g l k' ∧ w.grownBy w' (some g)
theorem next_up (g : Nat) (l : List Int) (k : Nat) (n : Int) (w : World) (h : CodesAt w g l k) (h1 : 1 ≤ n) (hn : n ≤ 1000000) :
    Calls Tryz.prog 11 #[.pointer (some ⟨g, 0, none⟩), .int .i64 n] w (UpPost w g l k n) :=
  (next_any g l k n w h hn).mono fun e w' ⟨he, hc, hg⟩ => by
    obtain ⟨A, c, _, _, _, _, hx⟩ := h
    have hc' := hc
    obtain ⟨A', c', _, _, hk', _, _⟩ := hc'
    exact ⟨_, _, he, nextV_nonneg hx k n, nextV_lt hx k n h1, by unfold nextK; split <;> omega, fun hk => by unfold nextK; rw [if_pos ⟨hk, h1⟩]; omega, hk', hc, hg⟩
end Go.Proofs.YtganfhmjklcchaaGreat

namespace Go.Proofs.YtganfhmjklcchaaGreat
open Go.RowKit
set_option linter.unusedVariables false
set_option linter.unusedSimpArgs false

def InsBlobPost (w : World) (base : Nat) (row : Option Nat) (ys : List BlobD) (e : Ending) (w' : World) : Prop :=
  ∃ A' c', e = .returned (.slice A' ys.length c') ∧ w'.ownsRow base 59 3 (.slice A' ys.length c') ys.length (ys.flatMap BlobD.cells) ∧ w.grownBy w' row
theorem zs3 (n : Nat) : (Builtin.zeroCells (.agg #[.int .i64 0, .int .i64 0, .slice none 0 0] : Value).cells n).size = n * 3 := by simp [Builtin.zeroCells, Value.cells]
set_option maxHeartbeats 4000000 in
set_option maxRecDepth 100000 in
theorem insertBlob_any (A : Option Addr) (xs : List BlobD) (c i vb base : Nat) (x : BlobD) (w : World) (hown : w.ownsRow base 59 3 (.slice A xs.length c) xs.length (xs.flatMap BlobD.cells)) (hx : Blk w vb 59 x.cells.toArray) (hi : i ≤ xs.length) (hl : xs.length ≤ 1000000) (hne : (Value.slice A xs.length c).ownBlock ≠ some vb) (hbase : base ≤ w.heap.size) :
    Calls Tryz.prog 60 #[.slice A xs.length c, .int .i64 i, .slice (some ⟨vb, 0, none⟩) 1 1] w (InsBlobPost w base (Value.slice A xs.length c).ownBlock (xs.take i ++ x :: xs.drop i)) := by
  have O := Lib.hid hown
  have HX := Lib.hid hx
  have hrx : Rd (fun _ => True) w (some ⟨vb, 0, none⟩) x.cells := fun _ => ⟨vb, 0, rfl, trivial, hx.lt, fun j u hu => by rw [Nat.zero_add, hx.cell j]; simpa using hu⟩
  have HRX := Lib.hid hrx
  have hlen : (xs.take i ++ x :: xs.drop i).length = xs.length + 1 := by simp; omega
  have HLEN := Lib.hid hlen
  obtain ⟨n, hn⟩ : ∃ n, n = xs.length := ⟨_, rfl⟩
  clear hrx hlen
  by_cases hin : i = xs.length
  · have hy : xs.take i ++ x :: xs.drop i = xs ++ [x] := by rw [List.take_of_length_le (by omega), List.drop_of_length_le (by omega)]
    rw [hy]
    have hi1 : (i : Int) = (xs.length : Int) := by omega
    obtain ⟨A9, c9, e9, hc9, hm9, -, hr9⟩ := Rd.of_own hown (by decide)
    injection e9 with e91 e92 e93
    subst e91 e93
    unfold maxLen at hm9
    subst hin
    clear hx hown hr9 hy hn hi1
    have i1 : (xs.length : Int) ≤ (c : Int) := by omega
    by_cases hcn : c = xs.length
    · subst hcn
      go_enter Tryz.func60, Tryz.ntmps60
      go_wp2_with (at_builtin; refine wpList_appendN rfl _ _ 24 rfl base Tryz.underlying24 blobInfo rfl (by decide) (v := .slice A xs.length xs.length) (by rfl) O.out (some ⟨vb, 0, none⟩) 1 1 (news := x.cells) (by rfl) HRX.out rfl (BlobD.one x) (by decide) (by omega) hbase ?_; intro v3 w3 hown3 hg3 hob3)
      have O3 : Hid (w3.ownsRow base 59 3 v3 (xs ++ [x]).length ((xs ++ [x]).flatMap BlobD.cells)) := Lib.hid (by simpa using hown3)
      have G3 := Lib.hid hg3
      clear hown3 hg3 hob3
      obtain ⟨A3, c3, rfl, -, -, -, -⟩ := Rd.of_own O3.out (by decide)
      go_wp2_with fail
      go_ret
      exact ⟨A3, c3, rfl, O3.out, G3.out⟩
    · skip
      go_enter Tryz.func60, Tryz.ntmps60
      go_wp2_with (at_builtin; refine wpList_appendN rfl _ _ 24 rfl base Tryz.underlying24 blobInfo rfl (by decide) (v := .slice A xs.length c) (by rfl) O.out (some ⟨vb, 0, none⟩) 1 1 (news := x.cells) (by rfl) HRX.out rfl (BlobD.one x) (by decide) (by omega) hbase ?_; intro v3 w3 hown3 hg3 hob3)
      have O3 : Hid (w3.ownsRow base 59 3 v3 (xs ++ [x]).length ((xs ++ [x]).flatMap BlobD.cells)) := Lib.hid (by simpa using hown3)
      have G3 := Lib.hid hg3
      clear hown3 hg3 hob3
      obtain ⟨A3, c3, rfl, -, -, -, -⟩ := Rd.of_own O3.out (by decide)
      go_wp2_with fail
      go_ret
      exact ⟨A3, c3, rfl, O3.out, G3.out⟩
  · have hlt : i < n := by omega
    rcases hown.2 with ⟨e, h0⟩ | ⟨g, cap, cur, e, hb, hh, hnc, hcm, hcs, ht⟩
    · omega
    · injection e with e1 e2 e3
      subst e1 e3
      have hvb : vb ≠ g := fun e => hne (by rw [e]; rfl)
      have hbl := hx
      have hsz : ∀ m, (flat_len BlobD.cells 3 BlobD.cells_len (xs.take m)) = (flat_len BlobD.cells 3 BlobD.cells_len (xs.take m)) := fun _ => rfl
      have lA : ((xs.take i).flatMap BlobD.cells).length = i * 3 := by rw [flat_len _ 3 BlobD.cells_len, List.length_take]; omega
      have lB : ((xs.drop i).flatMap BlobD.cells).length = (xs.length - i) * 3 := by rw [flat_len _ 3 BlobD.cells_len, List.length_drop]
      have hAB : cur.toList.take (xs.length * 3) = (xs.take i).flatMap BlobD.cells ++ (xs.drop i).flatMap BlobD.cells := by rw [ht, ← List.flatMap_append, List.take_append_drop]
      have hcl : cur.toList.length = c * 3 := by simpa using hcs
      have hmx := hcm
      unfold maxLen at hmx
      have hinfo : (Tryz.prog.info? 59).map (·.size) = some 3 := blobSize
      have hrow : ∀ j u, ((xs.drop i).flatMap BlobD.cells)[j]? = some u → w.cell? ⟨g, i * 3 + j, none⟩ = some u := fun j u hu => by
        have hj := (List.getElem?_eq_some_iff.1 hu).1
        rw [cell_of_row w g (i * 3 + j) cur 59 (0, 0) hh, ← Array.getElem?_toList]
        have h1 : (cur.toList.take (xs.length * 3))[i * 3 + j]? = some u := by
          rw [hAB, List.getElem?_append_right (by omega), lA]
          rw [show i * 3 + j - i * 3 = j by omega]; exact hu
        rw [List.getElem?_take] at h1
        split at h1
        · exact h1
        · cases h1
      have h1A : ∀ u ∈ (xs.drop i).flatMap BlobD.cells, u.oneCell' = true := flat_one BlobD.one _
      have h1X : ∀ u ∈ x.cells, u.oneCell' = true := BlobD.one x
      have hlx : x.cells.length = 3 := rfl
      have i2 : ¬ ((i : Int) = (xs.length : Int)) := by omega
      have i3 : (0 : Int) ≤ (i : Int) := by omega
      have i4 : (i : Int) ≤ (xs.length : Int) := by omega
      have i5 : (xs.length : Int) ≤ (c : Int) := by omega
      have hwi : IntKind.i64.wrap ((i : Int) + 1) = (i : Int) + 1 := IntWalk.i64_in _ (by omega)
      have hwn : IntKind.i64.wrap ((xs.length : Int) + 1) = (xs.length : Int) + 1 := IntWalk.i64_in _ (by omega)
      have hci : ¬ (c = i) := by omega
      by_cases hroom : xs.length + 1 ≤ c
      · have i6 : ¬ ((c : Int) < (xs.length : Int) + 1) := by omega
        obtain ⟨cur1, hc1⟩ : ∃ cur1, cur1 = cur.toList.take ((i + 1) * 3) ++ (xs.drop i).flatMap BlobD.cells ++ cur.toList.drop ((i + 1) * 3 + ((xs.drop i).flatMap BlobD.cells).length) := ⟨_, rfl⟩
        obtain ⟨cur2, hc2⟩ : ∃ cur2, cur2 = cur1.take (i * 3) ++ x.cells ++ cur1.drop (i * 3 + x.cells.length) := ⟨_, rfl⟩
        obtain ⟨k1, k2, k3⟩ := ins_cur hAB lA lB hi hlx (by rw [hcl]; exact Nat.mul_le_mul_right 3 hroom) hc1 hc2
        obtain ⟨W1, hW1⟩ : ∃ W1, W1 = w.drew.setRow g cur1.toArray := ⟨_, rfl⟩
        obtain ⟨W2, hW2⟩ : ∃ W2, W2 = W1.setRow g cur2.toArray := ⟨_, rfl⟩
        have hh1 : W1.heap[g]? = some (.cells cur1.toArray 59 (0, 0)) := by rw [hW1]; exact setRow_heap w.drew g cur _ 59 (0, 0) hh
        have hcp1 : ∀ ty dc sc, (Builtin.copy_ #[24, 24] ty #[.slice (some ⟨g, cutG 0 3 c (i + 1), none⟩) (xs.length - i) dc, .slice (some ⟨g, i * 3, none⟩) (xs.length + 1 - i) sc]).run Tryz.prog w.drew = .ok (goInt (Nat.min (xs.length + 1 - i) (xs.length - i))) W1 := fun ty dc sc => by
          have e1 : cutG 0 3 c (i + 1) = (i + 1) * 3 := by unfold cutG; rw [if_neg (by omega)]; omega
          rw [e1, hW1, hc1]
          exact run_copyK w.drew _ _ ty 59 3 g ((i + 1) * 3) _ dc ⟨g, i * 3, none⟩ _ sc cur 59 ((xs.drop i).flatMap BlobD.cells) Tryz.underlying24 hinfo hh (by rw [lB]; congr 1; simp only [Nat.min_def]; split <;> omega)
            (fun j v hj => by rw [Addr.add_lit]; exact hrow j v hj) (by rw [lB]; simp only [← Array.length_toList, hcl]; omega) h1A
        have hcp2 : ∀ ty dc, (Builtin.copy_ #[24, 24] ty #[.slice (some ⟨g, i * 3, none⟩) (xs.length + 1 - i) dc, .slice (some ⟨vb, 0, none⟩) 1 1]).run Tryz.prog W1 = .ok (goInt (Nat.min 1 (xs.length + 1 - i))) W2 := fun ty dc => by
          rw [hW2, hc2]
          have := run_copyK W1 24 24 ty 59 3 g (i * 3) (xs.length + 1 - i) dc ⟨vb, 0, none⟩ 1 1 cur1.toArray 59 x.cells Tryz.underlying24 hinfo hh1 (by rw [hlx]; simp only [Nat.min_def]; split <;> omega)
            (fun j v hj => by
              rw [Addr.add_lit, Nat.zero_add]
              have hB1 : Blk W1 vb 59 x.cells.toArray := by rw [hW1]; exact (Blk.drew hbl).grown (grown_setRow _ _ _) (by intro e; injection e with e; exact hvb e)
              rw [hB1.cell j]; simpa using hj) (by rw [hlx]; simp only [List.size_toArray, k1, hcl]; omega) h1X
          simpa using this
        have hov : ∀ o lb cb, (callFunc 86 #[.slice (some ⟨vb, 0, none⟩) 1 1, .slice (some ⟨g, o, none⟩) lb cb]).run Tryz.prog w = .ok (.value (.bool false)) w := fun o lb cb => by
          rw [run_callFunc_extern Tryz.func86 (by kernel_rfl) (by kernel_rfl) (by kernel_rfl) (e := Extern.SlicesOverlaps.overlaps #[24, 24] #[4]) (by kernel_rfl),
            Lib.run_overlaps_apart w 24 4 59 Tryz.underlying24 3 Tryz.sizeOf59 ⟨vb, 0, none⟩ ⟨g, o, none⟩ 1 1 lb cb hvb 59 59 3 cur.size (by simp [World.shape?, show w.heap[vb]? = _ from hbl, BlobD.cells_len]) (by simp [World.shape?, hh]) (by rw [hcs]; omega) (hbl.frozen 0) (hbl.frozen 3)]
          rfl
        have HF : Hid (InsBlobPost w base (some g) (xs.take i ++ x :: xs.drop i) (.returned (.slice (some ⟨g, 0, none⟩) (xs.length + 1) c)) W2) := Lib.hid (by
          refine ⟨some ⟨g, 0, none⟩, c, by rw [HLEN.out], ?_, ?_⟩
          · rw [HLEN.out, hW2]
            refine own_setRow hh1 hb hroom hcm (by simp only [List.size_toArray, k2, hcl]) (by rw [flat_len _ 3 BlobD.cells_len, HLEN.out]) ?_
            simpa [List.flatMap_append] using k3
          · rw [hW2, hW1]; exact only_trans (only_trans (only_drew (only_refl w _)) (grown_setRow _ _ _)) (grown_setRow _ _ _))
        clear hx hown hh hnc hcm hcs ht hne hbl hsz lA lB hAB hcl hrow h1A h1X hW1 hW2 hc1 hc2 k1 k2 k3 hh1 hn hinfo hlx
        have i7 : ¬ (c = i + 1) := by omega
        have i8 : (xs.length : Int) + 1 ≤ (c : Int) := by omega
        have i9 : (i : Int) + 1 ≤ (xs.length : Int) + 1 := by omega
        have i10 : (i : Int) ≤ (xs.length : Int) + 1 := by omega
        go_enter Tryz.func60, Tryz.ntmps60
        go_upto_region 15 with (simp only [hov])
        go_still_tail 8, (by kernel_rfl)
        refine wpStill_cutG (k := i + 1) rfl rfl Tryz.underlying24 blobSize (by rfl) (by rfl) (by omega) (by omega) ?_
        repeat still_step
        refine wpStill_nil ?_
        change wpList _ _ _ _ _ w.drew
        refine wpList_copyK rfl _ _ 24 24 rfl _ _ (by rfl) (by rfl) (fun ty => hcp1 ty _ _) ?_
        clear hcp1 hov
        go_wp2_with (at_builtin; refine wpList_copyK rfl _ _ 24 24 rfl _ _ (by rfl) (by rfl) (fun ty => hcp2 ty _) ?_)
        go_wp2_with fail
        go_ret
        exact HF.out
      · obtain rfl : c = xs.length := by omega
        have hni : ¬ (xs.length = i) := hci
        have i6 : (xs.length : Int) < (xs.length : Int) + 1 := by omega
        obtain ⟨i0, hi0, hz0, hz1, hz2⟩ := info_parts blobInfo
        obtain ⟨g1, hg1⟩ : ∃ g1, g1 = w.heap.size := ⟨_, rfl⟩
        obtain ⟨G, hG⟩ : ∃ G, G = grownCap w (xs.length + 1) xs.length 59 := ⟨_, rfl⟩
        have hGn : xs.length + 1 ≤ G := by rw [hG]; exact grownCap_ge w _ _ _
        have hGm : G ≤ maxLen := by rw [hG]; exact grownCap_le_maxLen w _ _ _ (by unfold maxLen; omega)
        have hG63 := hGm
        unfold maxLen at hG63
        obtain ⟨ROW, hROW⟩ : ∃ ROW : Array Value, ROW = ((xs.take i).flatMap BlobD.cells).toArray ++ Builtin.zeroCells (.agg #[.int .i64 0, .int .i64 0, .slice none 0 0] : Value).cells (xs.length + 1 - i) ++ Builtin.zeroCells (.agg #[.int .i64 0, .int .i64 0, .slice none 0 0] : Value).cells (G - (xs.length + 1)) := ⟨_, rfl⟩
        have hRl : ROW.toList.length = G * 3 := by
          rw [hROW]
          simp only [Array.length_toList, Array.size_append, zs3, List.size_toArray, lA]
          omega
        have hRA : ROW.toList = (xs.take i).flatMap BlobD.cells ++ ((Builtin.zeroCells (.agg #[.int .i64 0, .int .i64 0, .slice none 0 0] : Value).cells (xs.length + 1 - i)).toList ++ (Builtin.zeroCells (.agg #[.int .i64 0, .int .i64 0, .slice none 0 0] : Value).cells (G - (xs.length + 1))).toList) := by
          rw [hROW]; simp
        obtain ⟨W1, hW1⟩ : ∃ W1, W1 = w.drew.alloc (.cells ROW 59) := ⟨_, rfl⟩
        have hold : (Builtin.firstCells i0.size i (.slice (some ⟨g, 0, none⟩) i xs.length)).run Tryz.prog w.drew = .ok ((xs.take i).flatMap BlobD.cells).toArray w.drew := by
          rw [hz1]
          refine run_firstCells_some w.drew 3 i ⟨g, 0, none⟩ i xs.length ((xs.take i).flatMap BlobD.cells) lA (fun j v hj => ?_)
          rw [Addr.add_lit, Nat.zero_add]
          have hjl := (List.getElem?_eq_some_iff.1 hj).1
          show w.cell? ⟨g, j, none⟩ = some v
          rw [cell_of_row w g j cur 59 (0, 0) hh, ← Array.getElem?_toList]
          have h1 : (cur.toList.take (xs.length * 3))[j]? = some v := by
            rw [hAB, List.getElem?_append_left hjl]; exact hj
          rw [List.getElem?_take] at h1
          split at h1
          · exact h1
          · cases h1
        have hkk : (xs.length : Int) + 1 - (i : Int) = ((xs.length + 1 - i : Nat) : Int) := by omega
        have hik : i + (xs.length + 1 - i) = xs.length + 1 := by omega
        have hrz : ∀ ty, (Builtin.append_ #[24, 3] ty #[.slice (some ⟨g, 0, none⟩) i xs.length, .int .i64 ((xs.length : Int) + 1 - (i : Int))]).run Tryz.prog w = .ok (.slice (some ⟨g1, 0, none⟩) (xs.length + 1) G) W1 := fun ty => by
          have h := Lib.run_append_grow_zeros w 24 3 ty 59 i0 (.agg #[.int .i64 0, .int .i64 0, .slice none 0 0]) .i64 .i64 Tryz.underlying24 Tryz.underlying3 hi0 hz0 (some ⟨g, 0, none⟩) i xs.length ((xs.take i).flatMap BlobD.cells) hold (xs.length + 1 - i) (by omega) (by rw [hz1]; decide) (by omega) (by omega) (by rw [hz2]; omega) (by rw [hz2, hik]; exact growslice_fits (by omega) (by omega))
          rw [hik, ← hG] at h
          rw [hkk, hW1, hROW, hg1]
          exact h
        obtain ⟨row1, hr1⟩ : ∃ row1, row1 = ROW.toList.take (i * 3) ++ x.cells ++ ROW.toList.drop (i * 3 + x.cells.length) := ⟨_, rfl⟩
        obtain ⟨row2, hr2⟩ : ∃ row2, row2 = row1.take ((i + 1) * 3) ++ (xs.drop i).flatMap BlobD.cells ++ row1.drop ((i + 1) * 3 + ((xs.drop i).flatMap BlobD.cells).length) := ⟨_, rfl⟩
        obtain ⟨k1, k2, k3⟩ := ins_new hRA lA lB hi hlx (by rw [hRl]; exact Nat.mul_le_mul_right 3 hGn) hr1 hr2
        obtain ⟨W2, hW2⟩ : ∃ W2, W2 = W1.setRow g1 row1.toArray := ⟨_, rfl⟩
        obtain ⟨W3, hW3⟩ : ∃ W3, W3 = W2.drew.setRow g1 row2.toArray := ⟨_, rfl⟩
        have hN1 : W1.heap[g1]? = some (.cells ROW 59 (0, 0)) := by rw [hW1, hg1]; exact Blk.new w.drew 59 ROW
        have hN2 : W2.heap[g1]? = some (.cells row1.toArray 59 (0, 0)) := by rw [hW2]; exact setRow_heap W1 g1 ROW _ 59 (0, 0) hN1
        have hgw : g < w.heap.size := (Array.getElem?_eq_some_iff.1 hh).1
        have hgg : g ≠ g1 := by omega
        have hvw : vb < w.heap.size := hbl.lt
        have hx1 : Blk W1 vb 59 x.cells.toArray := by rw [hW1]; exact (Blk.drew hbl).alloc _
        have hg2 : W2.heap[g]? = some (.cells cur 59 (0, 0)) := by
          rw [hW2, setRow_other _ _ _ _ hgg, hW1]; exact (Below.heap_alloc w.drew _ g hgw).trans hh
        have hcpA : ∀ ty dc, (Builtin.copy_ #[24, 24] ty #[.slice (some ⟨g1, i * 3, none⟩) (xs.length + 1 - i) dc, .slice (some ⟨vb, 0, none⟩) 1 1]).run Tryz.prog W1 = .ok (goInt (Nat.min 1 (xs.length + 1 - i))) W2 := fun ty dc => by
          rw [hW2, hr1]
          exact run_copyK W1 24 24 ty 59 3 g1 (i * 3) (xs.length + 1 - i) dc ⟨vb, 0, none⟩ 1 1 ROW 59 x.cells Tryz.underlying24 hinfo hN1 (by rw [hlx]; simp only [Nat.min_def]; split <;> omega)
            (fun j v hj => by rw [Addr.add_lit, Nat.zero_add, hx1.cell j]; simpa using hj) (by rw [hlx]; simp only [← Array.length_toList, hRl]; omega) h1X
        have hcpB : ∀ ty dc sc, (Builtin.copy_ #[24, 24] ty #[.slice (some ⟨g1, cutG 0 3 G (i + 1), none⟩) (xs.length - i) dc, .slice (some ⟨g, i * 3, none⟩) (xs.length - i) sc]).run Tryz.prog W2.drew = .ok (goInt (Nat.min (xs.length - i) (xs.length - i))) W3 := fun ty dc sc => by
          have e1 : cutG 0 3 G (i + 1) = (i + 1) * 3 := by unfold cutG; rw [if_neg (by omega)]; omega
          rw [e1, hW3, hr2]
          have := run_copyK W2.drew 24 24 ty 59 3 g1 ((i + 1) * 3) (xs.length - i) dc ⟨g, i * 3, none⟩ (xs.length - i) sc row1.toArray 59 ((xs.drop i).flatMap BlobD.cells) Tryz.underlying24 hinfo hN2 (by rw [lB]; congr 1; simp only [Nat.min_def]; split <;> omega)
            (fun j v hj => by
              rw [Addr.add_lit]
              have h1 := hrow j v hj
              rw [cell_of_row w g _ cur 59 (0, 0) hh] at h1
              rw [cell_of_row W2.drew g _ cur 59 (0, 0) hg2]; exact h1) (by rw [lB]; simp only [List.size_toArray, k1, hRl]; omega) h1A
          simpa using this
        have HF : Hid (InsBlobPost w base (some g) (xs.take i ++ x :: xs.drop i) (.returned (.slice (some ⟨g1, 0, none⟩) (xs.length + 1) G)) W3) := Lib.hid (by
          refine ⟨some ⟨g1, 0, none⟩, G, by rw [HLEN.out], ?_, ?_⟩
          · rw [HLEN.out, hW3]
            refine own_setRow (w := W2.drew) hN2 (by omega) hGn hGm (by simp only [List.size_toArray, k2, hRl]) (by rw [flat_len _ 3 BlobD.cells_len, HLEN.out]) ?_
            simpa [List.flatMap_append] using k3
          · rw [hW3, hW2, hW1]
            exact only_fresh (only_drew (only_fresh (only_alloc (only_drew (only_refl w _)) _) (grown_setRow _ g1 _) (by omega))) (grown_setRow _ g1 _) (by omega))
        have hGi : ¬ (G = i) := by omega
        have hGi1 : ¬ (G = i + 1) := by omega
        have j1 : (i : Int) ≤ (xs.length : Int) + 1 := by omega
        have j2 : (xs.length : Int) + 1 ≤ (G : Int) := by omega
        have j3 : (0 : Int) ≤ (xs.length : Int) + 1 - (i : Int) := by omega
        have hwm : IntKind.i64.wrap ((xs.length : Int) + 1 - (i : Int)) = (xs.length : Int) + 1 - (i : Int) := IntWalk.i64_in _ (by omega)
        clear hx hown hh hnc hcm hcs ht hne hbl hsz lA lB hAB hcl hrow h1A h1X hW1 hW2 hW3 hr1 hr2 k1 k2 k3 hN1 hN2 hn hinfo hlx hi0 hz0 hz1 hz2 hg1 hG hROW hRl hRA hold hkk hik hgw hgg hvw hx1 hg2 hci
        go_enter Tryz.func60, Tryz.ntmps60
        go_wp2_with (first
          | (at_builtin; refine Lib.wpList_append_run _ rfl _ _ _ _ rfl _ _ rfl rfl _ _ (hrz _) ?_)
          | (at_builtin; refine wpList_copyK rfl _ _ 24 24 rfl _ _ (by rfl) (by rfl) (fun ty => hcpA ty _) ?_))
        go_still_tail 8, (by kernel_rfl)
        refine wpStill_cutG (k := i + 1) rfl rfl Tryz.underlying24 blobSize (by rfl) (by rfl) (by omega) (by omega) ?_
        repeat still_step
        refine wpStill_nil ?_
        change wpList _ _ _ _ _ W2.drew
        refine wpList_copyK rfl _ _ 24 24 rfl _ _ (by rfl) (by rfl) (fun ty => hcpB ty _ _) ?_
        clear hcpA hcpB hrz
        go_wp2_with fail
        go_ret
        exact HF.out
end Go.Proofs.YtganfhmjklcchaaGreat

namespace Go.Proofs.YtganfhmjklcchaaGreat
open Go.RowKit
set_option linter.unusedVariables false
set_option linter.unusedSimpArgs false

def CloneBlPost (w : World) (n : Nat) (xs : List Value) (e : Ending) (w' : World) : Prop := ∃ A' c', e = .returned (.slice A' n c') ∧ w'.ownsRow w.heap.size 59 3 (.slice A' n c') n xs ∧ w.grownBy w' none
set_option maxHeartbeats 1000000 in
set_option maxRecDepth 100000 in
theorem cloneBl_any {S : Nat → Prop} (A : Option Addr) (n c : Nat) (xs : List Value) (w : World) (hr : Rd S w A xs) (hn : xs.length = n * 3) (hl : n ≤ 1000000) (h1 : ∀ u ∈ xs, u.oneCell' = true) (hA : A = none → n = 0) :
    Calls Tryz.prog 28 #[.slice A n c] w (CloneBlPost w n xs) := by
  have q22 : ∀ (w : World) (a : Option Addr) (n c n' c' : Nat), (binOp .eql 24 (.slice a n c) (.slice none n' c')).run Tryz.prog w = .ok (.bool a.isNone) w := fun w a n c n' c' => Lib.run_eql_slice_nil w _ _ a n c n' c' Tryz.underlying24
  have H1 := Lib.hid h1
  have HR := Lib.hid hr
  clear h1 hr
  cases A with
  | none =>
    obtain rfl := hA rfl
    obtain rfl : xs = [] := List.eq_nil_of_length_eq_zero (by omega)
    clear hA
    go_enter Tryz.func28, Tryz.ntmps28
    go_wp2_with fail
    go_ret
    exact ⟨none, 0, rfl, World.ownsRow_nil _ _ _ _, only_refl _ _⟩
  | some a =>
    clear hA
    go_enter Tryz.func28, Tryz.ntmps28
    go_wp2_with (at_builtin; refine wpList_appendN rfl _ _ 24 rfl w.heap.size Tryz.underlying24 blobInfo rfl (by decide) (v := .slice (some ⟨w.heap.size, 0, none⟩) 0 0) (by rfl) (World.ownsRow_made w #[] 0 (Nat.le_refl _) (Nat.zero_le _) (by simp)) (some a) n c (news := xs) (by rfl) (HR.out.alloc _) hn H1.out (by decide) (by omega) (by simp) ?_; intro v3 w3 hown3 hg3 hob3)
    have O3 : Hid (w3.ownsRow w.heap.size 59 3 v3 n xs) := Lib.hid (by simpa using hown3)
    have G3 : Hid (w.grownBy w3 none) := Lib.hid (only_fresh (only_alloc (only_refl _ _) _) (by simpa [Value.ownBlock] using hg3) (Nat.le_refl _))
    clear hown3 hg3 hob3
    obtain ⟨A3, c3, rfl, -, -, -, -⟩ := Rd.of_own O3.out (by decide)
    go_wp2_with fail
    go_ret
    exact ⟨A3, c3, rfl, O3.out, G3.out⟩
end Go.Proofs.YtganfhmjklcchaaGreat

namespace Go.Proofs.YtganfhmjklcchaaGreat
open Go.RowKit
set_option linter.unusedVariables false
set_option linter.unusedSimpArgs false

theorem rd_none {S : Nat → Prop} {w : World} {bs : List BlobD} (h : Rd S w none (bs.flatMap BlobD.cells)) : bs.length = 0 := by
  rcases bs with _ | ⟨y, ys⟩
  · rfl
  · exact absurd rfl (h.ne_none (by simp [BlobD.cells]))
theorem put_sub {bs : List BlobD} {i t : Int} {x : BlobD} {S : Nat → Prop} {w : World} (h : ∀ y ∈ bs, y.Sub S w) (hx : x.Sub S w) : ∀ y ∈ putB bs i t x, y.Sub S w := fun y hy => by
  unfold putB at hy
  split at hy
  · rcases List.mem_or_eq_of_mem_set hy with hy | rfl
    · exact h y hy
    · exact hx
  · rcases List.mem_append.1 hy with hy | hy
    · exact h y (List.mem_of_mem_take hy)
    · rcases List.mem_cons.1 hy with rfl | hy
      · exact hx
      · exact h y (List.mem_of_mem_drop hy)
theorem del_sub {bs : List BlobD} {i t : Int} {y : BlobD} (h : y ∈ delB bs i t) : y ∈ bs := by
  unfold delB at h
  split at h
  · rcases List.mem_append.1 h with h | h
    · exact List.mem_of_mem_take h
    · exact List.mem_of_mem_drop h
  · exact h
theorem put_set {w : World} {base g c m : Nat} {bs : List BlobD} {x : BlobD} (h : w.ownsRow base 59 3 (.slice (some ⟨g, 0, none⟩) bs.length c) bs.length (bs.flatMap BlobD.cells)) (hm : m < bs.length) :
    (((w.setCell ⟨g, m * 3, none⟩ (.int .i64 x.id)).setCell ⟨g, m * 3 + 1, none⟩ (.int .i64 x.tier)).setCell ⟨g, m * 3 + 2, none⟩ (.slice x.A x.data.length x.c)).ownsRow base 59 3 (.slice (some ⟨g, 0, none⟩) bs.length c) bs.length ((bs.set m x).flatMap BlobD.cells) := by
  have h1 := own_putk (k := m * 3) (u := .int .i64 x.id) h (by omega)
  have h2 := own_putk (k := m * 3 + 1) (u := .int .i64 x.tier) h1 (by omega)
  have h3 := own_putk (k := m * 3 + 2) (u := .slice x.A x.data.length x.c) h2 (by omega)
  have e : (bs.set m x).flatMap BlobD.cells = (((bs.flatMap BlobD.cells).set (m * 3) (.int .i64 x.id)).set (m * 3 + 1) (.int .i64 x.tier)).set (m * 3 + 2) (.slice x.A x.data.length x.c) := by
    clear h h1 h2 h3
    induction bs generalizing m with
    | nil => simp at hm
    | cons y ys ih =>
      rcases m with _ | m
      · simp [BlobD.cells]
      · have := ih (m := m) (by simpa using hm)
        have q0 : (m + 1) * 3 = (m * 3) + 3 := by omega
        simp only [List.set_cons_succ, List.flatMap_cons, this, q0]
        simp [BlobD.cells, List.set_cons_succ, Nat.add_assoc]
  rw [e]; exact h3
theorem put_mid {w : World} {base g c m : Nat} {bs : List BlobD} {x : BlobD} (h : w.ownsRow base 59 3 (.slice (some ⟨g, 0, none⟩) bs.length c) bs.length (bs.flatMap BlobD.cells)) (hm : m < bs.length) :
    (∃ v, w.cell? ⟨g, m * 3, none⟩ = some v) ∧ w.frozen? ⟨g, m * 3, none⟩ = false ∧
    (∃ v, (w.setCell ⟨g, m * 3, none⟩ (.int .i64 x.id)).cell? ⟨g, m * 3 + 1, none⟩ = some v) ∧ (w.setCell ⟨g, m * 3, none⟩ (.int .i64 x.id)).frozen? ⟨g, m * 3 + 1, none⟩ = false ∧
    (∃ v, ((w.setCell ⟨g, m * 3, none⟩ (.int .i64 x.id)).setCell ⟨g, m * 3 + 1, none⟩ (.int .i64 x.tier)).cell? ⟨g, m * 3 + 2, none⟩ = some v) ∧ ((w.setCell ⟨g, m * 3, none⟩ (.int .i64 x.id)).setCell ⟨g, m * 3 + 1, none⟩ (.int .i64 x.tier)).frozen? ⟨g, m * 3 + 2, none⟩ = false := by
  have hl : (bs.flatMap BlobD.cells).length = bs.length * 3 := flat_len _ 3 BlobD.cells_len bs
  have h1 := own_putk (k := m * 3) (u := .int .i64 x.id) h (by omega)
  have h2 := own_putk (k := m * 3 + 1) (u := .int .i64 x.tier) h1 (by omega)
  have q0 := own_cellR (k := m * 3) h (by omega)
  have q1 := own_cellR (k := m * 3 + 1) h1 (by omega)
  have q2 := own_cellR (k := m * 3 + 2) h2 (by omega)
  refine ⟨⟨_, q0.1.trans (List.getElem?_eq_getElem (by omega))⟩, q0.2, ⟨_, q1.1.trans (List.getElem?_eq_getElem (by simp only [List.length_set]; omega))⟩, q1.2, ⟨_, q2.1.trans (List.getElem?_eq_getElem (by simp only [List.length_set]; omega))⟩, q2.2⟩
set_option maxHeartbeats 8000000 in
set_option maxRecDepth 100000 in
theorem put_any {S : Nat → Prop} (A : Option Addr) (bs : List BlobD) (c : Nat) (x : BlobD) (w : World) (hr : Rd S w A (bs.flatMap BlobD.cells)) (hs : ∀ y ∈ bs, y.Sub S w) (hx : x.Sub S w) (hS : ∀ b, w.heap.size ≤ b → S b) (hl : bs.length ≤ 1000) (hc : bs.length ≤ c) (hcm : c ≤ maxLen) (hz : A = none → c = 0) (hb : BSrt bs) :
    Calls Tryz.prog 38 #[.slice A bs.length c, .agg x.cells.toArray] w (ShPost S w (fun bs' => ∃ x', x'.key = x.key ∧ bs' = putB bs x.id x.tier x')) := by
  obtain ⟨xb, hxb⟩ : ∃ b, b = w.heap.size := ⟨_, rfl⟩
  obtain ⟨W1, hW1⟩ : ∃ W, W = w.alloc (.cells x.cells.toArray 59) := ⟨_, rfl⟩
  have HB1 : Hid (Blk W1 xb 59 x.cells.toArray) := Lib.hid (by rw [hW1, hxb]; exact Blk.new w _ _)
  have g1 : w.grownBy W1 none := by rw [hW1]; exact only_alloc (only_refl _ _) _
  have G1 := Lib.hid g1
  have hxw : w.heap.size ≤ xb := by omega
  have hsz1 : w.heap.size ≤ W1.heap.size := g1.size
  have HRW := Lib.hid (hr.mono (S' := (· < w.heap.size)) (fun b _ hlt => hlt))
  have HSB := Lib.hid hs
  have HXS := Lib.hid hx
  have HS0 := Lib.hid hS
  have KC := Lib.hid (cloneBy_any x.A x.data.length x.c (x.data.map (.int .u8)) W1 (hx.1.grown g1 (by simp)) (by simp) hx.2.2.2 (by simp [Value.oneCell']) (fun hA => by
    by_cases h0 : 0 < (x.data.map (Value.int .u8)).length
    · obtain ⟨b', o', e', -⟩ := hx.1 h0; rw [hA] at e'; cases e'
    · simpa using h0))
  have hlow := lowC_le (cf := cfBlob x.id x.tier) bs
  have b2 := HB1.out.cell 2
  simp [BlobD.cells] at b2
  have HW1 := Lib.hid hW1.symm
  have HXE := Lib.hid hxb.symm
  have HMo := Lib.hid (hb.mono x.id x.tier)
  clear hW1 hxb g1 hr hs hx hS hz hb
  go_enter Tryz.func38, Tryz.ntmps38
  go_upto_region 1 with fail
  rw [HW1.out, HXE.out]
  clear HW1 HXE
  go_wp2_with fail
  refine KC.out.mono ?_
  rintro e w3 ⟨A3, c3, rfl, ho3, hg3⟩
  have D3 := Lib.hid ho3
  have G3 := Lib.hid hg3
  have hB3 := Lib.hid (HB1.out.grown hg3 (by simp))
  have c2' := hB3.out.cell 2
  have f2' := hB3.out.frozen 2
  simp [BlobD.cells] at c2'
  clear ho3 hg3 KC b2
  go_upto_region 2 with fail
  obtain ⟨x', hx'⟩ : ∃ x' : BlobD, x' = { x with A := A3, c := c3 } := ⟨_, rfl⟩
  obtain ⟨W4, hW4⟩ : ∃ W, W = w3.setCell ⟨xb, 2, none⟩ (.slice A3 x.data.length c3) := ⟨_, rfl⟩
  have gs : w3.grownBy W4 (some xb) := by rw [hW4]; exact only_setCell (only_refl _ _) (p := ⟨xb, 2, none⟩) (.inl rfl) _
  have HB4 : Hid (Blk W4 xb 59 x'.cells.toArray) := Lib.hid (by
    have := hB3.out.set_ 2 (.slice A3 x.data.length c3)
    rw [hW4, hx']; simpa [BlobD.cells] using this)
  have D4 := Lib.hid (D3.out.kept gs (by
    have := blk_norow hB3.out D3.out (by decide)
    exact .inr this))
  have G4 := Lib.hid (only_fresh (only_trans G1.out G3.out) gs hxw)
  have hsz4 : w.heap.size ≤ W4.heap.size := G4.out.size
  have HX' := Lib.hid hx'
  have HW4 := Lib.hid hW4.symm
  clear hB3 gs hW4 hx' D3
  rw [HW4.out]
  clear c2' f2' HW4
  have b0 := HB4.out.cell 0
  have b1 := HB4.out.cell 1
  rw [HX'.out] at b0 b1
  simp [BlobD.cells] at b0 b1
  have R4 := Lib.hid (HRW.out.grown G4.out (by simp))
  have KF := Lib.hid (findBlob_any A bs c x.id x.tier W4 R4.out (by omega) HMo.out)
  go_wp2_with fail
  refine KF.out.mono ?_
  rintro e w5 ⟨rfl, hg5⟩
  have G5 := Lib.hid (only_trans G4.out hg5)
  have HB5 := Lib.hid (HB4.out.grown hg5 (by simp))
  have D5 := Lib.hid (own_ext D4.out hg5)
  have R5 := Lib.hid (R4.out.grown hg5 (by simp))
  have hsz5 : w.heap.size ≤ w5.heap.size := G5.out.size
  clear hg5 KF b0 b1 D4 HB4
  cases hok : okC (cfBlob x.id x.tier) bs with
  | true =>
    have hok2 := hok
    obtain ⟨y, hy, -⟩ := okC_some hok
    obtain ⟨m, hm⟩ : ∃ m, m = lowC (cfBlob x.id x.tier) bs := ⟨_, rfl⟩
    have PV : Hid (putB bs x.id x.tier x' = bs.set m x') := Lib.hid (by unfold putB; rw [hok, if_pos rfl, hm])
    rw [← hm] at hy hlow ⊢
    have hml : m < bs.length := (List.getElem?_eq_some_iff.1 hy).1
    have KL := Lib.hid (cloneBl_any A bs.length c (bs.flatMap BlobD.cells) w5 R5.out (flat_len _ 3 BlobD.cells_len bs) (by omega) (flat_one BlobD.one _) (fun e => by have := R5.out; rw [e] at this; exact rd_none this))
    clear hok hok2 hm hy
    go_wp2_with fail
    refine KL.out.mono ?_
    rintro e w6 ⟨A6, c6, rfl, ho6, hg6⟩
    rcases ho6.2 with ⟨e, h0'⟩ | ⟨g, cap, cur, e, hb, hh, hnc, hcm6, hcs, htk⟩
    · injection e; omega
    · injection e with e1 e2 e3
      subst e1 e3
      have hset := put_set (x := x') ho6 hml
      have HB6 := HB5.out.grown hg6 (by simp)
      have b0 := HB6.cell 0
      have b1 := HB6.cell 1
      have b2 := HB6.cell 2
      rw [HX'.out] at b0 b1 b2
      simp [BlobD.cells] at b0 b1 b2
      have hgl : g < w6.heap.size := (Array.getElem?_eq_some_iff.1 hh).1
      obtain ⟨⟨v0, s0⟩, f0, ⟨v1, s1⟩, f1, ⟨v2, s2⟩, f2⟩ := put_mid (x := x') ho6 hml
      have e1 : x'.id = x.id := by rw [HX'.out]
      have e2 : x'.tier = x.tier := by rw [HX'.out]
      have e3 : x'.A = A3 := by rw [HX'.out]
      have e4 : x'.data = x.data := by rw [HX'.out]
      have e5 : x'.c = c3 := by rw [HX'.out]
      rw [e1] at s1 f1 s2 f2
      rw [e2] at s2 f2
      rw [e1, e2, e3, e4, e5] at hset
      have HO := Lib.hid hset
      have hgs : w6.grownBy (((w6.setCell ⟨g, m * 3, none⟩ (.int .i64 x.id)).setCell ⟨g, m * 3 + 1, none⟩ (.int .i64 x.tier)).setCell ⟨g, m * 3 + 2, none⟩ (.slice A3 x.data.length c3)) (some g) := only_setCell (only_setCell (only_setCell (only_refl _ _) (p := ⟨g, m * 3, none⟩) (.inl rfl) _) (p := ⟨g, m * 3 + 1, none⟩) (.inl rfl) _) (p := ⟨g, m * 3 + 2, none⟩) (.inl rfl) _
      have HGS := Lib.hid hgs
      have G6 := Lib.hid (only_fresh (only_trans G5.out hg6) hgs (Nat.le_trans hsz5 hb))
      have D6 := Lib.hid ((own_ext D5.out hg6).kept hgs (by
        have := blk_norow (show Blk w6 g 59 cur from hh) (own_ext D5.out hg6) (by decide)
        exact .inr this))
      clear e1 e2 e3 e4 e5 hset hgs
      have j1 : (m : Int) < (bs.length : Int) := by omega
      clear hcs htk hh hnc KL HB6 ho6
      go_wp2_with fail
      go_ret
      obtain ⟨A8, c8, e8, hc8, hm8, -, hr8⟩ := Rd.of_own HO.out (by decide)
      injection e8 with e81 e82 e83
      subst e81 e83
      obtain ⟨A7, c7, e7, hc7, hm7, -, hr7⟩ := Rd.of_own D6.out (by decide)
      injection e7 with e71 e72 e73
      subst e71 e73
      have hll : (bs.set m x').length = bs.length := List.length_set
      rw [← hll] at hc8
      exact ⟨some ⟨g, 0, none⟩, c6, bs.set m x', by rw [hll]; rfl, ⟨x', by rw [HX'.out]; rfl, PV.out.symm⟩, hc8, hm8, (by simp), hr8.mono (fun b hb' _ => HS0.out b (Nat.le_trans hsz5 hb')), (by
        rw [← PV.out]
        exact put_sub (fun y hy => (HSB.out y hy).grown G6.out (by simp)) (by
          rw [HX'.out]; exact ⟨hr7.mono (fun b hb' _ => HS0.out b (Nat.le_trans hsz1 hb')), hc7, hm7, HXS.out.2.2.2⟩)), G6.out⟩
  | false =>
    obtain ⟨m, hm⟩ : ∃ m, m = lowC (cfBlob x.id x.tier) bs := ⟨_, rfl⟩
    have PV : Hid (putB bs x.id x.tier x' = bs.take m ++ x' :: bs.drop m) := Lib.hid (by rw [hm]; exact putB_no hok)
    obtain ⟨ys, hys⟩ : ∃ ys, bs.take m ++ x' :: bs.drop m = ys := ⟨_, rfl⟩
    rw [hys] at PV
    have HYL : Hid (0 < ys.length) := Lib.hid (by rw [← hys]; simp; omega)
    have HYS := Lib.hid hys
    rw [← hm] at hlow ⊢
    have KLw := Lib.hid (fun (wx : World) (hx : w5.grownBy wx none) => cloneBl_any A bs.length c (bs.flatMap BlobD.cells) wx (R5.out.grown hx (by simp)) (flat_len _ 3 BlobD.cells_len bs) (by omega) (flat_one BlobD.one _) (fun e => by have := R5.out; rw [e] at this; exact rd_none this))
    have HB5' := HB5.out
    have b0 := HB5'.cell 0
    have b1 := HB5'.cell 1
    have b2 := HB5'.cell 2
    rw [HX'.out] at b0 b1 b2
    simp [BlobD.cells] at b0 b1 b2
    clear hok hm HB5' hys
    go_wp2_with fail
    go_region_law (first
      | (have htok := hO6a; go_simp; go_at_call 60; go_must (refine Calls.mono (insertBlob_any A6 bs c6 m w6.heap.size w.heap.size x' (w6.alloc (.cells #[.int .i64 x.id, .int .i64 x.tier, .slice A3 x.data.length c3] 59)) (own_ext hO6 (only_alloc (only_refl _ _) (.cells #[.int .i64 x.id, .int .i64 x.tier, .slice A3 x.data.length c3] 59))) (by rw [HX'.out]; exact Blk.new w6 _ _) hlow (by omega) (fun e => by have := (hO6.lt _ e).2; omega) (Nat.le_trans G6.size (by simp))) ?_); go_must (rintro e w8 ⟨A8, c8, rfl, hO8, hg8⟩); go_must (rw [HYS.out] at hO8 ⊢); go_must (have hO7 := own_ext hO6 (only_alloc (only_refl w6 none) (.cells #[.int .i64 x.id, .int .i64 x.tier, .slice A3 x.data.length c3] 59))); go_must (have D7 := own_ext D6 (only_alloc (only_refl w6 none) (.cells #[.int .i64 x.id, .int .i64 x.tier, .slice A3 x.data.length c3] 59))); go_must (have G8 : Hid (w.grownBy w8 none) := Lib.hid (only_own (only_alloc G6 (.cells #[.int .i64 x.id, .int .i64 x.tier, .slice A3 x.data.length c3] 59)) hg8 (own_ext hO6 (only_alloc (only_refl _ _) (.cells #[.int .i64 x.id, .int .i64 x.tier, .slice A3 x.data.length c3] 59))) (Nat.le_refl _))); go_must (have D8 : Hid (w8.ownsRow W1.heap.size 5 1 (.slice A3 x.data.length c3) x.data.length (x.data.map (.int .u8))) := Lib.hid (D7.kept hg8 (own_two D7 hO7 (by decide)))))
      | (have htok := hO6b; go_simp; go_at_call 60; go_must (refine Calls.mono (insertBlob_any A6 bs c6 m w5.heap.size w.heap.size x' w6 hO6 (by rw [HX'.out]; exact (Blk.new w5.drew _ _).grown hg6 (by simp)) hlow (by omega) (fun e => by have := (hO6b.lt _ e).1; simp at this; omega) G6.size) ?_); go_must (rintro e w8 ⟨A8, c8, rfl, hO8, hg8⟩); go_must (rw [HYS.out] at hO8 ⊢); go_must (have G8 : Hid (w.grownBy w8 none) := Lib.hid (only_own G6 hg8 hO6 (Nat.le_refl _))); go_must (have D8 : Hid (w8.ownsRow W1.heap.size 5 1 (.slice A3 x.data.length c3) x.data.length (x.data.map (.int .u8))) := Lib.hid (D6.kept hg8 (own_two D6 hO6 (by decide)))))
      | (go_simp; go_at_call 28; (with_reducible refine Calls.mono (KLw.out w5.drew (only_drew (only_refl _ _))) ?_); rintro e w6 ⟨A6, c6, rfl, hO6a, hg6⟩; have HB6 := HB5.out.drew.grown hg6 (by simp); have d0 := HB6.cell 0; have d1 := HB6.cell 1; have d2 := HB6.cell 2; rw [HX'.out] at d0 d1 d2; simp [BlobD.cells] at d0 d1 d2; have hO6 := own_low hO6a (b2 := w.heap.size) (by simp; omega); have G6 : w.grownBy w6 none := only_trans (only_drew G5.out) hg6; have D6 := own_ext (own_ext D5.out (only_drew (only_refl _ _))) hg6)
      | (go_simp; go_at_call 28; go_must (refine Calls.mono (KLw.out (w5.drew.alloc (.cells #[.int .i64 x.id, .int .i64 x.tier, .slice A3 x.data.length c3] 59)) (only_alloc (only_drew (only_refl _ _)) _)) ?_); rintro e w6 ⟨A6, c6, rfl, hO6b, hg6⟩; have HB6 := (HB5.out.drew.alloc (.cells #[.int .i64 x.id, .int .i64 x.tier, .slice A3 x.data.length c3] 59)).grown hg6 (by simp); have d0 := HB6.cell 0; have d1 := HB6.cell 1; have d2 := HB6.cell 2; rw [HX'.out] at d0 d1 d2; simp [BlobD.cells] at d0 d1 d2; have hO6 := own_low hO6b (b2 := w.heap.size) (by simp; omega); have G6 : w.grownBy w6 none := only_trans (only_alloc (only_drew G5.out) _) hg6; have D6 := own_ext (own_ext D5.out (only_alloc (only_drew (only_refl _ _)) (.cells #[.int .i64 x.id, .int .i64 x.tier, .slice A3 x.data.length c3] 59))) hg6))
    all_goals
      have O8 : Hid (w8.ownsRow w.heap.size 59 3 (.slice A8 ys.length c8) ys.length (ys.flatMap BlobD.cells)) := Lib.hid hO8
      clear hO8 hg8 hO6 hg6 HB6 d0 d1 d2 b0 b1 b2 G6 D6 KLw
      go_wp2_with fail
      go_ret
      obtain ⟨A9, c9, e9, hc9, hm9, -, hr9⟩ := Rd.of_own O8.out (by decide)
      injection e9 with e91 e92 e93
      subst e91 e93
      obtain ⟨A7, c7, e7, hc7, hm7, -, hr7⟩ := Rd.of_own D8.out (by decide)
      injection e7 with e71 e72 e73
      subst e71 e73
      exact ⟨A8, c8, ys, rfl, ⟨x', by rw [HX'.out]; rfl, PV.out.symm⟩, hc9, hm9, (fun e => absurd e (hr9.ne_none (by rw [flat_len _ 3 BlobD.cells_len]; have := HYL.out; omega))), hr9.mono (fun b hb' _ => HS0.out b hb'), (by
        rw [← PV.out]
        exact put_sub (fun y hy => (HSB.out y hy).grown G8.out (by simp)) (by
          rw [HX'.out]; exact ⟨hr7.mono (fun b hb' _ => HS0.out b (Nat.le_trans hsz1 hb')), hc7, hm7, HXS.out.2.2.2⟩)), G8.out⟩
end Go.Proofs.YtganfhmjklcchaaGreat

namespace Go.Proofs.YtganfhmjklcchaaGreat
open Go.RowKit
set_option linter.unusedVariables false
set_option linter.unusedSimpArgs false

theorem byteInfo : (Tryz.prog.info? 5).map (fun i => (i.zero, i.size, i.bytes)) = some (some (.int .u8 0), 1, 1) := by kernel_rfl

/-- the row v has grown to v' -/
def Onto (w : World) (v v' : Value) (w' : World) : Prop := w.grownBy w' v.ownBlock ∧ (v'.ownBlock = v.ownBlock ∨ ∃ k, w.heap.size ≤ k ∧ v'.ownBlock = some k)
theorem Onto.refl (w : World) (v : Value) : Onto w v v w := ⟨only_refl _ _, .inl rfl⟩
theorem Onto.trans {w w1 w2 : World} {v v1 v2 : Value} (h : Onto w v v1 w1) (k : Onto w1 v1 v2 w2) : Onto w v v2 w2 := by
  obtain ⟨hg, ho⟩ := h
  obtain ⟨kg, ko⟩ := k
  have hz := hg.size
  refine ⟨?_, ?_⟩
  · rcases ho with e | ⟨j, hj, e⟩
    · rw [e] at kg; exact only_trans hg kg
    · rw [e] at kg; exact only_fresh hg kg hj
  · rcases ko with e | ⟨j, hj, e⟩
    · rw [e]; exact ho
    · exact .inr ⟨j, by omega, e⟩
theorem Onto.drewN {w w1 : World} {v v1 : Value} (h : Onto w v v1 w1) (n : Nat) : Onto w v v1 (w1.drewN n) := ⟨only_drewN h.1 n, h.2⟩
theorem Onto.drew {w w1 : World} {v v1 : Value} (h : Onto w v v1 w1) : Onto w v v1 w1.drew := ⟨only_drew h.1, h.2⟩
/-- a frame over a row of the call's own -/
theorem Onto.only {a w w' : World} {base e size n : Nat} {v v' : Value} {xs : List Value} {row : Option Nat} (k : Onto w v v' w') (h : a.grownBy w row) (ho : w.ownsRow base e size v n xs) (hb : a.heap.size ≤ base) : a.grownBy w' row := only_own h k.1 ho hb
theorem onto_ap {w0 w1 : World} {v v' : Value} (hg : w0.grownBy w1 v.ownBlock) (hob : v'.ownBlock = v.ownBlock ∨ v'.ownBlock = some (w0.heap.size + 1)) : Onto w0 v v' w1 :=
  ⟨hg, hob.elim .inl fun h => .inr ⟨_, by omega, h⟩⟩
theorem Rd.onto {S : Nat → Prop} {w w' : World} {v v' : Value} {A : Option Addr} {xs : List Value} (h : Rd S w A xs) (k : Onto w v v' w') (hne : ∀ b, S b → some b ≠ v.ownBlock) : Rd S w' A xs := h.grown k.1 hne
/-- what was apart from the old row is apart from the grown one -/
theorem Onto.ne {S : Nat → Prop} {w w' : World} {v v' : Value} (k : Onto w v v' w') (hS : ∀ b, S b → b < w.heap.size) (hne : ∀ b, S b → some b ≠ v.ownBlock) : ∀ b, S b → some b ≠ v'.ownBlock := fun b hb e => by
  rcases k.2 with h | ⟨j, hj, h⟩
  · rw [h] at e; exact hne b hb e
  · rw [h] at e; injection e with e; have := hS b hb; omega
/-- bytes in a row that this call or its caller made -/
def Byts (base : Nat) (w : World) (v : Value) (xs : List Int) : Prop := w.ownsRow base 5 1 v xs.length (xs.map (.int .u8))
theorem Byts.snoc {base : Nat} {w : World} {v : Value} {xs : List Int} {x : Int} (h : w.ownsRow base 5 1 v (xs.length + 1) (xs.map (.int .u8) ++ #[Value.int .u8 x].toList)) : Byts base w v (xs ++ [x]) := own_snoc_int h
def bts (s : ByteArray) : List Int := s.data.toList.map (fun b => (b.toNat : Int))
theorem bts_len (s : ByteArray) : (bts s).length = s.size := by simp [bts]
theorem bts_cells (s : ByteArray) : (bts s).map (.int .u8) = Lib.strCells s := by simp [bts, Lib.strCells]
theorem Byts.str {base : Nat} {w : World} {v : Value} {xs : List Int} {s : ByteArray} (h : w.ownsRow base 5 1 v (xs.length + s.size) (xs.map (.int .u8) ++ Lib.strCells s)) : Byts base w v (xs ++ bts s) := by
  unfold Byts; rw [List.map_append, bts_cells, List.length_append, bts_len]; exact h
theorem Byts.drewN {base : Nat} {w : World} {v : Value} {xs : List Int} (h : Byts base w v xs) (n : Nat) : Byts base (w.drewN n) v xs := h
theorem Byts.rd {base : Nat} {w : World} {v : Value} {xs : List Int} (h : Byts base w v xs) : ∃ A c, v = .slice A xs.length c ∧ xs.length ≤ c ∧ c ≤ maxLen ∧ Rd (base ≤ ·) w A (xs.map (.int .u8)) := by
  obtain ⟨A, c, h1, h2, h3, _, h4⟩ := Rd.of_own h (by decide)
  exact ⟨A, c, h1, h2, h3, h4⟩
theorem Byts.nil (base : Nat) (w : World) : Byts base w (.slice none 0 0) [] := World.ownsRow_nil _ _ _ _
theorem Byts.only {a w w' : World} {base : Nat} {v v' : Value} {xs : List Int} {row : Option Nat} (h : Byts base w v xs) (k : Onto w v v' w') (hg : a.grownBy w row) (hb : a.heap.size ≤ base) : a.grownBy w' row := only_own hg k.1 h hb
def VPost (base : Nat) (w : World) (v : Value) (xs : List Int) (e : Ending) (w' : World) : Prop := ∃ v', e = .returned v' ∧ Byts base w' v' xs ∧ Onto w v v' w'

/-- a number in base 128 -/
def vint (n : Nat) : List Int := if n < 128 then [(n : Int)] else ((n % 128 + 128 : Nat) : Int) :: vint (n / 128)
theorem vint_lt {n : Nat} (h : n < 128) : vint n = [(n : Int)] := by rw [vint, if_pos h]
theorem vint_ge {n : Nat} (h : ¬ n < 128) : vint n = ((n % 128 + 128 : Nat) : Int) :: vint (n / 128) := by rw [vint, if_neg h]
theorem vint_len (n : Nat) : (vint n).length ≤ n + 1 := by
  fun_induction vint n with
  | case1 n h => simp
  | case2 n h ih => simp; omega
theorem wpList_appendS {P : Program} {ops : Array Oper} {rest : List Oper} {o : Oper} {a : Act} {w : World} {Q : Exit → Act → World → Prop} (hgd : o.guard = none) (sl x : Operand) (t u : TypeId)
    (ho : o.op = .call { callee := .builtin .append, args := #[sl, x], argTypes := #[t, u] })
    (base : Nat) (ht : P.underlying t = some (.slice 5)) (hu : P.underlying u = some .string) (hi : (P.info? 5).map (fun i => (i.zero, i.size, i.bytes)) = some (some (.int .u8 0), 1, 1))
    {v : Value} {xs : List Int} (hs : a.eval sl = v) (hown : Byts base w v xs) (s : ByteArray) (hx : a.eval x = .string s)
    (hn : xs.length + s.size ≤ 100000000000) (hbase : base ≤ w.heap.size)
    (h : ∀ v' w', Byts base w' v' (xs ++ bts s) → w.grownBy w' v.ownBlock → wpList P ops Q rest (a.put o.dst v') w') : wpList P ops Q (o :: rest) a w := by
  obtain ⟨i0, hi0, hz0, hz1, hz2⟩ := info_parts hi
  exact Lib.wpList_append_own_string w hgd sl x t u ho base _ i0 ht hu hi0 hz0 hz1 hz2 v _ _ hs hown s hx (by unfold maxLen; omega) (by omega) hbase fun v' w' h1 h2 _ => h v' w' (Byts.str h1) h2
theorem bts_at (s : ByteArray) {k : Nat} (h : k < s.size) : (bts s)[k]? = some ((s[k]'h).toNat : Int) := by
  unfold bts
  rw [List.getElem?_map, Array.getElem?_toList, Array.getElem?_eq_getElem (by simpa using h)]
  rfl
theorem bts_length (s : ByteArray) : (bts s).length = s.size := by unfold bts; simp
end Go.Proofs.YtganfhmjklcchaaGreat

namespace Go.Proofs.YtganfhmjklcchaaGreat
open Go.RowKit
set_option linter.unusedVariables false
set_option linter.unusedSimpArgs false

theorem ofInt_nat (n a : Nat) (h : a < 2 ^ n) : (BitVec.ofInt n (a : Int)).toNat = a := by
  rw [BitVec.ofInt_natCast, BitVec.toNat_ofNat]; exact Nat.mod_eq_of_lt h
theorem and_i64 (a b : Nat) (ha : a < 2 ^ 63) (hb : b < 2 ^ 63) : bits .and .i64 (a : Int) (b : Int) = ((a &&& b : Nat) : Int) := by
  have hx : a &&& b < 2 ^ 63 := Nat.and_lt_two_pow _ hb
  show IntKind.i64.wrap ((BitVec.ofInt 64 (a : Int) &&& BitVec.ofInt 64 (b : Int)).toNat : Int) = _
  rw [BitVec.toNat_and, ofInt_nat 64 a (by omega), ofInt_nat 64 b (by omega), IntKind.wrap_i64]
  omega
theorem or_i64 (a b : Nat) (ha : a < 2 ^ 63) (hb : b < 2 ^ 63) : bits .or .i64 (a : Int) (b : Int) = ((a ||| b : Nat) : Int) := by
  have hx : a ||| b < 2 ^ 63 := Nat.or_lt_two_pow ha hb
  show IntKind.i64.wrap ((BitVec.ofInt 64 (a : Int) ||| BitVec.ofInt 64 (b : Int)).toNat : Int) = _
  rw [BitVec.toNat_or, ofInt_nat 64 a (by omega), ofInt_nat 64 b (by omega), IntKind.wrap_i64]
  omega
theorem and_u8 (a b : Nat) (ha : a < 256) (hb : b < 256) : bits .and .u8 (a : Int) (b : Int) = ((a &&& b : Nat) : Int) := by
  have hx : a &&& b < 2 ^ 8 := Nat.and_lt_two_pow _ hb
  show IntKind.u8.wrap ((BitVec.ofInt 8 (a : Int) &&& BitVec.ofInt 8 (b : Int)).toNat : Int) = _
  rw [BitVec.toNat_and, ofInt_nat 8 a (by omega), ofInt_nat 8 b (by omega), IntKind.wrap_u8]
  omega
theorem or_u8 (a b : Nat) (ha : a < 256) (hb : b < 256) : bits .or .u8 (a : Int) (b : Int) = ((a ||| b : Nat) : Int) := by
  have hx : a ||| b < 2 ^ 8 := Nat.or_lt_two_pow (n := 8) ha hb
  show IntKind.u8.wrap ((BitVec.ofInt 8 (a : Int) ||| BitVec.ofInt 8 (b : Int)).toNat : Int) = _
  rw [BitVec.toNat_or, ofInt_nat 8 a (by omega), ofInt_nat 8 b (by omega), IntKind.wrap_u8]
  omega
theorem or128 (a : Nat) (h : a < 128) : a ||| 128 = a + 128 := by
  have := Nat.two_pow_add_eq_or_of_lt (i := 7) (b := a) h 1
  rw [Nat.or_comm] at this
  simpa [Nat.add_comm] using this.symm
theorem or128' (a : Nat) (h : a < 256) : a ||| 128 = a % 128 + 128 := by
  have h1 := or128 (a % 128) (by omega)
  by_cases h2 : a < 128
  · rw [Nat.mod_eq_of_lt h2] at h1 ⊢; exact h1
  · have e : a = (a % 128) ||| 128 := by rw [h1]; omega
    rw [← h1]
    rw [e, Nat.or_assoc, Nat.or_self]
    congr 1
    rw [h1]; omega
/-- the byte that varint appends, as the walk writes it -/
theorem vb_i64 (m : Nat) (h : m < 2 ^ 62) : bits .or .i64 (bits .and .i64 (m : Int) 127) 128 % 256 = ((m % 128 + 128 : Nat) : Int) := by
  have h1 := and_i64 m 127 (by omega) (by decide)
  have e : m &&& 127 = m % 128 := Nat.and_two_pow_sub_one_eq_mod m 7
  rw [e] at h1
  have h2 := or_i64 (m % 128) 128 (by omega) (by decide)
  rw [or128 _ (by omega)] at h2
  have h1' : bits .and .i64 (m : Int) 127 = ((m % 128 : Nat) : Int) := h1
  have h2' : bits .or .i64 ((m % 128 : Nat) : Int) 128 = ((m % 128 + 128 : Nat) : Int) := h2
  rw [h1', h2']
  omega
theorem vb_u64 (m : Nat) (h : m < 18446744073709551616) : bits .or .u64 (bits .and .u64 (m : Int) 127) 128 % 256 = ((m % 128 + 128 : Nat) : Int) := by
  have h1 := bits_and_u64_nat m 127 h (by decide)
  have e : m &&& 127 = m % 128 := Nat.and_two_pow_sub_one_eq_mod m 7
  rw [e] at h1
  have h2 := bits_or_u64_nat (m % 128) 128 (by omega) (by decide)
  rw [or128 _ (by omega)] at h2
  have h1' : bits .and .u64 (m : Int) 127 = ((m % 128 : Nat) : Int) := h1
  have h2' : bits .or .u64 ((m % 128 : Nat) : Int) 128 = ((m % 128 + 128 : Nat) : Int) := h2
  rw [h1', h2']
  omega
theorem vb_u8 (m : Nat) : bits .or .u8 ((m : Int) % 256) 128 = ((m % 128 + 128 : Nat) : Int) := by
  have h2 := or_u8 (m % 256) 128 (by omega) (by decide)
  rw [or128' _ (by omega)] at h2
  have e : ((m : Int) % 256) = ((m % 256 : Nat) : Int) := by omega
  have h2' : bits .or .u8 ((m % 256 : Nat) : Int) 128 = ((m % 256 % 128 + 128 : Nat) : Int) := h2
  rw [e, h2']
  omega
end Go.Proofs.YtganfhmjklcchaaGreat

namespace Go.Proofs.YtganfhmjklcchaaGreat
open Go.RowKit
set_option linter.unusedVariables false
set_option linter.unusedSimpArgs false

theorem vint_len_pow (k : Nat) : ∀ n, n < 128 ^ (k + 1) → (vint n).length ≤ k + 1 := by
  induction k with
  | zero => intro n h; rw [vint_lt (by simpa using h)]; simp
  | succ k ih =>
    intro n h
    by_cases h1 : n < 128
    · rw [vint_lt h1]; simp
    · rw [vint_ge h1]
      have := ih (n / 128) (by rw [Nat.div_lt_iff_lt_mul (by decide)]; rw [Nat.pow_succ] at h; exact h)
      simp; omega
theorem vint_len10 {n : Nat} (h : n < 18446744073709551616) : (vint n).length ≤ 10 := vint_len_pow 9 n (Nat.lt_trans h (by decide))

set_option maxHeartbeats 1000000 in
set_option maxRecDepth 100000 in
theorem rvarint_any (base : Nat) (v : Value) (xs : List Int) (n : Nat) (w : World) (h : Byts base w v xs) (hx : xs.length ≤ 9000000) (hn : n < 18446744073709551616) (hb : base ≤ w.heap.size) :
    Calls Tryz.prog 118 #[v, .int .u64 n] w (VPost base w v (xs ++ vint n)) := by
  have H := Lib.hid h
  have HN := Lib.hid hn
  clear h hn
  go_enter Tryz.func118, Tryz.ntmps118
  go_wp2_with fail
  go_loopw [0, 1] (fun u i wr => ∃ (m : Nat) (ys : List Int), m ≤ n ∧ i = .int .u64 m ∧ Byts base wr u ys ∧ ys ++ vint m = xs ++ vint n ∧ Onto w v u wr) (fun _ i _ => (intOf i).toNat)
  case atStart => exact ⟨n, xs, Nat.le_refl _, rfl, H.out, rfl, Onto.refl _ _⟩
  case round =>
    obtain ⟨m, ys, hm, rfl, hB, he, hO⟩ := hrel
    have hl : ys.length ≤ 9000010 := by
      have h1 := congrArg List.length he
      have h2 := vint_len10 HN.out
      simp at h1
      omega
    have HO := Lib.hid hO
    have HE := Lib.hid he
    have HB := Lib.hid hB
    have hz := hO.1.size
    clear hO he hB
    by_cases hc : 128 ≤ m
    · have HV := Lib.hid (vb_u8 m)
      have HV2 := Lib.hid (vint_ge (n := m) (by omega))
      go_wp2_with (at_builtin; refine wpList_append1 rfl _ _ 22 rfl base Tryz.underlying22 byteInfo rfl (by decide) (v := _) (by rfl) (w0 := _) (cs := #[.int .u8 (bits BinOp.or IntKind.u8 ((m : Int) % 256) 128)]) HB.out (by rfl) rfl (by simp [Value.oneCell']) (by decide) (by omega) (by omega) ?_; intro v1 w1 hv1 hg1 hob1)
      rw [HV.out] at hv1
      have B1 := Lib.hid (Byts.snoc hv1)
      have O1 := Lib.hid (HO.out.trans (onto_ap hg1 hob1))
      clear hv1 hg1 hob1
      go_wp2_with fail
      go_roundw
      case rel => exact ⟨m / 128, ys ++ [((m % 128 + 128 : Nat) : Int)], by omega, by simp, B1.out, by rw [← HE.out, HV2.out]; simp, O1.out⟩
      case measure => simp [intOf]; omega
    · have HV2 := Lib.hid (vint_lt (n := m) (by omega))
      have hd : decide ((128 : Int) ≤ (m : Int)) = false := by simp; omega
      have hd2 : decide (128 ≤ m) = false := by simp; omega
      go_wp2_with (at_builtin; refine wpList_append1 rfl _ _ 22 rfl base Tryz.underlying22 byteInfo rfl (by decide) (v := _) (by rfl) (w0 := _) (cs := #[.int .u8 (m : Int)]) HB.out (by rfl) rfl (by simp [Value.oneCell']) (by decide) (by omega) (by omega) ?_; intro v1 w1 hv1 hg1 hob1)
      have B1 := Lib.hid (Byts.snoc hv1)
      have O1 := Lib.hid (HO.out.trans (onto_ap hg1 hob1))
      clear hv1 hg1 hob1
      go_wp2_with fail
      go_ret
      exact ⟨v1, rfl, by rw [← HE.out, HV2.out]; exact B1.out, O1.out⟩
end Go.Proofs.YtganfhmjklcchaaGreat

namespace Go.Proofs
open Go.Shelf
def Tryz.lays129_ren : Go.Shelf.Ren := ⟨fun | 129 => 137 | n => n, fun | 53 => 97 | 3 => 3 | 4 => 4 | 46 => 129 | 5 => 5 | 9 => 9 | n => n, fun | n => n⟩
theorem Tryz.lays129 : Go.Proofs.Lays.n129 Tryz.prog Tryz.lays129_ren := {
  mixed := by kernel_rfl
  f129 := Tryz.func137.trans (congrArg some (by kernel_rfl))
  t3 := Tryz.underlying3
  a3 := Tryz.isAgg3
  z3 := Tryz.sizeOf3
  v3 := Tryz.zeroValue3
  t4 := Tryz.underlying4
  a4 := Tryz.isAgg4
  z4 := Tryz.sizeOf4
  v4 := Tryz.zeroValue4
  t5 := Tryz.underlying5
  a5 := Tryz.isAgg5
  z5 := Tryz.sizeOf5
  v5 := Tryz.zeroValue5
  t9 := Tryz.underlying9
  a9 := Tryz.isAgg9
  z9 := Tryz.sizeOf9
  v9 := Tryz.zeroValue9
  t46 := Tryz.underlying129
  a46 := Tryz.isAgg129
  z46 := Tryz.sizeOf129
  v46 := Tryz.zeroValue129
  t53 := Tryz.underlying97
  a53 := Tryz.isAgg97
  z53 := Tryz.sizeOf97
  v53 := Tryz.zeroValue97 }
/-- bits.Len64: "Len64 returns the minimum number of bits required to represent x; the result is 0 for x == 0.": IT RETURNS 'Lib.bitLen x'; the world is as it was. ('h0', 'h1': x is a uint64.) (LAID: no walk: one application.) -/
theorem Tryz.bits_Len64 (x : Int) (w : World) (h0 : 0 ≤ x) (h1 : x ≤ 18446744073709551615) :
    Calls Tryz.prog 137 #[.int .u64 x] w fun e w' => e = .returned (.int .i64 (Lib.bitLen x.toNat)) ∧ w' = w := Any.bits_Len64 Tryz.lays129 x w h0 h1
end Go.Proofs
