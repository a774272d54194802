/- group.Rows (printed by mkgrows.py). Condition: sizes. -/
import Derived.Test.YtfkgcighooijhaaGreatDoorJGrpG
import Derived.Test.YtfkgcighooijhaaGreatDoorJCatP
import Derived.Test.YtfkgcighooijhaaGreatDoorJCloneS
import Derived.Test.YtfkgcighooijhaaGreatDoorJCloneI
import Derived.Test.YtfkgcighooijhaaGreatDoorJGColl
import Derived.Test.YtfkgcighooijhaaGreatDoorDrawTime
import Derived.Test.YtfkgcighooijhaaGreatDoorStr
import Derived.Deep.RegionLaw
import Derived.Deep.DeepCutAuto
import Derived.Test.YtfkgcighooijhaaGreatDoorCmpK
import Derived.Test.YtfkgcighooijhaaGreatDoorEvents
import Derived.Test.YtfkgcighooijhaaGreatDoorJFlatAt
namespace Go.Proofs.YtfkgcighooijhaaGreatDoor
open Go.RowKit
set_option linter.unusedVariables false
set_option linter.unusedSimpArgs false

/-- a row of the answer, with the places of its rows -/
structure RwD where
  key : StrR
  nl : List Int
  na : Option Addr
  nc : Nat
def RwD.cells (r : RwD) : List Value := [r.key.val, .slice r.na r.nl.length r.nc, .int .i64 0]
theorem RwD.cells_len (r : RwD) : r.cells.length = 3 := rfl
def RwD.pl (r : RwD) : List ByteArray × List Int := (r.key.l, r.nl)
def RwD.Sub (S : Nat → Prop) (w : World) (r : RwD) : Prop := r.key.In S w ∧ Rd S w r.na (r.nl.map (.int .i64)) ∧ r.nl.length ≤ r.nc ∧ r.nc ≤ maxLen
def Rws (S : Nat → Prop) (w : World) (A : Option Addr) (rs : List RwD) : Prop := Rd S w A (rs.flatMap RwD.cells) ∧ ∀ r ∈ rs, r.Sub S w
section
variable {S S' : Nat → Prop} {w w' : World} {A : Option Addr} {row : Option Nat}
theorem RwD.Sub.grown {r : RwD} (h : r.Sub S w) (hg : w.grownBy w' row) (hr : ∀ b, S b → some b ≠ row) : r.Sub S w' := ⟨h.1.grown hg hr, h.2.1.grown hg hr, h.2.2⟩
theorem RwD.Sub.mono {r : RwD} (h : r.Sub S w) (hS : ∀ b, S b → b < w.heap.size → S' b) : r.Sub S' w := ⟨h.1.mono hS, h.2.1.mono hS, h.2.2⟩
theorem Rws.grown {rs : List RwD} (h : Rws S w A rs) (hg : w.grownBy w' row) (hr : ∀ b, S b → some b ≠ row) : Rws S w' A rs := ⟨h.1.grown hg hr, fun r hr' => (h.2 r hr').grown hg hr⟩
theorem Rws.mono {rs : List RwD} (h : Rws S w A rs) (hS : ∀ b, S b → b < w.heap.size → S' b) : Rws S' w A rs := ⟨h.1.mono hS, fun r hr => (h.2 r hr).mono hS⟩
end
theorem rowInfo37 : (Tryz.prog.info? 49).map (fun i => (i.zero, i.size, i.bytes)) = some (some (.agg #[.slice none 0 0, .slice none 0 0, .int .i64 0]), 3, 56) := by kernel_rfl
theorem rw_one (r : RwD) : ∀ u ∈ r.cells, u.oneCell' = true := by
  intro u hu
  simp only [RwD.cells, StrR.val, List.mem_cons, List.not_mem_nil, or_false] at hu
  rcases hu with rfl | rfl | rfl <;> rfl
/-- a row of rows of the call's own -/
structure RRow (base : Nat) (w : World) (v : Value) (rs : List RwD) : Prop where
  own : w.ownsRow base 49 3 v rs.length (rs.flatMap RwD.cells)
  sub : ∀ p ∈ rs, p.Sub (fun b => base ≤ b ∧ Value.ownBlock v ≠ some b) w
theorem RRow.nil (base : Nat) (w : World) : RRow base w (.slice none 0 0) [] := ⟨World.ownsRow_nil _ _ _ _, by simp⟩
theorem RRow.ext {base : Nat} {w w' : World} {v : Value} {rs : List RwD} (h : RRow base w v rs) (hg : w.grownBy w' none) : RRow base w' v rs := ⟨own_ext h.own hg, fun p hp => (h.sub p hp).grown hg (by simp)⟩
theorem RRow.snoc {base : Nat} {W w : World} {v v' : Value} {rs : List RwD} {r : RwD} (h : RRow base W v rs) (ho : w.ownsRow base 49 3 v' (rs.length + 1) (rs.flatMap RwD.cells ++ r.cells)) (hs : r.Sub (fun b => W.heap.size ≤ b ∧ Value.ownBlock v' ≠ some b) w) (hn : ∀ g, Value.ownBlock v' = some g → Value.ownBlock v = some g ∨ W.heap.size ≤ g)
    (hf : FrN (fun i => Value.ownBlock v = some i) W w) (hb : base ≤ W.heap.size) : RRow base w v' (rs ++ [r]) := by
  refine ⟨by rw [List.length_append, List.flatMap_append]; simpa using ho, fun q hq => ?_⟩
  rcases List.mem_append.1 hq with hq | hq
  · have h1 := (h.sub q hq).mono (S' := fun b => (base ≤ b ∧ Value.ownBlock v ≠ some b) ∧ b < W.heap.size) (fun b hb hlt => ⟨hb, hlt⟩)
    have key : ∀ (A : Option Addr) (xs : List Value), Rd (fun b => (base ≤ b ∧ Value.ownBlock v ≠ some b) ∧ b < W.heap.size) W A xs → Rd (fun b => base ≤ b ∧ Value.ownBlock v' ≠ some b) w A xs := fun A xs hr =>
      (hf.rd hr (fun b hb hB => hb.1.2 hB)).mono (fun b hb _ => ⟨hb.1.1, fun e => by rcases hn b e with h2 | h2; exact hb.1.2 h2; have := hb.2; omega⟩)
    exact ⟨⟨key _ _ h1.1.1, h1.1.2⟩, key _ _ h1.2.1, h1.2.2⟩
  · rw [List.mem_singleton.1 hq]
    exact hs.mono (fun b hb' _ => ⟨Nat.le_trans hb hb'.1, hb'.2⟩)
/-- what is given back -/
def rowP (z : PP) : List ByteArray × List Int := (z.key, z.cs.map (·.t))
def RowsP (w : World) (zs : List PP) (e : Ending) (w' : World) : Prop := ∃ (A : Option Addr) (c : Nat) (rs : List RwD), e = .returned (.slice A rs.length c) ∧ rs.map RwD.pl = zs.map rowP ∧ rs.length ≤ c ∧ c ≤ maxLen ∧ Rws (w.heap.size ≤ ·) w' A rs ∧ w.grownBy w' none
abbrev rArr (ka : Value) (na : Value) : Array Value := #[ka, na, .int .i64 0]
/-- an operation of the chain that is not done: the append neither -/
theorem d9_3 {D : Nat → Bool} {P7 P8 P9 : Prop} (h4 : D 7 = true → (D 3 = true ∧ D 6 = true) ∧ P7) (h5 : D 8 = true → D 7 = true ∧ P8) (h7 : D 9 = true → D 8 = true ∧ P9) (h : D 3 = false) : D 9 = false := by
  cases e : D 9 with
  | false => rfl
  | true => rw [(h4 (h5 (h7 e).1).1).1.1] at h; cases h
theorem d9_6 {D : Nat → Bool} {P7 P8 P9 : Prop} (h4 : D 7 = true → (D 3 = true ∧ D 6 = true) ∧ P7) (h5 : D 8 = true → D 7 = true ∧ P8) (h7 : D 9 = true → D 8 = true ∧ P9) (h : D 6 = false) : D 9 = false := by
  cases e : D 9 with
  | false => rfl
  | true => rw [(h4 (h5 (h7 e).1).1).1.2] at h; cases h
theorem cellF {B : Nat → Prop} {W w : World} {b o : Nat} (h : FrN B W w) (hb : b < W.heap.size) (hB : ¬ B b) : w.cell? ⟨b, o, none⟩ = W.cell? ⟨b, o, none⟩ := h.cell hb hB
/-- the end of the chain: the append of the one row -/
theorem rows_app {W w : World} {base n : Nat} {vO : Value} {xs : List Value} {kl : List ByteArray} {is : List Int} {AK AN : Option Addr} {cK cN b : Nat} (hO : w.ownsRow base 49 3 vO n xs) (hK : FreshS W.heap.size (kl.map .string) kl.length 9 w (.slice AK kl.length cK)) (hN : FreshS W.heap.size (is.map (.int .i64)) is.length 3 w (.slice AN is.length cN))
    (hB : Blk w b 49 (rArr (.slice AK kl.length cK) (.slice AN is.length cN))) (hb : W.heap.size ≤ b) (hv : ∀ g, Value.ownBlock vO = some g → g < W.heap.size) (hn : n ≤ 1000000) (hbase : base ≤ W.heap.size) (hW : W.heap.size ≤ w.heap.size) :
    ∃ v' w', (Builtin.append_ #[43, 43] 43 #[vO, .slice (some ⟨b, 0, none⟩) 1 1]).run Tryz.prog w = .ok v' w' ∧ w.grownBy w' (Value.ownBlock vO) ∧
      ∃ r : RwD, r.pl = (kl, is) ∧ w'.ownsRow base 49 3 v' (n + 1) (xs ++ r.cells) ∧ r.Sub (fun b => W.heap.size ≤ b ∧ Value.ownBlock v' ≠ some b) w' ∧ ∀ g, Value.ownBlock v' = some g → Value.ownBlock vO = some g ∨ W.heap.size ≤ g := by
  obtain ⟨A1, c1, e1, k1, k2, k3⟩ := hK
  injection e1 with e1 _ e3
  subst e1 e3
  obtain ⟨A2, c2, e1, n1, n2, n3⟩ := hN
  injection e1 with e1 _ e3
  subst e1 e3
  have hs : (RwD.mk ⟨kl, AK, cK⟩ is AN cN).Sub (W.heap.size ≤ ·) w := ⟨strR_of (rd_ownG k3) k1 k2, rd_ownG n3, n1, n2⟩
  obtain ⟨v', w', hr, ho, hg, hb'⟩ := run_appendN (P := Tryz.prog) base 43 43 Tryz.underlying43 rowInfo37 rfl (by decide) hO (S := fun _ => True) (some ⟨b, 0, none⟩) 1 1 (news := (RwD.mk ⟨kl, AK, cK⟩ is AN cN).cells) (fun _ => ⟨b, 0, rfl, trivial, hB.lt, fun j x hx => by rw [Nat.zero_add, hB.cell j]; simpa [RwD.cells, StrR.val] using hx⟩) rfl (rw_one _) (by decide) (by omega) (by omega)
  have y2' := hs.mono (S' := fun b => W.heap.size ≤ b ∧ b < w.heap.size) (fun b hb hlt => ⟨hb, hlt⟩)
  refine ⟨v', w', hr, hg, _, rfl, ho, (y2'.grown hg (fun b hbb e => by have := hv b e.symm; have := hbb.1; omega)).mono (fun b hbb _ => ⟨hbb.1, fun e => ?_⟩), fun g hg' => ?_⟩
  · rcases hb' with h2 | h2
    · rw [h2] at e; have := hv b e; have := hbb.1; omega
    · rw [h2] at e; injection e with e; have := hbb.2; omega
  · rcases hb' with h2 | h2
    · rw [h2] at hg'; exact .inl hg'
    · rw [h2] at hg'; injection hg' with hg'; exact .inr (by omega)
set_option maxHeartbeats 16000000 in
set_option maxRecDepth 100000 in
theorem grows_any {S : Nat → Prop} (Aa : Option Addr) (na ca : Nat) (A : Option Addr) (ps : List PD) (c : Nat) (w0 : World) (hA : PDs S w0 A ps) (hl : ps.length ≤ 100000) (hko : ∀ p ∈ ps, p.cs.length ≤ 1000 ∧ p.key.l.length ≤ 100000) :
    Calls Tryz.prog 14 #[.slice Aa na ca, .slice A ps.length c] w0 (RowsP w0 (ps.map PD.pl)) := by
  have HA := Lib.hid hA
  have HKO := Lib.hid hko
  clear hA hko
  go_enter Tryz.func14, Tryz.ntmps14
  go_wp2_with fail
  go_loopw [10, 5] (fun v1 v2 wr => ∃ (k : Nat) (rs : List RwD), v1 = .int .i64 k ∧ k ≤ ps.length ∧ rs.length = k ∧ rs.map RwD.pl = (ps.take k).map (fun p => rowP p.pl) ∧ RRow w0.heap.size wr v2 rs ∧ w0.grownBy wr none) (fun v1 _ _ => ps.length - (intOf v1).toNat)
  case atStart => exact ⟨0, [], rfl, Nat.zero_le _, rfl, rfl, RRow.nil _ _, only_refl _ _⟩
  case round =>
    obtain ⟨k, rs, rfl, hk, hrl, hR, hO, hG⟩ := hrel
    have HR := Lib.hid hR
    have OO := Lib.hid hO
    have G := Lib.hid hG
    have HRL := Lib.hid hrl
    have hrl' : rs.length ≤ 100000 := by omega
    have hbase : w0.heap.size ≤ wr.heap.size := hG.size
    clear hR hO hG hrl
    obtain ⟨vO, hvOd⟩ : ∃ v, v = u5 := ⟨_, rfl⟩
    rw [← hvOd] at OO ⊢
    clear hvOd
    by_cases hlt : k < ps.length
    · obtain ⟨x, hx⟩ : ∃ x, ps[k]? = some x := ⟨_, List.getElem?_eq_getElem hlt⟩
      have hxs := (HA.out.2 x (List.mem_of_getElem? hx)).grown G.out (by simp)
      have hxo := HKO.out x (List.mem_of_getElem? hx)
      obtain ⟨bA, oA, eA, hbA, a0, a1, a2, a3⟩ := pd_in (HA.out.1.grown G.out (by simp)) hx
      subst eA
      have HNX : Hid ((ps.take (k + 1)).map (fun p => rowP p.pl) = (ps.take k).map (fun p => rowP p.pl) ++ [(x.key.l, x.cs.map (·.t))]) := Lib.hid (by
        obtain ⟨h1, e⟩ := List.getElem?_eq_some_iff.1 hx
        rw [List.take_succ_eq_append_getElem h1, e, List.map_append]
        simp [rowP, PD.pl, CM.pl])
      obtain ⟨h1, h2, -, -, -, -, -, -, -, -, -, h6, -⟩ := hxs
      have hko := hxo.2
      have hcs := hxo.1
      have KC : Hid (∀ w', wr.grownBy w' none → Calls Tryz.prog 35 #[.slice x.key.a x.key.l.length x.key.c] w' (CloneSPost w' x.key.l.length (x.key.l.map .string))) := Lib.hid (fun w' hg => cloneS_any _ _ _ (x.key.l.map .string) w' (h1.1.grown hg (by simp)) (by simp) (by omega) (by intro u hu; obtain ⟨s, -, rfl⟩ := List.mem_map.1 hu; rfl) h1.2.2.2)
      have KT : Hid (∀ w', wr.grownBy w' none → Calls Tryz.prog 36 #[.slice x.ta x.cs.length x.tc] w' (CloneIPost w' x.cs.length ((x.cs.map (·.t)).map (.int .i64)))) := Lib.hid (fun w' hg => by
        rw [List.map_map]
        exact cloneI_any _ _ _ (tOf x.cs) w' (h2.grown hg (by simp)) (by unfold tOf; simp) (by omega) (by intro u hu; obtain ⟨s, -, rfl⟩ := List.mem_map.1 hu; rfl) h6)
      obtain ⟨is, his⟩ : ∃ l, l = x.cs.map (·.t) := ⟨_, rfl⟩
      have hil : x.cs.length = is.length := by rw [his, List.length_map]
      rw [← his] at KT HNX
      rw [hil] at KT a1 a2 a3
      obtain ⟨kl, hkl⟩ : ∃ l, l = x.key.l := ⟨_, rfl⟩
      obtain ⟨ka, hka⟩ : ∃ l, l = x.key.a := ⟨_, rfl⟩
      obtain ⟨kc, hkc⟩ : ∃ l, l = x.key.c := ⟨_, rfl⟩
      obtain ⟨ta, hta⟩ : ∃ l, l = x.ta := ⟨_, rfl⟩
      obtain ⟨tc, htc⟩ : ∃ l, l = x.tc := ⟨_, rfl⟩
      obtain ⟨sa, hsa⟩ : ∃ l, l = x.sa := ⟨_, rfl⟩
      obtain ⟨sc, hsc⟩ : ∃ l, l = x.sc := ⟨_, rfl⟩
      obtain ⟨va, hva⟩ : ∃ l, l = x.va := ⟨_, rfl⟩
      obtain ⟨vc, hvc⟩ : ∃ l, l = x.vc := ⟨_, rfl⟩
      rw [← hkl] at HNX KC a0
      rw [← hka, ← hkc] at KC a0
      rw [← hta, ← htc] at KT a1
      rw [← hsa, ← hsc] at a2
      rw [← hva, ← hvc] at a3
      have j1 : (k : Int) < (ps.length : Int) := by omega
      clear hx hxo h1 h2 h6 hko hcs his hil hkl hka hkc hta htc hsa hsc hva hvc
      go_upto_region 5 with fail
      obtain ⟨W, hW⟩ : ∃ W, W = wr.alloc (.cells #[.slice ka kl.length kc, .slice ta is.length tc, .slice sa is.length sc, .slice va is.length vc] 69) := ⟨_, rfl⟩
      have hP : Blk W wr.heap.size 69 #[.slice ka kl.length kc, .slice ta is.length tc, .slice sa is.length sc, .slice va is.length vc] := by rw [hW]; exact Blk.new wr _ _
      have GW : Hid (wr.grownBy W none) := Lib.hid (by rw [hW]; exact only_alloc (only_refl wr none) _)
      rw [← hW]
      obtain ⟨pa, hpad⟩ : ∃ pa, pa = wr.heap.size := ⟨_, rfl⟩
      rw [← hpad] at hP ⊢
      have p0 := hP.cell 0; have p1 := hP.cell 1
      simp at p0 p1
      have hpa : pa < W.heap.size := hP.lt
      have hvO : ∀ g, Value.ownBlock vO = some g → g < W.heap.size := fun g hg => Nat.lt_of_lt_of_le (OO.out.own.lt g hg).2 GW.out.size
      have hbW : w0.heap.size ≤ W.heap.size := Nat.le_trans hbase GW.out.size
      have ho3 : Hid (RRow w0.heap.size W vO rs) := Lib.hid (OO.out.ext GW.out)
      replace KC : Hid (∀ w', W.grownBy w' none → Calls Tryz.prog 35 #[.slice ka kl.length kc] w' (CloneSPost w' kl.length (kl.map .string))) := Lib.hid (fun w' hg => KC.out w' (only_trans GW.out hg))
      replace KT : Hid (∀ w', W.grownBy w' none → Calls Tryz.prog 36 #[.slice ta is.length tc] w' (CloneIPost w' is.length (is.map (.int .i64)))) := Lib.hid (fun w' hg => KT.out w' (only_trans GW.out hg))
      have HRO := Lib.hid ho3.out.own
      have hpO : ¬ (Value.ownBlock vO = some pa) := fun e => by have := (OO.out.own.lt _ e).2; omega
      clear hW hP hpad a0 a1 a2 a3 hbA
      refine wp_region_gen 10 (JC [some (vO), some (.pointer (some ⟨pa, 0, none⟩)), some (.slice ka kl.length kc), none, some (.pointer (some ⟨pa, 1, none⟩)), some (.slice ta is.length tc), none, none, none, none] (fun D u w => FrN (fun i => Value.ownBlock vO = some i) W w ∧ (D 3 = true → D 9 = false → FreshS W.heap.size (kl.map .string) kl.length 9 w (u 3)) ∧ (D 6 = true → D 9 = false → FreshS W.heap.size (is.map (.int .i64)) is.length 3 w (u 6)) ∧ (D 7 = true → (D 3 = true ∧ D 6 = true) ∧ u 7 = .agg (rArr (u 3) (u 6))) ∧ (D 8 = true → D 7 = true ∧ (D 9 = false → ∃ b, u 8 = .slice (some ⟨b, 0, none⟩) 1 1 ∧ W.heap.size ≤ b ∧ Blk w b 49 (rArr (u 3) (u 6)))) ∧ (D 9 = false → W.grownBy w none ∧ w.ownsRow w0.heap.size 49 3 vO rs.length (rs.flatMap RwD.cells)) ∧ (D 9 = true → D 8 = true ∧ ∃ r : RwD, r.pl = (kl, is) ∧ w.ownsRow w0.heap.size 49 3 (u 9) (rs.length + 1) (rs.flatMap RwD.cells ++ r.cells) ∧ r.Sub (fun b => W.heap.size ≤ b ∧ Value.ownBlock (u 9) ≠ some b) w ∧ ∀ g, Value.ownBlock (u 9) = some g → Value.ownBlock vO = some g ∨ W.heap.size ≤ g))) (by kernel_rfl) (by kernel_rfl) ?_ ?_ ?_
      · intro u
        exact ⟨(fun j c _ h => by cases h), FrN.refl _ _, (fun h => by cases h), (fun h => by cases h), (fun h => by cases h), (fun h => by cases h), fun _ => ⟨only_drew (only_refl _ _), HRO.out⟩, (fun h => by cases h)⟩
      · intro AA hA
        have hasz : AA.tmps.size = 26 := by rw [hA]; kernel_rfl
        have ea5 : AA.eval (.tmp 5) = vO := by rw [hA]; kernel_rfl
        have ea7 : AA.eval (.tmp 7) = .pointer (some ⟨pa, 0, none⟩) := by rw [hA]; kernel_rfl
        clear hA
        simp only [List.take_succ_cons, List.take_zero]
        refine .cons ?_ (.cons ?_ (.cons ?_ (.cons ?_ (.cons ?_ (.cons ?_ (.cons ?_ (.cons ?_ (.cons ?_ (.cons ?_ (.nil))))))))))
        · exact gd_gen (by kernel_rfl) (Want.none_ rfl) rfl (fun D u w v h => by simpa [updB, upd] using h) (fun D u ρ w kn => by
            have e0 := kn.own 5 (c := vO) (by kernel_rfl) ea5
            simp [execOp, kn.rho.con, e0, go_sem])
        · exact gd_gen (by kernel_rfl) (Want.none_ rfl) rfl (fun D u w v h => by simpa [updB, upd] using h) (fun D u ρ w kn => by
            have e0 := kn.own 7 (c := .pointer (some ⟨pa, 0, none⟩)) (by kernel_rfl) ea7
            simp [execOp, kn.rho.con, e0, go_sem])
        · exact gd_gen (by kernel_rfl) (Want.none_ rfl) rfl (fun D u w v h => by simpa [updB, upd] using h) (fun D u ρ w kn => by
            have e0 := kn.con 1 15 (c := .pointer (some ⟨pa, 0, none⟩)) (by kernel_rfl) (by omega) (by kernel_rfl) rfl
            have f0 := (cellF kn.ext.1 hpa hpO).trans p0
            simp [execOp, kn.rho.con, e0, f0, go_sem])
        · refine gd_call (by kernel_rfl) (Want.none_ rfl) 35 (fun D u ρ w kn hD => ?_)
          have e0 := kn.con 2 16 (c := .slice ka kl.length kc) (by kernel_rfl) (by omega) (by kernel_rfl) rfl
          refine ⟨#[.slice ka kl.length kc], ?_, (KC.out w (kn.ext.2.2.2.2.2.1 (d9_3 kn.ext.2.2.2.1 kn.ext.2.2.2.2.1 kn.ext.2.2.2.2.2.2 hD)).1).mono ?_⟩
          · simp only [execOp, resolve, Deferred.ofValue, List.map_toArray, List.map_cons, List.map_nil, e0, kn.rho.con, kn.rho.fn]
            simp [go_sem]
          · rintro e w' ⟨A1, c1, rfl, ho1, hg⟩
            obtain ⟨x1, x2, x3, x4, x5, x6, x7⟩ := kn.ext
            have d9 := d9_3 x4 x5 x7 hD
            have d8 : D 8 = false := by cases h : D 8 with | false => rfl | true => have := (x4 (x5 h).1).1.1; rw [hD] at this; cases this
            have d7 : D 7 = false := by cases h : D 7 with | false => rfl | true => have := (x4 h).1.1; rw [hD] at this; cases this
            exact ⟨_, rfl, (fun c h => by injection h with h; cases h), x1.grow hg (by simp), fun _ _ => by rw [upd_at]; exact FreshS.of ho1 (x6 d9).1.size, fun h h9 => by rw [updB_ne D (by omega)] at h h9; rw [upd_ne u _ (by omega)]; exact (x3 h h9).grown hg, (fun h => by rw [updB_ne D (by omega)] at h; rw [d7] at h; cases h), (fun h => by rw [updB_ne D (by omega)] at h; rw [d8] at h; cases h), fun _ => ⟨only_trans (x6 d9).1 hg, own_ext (x6 d9).2 hg⟩, (fun h => by rw [updB_ne D (by omega)] at h; rw [d9] at h; cases h)⟩
        · exact gd_gen (by kernel_rfl) (Want.none_ rfl) rfl (fun D u w v h => by simpa [updB, upd] using h) (fun D u ρ w kn => by
            have e0 := kn.own 7 (c := .pointer (some ⟨pa, 0, none⟩)) (by kernel_rfl) ea7
            simp [execOp, kn.rho.con, e0, go_sem])
        · exact gd_gen (by kernel_rfl) (Want.none_ rfl) rfl (fun D u w v h => by simpa [updB, upd] using h) (fun D u ρ w kn => by
            have e0 := kn.con 4 18 (c := .pointer (some ⟨pa, 1, none⟩)) (by kernel_rfl) (by omega) (by kernel_rfl) rfl
            have f0 := (cellF kn.ext.1 hpa hpO).trans p1
            simp [execOp, kn.rho.con, e0, f0, go_sem])
        · refine gd_call (by kernel_rfl) (Want.none_ rfl) 36 (fun D u ρ w kn hD => ?_)
          have e0 := kn.con 5 19 (c := .slice ta is.length tc) (by kernel_rfl) (by omega) (by kernel_rfl) rfl
          refine ⟨#[.slice ta is.length tc], ?_, (KT.out w (kn.ext.2.2.2.2.2.1 (d9_6 kn.ext.2.2.2.1 kn.ext.2.2.2.2.1 kn.ext.2.2.2.2.2.2 hD)).1).mono ?_⟩
          · simp only [execOp, resolve, Deferred.ofValue, List.map_toArray, List.map_cons, List.map_nil, e0, kn.rho.con, kn.rho.fn]
            simp [go_sem]
          · rintro e w' ⟨A1, c1, rfl, ho1, hg⟩
            obtain ⟨x1, x2, x3, x4, x5, x6, x7⟩ := kn.ext
            have d9 := d9_6 x4 x5 x7 hD
            have d8 : D 8 = false := by cases h : D 8 with | false => rfl | true => have := (x4 (x5 h).1).1.2; rw [hD] at this; cases this
            have d7 : D 7 = false := by cases h : D 7 with | false => rfl | true => have := (x4 h).1.2; rw [hD] at this; cases this
            exact ⟨_, rfl, (fun c h => by injection h with h; cases h), x1.grow hg (by simp), fun h h9 => by rw [updB_ne D (by omega)] at h h9; rw [upd_ne u _ (by omega)]; exact (x2 h h9).grown hg, fun _ _ => by rw [upd_at]; exact FreshS.of ho1 (x6 d9).1.size, (fun h => by rw [updB_ne D (by omega)] at h; rw [d7] at h; cases h), (fun h => by rw [updB_ne D (by omega)] at h; rw [d8] at h; cases h), fun _ => ⟨only_trans (x6 d9).1 hg, own_ext (x6 d9).2 hg⟩, (fun h => by rw [updB_ne D (by omega)] at h; rw [d9] at h; cases h)⟩
        · refine gd_eff (by kernel_rfl) (Want.none_ rfl) (fun D u ρ w kn hD => ?_)
          have e0 := kn.slot 3 17 (by kernel_rfl) (by omega)
          have e1 := kn.slot 6 20 (by kernel_rfl) (by omega)
          have d3 := kn.dep 3 (by kernel_rfl)
          have d6 := kn.dep 6 (by kernel_rfl)
          obtain ⟨x1, x2, x3, x4, x5, x6, x7⟩ := kn.ext
          have d8 : D 8 = false := by cases h : D 8 with | false => rfl | true => have := (x5 h).1; rw [hD] at this; cases this
          have d9 : D 9 = false := by cases h : D 9 with | false => rfl | true => have := (x7 h).1; rw [d8] at this; cases this
          obtain ⟨A2, c2, y2, -⟩ := x2 d3 d9
          obtain ⟨A5, c5, y5, -⟩ := x3 d6 d9
          rw [y2] at e0
          rw [y5] at e1
          refine ⟨.agg (rArr (u 3) (u 6)), w, by rw [y2, y5]; simp [execOp, kn.rho.con, e0, e1, go_sem], (fun c h => by injection h with h; cases h), x1, fun h h9 => by rw [upd_ne u _ (by omega)]; exact x2 d3 d9, fun h h9 => by rw [upd_ne u _ (by omega)]; exact x3 d6 d9, fun _ => ⟨⟨by rw [updB_ne D (by omega)]; exact d3, by rw [updB_ne D (by omega)]; exact d6⟩, by rw [upd_at, upd_ne u _ (by omega), upd_ne u _ (by omega)]⟩, (fun h => by rw [updB_ne D (by omega)] at h; rw [d8] at h; cases h), fun _ => x6 d9, (fun h => by rw [updB_ne D (by omega)] at h; rw [d9] at h; cases h)⟩
        · refine gd_eff (by kernel_rfl) (Want.none_ rfl) (fun D u ρ w kn hD => ?_)
          have e0 := kn.slot 7 21 (by kernel_rfl) (by omega)
          have d7 := kn.dep 7 (by kernel_rfl)
          obtain ⟨x1, x2, x3, x4, x5, x6, x7⟩ := kn.ext
          have d9 : D 9 = false := by cases h : D 9 with | false => rfl | true => have := (x7 h).1; rw [hD] at this; cases this
          rw [(x4 d7).2] at e0
          have hg : w.grownBy (w.alloc (.cells (rArr (u 3) (u 6)) 49)) none := World.grownBy_alloc w _ none
          obtain ⟨A2, c2, y2, -⟩ := x2 (x4 d7).1.1 d9
          obtain ⟨A5, c5, y5, -⟩ := x3 (x4 d7).1.2 d9
          refine ⟨.slice (some ⟨w.heap.size, 0, none⟩) 1 1, w.alloc (.cells (rArr (u 3) (u 6)) 49), by rw [y2, y5] at e0 ⊢; simp [execOp, kn.rho.con, e0, go_sem], (fun c h => by injection h with h; cases h), x1.alloc _, fun h h9 => by rw [updB_ne D (by omega)] at h; rw [upd_ne u _ (by omega)]; exact (x2 h d9).grown hg, fun h h9 => by rw [updB_ne D (by omega)] at h; rw [upd_ne u _ (by omega)]; exact (x3 h d9).grown hg, fun _ => ⟨⟨by rw [updB_ne D (by omega)]; exact (x4 d7).1.1, by rw [updB_ne D (by omega)]; exact (x4 d7).1.2⟩, by rw [upd_ne u _ (by omega), upd_ne u _ (by omega), upd_ne u _ (by omega)]; exact (x4 d7).2⟩, fun _ => ⟨by rw [updB_ne D (by omega)]; exact d7, fun _ => ⟨w.heap.size, by rw [upd_at], (x6 d9).1.size, by rw [upd_ne u _ (by omega), upd_ne u _ (by omega)]; exact Blk.new _ _ _⟩⟩, fun _ => ⟨only_trans (x6 d9).1 hg, own_ext (x6 d9).2 hg⟩, (fun h => by rw [updB_ne D (by omega)] at h; rw [d9] at h; cases h)⟩
        · refine gd_eff (by kernel_rfl) (Want.none_ rfl) (fun D u ρ w kn hD => ?_)
          have e0 := kn.con 0 14 (c := vO) (by kernel_rfl) (by omega) (by kernel_rfl) rfl
          have e1 := kn.slot 8 22 (by kernel_rfl) (by omega)
          have d8 := kn.dep 8 (by kernel_rfl)
          obtain ⟨x1, x2, x3, x4, x5, x6, x7⟩ := kn.ext
          obtain ⟨d7, y8⟩ := x5 d8
          obtain ⟨b, z1, z2, z3⟩ := y8 hD
          obtain ⟨⟨d3, d6⟩, e7⟩ := x4 d7
          have y3 := x2 d3 hD
          have y6 := x3 d6 hD
          obtain ⟨A2, c2, q2, -⟩ := x2 d3 hD
          obtain ⟨A5, c5, q5, -⟩ := x3 d6 hD
          rw [q2] at y3 z3
          rw [q5] at y6 z3
          obtain ⟨v', w', hr, hg, hR⟩ := rows_app (W := W) (x6 hD).2 y3 y6 z3 z2 hvO (by omega) hbW (x6 hD).1.size
          rw [← z1] at hr
          exact ⟨v', w', exec_append rfl e0 e1 hr, (fun c h => by injection h with h; cases h), x1.grow hg (fun g hg => .inl hg), (fun _ h => by rw [updB_at] at h; cases h), (fun _ h => by rw [updB_at] at h; cases h), fun _ => ⟨⟨by rw [updB_ne D (by omega)]; exact d3, by rw [updB_ne D (by omega)]; exact d6⟩, by rw [upd_ne u _ (by omega), upd_ne u _ (by omega), upd_ne u _ (by omega)]; exact e7⟩, fun _ => ⟨by rw [updB_ne D (by omega)]; exact d7, (fun h => by rw [updB_at] at h; cases h)⟩, (fun h => by rw [updB_at] at h; cases h), fun _ => ⟨by rw [updB_ne D (by omega)]; exact d8, by rw [upd_at]; exact hR⟩⟩
      · intro D u w5 hJ hD
        obtain ⟨hc, x1, x2, x3, x4, x5, x6, x7⟩ := hJ
        obtain ⟨-, r, hr, hown, hsub, hnew⟩ := x7 (hD 9 (by omega))
        obtain ⟨AO, cO, hv5, -, -, -, -⟩ := Rd.of_own hown (by decide)
        simp only [List.take_succ_cons, List.take_zero, List.drop_succ_cons, List.drop_zero, putAll]
        rw [hv5] at hown hsub hnew ⊢
        have OUT := Lib.hid (ho3.out.snoc hown hsub hnew x1 hbW)
        have G5 : Hid (w0.grownBy w5 none) := Lib.hid (x1.none_ (only_trans G.out GW.out) (fun i hi => (ho3.out.own.lt i hi).1))
        have HR5 : Hid ((rs ++ [r]).map RwD.pl = (ps.take (k + 1)).map (fun p => rowP p.pl)) := Lib.hid (by rw [HNX.out, List.map_append, HR.out, List.map_singleton, hr])
        have HL5 : Hid ((rs ++ [r]).length = k + 1) := Lib.hid (by have := HRL.out; simp; omega)
        have hll : (rs ++ [r]).length = rs.length + 1 := by simp
        clear hc x1 x2 x3 x4 x5 x6 x7 hown hsub hnew hv5 hr hD KC KT p0 p1
        go_wp2_with fail
        go_roundw
        case rel => exact ⟨k + 1, rs ++ [r], by go_num, by omega, HL5.out, HR5.out, OUT.out, G5.out⟩
        case measure => simp [intOf]; omega
    · have j1 : ¬ (k : Int) < (ps.length : Int) := by omega
      obtain ⟨AO, cO, hv5, hv1, hv2, -, hv3⟩ := Rd.of_own OO.out.own (by decide)
      rw [hv5] at OO ⊢
      have HV : Hid (rs.length ≤ cO ∧ cO ≤ maxLen) := Lib.hid ⟨hv1, hv2⟩
      clear hv1 hv2
      have hR2 : rs.map RwD.pl = (ps.map PD.pl).map rowP := by
        rw [HR.out, List.take_of_length_le (by omega), List.map_map]; rfl
      have HR2 := Lib.hid hR2
      have HV3 := Lib.hid hv3
      clear hR2 hv5 hv3
      go_wp2_with fail
      go_ret
      exact ⟨AO, cO, rs, rfl, HR2.out, HV.out.1, HV.out.2, ⟨HV3.out, fun r hr => (OO.out.sub r hr).mono (fun b hb _ => hb.1)⟩, G.out⟩
end Go.Proofs.YtfkgcighooijhaaGreatDoor

namespace Go.Proofs.YtfkgcighooijhaaGreatDoor
open Go.RowKit
set_option linter.unusedVariables false
set_option linter.unusedSimpArgs false

def cntAgs : List AggD := [⟨0, ⟨#[]⟩⟩, ⟨4, ⟨#[117, 115, 101, 114]⟩⟩, ⟨2, ⟨#[109, 115]⟩⟩, ⟨3, ⟨#[109, 115]⟩⟩]
def InvC (n : Nat) (cs : List CD) : Prop := ∃ c0 c1 c2 c3 : CD, cs = [c0, c1, c2, c3] ∧ c0.s = true ∧ 0 ≤ c0.t ∧ c1.t = c1.v.length ∧ c1.v.length ≤ n ∧ c2.s = c3.s ∧ c2.t ≤ c3.t
theorem InvC.up {n m : Nat} {cs : List CD} (h : InvC n cs) (hm : n ≤ m) : InvC m cs := by
  obtain ⟨c0, c1, c2, c3, h1, h2, h3, h4, h5, h6, h7⟩ := h
  exact ⟨c0, c1, c2, c3, h1, h2, h3, h4, by omega, h6, h7⟩
theorem invC_one {e : Ev} (hw : 0 ≤ e.weight) : InvC 1 (cntAgs.map (fun a => oneC a e)) := by
  refine ⟨_, _, _, _, rfl, by simp [oneC], by simpa [oneC] using hw, ?_, ?_, ?_, ?_⟩
  · simp only [oneC]; split <;> simp_all <;> split <;> simp_all
  · exact oneC_v _ _
  · simp only [oneC]; cases numOf e ⟨#[109, 115]⟩ <;> simp
  · simp only [oneC]; cases numOf e ⟨#[109, 115]⟩ <;> simp
theorem minmax {x y p q : CD} (h1 : x.s = y.s) (h2 : x.t ≤ y.t) (h3 : p.s = q.s) (h4 : p.t ≤ q.t) : (chosenC minI x p).s = (chosenC maxI y q).s ∧ (chosenC minI x p).t ≤ (chosenC maxI y q).t := by
  unfold chosenC
  rw [h1, h3]
  cases hy : y.s <;> cases hq : q.s <;> simp [minI, maxI, hy, hq, h1, h3] <;> (repeat' split) <;> omega
/-- the count of the first cell -/
def hdT : List CD → Int
  | [] => 0
  | c :: _ => c.t
theorem invC_join {n m : Nat} {xs ys : List CD} (hx : InvC n xs) (hy : InvC m ys) (hb : hdT xs + hdT ys ≤ 1000000) : InvC (n + m) (joinL cntAgs xs ys) ∧ hdT (joinL cntAgs xs ys) = hdT xs + hdT ys := by
  obtain ⟨a0, a1, a2, a3, rfl, a4, a5, a6, a7, a8, a9⟩ := hx
  obtain ⟨b0, b1, b2, b3, rfl, b4, b5, b6, b7, b8, b9⟩ := hy
  have hb' : a0.t + b0.t ≤ 1000000 := hb
  have hw : addW a0.t b0.t = a0.t + b0.t := wrap64_id (by unfold I64; omega)
  have h0 : joinC 0 a0 b0 = ⟨a0.t + b0.t, true, []⟩ := by simp [joinC, chosenC, a4, b4, hw]
  obtain ⟨m1, m2⟩ := minmax a8 a9 b8 b9
  have hu : (uniC a1 b1).v.length ≤ a1.v.length + b1.v.length := by
    show (dist (a1.v ++ b1.v)).length ≤ _
    have := dist_len (a1.v ++ b1.v)
    rw [List.length_append] at this; exact this
  refine ⟨⟨joinC 0 a0 b0, uniC a1 b1, chosenC minI a2 b2, chosenC maxI a3 b3, by simp [joinL, cntAgs, joinC], by rw [h0], by rw [h0]; show 0 ≤ a0.t + b0.t; omega, rfl, by omega, m1, m2⟩, ?_⟩
  show (joinC 0 a0 b0).t = _
  rw [h0]; rfl
def sumT (zs : List PP) : Int := (zs.map (fun z => hdT z.cs)).sum
theorem sumT_cons (z : PP) (zs : List PP) : sumT (z :: zs) = hdT z.cs + sumT zs := by simp [sumT]
theorem hdT_pos {n : Nat} {cs : List CD} (h : InvC n cs) : 0 ≤ hdT cs := by
  obtain ⟨c0, c1, c2, c3, rfl, -, h3, -⟩ := h
  exact h3
theorem sumT_pos {f : List ByteArray → Nat} : ∀ {zs : List PP}, (∀ z ∈ zs, InvC (f z.key) z.cs ∧ 1 ≤ f z.key) → 0 ≤ sumT zs
  | [], _ => by simp [sumT]
  | z :: zs, h => by
    rw [sumT_cons]
    have h1 := hdT_pos (h z (List.mem_cons_self ..)).1
    have h2 := sumT_pos (zs := zs) (fun y hy => h y (List.mem_cons_of_mem _ hy))
    omega
theorem merge_inv {f g : List ByteArray → Nat} : ∀ {a b : List PP}, (∀ z ∈ a, InvC (f z.key) z.cs ∧ 1 ≤ f z.key) → (∀ z ∈ b, InvC (g z.key) z.cs ∧ 1 ≤ g z.key) → sumT a + sumT b ≤ 1000000 →
    (∀ z ∈ mergeP cntAgs a b, InvC (f z.key + g z.key) z.cs ∧ 1 ≤ f z.key + g z.key) ∧ sumT (mergeP cntAgs a b) = sumT a + sumT b
  | [], b, _, hb, _ => by rw [mergeP]; exact ⟨fun z hz => ⟨(hb z hz).1.up (by omega), by have := (hb z hz).2; omega⟩, by simp [sumT]⟩
  | x :: xs, [], ha, _, _ => by rw [mergeP]; exact ⟨fun z hz => ⟨(ha z hz).1.up (by omega), by have := (ha z hz).2; omega⟩, by simp [sumT]⟩
  | x :: xs, y :: ys, ha, hb, hs => by
    have a1 := ha x (List.mem_cons_self ..)
    have b1 := hb y (List.mem_cons_self ..)
    have a2 : ∀ z ∈ xs, InvC (f z.key) z.cs ∧ 1 ≤ f z.key := fun q hq => ha q (List.mem_cons_of_mem _ hq)
    have b2 : ∀ z ∈ ys, InvC (g z.key) z.cs ∧ 1 ≤ g z.key := fun q hq => hb q (List.mem_cons_of_mem _ hq)
    have px := hdT_pos a1.1
    have py := hdT_pos b1.1
    have sx := sumT_pos a2
    have sy := sumT_pos b2
    rw [sumT_cons, sumT_cons] at hs
    rcases ltK_cases x.key y.key with h1 | h1 | h1
    · rw [mergeP_lt h1]
      have ih := merge_inv a2 hb (by rw [sumT_cons]; omega)
      refine ⟨fun z hz => ?_, by rw [sumT_cons, ih.2, sumT_cons x xs]; omega⟩
      rcases List.mem_cons.1 hz with rfl | hz
      · exact ⟨a1.1.up (by omega), by omega⟩
      · exact ih.1 z hz
    · rw [mergeP_eq h1]
      have ih := merge_inv a2 b2 (by omega)
      have hj := invC_join a1.1 b1.1 (by omega)
      refine ⟨fun z hz => ?_, by rw [sumT_cons, ih.2, sumT_cons, sumT_cons]; show hdT (joinL cntAgs x.cs y.cs) + _ = _; rw [hj.2]; omega⟩
      rcases List.mem_cons.1 hz with rfl | hz
      · refine ⟨?_, by have := a1.2; show 1 ≤ f x.key + _; omega⟩
        have := hj.1
        rw [← h1] at this
        exact this
      · exact ih.1 z hz
    · rw [mergeP_gt h1]
      have ih := merge_inv ha b2 (by rw [sumT_cons]; omega)
      refine ⟨fun z hz => ?_, by rw [sumT_cons, ih.2, sumT_cons y ys]; omega⟩
      rcases List.mem_cons.1 hz with rfl | hz
      · exact ⟨b1.1.up (by omega), by omega⟩
      · exact ih.1 z hz
termination_by a b => a.length + b.length
/-- how many events have a key -/
def nOf (ns : List ByteArray) (l : List Ev) (k : List ByteArray) : Nat := (l.filter (fun e => cmpK (keyOf_ ns e) k == 0)).length
theorem nOf_cons (ns : List ByteArray) (e : Ev) (l : List Ev) (k : List ByteArray) : nOf ns (e :: l) k = (if cmpK (keyOf_ ns e) k = 0 then 1 else 0) + nOf ns l k := by
  unfold nOf
  rw [List.filter_cons]
  by_cases h : cmpK (keyOf_ ns e) k = 0 <;> simp [h]
  omega
def wSum (l : List Ev) : Int := (l.map (·.weight)).sum
theorem wSum_pos : ∀ {l : List Ev}, (∀ e ∈ l, 0 ≤ e.weight) → 0 ≤ wSum l
  | [], _ => by simp [wSum]
  | e :: l, h => by
    have h1 := h e (List.mem_cons_self ..)
    have h2 := wSum_pos (l := l) (fun y hy => h y (List.mem_cons_of_mem _ hy))
    have : wSum (e :: l) = e.weight + wSum l := by simp [wSum]
    omega
theorem coll_inv (ns : List ByteArray) (l : List Ev) (hw : ∀ e ∈ l, 0 ≤ e.weight) (hs : wSum l ≤ 1000000) : (∀ z ∈ collF ns cntAgs l, InvC (nOf ns l z.key) z.cs ∧ 1 ≤ nOf ns l z.key) ∧ sumT (collF ns cntAgs l) = wSum l := by
  have key : ∀ (l : List Ev) (p : List PP) (f : List ByteArray → Nat), (∀ e ∈ l, 0 ≤ e.weight) → sumT p + wSum l ≤ 1000000 → (∀ z ∈ p, InvC (f z.key) z.cs ∧ 1 ≤ f z.key) →
      (∀ z ∈ l.foldl (fun p e => mergeP cntAgs p [oneP ns cntAgs e]) p, InvC (f z.key + nOf ns l z.key) z.cs ∧ 1 ≤ f z.key + nOf ns l z.key) ∧ sumT (l.foldl (fun p e => mergeP cntAgs p [oneP ns cntAgs e]) p) = sumT p + wSum l := by
    intro l
    induction l with
    | nil => intro p f _ _ h; exact ⟨fun z hz => by simpa [nOf] using h z hz, by simp [wSum]⟩
    | cons x xs ih =>
      intro p f hw hs h
      have hwx := hw x (List.mem_cons_self ..)
      have hws := wSum_pos (l := xs) (fun y hy => hw y (List.mem_cons_of_mem _ hy))
      have hcs : wSum (x :: xs) = x.weight + wSum xs := by simp [wSum]
      have h1s : sumT [oneP ns cntAgs x] = x.weight := by simp [sumT, oneP, cntAgs, hdT, oneC]
      have h1 := merge_inv (f := f) (g := fun k => if cmpK (keyOf_ ns x) k = 0 then 1 else 0) h (b := [oneP ns cntAgs x]) (fun z hz => by
        rw [List.mem_singleton.1 hz]
        have h0 : cmpK (keyOf_ ns x) (oneP ns cntAgs x).key = 0 := cmpK_self _
        simp only [h0, if_true]
        exact ⟨invC_one hwx, Nat.le_refl _⟩) (by rw [h1s]; omega)
      have h2 := ih _ (fun k => f k + if cmpK (keyOf_ ns x) k = 0 then 1 else 0) (fun y hy => hw y (List.mem_cons_of_mem _ hy)) (by rw [h1.2, h1s]; omega) h1.1
      refine ⟨fun z hz => ?_, by rw [List.foldl_cons, h2.2, h1.2, h1s, hcs]; omega⟩
      have := h2.1 z hz
      rw [nOf_cons, ← Nat.add_assoc]
      exact this
  have := key l [] (fun _ => 0) hw (by simpa [sumT] using hs) (by simp)
  refine ⟨fun z hz => by simpa using this.1 z hz, by simpa [sumT, collF] using this.2⟩
end Go.Proofs.YtfkgcighooijhaaGreatDoor

namespace Go.Proofs.YtfkgcighooijhaaGreatDoor
open Go.RowKit
set_option linter.unusedVariables false
set_option linter.unusedSimpArgs false

set_option maxHeartbeats 800000 in
theorem name1_some (g : Nat) (l : List Int) (k : Nat) (w : World) (h : CodesAt w g l k) :
    Calls Tryz.prog 46 #[.pointer (some ⟨g, 0, none⟩)] w (StrPost w g l 20) := by
  go_enter Tryz.func46, Tryz.ntmps46
  go_wp2_with fail
  refine (next_some g l k 4 _ (h.grown (World.grownBy_alloc _ _ none) (by simp)) (by omega) (by omega)).mono ?_
  rintro e w2 ⟨v2, k2, rfl, hv2, h2, hg2⟩
  obtain ⟨j, rfl⟩ := Int.eq_ofNat_of_zero_le hv2.1
  have hj : j < 4 := by omega
  have hlt := h.lt
  have hB := (Blk.new w _ _).grown hg2 (by simp; omega)
  obtain ⟨x, hc, HX⟩ := hB.str_at (m := 20) (by rfl) (j := j) hj
  have G2 := Lib.hid hg2
  have C2 := Lib.hid h2
  clear hg2 h2 hB
  go_wp2
  go_ret
  exact ⟨x, k2, rfl, by have := HX.out; simpa using this, C2.out, only_trans (only_alloc (only_refl _ _) _) G2.out⟩
def NamesPost (w : World) (g : Nat) (l : List Int) (e : Ending) (w' : World) : Prop :=
  ∃ (A : Option Addr) (c : Nat) (ns : List ByteArray) (k : Nat), e = .returned (.slice A ns.length c) ∧ ns.length ≤ c ∧ c ≤ maxLen ∧ 1 ≤ ns.length ∧ ns.length ≤ 2 ∧ (∀ n ∈ ns, n.size ≤ 20) ∧
    Rd (w.heap.size ≤ ·) w' A (ns.map .string) ∧ CodesAt w' g l k ∧ w.grownBy w' (some g)
set_option maxHeartbeats 4000000 in
set_option maxRecDepth 100000 in
theorem names_some (g : Nat) (l : List Int) (k : Nat) (w : World) (h : CodesAt w g l k) :
    Calls Tryz.prog 25 #[.pointer (some ⟨g, 0, none⟩)] w (NamesPost w g l) := by
  go_enter Tryz.func25, Tryz.ntmps25
  go_wp2_with fail
  refine (next_some g l k 5 _ (h.grown (World.grownBy_alloc _ _ none) (by simp)) (by omega) (by omega)).mono ?_
  rintro e w2 ⟨v2, k2, rfl, hv2, h2, hg2⟩
  obtain ⟨j, rfl⟩ := Int.eq_ofNat_of_zero_le hv2.1
  have hj : j < 5 := by omega
  have hlt := h.lt
  have hB := (Blk.new w _ _).grown hg2 (by simp; omega)
  obtain ⟨x, hc, HX⟩ := hB.str_at (m := 20) (by rfl) (j := j) hj
  have hx : Hid (x.size ≤ 20) := by have := HX.out; exact Lib.hid (by simpa using this)
  have G2 : Hid (w.grownBy w2 (some g)) := Lib.hid (only_trans (only_alloc (only_refl _ _) _) hg2)
  have C2 := Lib.hid h2
  have hz2 : w.heap.size < w2.heap.size := by have := hg2.size; simp at this; omega
  have hg0 := h2.lt
  clear hg2 h2 hB h HX
  go_upto_region 2 with fail
  obtain ⟨b, hb⟩ : ∃ b, b = w2.heap.size := ⟨_, rfl⟩
  have HBB := Lib.hid hb
  obtain ⟨W, hW⟩ : ∃ W, W = w2.alloc (.cells #[.string x] 9) := ⟨_, rfl⟩
  have hOL : W.ownsRow b 9 1 (.slice (some ⟨b, 0, none⟩) 1 1) 1 #[Value.string x].toList := by rw [hW, hb]; exact World.ownsRow_lit w2 #[.string x] 1 (Nat.le_refl _) (by unfold maxLen; omega) rfl
  have CW : Hid (CodesAt W g l k2) := Lib.hid (by rw [hW]; exact C2.out.alloc _)
  have GW : Hid (w.grownBy W (some g)) := Lib.hid (by rw [hW]; exact only_alloc G2.out _)
  have hbl := hOL.lt b rfl
  have hgb : g < b := by rw [hb]; exact hg0
  have hwb : w.heap.size < b := by rw [hb]; exact hz2
  rw [← hb, ← hW]
  have OL := Lib.hid hOL
  clear hb hW hOL G2 C2 hz2 hc hg0
  go_wp2_with fail
  refine (next_some g l k2 2 _ CW.out (by omega) (by omega)).mono ?_
  rintro e w3 ⟨v3, k3, rfl, hv3, h3, hg3⟩
  have O3 : Hid (w3.ownsRow b 9 1 (.slice (some ⟨b, 0, none⟩) 1 1) 1 #[Value.string x].toList) := Lib.hid (own_only OL.out hg3 hgb)
  have G3 : Hid (w.grownBy w3 (some g)) := Lib.hid (only_trans GW.out hg3)
  have hz3 := hg3.size
  have C3 := Lib.hid h3
  clear hg3 h3 OL GW CW
  by_cases h1 : v3 = 1
  · have t1 : (v3 == 1) = true := by simp [h1]
    clear h1
    go_wp2_with fail
    refine (name1_some g l k3 _ C3.out).mono ?_
    rintro e w4 ⟨y, k4, rfl, hy, h4, hg4⟩
    have O4 : Hid (w4.ownsRow b 9 1 (.slice (some ⟨b, 0, none⟩) 1 1) 1 #[Value.string x].toList) := Lib.hid (own_only O3.out hg4 hgb)
    have G4 : Hid (w.grownBy w4 (some g)) := Lib.hid (only_trans G3.out hg4)
    have hz4 := hg4.size
    have C4 := Lib.hid h4
    have hg0 := h4.lt
    clear hg4 h4 O3 G3 C3
    go_wp2_with (at_builtin; refine wpList_append1 rfl _ _ 24 rfl b Tryz.underlying24 strInfo rfl (by decide) (v := .slice (some ⟨b, 0, none⟩) 1 1) (by rfl) (w0 := w4) (cs := #[.string y]) O4.out (by rfl) rfl (by simp [Value.oneCell']) (by decide) (by omega) (by omega) ?_; intro v7 w7 hown7 hg7 hob7)
    have O7 : Hid (w7.ownsRow b 9 1 v7 [x, y].length ([x, y].map .string)) := Lib.hid hown7
    have G7 : Hid (w.grownBy w7 (some g)) := Lib.hid (only_own G4.out hg7 O4.out (by omega))
    have C7 : Hid (CodesAt w7 g l k4) := Lib.hid (C4.out.grown hg7 (by intro b' hb' e; simp [Value.ownBlock] at e; omega))
    obtain ⟨A7, c7, rfl, hc7, hm7, -, hr7⟩ := Rd.of_own O7.out (by decide)
    have R7 := Lib.hid hr7
    clear hown7 hg7 hob7 hr7
    go_wp2_with fail
    go_ret
    exact ⟨A7, c7, [x, y], k4, rfl, hc7, hm7, by simp, by simp, by intro n hn; simp at hn; rcases hn with rfl | rfl; exact hx.out; omega, R7.out.mono (fun b' hb' _ => by have hq : b ≤ b' := hb'; show w.heap.size ≤ b'; omega), C7.out, G7.out⟩
  · have t1 : (v3 == 1) = false := by simp [h1]
    clear h1
    obtain ⟨A7, c7, hv7, hc7, hm7, -, hr7⟩ := Rd.of_own (xs := [x].map .string) (n := [x].length) O3.out (by decide)
    injection hv7 with e1 e2 e3
    subst e1 e3
    have R7 := Lib.hid hr7
    have HC7 := Lib.hid hc7
    have HM7 := Lib.hid hm7
    clear hr7 hc7 hm7 e2
    go_wp2_with fail
    go_ret
    exact ⟨_, _, [x], k3, rfl, HC7.out, HM7.out, by simp, by simp, by intro n hn; simp at hn; rcases hn with rfl; exact hx.out, R7.out.mono (fun b' hb' _ => by have hq : b ≤ b' := hb'; show w.heap.size ≤ b'; omega), C3.out, G3.out⟩
end Go.Proofs.YtfkgcighooijhaaGreatDoor

namespace Go.Proofs.YtfkgcighooijhaaGreatDoor
open Go.RowKit
set_option linter.unusedVariables false
set_option linter.unusedSimpArgs false

theorem aggInfo : (Tryz.prog.info? 42).map (fun i => (i.zero, i.size, i.bytes)) = some (some (.agg #[.int .i64 0, .string ⟨#[]⟩]), 2, 24) := by kernel_rfl
theorem only_setOver {a w : World} {g : Nat} (h : a.grownBy w (some g)) {p : Addr} (hp : a.heap.size ≤ p.block) (u : Value) : a.grownBy (w.setCell p u) (some g) := only_setCell h (.inr hp) u
def ScenePost (w : World) (e : Ending) (w' : World) : Prop :=
  ∃ (A1 A2 A3 : Option Addr) (c1 c2 c3 : Nat) (ns : List ByteArray) (ags : List AggD) (es : List Ev) (g k : Nat) (l : List Int), e = .returned (.tuple #[.slice A1 ns.length c1, .slice A2 ags.length c2, .slice A3 es.length c3, .pointer (some ⟨g, 0, none⟩)]) ∧
    ns.length ≤ c1 ∧ c1 ≤ maxLen ∧ 1 ≤ ns.length ∧ ns.length ≤ 2 ∧ (∀ n ∈ ns, n.size ≤ 20) ∧ Rd (g < ·) w' A1 (ns.map .string) ∧
    ags.length ≤ c2 ∧ c2 ≤ maxLen ∧ 1 ≤ ags.length ∧ ags.length ≤ 4 ∧ (∀ a ∈ ags, AggOk a) ∧ Rd (g < ·) w' A2 (ags.flatMap AggD.cells) ∧
    es.length ≤ c3 ∧ c3 ≤ maxLen ∧ es.length ≤ 30 ∧ Evs (g < ·) w' A3 es ∧ SrtE es ∧ (∀ e ∈ es, EvGood e) ∧ CodesAt w' g l k ∧ w.heap.size ≤ g ∧ w.grownBy w' none
set_option maxHeartbeats 4000000 in
set_option maxRecDepth 100000 in
theorem scene_any (A : Option Addr) (l : List Int) (c : Nat) (w : World) (h : Rd (fun _ => True) w A (l.map (.int .u8))) (hc : l.length ≤ c) (hcm : c ≤ maxLen) (hx : ∀ x ∈ l, 0 ≤ x ∧ x ≤ 255) :
    Calls Tryz.prog 8 #[.slice A l.length c] w (ScenePost w) := by
  have HN : Hid (∀ w', w.grownBy w' none → Calls Tryz.prog 17 #[.slice A l.length c, .int .i64 (400 : Nat)] w' (NewPost w' (l.take 400))) := fun w' hg => new_any A l c 400 w' (h.grown hg (by simp)) hc hcm (by omega) hx
  clear h hc hcm hx
  go_enter Tryz.func8, Tryz.ntmps8
  go_wp2_with fail
  refine (HN.out _ (only_refl _ _)).mono ?_
  rintro e w1 ⟨rfl, h1, hg1, hlt1⟩
  obtain ⟨g, hgd⟩ : ∃ g, g = w.heap.size := ⟨_, rfl⟩
  obtain ⟨l1, hl1⟩ : ∃ l1, l1 = l.take 400 := ⟨_, rfl⟩
  have HGD := Lib.hid hgd
  rw [← hgd, ← hl1] at h1
  rw [← hgd]
  have G1 := Lib.hid (only_of_none hg1 (some g))
  have hg0 := h1.lt
  clear HN hgd hl1 hg1 hlt1
  go_wp2_with fail
  refine (names_some g l1 0 _ h1).mono ?_
  rintro e w2 ⟨A1, c1, ns, k2, rfl, hc1, hm1, hn1, hn2, hns, hr1, h2, hg2⟩
  have G2 := Lib.hid (only_trans G1.out hg2)
  have R2 : Hid (Rd (g < ·) w2 A1 (ns.map .string)) := Lib.hid (hr1.mono (fun b hb _ => by have hq : w1.heap.size ≤ b := hb; show g < b; omega))
  have HC1 := Lib.hid hc1
  have HM1 := Lib.hid hm1
  have HNS := Lib.hid hns
  have hz2 := hg2.size
  clear h1 hr1 hg2 hc1 hm1 hns G1
  go_wp2_with fail
  refine (next_some g l1 k2 4 _ h2 (by omega) (by omega)).mono ?_
  rintro e w3 ⟨v3, k3, rfl, hv3, h3, hg3⟩
  have G3 := Lib.hid (only_trans G2.out hg3)
  have R3 := Lib.hid (R2.out.grown hg3 (fun b hb e => by have hq : g < b := hb; injection e; omega))
  have hz3 := hg3.size
  obtain ⟨m, rfl⟩ := Int.eq_ofNat_of_zero_le hv3.1
  have hm4 : m < 4 := by omega
  have C3 := Lib.hid h3
  clear h2 hg3 h3 G2 R2 hv3
  go_wp2_with fail
  go_loopw [8, 9] (fun vo i wr => ∃ (n : Nat) (ags : List AggD) (k : Nat), i = .int .i64 n ∧ n ≤ m + 1 ∧ ags.length + n = m + 1 ∧ (∀ a ∈ ags, AggOk a) ∧ wr.ownsRow w3.heap.size 42 2 vo ags.length (ags.flatMap AggD.cells) ∧ CodesAt wr g l1 k ∧ w3.grownBy wr (some g)) (fun _ i _ => (intOf i).toNat)
  case atStart => exact ⟨m + 1, [], k3, by go_num, Nat.le_refl _, by simp, by simp, World.ownsRow_nil _ _ _ _, C3.out, only_refl _ _⟩
  case round =>
    obtain ⟨n, ags, k, rfl, hn, han, hok, hO, hC, hG⟩ := hrel
    have HOK := Lib.hid hok
    have hal : ags.length ≤ 4 := by omega
    have HAN := Lib.hid han
    obtain ⟨Ao, co, rfl, hoc, hom, -, hro⟩ := Rd.of_own hO (by decide)
    have OO := Lib.hid hO
    have RO := Lib.hid hro
    have C := Lib.hid hC
    have G := Lib.hid hG
    have hsz := hG.size
    have hgw := hC.lt
    have HOC := Lib.hid hoc
    have HOM := Lib.hid hom
    clear C3 hok han hO hro hC hG hoc hom
    by_cases hlt : 0 < n
    · have i1 : (0 : Int) < (n : Int) := by omega
      go_wp2_with fail
      refine (next_some g l1 k 5 _ C.out (by omega) (by omega)).mono ?_
      rintro e w4 ⟨v4, k4, rfl, hv4, h4, hg4⟩
      have O4 := Lib.hid (own_only OO.out hg4 (by omega))
      have G4 := Lib.hid (only_trans G.out hg4)
      have C4 := Lib.hid h4
      have hz4 := hg4.size
      have hgw4 := h4.lt
      clear hg4 h4 OO G C RO hgw
      by_cases h0 : v4 = 0
      · have t1 : (v4 != 0) = false := by simp [h0]
        have HV : Hid (AggOk ⟨0, ⟨#[]⟩⟩) := Lib.hid (by unfold AggOk; decide)
        go_upto_region 8 with fail
        obtain ⟨b, hb⟩ : ∃ b, b = w4.heap.size := ⟨_, rfl⟩
        obtain ⟨WW, hWW⟩ : ∃ W, W = w4.alloc (.cells #[.int .i64 0, .string ⟨#[]⟩] 42) := ⟨_, rfl⟩
        have BB : Hid (Blk WW b 42 #[.int .i64 0, .string ⟨#[]⟩]) := Lib.hid (by rw [hWW, hb]; exact Blk.new _ _ _)
        have OW := Lib.hid (own_ext O4.out (show w4.grownBy WW none by rw [hWW]; exact only_alloc (only_refl _ _) _))
        have GW : Hid (w3.grownBy WW (some g)) := Lib.hid (by rw [hWW]; exact only_alloc G4.out _)
        obtain ⟨kk, hkk⟩ : ∃ kk, kk = k4 := ⟨_, rfl⟩
        have CW : Hid (CodesAt WW g l1 kk) := Lib.hid (by rw [hWW, hkk]; exact C4.out.alloc _)
        have hzW := GW.out.size
        have hbW := BB.out.lt
        rw [← hb, ← hWW]
        clear hb hWW hkk O4 G4 C4 h0 t1
        have z0 := BB.out.cell 0
        have z1 := BB.out.cell 1
        simp at z0 z1
        go_wp2_with (at_builtin; go_must (refine wpList_append1 rfl _ _ 25 rfl w3.heap.size Tryz.underlying25 aggInfo rfl (by decide) (v := .slice Ao ags.length co) (by rfl) (w0 := WW) (cs := #[.int .i64 0, .string ⟨#[]⟩]) OW.out (by rfl) rfl (by simp [Value.oneCell']) (by decide) (by omega) (by omega) ?_); intro v7 w7 hown7 hg7 hob7)
        have O7 : Hid (w7.ownsRow w3.heap.size 42 2 v7 (ags ++ [(⟨0, ⟨#[]⟩⟩ : AggD)]).length ((ags ++ [(⟨0, ⟨#[]⟩⟩ : AggD)]).flatMap AggD.cells)) := Lib.hid (by rw [List.length_append, List.flatMap_append]; simpa [AggD.cells] using hown7)
        have G7 : Hid (w3.grownBy w7 (some g)) := Lib.hid (only_own GW.out hg7 OW.out (Nat.le_refl _))
        have C7 : Hid (CodesAt w7 g l1 kk) := Lib.hid (CW.out.grown hg7 (by
          intro b' hb' e
          have := (OW.out.lt b' e.symm).1
          omega))
        have HOK7 : Hid (∀ a ∈ ags ++ [(⟨0, ⟨#[]⟩⟩ : AggD)], AggOk a) := Lib.hid (mem_snoc HOK.out HV.out)
        clear hown7 hg7 hob7
        go_wp2_with fail
        go_roundw
        case rel => exact ⟨n - 1, ags ++ [(⟨0, ⟨#[]⟩⟩ : AggD)], kk, by go_num, by omega, by have := HAN.out; rw [List.length_append, List.length_singleton]; omega, HOK7.out, O7.out, C7.out, G7.out⟩
        case measure => simp [intOf]; omega
      · have t1 : (v4 != 0) = true := by simp [h0]
        go_upto_region 8 with fail
        obtain ⟨b, hb⟩ : ∃ b, b = w4.heap.size := ⟨_, rfl⟩
        obtain ⟨W, hW⟩ : ∃ W, W = w4.alloc (.cells #[.int .i64 v4, .string ⟨#[]⟩] 42) := ⟨_, rfl⟩
        have B5 : Hid (Blk W b 42 #[.int .i64 v4, .string ⟨#[]⟩]) := Lib.hid (by rw [hW, hb]; exact Blk.new _ _ _)
        have O5 := Lib.hid (own_ext O4.out (show w4.grownBy W none by rw [hW]; exact only_alloc (only_refl _ _) _))
        have hrow : ∀ q, (Value.slice Ao ags.length co).ownBlock = some q → q < b := fun q hq => by rw [hb]; exact (O4.out.lt q hq).2
        have HROW := Lib.hid hrow
        have G5 : Hid (w3.grownBy W (some g)) := Lib.hid (by rw [hW]; exact only_alloc G4.out _)
        have C5 : Hid (CodesAt W g l1 k4) := Lib.hid (by rw [hW]; exact C4.out.alloc _)
        have hzW := G5.out.size
        have hbW := B5.out.lt
        have hgb : g < b := by rw [hb]; exact hgw4
        have z0 := B5.out.cell 0
        simp at z0
        have hw3b : w3.heap.size ≤ b := by rw [hb]; omega
        have hv40 := hv4.1
        have hv41 := hv4.2
        rw [← hb, ← hW]
        clear hb hW O4 G4 C4 h0 hrow hz4 hgw4
        go_wp2_with fail
        refine (next_some g l1 k4 5 _ (C5.out.alloc _) (by omega) (by omega)).mono ?_
        rintro e w5 ⟨v5, kk, rfl, hv5, h5, hg5⟩
        obtain ⟨j, rfl⟩ := Int.eq_ofNat_of_zero_le hv5.1
        have hj : j < 5 := by omega
        have hB := (Blk.new W _ _).grown hg5 (by simp; omega)
        obtain ⟨x, hc, HX⟩ := hB.str_at (m := 20) (by rfl) (j := j) hj
        have hx : Hid (x.size ≤ 20) := by have := HX.out; exact Lib.hid (by simpa using this)
        have hgA : W.grownBy w5 (some g) := only_trans (only_alloc (only_refl _ _) _) hg5
        have B6 := Lib.hid (B5.out.grown hgA (by intro e; injection e; omega))
        have O6 := Lib.hid (own_only O5.out hgA (by omega))
        have G6 := Lib.hid (only_trans G5.out hgA)
        have C6 := Lib.hid h5
        have f0 := B6.out.frozen 1
        have y1 := B6.out.cell 1
        simp at y1
        have hz6 := hgA.size
        have HV : Hid (AggOk ⟨v4, x⟩) := Lib.hid ⟨hv40, by show v4 ≤ 4; omega, hx.out⟩
        have hne : W.heap.size ≠ b := by omega
        clear hg5 h5 hB HX B5 O5 G5 C5 hgA z0 hv5 hx
        go_upto_region 10 with fail
        obtain ⟨WW, hWW⟩ : ∃ WW, WW = w5.setCell ⟨b, 1, none⟩ (.string x) := ⟨_, rfl⟩
        have hgS : w5.grownBy WW (some b) := by rw [hWW]; exact only_setCell (only_refl _ _) (.inl rfl) _
        have BB : Hid (Blk WW b 42 #[.int .i64 v4, .string x]) := Lib.hid (by rw [hWW]; simpa using B6.out.set_ 1 (.string x))
        have OW : Hid (WW.ownsRow w3.heap.size 42 2 (.slice Ao ags.length co) ags.length (ags.flatMap AggD.cells)) := Lib.hid (O6.out.kept hgS (by
          cases hv : (Value.slice Ao ags.length co).ownBlock with
          | none => exact .inl rfl
          | some q => exact .inr (by have := HROW.out q hv; intro e; injection e; omega)))
        have GW : Hid (w3.grownBy WW (some g)) := Lib.hid (by rw [hWW]; exact only_setOver G6.out (by show w3.heap.size ≤ b; omega) _)
        have CW : Hid (CodesAt WW g l1 kk) := Lib.hid (C6.out.grown hgS (by intro b' hb' e; injection e; omega))
        have hzWW := GW.out.size
        have hbWW := BB.out.lt
        rw [← hWW]
        clear hWW O6 G6 C6 B6 f0 y1 hc t1
        have z0 := BB.out.cell 0
        have z1 := BB.out.cell 1
        simp at z0 z1
        go_wp2_with (at_builtin; go_must (refine wpList_append1 rfl _ _ 25 rfl w3.heap.size Tryz.underlying25 aggInfo rfl (by decide) (v := .slice Ao ags.length co) (by rfl) (w0 := WW) (cs := #[.int .i64 v4, .string x]) OW.out (by rfl) rfl (by simp [Value.oneCell']) (by decide) (by omega) (by omega) ?_); intro v7 w7 hown7 hg7 hob7)
        have O7 : Hid (w7.ownsRow w3.heap.size 42 2 v7 (ags ++ [(⟨v4, x⟩ : AggD)]).length ((ags ++ [(⟨v4, x⟩ : AggD)]).flatMap AggD.cells)) := Lib.hid (by rw [List.length_append, List.flatMap_append]; simpa [AggD.cells] using hown7)
        have G7 : Hid (w3.grownBy w7 (some g)) := Lib.hid (only_own GW.out hg7 OW.out (Nat.le_refl _))
        have C7 : Hid (CodesAt w7 g l1 kk) := Lib.hid (CW.out.grown hg7 (by
          intro b' hb' e
          have := (OW.out.lt b' e.symm).1
          omega))
        have HOK7 : Hid (∀ a ∈ ags ++ [(⟨v4, x⟩ : AggD)], AggOk a) := Lib.hid (mem_snoc HOK.out HV.out)
        clear hown7 hg7 hob7
        go_wp2_with fail
        go_roundw
        case rel => exact ⟨n - 1, ags ++ [(⟨v4, x⟩ : AggD)], kk, by go_num, by omega, by have := HAN.out; rw [List.length_append, List.length_singleton]; omega, HOK7.out, O7.out, C7.out, G7.out⟩
        case measure => simp [intOf]; omega
    · have i1 : ¬ (0 : Int) < (n : Int) := by omega
      have HA1 : Hid (1 ≤ ags.length) := Lib.hid (by have := HAN.out; omega)
      have HA2 : Hid (ags.length ≤ 4) := Lib.hid hal
      have GA := Lib.hid (only_trans G3.out G.out)
      have RA := Lib.hid (R3.out.grown G.out (fun b hb e => by have hq : g < b := hb; injection e; omega))
      go_wp2_with fail
      refine (events_some g l1 k 5 _ C.out (by omega)).mono ?_
      rintro e w8 ⟨A3, c3, es, k8, rfl, he1, he2, he3, he4, he5, he6, h8, hg8⟩
      have R8 := Lib.hid (RA.out.grown hg8 (fun b hb e => by have hq : g < b := hb; injection e; omega))
      have Q8 := Lib.hid ((RO.out.grown hg8 (fun b hb e => by have hq : w3.heap.size ≤ b := hb; injection e; omega)).mono (S' := (g < ·)) (fun b hb _ => by have hq : w3.heap.size ≤ b := hb; show g < b; omega))
      have E8 := Lib.hid (he4.mono (S' := (g < ·)) (fun b hb _ => by have hq : wr.heap.size ≤ b := hb; show g < b; omega))
      have G8 : Hid (w.grownBy w8 none) := Lib.hid (only_fresh (only_refl w none) (only_trans GA.out hg8) (Nat.le_of_eq HGD.out.symm))
      have C8 := Lib.hid h8
      have H1 := Lib.hid he1; have H2 := Lib.hid he2; have H3 := Lib.hid he3; have H5 := Lib.hid he5; have H6 := Lib.hid he6
      clear he1 he2 he3 he4 he5 he6 h8 hg8 RA RO GA G C
      go_wp2_with fail
      exact bodyPost_ret (v := .tuple #[.slice A1 ns.length c1, .slice Ao ags.length co, .slice A3 es.length c3, .pointer (some ⟨g, 0, none⟩)]) (by simp [results, Tryz.results8, go_sem]) rfl ⟨A1, Ao, A3, c1, co, c3, ns, ags, es, g, k8, l1, rfl, HC1.out, HM1.out, hn1, hn2, HNS.out, R8.out, HOC.out, HOM.out, HA1.out, HA2.out, HOK.out, Q8.out, H1.out, H2.out, by have := H3.out; omega, E8.out, H5.out, H6.out, C8.out, by rw [HGD.out]; exact Nat.le_refl _, G8.out⟩
theorem awake_cmp : cmpK [⟨#[97]⟩] [⟨#[98]⟩] = -1 := by
  have h : sl ⟨#[97]⟩ ⟨#[98]⟩ = true := by unfold sl; rw [ByteArray.toList_eq, ByteArray.toList_eq]; simp [Op.bytesLess]
  rw [cmpK, h]; rfl
theorem awake_keys (A B : Option Addr) (c d : Nat) (w' : World) (ha : Rd (fun _ => True) w' A ([⟨#[97]⟩].map .string)) (hb : Rd (fun _ => True) w' B ([⟨#[98]⟩].map .string)) : Calls Tryz.prog 15 #[.slice A 1 c, .slice B 1 d] w' (IntP (-1) w') := by
  rw [← awake_cmp]
  have h0 := pcmp_any A B [⟨#[97]⟩] [⟨#[98]⟩] c d w' ha hb (by simp) (by simp)
  exact h0
/-- the sanity check -/
theorem awake_any (w : World) : Calls Tryz.prog 7 #[] w (fun e w' => e = .returned (.bool true) ∧ w.grownBy w' none) := by
  have HC := fun (A B : Option Addr) (c d : Nat) (w' : World) ha hb => awake_keys A B c d w' ha hb
  have RD : Hid (∀ (w' : World) (b : Nat) (x : ByteArray), Blk w' b 9 #[.string x] → Rd (fun _ => True) w' (some ⟨b, 0, none⟩) ([x].map .string)) := Lib.hid (fun w' b x hB _ => ⟨b, 0, rfl, trivial, hB.lt, fun j u hu => by
    rw [Nat.zero_add, hB.cell j]
    simpa using hu⟩)
  have ha := RD.out ((w.alloc (.cells #[.string ⟨#[97]⟩] 9)).alloc (.cells #[.string ⟨#[98]⟩] 9)) w.heap.size ⟨#[97]⟩ ((Blk.new w 9 #[.string ⟨#[97]⟩]).alloc _)
  have hb := RD.out ((w.alloc (.cells #[.string ⟨#[97]⟩] 9)).alloc (.cells #[.string ⟨#[98]⟩] 9)) (w.alloc (.cells #[.string ⟨#[97]⟩] 9)).heap.size ⟨#[98]⟩ (Blk.new _ _ _)
  have K := HC _ _ 1 1 _ ha hb
  rw [show (w.alloc (.cells #[.string ⟨#[97]⟩] 9)).heap.size = w.heap.size + 1 by simp] at K
  have KK := Lib.hid K
  clear ha hb K HC RD
  go_enter Tryz.func7, Tryz.ntmps7
  go_wp2_with fail
  refine KK.out.mono ?_
  rintro e w1 ⟨rfl, rfl⟩
  go_wp2_with fail
  go_ret
  exact ⟨rfl, only_alloc (only_alloc (only_refl _ _) _) _⟩
end Go.Proofs.YtfkgcighooijhaaGreatDoor
