/- group.Rows (printed by mkgrows.py). Condition: sizes. -/
import Derived.Test.YtfkgcighooijhaaGreatDoorJOneI
import Derived.Test.YtfkgcighooijhaaGreatDoorJGrpC
import Derived.Test.YtfkgcighooijhaaGreatDoorJGrpP
namespace Go.Proofs.YtfkgcighooijhaaGreatDoor
open Go.RowKit
set_option linter.unusedVariables false
set_option linter.unusedSimpArgs false

/-- a row of the answer, with the places of its rows -/
structure RwD where
  key : StrR
  nl : List Int
  na : Option Addr
  nc : Nat
def RwD.cells (r : RwD) : List Value := [r.key.val, .slice r.na r.nl.length r.nc, .int .i64 0]
theorem RwD.cells_len (r : RwD) : r.cells.length = 3 := rfl
def RwD.pl (r : RwD) : List ByteArray × List Int := (r.key.l, r.nl)
def RwD.Sub (S : Nat → Prop) (w : World) (r : RwD) : Prop := r.key.In S w ∧ Rd S w r.na (r.nl.map (.int .i64)) ∧ r.nl.length ≤ r.nc ∧ r.nc ≤ maxLen
def Rws (S : Nat → Prop) (w : World) (A : Option Addr) (rs : List RwD) : Prop := Rd S w A (rs.flatMap RwD.cells) ∧ ∀ r ∈ rs, r.Sub S w
section
variable {S S' : Nat → Prop} {w w' : World} {A : Option Addr} {row : Option Nat}
theorem RwD.Sub.grown {r : RwD} (h : r.Sub S w) (hg : w.grownBy w' row) (hr : ∀ b, S b → some b ≠ row) : r.Sub S w' := ⟨h.1.grown hg hr, h.2.1.grown hg hr, h.2.2⟩
theorem RwD.Sub.mono {r : RwD} (h : r.Sub S w) (hS : ∀ b, S b → b < w.heap.size → S' b) : r.Sub S' w := ⟨h.1.mono hS, h.2.1.mono hS, h.2.2⟩
theorem Rws.grown {rs : List RwD} (h : Rws S w A rs) (hg : w.grownBy w' row) (hr : ∀ b, S b → some b ≠ row) : Rws S w' A rs := ⟨h.1.grown hg hr, fun r hr' => (h.2 r hr').grown hg hr⟩
theorem Rws.mono {rs : List RwD} (h : Rws S w A rs) (hS : ∀ b, S b → b < w.heap.size → S' b) : Rws S' w A rs := ⟨h.1.mono hS, fun r hr => (h.2 r hr).mono hS⟩
end
theorem rowInfo37 : (Tryz.prog.info? 49).map (fun i => (i.zero, i.size, i.bytes)) = some (some (.agg #[.slice none 0 0, .slice none 0 0, .int .i64 0]), 3, 56) := by kernel_rfl
theorem rw_one (r : RwD) : ∀ u ∈ r.cells, u.oneCell' = true := by
  intro u hu
  simp only [RwD.cells, StrR.val, List.mem_cons, List.not_mem_nil, or_false] at hu
  rcases hu with rfl | rfl | rfl <;> rfl
/-- a row of rows of the call's own -/
structure RRow (base : Nat) (w : World) (v : Value) (rs : List RwD) : Prop where
  own : w.ownsRow base 49 3 v rs.length (rs.flatMap RwD.cells)
  sub : ∀ p ∈ rs, p.Sub (fun b => base ≤ b ∧ Value.ownBlock v ≠ some b) w
theorem RRow.nil (base : Nat) (w : World) : RRow base w (.slice none 0 0) [] := ⟨World.ownsRow_nil _ _ _ _, by simp⟩
theorem RRow.ext {base : Nat} {w w' : World} {v : Value} {rs : List RwD} (h : RRow base w v rs) (hg : w.grownBy w' none) : RRow base w' v rs := ⟨own_ext h.own hg, fun p hp => (h.sub p hp).grown hg (by simp)⟩
theorem RRow.snoc {base : Nat} {W w : World} {v v' : Value} {rs : List RwD} {r : RwD} (h : RRow base W v rs) (ho : w.ownsRow base 49 3 v' (rs.length + 1) (rs.flatMap RwD.cells ++ r.cells)) (hs : r.Sub (fun b => W.heap.size ≤ b ∧ Value.ownBlock v' ≠ some b) w) (hn : ∀ g, Value.ownBlock v' = some g → Value.ownBlock v = some g ∨ W.heap.size ≤ g)
    (hf : FrN (fun i => Value.ownBlock v = some i) W w) (hb : base ≤ W.heap.size) : RRow base w v' (rs ++ [r]) := by
  refine ⟨by rw [List.length_append, List.flatMap_append]; simpa using ho, fun q hq => ?_⟩
  rcases List.mem_append.1 hq with hq | hq
  · have h1 := (h.sub q hq).mono (S' := fun b => (base ≤ b ∧ Value.ownBlock v ≠ some b) ∧ b < W.heap.size) (fun b hb hlt => ⟨hb, hlt⟩)
    have key : ∀ (A : Option Addr) (xs : List Value), Rd (fun b => (base ≤ b ∧ Value.ownBlock v ≠ some b) ∧ b < W.heap.size) W A xs → Rd (fun b => base ≤ b ∧ Value.ownBlock v' ≠ some b) w A xs := fun A xs hr =>
      (hf.rd hr (fun b hb hB => hb.1.2 hB)).mono (fun b hb _ => ⟨hb.1.1, fun e => by rcases hn b e with h2 | h2; exact hb.1.2 h2; have := hb.2; omega⟩)
    exact ⟨⟨key _ _ h1.1.1, h1.1.2⟩, key _ _ h1.2.1, h1.2.2⟩
  · rw [List.mem_singleton.1 hq]
    exact hs.mono (fun b hb' _ => ⟨Nat.le_trans hb hb'.1, hb'.2⟩)
/-- what is given back -/
def rowP (z : PP) : List ByteArray × List Int := (z.key, z.cs.map (·.t))
def RowsP (w : World) (zs : List PP) (e : Ending) (w' : World) : Prop := ∃ (A : Option Addr) (c : Nat) (rs : List RwD), e = .returned (.slice A rs.length c) ∧ rs.map RwD.pl = zs.map rowP ∧ rs.length ≤ c ∧ c ≤ maxLen ∧ Rws (w.heap.size ≤ ·) w' A rs ∧ w.grownBy w' none
abbrev rArr (ka : Value) (na : Value) : Array Value := #[ka, na, .int .i64 0]
/-- an operation of the chain that is not done: the append neither -/
theorem d9_3 {D : Nat → Bool} {P7 P8 P9 : Prop} (h4 : D 7 = true → (D 3 = true ∧ D 6 = true) ∧ P7) (h5 : D 8 = true → D 7 = true ∧ P8) (h7 : D 9 = true → D 8 = true ∧ P9) (h : D 3 = false) : D 9 = false := by
  cases e : D 9 with
  | false => rfl
  | true => rw [(h4 (h5 (h7 e).1).1).1.1] at h; cases h
theorem d9_6 {D : Nat → Bool} {P7 P8 P9 : Prop} (h4 : D 7 = true → (D 3 = true ∧ D 6 = true) ∧ P7) (h5 : D 8 = true → D 7 = true ∧ P8) (h7 : D 9 = true → D 8 = true ∧ P9) (h : D 6 = false) : D 9 = false := by
  cases e : D 9 with
  | false => rfl
  | true => rw [(h4 (h5 (h7 e).1).1).1.2] at h; cases h
theorem cellF {B : Nat → Prop} {W w : World} {b o : Nat} (h : FrN B W w) (hb : b < W.heap.size) (hB : ¬ B b) : w.cell? ⟨b, o, none⟩ = W.cell? ⟨b, o, none⟩ := h.cell hb hB
/-- the end of the chain: the append of the one row -/
theorem rows_app {W w : World} {base n : Nat} {vO : Value} {xs : List Value} {kl : List ByteArray} {is : List Int} {AK AN : Option Addr} {cK cN b : Nat} (hO : w.ownsRow base 49 3 vO n xs) (hK : FreshS W.heap.size (kl.map .string) kl.length 9 w (.slice AK kl.length cK)) (hN : FreshS W.heap.size (is.map (.int .i64)) is.length 3 w (.slice AN is.length cN))
    (hB : Blk w b 49 (rArr (.slice AK kl.length cK) (.slice AN is.length cN))) (hb : W.heap.size ≤ b) (hv : ∀ g, Value.ownBlock vO = some g → g < W.heap.size) (hn : n ≤ 1000000) (hbase : base ≤ W.heap.size) (hW : W.heap.size ≤ w.heap.size) :
    ∃ v' w', (Builtin.append_ #[43, 43] 43 #[vO, .slice (some ⟨b, 0, none⟩) 1 1]).run Tryz.prog w = .ok v' w' ∧ w.grownBy w' (Value.ownBlock vO) ∧
      ∃ r : RwD, r.pl = (kl, is) ∧ w'.ownsRow base 49 3 v' (n + 1) (xs ++ r.cells) ∧ r.Sub (fun b => W.heap.size ≤ b ∧ Value.ownBlock v' ≠ some b) w' ∧ ∀ g, Value.ownBlock v' = some g → Value.ownBlock vO = some g ∨ W.heap.size ≤ g := by
  obtain ⟨A1, c1, e1, k1, k2, k3⟩ := hK
  injection e1 with e1 _ e3
  subst e1 e3
  obtain ⟨A2, c2, e1, n1, n2, n3⟩ := hN
  injection e1 with e1 _ e3
  subst e1 e3
  have hs : (RwD.mk ⟨kl, AK, cK⟩ is AN cN).Sub (W.heap.size ≤ ·) w := ⟨strR_of (rd_ownG k3) k1 k2, rd_ownG n3, n1, n2⟩
  obtain ⟨v', w', hr, ho, hg, hb'⟩ := run_appendN (P := Tryz.prog) base 43 43 Tryz.underlying43 rowInfo37 rfl (by decide) hO (S := fun _ => True) (some ⟨b, 0, none⟩) 1 1 (news := (RwD.mk ⟨kl, AK, cK⟩ is AN cN).cells) (fun _ => ⟨b, 0, rfl, trivial, hB.lt, fun j x hx => by rw [Nat.zero_add, hB.cell j]; simpa [RwD.cells, StrR.val] using hx⟩) rfl (rw_one _) (by decide) (by omega) (by omega)
  have y2' := hs.mono (S' := fun b => W.heap.size ≤ b ∧ b < w.heap.size) (fun b hb hlt => ⟨hb, hlt⟩)
  refine ⟨v', w', hr, hg, _, rfl, ho, (y2'.grown hg (fun b hbb e => by have := hv b e.symm; have := hbb.1; omega)).mono (fun b hbb _ => ⟨hbb.1, fun e => ?_⟩), fun g hg' => ?_⟩
  · rcases hb' with h2 | h2
    · rw [h2] at e; have := hv b e; have := hbb.1; omega
    · rw [h2] at e; injection e with e; have := hbb.2; omega
  · rcases hb' with h2 | h2
    · rw [h2] at hg'; exact .inl hg'
    · rw [h2] at hg'; injection hg' with hg'; exact .inr (by omega)
set_option maxHeartbeats 16000000 in
set_option maxRecDepth 100000 in
theorem grows_any {S : Nat → Prop} (Aa : Option Addr) (na ca : Nat) (A : Option Addr) (ps : List PD) (c : Nat) (w0 : World) (hA : PDs S w0 A ps) (hl : ps.length ≤ 100000) (hko : ∀ p ∈ ps, p.cs.length ≤ 1000 ∧ p.key.l.length ≤ 100000) :
    Calls Tryz.prog 14 #[.slice Aa na ca, .slice A ps.length c] w0 (RowsP w0 (ps.map PD.pl)) := by
  have HA := Lib.hid hA
  have HKO := Lib.hid hko
  clear hA hko
  go_enter Tryz.func14, Tryz.ntmps14
  go_wp2_with fail
  go_loopw [10, 5] (fun v1 v2 wr => ∃ (k : Nat) (rs : List RwD), v1 = .int .i64 k ∧ k ≤ ps.length ∧ rs.length = k ∧ rs.map RwD.pl = (ps.take k).map (fun p => rowP p.pl) ∧ RRow w0.heap.size wr v2 rs ∧ w0.grownBy wr none) (fun v1 _ _ => ps.length - (intOf v1).toNat)
  case atStart => exact ⟨0, [], rfl, Nat.zero_le _, rfl, rfl, RRow.nil _ _, only_refl _ _⟩
  case round =>
    obtain ⟨k, rs, rfl, hk, hrl, hR, hO, hG⟩ := hrel
    have HR := Lib.hid hR
    have OO := Lib.hid hO
    have G := Lib.hid hG
    have HRL := Lib.hid hrl
    have hrl' : rs.length ≤ 100000 := by omega
    have hbase : w0.heap.size ≤ wr.heap.size := hG.size
    clear hR hO hG hrl
    obtain ⟨vO, hvOd⟩ : ∃ v, v = u5 := ⟨_, rfl⟩
    rw [← hvOd] at OO ⊢
    clear hvOd
    by_cases hlt : k < ps.length
    · obtain ⟨x, hx⟩ : ∃ x, ps[k]? = some x := ⟨_, List.getElem?_eq_getElem hlt⟩
      have hxs := (HA.out.2 x (List.mem_of_getElem? hx)).grown G.out (by simp)
      have hxo := HKO.out x (List.mem_of_getElem? hx)
      obtain ⟨bA, oA, eA, hbA, a0, a1, a2, a3⟩ := pd_in (HA.out.1.grown G.out (by simp)) hx
      subst eA
      have HNX : Hid ((ps.take (k + 1)).map (fun p => rowP p.pl) = (ps.take k).map (fun p => rowP p.pl) ++ [(x.key.l, x.cs.map (·.t))]) := Lib.hid (by
        obtain ⟨h1, e⟩ := List.getElem?_eq_some_iff.1 hx
        rw [List.take_succ_eq_append_getElem h1, e, List.map_append]
        simp [rowP, PD.pl, CM.pl])
      obtain ⟨h1, h2, -, -, -, -, -, -, -, -, -, h6, -⟩ := hxs
      have hko := hxo.2
      have hcs := hxo.1
      have KC : Hid (∀ w', wr.grownBy w' none → Calls Tryz.prog 35 #[.slice x.key.a x.key.l.length x.key.c] w' (CloneSPost w' x.key.l.length (x.key.l.map .string))) := Lib.hid (fun w' hg => cloneS_any _ _ _ (x.key.l.map .string) w' (h1.1.grown hg (by simp)) (by simp) (by omega) (by intro u hu; obtain ⟨s, -, rfl⟩ := List.mem_map.1 hu; rfl) h1.2.2.2)
      have KT : Hid (∀ w', wr.grownBy w' none → Calls Tryz.prog 36 #[.slice x.ta x.cs.length x.tc] w' (CloneIPost w' x.cs.length ((x.cs.map (·.t)).map (.int .i64)))) := Lib.hid (fun w' hg => by
        rw [List.map_map]
        exact cloneI_any _ _ _ (tOf x.cs) w' (h2.grown hg (by simp)) (by unfold tOf; simp) (by omega) (by intro u hu; obtain ⟨s, -, rfl⟩ := List.mem_map.1 hu; rfl) h6)
      obtain ⟨is, his⟩ : ∃ l, l = x.cs.map (·.t) := ⟨_, rfl⟩
      have hil : x.cs.length = is.length := by rw [his, List.length_map]
      rw [← his] at KT HNX
      rw [hil] at KT a1 a2 a3
      obtain ⟨kl, hkl⟩ : ∃ l, l = x.key.l := ⟨_, rfl⟩
      obtain ⟨ka, hka⟩ : ∃ l, l = x.key.a := ⟨_, rfl⟩
      obtain ⟨kc, hkc⟩ : ∃ l, l = x.key.c := ⟨_, rfl⟩
      obtain ⟨ta, hta⟩ : ∃ l, l = x.ta := ⟨_, rfl⟩
      obtain ⟨tc, htc⟩ : ∃ l, l = x.tc := ⟨_, rfl⟩
      obtain ⟨sa, hsa⟩ : ∃ l, l = x.sa := ⟨_, rfl⟩
      obtain ⟨sc, hsc⟩ : ∃ l, l = x.sc := ⟨_, rfl⟩
      obtain ⟨va, hva⟩ : ∃ l, l = x.va := ⟨_, rfl⟩
      obtain ⟨vc, hvc⟩ : ∃ l, l = x.vc := ⟨_, rfl⟩
      rw [← hkl] at HNX KC a0
      rw [← hka, ← hkc] at KC a0
      rw [← hta, ← htc] at KT a1
      rw [← hsa, ← hsc] at a2
      rw [← hva, ← hvc] at a3
      have j1 : (k : Int) < (ps.length : Int) := by omega
      clear hx hxo h1 h2 h6 hko hcs his hil hkl hka hkc hta htc hsa hsc hva hvc
      go_upto_region 5 with fail
      obtain ⟨W, hW⟩ : ∃ W, W = wr.alloc (.cells #[.slice ka kl.length kc, .slice ta is.length tc, .slice sa is.length sc, .slice va is.length vc] 69) := ⟨_, rfl⟩
      have hP : Blk W wr.heap.size 69 #[.slice ka kl.length kc, .slice ta is.length tc, .slice sa is.length sc, .slice va is.length vc] := by rw [hW]; exact Blk.new wr _ _
      have GW : Hid (wr.grownBy W none) := Lib.hid (by rw [hW]; exact only_alloc (only_refl wr none) _)
      rw [← hW]
      obtain ⟨pa, hpad⟩ : ∃ pa, pa = wr.heap.size := ⟨_, rfl⟩
      rw [← hpad] at hP ⊢
      have p0 := hP.cell 0; have p1 := hP.cell 1
      simp at p0 p1
      have hpa : pa < W.heap.size := hP.lt
      have hvO : ∀ g, Value.ownBlock vO = some g → g < W.heap.size := fun g hg => Nat.lt_of_lt_of_le (OO.out.own.lt g hg).2 GW.out.size
      have hbW : w0.heap.size ≤ W.heap.size := Nat.le_trans hbase GW.out.size
      have ho3 : Hid (RRow w0.heap.size W vO rs) := Lib.hid (OO.out.ext GW.out)
      replace KC : Hid (∀ w', W.grownBy w' none → Calls Tryz.prog 35 #[.slice ka kl.length kc] w' (CloneSPost w' kl.length (kl.map .string))) := Lib.hid (fun w' hg => KC.out w' (only_trans GW.out hg))
      replace KT : Hid (∀ w', W.grownBy w' none → Calls Tryz.prog 36 #[.slice ta is.length tc] w' (CloneIPost w' is.length (is.map (.int .i64)))) := Lib.hid (fun w' hg => KT.out w' (only_trans GW.out hg))
      have HRO := Lib.hid ho3.out.own
      have hpO : ¬ (Value.ownBlock vO = some pa) := fun e => by have := (OO.out.own.lt _ e).2; omega
      clear hW hP hpad a0 a1 a2 a3 hbA
      refine wp_region_gen 10 (JC [some (vO), some (.pointer (some ⟨pa, 0, none⟩)), some (.slice ka kl.length kc), none, some (.pointer (some ⟨pa, 1, none⟩)), some (.slice ta is.length tc), none, none, none, none] (fun D u w => FrN (fun i => Value.ownBlock vO = some i) W w ∧ (D 3 = true → D 9 = false → FreshS W.heap.size (kl.map .string) kl.length 9 w (u 3)) ∧ (D 6 = true → D 9 = false → FreshS W.heap.size (is.map (.int .i64)) is.length 3 w (u 6)) ∧ (D 7 = true → (D 3 = true ∧ D 6 = true) ∧ u 7 = .agg (rArr (u 3) (u 6))) ∧ (D 8 = true → D 7 = true ∧ (D 9 = false → ∃ b, u 8 = .slice (some ⟨b, 0, none⟩) 1 1 ∧ W.heap.size ≤ b ∧ Blk w b 49 (rArr (u 3) (u 6)))) ∧ (D 9 = false → W.grownBy w none ∧ w.ownsRow w0.heap.size 49 3 vO rs.length (rs.flatMap RwD.cells)) ∧ (D 9 = true → D 8 = true ∧ ∃ r : RwD, r.pl = (kl, is) ∧ w.ownsRow w0.heap.size 49 3 (u 9) (rs.length + 1) (rs.flatMap RwD.cells ++ r.cells) ∧ r.Sub (fun b => W.heap.size ≤ b ∧ Value.ownBlock (u 9) ≠ some b) w ∧ ∀ g, Value.ownBlock (u 9) = some g → Value.ownBlock vO = some g ∨ W.heap.size ≤ g))) (by kernel_rfl) (by kernel_rfl) ?_ ?_ ?_
      · intro u
        exact ⟨(fun j c _ h => by cases h), FrN.refl _ _, (fun h => by cases h), (fun h => by cases h), (fun h => by cases h), (fun h => by cases h), fun _ => ⟨only_drew (only_refl _ _), HRO.out⟩, (fun h => by cases h)⟩
      · intro AA hA
        have hasz : AA.tmps.size = 26 := by rw [hA]; kernel_rfl
        have ea5 : AA.eval (.tmp 5) = vO := by rw [hA]; kernel_rfl
        have ea7 : AA.eval (.tmp 7) = .pointer (some ⟨pa, 0, none⟩) := by rw [hA]; kernel_rfl
        clear hA
        simp only [List.take_succ_cons, List.take_zero]
        refine .cons ?_ (.cons ?_ (.cons ?_ (.cons ?_ (.cons ?_ (.cons ?_ (.cons ?_ (.cons ?_ (.cons ?_ (.cons ?_ (.nil))))))))))
        · exact gd_gen (by kernel_rfl) (Want.none_ rfl) rfl (fun D u w v h => by simpa [updB, upd] using h) (fun D u ρ w kn => by
            have e0 := kn.own 5 (c := vO) (by kernel_rfl) ea5
            simp [execOp, kn.rho.con, e0, go_sem])
        · exact gd_gen (by kernel_rfl) (Want.none_ rfl) rfl (fun D u w v h => by simpa [updB, upd] using h) (fun D u ρ w kn => by
            have e0 := kn.own 7 (c := .pointer (some ⟨pa, 0, none⟩)) (by kernel_rfl) ea7
            simp [execOp, kn.rho.con, e0, go_sem])
        · exact gd_gen (by kernel_rfl) (Want.none_ rfl) rfl (fun D u w v h => by simpa [updB, upd] using h) (fun D u ρ w kn => by
            have e0 := kn.con 1 15 (c := .pointer (some ⟨pa, 0, none⟩)) (by kernel_rfl) (by omega) (by kernel_rfl) rfl
            have f0 := (cellF kn.ext.1 hpa hpO).trans p0
            simp [execOp, kn.rho.con, e0, f0, go_sem])
        · refine gd_call (by kernel_rfl) (Want.none_ rfl) 35 (fun D u ρ w kn hD => ?_)
          have e0 := kn.con 2 16 (c := .slice ka kl.length kc) (by kernel_rfl) (by omega) (by kernel_rfl) rfl
          refine ⟨#[.slice ka kl.length kc], ?_, (KC.out w (kn.ext.2.2.2.2.2.1 (d9_3 kn.ext.2.2.2.1 kn.ext.2.2.2.2.1 kn.ext.2.2.2.2.2.2 hD)).1).mono ?_⟩
          · simp only [execOp, resolve, Deferred.ofValue, List.map_toArray, List.map_cons, List.map_nil, e0, kn.rho.con, kn.rho.fn]
            simp [go_sem]
          · rintro e w' ⟨A1, c1, rfl, ho1, hg⟩
            obtain ⟨x1, x2, x3, x4, x5, x6, x7⟩ := kn.ext
            have d9 := d9_3 x4 x5 x7 hD
            have d8 : D 8 = false := by cases h : D 8 with | false => rfl | true => have := (x4 (x5 h).1).1.1; rw [hD] at this; cases this
            have d7 : D 7 = false := by cases h : D 7 with | false => rfl | true => have := (x4 h).1.1; rw [hD] at this; cases this
            exact ⟨_, rfl, (fun c h => by injection h with h; cases h), x1.grow hg (by simp), fun _ _ => by rw [upd_at]; exact FreshS.of ho1 (x6 d9).1.size, fun h h9 => by rw [updB_ne D (by omega)] at h h9; rw [upd_ne u _ (by omega)]; exact (x3 h h9).grown hg, (fun h => by rw [updB_ne D (by omega)] at h; rw [d7] at h; cases h), (fun h => by rw [updB_ne D (by omega)] at h; rw [d8] at h; cases h), fun _ => ⟨only_trans (x6 d9).1 hg, own_ext (x6 d9).2 hg⟩, (fun h => by rw [updB_ne D (by omega)] at h; rw [d9] at h; cases h)⟩
        · exact gd_gen (by kernel_rfl) (Want.none_ rfl) rfl (fun D u w v h => by simpa [updB, upd] using h) (fun D u ρ w kn => by
            have e0 := kn.own 7 (c := .pointer (some ⟨pa, 0, none⟩)) (by kernel_rfl) ea7
            simp [execOp, kn.rho.con, e0, go_sem])
        · exact gd_gen (by kernel_rfl) (Want.none_ rfl) rfl (fun D u w v h => by simpa [updB, upd] using h) (fun D u ρ w kn => by
            have e0 := kn.con 4 18 (c := .pointer (some ⟨pa, 1, none⟩)) (by kernel_rfl) (by omega) (by kernel_rfl) rfl
            have f0 := (cellF kn.ext.1 hpa hpO).trans p1
            simp [execOp, kn.rho.con, e0, f0, go_sem])
        · refine gd_call (by kernel_rfl) (Want.none_ rfl) 36 (fun D u ρ w kn hD => ?_)
          have e0 := kn.con 5 19 (c := .slice ta is.length tc) (by kernel_rfl) (by omega) (by kernel_rfl) rfl
          refine ⟨#[.slice ta is.length tc], ?_, (KT.out w (kn.ext.2.2.2.2.2.1 (d9_6 kn.ext.2.2.2.1 kn.ext.2.2.2.2.1 kn.ext.2.2.2.2.2.2 hD)).1).mono ?_⟩
          · simp only [execOp, resolve, Deferred.ofValue, List.map_toArray, List.map_cons, List.map_nil, e0, kn.rho.con, kn.rho.fn]
            simp [go_sem]
          · rintro e w' ⟨A1, c1, rfl, ho1, hg⟩
            obtain ⟨x1, x2, x3, x4, x5, x6, x7⟩ := kn.ext
            have d9 := d9_6 x4 x5 x7 hD
            have d8 : D 8 = false := by cases h : D 8 with | false => rfl | true => have := (x4 (x5 h).1).1.2; rw [hD] at this; cases this
            have d7 : D 7 = false := by cases h : D 7 with | false => rfl | true => have := (x4 h).1.2; rw [hD] at this; cases this
            exact ⟨_, rfl, (fun c h => by injection h with h; cases h), x1.grow hg (by simp), fun h h9 => by rw [updB_ne D (by omega)] at h h9; rw [upd_ne u _ (by omega)]; exact (x2 h h9).grown hg, fun _ _ => by rw [upd_at]; exact FreshS.of ho1 (x6 d9).1.size, (fun h => by rw [updB_ne D (by omega)] at h; rw [d7] at h; cases h), (fun h => by rw [updB_ne D (by omega)] at h; rw [d8] at h; cases h), fun _ => ⟨only_trans (x6 d9).1 hg, own_ext (x6 d9).2 hg⟩, (fun h => by rw [updB_ne D (by omega)] at h; rw [d9] at h; cases h)⟩
        · refine gd_eff (by kernel_rfl) (Want.none_ rfl) (fun D u ρ w kn hD => ?_)
          have e0 := kn.slot 3 17 (by kernel_rfl) (by omega)
          have e1 := kn.slot 6 20 (by kernel_rfl) (by omega)
          have d3 := kn.dep 3 (by kernel_rfl)
          have d6 := kn.dep 6 (by kernel_rfl)
          obtain ⟨x1, x2, x3, x4, x5, x6, x7⟩ := kn.ext
          have d8 : D 8 = false := by cases h : D 8 with | false => rfl | true => have := (x5 h).1; rw [hD] at this; cases this
          have d9 : D 9 = false := by cases h : D 9 with | false => rfl | true => have := (x7 h).1; rw [d8] at this; cases this
          obtain ⟨A2, c2, y2, -⟩ := x2 d3 d9
          obtain ⟨A5, c5, y5, -⟩ := x3 d6 d9
          rw [y2] at e0
          rw [y5] at e1
          refine ⟨.agg (rArr (u 3) (u 6)), w, by rw [y2, y5]; simp [execOp, kn.rho.con, e0, e1, go_sem], (fun c h => by injection h with h; cases h), x1, fun h h9 => by rw [upd_ne u _ (by omega)]; exact x2 d3 d9, fun h h9 => by rw [upd_ne u _ (by omega)]; exact x3 d6 d9, fun _ => ⟨⟨by rw [updB_ne D (by omega)]; exact d3, by rw [updB_ne D (by omega)]; exact d6⟩, by rw [upd_at, upd_ne u _ (by omega), upd_ne u _ (by omega)]⟩, (fun h => by rw [updB_ne D (by omega)] at h; rw [d8] at h; cases h), fun _ => x6 d9, (fun h => by rw [updB_ne D (by omega)] at h; rw [d9] at h; cases h)⟩
        · refine gd_eff (by kernel_rfl) (Want.none_ rfl) (fun D u ρ w kn hD => ?_)
          have e0 := kn.slot 7 21 (by kernel_rfl) (by omega)
          have d7 := kn.dep 7 (by kernel_rfl)
          obtain ⟨x1, x2, x3, x4, x5, x6, x7⟩ := kn.ext
          have d9 : D 9 = false := by cases h : D 9 with | false => rfl | true => have := (x7 h).1; rw [hD] at this; cases this
          rw [(x4 d7).2] at e0
          have hg : w.grownBy (w.alloc (.cells (rArr (u 3) (u 6)) 49)) none := World.grownBy_alloc w _ none
          obtain ⟨A2, c2, y2, -⟩ := x2 (x4 d7).1.1 d9
          obtain ⟨A5, c5, y5, -⟩ := x3 (x4 d7).1.2 d9
          refine ⟨.slice (some ⟨w.heap.size, 0, none⟩) 1 1, w.alloc (.cells (rArr (u 3) (u 6)) 49), by rw [y2, y5] at e0 ⊢; simp [execOp, kn.rho.con, e0, go_sem], (fun c h => by injection h with h; cases h), x1.alloc _, fun h h9 => by rw [updB_ne D (by omega)] at h; rw [upd_ne u _ (by omega)]; exact (x2 h d9).grown hg, fun h h9 => by rw [updB_ne D (by omega)] at h; rw [upd_ne u _ (by omega)]; exact (x3 h d9).grown hg, fun _ => ⟨⟨by rw [updB_ne D (by omega)]; exact (x4 d7).1.1, by rw [updB_ne D (by omega)]; exact (x4 d7).1.2⟩, by rw [upd_ne u _ (by omega), upd_ne u _ (by omega), upd_ne u _ (by omega)]; exact (x4 d7).2⟩, fun _ => ⟨by rw [updB_ne D (by omega)]; exact d7, fun _ => ⟨w.heap.size, by rw [upd_at], (x6 d9).1.size, by rw [upd_ne u _ (by omega), upd_ne u _ (by omega)]; exact Blk.new _ _ _⟩⟩, fun _ => ⟨only_trans (x6 d9).1 hg, own_ext (x6 d9).2 hg⟩, (fun h => by rw [updB_ne D (by omega)] at h; rw [d9] at h; cases h)⟩
        · refine gd_eff (by kernel_rfl) (Want.none_ rfl) (fun D u ρ w kn hD => ?_)
          have e0 := kn.con 0 14 (c := vO) (by kernel_rfl) (by omega) (by kernel_rfl) rfl
          have e1 := kn.slot 8 22 (by kernel_rfl) (by omega)
          have d8 := kn.dep 8 (by kernel_rfl)
          obtain ⟨x1, x2, x3, x4, x5, x6, x7⟩ := kn.ext
          obtain ⟨d7, y8⟩ := x5 d8
          obtain ⟨b, z1, z2, z3⟩ := y8 hD
          obtain ⟨⟨d3, d6⟩, e7⟩ := x4 d7
          have y3 := x2 d3 hD
          have y6 := x3 d6 hD
          obtain ⟨A2, c2, q2, -⟩ := x2 d3 hD
          obtain ⟨A5, c5, q5, -⟩ := x3 d6 hD
          rw [q2] at y3 z3
          rw [q5] at y6 z3
          obtain ⟨v', w', hr, hg, hR⟩ := rows_app (W := W) (x6 hD).2 y3 y6 z3 z2 hvO (by omega) hbW (x6 hD).1.size
          rw [← z1] at hr
          exact ⟨v', w', exec_append rfl e0 e1 hr, (fun c h => by injection h with h; cases h), x1.grow hg (fun g hg => .inl hg), (fun _ h => by rw [updB_at] at h; cases h), (fun _ h => by rw [updB_at] at h; cases h), fun _ => ⟨⟨by rw [updB_ne D (by omega)]; exact d3, by rw [updB_ne D (by omega)]; exact d6⟩, by rw [upd_ne u _ (by omega), upd_ne u _ (by omega), upd_ne u _ (by omega)]; exact e7⟩, fun _ => ⟨by rw [updB_ne D (by omega)]; exact d7, (fun h => by rw [updB_at] at h; cases h)⟩, (fun h => by rw [updB_at] at h; cases h), fun _ => ⟨by rw [updB_ne D (by omega)]; exact d8, by rw [upd_at]; exact hR⟩⟩
      · intro D u w5 hJ hD
        obtain ⟨hc, x1, x2, x3, x4, x5, x6, x7⟩ := hJ
        obtain ⟨-, r, hr, hown, hsub, hnew⟩ := x7 (hD 9 (by omega))
        obtain ⟨AO, cO, hv5, -, -, -, -⟩ := Rd.of_own hown (by decide)
        simp only [List.take_succ_cons, List.take_zero, List.drop_succ_cons, List.drop_zero, putAll]
        rw [hv5] at hown hsub hnew ⊢
        have OUT := Lib.hid (ho3.out.snoc hown hsub hnew x1 hbW)
        have G5 : Hid (w0.grownBy w5 none) := Lib.hid (x1.none_ (only_trans G.out GW.out) (fun i hi => (ho3.out.own.lt i hi).1))
        have HR5 : Hid ((rs ++ [r]).map RwD.pl = (ps.take (k + 1)).map (fun p => rowP p.pl)) := Lib.hid (by rw [HNX.out, List.map_append, HR.out, List.map_singleton, hr])
        have HL5 : Hid ((rs ++ [r]).length = k + 1) := Lib.hid (by have := HRL.out; simp; omega)
        have hll : (rs ++ [r]).length = rs.length + 1 := by simp
        clear hc x1 x2 x3 x4 x5 x6 x7 hown hsub hnew hv5 hr hD KC KT p0 p1
        go_wp2_with fail
        go_roundw
        case rel => exact ⟨k + 1, rs ++ [r], by go_num, by omega, HL5.out, HR5.out, OUT.out, G5.out⟩
        case measure => simp [intOf]; omega
    · have j1 : ¬ (k : Int) < (ps.length : Int) := by omega
      obtain ⟨AO, cO, hv5, hv1, hv2, -, hv3⟩ := Rd.of_own OO.out.own (by decide)
      rw [hv5] at OO ⊢
      have HV : Hid (rs.length ≤ cO ∧ cO ≤ maxLen) := Lib.hid ⟨hv1, hv2⟩
      clear hv1 hv2
      have hR2 : rs.map RwD.pl = (ps.map PD.pl).map rowP := by
        rw [HR.out, List.take_of_length_le (by omega), List.map_map]; rfl
      have HR2 := Lib.hid hR2
      have HV3 := Lib.hid hv3
      clear hR2 hv5 hv3
      go_wp2_with fail
      go_ret
      exact ⟨AO, cO, rs, rfl, HR2.out, HV.out.1, HV.out.2, ⟨HV3.out, fun r hr => (OO.out.sub r hr).mono (fun b hb _ => hb.1)⟩, G.out⟩
end Go.Proofs.YtfkgcighooijhaaGreatDoor

namespace Go.Proofs.YtfkgcighooijhaaGreatDoor
open Go.RowKit
set_option linter.unusedVariables false
set_option linter.unusedSimpArgs false

theorem fresh_app {S : Nat → Prop} {W w : World} {T e : TypeId} {z : Value} {bytes : Nat} (ht : Tryz.prog.underlying T = some (.slice e)) (hi : (Tryz.prog.info? e).map (fun i => (i.zero, i.size, i.bytes)) = some (some z, 1, bytes)) (hzs : z.cells.size = 1) (hb : bytes ≤ 1000) (A : Option Addr) (n c : Nat) {xs : List Value} (hr : Rd S w A xs) (hl : xs.length = n) (h1 : ∀ u ∈ xs, u.oneCell' = true) (hn : n ≤ 1000000) (hW : W.heap.size ≤ w.heap.size) :
    ∃ v' w', (Builtin.append_ #[T, T] T #[.slice none 0 0, .slice A n c]).run Tryz.prog w = .ok v' w' ∧ FreshS W.heap.size xs n e w' v' ∧ w.grownBy w' none := by
  obtain ⟨v', w', h2, ho, hg, -⟩ := run_appendN (P := Tryz.prog) W.heap.size T T ht hi hzs (by decide) (World.ownsRow_nil w W.heap.size e 1) A n c hr (by omega) h1 hb (by omega) hW
  rw [Nat.zero_add, List.nil_append] at ho
  obtain ⟨A', c', e1, -, -, -, -⟩ := Rd.of_own ho (by decide)
  subst e1
  exact ⟨_, w', h2, FreshS.of ho (Nat.le_refl _), hg⟩
theorem d9_6' {D : Nat → Bool} {P7 P8 P9 : Prop} (h4 : D 13 = true → (D 6 = true ∧ D 12 = true) ∧ P7) (h5 : D 14 = true → D 13 = true ∧ P8) (h7 : D 15 = true → D 14 = true ∧ P9) (h : D 6 = false) : D 15 = false := by
  cases e : D 15 with
  | false => rfl
  | true => rw [(h4 (h5 (h7 e).1).1).1.1] at h; cases h
theorem d9_12' {D : Nat → Bool} {P7 P8 P9 : Prop} (h4 : D 13 = true → (D 6 = true ∧ D 12 = true) ∧ P7) (h5 : D 14 = true → D 13 = true ∧ P8) (h7 : D 15 = true → D 14 = true ∧ P9) (h : D 12 = false) : D 15 = false := by
  cases e : D 15 with
  | false => rfl
  | true => rw [(h4 (h5 (h7 e).1).1).1.2] at h; cases h
set_option maxHeartbeats 16000000 in
set_option maxRecDepth 100000 in
theorem rrows_any {S : Nat → Prop} (Aa : Option Addr) (na ca : Nat) (A : Option Addr) (ps : List PD) (c : Nat) (w0 : World) (hA : PDs S w0 A ps) (hl : ps.length ≤ 100000) (hko : ∀ p ∈ ps, p.cs.length ≤ 1000 ∧ p.key.l.length ≤ 100000) :
    Calls Tryz.prog 24 #[.slice Aa na ca, .slice A ps.length c] w0 (RowsP w0 (ps.map PD.pl)) := by
  have HA := Lib.hid hA
  have HKO := Lib.hid hko
  clear hA hko
  go_enter Tryz.func24, Tryz.ntmps24
  go_wp2_with fail
  go_loopw [6, 5] (fun v1 v2 wr => ∃ (k : Nat) (rs : List RwD), v1 = .int .i64 k ∧ k ≤ ps.length ∧ rs.length = k ∧ rs.map RwD.pl = (ps.take k).map (fun p => rowP p.pl) ∧ RRow w0.heap.size wr v2 rs ∧ w0.grownBy wr none) (fun v1 _ _ => ps.length - (intOf v1).toNat)
  case atStart => exact ⟨0, [], rfl, Nat.zero_le _, rfl, rfl, RRow.nil _ _, only_refl _ _⟩
  case round =>
    obtain ⟨k, rs, rfl, hk, hrl, hR, hO, hG⟩ := hrel
    have HR := Lib.hid hR
    have OO := Lib.hid hO
    have G := Lib.hid hG
    have HRL := Lib.hid hrl
    have hrl' : rs.length ≤ 100000 := by omega
    have hbase : w0.heap.size ≤ wr.heap.size := hG.size
    clear hR hO hG hrl
    obtain ⟨vO, hvOd⟩ : ∃ v, v = u5 := ⟨_, rfl⟩
    rw [← hvOd] at OO ⊢
    clear hvOd
    by_cases hlt : k < ps.length
    · obtain ⟨x, hx⟩ : ∃ x, ps[k]? = some x := ⟨_, List.getElem?_eq_getElem hlt⟩
      have hxs := (HA.out.2 x (List.mem_of_getElem? hx)).grown G.out (by simp)
      have hxo := HKO.out x (List.mem_of_getElem? hx)
      obtain ⟨bA, oA, eA, hbA, a0, a1, a2, a3⟩ := pd_in (HA.out.1.grown G.out (by simp)) hx
      subst eA
      have hb0 : bA < w0.heap.size := by
        obtain ⟨b', o', e', h', -⟩ := pd_in HA.out.1 hx
        injection e' with e'
        injection e' with e1 _
        omega
      have HNX : Hid ((ps.take (k + 1)).map (fun p => rowP p.pl) = (ps.take k).map (fun p => rowP p.pl) ++ [(x.key.l, x.cs.map (·.t))]) := Lib.hid (by
        obtain ⟨h1, e⟩ := List.getElem?_eq_some_iff.1 hx
        rw [List.take_succ_eq_append_getElem h1, e, List.map_append]
        simp [rowP, PD.pl, CM.pl])
      obtain ⟨h1, h2, -, -, -, -, -, -, -, -, -, h6, -⟩ := hxs
      have hko := hxo.2
      have hcs := hxo.1
      have RK := Lib.hid h1.1
      have RT : Hid (Rd S wr x.ta ((x.cs.map (·.t)).map (.int .i64))) := Lib.hid (by rw [List.map_map]; exact h2)
      have hkn : x.key.l.length ≤ 1000000 := by omega
      have hcn : x.cs.length ≤ 1000000 := by omega
      obtain ⟨is, his⟩ : ∃ l, l = x.cs.map (·.t) := ⟨_, rfl⟩
      have hil : x.cs.length = is.length := by rw [his, List.length_map]
      rw [← his] at RT HNX
      rw [hil] at hcn a1 a2 a3
      obtain ⟨kl, hkl⟩ : ∃ l, l = x.key.l := ⟨_, rfl⟩
      obtain ⟨ka, hka⟩ : ∃ l, l = x.key.a := ⟨_, rfl⟩
      obtain ⟨kc, hkc⟩ : ∃ l, l = x.key.c := ⟨_, rfl⟩
      obtain ⟨ta, hta⟩ : ∃ l, l = x.ta := ⟨_, rfl⟩
      obtain ⟨tc, htc⟩ : ∃ l, l = x.tc := ⟨_, rfl⟩
      obtain ⟨sa, hsa⟩ : ∃ l, l = x.sa := ⟨_, rfl⟩
      obtain ⟨sc, hsc⟩ : ∃ l, l = x.sc := ⟨_, rfl⟩
      obtain ⟨va, hva⟩ : ∃ l, l = x.va := ⟨_, rfl⟩
      obtain ⟨vc, hvc⟩ : ∃ l, l = x.vc := ⟨_, rfl⟩
      rw [← hkl] at HNX RK a0 hkn
      rw [← hka] at RK a0
      rw [← hkc] at a0
      rw [← hta] at RT a1
      rw [← htc] at a1
      rw [← hsa, ← hsc] at a2
      rw [← hva, ← hvc] at a3
      have j1 : (k : Int) < (ps.length : Int) := by omega
      clear hx hxo h1 h2 h6 hko hcs his hil hkl hka hkc hta htc hsa hsc hva hvc
      go_upto_region 5 with fail
      obtain ⟨W, rfl⟩ : ∃ W, W = wr := ⟨_, rfl⟩
      have hvO : ∀ g, Value.ownBlock vO = some g → g < W.heap.size := fun g hg => (OO.out.own.lt g hg).2
      have hbW : w0.heap.size ≤ W.heap.size := hbase
      have ho3 := OO
      have HRO := Lib.hid ho3.out.own
      have hpO : ¬ (Value.ownBlock vO = some bA) := fun e => by have := (OO.out.own.lt _ e).1; omega
      have FX : Hid (∀ w', W.grownBy w' none → W.heap.size ≤ w'.heap.size) := Lib.hid (fun w' hg => hg.size)
      refine wp_region_gen 16 (JC [some (vO), some (.slice (some ⟨bA, oA, none⟩) (ps.length) (c)), some (.int .i64 (k)), some (.pointer (some ⟨bA, oA + k * 4, none⟩)), some (.pointer (some ⟨bA, oA + k * 4, none⟩)), some (.slice ka kl.length kc), none, some (.slice (some ⟨bA, oA, none⟩) (ps.length) (c)), some (.int .i64 (k)), some (.pointer (some ⟨bA, oA + k * 4, none⟩)), some (.pointer (some ⟨bA, oA + k * 4 + 1, none⟩)), some (.slice ta is.length tc), none, none, none, none] (fun D u w => FrN (fun i => Value.ownBlock vO = some i) W w ∧ (D 6 = true → D 15 = false → FreshS W.heap.size (kl.map .string) kl.length 9 w (u 6)) ∧ (D 12 = true → D 15 = false → FreshS W.heap.size (is.map (.int .i64)) is.length 3 w (u 12)) ∧ (D 13 = true → (D 6 = true ∧ D 12 = true) ∧ u 13 = .agg (rArr (u 6) (u 12))) ∧ (D 14 = true → D 13 = true ∧ (D 15 = false → ∃ b, u 14 = .slice (some ⟨b, 0, none⟩) 1 1 ∧ W.heap.size ≤ b ∧ Blk w b 49 (rArr (u 6) (u 12)))) ∧ (D 15 = false → W.grownBy w none ∧ w.ownsRow w0.heap.size 49 3 vO rs.length (rs.flatMap RwD.cells)) ∧ (D 15 = true → D 14 = true ∧ ∃ r : RwD, r.pl = (kl, is) ∧ w.ownsRow w0.heap.size 49 3 (u 15) (rs.length + 1) (rs.flatMap RwD.cells ++ r.cells) ∧ r.Sub (fun b => W.heap.size ≤ b ∧ Value.ownBlock (u 15) ≠ some b) w ∧ ∀ g, Value.ownBlock (u 15) = some g → Value.ownBlock vO = some g ∨ W.heap.size ≤ g))) (by kernel_rfl) (by kernel_rfl) ?_ ?_ ?_
      · intro u
        exact ⟨(fun j c _ h => by cases h), FrN.refl _ _, (fun h => by cases h), (fun h => by cases h), (fun h => by cases h), (fun h => by cases h), fun _ => ⟨only_drew (only_refl _ _), HRO.out⟩, (fun h => by cases h)⟩
      · intro AA hA
        have hasz : AA.tmps.size = 30 := by rw [hA]; kernel_rfl
        have ea1 : AA.eval (.tmp 1) = .slice (some ⟨bA, oA, none⟩) (ps.length) (c) := by rw [hA]; kernel_rfl
        have ea5 : AA.eval (.tmp 5) = vO := by rw [hA]; kernel_rfl
        have ea6 : AA.eval (.tmp 6) = .int .i64 (k) := by rw [hA]; kernel_rfl
        clear hA
        simp only [List.take_succ_cons, List.take_zero]
        refine .cons ?_ (.cons ?_ (.cons ?_ (.cons ?_ (.cons ?_ (.cons ?_ (.cons ?_ (.cons ?_ (.cons ?_ (.cons ?_ (.cons ?_ (.cons ?_ (.cons ?_ (.cons ?_ (.cons ?_ (.cons ?_ (.nil))))))))))))))))
        · exact gd_gen (by kernel_rfl) (Want.none_ rfl) rfl (fun D u w v h => by simpa [updB, upd] using h) (fun D u ρ w kn => by
            have e0 := kn.own 5 (c := vO) (by kernel_rfl) ea5
            simp [execOp, kn.rho.con, e0, go_sem])
        · exact gd_gen (by kernel_rfl) (Want.none_ rfl) rfl (fun D u w v h => by simpa [updB, upd] using h) (fun D u ρ w kn => by
            have e0 := kn.own 1 (c := .slice (some ⟨bA, oA, none⟩) (ps.length) (c)) (by kernel_rfl) ea1
            simp [execOp, kn.rho.con, e0, go_sem])
        · exact gd_gen (by kernel_rfl) (Want.none_ rfl) rfl (fun D u w v h => by simpa [updB, upd] using h) (fun D u ρ w kn => by
            have e0 := kn.own 6 (c := .int .i64 (k)) (by kernel_rfl) ea6
            simp [execOp, kn.rho.con, e0, go_sem])
        · exact gd_gen (by kernel_rfl) (Want.none_ rfl) rfl (fun D u w v h => by simpa [updB, upd] using h) (fun D u ρ w kn => by
            have e0 := kn.con 1 14 (c := .slice (some ⟨bA, oA, none⟩) (ps.length) (c)) (by kernel_rfl) (by omega) (by kernel_rfl) rfl
            have e1 := kn.con 2 15 (c := .int .i64 (k)) (by kernel_rfl) (by omega) (by kernel_rfl) rfl
            simp [execOp, kn.rho.con, e0, e1, go_sem, j1])
        · exact gd_gen (by kernel_rfl) (Want.none_ rfl) rfl (fun D u w v h => by simpa [updB, upd] using h) (fun D u ρ w kn => by
            have e0 := kn.con 3 16 (c := .pointer (some ⟨bA, oA + k * 4, none⟩)) (by kernel_rfl) (by omega) (by kernel_rfl) rfl
            simp [execOp, kn.rho.con, e0, go_sem])
        · exact gd_gen (by kernel_rfl) (Want.none_ rfl) rfl (fun D u w v h => by simpa [updB, upd] using h) (fun D u ρ w kn => by
            have e0 := kn.con 4 17 (c := .pointer (some ⟨bA, oA + k * 4, none⟩)) (by kernel_rfl) (by omega) (by kernel_rfl) rfl
            have f0 := (cellF kn.ext.1 hbA hpO).trans a0
            simp [execOp, kn.rho.con, e0, f0, go_sem])
        · refine gd_eff (by kernel_rfl) (Want.none_ rfl) (fun D u ρ w kn hD => ?_)
          have e0 := kn.con 5 18 (c := .slice ka kl.length kc) (by kernel_rfl) (by omega) (by kernel_rfl) rfl
          obtain ⟨x1, x2, x3, x4, x5, x6, x7⟩ := kn.ext
          have d9 := d9_6' x4 x5 x7 hD
          have d8 : D 14 = false := by cases h : D 14 with | false => rfl | true => have := (x4 (x5 h).1).1.1; rw [hD] at this; cases this
          have d7 : D 13 = false := by cases h : D 13 with | false => rfl | true => have := (x4 h).1.1; rw [hD] at this; cases this
          obtain ⟨v', w', hr, hF, hg⟩ := fresh_app (W := W) Tryz.underlying24 strInfo rfl (by decide) _ _ _ (RK.out.grown (x6 d9).1 (by simp)) (by simp) (by intro u hu; obtain ⟨s, -, rfl⟩ := List.mem_map.1 hu; rfl) hkn (x6 d9).1.size
          exact ⟨v', w', exec_append rfl (kn.rho.con _) e0 hr, (fun c h => by injection h with h; cases h), x1.grow hg (by simp), fun _ _ => by rw [upd_at]; exact hF, fun h h9 => by rw [updB_ne D (by omega)] at h h9; rw [upd_ne u _ (by omega)]; exact (x3 h h9).grown hg, (fun h => by rw [updB_ne D (by omega)] at h; rw [d7] at h; cases h), (fun h => by rw [updB_ne D (by omega)] at h; rw [d8] at h; cases h), fun _ => ⟨only_trans (x6 d9).1 hg, own_ext (x6 d9).2 hg⟩, (fun h => by rw [updB_ne D (by omega)] at h; rw [d9] at h; cases h)⟩
        · exact gd_gen (by kernel_rfl) (Want.none_ rfl) rfl (fun D u w v h => by simpa [updB, upd] using h) (fun D u ρ w kn => by
            have e0 := kn.own 1 (c := .slice (some ⟨bA, oA, none⟩) (ps.length) (c)) (by kernel_rfl) ea1
            simp [execOp, kn.rho.con, e0, go_sem])
        · exact gd_gen (by kernel_rfl) (Want.none_ rfl) rfl (fun D u w v h => by simpa [updB, upd] using h) (fun D u ρ w kn => by
            have e0 := kn.own 6 (c := .int .i64 (k)) (by kernel_rfl) ea6
            simp [execOp, kn.rho.con, e0, go_sem])
        · exact gd_gen (by kernel_rfl) (Want.none_ rfl) rfl (fun D u w v h => by simpa [updB, upd] using h) (fun D u ρ w kn => by
            have e0 := kn.con 7 20 (c := .slice (some ⟨bA, oA, none⟩) (ps.length) (c)) (by kernel_rfl) (by omega) (by kernel_rfl) rfl
            have e1 := kn.con 8 21 (c := .int .i64 (k)) (by kernel_rfl) (by omega) (by kernel_rfl) rfl
            simp [execOp, kn.rho.con, e0, e1, go_sem, j1])
        · exact gd_gen (by kernel_rfl) (Want.none_ rfl) rfl (fun D u w v h => by simpa [updB, upd] using h) (fun D u ρ w kn => by
            have e0 := kn.con 9 22 (c := .pointer (some ⟨bA, oA + k * 4, none⟩)) (by kernel_rfl) (by omega) (by kernel_rfl) rfl
            simp [execOp, kn.rho.con, e0, go_sem])
        · exact gd_gen (by kernel_rfl) (Want.none_ rfl) rfl (fun D u w v h => by simpa [updB, upd] using h) (fun D u ρ w kn => by
            have e0 := kn.con 10 23 (c := .pointer (some ⟨bA, oA + k * 4 + 1, none⟩)) (by kernel_rfl) (by omega) (by kernel_rfl) rfl
            have f0 := (cellF kn.ext.1 hbA hpO).trans a1
            simp [execOp, kn.rho.con, e0, f0, go_sem])
        · refine gd_eff (by kernel_rfl) (Want.none_ rfl) (fun D u ρ w kn hD => ?_)
          have e0 := kn.con 11 24 (c := .slice ta is.length tc) (by kernel_rfl) (by omega) (by kernel_rfl) rfl
          obtain ⟨x1, x2, x3, x4, x5, x6, x7⟩ := kn.ext
          have d9 := d9_12' x4 x5 x7 hD
          have d8 : D 14 = false := by cases h : D 14 with | false => rfl | true => have := (x4 (x5 h).1).1.2; rw [hD] at this; cases this
          have d7 : D 13 = false := by cases h : D 13 with | false => rfl | true => have := (x4 h).1.2; rw [hD] at this; cases this
          obtain ⟨v', w', hr, hF, hg⟩ := fresh_app (W := W) Tryz.underlying47 intInfo37 rfl (by decide) _ _ _ (RT.out.grown (x6 d9).1 (by simp)) (by simp) (by intro u hu; obtain ⟨s, -, rfl⟩ := List.mem_map.1 hu; rfl) hcn (x6 d9).1.size
          exact ⟨v', w', exec_append rfl (kn.rho.con _) e0 hr, (fun c h => by injection h with h; cases h), x1.grow hg (by simp), fun h h9 => by rw [updB_ne D (by omega)] at h h9; rw [upd_ne u _ (by omega)]; exact (x2 h h9).grown hg, fun _ _ => by rw [upd_at]; exact hF, (fun h => by rw [updB_ne D (by omega)] at h; rw [d7] at h; cases h), (fun h => by rw [updB_ne D (by omega)] at h; rw [d8] at h; cases h), fun _ => ⟨only_trans (x6 d9).1 hg, own_ext (x6 d9).2 hg⟩, (fun h => by rw [updB_ne D (by omega)] at h; rw [d9] at h; cases h)⟩
        · refine gd_eff (by kernel_rfl) (Want.none_ rfl) (fun D u ρ w kn hD => ?_)
          have e0 := kn.slot 6 19 (by kernel_rfl) (by omega)
          have e1 := kn.slot 12 25 (by kernel_rfl) (by omega)
          have d3 := kn.dep 6 (by kernel_rfl)
          have d6 := kn.dep 12 (by kernel_rfl)
          obtain ⟨x1, x2, x3, x4, x5, x6, x7⟩ := kn.ext
          have d8 : D 14 = false := by cases h : D 14 with | false => rfl | true => have := (x5 h).1; rw [hD] at this; cases this
          have d9 : D 15 = false := by cases h : D 15 with | false => rfl | true => have := (x7 h).1; rw [d8] at this; cases this
          obtain ⟨A2, c2, y2, -⟩ := x2 d3 d9
          obtain ⟨A5, c5, y5, -⟩ := x3 d6 d9
          rw [y2] at e0
          rw [y5] at e1
          refine ⟨.agg (rArr (u 6) (u 12)), w, by rw [y2, y5]; simp [execOp, kn.rho.con, e0, e1, go_sem], (fun c h => by injection h with h; cases h), x1, fun h h9 => by rw [upd_ne u _ (by omega)]; exact x2 d3 d9, fun h h9 => by rw [upd_ne u _ (by omega)]; exact x3 d6 d9, fun _ => ⟨⟨by rw [updB_ne D (by omega)]; exact d3, by rw [updB_ne D (by omega)]; exact d6⟩, by rw [upd_at, upd_ne u _ (by omega), upd_ne u _ (by omega)]⟩, (fun h => by rw [updB_ne D (by omega)] at h; rw [d8] at h; cases h), fun _ => x6 d9, (fun h => by rw [updB_ne D (by omega)] at h; rw [d9] at h; cases h)⟩
        · refine gd_eff (by kernel_rfl) (Want.none_ rfl) (fun D u ρ w kn hD => ?_)
          have e0 := kn.slot 13 26 (by kernel_rfl) (by omega)
          have d7 := kn.dep 13 (by kernel_rfl)
          obtain ⟨x1, x2, x3, x4, x5, x6, x7⟩ := kn.ext
          have d9 : D 15 = false := by cases h : D 15 with | false => rfl | true => have := (x7 h).1; rw [hD] at this; cases this
          rw [(x4 d7).2] at e0
          have hg : w.grownBy (w.alloc (.cells (rArr (u 6) (u 12)) 49)) none := World.grownBy_alloc w _ none
          obtain ⟨A2, c2, y2, -⟩ := x2 (x4 d7).1.1 d9
          obtain ⟨A5, c5, y5, -⟩ := x3 (x4 d7).1.2 d9
          refine ⟨.slice (some ⟨w.heap.size, 0, none⟩) 1 1, w.alloc (.cells (rArr (u 6) (u 12)) 49), by rw [y2, y5] at e0 ⊢; simp [execOp, kn.rho.con, e0, go_sem], (fun c h => by injection h with h; cases h), x1.alloc _, fun h h9 => by rw [updB_ne D (by omega)] at h; rw [upd_ne u _ (by omega)]; exact (x2 h d9).grown hg, fun h h9 => by rw [updB_ne D (by omega)] at h; rw [upd_ne u _ (by omega)]; exact (x3 h d9).grown hg, fun _ => ⟨⟨by rw [updB_ne D (by omega)]; exact (x4 d7).1.1, by rw [updB_ne D (by omega)]; exact (x4 d7).1.2⟩, by rw [upd_ne u _ (by omega), upd_ne u _ (by omega), upd_ne u _ (by omega)]; exact (x4 d7).2⟩, fun _ => ⟨by rw [updB_ne D (by omega)]; exact d7, fun _ => ⟨w.heap.size, by rw [upd_at], (x6 d9).1.size, by rw [upd_ne u _ (by omega), upd_ne u _ (by omega)]; exact Blk.new _ _ _⟩⟩, fun _ => ⟨only_trans (x6 d9).1 hg, own_ext (x6 d9).2 hg⟩, (fun h => by rw [updB_ne D (by omega)] at h; rw [d9] at h; cases h)⟩
        · refine gd_eff (by kernel_rfl) (Want.none_ rfl) (fun D u ρ w kn hD => ?_)
          have e0 := kn.con 0 13 (c := vO) (by kernel_rfl) (by omega) (by kernel_rfl) rfl
          have e1 := kn.slot 14 27 (by kernel_rfl) (by omega)
          have d8 := kn.dep 14 (by kernel_rfl)
          obtain ⟨x1, x2, x3, x4, x5, x6, x7⟩ := kn.ext
          obtain ⟨d7, y8⟩ := x5 d8
          obtain ⟨b, z1, z2, z3⟩ := y8 hD
          obtain ⟨⟨d3, d6⟩, e7⟩ := x4 d7
          have y3 := x2 d3 hD
          have y6 := x3 d6 hD
          obtain ⟨A2, c2, q2, -⟩ := x2 d3 hD
          obtain ⟨A5, c5, q5, -⟩ := x3 d6 hD
          rw [q2] at y3 z3
          rw [q5] at y6 z3
          obtain ⟨v', w', hr, hg, hR⟩ := rows_app (W := W) (x6 hD).2 y3 y6 z3 z2 hvO (by omega) hbW (x6 hD).1.size
          rw [← z1] at hr
          exact ⟨v', w', exec_append rfl e0 e1 hr, (fun c h => by injection h with h; cases h), x1.grow hg (fun g hg => .inl hg), (fun _ h => by rw [updB_at] at h; cases h), (fun _ h => by rw [updB_at] at h; cases h), fun _ => ⟨⟨by rw [updB_ne D (by omega)]; exact d3, by rw [updB_ne D (by omega)]; exact d6⟩, by rw [upd_ne u _ (by omega), upd_ne u _ (by omega), upd_ne u _ (by omega)]; exact e7⟩, fun _ => ⟨by rw [updB_ne D (by omega)]; exact d7, (fun h => by rw [updB_at] at h; cases h)⟩, (fun h => by rw [updB_at] at h; cases h), fun _ => ⟨by rw [updB_ne D (by omega)]; exact d8, by rw [upd_at]; exact hR⟩⟩
      · intro D u w5 hJ hD
        obtain ⟨hc, x1, x2, x3, x4, x5, x6, x7⟩ := hJ
        obtain ⟨-, r, hr, hown, hsub, hnew⟩ := x7 (hD 15 (by omega))
        obtain ⟨AO, cO, hv5, -, -, -, -⟩ := Rd.of_own hown (by decide)
        simp only [List.take_succ_cons, List.take_zero, List.drop_succ_cons, List.drop_zero, putAll]
        rw [hv5] at hown hsub hnew ⊢
        have OUT := Lib.hid (ho3.out.snoc hown hsub hnew x1 hbW)
        have G5 : Hid (w0.grownBy w5 none) := Lib.hid (x1.none_ G.out (fun i hi => (ho3.out.own.lt i hi).1))
        have HR5 : Hid ((rs ++ [r]).map RwD.pl = (ps.take (k + 1)).map (fun p => rowP p.pl)) := Lib.hid (by rw [HNX.out, List.map_append, HR.out, List.map_singleton, hr])
        have HL5 : Hid ((rs ++ [r]).length = k + 1) := Lib.hid (by have := HRL.out; simp; omega)
        have hll : (rs ++ [r]).length = rs.length + 1 := by simp
        clear hc x1 x2 x3 x4 x5 x6 x7 hown hsub hnew hv5 hr hD RK RT a0 a1 a2 a3
        go_wp2_with fail
        go_roundw
        case rel => exact ⟨k + 1, rs ++ [r], by go_num, by omega, HL5.out, HR5.out, OUT.out, G5.out⟩
        case measure => simp [intOf]; omega
    · have j1 : ¬ (k : Int) < (ps.length : Int) := by omega
      obtain ⟨AO, cO, hv5, hv1, hv2, -, hv3⟩ := Rd.of_own OO.out.own (by decide)
      rw [hv5] at OO ⊢
      have HV : Hid (rs.length ≤ cO ∧ cO ≤ maxLen) := Lib.hid ⟨hv1, hv2⟩
      clear hv1 hv2
      have hR2 : rs.map RwD.pl = (ps.map PD.pl).map rowP := by
        rw [HR.out, List.take_of_length_le (by omega), List.map_map]; rfl
      have HR2 := Lib.hid hR2
      have HV3 := Lib.hid hv3
      clear hR2 hv5 hv3
      go_wp2_with fail
      go_ret
      exact ⟨AO, cO, rs, rfl, HR2.out, HV.out.1, HV.out.2, ⟨HV3.out, fun r hr => (OO.out.sub r hr).mono (fun b hb _ => hb.1)⟩, G.out⟩
end Go.Proofs.YtfkgcighooijhaaGreatDoor

namespace Go.Proofs.YtfkgcighooijhaaGreatDoor
open Go.RowKit
set_option linter.unusedVariables false
set_option linter.unusedSimpArgs false

theorem rd_get {S : Nat → Prop} {w : World} {A : Option Addr} {xs : List Value} (h : Rd S w A xs) {k : Nat} {v : Value} (hv : xs[k]? = some v) : ∃ b off, A = some ⟨b, off, none⟩ ∧ b < w.heap.size ∧ w.cell? ⟨b, off + k, none⟩ = some v := by
  have hk := (List.getElem?_eq_some_iff.1 hv).1
  obtain ⟨b, off, e, _, hlt, hc⟩ := h (by omega)
  exact ⟨b, off, e, hlt, hc _ _ hv⟩
def set3p (w : World) (b : Nat) (x y z : Value) : World := ((w.setCell ⟨b, 1, none⟩ x).setCell ⟨b, 2, none⟩ y).setCell ⟨b, 3, none⟩ z
theorem set3p_blk {w : World} {b t : Nat} {v0 v1 v2 v3 x y z : Value} (h : Blk w b t #[v0, v1, v2, v3]) : Blk (set3p w b x y z) b t #[v0, x, y, z] := by
  simpa [set3p] using ((h.set_ 1 x).set_ 2 y).set_ 3 z
theorem set3p_only {w : World} {b : Nat} {x y z : Value} : w.grownBy (set3p w b x y z) (some b) :=
  only_setCell (only_setCell (only_setCell (only_refl w (some b)) (p := ⟨b, 1, none⟩) (.inl rfl) x) (p := ⟨b, 2, none⟩) (.inl rfl) y) (p := ⟨b, 3, none⟩) (.inl rfl) z
/-- the blocks of the three rows -/
def RB (vT vS vV : Value) (i : Nat) : Prop := Value.ownBlock vT = some i ∨ Value.ownBlock vS = some i ∨ Value.ownBlock vV = some i
theorem put3_done {W w3 : World} {base pb : Nat} {key vT vS vV vT' vS' vV' : Value} {cs : List CM} {c : CM} (h : POwn W base pb key cs vT vS vV) (x1 : FrN (RB vT vS vV) W w3)
    (hT : w3.ownsRow base 3 1 vT' (cs.length + 1) (tOf cs ++ [.int .i64 c.t]) ∧ Newer W vT vT') (hS : w3.ownsRow base 4 1 vS' (cs.length + 1) (sOf cs ++ [.bool c.s]) ∧ Newer W vS vS') (hV : w3.ownsRow base 24 1 vV' (cs.length + 1) (vOf cs ++ [c.v.val]) ∧ Newer W vV vV') :
    POwn (set3p w3 pb vT' vS' vV') base pb key (cs ++ [c]) vT' vS' vV' ∧ FrN (PB pb vT vS vV) W (set3p w3 pb vT' vS' vV') := by
  have hn : ¬ RB vT vS vV pb := by
    rintro (e | e | e)
    · exact blk_norow h.blk h.t (by decide) e
    · exact blk_norow h.blk h.s (by decide) e
    · exact blk_norow h.blk h.v (by decide) e
  have hB := x1.blk h.blk hn
  refine ⟨⟨set3p_blk hB, ?_, ?_, ?_⟩, ?_⟩
  · rw [tOf_snoc, List.length_append]; exact own_off hT.1 set3p_only (blk_norow hB hT.1 (by decide))
  · rw [sOf_snoc, List.length_append]; exact own_off hS.1 set3p_only (blk_norow hB hS.1 (by decide))
  · rw [vOf_snoc, List.length_append]; exact own_off hV.1 set3p_only (blk_norow hB hV.1 (by decide))
  · exact (x1.mono (fun i hi => .inr hi)).grow set3p_only (fun g hg => .inl (.inl (by injection hg with hg; exact hg.symm)))
/-- what 'join' and 'single' hold on to -/
structure MkR (w wr : World) (pb : Nat) (key : Value) (cs : List CM) (vT vS vV : Value) : Prop where
  own : POwn wr w.heap.size pb key cs vT vS vV
  csIn : ∀ c ∈ cs, c.v.In (NoPB w.heap.size pb vT vS vV) wr
  gr : w.grownBy wr none
  ge : w.heap.size ≤ pb
theorem MkR.ext {w wr w' : World} {pb : Nat} {key : Value} {cs : List CM} {vT vS vV : Value} (h : MkR w wr pb key cs vT vS vV) (hg : wr.grownBy w' none) : MkR w w' pb key cs vT vS vV :=
  ⟨h.own.ext hg, fun c hc => (h.csIn c hc).grown hg (by simp), only_trans h.gr hg, h.ge⟩
theorem MkR.put {w wr w' : World} {pb : Nat} {key : Value} {cs : List CM} {vT vS vV vT' vS' vV' : Value} {c : CM} {N : Nat} (h : MkR w wr pb key cs vT vS vV) (hp : POwn w' w.heap.size pb key (cs ++ [c]) vT' vS' vV') (hf : FrN (PB pb vT vS vV) wr w') (h1 : Newer wr vT vT') (h2 : Newer wr vS vS') (h3 : Newer wr vV vV')
    (hc : c.v.In (N ≤ ·) wr) (hN : ∀ b, PB pb vT vS vV b → b < N) (hwN : w.heap.size ≤ N) : MkR w w' pb key (cs ++ [c]) vT' vS' vV' := by
  have key1 : ∀ b, b < wr.heap.size → ¬ PB pb vT vS vV b → ¬ PB pb vT' vS' vV' b := by
    rintro b hb hn (e | e | e | e)
    · exact hn (.inl e)
    · rcases h1 b e with h | h
      · exact hn (.inr (.inl h))
      · omega
    · rcases h2 b e with h | h
      · exact hn (.inr (.inr (.inl h)))
      · omega
    · rcases h3 b e with h | h
      · exact hn (.inr (.inr (.inr h)))
      · omega
  refine ⟨hp, fun d hd => ?_, ?_, h.ge⟩
  · rcases List.mem_append.1 hd with hd | hd
    · exact strR_keep (h.csIn d hd) hf (fun b hb _ => hb.2) (fun b hb hlt => ⟨hb.1, key1 b hlt hb.2⟩)
    · rw [List.mem_singleton.1 hd]
      exact strR_keep hc hf (fun b hb _ hB => by have hq : N ≤ b := hb; have := hN b hB; omega) (fun b hb hlt => ⟨Nat.le_trans hwN hb, key1 b hlt (fun hB => by have hq : N ≤ b := hb; have := hN b hB; omega)⟩)
  · exact hf.none_ h.gr (fun i hi => h.own.gePB h.ge hi)
theorem noPB_keep {base pb : Nat} {wr w' : World} {x : StrR} {vT vS vV vT' vS' vV' : Value} (hx : x.In (NoPB base pb vT vS vV) wr) (hf : FrN (PB pb vT vS vV) wr w') (h1 : Newer wr vT vT') (h2 : Newer wr vS vS') (h3 : Newer wr vV vV') : x.In (NoPB base pb vT' vS' vV') w' := by
  refine strR_keep hx hf (fun b hb _ => hb.2) (fun b hb hlt => ⟨hb.1, ?_⟩)
  have hn := hb.2
  rintro (e | e | e | e)
  · exact hn (.inl e)
  · rcases h1 b e with h | h
    · exact hn (.inr (.inl h))
    · omega
  · rcases h2 b e with h | h
    · exact hn (.inr (.inr (.inl h)))
    · omega
  · rcases h3 b e with h | h
    · exact hn (.inr (.inr (.inr h)))
    · omega
theorem MkR.part {w wr : World} {pb : Nat} {kv : Value} {key : StrR} {S : Nat → Prop} {cs : List CM} {vT vS vV : Value} (h : MkR w wr pb kv cs vT vS vV) (hk : key.In S wr) : ∃ p : PD, p.key = key ∧ p.cs = cs ∧ p.Sub (fun b => S b ∨ w.heap.size ≤ b) wr ∧ vT = .slice p.ta cs.length p.tc ∧ vS = .slice p.sa cs.length p.sc ∧ vV = .slice p.va cs.length p.vc := by
  obtain ⟨ta, tc, e1, t1, t2, -, t3⟩ := Rd.of_own h.own.t (by decide)
  obtain ⟨sa, sc, e2, s1, s2, -, s3⟩ := Rd.of_own h.own.s (by decide)
  obtain ⟨va, vc, e3, v1, v2, -, v3⟩ := Rd.of_own h.own.v (by decide)
  refine ⟨⟨key, cs, ta, tc, sa, sc, va, vc⟩, rfl, rfl, ⟨hk.mono (fun _ hb _ => .inl hb), t3.mono (fun _ hb _ => .inr hb), s3.mono (fun _ hb _ => .inr hb), v3.mono (fun _ hb _ => .inr hb), fun c hc => (h.csIn c hc).mono (fun b hb _ => .inr hb.1), t1, t2, s1, s2, v1, v2, ?_, ?_⟩, e1, e2, e3⟩
  · intro e
    have e' : ta = none := e
    rw [e'] at t3
    have := rd_none t3
    rw [tOf_len] at this; exact this
  · intro e
    have e' : sa = none := e
    rw [e'] at s3
    have := rd_none s3
    rw [sOf_len] at this; exact this
/-- a partial that a call of the reference gives back: its rows are new or lie in S -/
def RPartS (S : Nat → Prop) (w : World) (z : PP) (e : Ending) (w' : World) : Prop := ∃ p : PD, e = .returned (.agg #[.slice p.key.a p.key.l.length p.key.c, .slice p.ta p.cs.length p.tc, .slice p.sa p.cs.length p.sc, .slice p.va p.cs.length p.vc]) ∧ p.pl = z ∧ p.Sub (fun b => S b ∧ b < w.heap.size ∨ w.heap.size ≤ b) w' ∧ w.grownBy w' none
theorem str_ones {l : List ByteArray} : ∀ u ∈ l.map Value.string, u.oneCell' = true := by
  intro u hu
  obtain ⟨s, -, rfl⟩ := List.mem_map.1 hu
  rfl
/-- a fresh row grows -/
theorem fresh_more {S : Nat → Prop} {W w : World} {T e : TypeId} {z v : Value} {n bytes : Nat} {xs ys : List Value} (h : FreshS W.heap.size xs n e w v) (ht : Tryz.prog.underlying T = some (.slice e)) (hi : (Tryz.prog.info? e).map (fun i => (i.zero, i.size, i.bytes)) = some (some z, 1, bytes)) (hzs : z.cells.size = 1) (hb : bytes ≤ 1000) (A : Option Addr) (m c : Nat) (hr : Rd S w A ys) (hl : ys.length = m) (h1 : ∀ u ∈ ys, u.oneCell' = true) (hn : n + m ≤ 10000000) (hW : W.grownBy w none) :
    ∃ v' w', (Builtin.append_ #[T, T] T #[v, .slice A m c]).run Tryz.prog w = .ok v' w' ∧ FreshS W.heap.size (xs ++ ys) (n + m) e w' v' ∧ W.grownBy w' none := by
  obtain ⟨A', c', rfl, h2, h3, h4⟩ := h
  obtain ⟨v', w', h5, ho, hg, -⟩ := run_appendN (P := Tryz.prog) W.heap.size T T ht hi hzs (by decide) h4 A m c hr (by omega) h1 hb (by omega) hW.size
  obtain ⟨A'', c'', e1, -, -, -, -⟩ := Rd.of_own ho (by decide)
  subst e1
  exact ⟨_, w', h5, FreshS.of ho (Nat.le_refl _), only_own hW hg h4 (Nat.le_refl _)⟩
/-- the stores that are done -/
def st3 (b c : Bool) (w : World) (pb : Nat) (x y z : Value) : World :=
  bif c then (bif b then (w.setCell ⟨pb, 1, none⟩ x).setCell ⟨pb, 2, none⟩ y else w.setCell ⟨pb, 1, none⟩ x).setCell ⟨pb, 3, none⟩ z else (bif b then (w.setCell ⟨pb, 1, none⟩ x).setCell ⟨pb, 2, none⟩ y else w.setCell ⟨pb, 1, none⟩ x)
/-- the three rows, appended to -/
structure P3 (W : World) (base : Nat) (cs : List CM) (cm : CM) (vT vS vV x y z : Value) (w : World) : Prop where
  fr : FrN (RB vT vS vV) W w
  t : w.ownsRow base 3 1 x (cs.length + 1) (tOf cs ++ [.int .i64 cm.t]) ∧ Newer W vT x
  s : w.ownsRow base 4 1 y (cs.length + 1) (sOf cs ++ [.bool cm.s]) ∧ Newer W vS y
  v : w.ownsRow base 24 1 z (cs.length + 1) (vOf cs ++ [.slice cm.v.a cm.v.l.length cm.v.c]) ∧ Newer W vV z
/-- the region of three appends and three stores, at work -/
structure Put3 (W : World) (base pb : Nat) (cs : List CM) (cm : CM) (vT vS vV : Value) (D : Nat → Bool) (u : Nat → Value) (w : World) : Prop where
  d9 : D 9 = true → D 4 = true
  d14 : D 14 = true → D 9 = true
  early : D 16 = false → (D 18 = false ∧ D 20 = false) ∧ FrN (RB vT vS vV) W w ∧ AppI W base 3 4 vT 3 cs.length (tOf cs) (.int .i64 cm.t) D u w ∧ AppI W base 8 9 vS 4 cs.length (sOf cs) (.bool cm.s) D u w ∧ AppI W base 13 14 vV 24 cs.length (vOf cs) (.slice cm.v.a cm.v.l.length cm.v.c) D u w
  late : D 16 = true → (∀ k, k = 1 ∨ k = 3 ∨ k = 4 ∨ k = 6 ∨ k = 8 ∨ k = 9 ∨ k = 11 ∨ k = 13 ∨ k = 14 → D k = true) ∧ (D 20 = true → D 18 = true) ∧ ∃ w3, P3 W base cs cm vT vS vV (u 4) (u 9) (u 14) w3 ∧ w = st3 (D 18) (D 20) w3 pb (u 4) (u 9) (u 14)
section
variable {W : World} {base pb : Nat} {cs : List CM} {cm : CM} {vT vS vV key : Value} {D : Nat → Bool} {u : Nat → Value} {w w' : World}
theorem Put3.start (h1 : W.ownsRow base 3 1 vT cs.length (tOf cs)) (h2 : W.ownsRow base 4 1 vS cs.length (sOf cs)) (h3 : W.ownsRow base 24 1 vV cs.length (vOf cs)) : Put3 W base pb cs cm vT vS vV (fun _ => false) u W.drew :=
  ⟨(fun h => by cases h), (fun h => by cases h), fun _ => ⟨⟨rfl, rfl⟩, FrN.refl _ _, AppI.start (own_drew h1), AppI.start (own_drew h2), AppI.start (own_drew h3)⟩, fun h => by cases h⟩
theorem Put3.not16 (h : Put3 W base pb cs cm vT vS vV D u w) {k : Nat} (hk : k = 1 ∨ k = 3 ∨ k = 4 ∨ k = 6 ∨ k = 8 ∨ k = 9 ∨ k = 11 ∨ k = 13 ∨ k = 14) (h0 : D k = false) : D 16 = false := by
  cases e : D 16 with
  | false => rfl
  | true => rw [(h.late e).1 k hk] at h0; cases h0
theorem Put3.other (h : Put3 W base pb cs cm vT vS vV D u w) {i : Nat} (x : Value) (hi : i ≠ 3 ∧ i ≠ 4 ∧ i ≠ 8 ∧ i ≠ 9 ∧ i ≠ 13 ∧ i ≠ 14 ∧ i ≠ 16 ∧ i ≠ 18 ∧ i ≠ 20) : Put3 W base pb cs cm vT vS vV (updB D i) (upd u i x) w := by
  obtain ⟨i3, i4, i8, i9, i13, i14, i16, i18, i20⟩ := hi
  have a9 := updB_ne D (Ne.symm i9); have a14 := updB_ne D (Ne.symm i14); have a16 := updB_ne D (Ne.symm i16); have a18 := updB_ne D (Ne.symm i18); have a20 := updB_ne D (Ne.symm i20)
  have b4 := upd_ne u x (Ne.symm i4); have b9 := upd_ne u x (Ne.symm i9); have b14 := upd_ne u x (Ne.symm i14)
  refine ⟨fun e => updB_mono D i (h.d9 (by rw [a9] at e; exact e)), fun e => updB_mono D i (h.d14 (by rw [a14] at e; exact e)), fun e => ?_, fun e => ?_⟩
  · rw [a16] at e
    obtain ⟨⟨h1, h2⟩, x1, x2, x3, x4⟩ := h.early e
    exact ⟨⟨by rw [a18]; exact h1, by rw [a20]; exact h2⟩, x1, x2.other x i3 i4, x3.other x i8 i9, x4.other x i13 i14⟩
  · rw [a16] at e
    obtain ⟨h1, h2, w3, h3, h4⟩ := h.late e
    exact ⟨fun k hk => updB_mono D i (h1 k hk), by rw [a18, a20]; exact h2, w3, by rw [b4, b9, b14]; exact h3, by rw [a18, a20, b4, b9, b14]; exact h4⟩
theorem Put3.turn (h : Put3 W base pb cs cm vT vS vV D u w) {i : Nat} {x : Value} (hi : i ≠ 16 ∧ i ≠ 18 ∧ i ≠ 20) (h9 : i = 9 → D 4 = true) (h14 : i = 14 → D 9 = true) (h16 : D 16 = false) (y1 : FrN (RB vT vS vV) W w')
    (y2 : AppI W base 3 4 vT 3 cs.length (tOf cs) (.int .i64 cm.t) (updB D i) (upd u i x) w') (y3 : AppI W base 8 9 vS 4 cs.length (sOf cs) (.bool cm.s) (updB D i) (upd u i x) w') (y4 : AppI W base 13 14 vV 24 cs.length (vOf cs) (.slice cm.v.a cm.v.l.length cm.v.c) (updB D i) (upd u i x) w') :
    Put3 W base pb cs cm vT vS vV (updB D i) (upd u i x) w' := by
  obtain ⟨i16, i18, i20⟩ := hi
  have a16 := updB_ne D (Ne.symm i16); have a18 := updB_ne D (Ne.symm i18); have a20 := updB_ne D (Ne.symm i20)
  obtain ⟨⟨g1, g2⟩, -⟩ := h.early h16
  refine ⟨fun e => ?_, fun e => ?_, fun _ => ⟨⟨by rw [a18]; exact g1, by rw [a20]; exact g2⟩, y1, y2, y3, y4⟩, fun e => by rw [a16, h16] at e; cases e⟩
  · by_cases e9 : i = 9
    · exact updB_mono D i (h9 e9)
    · rw [updB_ne D (Ne.symm e9)] at e; exact updB_mono D i (h.d9 e)
  · by_cases e14 : i = 14
    · exact updB_mono D i (h14 e14)
    · rw [updB_ne D (Ne.symm e14)] at e; exact updB_mono D i (h.d14 e)
theorem store_ints (w : World) (b o : Nat) (A : Option Addr) (n c : Nat) {v : Value} (h : w.cell? ⟨b, o, none⟩ = some v) (hf : w.frozen? ⟨b, o, none⟩ = false) : (Instr.storeAt 47 (.pointer (some ⟨b, o, none⟩)) (.slice A n c)).run Tryz.prog w = .ok () (w.setCell ⟨b, o, none⟩ (.slice A n c)) := by
  have hu := Tryz.underlying47
  simp [go_sem, h, hf]
theorem store_bools (w : World) (b o : Nat) (A : Option Addr) (n c : Nat) {v : Value} (h : w.cell? ⟨b, o, none⟩ = some v) (hf : w.frozen? ⟨b, o, none⟩ = false) : (Instr.storeAt 66 (.pointer (some ⟨b, o, none⟩)) (.slice A n c)).run Tryz.prog w = .ok () (w.setCell ⟨b, o, none⟩ (.slice A n c)) := by
  have hu := Tryz.underlying66
  simp [go_sem, h, hf]
theorem store_strss (w : World) (b o : Nat) (A : Option Addr) (n c : Nat) {v : Value} (h : w.cell? ⟨b, o, none⟩ = some v) (hf : w.frozen? ⟨b, o, none⟩ = false) : (Instr.storeAt 67 (.pointer (some ⟨b, o, none⟩)) (.slice A n c)).run Tryz.prog w = .ok () (w.setCell ⟨b, o, none⟩ (.slice A n c)) := by
  have hu := Tryz.underlying67
  simp [go_sem, h, hf]
theorem run_storeS (ρ : Operand → Value) (w : World) {o : Oper} {t b k : Nat} {p q : Operand} {x : Value} (ho : o.op = .store t p q) (hp : ρ p = .pointer (some ⟨b, k, none⟩)) (hq : ρ q = x) (hx : ∃ A n c, x = .slice A n c) (hst : ∀ A n c, (Instr.storeAt t (.pointer (some ⟨b, k, none⟩)) (.slice A n c)).run Tryz.prog w = .ok () (w.setCell ⟨b, k, none⟩ (.slice A n c))) : (execOp ρ o).run Tryz.prog w = .ok .skip (w.setCell ⟨b, k, none⟩ x) := by
  obtain ⟨A, n, c, rfl⟩ := hx
  simp only [execOp, ho, hp, hq, Sem.run_bind, hst, Result.andThen_ok, Sem.run_pure]
theorem blk3 {key : Value} {b c : Bool} {t : Nat} {w3 : World} {x y z v1 v2 v3 : Value} (h : Blk w3 pb t #[key, v1, v2, v3]) : Blk (st3 b c w3 pb x y z) pb t #[key, x, bif b then y else v2, bif c then z else v3] := by
  cases b <;> cases c <;> simp only [st3, cond_true, cond_false]
  · simpa using h.set_ 1 x
  · simpa using (h.set_ 1 x).set_ 3 z
  · simpa using (h.set_ 1 x).set_ 2 y
  · simpa using ((h.set_ 1 x).set_ 2 y).set_ 3 z
theorem POwn.notRB (h : POwn W base pb key cs vT vS vV) : ¬ RB vT vS vV pb := by
  rintro (e | e | e)
  · exact blk_norow h.blk h.t (by decide) e
  · exact blk_norow h.blk h.s (by decide) e
  · exact blk_norow h.blk h.v (by decide) e
theorem AppI.sl {W : World} {base al ap e n : Nat} {v el : Value} {xs : List Value} {D : Nat → Bool} {u : Nat → Value} {w : World} (h : AppI W base al ap v e n xs el D u w) (h0 : D ap = true) : ∃ A m c, u ap = .slice A m c := by
  obtain ⟨A, c, e1, -⟩ := Rd.of_own (h.after h0).1 (by decide)
  exact ⟨A, _, c, e1⟩
theorem P3.sl {x y z : Value} {w3 : World} (h : P3 W base cs cm vT vS vV x y z w3) : (∃ A m c, x = .slice A m c) ∧ (∃ A m c, y = .slice A m c) ∧ ∃ A m c, z = .slice A m c := by
  obtain ⟨A, c, e1, -⟩ := Rd.of_own h.t.1 (by decide)
  obtain ⟨B, d, e2, -⟩ := Rd.of_own h.s.1 (by decide)
  obtain ⟨C, f, e3, -⟩ := Rd.of_own h.v.1 (by decide)
  exact ⟨⟨A, _, c, e1⟩, ⟨B, _, d, e2⟩, C, _, f, e3⟩
/-- the first store -/
theorem Put3.st1 (h : Put3 W base pb cs cm vT vS vV D u w) (hP : POwn W base pb key cs vT vS vV) (h0 : D 16 = false) (d1 : D 1 = true) (d6 : D 6 = true) (d11 : D 11 = true) (d14 : D 14 = true) (ρ : Operand → Value) {o : Oper} {p q : Operand} (ho : o.op = .store 47 p q) (hp : ρ p = .pointer (some ⟨pb, 1, none⟩)) (hq : ρ q = u 4) :
    ∃ w', (execOp ρ o).run Tryz.prog w = .ok .skip w' ∧ Put3 W base pb cs cm vT vS vV (updB D 16) (upd u 16 undef) w' := by
  obtain ⟨⟨h18, h20⟩, x1, x2, x3, x4⟩ := h.early h0
  have d9 := h.d14 d14
  have d4 := h.d9 d9
  have hB := x1.blk hP.blk hP.notRB
  have c1 := hB.cell 1
  simp at c1
  refine ⟨w.setCell ⟨pb, 1, none⟩ (u 4), run_storeS ρ w ho hp hq (x2.sl d4) (fun A n c => store_ints w pb 1 A n c c1 (hB.frozen 1)), ?_⟩
  have a9 := updB_ne D (show (9 : Nat) ≠ 16 by omega); have a14 := updB_ne D (show (14 : Nat) ≠ 16 by omega); have a18 := updB_ne D (show (18 : Nat) ≠ 16 by omega); have a20 := updB_ne D (show (20 : Nat) ≠ 16 by omega)
  refine ⟨fun _ => updB_mono D 16 d4, fun _ => updB_mono D 16 d9, (fun e => by rw [updB_at] at e; cases e), fun _ => ⟨?_, (fun e => by rw [a20, h20] at e; cases e), w, ?_, ?_⟩⟩
  · rintro k (rfl | rfl | rfl | rfl | rfl | rfl | rfl | rfl | rfl)
    · exact updB_mono D 16 d1
    · exact updB_mono D 16 (x2.dep d4)
    · exact updB_mono D 16 d4
    · exact updB_mono D 16 d6
    · exact updB_mono D 16 (x3.dep d9)
    · exact updB_mono D 16 d9
    · exact updB_mono D 16 d11
    · exact updB_mono D 16 (x4.dep d14)
    · exact updB_mono D 16 d14
  · rw [upd_ne u _ (by omega), upd_ne u _ (by omega), upd_ne u _ (by omega)]
    exact ⟨x1, x2.after d4, x3.after d9, x4.after d14⟩
  · rw [a18, a20, h18, h20, upd_ne u _ (by omega)]; rfl
/-- the second store -/
theorem Put3.st2 (h : Put3 W base pb cs cm vT vS vV D u w) (hP : POwn W base pb key cs vT vS vV) (h0 : D 18 = false) (d16 : D 16 = true) (ρ : Operand → Value) {o : Oper} {p q : Operand} (ho : o.op = .store 66 p q) (hp : ρ p = .pointer (some ⟨pb, 2, none⟩)) (hq : ρ q = u 9) :
    ∃ w', (execOp ρ o).run Tryz.prog w = .ok .skip w' ∧ Put3 W base pb cs cm vT vS vV (updB D 18) (upd u 18 undef) w' := by
  obtain ⟨h1, h2, w3, h3, rfl⟩ := h.late d16
  have h20 : D 20 = false := by cases e : D 20 with | false => rfl | true => rw [h2 e] at h0; cases h0
  have hB := blk3 (b := D 18) (c := D 20) (x := u 4) (y := u 9) (z := u 14) (h3.fr.blk hP.blk hP.notRB)
  have c2 := hB.cell 2
  simp at c2
  refine ⟨_, run_storeS ρ _ ho hp hq h3.sl.2.1 (fun A n c => store_bools _ pb 2 A n c c2 (hB.frozen 2)), ?_⟩
  have a9 := updB_ne D (show (9 : Nat) ≠ 18 by omega); have a14 := updB_ne D (show (14 : Nat) ≠ 18 by omega); have a16 := updB_ne D (show (16 : Nat) ≠ 18 by omega); have a20 := updB_ne D (show (20 : Nat) ≠ 18 by omega)
  refine ⟨fun _ => updB_mono D 18 (h1 4 (by omega)), fun _ => updB_mono D 18 (h1 9 (by omega)), (fun e => by rw [a16, d16] at e; cases e), fun _ => ⟨fun k hk => updB_mono D 18 (h1 k hk), (fun _ => updB_at D 18), w3, ?_, ?_⟩⟩
  · rw [upd_ne u _ (by omega), upd_ne u _ (by omega), upd_ne u _ (by omega)]; exact h3
  · rw [updB_at, a20, h20, h0, upd_ne u _ (by omega), upd_ne u _ (by omega)]; rfl
/-- the third store -/
theorem Put3.st3_ (h : Put3 W base pb cs cm vT vS vV D u w) (hP : POwn W base pb key cs vT vS vV) (h0 : D 20 = false) (d18 : D 18 = true) (d16 : D 16 = true) (ρ : Operand → Value) {o : Oper} {p q : Operand} (ho : o.op = .store 67 p q) (hp : ρ p = .pointer (some ⟨pb, 3, none⟩)) (hq : ρ q = u 14) :
    ∃ w', (execOp ρ o).run Tryz.prog w = .ok .skip w' ∧ Put3 W base pb cs cm vT vS vV (updB D 20) (upd u 20 undef) w' := by
  obtain ⟨h1, h2, w3, h3, rfl⟩ := h.late d16
  have hB := blk3 (b := D 18) (c := D 20) (x := u 4) (y := u 9) (z := u 14) (h3.fr.blk hP.blk hP.notRB)
  have c3 := hB.cell 3
  simp at c3
  refine ⟨_, run_storeS ρ _ ho hp hq h3.sl.2.2 (fun A n c => store_strss _ pb 3 A n c c3 (hB.frozen 3)), ?_⟩
  have a9 := updB_ne D (show (9 : Nat) ≠ 20 by omega); have a14 := updB_ne D (show (14 : Nat) ≠ 20 by omega); have a16 := updB_ne D (show (16 : Nat) ≠ 20 by omega); have a18 := updB_ne D (show (18 : Nat) ≠ 20 by omega)
  refine ⟨fun _ => updB_mono D 20 (h1 4 (by omega)), fun _ => updB_mono D 20 (h1 9 (by omega)), (fun e => by rw [a16, d16] at e; cases e), fun _ => ⟨fun k hk => updB_mono D 20 (h1 k hk), (fun _ => by rw [a18]; exact d18), w3, ?_, ?_⟩⟩
  · rw [upd_ne u _ (by omega), upd_ne u _ (by omega), upd_ne u _ (by omega)]; exact h3
  · rw [updB_at, a18, d18, h0, upd_ne u _ (by omega), upd_ne u _ (by omega), upd_ne u _ (by omega)]; rfl
theorem Put3.fin (h : Put3 W base pb cs cm vT vS vV D u w) (d16 : D 16 = true) (d18 : D 18 = true) (d20 : D 20 = true) : ∃ w3, P3 W base cs cm vT vS vV (u 4) (u 9) (u 14) w3 ∧ w = set3p w3 pb (u 4) (u 9) (u 14) := by
  obtain ⟨-, -, w3, h3, h4⟩ := h.late d16
  exact ⟨w3, h3, by rw [h4, d18, d20]; rfl⟩
end
/-- Distinct, as plain data -/
theorem dist_pl {S : Nat → Prop} (A : Option Addr) (ws : List ByteArray) (c : Nat) (w : World) (h : Rd S w A (ws.map .string)) (hl : ws.length ≤ 1000000) (hc : ws.length ≤ c) (hm : c ≤ maxLen) :
    Calls Tryz.prog 55 #[.slice A ws.length c] w (fun e w' => ∃ x : StrR, e = .returned x.val ∧ x.l = dist ws ∧ x.In (w.heap.size ≤ ·) w' ∧ w.grownBy w' none) :=
  (distinct_post A ws c w h hl hc hm).mono (by
    rintro e w' ⟨A', c', ds, rfl, h1, h2, h3, h4, h5, h6, h7⟩
    exact ⟨⟨ds, A', c'⟩, rfl, srt_ext h3 (dist_srt ws) (fun s => by rw [h4, dist_mem]), strR_of h6 h1 h2, h7⟩)
end Go.Proofs.YtfkgcighooijhaaGreatDoor
