/- Put of the reference of chapter 33 (printed by mkref33.py). Condition: sizes. -/
import Derived.Test.YtganfhmjklcchaaPut0
import Derived.Test.YtganfhmjklcchaaApart
import Derived.Deep.RegionLaw
import Derived.Deep.DeepCutAuto
namespace Go.Proofs.Ytganfhmjklcchaa
open Go.RowKit
set_option linter.unusedVariables false
set_option linter.unusedSimpArgs false

theorem wpList_appendS {P : Program} {ops : Array Oper} {rest : List Oper} {o : Oper} {a : Act} {w : World} {Q : Exit → Act → World → Prop} (hgd : o.guard = none) (s x : Operand) (t : TypeId)
    (ho : o.op = .call { callee := .builtin .append, args := #[s, x], argTypes := #[t, t] })
    (base : Nat) {e : TypeId} {z : Value} {size bytes : Nat} (ht : P.underlying t = some (.slice e)) (hi : (P.info? e).map (fun i => (i.zero, i.size, i.bytes)) = some (some z, size, bytes)) (hzs : z.cells.size = size) (hsz : 0 < size)
    {v : Value} {n : Nat} {xs : List Value} (hs : a.eval s = v) (hown : w.ownsRow base e size v n xs) {S : Nat → Prop} (A : Option Addr) (m c : Nat) {news : List Value} (hx : a.eval x = .slice A m c) (hr : Rd S w A news) (hl : news.length = m * size) (h1 : ∀ u ∈ news, u.oneCell' = true)
    (hb : bytes ≤ 1000) (hn : n + m ≤ 10000000) (hbase : base ≤ w.heap.size)
    (h : ∀ A' c' w', w'.ownsRow base e size (.slice A' (n + m) c') (n + m) (xs ++ news) → w.grownBy w' v.ownBlock → wpList P ops Q rest (a.put o.dst (.slice A' (n + m) c')) w') : wpList P ops Q (o :: rest) a w :=
  wpList_appendN hgd s x t ho base ht hi hzs hsz hs hown A m c hx hr hl h1 hb hn hbase fun v' w' h2 h3 _ => by
    obtain ⟨A', c', rfl, -, -, -, -⟩ := Rd.of_own h2 hsz
    exact h A' c' w' h2 h3
theorem putB_sub {bs : List BlobD} {i t : Int} {x : BlobD} {S : Nat → Prop} {w : World} (h : ∀ y ∈ bs, y.Sub S w) (hx : x.Sub S w) : ∀ y ∈ putB bs i t x, y.Sub S w := fun y hy => by
  unfold putB at hy
  split at hy
  · rcases List.mem_or_eq_of_mem_set hy with hy | rfl
    · exact h y hy
    · exact hx
  · rcases List.mem_append.1 hy with hy | hy
    · exact h y (List.mem_of_mem_take hy)
    · rcases List.mem_cons.1 hy with rfl | hy
      · exact hx
      · exact h y (List.mem_of_mem_drop hy)
theorem delB_sub {bs : List BlobD} {i t : Int} {y : BlobD} (h : y ∈ delB bs i t) : y ∈ bs := by
  unfold delB at h
  split at h
  · rcases List.mem_append.1 h with h | h
    · exact List.mem_of_mem_take h
    · exact List.mem_of_mem_drop h
  · exact h
set_option maxHeartbeats 8000000 in
set_option maxRecDepth 100000 in
theorem rput_any {S : Nat → Prop} (A : Option Addr) (bs : List BlobD) (c : Nat) (x : BlobD) (w : World) (hr : Rd S w A (bs.flatMap BlobD.cells)) (hs : ∀ y ∈ bs, y.Sub S w) (hx : x.Sub S w) (hS : ∀ b, w.heap.size ≤ b → S b) (hl : bs.length ≤ 1000) (hc : bs.length ≤ c) (hcm : c ≤ maxLen) (hz : A = none → c = 0) :
    Calls Try.prog 12 #[.slice A bs.length c, .agg x.cells.toArray] w (ShPost S w (fun bs' => ∃ x', x'.key = x.key ∧ bs' = putB bs x.id x.tier x')) := by
  unfold maxLen at hcm
  obtain ⟨xb, hxb⟩ : ∃ b, b = w.heap.size := ⟨_, rfl⟩
  obtain ⟨W1, hW1⟩ : ∃ W, W = w.alloc (.cells x.cells.toArray 30) := ⟨_, rfl⟩
  have HB1 : Hid (Blk W1 xb 30 x.cells.toArray) := Lib.hid (by rw [hW1, hxb]; exact Blk.new w _ _)
  have g1 : w.grownBy W1 none := by rw [hW1]; exact only_alloc (only_refl _ _) _
  have G1 := Lib.hid g1
  have hxw : w.heap.size ≤ xb := by omega
  have hsz1 : w.heap.size ≤ W1.heap.size := g1.size
  have HR1 := Lib.hid ((hr.mono (S' := (· < w.heap.size)) (fun b _ hlt => hlt)).grown g1 (by simp))
  have HSB := Lib.hid hs
  have HXS := Lib.hid hx
  have HS0 := Lib.hid hS
  have KA := Lib.hid (rat_any A bs c x.id x.tier W1 (hr.grown g1 (by simp)) (by omega))
  have hlow := lowC_le (cf := cfBlob x.id x.tier) bs
  have b0 := HB1.out.cell 0
  have b1 := HB1.out.cell 1
  simp [BlobD.cells] at b0 b1
  have HW1 := Lib.hid hW1.symm
  have HXE := Lib.hid hxb.symm
  clear hW1 hxb g1 hr hs hx hS
  go_enter Try.func12, Try.ntmps12
  go_upto_region 1 with fail
  rw [HW1.out, HXE.out]
  clear HW1 HXE
  go_wp2_with fail
  refine KA.out.mono ?_
  rintro e w2 ⟨rfl, hg2⟩
  have G2 := Lib.hid (only_trans G1.out hg2)
  have HB2 := Lib.hid (HB1.out.grown hg2 (by simp))
  have R2 := Lib.hid (HR1.out.grown hg2 (by simp))
  have hsz2 := hg2.size
  obtain ⟨m, hm⟩ : ∃ m, m = lowC (cfBlob x.id x.tier) bs := ⟨_, rfl⟩
  obtain ⟨ok, hok⟩ : ∃ b, b = okC (cfBlob x.id x.tier) bs := ⟨_, rfl⟩
  rw [← hm, ← hok]
  have HM := Lib.hid hm
  have HOK := Lib.hid hok
  have hml : m ≤ bs.length := by omega
  have b2 := HB2.out.cell 2
  have f2 := HB2.out.frozen 2
  simp [BlobD.cells] at b2
  clear b0 b1 hg2 KA hm hok HB1 HR1 hlow
  go_upto_region 2 with fail
  go_upto_region 3 with (at_builtin; refine wpList_appendS rfl _ _ 22 rfl w.heap.size Try.underlying22 byteInfo8 rfl (by decide) (v := .slice none 0 0) (by rfl) (World.ownsRow_nil _ _ _ _) x.A x.data.length x.c (news := x.data.map (.int .u8)) (by rfl) (HXS.out.1.grown G2.out (by simp)) (by simp) (by simp [Value.oneCell']) (by decide) (by have := HXS.out.2.2.2; omega) (by omega) ?_; intro A3 c3 w3 hown3 hg3; have hB3 := Lib.hid (HB2.out.grown hg3 (by simp [Value.ownBlock])); have c2' := hB3.out.cell 2; have f2' := hB3.out.frozen 2; simp [BlobD.cells] at c2')
  have D3 : Hid (w3.ownsRow w.heap.size 5 1 (.slice A3 x.data.length c3) x.data.length (x.data.map (.int .u8))) := Lib.hid (by simpa using hown3)
  have G3 : Hid (w2.grownBy w3 none) := Lib.hid (by simpa [Value.ownBlock] using hg3)
  obtain ⟨x', hx'⟩ : ∃ x' : BlobD, x' = { x with A := A3, c := c3 } := ⟨_, rfl⟩
  obtain ⟨W4, hW4⟩ : ∃ W, W = w3.setCell ⟨xb, 2, none⟩ (.slice A3 x.data.length c3) := ⟨_, rfl⟩
  have gs : w3.grownBy W4 (some xb) := by rw [hW4]; exact only_setCell (only_refl _ _) (p := ⟨xb, 2, none⟩) (.inl rfl) _
  have HGS := Lib.hid gs
  have HB4 : Hid (Blk W4 xb 30 x'.cells.toArray) := Lib.hid (by
    have := hB3.out.set_ 2 (.slice A3 x.data.length c3)
    rw [hW4, hx']; simpa [BlobD.cells] using this)
  have D4 := Lib.hid (D3.out.kept gs (by
    have := blk_norow hB3.out D3.out (by decide)
    exact .inr this))
  have G4 := Lib.hid (only_fresh (only_trans G2.out G3.out) gs hxw)
  have hsz4 : w.heap.size ≤ W4.heap.size := G4.out.size
  have HX' := Lib.hid hx'
  have HW4 := Lib.hid hW4.symm
  clear hB3 gs hW4 hx' D3 hown3 hg3
  rw [HW4.out]
  clear c2' f2' HW4
  have R4 := Lib.hid (R2.out.grown (only_trans (only_of_none G3.out _) HGS.out) (fun b hb e => by injection e with e; omega))
  cases A with
  | none =>
    have hb0 : bs = [] := by
      rcases bs with _ | ⟨y, ys⟩
      · rfl
      · exact absurd rfl (R4.out.ne_none (by simp [BlobD.cells]))
    have hc0 := hz rfl
    have hm0 : m = 0 := by rw [HM.out, hb0]; rfl
    have ho0 : ok = false := by rw [HOK.out, hb0]; rfl
    subst hb0 hc0 hm0 ho0
    have PP : Hid (putB ([] : List BlobD) x.id x.tier x' = [x']) := Lib.hid (by unfold putB; rw [← HOK.out]; rfl)
    go_upto_region 4 with (at_builtin; refine wpList_appendS rfl _ _ 26 rfl W4.heap.size Try.underlying26 blobInfo rfl (by decide) (v := .slice none 0 0) (by rfl) (World.ownsRow_nil _ _ _ _) none 0 0 (news := []) (S := fun _ => True) (by rfl) Rd.nil rfl (by simp) (by decide) (by omega) (by omega) ?_; intro A5 c5 w5 hown5 hg5)
    have O5 : Hid (w5.ownsRow W4.heap.size 30 3 (.slice A5 0 c5) 0 []) := Lib.hid (by simpa using hown5)
    have G5 : Hid (W4.grownBy w5 none) := Lib.hid (by simpa [Value.ownBlock] using hg5)
    have hB5 := HB4.out.grown G5.out (by simp)
    have HB5 := Lib.hid hB5
    have D5 := Lib.hid (own_ext D4.out G5.out)
    have b0 := hB5.cell 0
    have b1 := hB5.cell 1
    have b2 := hB5.cell 2
    rw [HX'.out] at b0 b1 b2
    simp [BlobD.cells] at b0 b1 b2
    have hsz5 := G5.out.size
    clear hown5 hg5 hB5
    go_upto_region 5 with (at_builtin; refine wpList_append1 rfl _ _ 26 rfl W4.heap.size Try.underlying26 blobInfo rfl (by decide) (v := .slice A5 0 c5) (by rfl) (w0 := w5) (cs := #[.int .i64 x.id, .int .i64 x.tier, .slice A3 x.data.length c3]) O5.out (by rfl) rfl (by simp [Value.oneCell']) (by decide) (by omega) (by omega) ?_; intro v6 w6 hown6 hg6 hob6)
    obtain ⟨A6, c6, rfl, -, -, -, -⟩ := Rd.of_own hown6 (by decide)
    have O6 : Hid (w6.ownsRow W4.heap.size 30 3 (.slice A6 1 c6) 1 x'.cells) := Lib.hid (by rw [HX'.out]; exact hown6)
    have G46 : Hid (W4.grownBy w6 none) := Lib.hid (only_own G5.out hg6 O5.out (Nat.le_refl _))
    have D6 := Lib.hid (D5.out.kept hg6 (own_two D5.out O5.out (by decide)))
    clear hown6 hg6 hob6 b0 b1 b2
    have hs46 := G46.out.size
    go_wp2_with (at_builtin; refine wpList_appendS rfl _ _ 26 rfl W4.heap.size Try.underlying26 blobInfo rfl (by decide) (v := .slice A6 1 c6) (by rfl) O6.out none 0 0 (news := []) (S := fun _ => True) (by rfl) Rd.nil rfl (by simp) (by decide) (by omega) (by omega) ?_; intro A8 c8 w8 hown8 hg8)
    have O8 : Hid (w8.ownsRow W4.heap.size 30 3 (.slice A8 1 c8) 1 x'.cells) := Lib.hid (by simpa using hown8)
    have G8 := Lib.hid (only_own (only_trans G4.out G46.out) hg8 O6.out hsz4)
    have D8 := Lib.hid (D6.out.kept hg8 (own_two D6.out O6.out (by decide)))
    clear hown8 hg8
    obtain ⟨A9, c9, e9, hc9, hm9, -, hr9⟩ := Rd.of_own O8.out (by decide)
    injection e9 with e91 e92 e93
    subst e91 e93
    have R9 := Lib.hid hr9
    obtain ⟨A7, c7, e7, hc7, hm7, -, hr7⟩ := Rd.of_own D8.out (by decide)
    injection e7 with e71 e72 e73
    subst e71 e73
    have R7 := Lib.hid hr7
    clear hr9 hr7
    go_ret
    exact ⟨A8, c8, [x'], rfl, ⟨x', by rw [HX'.out]; rfl, PP.out.symm⟩, hc9, hm9, (fun e => absurd e (R9.out.ne_none (by simp [BlobD.cells]))), (by simpa using R9.out.mono (fun b hb _ => HS0.out b (Nat.le_trans hsz4 hb))), (fun y hy => by
      rw [List.mem_singleton.1 hy, HX'.out]; exact ⟨R7.out.mono (fun b hb _ => HS0.out b hb), hc7, hm7, HXS.out.2.2.2⟩), G8.out⟩
  | some a =>
    have hmi : (m : Int) ≤ (bs.length : Int) := by omega
    have hmc : (m : Int) ≤ (c : Int) := by omega
    go_upto_region 4 with (at_builtin; refine wpList_appendS rfl _ _ 26 rfl W4.heap.size Try.underlying26 blobInfo rfl (by decide) (v := .slice none 0 0) (by rfl) (World.ownsRow_nil _ _ _ _) (some a) m c (news := (bs.take m).flatMap BlobD.cells) (by rfl) (by rw [flat_take BlobD.cells_len]; exact R4.out.take _) (by rw [flat_len _ 3 BlobD.cells_len, List.length_take, Nat.min_eq_left hml]) (flat_one BlobD.one _) (by decide) (by omega) (by omega) ?_; intro A5 c5 w5 hown5 hg5)
    have O5 : Hid (w5.ownsRow W4.heap.size 30 3 (.slice A5 m c5) m ((bs.take m).flatMap BlobD.cells)) := Lib.hid (by simpa using hown5)
    have G5 : Hid (W4.grownBy w5 none) := Lib.hid (by simpa [Value.ownBlock] using hg5)
    have hB5 := HB4.out.grown G5.out (by simp)
    have HB5 := Lib.hid hB5
    have D5 := Lib.hid (own_ext D4.out G5.out)
    have b0 := hB5.cell 0
    have b1 := hB5.cell 1
    have b2 := hB5.cell 2
    rw [HX'.out] at b0 b1 b2
    simp [BlobD.cells] at b0 b1 b2
    have hsz5 := G5.out.size
    clear hown5 hg5 hB5
    go_upto_region 5 with (at_builtin; refine wpList_append1 rfl _ _ 26 rfl W4.heap.size Try.underlying26 blobInfo rfl (by decide) (v := .slice A5 m c5) (by rfl) (w0 := w5) (cs := #[.int .i64 x.id, .int .i64 x.tier, .slice A3 x.data.length c3]) O5.out (by rfl) rfl (by simp [Value.oneCell']) (by decide) (by omega) (by omega) ?_; intro v6 w6 hown6 hg6 hob6)
    obtain ⟨A6, c6, rfl, -, -, -, -⟩ := Rd.of_own hown6 (by decide)
    have O6 : Hid (w6.ownsRow W4.heap.size 30 3 (.slice A6 (m + 1) c6) (m + 1) ((bs.take m).flatMap BlobD.cells ++ x'.cells)) := Lib.hid (by rw [HX'.out]; exact hown6)
    have G46 : Hid (W4.grownBy w6 none) := Lib.hid (only_own G5.out hg6 O5.out (Nat.le_refl _))
    have D6 := Lib.hid (D5.out.kept hg6 (own_two D5.out O5.out (by decide)))
    clear hown6 hg6 hob6 b0 b1 b2
    have hs46 := G46.out.size
    cases ok with
    | true =>
      have hok := HOK.out.symm
      have hm := HM.out
      have hmlt : m < bs.length := by
        obtain ⟨y, hy, -⟩ := okC_some hok
        rw [← hm] at hy
        exact (List.getElem?_eq_some_iff.1 hy).1
      obtain ⟨kk, hkk⟩ : ∃ kk, kk = m + 1 := ⟨_, rfl⟩
      have PL : Hid ((putB bs x.id x.tier x').length = m + 1 + (bs.length - kk)) := Lib.hid (by rw [putB_ok hok, ← hm, hkk]; simp; omega)
      have PC : Hid ((putB bs x.id x.tier x').flatMap BlobD.cells = ((bs.take m).flatMap BlobD.cells ++ x'.cells) ++ (bs.drop kk).flatMap BlobD.cells) := Lib.hid (by rw [putB_ok hok, ← hm, hkk]; simp [List.flatMap_append])
      have hkl : kk ≤ bs.length := by omega
      have RDN := Lib.hid (show Rd (· < w.heap.size) W4 (some (a.add (kk * 3))) ((bs.drop kk).flatMap BlobD.cells) from by rw [flat_drop BlobD.cells_len]; exact R4.out.drop _)
      have RDE := Lib.hid (fun (hck : c = kk) => (show Rd (· < w.heap.size) W4 (some a) ((bs.drop kk).flatMap BlobD.cells) from by rw [List.drop_of_length_le (by omega)]; exact Rd.nil))
      have j1 : (kk : Int) ≤ (bs.length : Int) := by omega
      have j2 : (kk : Int) ≤ (c : Int) := by omega
      have j3 : (0 : Int) ≤ (kk : Int) := by omega
      have j4 : (bs.length : Int) ≤ (c : Int) := by omega
      have hwm : IntKind.i64.wrap ((m : Int) + 1) = (kk : Int) := by rw [hkk]; push_cast; exact IntWalk.i64_in _ (by omega)
      have HKK := Lib.hid hkk
      clear hkk
      clear hok hm
      by_cases hck : c = kk
      · subst hck
        go_wp2_with (at_builtin; refine wpList_appendS rfl _ _ 26 rfl W4.heap.size Try.underlying26 blobInfo rfl (by decide) (v := .slice A6 (m + 1) c6) (by rfl) O6.out (some a) 0 0 (news := (bs.drop c).flatMap BlobD.cells) (by rfl) ((RDE.out rfl).grown G46.out (by simp)) (by rw [flat_len _ 3 BlobD.cells_len, List.length_drop]; omega) (flat_one BlobD.one _) (by decide) (by omega) (by omega) ?_; intro A8 c8 w8 hown8 hg8)
        have O8 : Hid (w8.ownsRow W4.heap.size 30 3 (.slice A8 (putB bs x.id x.tier x').length c8) (putB bs x.id x.tier x').length ((putB bs x.id x.tier x').flatMap BlobD.cells)) := Lib.hid (by rw [PL.out, PC.out, show bs.length - c = 0 by omega]; exact hown8)
        have G8 := Lib.hid (only_own (only_trans G4.out G46.out) hg8 O6.out hsz4)
        have D8 := Lib.hid (D6.out.kept hg8 (own_two D6.out O6.out (by decide)))
        clear hown8 hg8
        obtain ⟨A9, c9, e9, hc9, hm9, -, hr9⟩ := Rd.of_own O8.out (by decide)
        injection e9 with e91 e92 e93
        subst e91 e93
        have R9 := Lib.hid hr9
        obtain ⟨A7, c7, e7, hc7, hm7, -, hr7⟩ := Rd.of_own D8.out (by decide)
        injection e7 with e71 e72 e73
        subst e71 e73
        have R7 := Lib.hid hr7
        clear hr9 hr7
        go_ret
        exact ⟨A8, c8, putB bs x.id x.tier x', by rw [PL.out, show bs.length - c = 0 by omega]; rfl, ⟨x', by rw [HX'.out]; rfl, rfl⟩, hc9, hm9, (fun e => absurd e (R9.out.ne_none (by rw [flat_len _ 3 BlobD.cells_len, PL.out]; omega))), R9.out.mono (fun b hb _ => HS0.out b (Nat.le_trans hsz4 hb)), putB_sub (fun y hy => (HSB.out y hy).grown G8.out (by simp)) (by
          rw [HX'.out]; exact ⟨R7.out.mono (fun b hb _ => HS0.out b hb), hc7, hm7, HXS.out.2.2.2⟩), G8.out⟩
      · skip
        go_wp2_with (at_builtin; refine wpList_appendS rfl _ _ 26 rfl W4.heap.size Try.underlying26 blobInfo rfl (by decide) (v := .slice A6 (m + 1) c6) (by rfl) O6.out (some (a.add (kk * 3))) (bs.length - kk) (c - kk) (news := (bs.drop kk).flatMap BlobD.cells) (by rfl) (RDN.out.grown G46.out (by simp)) (by rw [flat_len _ 3 BlobD.cells_len, List.length_drop]) (flat_one BlobD.one _) (by decide) (by omega) (by omega) ?_; intro A8 c8 w8 hown8 hg8)
        have O8 : Hid (w8.ownsRow W4.heap.size 30 3 (.slice A8 (putB bs x.id x.tier x').length c8) (putB bs x.id x.tier x').length ((putB bs x.id x.tier x').flatMap BlobD.cells)) := Lib.hid (by rw [PL.out, PC.out]; exact hown8)
        have G8 := Lib.hid (only_own (only_trans G4.out G46.out) hg8 O6.out hsz4)
        have D8 := Lib.hid (D6.out.kept hg8 (own_two D6.out O6.out (by decide)))
        clear hown8 hg8
        obtain ⟨A9, c9, e9, hc9, hm9, -, hr9⟩ := Rd.of_own O8.out (by decide)
        injection e9 with e91 e92 e93
        subst e91 e93
        have R9 := Lib.hid hr9
        obtain ⟨A7, c7, e7, hc7, hm7, -, hr7⟩ := Rd.of_own D8.out (by decide)
        injection e7 with e71 e72 e73
        subst e71 e73
        have R7 := Lib.hid hr7
        clear hr9 hr7
        go_ret
        exact ⟨A8, c8, putB bs x.id x.tier x', by rw [PL.out]; rfl, ⟨x', by rw [HX'.out]; rfl, rfl⟩, hc9, hm9, (fun e => absurd e (R9.out.ne_none (by rw [flat_len _ 3 BlobD.cells_len, PL.out]; omega))), R9.out.mono (fun b hb _ => HS0.out b (Nat.le_trans hsz4 hb)), putB_sub (fun y hy => (HSB.out y hy).grown G8.out (by simp)) (by
          rw [HX'.out]; exact ⟨R7.out.mono (fun b hb _ => HS0.out b hb), hc7, hm7, HXS.out.2.2.2⟩), G8.out⟩
    | false =>
      have hok := HOK.out.symm
      have hm := HM.out
      have PL : Hid ((putB bs x.id x.tier x').length = m + 1 + (bs.length - m)) := Lib.hid (by rw [putB_no hok, ← hm]; simp; omega)
      have PC : Hid ((putB bs x.id x.tier x').flatMap BlobD.cells = ((bs.take m).flatMap BlobD.cells ++ x'.cells) ++ (bs.drop m).flatMap BlobD.cells) := Lib.hid (by rw [putB_no hok, ← hm]; simp [List.flatMap_append])
      have hkl : m ≤ bs.length := by omega
      have RDN := Lib.hid (show Rd (· < w.heap.size) W4 (some (a.add (m * 3))) ((bs.drop m).flatMap BlobD.cells) from by rw [flat_drop BlobD.cells_len]; exact R4.out.drop _)
      have RDE := Lib.hid (fun (hck : c = m) => (show Rd (· < w.heap.size) W4 (some a) ((bs.drop m).flatMap BlobD.cells) from by rw [List.drop_of_length_le (by omega)]; exact Rd.nil))
      have j1 : (m : Int) ≤ (bs.length : Int) := by omega
      have j2 : (m : Int) ≤ (c : Int) := by omega
      have j3 : (0 : Int) ≤ (m : Int) := by omega
      have j4 : (bs.length : Int) ≤ (c : Int) := by omega
      clear hok hm
      by_cases hck : c = m
      · subst hck
        go_wp2_with (at_builtin; refine wpList_appendS rfl _ _ 26 rfl W4.heap.size Try.underlying26 blobInfo rfl (by decide) (v := .slice A6 (c + 1) c6) (by rfl) O6.out (some a) 0 0 (news := (bs.drop c).flatMap BlobD.cells) (by rfl) ((RDE.out rfl).grown G46.out (by simp)) (by rw [flat_len _ 3 BlobD.cells_len, List.length_drop]; omega) (flat_one BlobD.one _) (by decide) (by omega) (by omega) ?_; intro A8 c8 w8 hown8 hg8)
        have O8 : Hid (w8.ownsRow W4.heap.size 30 3 (.slice A8 (putB bs x.id x.tier x').length c8) (putB bs x.id x.tier x').length ((putB bs x.id x.tier x').flatMap BlobD.cells)) := Lib.hid (by rw [PL.out, PC.out, show bs.length - c = 0 by omega]; exact hown8)
        have G8 := Lib.hid (only_own (only_trans G4.out G46.out) hg8 O6.out hsz4)
        have D8 := Lib.hid (D6.out.kept hg8 (own_two D6.out O6.out (by decide)))
        clear hown8 hg8
        obtain ⟨A9, c9, e9, hc9, hm9, -, hr9⟩ := Rd.of_own O8.out (by decide)
        injection e9 with e91 e92 e93
        subst e91 e93
        have R9 := Lib.hid hr9
        obtain ⟨A7, c7, e7, hc7, hm7, -, hr7⟩ := Rd.of_own D8.out (by decide)
        injection e7 with e71 e72 e73
        subst e71 e73
        have R7 := Lib.hid hr7
        clear hr9 hr7
        go_ret
        exact ⟨A8, c8, putB bs x.id x.tier x', by rw [PL.out, show bs.length - c = 0 by omega]; rfl, ⟨x', by rw [HX'.out]; rfl, rfl⟩, hc9, hm9, (fun e => absurd e (R9.out.ne_none (by rw [flat_len _ 3 BlobD.cells_len, PL.out]; omega))), R9.out.mono (fun b hb _ => HS0.out b (Nat.le_trans hsz4 hb)), putB_sub (fun y hy => (HSB.out y hy).grown G8.out (by simp)) (by
          rw [HX'.out]; exact ⟨R7.out.mono (fun b hb _ => HS0.out b hb), hc7, hm7, HXS.out.2.2.2⟩), G8.out⟩
      · skip
        go_wp2_with (at_builtin; refine wpList_appendS rfl _ _ 26 rfl W4.heap.size Try.underlying26 blobInfo rfl (by decide) (v := .slice A6 (m + 1) c6) (by rfl) O6.out (some (a.add (m * 3))) (bs.length - m) (c - m) (news := (bs.drop m).flatMap BlobD.cells) (by rfl) (RDN.out.grown G46.out (by simp)) (by rw [flat_len _ 3 BlobD.cells_len, List.length_drop]) (flat_one BlobD.one _) (by decide) (by omega) (by omega) ?_; intro A8 c8 w8 hown8 hg8)
        have O8 : Hid (w8.ownsRow W4.heap.size 30 3 (.slice A8 (putB bs x.id x.tier x').length c8) (putB bs x.id x.tier x').length ((putB bs x.id x.tier x').flatMap BlobD.cells)) := Lib.hid (by rw [PL.out, PC.out]; exact hown8)
        have G8 := Lib.hid (only_own (only_trans G4.out G46.out) hg8 O6.out hsz4)
        have D8 := Lib.hid (D6.out.kept hg8 (own_two D6.out O6.out (by decide)))
        clear hown8 hg8
        obtain ⟨A9, c9, e9, hc9, hm9, -, hr9⟩ := Rd.of_own O8.out (by decide)
        injection e9 with e91 e92 e93
        subst e91 e93
        have R9 := Lib.hid hr9
        obtain ⟨A7, c7, e7, hc7, hm7, -, hr7⟩ := Rd.of_own D8.out (by decide)
        injection e7 with e71 e72 e73
        subst e71 e73
        have R7 := Lib.hid hr7
        clear hr9 hr7
        go_ret
        exact ⟨A8, c8, putB bs x.id x.tier x', by rw [PL.out]; rfl, ⟨x', by rw [HX'.out]; rfl, rfl⟩, hc9, hm9, (fun e => absurd e (R9.out.ne_none (by rw [flat_len _ 3 BlobD.cells_len, PL.out]; omega))), R9.out.mono (fun b hb _ => HS0.out b (Nat.le_trans hsz4 hb)), putB_sub (fun y hy => (HSB.out y hy).grown G8.out (by simp)) (by
          rw [HX'.out]; exact ⟨R7.out.mono (fun b hb _ => HS0.out b hb), hc7, hm7, HXS.out.2.2.2⟩), G8.out⟩
end Go.Proofs.Ytganfhmjklcchaa
