/- Hash, Positions, New: the reference of chapter 26. Conditions: sizes. -/
import Derived.Test.YtodaabofpkafjaaGreatJSegT
import Derived.Deep.RegionWith
import Derived.StillTailTactics
import Derived.Deep.DeepCutAuto
namespace Go.Proofs.YtodaabofpkafjaaGreat
open Go.RowKit
set_option linter.unusedVariables false
set_option linter.unusedSimpArgs false

def hstep (h : Nat) (b : Int) : Nat := ((h ^^^ b.toNat) * 16777619) % 4294967296
def hashT (seed : Nat) (bs : List Int) : Nat := bs.foldl hstep (2166136261 ^^^ seed)
def hashF (h : Nat) : Nat := ((h ^^^ (h / 32768)) * 2246822519 % 4294967296) ^^^ ((h ^^^ (h / 32768)) * 2246822519 % 4294967296 / 8192)
def hashN (seed : Nat) (bs : List Int) : Nat := hashF (hashT seed bs)
theorem hashF_lt {h : Nat} : hashF h < 4294967296 := xor_lt32 (by omega) (by omega)
theorem bts_inb (s : ByteArray) : ∀ x ∈ bts s, 0 ≤ x ∧ x ≤ 255 := fun x hx => by
  unfold bts at hx
  obtain ⟨b, -, rfl⟩ := List.mem_map.1 hx
  have := b.toNat_lt
  omega
set_option maxHeartbeats 4000000 in
set_option maxRecDepth 100000 in
theorem hash_any (seed : Nat) (hs : seed < 4294967296) (s : ByteArray) (hz : s.size ≤ 100000) (w : World) :
    Calls Tryz.prog 121 #[.int .u32 seed, .string s] w (fun e w' => e = .returned (.int .u32 (hashN seed (bts s) : Nat)) ∧ w' = w) := by
  have hx0 : bits BinOp.xor IntKind.u32 2166136261 (seed : Int) = ((2166136261 ^^^ seed : Nat) : Int) := xor_u32 2166136261 seed (by decide) hs
  have hl0 : 2166136261 ^^^ seed < 4294967296 := xor_lt32 (by decide) hs
  obtain ⟨R, hR⟩ : ∃ r, r = hashN seed (bts s) := ⟨_, rfl⟩
  have HR : Hid (R = hashF ((bts s).foldl hstep (2166136261 ^^^ seed))) := Lib.hid hR
  obtain ⟨h0, hh0⟩ : ∃ h0, h0 = 2166136261 ^^^ seed := ⟨_, rfl⟩
  rw [← hh0] at hx0 hl0 HR
  rw [← hR]
  clear hR hh0
  go_enter Tryz.func121, Tryz.ntmps121
  go_wp2_with fail
  go_loopw [5, 6] (fun vh vi wr => ∃ (k h : Nat), vi = .int .i64 k ∧ k ≤ s.size ∧ vh = .int .u32 h ∧ Hid (((bts s).take k).foldl hstep h0 = h) ∧ h < 4294967296 ∧ wr = w) (fun _ vi _ => s.size - (intOf vi).toNat)
  case atStart => exact ⟨0, h0, rfl, Nat.zero_le _, rfl, Lib.hid rfl, hl0, rfl⟩
  case round =>
    clear hx0 hl0
    obtain ⟨k, h, rfl, hk, rfl, HH, hh, rfl⟩ := hrel
    by_cases hlt : k < s.size
    · have hx := bts_at s hlt
      have hxb : (s[k]'hlt).toNat ≤ 255 := by have := (s[k]'hlt).toNat_lt; omega
      have hX := xor_u32 h (s[k]'hlt).toNat hh (by omega)
      obtain ⟨y, hy⟩ : ∃ y, y = h ^^^ (s[k]'hlt).toNat := ⟨_, rfl⟩
      rw [← hy] at hX
      have HN : Hid (((bts s).take (k + 1)).foldl hstep h0 = y * 16777619 % 4294967296) := Lib.hid (by
        obtain ⟨h1, h2⟩ := List.getElem?_eq_some_iff.1 hx
        rw [List.take_succ_eq_append_getElem h1, h2, List.foldl_append, HH.out]
        rw [List.foldl_cons, List.foldl_nil, hstep, Int.toNat_natCast, hy])
      have i1 : (k : Int) < (s.size : Int) := by omega
      clear hx hy
      go_wp2_with fail
      go_roundw
      case rel => exact ⟨k + 1, y * 16777619 % 4294967296, by go_num, by omega, congrArg (Value.int .u32) (by omega), HN, by omega, trivial⟩
      case measure => simp [intOf]; omega
    · have HH2 : Hid ((bts s).foldl hstep h0 = h) := Lib.hid (by have h9 := HH.out; rw [List.take_of_length_le (by rw [bts_length]; omega)] at h9; exact h9)
      have i1 : ¬ (k : Int) < (s.size : Int) := by omega
      have hX1 : bits BinOp.xor IntKind.u32 (h : Int) ((h : Int) / 32768) = ((h ^^^ (h / 32768) : Nat) : Int) := by rw [show (h : Int) / 32768 = ((h / 32768 : Nat) : Int) from by omega]; exact xor_u32 h (h / 32768) hh (by omega)
      have hy1 : h ^^^ (h / 32768) < 4294967296 := xor_lt32 hh (by omega)
      obtain ⟨y, hy⟩ : ∃ y, y = h ^^^ (h / 32768) := ⟨_, rfl⟩
      rw [← hy] at hX1 hy1
      have HF : Hid (R = (y * 2246822519 % 4294967296) ^^^ (y * 2246822519 % 4294967296 / 8192)) := Lib.hid (by rw [HR.out, HH2.out, hashF, ← hy])
      have hX2 : bits BinOp.xor IntKind.u32 ((y : Int) * 2246822519 % 4294967296) ((y : Int) * 2246822519 % 4294967296 / 8192) = (R : Int) := by
        obtain ⟨z, hz⟩ : ∃ z, z = y * 2246822519 % 4294967296 := ⟨_, rfl⟩
        have e1 : (y : Int) * 2246822519 % 4294967296 = (z : Int) := by omega
        have e2 : (z : Int) / 8192 = ((z / 8192 : Nat) : Int) := by omega
        rw [e1, e2, xor_u32 z (z / 8192) (by omega) (by omega), HF.out, ← hz]
      have HX2 := Lib.hid hX2
      clear hy hX2
      go_wp2_with fail
      go_ret
      exact ⟨congrArg (fun x => Ending.returned (Value.int .u32 x)) HX2.out, rfl⟩
theorem u64Info : (Tryz.prog.info? 72).map (fun i => (i.zero, i.size, i.bytes)) = some (some (.int .u64 0), 1, 8) := by kernel_rfl
/-- a new filter -/
def FilP (w : World) (n : Nat) (e : Ending) (w' : World) : Prop := ∃ g, e = .returned (.tuple #[.agg #[.int .i64 3, .slice (some ⟨g, 0, none⟩) n n], .int .i64 0]) ∧ w.heap.size ≤ g ∧ Blk w' g 72 (Array.replicate n (.int .u64 0)) ∧ w.grownBy w' none
set_option maxHeartbeats 4000000 in
set_option maxRecDepth 100000 in
theorem fnew_any (size n : Nat) (hn : n = (size + 63) / 64) (h1 : 1 ≤ size) (h2 : size ≤ 65536) (w : World) :
    Calls Tryz.prog 109 #[.int .i64 size, .int .i64 3] w (FilP w n) := by
  have i1 : ¬ (size : Int) < 1 := by omega
  have i2 : ¬ (65536 : Int) < (size : Int) := by omega
  have HD : Hid (((size : Int) + 63) / 64 = (n : Int)) := Lib.hid (by omega)
  have hD := HD.out
  have hmk := fun (w' : World) => mk_any (P := Tryz.prog) Tryz.underlying141 u64Info rfl (by decide) n (by omega) w'
  have hnn : n ≤ 1024 := by omega
  clear hn h1 h2
  go_enter Tryz.func109, Tryz.ntmps109
  go_wp2_with fail
  have hB := (Blk.new w 143 #[.int .i64 3, .slice (some ⟨w.heap.size + 1, 0, none⟩) n n]).alloc (.cells (Array.replicate n (.int .u64 0)) 72)
  have q0 := hB.cell 0
  have q1 := hB.cell 1
  simp only [List.size_toArray, List.length_cons, List.length_nil, Nat.zero_add, Nat.reduceAdd, Nat.reduceLT, getElem?_pos, List.getElem_toArray, List.getElem_cons_zero, List.getElem_cons_succ] at q0 q1
  refine bodyPost_ret (v := .tuple #[.agg #[.int .i64 3, .slice (some ⟨w.heap.size + 1, 0, none⟩) n n], .int .i64 0]) (by simp [results, Tryz.results109, go_sem, q0, q1]) rfl ⟨w.heap.size + 1, rfl, by omega, ?_, only_alloc (only_alloc (only_refl _ _) _) _⟩
  have h := Blk.new (w.alloc (.cells #[.int .i64 3, .slice (some ⟨w.heap.size + 1, 0, none⟩) n n] 143)) 72 (Array.replicate n (.int .u64 0))
  simpa using h
/-- the places of a word -/
def placeX (n : Nat) (bs : List Int) (i : Nat) : Nat := (hashN 0 bs + i * hashN 1 bs) % 4294967296 % (64 * n)
def posX (n : Nat) (bs : List Int) : List Int := (List.range 3).map (fun i => (placeX n bs i : Int))
def PosP (w : World) (l : List Int) (e : Ending) (w' : World) : Prop := ∃ A c, e = .returned (.slice A l.length c) ∧ l.length ≤ c ∧ c ≤ maxLen ∧ Rd (w.heap.size ≤ ·) w' A (l.map (.int .i64)) ∧ w.grownBy w' none
set_option maxHeartbeats 4000000 in
set_option maxRecDepth 100000 in
theorem positions_any (A : Option Addr) (n c : Nat) (hn : 1 ≤ n) (hn2 : n ≤ 1024) (s : ByteArray) (hz : s.size ≤ 100000) (w : World) :
    Calls Tryz.prog 110 #[.agg #[.int .i64 3, .slice A n c], .string s] w (PosP w (posX n (bts s))) := by
  have KA := Lib.hid (fun w' => hash_any 0 (by decide) s hz w')
  have KB := Lib.hid (fun w' => hash_any 1 (by decide) s hz w')
  have hal : hashN 0 (bts s) < 4294967296 := hashF_lt
  have hbl : hashN 1 (bts s) < 4294967296 := hashF_lt
  have HP : Hid (∀ k, k < 3 → (posX n (bts s)).take (k + 1) = (posX n (bts s)).take k ++ [(((hashN 0 (bts s) + k * hashN 1 (bts s)) % 4294967296 % (64 * n) : Nat) : Int)]) := Lib.hid (fun k hk => by
    have h : (posX n (bts s))[k]? = some (placeX n (bts s) k : Int) := by
      unfold posX
      rw [List.getElem?_map, List.getElem?_range hk]
      rfl
    obtain ⟨h1, h2⟩ := List.getElem?_eq_some_iff.1 h
    rw [List.take_succ_eq_append_getElem h1, h2]
    rfl)
  have HL : Hid ((posX n (bts s)).length = 3) := Lib.hid (by unfold posX; rw [List.length_map, List.length_range])
  obtain ⟨P, hP⟩ : ∃ p, p = posX n (bts s) := ⟨_, rfl⟩
  obtain ⟨ha, hha⟩ : ∃ h, h = hashN 0 (bts s) := ⟨_, rfl⟩
  obtain ⟨hb, hhb⟩ : ∃ h, h = hashN 1 (bts s) := ⟨_, rfl⟩
  rw [← hha, ← hhb, ← hP] at HP
  rw [← hP] at HL
  rw [← hha] at KA hal
  rw [← hhb] at KB hbl
  rw [← hP]
  clear hP hha hhb
  have hfi : (Tryz.prog.info? 47).map (fun i => i.size) = some 1 := by kernel_rfl
  go_enter Tryz.func110, Tryz.ntmps110
  go_wp2_with fail
  refine (KA.out _).mono ?_
  rintro e w1 ⟨rfl, rfl⟩
  go_wp2_with fail
  refine (KB.out _).mono ?_
  rintro e w1 ⟨rfl, rfl⟩
  go_wp2_with fail
  have hB0 : Blk (w.alloc (.cells #[.int .i64 3, .slice A n c] 143)) w.heap.size 143 #[.int .i64 3, .slice A n c] := Blk.new _ _ _
  have hg0 : w.grownBy (w.alloc (.cells #[.int .i64 3, .slice A n c] 143)) none := only_alloc (only_refl _ _) _
  have BF := Lib.hid hB0
  have G0 := Lib.hid hg0
  obtain ⟨xb, hxb⟩ : ∃ b, b = w.heap.size := ⟨_, rfl⟩
  obtain ⟨W, hW⟩ : ∃ W, W = w.alloc (.cells #[.int .i64 3, .slice A n c] 143) := ⟨_, rfl⟩
  rw [← hW, ← hxb] at BF
  rw [← hW] at G0
  rw [← hW, ← hxb]
  clear hW hxb hB0 hg0
  go_loopw [7, 8] (fun v vi wr => ∃ k : Nat, vi = .int .i64 k ∧ k ≤ 3 ∧ wr.ownsRow W.heap.size 3 1 v k ((P.take k).map (.int .i64)) ∧ W.grownBy wr none) (fun _ vi _ => 3 - (intOf vi).toNat)
  case atStart => exact ⟨0, rfl, by omega, World.ownsRow_nil _ _ _ _, only_refl _ _⟩
  case round =>
    obtain ⟨k, rfl, hk, hO, hG⟩ := hrel
    have OO := Lib.hid hO
    have G := Lib.hid hG
    have hbase := hG.size
    have BW := BF.out.grown hG (by simp)
    have x0 := BW.cell 0
    have x1 := BW.cell 1
    simp at x0 x1
    obtain ⟨vO, hvO⟩ : ∃ v, v = u7 := ⟨_, rfl⟩
    rw [← hvO] at OO ⊢
    clear hO hG hvO BW
    by_cases hlt : k < 3
    · have i1 : (k : Int) < 3 := by omega
      have HPK := Lib.hid (HP.out k hlt)
      have HXE : Hid (((ha : Int) + (k : Int) * (hb : Int)) % 4294967296 % (64 * (n : Int)) = (((ha + k * hb) % 4294967296 % (64 * n) : Nat) : Int)) := Lib.hid (by
        simp only [Int.natCast_emod, Int.natCast_add, Int.natCast_mul]; rfl)
      go_wp2_with (at_builtin; go_must (refine wpList_append1 rfl _ _ 47 rfl W.heap.size Tryz.underlying47 intInfoS rfl (by decide) (v := vO) (by rfl) (w0 := wr) (cs := #[.int .i64 (((ha : Int) + (k : Int) * (hb : Int)) % 4294967296 % (64 * (n : Int)))]) OO.out (by rfl) rfl (by simp [Value.oneCell']) (by decide) (by omega) (by omega) ?_); intro v5 w5 hown5 hg5 hob5)
      rw [HXE.out] at hown5
      have O5 : Hid (w5.ownsRow W.heap.size 3 1 v5 (k + 1) ((P.take (k + 1)).map (.int .i64))) := Lib.hid (by rw [HPK.out, List.map_append]; exact hown5)
      have G5 : Hid (W.grownBy w5 none) := Lib.hid (only_own G.out hg5 OO.out (Nat.le_refl _))
      clear hown5 hg5 hob5
      go_wp2_with fail
      go_roundw
      case rel => exact ⟨k + 1, by go_num, by omega, O5.out, G5.out⟩
      case measure => simp [intOf]; omega
    · have i1 : ¬ (k : Int) < 3 := by omega
      have hkE : k = 3 := by omega
      have hE : P.take k = P := List.take_of_length_le (by rw [HL.out]; omega)
      obtain ⟨AO, cO, hv, h1, h2, -, h3⟩ := Rd.of_own OO.out (by decide)
      rw [hE] at h3
      have h4 : k = P.length := by rw [HL.out]; exact hkE
      rw [h4] at h1 hv
      have H1 := Lib.hid h1
      have H2 := Lib.hid h2
      have H3 := Lib.hid (h3.mono (S' := (w.heap.size ≤ ·)) (fun b hb _ => Nat.le_trans G0.out.size hb))
      rw [hv]
      clear hv h1 h2 h3 h4 hE hkE OO
      go_wp2_with fail
      go_ret
      exact ⟨AO, cO, rfl, H1.out, H2.out, H3.out, only_trans G0.out G.out⟩
end Go.Proofs.YtodaabofpkafjaaGreat

namespace Go.Proofs.YtodaabofpkafjaaGreat
open Go.RowKit
set_option linter.unusedVariables false
set_option linter.unusedSimpArgs false

/-- the words of a filter, as they lie -/
def cellsU (xs : List Int) : Array Value := (xs.map (fun x => Value.int .u64 x)).toArray
theorem cellsU_set (xs : List Int) (q : Nat) (x : Int) : (cellsU xs).setIfInBounds q (.int .u64 x) = cellsU (xs.set q x) := by simp [cellsU, List.map_set]
theorem cellsU_at {xs : List Int} {q : Nat} (h : q < xs.length) : (cellsU xs)[q]? = some (.int .u64 (xs.getD q 0)) := by simp [cellsU, h]
theorem cellsU_zero (n : Nat) : Array.replicate n (Value.int .u64 0) = cellsU (List.replicate n 0) := by simp [cellsU]
def setP (xs : List Int) (p : Nat) : List Int := xs.set (p / 64) (bits BinOp.or IntKind.u64 (xs.getD (p / 64) 0) (IntKind.u64.wrap (2 ^ (p % 64))))
theorem setP_len (xs : List Int) (p : Nat) : (setP xs p).length = xs.length := by simp [setP]
def bitsT (n : Nat) (xs : List Int) (s : ByteArray) : List Int := (List.range 3).foldl (fun xs i => setP xs (placeX n (bts s) i)) xs
theorem bitsK_len (n : Nat) (s : ByteArray) (xs : List Int) : ∀ l : List Nat, (l.foldl (fun xs i => setP xs (placeX n (bts s) i)) xs).length = xs.length := by
  intro l
  induction l generalizing xs with
  | nil => rfl
  | cons a l ih => rw [List.foldl_cons, ih, setP_len]
theorem bitsT_len (n : Nat) (xs : List Int) (s : ByteArray) : (bitsT n xs s).length = xs.length := bitsK_len n s xs _
def bitsN (n : Nat) (ws : List ByteArray) : List Int := ws.foldl (bitsT n) (List.replicate n 0)
theorem bitsN_len (n : Nat) (ws : List ByteArray) : (bitsN n ws).length = n := by
  have key : ∀ (l : List ByteArray) (xs : List Int), (l.foldl (bitsT n) xs).length = xs.length := by
    intro l
    induction l with
    | nil => intro _; rfl
    | cons a l ih => intro xs; rw [List.foldl_cons, ih, bitsT_len]
  unfold bitsN
  rw [key, List.length_replicate]
theorem posX_at (n : Nat) (bs : List Int) {k : Nat} (hk : k < 3) : (posX n bs)[k]? = some (placeX n bs k : Int) := by
  unfold posX
  rw [List.getElem?_map, List.getElem?_range hk]
  rfl
theorem posX_len (n : Nat) (bs : List Int) : (posX n bs).length = 3 := by unfold posX; rw [List.length_map, List.length_range]
theorem placeX_lt {n : Nat} (h : 1 ≤ n) (bs : List Int) (i : Nat) : placeX n bs i / 64 < n := by
  have : placeX n bs i < 64 * n := Nat.mod_lt _ (by omega)
  omega
def sizeF (m : Nat) : Nat := (min 65536 (max 1 m * 10) + 63) / 64
theorem sizeF_in (m : Nat) : 1 ≤ sizeF m ∧ sizeF m ≤ 1024 := by unfold sizeF; omega
set_option maxHeartbeats 8000000 in
set_option maxRecDepth 100000 in
theorem fbuild_any {S : Nat → Prop} (A : Option Addr) (ws : List ByteArray) (c : Nat) (w : World) (h : Rd S w A (ws.map .string)) (hl : ws.length ≤ 1000000) (hz : ∀ x ∈ ws, x.size ≤ 100000) :
    Calls Tryz.prog 91 #[.slice A ws.length c, .int .i64 10] w (fun e w' => ∃ g, e = .returned (.tuple #[.agg #[.int .i64 3, .slice (some ⟨g, 0, none⟩) (sizeF ws.length) (sizeF ws.length)], .int .i64 0]) ∧ w.heap.size ≤ g ∧ Blk w' g 72 (cellsU (bitsN (sizeF ws.length) ws)) ∧ w.grownBy w' none) := by
  have H := Lib.hid h
  have HZ := Lib.hid hz
  obtain ⟨n, hn⟩ : ∃ n, n = sizeF ws.length := ⟨_, rfl⟩
  obtain ⟨hn1, hn2⟩ := sizeF_in ws.length
  rw [← hn] at hn1 hn2 ⊢
  have HMIN : Hid (min (65536 : Int) (max 1 (ws.length : Int) * 10) = ((min 65536 (max 1 ws.length * 10) : Nat) : Int)) := Lib.hid (by omega)
  have KN := Lib.hid (fun w' => fnew_any (min 65536 (max 1 ws.length * 10)) n hn (by omega) (by omega) w')
  have KP := Lib.hid (fun A c s w' hs => positions_any A n c hn1 hn2 s hs w')
  have HB0 : Hid (bitsN n (ws.take 0) = List.replicate n 0) := Lib.hid rfl
  have HB1 : Hid (∀ k s, ws[k]? = some s → bitsN n (ws.take (k + 1)) = bitsT n (bitsN n (ws.take k)) s) := Lib.hid (fun k s hs => by
    obtain ⟨h1, h2⟩ := List.getElem?_eq_some_iff.1 hs
    unfold bitsN
    rw [List.take_succ_eq_append_getElem h1, h2, List.foldl_append]
    rfl)
  have HBL := Lib.hid (bitsN_len n)
  clear h hz hn
  go_enter Tryz.func91, Tryz.ntmps91
  go_wp2_with fail
  rw [HMIN.out]
  obtain ⟨rb, hrb⟩ : ∃ b, b = w.heap.size := ⟨_, rfl⟩
  obtain ⟨W0, hW0⟩ : ∃ W, W = w.alloc (.cells #[.int .i64 0, .slice none 0 0] 143) := ⟨_, rfl⟩
  have hBR : Blk W0 rb 143 #[.int .i64 0, .slice none 0 0] := by rw [hW0, hrb]; exact Blk.new _ _ _
  have hG0 : w.grownBy W0 none := by rw [hW0]; exact only_alloc (only_refl _ _) _
  have HRB := Lib.hid hrb
  rw [← hW0, ← hrb]
  clear hW0 hrb
  refine (KN.out W0).mono ?_
  rintro e w1 ⟨g, rfl, hg, hB, hG⟩
  have BG1 : Hid (Blk w1 g 72 (cellsU (bitsN n (ws.take 0)))) := Lib.hid (by rw [HB0.out, ← cellsU_zero]; exact hB)
  have BR1 := Lib.hid (hBR.grown hG (by simp))
  have G1 := Lib.hid (only_trans hG0 hG)
  have hrg : rb < g := by have := hBR.lt; omega
  clear hB hG hBR hG0 HB0
  go_wp2_with fail
  obtain ⟨fb, hfb⟩ : ∃ b, b = w1.heap.size := ⟨_, rfl⟩
  obtain ⟨W2, hW2⟩ : ∃ W, W = w1.alloc (.cells #[.int .i64 3, .slice (some ⟨g, 0, none⟩) n n] 143) := ⟨_, rfl⟩
  have hBF : Blk W2 fb 143 #[.int .i64 3, .slice (some ⟨g, 0, none⟩) n n] := by rw [hW2, hfb]; exact Blk.new _ _ _
  have hG2 : w1.grownBy W2 none := by rw [hW2]; exact only_alloc (only_refl _ _) _
  have BF2 := Lib.hid hBF
  have BG2 := Lib.hid (BG1.out.grown hG2 (by simp))
  have BR2 := Lib.hid (BR1.out.grown hG2 (by simp))
  have G2 := Lib.hid (only_trans G1.out hG2)
  have hgf : g < fb := by rw [hfb]; exact BG1.out.lt
  rw [← hW2, ← hfb]
  clear hW2 hfb hBF hG2 BG1 BR1 G1
  go_loopw [8] (fun vi wr => ∃ k : Nat, vi = .int .i64 k ∧ k ≤ ws.length ∧ Blk wr g 72 (cellsU (bitsN n (ws.take k))) ∧ Blk wr rb 143 #[.int .i64 0, .slice none 0 0] ∧ Blk wr fb 143 #[.int .i64 3, .slice (some ⟨g, 0, none⟩) n n] ∧ w.grownBy wr none) (fun vi _ => ws.length - (intOf vi).toNat)
  case atStart => exact ⟨0, rfl, Nat.zero_le _, BG2.out, BR2.out, BF2.out, G2.out⟩
  case round =>
    clear BG2 BR2 BF2 G2
    obtain ⟨k, rfl, hk, hBG, hBR, hBF, hG⟩ := hrel
    have BG := Lib.hid hBG
    have BR := Lib.hid hBR
    have BF := Lib.hid hBF
    have GG := Lib.hid hG
    have f0 := hBF.cell 0; have f1 := hBF.cell 1
    simp only [List.size_toArray, List.length_cons, List.length_nil, Nat.zero_add, Nat.reduceAdd, Nat.reduceLT, getElem?_pos, List.getElem_toArray, List.getElem_cons_zero, List.getElem_cons_succ] at f0 f1
    clear hBG hBR hBF hG
    by_cases hlt : k < ws.length
    · obtain ⟨b, off, x, rfl, hc, hx⟩ := (H.out.grown GG.out (by simp)).str_at hlt
      have HS1 := Lib.hid (HB1.out k x hx.out)
      have hxz := HZ.out x (List.mem_of_getElem? hx.out)
      have i1 : (k : Int) < (ws.length : Int) := by omega
      have KPx := Lib.hid (fun w' => KP.out (some ⟨g, 0, none⟩) n x w' hxz)
      obtain ⟨xs, hxs⟩ : ∃ xs, xs = bitsN n (ws.take k) := ⟨_, rfl⟩
      have HXL : Hid (xs.length = n) := Lib.hid (by rw [hxs]; exact HBL.out _)
      rw [← hxs] at BG HS1
      clear hx hxs
      have hpl := posX_len n (bts x)
      obtain ⟨ps, hps⟩ : ∃ ps, ps = posX n (bts x) := ⟨_, rfl⟩
      have HPA : Hid (∀ j, j < 3 → ps[j]? = some (placeX n (bts x) j : Int)) := Lib.hid (fun j hj => by rw [hps]; exact posX_at n _ hj)
      rw [← hps] at hpl
      have HPL := Lib.hid hpl
      have KPx : Hid (∀ w', Calls Tryz.prog 110 #[.agg #[.int .i64 3, .slice (some ⟨g, 0, none⟩) n n], .string x] w' (PosP w' ps)) := Lib.hid (by rw [hps]; exact KPx.out)
      clear hps hpl
      have hfw : fb < wr.heap.size := BF.out.lt
      go_upto_region 7 with fail
      go_cut [9] (fun v wx => ∃ (AP : Option Addr) (cP : Nat), v = .slice AP 3 cP ∧ Rd (fun b => fb < b) wx AP (ps.map (.int .i64)) ∧ wr.grownBy wx none)
      case first =>
        go_region_with (go_at_call 110; refine (KPx.out _).mono ?_; rintro e w4 ⟨AP, cP, rfl, hp1, hp2, hp3, hg4⟩; rw [HPL.out])
        all_goals
          go_wp2_with fail
          go_meet
          exact ⟨AP, cP, rfl, hp3.mono (fun b hb _ => by have h1 : wr.heap.size ≤ b := hb; omega), only_trans (only_drew (only_refl _ _)) hg4⟩
      case rest =>
      obtain ⟨AP, cP, rfl, hp3, hg4⟩ := hcut
      have RP4 := Lib.hid hp3
      have BG4 := Lib.hid (BG.out.grown hg4 (by simp))
      have BR4 := Lib.hid (BR.out.grown hg4 (by simp))
      have BF4 := Lib.hid (BF.out.grown hg4 (by simp))
      have G4 := Lib.hid (only_trans GG.out hg4)
      have HPT : Hid (∀ j, placeX n (bts x) j / 64 < n) := Lib.hid (fun j => placeX_lt hn1 _ j)
      have HBT : Hid (bitsT n xs x = (List.range 3).foldl (fun xs i => setP xs (placeX n (bts x) i)) xs) := Lib.hid rfl
      have HBK : Hid (∀ j, ((List.range (j + 1)).foldl (fun xs i => setP xs (placeX n (bts x) i)) xs) = setP ((List.range j).foldl (fun xs i => setP xs (placeX n (bts x) i)) xs) (placeX n (bts x) j)) := Lib.hid (fun j => by rw [List.range_succ, List.foldl_append]; rfl)
      have HBN : Hid (∀ j, ((List.range j).foldl (fun xs i => setP xs (placeX n (bts x) i)) xs).length = n) := Lib.hid (fun j => by rw [bitsK_len]; exact HXL.out)
      clear hp3 hg4 f0 f1 hc BG BR BF GG hfw KPx HPL
      go_wp2_with fail
      obtain ⟨wo, rfl⟩ : ∃ wo : World, wo = wr := ⟨_, rfl⟩
      go_loopw [10] (fun vj wr => ∃ (j : Nat) (ys : List Int), vj = .int .i64 j ∧ j ≤ 3 ∧ Hid (ys = (List.range j).foldl (fun xs i => setP xs (placeX n (bts x) i)) xs) ∧ Blk wr g 72 (cellsU ys) ∧ Blk wr rb 143 #[.int .i64 0, .slice none 0 0] ∧ Blk wr fb 143 #[.int .i64 3, .slice (some ⟨g, 0, none⟩) n n] ∧ Rd (fun b => fb < b) wr AP (ps.map (.int .i64)) ∧ w.grownBy wr none) (fun vj _ => 3 - (intOf vj).toNat)
      case atStart => exact ⟨0, xs, rfl, by omega, Lib.hid rfl, BG4.out, BR4.out, BF4.out, RP4.out, G4.out⟩
      case round =>
        clear BG4 BR4 BF4 RP4 G4
        obtain ⟨j, ys, rfl, hj, HY, hBG, hBR, hBF, hRP, hG⟩ := hrel
        have BG := Lib.hid hBG
        have BR := Lib.hid hBR
        have BF := Lib.hid hBF
        have RP := Lib.hid hRP
        have GG := Lib.hid hG
        have f0 := hBF.cell 0; have f1 := hBF.cell 1
        simp only [List.size_toArray, List.length_cons, List.length_nil, Nat.zero_add, Nat.reduceAdd, Nat.reduceLT, getElem?_pos, List.getElem_toArray, List.getElem_cons_zero, List.getElem_cons_succ] at f0 f1
        clear hBG hBR hBF hG hRP
        by_cases hlt3 : j < 3
        · obtain ⟨p, hp⟩ : ∃ p, p = placeX n (bts x) j := ⟨_, rfl⟩
          have hps := HPA.out j hlt3
          have hpq := HPT.out j
          have hyl := HBN.out j
          have HN := Lib.hid (HBK.out j)
          rw [← HY.out] at hyl HN
          rw [← hp] at hps hpq HN
          obtain ⟨pb, po, eA, hpb, -, hpc⟩ := RP.out (by rw [List.length_map]; exact Nat.lt_of_le_of_lt (Nat.zero_le _) (List.getElem?_eq_some_iff.1 hps).1)
          have hcp := hpc j (.int .i64 p) (by rw [List.getElem?_map, hps]; rfl)
          obtain ⟨q, hq⟩ : ∃ q, q = p / 64 := ⟨_, rfl⟩
          rw [← hq] at hpq
          have hcq : wr.cell? ⟨g, q, none⟩ = some (.int .u64 (ys.getD q 0)) := (BG.out.cell q).trans (cellsU_at (by omega))
          have hfq := BG.out.frozen q
          obtain ⟨v, hv⟩ : ∃ v, v = ys.getD q 0 := ⟨_, rfl⟩
          rw [← hv] at hcq
          have eq1 : (p : Int) / 64 = (q : Int) := by omega
          have hqw : IntKind.i64.wrap (q : Int) = (q : Int) := IntWalk.i64_in _ (by omega)
          obtain ⟨r, hr⟩ : ∃ r, r = p % 64 := ⟨_, rfl⟩
          have ER : Hid ((p : Int).tmod 64 = (r : Int)) := Lib.hid (by rw [Int.tmod_eq_emod_of_nonneg (by omega)]; omega)
          have hrw : IntKind.i64.wrap (r : Int) = (r : Int) := IntWalk.i64_in _ (by omega)
          have hrl : r < 64 := by omega
          have HN2 : Hid (ys.set q (bits BinOp.or IntKind.u64 v (IntKind.u64.wrap (2 ^ r))) = (List.range (j + 1)).foldl (fun xs i => setP xs (placeX n (bts x) i)) xs) := Lib.hid (by rw [HN.out, setP, ← hq, ← hr, ← hv])
          have i1 : (j : Int) < 3 := by omega
          have i2 : (q : Int) < (n : Int) := by omega
          subst eA
          clear hps hpc hp hq hv hyl hr
          go_upto_region 11 with fail
          have er1 := ER.out
          go_still_tail 17, (by kernel_rfl)
          clear er1
          go_wp2_with fail
          obtain ⟨W9, hW9⟩ : ∃ W, W = (wr.setCell ⟨g, q, none⟩ (.int .u64 (bits BinOp.or IntKind.u64 v (IntKind.u64.wrap (2 ^ r))))).drew := ⟨_, rfl⟩
          have hg9 : wr.grownBy W9 (some g) := by rw [hW9]; exact only_drew (only_setB wr (p := ⟨g, q, none⟩) _)
          have BG9 : Hid (Blk W9 g 72 (cellsU (ys.set q (bits BinOp.or IntKind.u64 v (IntKind.u64.wrap (2 ^ r)))))) := Lib.hid (by rw [hW9, ← cellsU_set]; exact (BG.out.set_ q _).drew)
          have BR9 := Lib.hid (BR.out.grown hg9 (by simp; omega))
          have BF9 := Lib.hid (BF.out.grown hg9 (by simp; omega))
          have RP9 := Lib.hid (RP.out.grown hg9 (fun b hb e => by injection e with e; have h1 : fb < b := hb; omega))
          have G9 : Hid (w.grownBy W9 none) := Lib.hid (only_fresh GG.out hg9 (by have := HRB.out; omega))
          rw [← hW9]
          clear hW9 hg9
          go_roundw
          case rel => exact ⟨j + 1, _, by go_num, by omega, HN2, BG9.out, BR9.out, BF9.out, RP9.out, G9.out⟩
          case measure => simp [intOf]; omega
        · have hjE : j = 3 := by omega
          have HB9 : Hid (ys = bitsN n (ws.take (k + 1))) := Lib.hid (by rw [HY.out, HS1.out, HBT.out, hjE])
          have BG9 : Hid (Blk wr g 72 (cellsU (bitsN n (ws.take (k + 1))))) := Lib.hid (by rw [← HB9.out]; exact BG.out)
          have i1 : ¬ (j : Int) < 3 := by omega
          clear hjE
          go_wp2_with fail
          go_roundw
          case rel => exact ⟨k + 1, by go_num, by omega, BG9.out, BR.out, BF.out, GG.out⟩
          case measure => simp [intOf]; omega
    · have hkE : k = ws.length := by omega
      have i1 : ¬ (k : Int) < (ws.length : Int) := by omega
      have q0 := BR.out.cell 0; have q1 := BR.out.cell 1
      have z0 := BR.out.frozen 0; have z1 := BR.out.frozen 1
      simp only [List.size_toArray, List.length_cons, List.length_nil, Nat.zero_add, Nat.reduceAdd, Nat.reduceLT, getElem?_pos, List.getElem_toArray, List.getElem_cons_zero, List.getElem_cons_succ] at q0 q1
      have hBE : bitsN n (ws.take k) = bitsN n ws := by rw [List.take_of_length_le (by omega)]
      have BG9 : Hid (Blk wr g 72 (cellsU (bitsN n ws))) := Lib.hid (by rw [← hBE]; exact BG.out)
      clear hBE
      go_wp2_with fail
      have hgE : w.heap.size ≤ g := by have := HRB.out; omega
      obtain ⟨W9, hW9⟩ : ∃ W, W = (wr.setCell ⟨rb, 0, none⟩ (.int .i64 3)).setCell ⟨rb, 1, none⟩ (.slice (some ⟨g, 0, none⟩) n n) := ⟨_, rfl⟩
      have hb9 : Blk W9 rb 143 #[.int .i64 3, .slice (some ⟨g, 0, none⟩) n n] := by rw [hW9]; simpa using (BR.out.set_ 0 (.int .i64 3)).set_ 1 (.slice (some ⟨g, 0, none⟩) n n)
      have hg9 : w.grownBy W9 none := by rw [hW9]; exact only_setN (only_setN GG.out (by rw [HRB.out]; exact Nat.le_refl _) _) (by rw [HRB.out]; exact Nat.le_refl _) _
      have hk9 : Blk W9 g 72 (cellsU (bitsN n ws)) := by
        rw [hW9]
        exact (BG9.out.grown (only_setB wr _) (by simp; omega)).grown (only_setB _ _) (by simp; omega)
      rw [← hW9]
      clear hW9 q0 q1 z0 z1
      have q0 := hb9.cell 0; have q1 := hb9.cell 1
      simp only [List.size_toArray, List.length_cons, List.length_nil, Nat.zero_add, Nat.reduceAdd, Nat.reduceLT, getElem?_pos, List.getElem_toArray, List.getElem_cons_zero, List.getElem_cons_succ] at q0 q1
      exact bodyPost_ret (v := .tuple #[.agg #[.int .i64 3, .slice (some ⟨g, 0, none⟩) n n], .int .i64 0]) (by simp [results, Tryz.results91, go_sem, q0, q1]) rfl ⟨g, rfl, hgE, hk9, hg9⟩
end Go.Proofs.YtodaabofpkafjaaGreat

namespace Go.Proofs.YtodaabofpkafjaaGreat
open Go.RowKit
set_option linter.unusedVariables false
set_option linter.unusedSimpArgs false

theorem own_lit {w : World} {base e n : Nat} (cs : Array Value) (hb : base ≤ w.heap.size) (hn : cs.size = n) (hm : n ≤ 1000) : (w.alloc (.cells cs e)).ownsRow base e 1 (.slice (some ⟨w.heap.size, 0, none⟩) n n) n cs.toList :=
  ⟨by rw [Array.length_toList, hn, Nat.mul_one], .inr ⟨w.heap.size, n, cs, rfl, hb, heap_alloc_new w _, Nat.le_refl _, by unfold maxLen; omega, by rw [hn, Nat.mul_one], by rw [Nat.mul_one, List.take_of_length_le (by rw [Array.length_toList]; omega)]⟩⟩
set_option maxHeartbeats 4000000 in
set_option maxRecDepth 100000 in
theorem fcheck_any (A : Option Addr) (n c : Nat) (hn : 1 ≤ n) (hn2 : n ≤ 1024) (w : World) :
    Calls Tryz.prog 111 #[.agg #[.int .i64 3, .slice A n c]] w (fun e w' => e = .returned (.int .i64 0) ∧ w.grownBy w' none) := by
  have i1 : ¬ (n : Int) < 1 := by omega
  have i2 : ¬ (1024 : Int) < (n : Int) := by omega
  have i3 : ¬ n < 1 := by omega
  have i4 : ¬ 1024 < n := by omega
  have i5 : ¬ n = 0 := by omega
  go_enter Tryz.func111, Tryz.ntmps111
  go_wp2_with fail
  go_ret
  exact ⟨rfl, only_alloc (only_refl _ _) _⟩
def byteL (x : Int) (m : Nat) : List Int := (List.range m).map (fun k => x / 2 ^ (8 * k) % 256)
def encF (n : Nat) (xs : List Int) : List Int := [3, ((n / 256 % 256 : Nat) : Int), ((n % 256 : Nat) : Int)] ++ xs.flatMap (fun x => byteL x 8)
theorem byteL_len (x : Int) (m : Nat) : (byteL x m).length = m := by unfold byteL; rw [List.length_map, List.length_range]
theorem byteL_step (x : Int) (m : Nat) : byteL x (m + 1) = byteL x m ++ [x / 2 ^ (8 * m) % 256] := by unfold byteL; rw [List.range_succ, List.map_append]; rfl
theorem encF_flat (xs : List Int) : (xs.flatMap (fun x => byteL x 8)).length = 8 * xs.length := by
  induction xs with
  | nil => rfl
  | cons x xs ih => rw [List.flatMap_cons, List.length_append, ih, byteL_len, List.length_cons]; omega
theorem encF_len (n : Nat) (xs : List Int) : (encF n xs).length = 3 + 8 * xs.length := by
  unfold encF
  rw [List.length_append, encF_flat]
  rfl
set_option maxHeartbeats 8000000 in
set_option maxRecDepth 100000 in
theorem fencode_any (A : Option Addr) (n c : Nat) (hn : 1 ≤ n) (hn2 : n ≤ 1024) (xs : List Int) (hl : xs.length = n) (w : World) (h : Rd (fun _ => True) w A (xs.map (.int .u64))) :
    Calls Tryz.prog 92 #[.agg #[.int .i64 3, .slice A n c]] w (fun e w' => ∃ v, e = .returned (.tuple #[v, .int .i64 0]) ∧ Byts w.heap.size w' v (encF n xs) ∧ w.grownBy w' none) := by
  have H := Lib.hid (h.mono (S' := fun b => b < w.heap.size) (fun b _ h => h))
  have HL := Lib.hid hl
  have KC := Lib.hid (fun w' => fcheck_any A n c hn hn2 w')
  have HX : Hid (encF n xs = [3, ((n / 256 % 256 : Nat) : Int), ((n % 256 : Nat) : Int)] ++ xs.flatMap (fun x => byteL x 8)) := Lib.hid rfl
  have HSN : Hid (∀ k x, xs[k]? = some x → (xs.take (k + 1)).flatMap (fun x => byteL x 8) = (xs.take k).flatMap (fun x => byteL x 8) ++ byteL x 8) := Lib.hid (fun k x hx => flat_snoc (fun x => byteL x 8) hx)
  have HFL : Hid (∀ k, ((xs.take k).flatMap (fun x => byteL x 8)).length ≤ 8192) := Lib.hid (fun k => by rw [encF_flat, List.length_take]; omega)
  have HBS := Lib.hid byteL_step
  obtain ⟨R, hR⟩ : ∃ r, r = encF n xs := ⟨_, rfl⟩
  rw [← hR] at HX ⊢
  clear h hl hR
  have e1 : (n : Int) / 256 = ((n / 256 % 256 : Nat) : Int) := by omega
  have e2 : (n : Int) % 256 = ((n % 256 : Nat) : Int) := by omega
  have E12 := Lib.hid (And.intro e1 e2)
  clear e1 e2
  go_enter Tryz.func92, Tryz.ntmps92
  go_wp2_with fail
  obtain ⟨fb, hfb⟩ : ∃ b, b = w.heap.size := ⟨_, rfl⟩
  obtain ⟨W, hW⟩ : ∃ W, W = w.alloc (.cells #[.int .i64 3, .slice A n c] 143) := ⟨_, rfl⟩
  have hBF : Blk W fb 143 #[.int .i64 3, .slice A n c] := by rw [hW, hfb]; exact Blk.new _ _ _
  have hG0 : w.grownBy W none := by rw [hW]; exact only_alloc (only_refl _ _) _
  rw [← hW, ← hfb]
  clear hW hfb
  refine (KC.out W).mono ?_
  rintro e w1 ⟨rfl, hg1⟩
  have BF := Lib.hid (hBF.grown hg1 (by simp))
  have G1 := Lib.hid (only_trans hG0 hg1)
  have H1 := Lib.hid (H.out.grown (only_trans hG0 hg1) (by simp))
  have f0 := BF.out.cell 0; have f1 := BF.out.cell 1
  simp only [List.size_toArray, List.length_cons, List.length_nil, Nat.zero_add, Nat.reduceAdd, Nat.reduceLT, getElem?_pos, List.getElem_toArray, List.getElem_cons_zero, List.getElem_cons_succ] at f0 f1
  clear hBF hG0 hg1 KC H
  go_wp2_with fail
  have O1 : Hid ((w1.alloc (.cells #[.int .u8 3, .int .u8 ((n : Int) / 256), .int .u8 ((n : Int) % 256)] 5)).ownsRow w1.heap.size 5 1 (.slice (some ⟨w1.heap.size, 0, none⟩) 3 3) 3 [.int .u8 3, .int .u8 ((n : Int) / 256), .int .u8 ((n : Int) % 256)]) := Lib.hid (own_lit _ (Nat.le_refl _) rfl (by decide))
  have B1 : Hid (Byts w1.heap.size (w1.alloc (.cells #[.int .u8 3, .int .u8 ((n : Int) / 256), .int .u8 ((n : Int) % 256)] 5)) (.slice (some ⟨w1.heap.size, 0, none⟩) 3 3) ([3, ((n / 256 % 256 : Nat) : Int), ((n % 256 : Nat) : Int)] ++ (xs.take 0).flatMap (fun x => byteL x 8))) := Lib.hid (by
    unfold Byts
    rw [← E12.out.1, ← E12.out.2]
    exact O1.out)
  have G2 : Hid (w1.grownBy (w1.alloc (.cells #[.int .u8 3, .int .u8 ((n : Int) / 256), .int .u8 ((n : Int) % 256)] 5)) none) := Lib.hid (only_alloc (only_refl _ _) _)
  clear O1 E12
  obtain ⟨hd3, hh3⟩ : ∃ h : List Int, h = [3, ((n / 256 % 256 : Nat) : Int), ((n % 256 : Nat) : Int)] := ⟨_, rfl⟩
  have h3l : hd3.length = 3 := by rw [hh3]; rfl
  rw [← hh3] at HX B1
  clear hh3
  go_loopw [5, 6] (fun v vi wr => ∃ k : Nat, vi = .int .i64 k ∧ k ≤ n ∧ Byts w1.heap.size wr v (hd3 ++ (xs.take k).flatMap (fun x => byteL x 8)) ∧ w1.grownBy wr none) (fun _ vi _ => n - (intOf vi).toNat)
  case atStart => exact ⟨0, rfl, Nat.zero_le _, B1.out, G2.out⟩
  case round =>
    clear B1 G2
    obtain ⟨k, rfl, hk, hB, hG⟩ := hrel
    have B := Lib.hid hB
    have G := Lib.hid hG
    have hbase := hG.size
    clear f0 f1
    have BF2 := Lib.hid (BF.out.grown hG (by simp))
    have f0 := BF2.out.cell 0; have f1 := BF2.out.cell 1
    simp only [List.size_toArray, List.length_cons, List.length_nil, Nat.zero_add, Nat.reduceAdd, Nat.reduceLT, getElem?_pos, List.getElem_toArray, List.getElem_cons_zero, List.getElem_cons_succ] at f0 f1
    obtain ⟨vO, hvO⟩ : ∃ v, v = u5 := ⟨_, rfl⟩
    rw [← hvO] at B ⊢
    clear hB hG hvO
    by_cases hlt : k < n
    · obtain ⟨x, hx⟩ : ∃ x, xs[k]? = some x := ⟨_, List.getElem?_eq_getElem (by rw [HL.out]; exact hlt)⟩
      have HS1 := Lib.hid (HSN.out k x hx)
      have hfl := HFL.out k
      obtain ⟨pre, hpre⟩ : ∃ p, p = hd3 ++ (xs.take k).flatMap (fun x => byteL x 8) := ⟨_, rfl⟩
      have hpl : pre.length ≤ 8195 := by rw [hpre, List.length_append]; omega
      have HPRE := Lib.hid hpre
      rw [← hpre] at B
      have HXK := Lib.hid hx
      have i1 : (k : Int) < (n : Int) := by omega
      clear hx hpre hfl
      go_wp2_with fail
      obtain ⟨wo, rfl⟩ : ∃ wo : World, wo = wr := ⟨_, rfl⟩
      go_loopw [5, 7] (fun v vj wr => ∃ m : Nat, vj = .int .i64 m ∧ m ≤ 8 ∧ Byts w1.heap.size wr v (pre ++ byteL x m) ∧ w1.grownBy wr none) (fun _ vj _ => 8 - (intOf vj).toNat)
      case atStart => exact ⟨0, rfl, by omega, by simpa [byteL] using B.out, G.out⟩
      case round =>
        clear f0 f1 BF2 B G hbase
        obtain ⟨m, rfl, hm, hB, hG⟩ := hrel
        have B := Lib.hid hB
        have G := Lib.hid hG
        have hbase := hG.size
        have BF2 := Lib.hid (BF.out.grown hG (by simp))
        have f0 := BF2.out.cell 0; have f1 := BF2.out.cell 1
        simp only [List.size_toArray, List.length_cons, List.length_nil, Nat.zero_add, Nat.reduceAdd, Nat.reduceLT, getElem?_pos, List.getElem_toArray, List.getElem_cons_zero, List.getElem_cons_succ] at f0 f1
        obtain ⟨xb, xo, eA, hxb, -, hxc⟩ := (H1.out.grown hG (by simp)) (by rw [List.length_map]; exact Nat.lt_of_le_of_lt (Nat.zero_le _) (List.getElem?_eq_some_iff.1 HXK.out).1)
        have hcx := hxc k (.int .u64 x) (by rw [List.getElem?_map, HXK.out]; rfl)
        obtain ⟨vQ, hvQ⟩ : ∃ v, v = u5 := ⟨_, rfl⟩
        rw [← hvQ] at B ⊢
        rw [eA] at f1
        clear hB hG hvQ hxc
        by_cases hlt8 : m < 8
        · have i2 : (m : Int) < 8 := by omega
          have HBM := Lib.hid (HBS.out x m)
          have hbl := byteL_len x m
          go_wp2_with (at_builtin; go_must (refine wpList_append1 rfl _ _ 22 rfl w1.heap.size Tryz.underlying22 byteInfo rfl (by decide) (v := vQ) (by rfl) (w0 := wr) (cs := #[.int .u8 (x / 2 ^ (8 * m) % 256)]) B.out (by rfl) rfl (by simp [Value.oneCell']) (by decide) (by rw [List.length_append]; omega) (by omega) ?_); intro v5 w5 hown5 hg5 hob5)
          have B5 : Hid (Byts w1.heap.size w5 v5 (pre ++ byteL x (m + 1))) := Lib.hid (by rw [HBM.out, ← List.append_assoc]; exact Byts.snoc hown5)
          have G5 : Hid (w1.grownBy w5 none) := Lib.hid (only_own G.out hg5 B.out (Nat.le_refl _))
          clear hown5 hg5 hob5
          go_wp2_with fail
          go_roundw
          case rel => exact ⟨m + 1, by go_num, by omega, B5.out, G5.out⟩
          case measure => simp [intOf]; omega
        · have hmE : m = 8 := by omega
          have B9 : Hid (Byts w1.heap.size wr vQ (hd3 ++ (xs.take (k + 1)).flatMap (fun x => byteL x 8))) := Lib.hid (by
            rw [HS1.out, ← List.append_assoc, ← HPRE.out, ← hmE]
            exact B.out)
          have i2 : ¬ (m : Int) < 8 := by omega
          clear hmE
          go_wp2_with fail
          go_roundw
          case rel => exact ⟨k + 1, by go_num, by omega, B9.out, G.out⟩
          case measure => simp [intOf]; omega
    · have hkE : k = n := by omega
      have HE : Hid (R = hd3 ++ (xs.take k).flatMap (fun x => byteL x 8)) := Lib.hid (by rw [HX.out, List.take_of_length_le (by rw [HL.out]; omega)])
      have i1 : ¬ (k : Int) < (n : Int) := by omega
      clear hkE
      go_wp2_with fail
      go_ret2
      rw [HE.out]
      exact ⟨vO, rfl, B.out.base G1.out.size, only_trans G1.out G.out⟩
end Go.Proofs.YtodaabofpkafjaaGreat
