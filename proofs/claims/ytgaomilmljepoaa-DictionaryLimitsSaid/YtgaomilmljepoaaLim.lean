/- Words for the law of limits: three bytes of a number, a long word. No condition but the size. -/
import Derived.Test.YtgaomilmljepoaaBuildR
import Derived.Laws.MakeOwn
import Derived.Lib.SlBytesRow
namespace Go.Proofs.Ytgaomilmljepoaa
open Go.RowKit
set_option linter.unusedVariables false
set_option linter.unusedSimpArgs false

theorem made_one (z : Value) (hz : z.cells = #[z]) (n : Nat) : madeCells z.cells (n * 1) = Array.replicate n z := by
  rw [hz, Nat.mul_one]
  apply Array.ext
  · simp [madeCells]
  · intro i h1 h2
    simp [madeCells, Nat.mod_one]
theorem make_any {P : Program} {t e : TypeId} {z : Value} {bytes : Nat} (ht : P.underlying t = some (.slice e)) (hi : (P.info? e).map (fun i => (i.zero, i.size, i.bytes)) = some (some z, 1, bytes)) (hz : z.cells = #[z]) (hb : bytes ≤ 8) (n : Nat) (hn : n ≤ 10000000) (w : World) :
    Sem.run P (Instr.makeSlice t (.int .i64 (n : Int)) (.int .i64 (n : Int))) w = .ok (.slice (some ⟨w.heap.size, 0, none⟩) n n) (w.alloc (.cells (Array.replicate n z) e)) := by
  obtain ⟨i0, hi0, hz0, hz1, hz2⟩ := info_parts hi
  have hbi : (i0.bytes : Int) * (n : Int) ≤ 281474976710656 := by
    have h1 : i0.bytes * n ≤ 8 * 10000000 := Nat.mul_le_mul (by omega) hn
    have h2 : ((i0.bytes * n : Nat) : Int) ≤ 80000000 := by omega
    rw [Int.natCast_mul] at h2; omega
  have h := run_makeSlice (P := P) w t e i0 z ht hi0 hz0 .i64 .i64 n n (by omega) (Int.le_refl _) (by rw [hz1, Int.toNat_natCast]; omega) hbi (by omega)
  rw [Int.toNat_natCast, hz1, made_one z hz] at h
  exact h
def lg (n : Nat) : ByteArray := ⟨Array.replicate n 0⟩
theorem lg_size (n : Nat) : (lg n).size = n := by simp [lg, ByteArray.size]
theorem conv_lg (n : Nat) (w : World) : Sem.run Try.prog (convert 22 9 (.slice (some ⟨w.heap.size, 0, none⟩) n n)) (w.alloc (.cells (Array.replicate n (.int .u8 0)) 5)) = .ok (.string (lg n)) (w.alloc (.cells (Array.replicate n (.int .u8 0)) 5)) := by
  have h := Lib.run_convert_whole (P := Try.prog) (w.alloc (.cells (Array.replicate n (.int .u8 0)) 5)) 22 5 9 Try.underlying22 Try.underlying5 Try.underlying9 w.heap.size 0 (lg n) (fun i hi => by
    rw [Nat.zero_add, (Blk.new w _ _).cell i]
    rw [lg_size] at hi
    have e : (lg n)[i].toNat = 0 := by
      show ((Array.replicate n (0 : UInt8))[i]'(by simpa using hi)).toNat = 0
      rw [Array.getElem_replicate]; rfl
    rw [e, Array.getElem?_eq_getElem (by simpa using hi), Array.getElem_replicate]; rfl) n
  rw [lg_size] at h
  exact h
/-- three bytes of a number -/
def w3 (k : Nat) : ByteArray := ⟨#[(k / 65536).toUInt8, (k / 256).toUInt8, (k % 256).toUInt8]⟩
theorem u8_of {n : Nat} (h : n < 256) : (n.toUInt8).toNat = n := by
  show (UInt8.ofNat n).toNat = n
  rw [UInt8.toNat_ofNat']; omega
theorem conv_w3 {k : Nat} (hk : k < 65536) (w : World) : Sem.run Try.prog (convert 22 9 (.slice (some ⟨w.heap.size, 0, none⟩) 3 3)) (w.alloc (.cells #[.int .u8 ((k : Int) / 65536), .int .u8 ((k : Int) / 256), .int .u8 ((k : Int) % 256)] 5)) = .ok (.string (w3 k)) (w.alloc (.cells #[.int .u8 ((k : Int) / 65536), .int .u8 ((k : Int) / 256), .int .u8 ((k : Int) % 256)] 5)) := by
  refine Lib.run_convert_whole (P := Try.prog) _ 22 5 9 Try.underlying22 Try.underlying5 Try.underlying9 w.heap.size 0 (w3 k) (fun i hi => ?_) 3
  rw [Nat.zero_add, (Blk.new w _ _).cell i]
  have hi3 : i < 3 := hi
  rcases i with _ | _ | _ | i
  · show some (Value.int .u8 ((k : Int) / 65536)) = some (.int .u8 (((k / 65536).toUInt8.toNat : Nat) : Int))
    rw [u8_of (by omega)]; rfl
  · show some (Value.int .u8 ((k : Int) / 256)) = some (.int .u8 (((k / 256).toUInt8.toNat : Nat) : Int))
    rw [u8_of (by omega)]; rfl
  · show some (Value.int .u8 ((k : Int) % 256)) = some (.int .u8 (((k % 256).toUInt8.toNat : Nat) : Int))
    rw [u8_of (by omega)]; rfl
  · omega
theorem u8_lt {a b : Nat} (hb : b < 256) (h : a < b) : a.toUInt8 < b.toUInt8 := by
  rw [UInt8.lt_iff_toNat_lt, u8_of (by omega), u8_of hb]; exact h
theorem w3_lt {i j : Nat} (h : i < j) (hj : j < 65536) : sl (w3 i) (w3 j) = true := by
  unfold sl w3
  rw [ByteArray.toList_eq, ByteArray.toList_eq]
  simp only [Op.bytesLess, Bool.or_eq_true, decide_eq_true_eq, Bool.and_eq_true, beq_iff_eq]
  right
  refine ⟨by rw [show i / 65536 = 0 from by omega, show j / 65536 = 0 from by omega], ?_⟩
  by_cases h1 : i / 256 < j / 256
  · exact .inl (u8_lt (by omega) h1)
  · have e : i / 256 = j / 256 := by omega
    refine .inr ⟨by rw [e], .inl (u8_lt (by omega) (by omega))⟩
def wl (n : Nat) : List ByteArray := (List.range n).map w3
theorem wl_len (n : Nat) : (wl n).length = n := by simp [wl]
theorem wl_srt {n : Nat} (h : n ≤ 65536) : Srt (wl n) := by
  unfold Srt wl
  rw [List.pairwise_map]
  apply List.pairwise_iff_getElem.2
  intro i j hi hj hij
  simp at hi hj ⊢
  exact w3_lt hij (by omega)
theorem wl_snoc (n : Nat) : wl (n + 1) = wl n ++ [w3 n] := by simp [wl, List.range_succ]
theorem wl_dist {n : Nat} (h : n ≤ 65536) : dist (wl n) = wl n := srt_ext (dist_srt _) (wl_srt h) (dist_mem _)
theorem wl_long (n : Nat) : ¬ Long (wl n) := fun ⟨x, hx, hs⟩ => by
  obtain ⟨k, _, rfl⟩ := List.mem_map.1 hx
  have : (w3 k).size = 3 := rfl
  omega
theorem wl_err {n : Nat} (h : n ≤ 65536) : bErr (wl n) = if 32768 < n then 4 else 0 := by
  unfold bErr; rw [if_neg (wl_long n), wl_dist h, wl_len]
theorem wl_chk {n : Nat} (h : n ≤ 65536) : chk (wl n) = if 32768 < n then 4 else 0 := by
  unfold chk; rw [wl_len, if_neg (wl_long n), if_pos (srt_asc (wl_srt h))]
theorem srt_sub {l m : List ByteArray} (h : Srt l) (hs : m.Sublist l) : Srt m := List.Pairwise.sublist hs h
theorem wl_un {n : Nat} (h : n ≤ 65536) (h1 : 100 ≤ n) : un ((wl n).take 100) ((wl n).drop 50) = wl n := by
  refine srt_ext (un_srt _ _ (srt_sub (wl_srt h) (List.take_sublist _ _)) (srt_sub (wl_srt h) (List.drop_sublist _ _))) (wl_srt h) (fun s => ?_)
  rw [un_mem]
  constructor
  · rintro (hs | hs)
    · exact List.mem_of_mem_take hs
    · exact List.mem_of_mem_drop hs
  · intro hs
    have e : wl n = (wl n).take 50 ++ (wl n).drop 50 := (List.take_append_drop 50 _).symm
    rw [e] at hs
    rcases List.mem_append.1 hs with hs | hs
    · exact .inl (by
        have e2 : (wl n).take 50 = ((wl n).take 100).take 50 := by rw [List.take_take, show min 50 100 = 50 from rfl]
        rw [e2] at hs; exact List.mem_of_mem_take hs)
    · exact .inr hs
theorem lg_long (n : Nat) : Long [lg n] ↔ 2048 < n :=
  ⟨fun ⟨x, hx, hs⟩ => by rw [List.mem_singleton.1 hx, lg_size] at hs; exact hs, fun h => ⟨lg n, List.mem_singleton.2 rfl, by rw [lg_size]; exact h⟩⟩
theorem lg_dist (n : Nat) : dist [lg n] = [lg n] := srt_ext (dist_srt _) (List.pairwise_singleton _ _) (dist_mem _)
theorem lg_err (n : Nat) : bErr [lg n] = if 2048 < n then 3 else 0 := by
  unfold bErr
  by_cases h : 2048 < n
  · rw [if_pos ((lg_long n).2 h), if_pos h]
  · rw [if_neg (fun e => h ((lg_long n).1 e)), if_neg h, lg_dist, if_neg (by simp)]
theorem lg_chk (n : Nat) : chk [lg n] = if 2048 < n then 3 else 0 := by
  unfold chk
  rw [if_neg (by simp)]
  by_cases h : 2048 < n
  · rw [if_pos ((lg_long n).2 h), if_pos h]
  · rw [if_neg (fun e => h ((lg_long n).1 e)), if_neg h, if_pos (srt_asc (List.pairwise_singleton _ _))]
theorem wf_i8 {n : Int} (h : (Lit.int .i8 n).wf = true) : -128 ≤ n ∧ n ≤ 127 := by simpa [Lit.wf, IntKind.min, IntKind.max, IntKind.signed, IntKind.bits] using h
theorem tmod3 (x : Int) : -2 ≤ x.tmod 3 ∧ x.tmod 3 ≤ 2 := by
  rcases Int.le_total 0 x with h | h
  · have h1 := Int.tmod_nonneg 3 h
    have h2 := Int.tmod_lt_of_pos x (show (0 : Int) < 3 by decide)
    omega
  · have h1 := Int.tmod_nonneg 3 (show (0 : Int) ≤ -x by omega)
    have h2 := Int.tmod_lt_of_pos (-x) (show (0 : Int) < 3 by decide)
    have h3 := Int.neg_tmod x 3
    omega
end Go.Proofs.Ytgaomilmljepoaa
