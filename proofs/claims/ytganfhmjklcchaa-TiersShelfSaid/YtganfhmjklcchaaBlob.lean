/- Blobs and shelves as plain data. No condition. -/
import Derived.Test.YtganfhmjklcchaaFlat
import Derived.Test.YtganfhmjklcchaaFlatAt
import Derived.Test.YtganfhmjklcchaaCmpI
namespace Go.Proofs.Ytganfhmjklcchaa
open Go.RowKit
set_option linter.unusedVariables false
set_option linter.unusedSimpArgs false

structure BlobD where
  id : Int
  tier : Int
  data : List Int
  A : Option Addr
  c : Nat
def BlobD.cells (x : BlobD) : List Value := [.int .i64 x.id, .int .i64 x.tier, .slice x.A x.data.length x.c]
theorem BlobD.cells_len (x : BlobD) : x.cells.length = 3 := rfl
theorem BlobD.one (x : BlobD) : ∀ u ∈ x.cells, u.oneCell' = true := by simp [BlobD.cells, Value.oneCell']
theorem blobInfo : (Try.prog.info? 30).map (fun i => (i.zero, i.size, i.bytes)) = some (some (.agg #[.int .i64 0, .int .i64 0, .slice none 0 0]), 3, 40) := by kernel_rfl
theorem blobSize : (Try.prog.info? 30).map (·.size) = some 3 := by kernel_rfl
/-- what a blob is about -/
def BlobD.key (x : BlobD) : Int × Int × List Int := (x.id, x.tier, x.data)
def BlobD.Sub (S : Nat → Prop) (w : World) (x : BlobD) : Prop := Rd S w x.A (x.data.map (.int .u8)) ∧ x.data.length ≤ x.c ∧ x.c ≤ maxLen ∧ x.data.length ≤ 1000000
theorem BlobD.Sub.grown {S : Nat → Prop} {w w' : World} {x : BlobD} {row : Option Nat} (h : x.Sub S w) (hg : w.grownBy w' row) (hr : ∀ b, S b → some b ≠ row) : x.Sub S w' := ⟨h.1.grown hg hr, h.2⟩
theorem BlobD.Sub.mono {S S' : Nat → Prop} {w : World} {x : BlobD} (h : x.Sub S w) (hS : ∀ b, S b → b < w.heap.size → S' b) : x.Sub S' w := ⟨h.1.mono hS, h.2⟩
end Go.Proofs.Ytganfhmjklcchaa
