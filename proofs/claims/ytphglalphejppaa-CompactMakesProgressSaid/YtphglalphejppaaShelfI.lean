/- slices.Sorted and slices.Sort at ints, at seat Ytphglalphejppaa: written by the kit (lay-plain); the numbers are that seat's. -/
import Derived.Shelf.SortM.Plain
import Derived.Shelf.SortM.SortNone
import Derived.Ground.SlgmProg
import Derived.Test.YtphglalphejppaaProg
namespace Go.Proofs
open Go.Shelf
def Try.sortA_ren : Go.Shelf.Ren := ⟨fun | 5 => 57 | 8 => 69 | 7 => 68 | 19 => 83 | 20 => 84 | 10 => 74 | 11 => 75 | 12 => 76 | 13 => 77 | 14 => 78 | 15 => 79 | 16 => 80 | 17 => 81 | 18 => 82 | 30 => 85 | 31 => 86 | 32 => 87 | 33 => 88 | 34 => 89 | 35 => 64 | 40 => 90 | n => n, fun | 23 => 45 | 25 => 3 | 3 => 3 | 32 => 124 | 22 => 45 | 0 => 0 | 44 => 137 | 46 => 139 | 4 => 4 | 36 => 131 | 35 => 130 | 41 => 109 | 5 => 5 | 9 => 9 | 53 => 140 | 57 => 144 | 63 => 146 | 64 => 147 | n => n, fun | n => n⟩
theorem Try.sortA : Go.Proofs.SlLaysM.n5 Try.prog Try.sortA_ren := {
  mixed := by kernel_rfl
  f5 := ⟨Try.f57.name, by decide, Try.func57.trans (congrArg some (by kernel_rfl))⟩
  f7 := ⟨Try.f68.name, by decide, Try.func68.trans (congrArg some (by kernel_rfl))⟩
  f8 := Try.func69.trans (congrArg some (by kernel_rfl))
  f10 := ⟨Try.f74.name, by decide, Try.func74.trans (congrArg some (by kernel_rfl))⟩
  f11 := ⟨Try.f75.name, by decide, Try.func75.trans (congrArg some (by kernel_rfl))⟩
  f12 := ⟨Try.f76.name, by decide, Try.func76.trans (congrArg some (by kernel_rfl))⟩
  f13 := ⟨Try.f77.name, by decide, Try.func77.trans (congrArg some (by kernel_rfl))⟩
  f14 := ⟨Try.f78.name, by decide, Try.func78.trans (congrArg some (by kernel_rfl))⟩
  f15 := ⟨Try.f79.name, by decide, Try.func79.trans (congrArg some (by kernel_rfl))⟩
  f16 := ⟨Try.f80.name, by decide, Try.func80.trans (congrArg some (by kernel_rfl))⟩
  f17 := ⟨Try.f81.name, by decide, Try.func81.trans (congrArg some (by kernel_rfl))⟩
  f18 := ⟨Try.f82.name, by decide, Try.func82.trans (congrArg some (by kernel_rfl))⟩
  f19 := Try.func83.trans (congrArg some (by kernel_rfl))
  f20 := Try.func84.trans (congrArg some (by kernel_rfl))
  f30 := ⟨Try.f85.name, by decide, Try.func85.trans (congrArg some (by kernel_rfl))⟩
  f31 := Try.func86.trans (congrArg some (by kernel_rfl))
  f32 := Try.func87.trans (congrArg some (by kernel_rfl))
  f33 := ⟨Try.f88.name, by decide, Try.func88.trans (congrArg some (by kernel_rfl))⟩
  f34 := ⟨Try.f89.name, by decide, Try.func89.trans (congrArg some (by kernel_rfl))⟩
  f35 := ⟨Try.f64.name, by decide, Try.func64.trans (congrArg some (by kernel_rfl))⟩
  f40 := ⟨Try.f90.name, by decide, Try.func90.trans (congrArg some (by kernel_rfl))⟩
  t0 := Try.underlying0
  a0 := Try.isAgg0
  z0 := Try.sizeOf0
  v0 := Try.zeroValue0
  t3 := Try.underlying3
  a3 := Try.isAgg3
  z3 := Try.sizeOf3
  v3 := Try.zeroValue3
  t4 := Try.underlying4
  a4 := Try.isAgg4
  z4 := Try.sizeOf4
  v4 := Try.zeroValue4
  t5 := Try.underlying5
  a5 := Try.isAgg5
  z5 := Try.sizeOf5
  v5 := Try.zeroValue5
  t9 := Try.underlying9
  a9 := Try.isAgg9
  z9 := Try.sizeOf9
  v9 := Try.zeroValue9
  t22 := Try.underlying45
  a22 := Try.isAgg45
  z22 := Try.sizeOf45
  v22 := Try.zeroValue45
  t23 := Try.underlying45
  a23 := Try.isAgg45
  z23 := Try.sizeOf45
  v23 := Try.zeroValue45
  t25 := Try.underlying3
  a25 := Try.isAgg3
  z25 := Try.sizeOf3
  v25 := Try.zeroValue3
  t32 := Try.underlying124
  a32 := Try.isAgg124
  z32 := Try.sizeOf124
  v32 := Try.zeroValue124
  t35 := Try.underlying130
  a35 := Try.isAgg130
  z35 := Try.sizeOf130
  v35 := Try.zeroValue130
  t36 := Try.underlying131
  a36 := Try.isAgg131
  z36 := Try.sizeOf131
  v36 := Try.zeroValue131
  t41 := Try.underlying109
  a41 := Try.isAgg109
  z41 := Try.sizeOf109
  v41 := Try.zeroValue109
  t44 := Try.underlying137
  a44 := Try.isAgg137
  z44 := Try.sizeOf137
  v44 := Try.zeroValue137
  t46 := Try.underlying139
  a46 := Try.isAgg139
  z46 := Try.sizeOf139
  v46 := Try.zeroValue139
  t53 := Try.underlying140
  a53 := Try.isAgg140
  z53 := Try.sizeOf140
  v53 := Try.zeroValue140
  t57 := Try.underlying144
  a57 := Try.isAgg144
  z57 := Try.sizeOf144
  v57 := Try.zeroValue144
  t63 := Try.underlying146
  a63 := Try.isAgg146
  z63 := Try.sizeOf146
  v63 := Try.zeroValue146
  t64 := Try.underlying147
  a64 := Try.isAgg147
  z64 := Try.sizeOf147
  v64 := Try.zeroValue147 }
open Go.RowKit Go.Sort in
theorem Try.slices_Sort_int (blk off cap : Nat) (zs : List Int) (w : World) (hH : Holds (Value.int .i64) w blk off zs.toArray) (hblk : blk < w.heap.size) (hsz : zs.length < 4611686018427387904) :
    Calls Try.prog 57 #[.slice (some ⟨blk, off, none⟩) zs.length cap] w fun e w' =>
      e = .returned (.tuple #[]) ∧ ∃ n os, w' = grow (putRow (Value.int .i64) (Sort.ahead w n) blk off (zs.mergeSort fun x y => decide (x ≤ y)).toArray) os := AnyM.slices_Sort_int Try.sortA blk off cap zs w hH hblk hsz
open Go.RowKit in
theorem Try.slices_Sort_int_none (p : Option Addr) (cap : Nat) (w : World) :
    Calls Try.prog 57 #[.slice p 0 cap] w fun e w' => e = .returned (.tuple #[]) ∧ w' = w := AnyM.slices_Sort_int_none Try.sortA p cap w
end Go.Proofs
