/- The library's contract of slices.Sort at []int, laid over this program. -/
import Derived.Shelf.Sort.Plain
import Derived.Shelf.Slices.In.SortNone
import Derived.Test.YteojhbhaocgjoaaProg
namespace Go.Proofs
open Go.Shelf
def Try.lays189_ren : Go.Shelf.Ren := ⟨fun | 189 => 43 | 125 => 54 | 257 => 53 | 128 => 73 | 129 => 74 | 294 => 64 | 295 => 65 | 296 => 66 | 297 => 67 | 298 => 68 | 299 => 69 | 216 => 70 | 300 => 71 | 301 => 72 | 328 => 87 | 329 => 88 | 330 => 89 | 331 => 90 | 332 => 91 | 215 => 92 | 343 => 96 | n => n, fun | 28 => 28 | 3 => 3 | 46 => 84 | 0 => 0 | 51 => 102 | 53 => 104 | 4 => 4 | 183 => 94 | 182 => 93 | 131 => 99 | 5 => 5 | 9 => 9 | 218 => 119 | 222 => 123 | 228 => 128 | 229 => 129 | n => n, fun | n => n⟩
theorem Try.lays189 : Go.Proofs.Lays.n189 Try.prog Try.lays189_ren := {
  mixed := by kernel_rfl
  f125 := Try.func54.trans (congrArg some (by kernel_rfl))
  f128 := Try.func73.trans (congrArg some (by kernel_rfl))
  f129 := Try.func74.trans (congrArg some (by kernel_rfl))
  f189 := Try.func43.trans (congrArg some (by kernel_rfl))
  f215 := Try.func92.trans (congrArg some (by kernel_rfl))
  f216 := Try.func70.trans (congrArg some (by kernel_rfl))
  f257 := Try.func53.trans (congrArg some (by kernel_rfl))
  f294 := Try.func64.trans (congrArg some (by kernel_rfl))
  f295 := Try.func65.trans (congrArg some (by kernel_rfl))
  f296 := Try.func66.trans (congrArg some (by kernel_rfl))
  f297 := Try.func67.trans (congrArg some (by kernel_rfl))
  f298 := Try.func68.trans (congrArg some (by kernel_rfl))
  f299 := Try.func69.trans (congrArg some (by kernel_rfl))
  f300 := Try.func71.trans (congrArg some (by kernel_rfl))
  f301 := Try.func72.trans (congrArg some (by kernel_rfl))
  f328 := Try.func87.trans (congrArg some (by kernel_rfl))
  f329 := Try.func88.trans (congrArg some (by kernel_rfl))
  f330 := Try.func89.trans (congrArg some (by kernel_rfl))
  f331 := Try.func90.trans (congrArg some (by kernel_rfl))
  f332 := Try.func91.trans (congrArg some (by kernel_rfl))
  f343 := Try.func96.trans (congrArg some (by kernel_rfl))
  t0 := Try.underlying0
  a0 := Try.isAgg0
  z0 := Try.sizeOf0
  v0 := Try.zeroValue0
  t3 := Try.underlying3
  a3 := Try.isAgg3
  z3 := Try.sizeOf3
  v3 := Try.zeroValue3
  t4 := Try.underlying4
  a4 := Try.isAgg4
  z4 := Try.sizeOf4
  v4 := Try.zeroValue4
  t5 := Try.underlying5
  a5 := Try.isAgg5
  z5 := Try.sizeOf5
  v5 := Try.zeroValue5
  t9 := Try.underlying9
  a9 := Try.isAgg9
  z9 := Try.sizeOf9
  v9 := Try.zeroValue9
  t28 := Try.underlying28
  a28 := Try.isAgg28
  z28 := Try.sizeOf28
  v28 := Try.zeroValue28
  t46 := Try.underlying84
  a46 := Try.isAgg84
  z46 := Try.sizeOf84
  v46 := Try.zeroValue84
  t51 := Try.underlying102
  a51 := Try.isAgg102
  z51 := Try.sizeOf102
  v51 := Try.zeroValue102
  t53 := Try.underlying104
  a53 := Try.isAgg104
  z53 := Try.sizeOf104
  v53 := Try.zeroValue104
  t131 := Try.underlying99
  a131 := Try.isAgg99
  z131 := Try.sizeOf99
  v131 := Try.zeroValue99
  t182 := Try.underlying93
  a182 := Try.isAgg93
  z182 := Try.sizeOf93
  v182 := Try.zeroValue93
  t183 := Try.underlying94
  a183 := Try.isAgg94
  z183 := Try.sizeOf94
  v183 := Try.zeroValue94
  t218 := Try.underlying119
  a218 := Try.isAgg119
  z218 := Try.sizeOf119
  v218 := Try.zeroValue119
  t222 := Try.underlying123
  a222 := Try.isAgg123
  z222 := Try.sizeOf123
  v222 := Try.zeroValue123
  t228 := Try.underlying128
  a228 := Try.isAgg128
  z228 := Try.sizeOf128
  v228 := Try.zeroValue128
  t229 := Try.underlying129
  a229 := Try.isAgg129
  z229 := Try.sizeOf129
  v229 := Try.zeroValue129 }
open Go.Sort Go.RowKit in
theorem Try.slices_Sort_int (blk off cap : Nat) (zs : List Int) (w : World) (hH : Holds (Value.int .i64) w blk off zs.toArray) (hblk : blk < w.heap.size) (hsz : zs.length < 4611686018427387904) :
    Calls Try.prog 43 #[.slice (some ⟨blk, off, none⟩) zs.length cap] w fun e w' =>
      e = .returned (.tuple #[]) ∧ ∃ n os, w' = grow (putRow (Value.int .i64) (Sort.ahead w n) blk off (zs.mergeSort fun x y => decide (x ≤ y)).toArray) os := Any.slices_Sort_int Try.lays189 blk off cap zs w hH hblk hsz
open Go.RowKit Go.Sort in
/-- .. and plain. (LAID: no walk: one application.) -/
theorem Try.slices_Sort_int_none (p : Option Addr) (cap : Nat) (w : World) :
    Calls Try.prog 43 #[.slice p 0 cap] w fun e w' => e = .returned (.tuple #[]) ∧ w' = w := Any.slices_Sort_int_none Try.lays189 p cap w
end Go.Proofs
