/- The library's contract of slices.Sort at []int, laid over this program. -/
import Derived.Shelf.Sort.Plain
import Derived.Shelf.Slices.In.SortNone
import Derived.Test.YtbmmdfehhhgkcaaGreatProg
namespace Go.Proofs
open Go.Shelf
def Tryz.lays189_ren : Go.Shelf.Ren := ⟨fun | 189 => 127 | 125 => 137 | 257 => 136 | 128 => 153 | 129 => 154 | 294 => 144 | 295 => 145 | 296 => 146 | 297 => 147 | 298 => 148 | 299 => 149 | 216 => 150 | 300 => 151 | 301 => 152 | 328 => 156 | 329 => 157 | 330 => 158 | 331 => 159 | 332 => 160 | 215 => 161 | 343 => 162 | n => n, fun | 28 => 52 | 3 => 3 | 46 => 173 | 0 => 0 | 51 => 187 | 53 => 189 | 4 => 4 | 183 => 180 | 182 => 179 | 131 => 158 | 5 => 5 | 9 => 9 | 218 => 191 | 222 => 195 | 228 => 197 | 229 => 198 | n => n, fun | n => n⟩
theorem Tryz.lays189 : Go.Proofs.Lays.n189 Tryz.prog Tryz.lays189_ren := {
  mixed := by kernel_rfl
  f125 := Tryz.func137.trans (congrArg some (by kernel_rfl))
  f128 := Tryz.func153.trans (congrArg some (by kernel_rfl))
  f129 := Tryz.func154.trans (congrArg some (by kernel_rfl))
  f189 := Tryz.func127.trans (congrArg some (by kernel_rfl))
  f215 := Tryz.func161.trans (congrArg some (by kernel_rfl))
  f216 := Tryz.func150.trans (congrArg some (by kernel_rfl))
  f257 := Tryz.func136.trans (congrArg some (by kernel_rfl))
  f294 := Tryz.func144.trans (congrArg some (by kernel_rfl))
  f295 := Tryz.func145.trans (congrArg some (by kernel_rfl))
  f296 := Tryz.func146.trans (congrArg some (by kernel_rfl))
  f297 := Tryz.func147.trans (congrArg some (by kernel_rfl))
  f298 := Tryz.func148.trans (congrArg some (by kernel_rfl))
  f299 := Tryz.func149.trans (congrArg some (by kernel_rfl))
  f300 := Tryz.func151.trans (congrArg some (by kernel_rfl))
  f301 := Tryz.func152.trans (congrArg some (by kernel_rfl))
  f328 := Tryz.func156.trans (congrArg some (by kernel_rfl))
  f329 := Tryz.func157.trans (congrArg some (by kernel_rfl))
  f330 := Tryz.func158.trans (congrArg some (by kernel_rfl))
  f331 := Tryz.func159.trans (congrArg some (by kernel_rfl))
  f332 := Tryz.func160.trans (congrArg some (by kernel_rfl))
  f343 := Tryz.func162.trans (congrArg some (by kernel_rfl))
  t0 := Tryz.underlying0
  a0 := Tryz.isAgg0
  z0 := Tryz.sizeOf0
  v0 := Tryz.zeroValue0
  t3 := Tryz.underlying3
  a3 := Tryz.isAgg3
  z3 := Tryz.sizeOf3
  v3 := Tryz.zeroValue3
  t4 := Tryz.underlying4
  a4 := Tryz.isAgg4
  z4 := Tryz.sizeOf4
  v4 := Tryz.zeroValue4
  t5 := Tryz.underlying5
  a5 := Tryz.isAgg5
  z5 := Tryz.sizeOf5
  v5 := Tryz.zeroValue5
  t9 := Tryz.underlying9
  a9 := Tryz.isAgg9
  z9 := Tryz.sizeOf9
  v9 := Tryz.zeroValue9
  t28 := Tryz.underlying52
  a28 := Tryz.isAgg52
  z28 := Tryz.sizeOf52
  v28 := Tryz.zeroValue52
  t46 := Tryz.underlying173
  a46 := Tryz.isAgg173
  z46 := Tryz.sizeOf173
  v46 := Tryz.zeroValue173
  t51 := Tryz.underlying187
  a51 := Tryz.isAgg187
  z51 := Tryz.sizeOf187
  v51 := Tryz.zeroValue187
  t53 := Tryz.underlying189
  a53 := Tryz.isAgg189
  z53 := Tryz.sizeOf189
  v53 := Tryz.zeroValue189
  t131 := Tryz.underlying158
  a131 := Tryz.isAgg158
  z131 := Tryz.sizeOf158
  v131 := Tryz.zeroValue158
  t182 := Tryz.underlying179
  a182 := Tryz.isAgg179
  z182 := Tryz.sizeOf179
  v182 := Tryz.zeroValue179
  t183 := Tryz.underlying180
  a183 := Tryz.isAgg180
  z183 := Tryz.sizeOf180
  v183 := Tryz.zeroValue180
  t218 := Tryz.underlying191
  a218 := Tryz.isAgg191
  z218 := Tryz.sizeOf191
  v218 := Tryz.zeroValue191
  t222 := Tryz.underlying195
  a222 := Tryz.isAgg195
  z222 := Tryz.sizeOf195
  v222 := Tryz.zeroValue195
  t228 := Tryz.underlying197
  a228 := Tryz.isAgg197
  z228 := Tryz.sizeOf197
  v228 := Tryz.zeroValue197
  t229 := Tryz.underlying198
  a229 := Tryz.isAgg198
  z229 := Tryz.sizeOf198
  v229 := Tryz.zeroValue198 }
open Go.Sort Go.RowKit in
theorem Tryz.slices_Sort_int (blk off cap : Nat) (zs : List Int) (w : World) (hH : Holds (Value.int .i64) w blk off zs.toArray) (hblk : blk < w.heap.size) (hsz : zs.length < 4611686018427387904) :
    Calls Tryz.prog 127 #[.slice (some ⟨blk, off, none⟩) zs.length cap] w fun e w' =>
      e = .returned (.tuple #[]) ∧ ∃ n os, w' = grow (putRow (Value.int .i64) (Sort.ahead w n) blk off (zs.mergeSort fun x y => decide (x ≤ y)).toArray) os := Any.slices_Sort_int Tryz.lays189 blk off cap zs w hH hblk hsz
open Go.RowKit Go.Sort in
/-- .. and plain. (LAID: no walk: one application.) -/
theorem Tryz.slices_Sort_int_none (p : Option Addr) (cap : Nat) (w : World) :
    Calls Tryz.prog 127 #[.slice p 0 cap] w fun e w' => e = .returned (.tuple #[]) ∧ w' = w := Any.slices_Sort_int_none Tryz.lays189 p cap w
end Go.Proofs
