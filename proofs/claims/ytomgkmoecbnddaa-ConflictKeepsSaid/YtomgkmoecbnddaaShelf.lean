/- YtomgkmoecbnddaaShelf: the library's contract of slices.Sort over ints, at this program (written by the kit's tools lay-shelf.mjs, lay-plain.mjs). -/
import Derived.Shelf.Sort.Plain
import Derived.Shelf.Slices.In.SortNone
import Derived.Test.YtomgkmoecbnddaaProg
namespace Go.Proofs
open Go.Shelf
def Try.lays189_ren : Go.Shelf.Ren := ⟨fun | 189 => 50 | 125 => 58 | 257 => 57 | 128 => 70 | 129 => 71 | 294 => 61 | 295 => 62 | 296 => 63 | 297 => 64 | 298 => 65 | 299 => 66 | 216 => 67 | 300 => 68 | 301 => 69 | 328 => 72 | 329 => 73 | 330 => 74 | 331 => 75 | 332 => 76 | 215 => 77 | 343 => 78 | n => n, fun | 28 => 25 | 3 => 3 | 46 => 98 | 0 => 0 | 51 => 110 | 53 => 112 | 4 => 4 | 183 => 104 | 182 => 103 | 131 => 100 | 5 => 5 | 9 => 9 | 218 => 113 | 222 => 117 | 228 => 119 | 229 => 120 | n => n, fun | n => n⟩
theorem Try.lays189 : Go.Proofs.Lays.n189 Try.prog Try.lays189_ren := {
  mixed := by kernel_rfl
  f125 := Try.func58.trans (congrArg some (by kernel_rfl))
  f128 := Try.func70.trans (congrArg some (by kernel_rfl))
  f129 := Try.func71.trans (congrArg some (by kernel_rfl))
  f189 := Try.func50.trans (congrArg some (by kernel_rfl))
  f215 := Try.func77.trans (congrArg some (by kernel_rfl))
  f216 := Try.func67.trans (congrArg some (by kernel_rfl))
  f257 := Try.func57.trans (congrArg some (by kernel_rfl))
  f294 := Try.func61.trans (congrArg some (by kernel_rfl))
  f295 := Try.func62.trans (congrArg some (by kernel_rfl))
  f296 := Try.func63.trans (congrArg some (by kernel_rfl))
  f297 := Try.func64.trans (congrArg some (by kernel_rfl))
  f298 := Try.func65.trans (congrArg some (by kernel_rfl))
  f299 := Try.func66.trans (congrArg some (by kernel_rfl))
  f300 := Try.func68.trans (congrArg some (by kernel_rfl))
  f301 := Try.func69.trans (congrArg some (by kernel_rfl))
  f328 := Try.func72.trans (congrArg some (by kernel_rfl))
  f329 := Try.func73.trans (congrArg some (by kernel_rfl))
  f330 := Try.func74.trans (congrArg some (by kernel_rfl))
  f331 := Try.func75.trans (congrArg some (by kernel_rfl))
  f332 := Try.func76.trans (congrArg some (by kernel_rfl))
  f343 := Try.func78.trans (congrArg some (by kernel_rfl))
  t0 := Try.underlying0
  a0 := Try.isAgg0
  z0 := Try.sizeOf0
  v0 := Try.zeroValue0
  t3 := Try.underlying3
  a3 := Try.isAgg3
  z3 := Try.sizeOf3
  v3 := Try.zeroValue3
  t4 := Try.underlying4
  a4 := Try.isAgg4
  z4 := Try.sizeOf4
  v4 := Try.zeroValue4
  t5 := Try.underlying5
  a5 := Try.isAgg5
  z5 := Try.sizeOf5
  v5 := Try.zeroValue5
  t9 := Try.underlying9
  a9 := Try.isAgg9
  z9 := Try.sizeOf9
  v9 := Try.zeroValue9
  t28 := Try.underlying25
  a28 := Try.isAgg25
  z28 := Try.sizeOf25
  v28 := Try.zeroValue25
  t46 := Try.underlying98
  a46 := Try.isAgg98
  z46 := Try.sizeOf98
  v46 := Try.zeroValue98
  t51 := Try.underlying110
  a51 := Try.isAgg110
  z51 := Try.sizeOf110
  v51 := Try.zeroValue110
  t53 := Try.underlying112
  a53 := Try.isAgg112
  z53 := Try.sizeOf112
  v53 := Try.zeroValue112
  t131 := Try.underlying100
  a131 := Try.isAgg100
  z131 := Try.sizeOf100
  v131 := Try.zeroValue100
  t182 := Try.underlying103
  a182 := Try.isAgg103
  z182 := Try.sizeOf103
  v182 := Try.zeroValue103
  t183 := Try.underlying104
  a183 := Try.isAgg104
  z183 := Try.sizeOf104
  v183 := Try.zeroValue104
  t218 := Try.underlying113
  a218 := Try.isAgg113
  z218 := Try.sizeOf113
  v218 := Try.zeroValue113
  t222 := Try.underlying117
  a222 := Try.isAgg117
  z222 := Try.sizeOf117
  v222 := Try.zeroValue117
  t228 := Try.underlying119
  a228 := Try.isAgg119
  z228 := Try.sizeOf119
  v228 := Try.zeroValue119
  t229 := Try.underlying120
  a229 := Try.isAgg120
  z229 := Try.sizeOf120
  v229 := Try.zeroValue120 }
open Go.Sort Go.RowKit in
theorem Try.slices_Sort_int (blk off cap : Nat) (zs : List Int) (w : World) (hH : Holds (Value.int .i64) w blk off zs.toArray) (hblk : blk < w.heap.size) (hsz : zs.length < 4611686018427387904) :
    Calls Try.prog 50 #[.slice (some ⟨blk, off, none⟩) zs.length cap] w fun e w' =>
      e = .returned (.tuple #[]) ∧ ∃ n os, w' = grow (putRow (Value.int .i64) (Sort.ahead w n) blk off (zs.mergeSort fun x y => decide (x ≤ y)).toArray) os := Any.slices_Sort_int Try.lays189 blk off cap zs w hH hblk hsz
open Go.RowKit Go.Sort in
theorem Try.slices_Sort_int_none (p : Option Addr) (cap : Nat) (w : World) :
    Calls Try.prog 50 #[.slice p 0 cap] w fun e w' => e = .returned (.tuple #[]) ∧ w' = w := Any.slices_Sort_int_none Try.lays189 p cap w
end Go.Proofs
