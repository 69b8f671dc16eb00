/- YtfkpjnomfmjplaaShelf: the library's contract of slices.Sort over ints, at this program (written by the kit's tools lay-shelf.mjs, lay-plain.mjs). -/
import Derived.Shelf.Sort.Plain
import Derived.Shelf.Slices.In.SortNone
import Derived.Test.YtfkpjnomfmjplaaProg
namespace Go.Proofs
open Go.Shelf
def Try.lays189_ren : Go.Shelf.Ren := ⟨fun | 189 => 79 | 125 => 84 | 257 => 83 | 128 => 95 | 129 => 96 | 294 => 86 | 295 => 87 | 296 => 88 | 297 => 89 | 298 => 90 | 299 => 91 | 216 => 92 | 300 => 93 | 301 => 94 | 328 => 106 | 329 => 107 | 330 => 108 | 331 => 109 | 332 => 110 | 215 => 111 | 343 => 116 | n => n, fun | 28 => 36 | 3 => 3 | 46 => 123 | 0 => 0 | 51 => 133 | 53 => 135 | 4 => 4 | 183 => 127 | 182 => 126 | 131 => 65 | 5 => 5 | 9 => 9 | 218 => 142 | 222 => 146 | 228 => 151 | 229 => 152 | n => n, fun | n => n⟩
theorem Try.lays189 : Go.Proofs.Lays.n189 Try.prog Try.lays189_ren := {
  mixed := by kernel_rfl
  f125 := Try.func84.trans (congrArg some (by kernel_rfl))
  f128 := Try.func95.trans (congrArg some (by kernel_rfl))
  f129 := Try.func96.trans (congrArg some (by kernel_rfl))
  f189 := Try.func79.trans (congrArg some (by kernel_rfl))
  f215 := Try.func111.trans (congrArg some (by kernel_rfl))
  f216 := Try.func92.trans (congrArg some (by kernel_rfl))
  f257 := Try.func83.trans (congrArg some (by kernel_rfl))
  f294 := Try.func86.trans (congrArg some (by kernel_rfl))
  f295 := Try.func87.trans (congrArg some (by kernel_rfl))
  f296 := Try.func88.trans (congrArg some (by kernel_rfl))
  f297 := Try.func89.trans (congrArg some (by kernel_rfl))
  f298 := Try.func90.trans (congrArg some (by kernel_rfl))
  f299 := Try.func91.trans (congrArg some (by kernel_rfl))
  f300 := Try.func93.trans (congrArg some (by kernel_rfl))
  f301 := Try.func94.trans (congrArg some (by kernel_rfl))
  f328 := Try.func106.trans (congrArg some (by kernel_rfl))
  f329 := Try.func107.trans (congrArg some (by kernel_rfl))
  f330 := Try.func108.trans (congrArg some (by kernel_rfl))
  f331 := Try.func109.trans (congrArg some (by kernel_rfl))
  f332 := Try.func110.trans (congrArg some (by kernel_rfl))
  f343 := Try.func116.trans (congrArg some (by kernel_rfl))
  t0 := Try.underlying0
  a0 := Try.isAgg0
  z0 := Try.sizeOf0
  v0 := Try.zeroValue0
  t3 := Try.underlying3
  a3 := Try.isAgg3
  z3 := Try.sizeOf3
  v3 := Try.zeroValue3
  t4 := Try.underlying4
  a4 := Try.isAgg4
  z4 := Try.sizeOf4
  v4 := Try.zeroValue4
  t5 := Try.underlying5
  a5 := Try.isAgg5
  z5 := Try.sizeOf5
  v5 := Try.zeroValue5
  t9 := Try.underlying9
  a9 := Try.isAgg9
  z9 := Try.sizeOf9
  v9 := Try.zeroValue9
  t28 := Try.underlying36
  a28 := Try.isAgg36
  z28 := Try.sizeOf36
  v28 := Try.zeroValue36
  t46 := Try.underlying123
  a46 := Try.isAgg123
  z46 := Try.sizeOf123
  v46 := Try.zeroValue123
  t51 := Try.underlying133
  a51 := Try.isAgg133
  z51 := Try.sizeOf133
  v51 := Try.zeroValue133
  t53 := Try.underlying135
  a53 := Try.isAgg135
  z53 := Try.sizeOf135
  v53 := Try.zeroValue135
  t131 := Try.underlying65
  a131 := Try.isAgg65
  z131 := Try.sizeOf65
  v131 := Try.zeroValue65
  t182 := Try.underlying126
  a182 := Try.isAgg126
  z182 := Try.sizeOf126
  v182 := Try.zeroValue126
  t183 := Try.underlying127
  a183 := Try.isAgg127
  z183 := Try.sizeOf127
  v183 := Try.zeroValue127
  t218 := Try.underlying142
  a218 := Try.isAgg142
  z218 := Try.sizeOf142
  v218 := Try.zeroValue142
  t222 := Try.underlying146
  a222 := Try.isAgg146
  z222 := Try.sizeOf146
  v222 := Try.zeroValue146
  t228 := Try.underlying151
  a228 := Try.isAgg151
  z228 := Try.sizeOf151
  v228 := Try.zeroValue151
  t229 := Try.underlying152
  a229 := Try.isAgg152
  z229 := Try.sizeOf152
  v229 := Try.zeroValue152 }
open Go.Sort Go.RowKit in
theorem Try.slices_Sort_int (blk off cap : Nat) (zs : List Int) (w : World) (hH : Holds (Value.int .i64) w blk off zs.toArray) (hblk : blk < w.heap.size) (hsz : zs.length < 4611686018427387904) :
    Calls Try.prog 79 #[.slice (some ⟨blk, off, none⟩) zs.length cap] w fun e w' =>
      e = .returned (.tuple #[]) ∧ ∃ n os, w' = grow (putRow (Value.int .i64) (Sort.ahead w n) blk off (zs.mergeSort fun x y => decide (x ≤ y)).toArray) os := Any.slices_Sort_int Try.lays189 blk off cap zs w hH hblk hsz
open Go.RowKit Go.Sort in
theorem Try.slices_Sort_int_none (p : Option Addr) (cap : Nat) (w : World) :
    Calls Try.prog 79 #[.slice p 0 cap] w fun e w' => e = .returned (.tuple #[]) ∧ w' = w := Any.slices_Sort_int_none Try.lays189 p cap w
end Go.Proofs
