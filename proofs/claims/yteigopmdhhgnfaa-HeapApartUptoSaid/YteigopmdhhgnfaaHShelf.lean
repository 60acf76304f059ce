/-
  slices.Sort over ints, at this program: the shelf's contract.
-/
import Derived.Shelf.Sort.Plain
import Derived.Ground.Names2Prog
import Derived.Shelf.Slices.In.SortNone
import Derived.Test.YteigopmdhhgnfaaProg
namespace Go.Proofs
open Go.Shelf
set_option linter.unusedVariables false
def Try.lays189_ren : Go.Shelf.Ren := ⟨fun | 189 => 47 | 125 => 53 | 257 => 52 | 128 => 65 | 129 => 66 | 294 => 56 | 295 => 57 | 296 => 58 | 297 => 59 | 298 => 60 | 299 => 61 | 216 => 62 | 300 => 63 | 301 => 64 | 328 => 67 | 329 => 68 | 330 => 69 | 331 => 70 | 332 => 71 | 215 => 72 | 343 => 73 | n => n, fun | 28 => 24 | 3 => 3 | 46 => 98 | 0 => 0 | 51 => 109 | 53 => 44 | 4 => 4 | 183 => 101 | 182 => 100 | 131 => 106 | 5 => 5 | 9 => 9 | 218 => 111 | 222 => 115 | 228 => 117 | 229 => 118 | n => n, fun | n => n⟩
theorem Try.lays189 : Go.Proofs.Lays.n189 Try.prog Try.lays189_ren := {
  mixed := by kernel_rfl
  f125 := Try.func53.trans (congrArg some (by kernel_rfl))
  f128 := Try.func65.trans (congrArg some (by kernel_rfl))
  f129 := Try.func66.trans (congrArg some (by kernel_rfl))
  f189 := Try.func47.trans (congrArg some (by kernel_rfl))
  f215 := Try.func72.trans (congrArg some (by kernel_rfl))
  f216 := Try.func62.trans (congrArg some (by kernel_rfl))
  f257 := Try.func52.trans (congrArg some (by kernel_rfl))
  f294 := Try.func56.trans (congrArg some (by kernel_rfl))
  f295 := Try.func57.trans (congrArg some (by kernel_rfl))
  f296 := Try.func58.trans (congrArg some (by kernel_rfl))
  f297 := Try.func59.trans (congrArg some (by kernel_rfl))
  f298 := Try.func60.trans (congrArg some (by kernel_rfl))
  f299 := Try.func61.trans (congrArg some (by kernel_rfl))
  f300 := Try.func63.trans (congrArg some (by kernel_rfl))
  f301 := Try.func64.trans (congrArg some (by kernel_rfl))
  f328 := Try.func67.trans (congrArg some (by kernel_rfl))
  f329 := Try.func68.trans (congrArg some (by kernel_rfl))
  f330 := Try.func69.trans (congrArg some (by kernel_rfl))
  f331 := Try.func70.trans (congrArg some (by kernel_rfl))
  f332 := Try.func71.trans (congrArg some (by kernel_rfl))
  f343 := Try.func73.trans (congrArg some (by kernel_rfl))
  t0 := Try.underlying0
  a0 := Try.isAgg0
  z0 := Try.sizeOf0
  v0 := Try.zeroValue0
  t3 := Try.underlying3
  a3 := Try.isAgg3
  z3 := Try.sizeOf3
  v3 := Try.zeroValue3
  t4 := Try.underlying4
  a4 := Try.isAgg4
  z4 := Try.sizeOf4
  v4 := Try.zeroValue4
  t5 := Try.underlying5
  a5 := Try.isAgg5
  z5 := Try.sizeOf5
  v5 := Try.zeroValue5
  t9 := Try.underlying9
  a9 := Try.isAgg9
  z9 := Try.sizeOf9
  v9 := Try.zeroValue9
  t28 := Try.underlying24
  a28 := Try.isAgg24
  z28 := Try.sizeOf24
  v28 := Try.zeroValue24
  t46 := Try.underlying98
  a46 := Try.isAgg98
  z46 := Try.sizeOf98
  v46 := Try.zeroValue98
  t51 := Try.underlying109
  a51 := Try.isAgg109
  z51 := Try.sizeOf109
  v51 := Try.zeroValue109
  t53 := Try.underlying44
  a53 := Try.isAgg44
  z53 := Try.sizeOf44
  v53 := Try.zeroValue44
  t131 := Try.underlying106
  a131 := Try.isAgg106
  z131 := Try.sizeOf106
  v131 := Try.zeroValue106
  t182 := Try.underlying100
  a182 := Try.isAgg100
  z182 := Try.sizeOf100
  v182 := Try.zeroValue100
  t183 := Try.underlying101
  a183 := Try.isAgg101
  z183 := Try.sizeOf101
  v183 := Try.zeroValue101
  t218 := Try.underlying111
  a218 := Try.isAgg111
  z218 := Try.sizeOf111
  v218 := Try.zeroValue111
  t222 := Try.underlying115
  a222 := Try.isAgg115
  z222 := Try.sizeOf115
  v222 := Try.zeroValue115
  t228 := Try.underlying117
  a228 := Try.isAgg117
  z228 := Try.sizeOf117
  v228 := Try.zeroValue117
  t229 := Try.underlying118
  a229 := Try.isAgg118
  z229 := Try.sizeOf118
  v229 := Try.zeroValue118 }
open Go.Sort Go.RowKit in
theorem Try.slices_Sort_int (blk off cap : Nat) (zs : List Int) (w : World) (hH : Holds (Value.int .i64) w blk off zs.toArray) (hblk : blk < w.heap.size) (hsz : zs.length < 4611686018427387904) :
    Calls Try.prog 47 #[.slice (some ⟨blk, off, none⟩) zs.length cap] w fun e w' =>
      e = .returned (.tuple #[]) ∧ ∃ n os, w' = grow (putRow (Value.int .i64) (Sort.ahead w n) blk off (zs.mergeSort fun x y => decide (x ≤ y)).toArray) os := Any.slices_Sort_int Try.lays189 blk off cap zs w hH hblk hsz
open Go.RowKit Go.Sort in
/-- .. and plain. (LAID: no walk: one application.) -/
theorem Try.slices_Sort_int_none (p : Option Addr) (cap : Nat) (w : World) :
    Calls Try.prog 47 #[.slice p 0 cap] w fun e w' => e = .returned (.tuple #[]) ∧ w' = w := Any.slices_Sort_int_none Try.lays189 p cap w
end Go.Proofs
