/-
  DERIVED: THE SHELF's CONTRACTS AT THIS DUMP, IN PLAIN WORDS (tools/lay-plain.mjs out of 'YtahalmofaboejaaGreatShelf.lean', which tools/lay-shelf.mjs wrote): THE SAME DECLARATIONS UNDER THE SAME NAMES: 'import', 'namespace', 'open', 'def', 'theorem' AND NOTHING ELSE: no command of the shelf's: FOR A HAND-IN. Each laying: the table of numbers ('.._ren') and one theorem, a field a fact of the dump's own or the kernel's comparison; each contract: ONE APPLICATION.
-/
import Derived.Shelf.Small.Bits
import Derived.Shelf.Small.Wraps
import Derived.Shelf.Strconv.Itoa0
import Derived.Shelf.Sort.Plain
import Derived.Ground.Names2Prog
import Derived.Shelf.Slices.Clone
import Derived.Shelf.Slices.SearchI
import Derived.Shelf.Slices.In.SortNone
import Derived.Ground.SlgnProg
import Derived.Shelf.SlicesG.SearchI
import Derived.Shelf.SlicesE.Clone
import Derived.Ground.SlgcProg
import Derived.Shelf.SlicesG.Cmp
import Derived.Test.YtahalmofaboejaaGreatProg
namespace Go.Proofs
open Go.Shelf
def Tryz.lays189_ren : Go.Shelf.Ren := ⟨fun | 189 => 37 | 125 => 72 | 257 => 71 | 128 => 103 | 129 => 104 | 294 => 94 | 295 => 95 | 296 => 96 | 297 => 97 | 298 => 98 | 299 => 99 | 216 => 100 | 300 => 101 | 301 => 102 | 328 => 127 | 329 => 128 | 330 => 129 | 331 => 130 | 332 => 131 | 215 => 132 | 343 => 142 | n => n, fun | 28 => 33 | 3 => 3 | 46 => 125 | 0 => 0 | 51 => 162 | 53 => 164 | 4 => 4 | 183 => 154 | 182 => 153 | 131 => 159 | 5 => 5 | 9 => 9 | 218 => 183 | 222 => 187 | 228 => 194 | 229 => 195 | n => n, fun | n => n⟩
theorem Tryz.lays189 : Go.Proofs.Lays.n189 Tryz.prog Tryz.lays189_ren := {
  mixed := by kernel_rfl
  f125 := Tryz.func72.trans (congrArg some (by kernel_rfl))
  f128 := Tryz.func103.trans (congrArg some (by kernel_rfl))
  f129 := Tryz.func104.trans (congrArg some (by kernel_rfl))
  f189 := Tryz.func37.trans (congrArg some (by kernel_rfl))
  f215 := Tryz.func132.trans (congrArg some (by kernel_rfl))
  f216 := Tryz.func100.trans (congrArg some (by kernel_rfl))
  f257 := Tryz.func71.trans (congrArg some (by kernel_rfl))
  f294 := Tryz.func94.trans (congrArg some (by kernel_rfl))
  f295 := Tryz.func95.trans (congrArg some (by kernel_rfl))
  f296 := Tryz.func96.trans (congrArg some (by kernel_rfl))
  f297 := Tryz.func97.trans (congrArg some (by kernel_rfl))
  f298 := Tryz.func98.trans (congrArg some (by kernel_rfl))
  f299 := Tryz.func99.trans (congrArg some (by kernel_rfl))
  f300 := Tryz.func101.trans (congrArg some (by kernel_rfl))
  f301 := Tryz.func102.trans (congrArg some (by kernel_rfl))
  f328 := Tryz.func127.trans (congrArg some (by kernel_rfl))
  f329 := Tryz.func128.trans (congrArg some (by kernel_rfl))
  f330 := Tryz.func129.trans (congrArg some (by kernel_rfl))
  f331 := Tryz.func130.trans (congrArg some (by kernel_rfl))
  f332 := Tryz.func131.trans (congrArg some (by kernel_rfl))
  f343 := Tryz.func142.trans (congrArg some (by kernel_rfl))
  t0 := Tryz.underlying0
  a0 := Tryz.isAgg0
  z0 := Tryz.sizeOf0
  v0 := Tryz.zeroValue0
  t3 := Tryz.underlying3
  a3 := Tryz.isAgg3
  z3 := Tryz.sizeOf3
  v3 := Tryz.zeroValue3
  t4 := Tryz.underlying4
  a4 := Tryz.isAgg4
  z4 := Tryz.sizeOf4
  v4 := Tryz.zeroValue4
  t5 := Tryz.underlying5
  a5 := Tryz.isAgg5
  z5 := Tryz.sizeOf5
  v5 := Tryz.zeroValue5
  t9 := Tryz.underlying9
  a9 := Tryz.isAgg9
  z9 := Tryz.sizeOf9
  v9 := Tryz.zeroValue9
  t28 := Tryz.underlying33
  a28 := Tryz.isAgg33
  z28 := Tryz.sizeOf33
  v28 := Tryz.zeroValue33
  t46 := Tryz.underlying125
  a46 := Tryz.isAgg125
  z46 := Tryz.sizeOf125
  v46 := Tryz.zeroValue125
  t51 := Tryz.underlying162
  a51 := Tryz.isAgg162
  z51 := Tryz.sizeOf162
  v51 := Tryz.zeroValue162
  t53 := Tryz.underlying164
  a53 := Tryz.isAgg164
  z53 := Tryz.sizeOf164
  v53 := Tryz.zeroValue164
  t131 := Tryz.underlying159
  a131 := Tryz.isAgg159
  z131 := Tryz.sizeOf159
  v131 := Tryz.zeroValue159
  t182 := Tryz.underlying153
  a182 := Tryz.isAgg153
  z182 := Tryz.sizeOf153
  v182 := Tryz.zeroValue153
  t183 := Tryz.underlying154
  a183 := Tryz.isAgg154
  z183 := Tryz.sizeOf154
  v183 := Tryz.zeroValue154
  t218 := Tryz.underlying183
  a218 := Tryz.isAgg183
  z218 := Tryz.sizeOf183
  v218 := Tryz.zeroValue183
  t222 := Tryz.underlying187
  a222 := Tryz.isAgg187
  z222 := Tryz.sizeOf187
  v222 := Tryz.zeroValue187
  t228 := Tryz.underlying194
  a228 := Tryz.isAgg194
  z228 := Tryz.sizeOf194
  v228 := Tryz.zeroValue194
  t229 := Tryz.underlying195
  a229 := Tryz.isAgg195
  z229 := Tryz.sizeOf195
  v229 := Tryz.zeroValue195 }
open Go.Sort Go.RowKit in
theorem Tryz.slices_Sort_int (blk off cap : Nat) (zs : List Int) (w : World) (hH : Holds (Value.int .i64) w blk off zs.toArray) (hblk : blk < w.heap.size) (hsz : zs.length < 4611686018427387904) :
    Calls Tryz.prog 37 #[.slice (some ⟨blk, off, none⟩) zs.length cap] w fun e w' =>
      e = .returned (.tuple #[]) ∧ ∃ n os, w' = grow (putRow (Value.int .i64) (Sort.ahead w n) blk off (zs.mergeSort fun x y => decide (x ≤ y)).toArray) os := Any.slices_Sort_int Tryz.lays189 blk off cap zs w hH hblk hsz
end Go.Proofs
