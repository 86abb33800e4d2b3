/- The library's sort and reverse at this program, laid plain by the kit's own tool. Conditions: those of each theorem. -/
import Derived.Shelf.Small.Bits
import Derived.Shelf.Strconv.Itoa0
import Derived.Shelf.Sort.Plain
import Derived.Shelf.Slices.Reverse
import Derived.Ground.Names2Prog
import Derived.Shelf.Slices.Clone
import Derived.Shelf.Slices.SearchI
import Derived.Shelf.Slices.Cells
import Derived.Shelf.Slices.In.SortNone
import Derived.Shelf.Slices.Empties
import Derived.Ground.SlgnProg
import Derived.Shelf.SlicesE.Clone
import Derived.Test.YtoiegcefpofheaaProg

set_option linter.unusedVariables false
set_option linter.unusedSimpArgs false

/- DERIVED: THE SHELF's CONTRACTS AT THIS DUMP, IN PLAIN WORDS (tools/lay-plain.mjs out of 'YtoiegcefpofheaaShelf.lean', which tools/lay-shelf.mjs wrote): THE SAME DECLARATIONS UNDER THE SAME NAMES: 'import', 'namespace', 'open', 'def', 'theorem' AND NOTHING ELSE: no command of the shelf's: FOR A HAND-IN. Each laying: the table of numbers ('.._ren') and one theorem, a field a fact of the dump's own or the kernel's comparison; each contract: ONE APPLICATION. -/
section
namespace Go.Proofs
open Go.Shelf
def Try.lays189_ren : Go.Shelf.Ren := ⟨fun | 189 => 20 | 125 => 27 | 257 => 26 | 128 => 38 | 129 => 39 | 294 => 30 | 295 => 31 | 296 => 32 | 297 => 33 | 298 => 34 | 299 => 35 | 216 => 28 | 300 => 36 | 301 => 37 | 328 => 41 | 329 => 42 | 330 => 43 | 331 => 44 | 332 => 45 | 215 => 40 | 343 => 46 | n => n, fun | 28 => 26 | 3 => 3 | 46 => 43 | 0 => 0 | 51 => 53 | 53 => 55 | 4 => 4 | 183 => 47 | 182 => 46 | 131 => 37 | 5 => 5 | 9 => 9 | 218 => 56 | 222 => 60 | 228 => 62 | 229 => 63 | n => n, fun | n => n⟩
theorem Try.lays189 : Go.Proofs.Lays.n189 Try.prog Try.lays189_ren := {
  mixed := by kernel_rfl
  f125 := Try.func27.trans (congrArg some (by kernel_rfl))
  f128 := Try.func38.trans (congrArg some (by kernel_rfl))
  f129 := Try.func39.trans (congrArg some (by kernel_rfl))
  f189 := Try.func20.trans (congrArg some (by kernel_rfl))
  f215 := Try.func40.trans (congrArg some (by kernel_rfl))
  f216 := Try.func28.trans (congrArg some (by kernel_rfl))
  f257 := Try.func26.trans (congrArg some (by kernel_rfl))
  f294 := Try.func30.trans (congrArg some (by kernel_rfl))
  f295 := Try.func31.trans (congrArg some (by kernel_rfl))
  f296 := Try.func32.trans (congrArg some (by kernel_rfl))
  f297 := Try.func33.trans (congrArg some (by kernel_rfl))
  f298 := Try.func34.trans (congrArg some (by kernel_rfl))
  f299 := Try.func35.trans (congrArg some (by kernel_rfl))
  f300 := Try.func36.trans (congrArg some (by kernel_rfl))
  f301 := Try.func37.trans (congrArg some (by kernel_rfl))
  f328 := Try.func41.trans (congrArg some (by kernel_rfl))
  f329 := Try.func42.trans (congrArg some (by kernel_rfl))
  f330 := Try.func43.trans (congrArg some (by kernel_rfl))
  f331 := Try.func44.trans (congrArg some (by kernel_rfl))
  f332 := Try.func45.trans (congrArg some (by kernel_rfl))
  f343 := Try.func46.trans (congrArg some (by kernel_rfl))
  t0 := Try.underlying0
  a0 := Try.isAgg0
  z0 := Try.sizeOf0
  v0 := Try.zeroValue0
  t3 := Try.underlying3
  a3 := Try.isAgg3
  z3 := Try.sizeOf3
  v3 := Try.zeroValue3
  t4 := Try.underlying4
  a4 := Try.isAgg4
  z4 := Try.sizeOf4
  v4 := Try.zeroValue4
  t5 := Try.underlying5
  a5 := Try.isAgg5
  z5 := Try.sizeOf5
  v5 := Try.zeroValue5
  t9 := Try.underlying9
  a9 := Try.isAgg9
  z9 := Try.sizeOf9
  v9 := Try.zeroValue9
  t28 := Try.underlying26
  a28 := Try.isAgg26
  z28 := Try.sizeOf26
  v28 := Try.zeroValue26
  t46 := Try.underlying43
  a46 := Try.isAgg43
  z46 := Try.sizeOf43
  v46 := Try.zeroValue43
  t51 := Try.underlying53
  a51 := Try.isAgg53
  z51 := Try.sizeOf53
  v51 := Try.zeroValue53
  t53 := Try.underlying55
  a53 := Try.isAgg55
  z53 := Try.sizeOf55
  v53 := Try.zeroValue55
  t131 := Try.underlying37
  a131 := Try.isAgg37
  z131 := Try.sizeOf37
  v131 := Try.zeroValue37
  t182 := Try.underlying46
  a182 := Try.isAgg46
  z182 := Try.sizeOf46
  v182 := Try.zeroValue46
  t183 := Try.underlying47
  a183 := Try.isAgg47
  z183 := Try.sizeOf47
  v183 := Try.zeroValue47
  t218 := Try.underlying56
  a218 := Try.isAgg56
  z218 := Try.sizeOf56
  v218 := Try.zeroValue56
  t222 := Try.underlying60
  a222 := Try.isAgg60
  z222 := Try.sizeOf60
  v222 := Try.zeroValue60
  t228 := Try.underlying62
  a228 := Try.isAgg62
  z228 := Try.sizeOf62
  v228 := Try.zeroValue62
  t229 := Try.underlying63
  a229 := Try.isAgg63
  z229 := Try.sizeOf63
  v229 := Try.zeroValue63 }
open Go.Sort Go.RowKit in
theorem Try.slices_Sort_int (blk off cap : Nat) (zs : List Int) (w : World) (hH : Holds (Value.int .i64) w blk off zs.toArray) (hblk : blk < w.heap.size) (hsz : zs.length < 4611686018427387904) :
    Calls Try.prog 20 #[.slice (some ⟨blk, off, none⟩) zs.length cap] w fun e w' =>
      e = .returned (.tuple #[]) ∧ ∃ n os, w' = grow (putRow (Value.int .i64) (Sort.ahead w n) blk off (zs.mergeSort fun x y => decide (x ≤ y)).toArray) os := Any.slices_Sort_int Try.lays189 blk off cap zs w hH hblk hsz
def Try.lays112_ren : Go.Shelf.Ren := ⟨fun | 112 => 22 | n => n, fun | 28 => 26 | 3 => 3 | 4 => 4 | 0 => 0 | n => n, fun | n => n⟩
theorem Try.lays112 : Go.Proofs.Lays.n112 Try.prog Try.lays112_ren := {
  mixed := by kernel_rfl
  f112 := Try.func22.trans (congrArg some (by kernel_rfl))
  t0 := Try.underlying0
  a0 := Try.isAgg0
  z0 := Try.sizeOf0
  v0 := Try.zeroValue0
  t3 := Try.underlying3
  a3 := Try.isAgg3
  z3 := Try.sizeOf3
  v3 := Try.zeroValue3
  t4 := Try.underlying4
  a4 := Try.isAgg4
  z4 := Try.sizeOf4
  v4 := Try.zeroValue4
  t28 := Try.underlying26
  a28 := Try.isAgg26
  z28 := Try.sizeOf26
  v28 := Try.zeroValue26 }
open Go.RowKit Go.Lib Go.Sort in
/-- slices.Reverse at []int: "Reverse reverses the elements of the slice in place.": THE SLICE's CELLS HOLD 'zs.reverse' BEHIND THE CALL; all else is as it was, but for the count of draws (the exchange 's[i], s[j] = s[j], s[i]' draws its order, once a round). IN THE WORDS OF slices.Sort's CONTRACT: 'Holds': the cells hold zs and none is frozen; 'putRow': the world with those cells holding another array. A slice of length 0 that is not nil is among them ('zs = []'); nil: '.._nil'. (LAID: no walk: one application.) -/
theorem Try.slices_Reverse_int (blk off cap : Nat) (zs : List Int) (w : World) (hH : Holds (Value.int .i64) w blk off zs.toArray) (hsz : zs.length ≤ 9223372036854775807) :
    Calls Try.prog 22 #[.slice (some ⟨blk, off, none⟩) zs.length cap] w fun e w' => e = .returned (.tuple #[]) ∧ ∃ n, w' = putRow (Value.int .i64) (Sort.ahead w n) blk off zs.reverse.toArray := Any.slices_Reverse_int Try.lays112 blk off cap zs w hH hsz
end Go.Proofs
end
