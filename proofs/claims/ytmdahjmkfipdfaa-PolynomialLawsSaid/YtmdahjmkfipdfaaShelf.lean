/- sort.Strings of this program, by the library's contract. Written by mkshelf.py out of the kit's shelf command. -/
import Derived.Shelf.Sort.Plain
import Derived.Shelf.Slices.In.SortNone2
import Derived.Test.YtmdahjmkfipdfaaProg
namespace Go.Proofs.Ytmdahjmkfipdfaa
open Go.Shelf Go.Sort
def shelf_lays192_ren : Go.Shelf.Ren := ⟨fun | 192 => 39 | 190 => 68 | 125 => 91 | 258 => 99 | 128 => 114 | 129 => 115 | 302 => 129 | 303 => 130 | 304 => 131 | 305 => 132 | 306 => 133 | 307 => 134 | 308 => 135 | 309 => 136 | 310 => 137 | 333 => 143 | 329 => 144 | 330 => 145 | 334 => 146 | 335 => 147 | 336 => 148 | 344 => 150 | n => n, fun | 31 => 81 | 0 => 0 | 9 => 9 | 3 => 3 | 46 => 46 | 51 => 170 | 53 => 30 | 4 => 4 | 183 => 184 | 182 => 183 | 131 => 89 | 5 => 5 | 218 => 196 | 222 => 194 | 228 => 202 | 229 => 200 | n => n, fun | n => n⟩
theorem shelf_lays192 : Go.Proofs.Lays.n192 Try.prog shelf_lays192_ren := {
  mixed := by kernel_rfl
  f125 := Try.func91.trans (congrArg some (by kernel_rfl))
  f128 := Try.func114.trans (congrArg some (by kernel_rfl))
  f129 := Try.func115.trans (congrArg some (by kernel_rfl))
  f190 := Try.func68.trans (congrArg some (by kernel_rfl))
  f192 := Try.func39.trans (congrArg some (by kernel_rfl))
  f258 := Try.func99.trans (congrArg some (by kernel_rfl))
  f302 := Try.func129.trans (congrArg some (by kernel_rfl))
  f303 := Try.func130.trans (congrArg some (by kernel_rfl))
  f304 := Try.func131.trans (congrArg some (by kernel_rfl))
  f305 := Try.func132.trans (congrArg some (by kernel_rfl))
  f306 := Try.func133.trans (congrArg some (by kernel_rfl))
  f307 := Try.func134.trans (congrArg some (by kernel_rfl))
  f308 := Try.func135.trans (congrArg some (by kernel_rfl))
  f309 := Try.func136.trans (congrArg some (by kernel_rfl))
  f310 := Try.func137.trans (congrArg some (by kernel_rfl))
  f329 := Try.func144.trans (congrArg some (by kernel_rfl))
  f330 := Try.func145.trans (congrArg some (by kernel_rfl))
  f333 := Try.func143.trans (congrArg some (by kernel_rfl))
  f334 := Try.func146.trans (congrArg some (by kernel_rfl))
  f335 := Try.func147.trans (congrArg some (by kernel_rfl))
  f336 := Try.func148.trans (congrArg some (by kernel_rfl))
  f344 := Try.func150.trans (congrArg some (by kernel_rfl))
  t0 := Try.underlying0
  a0 := Try.isAgg0
  z0 := Try.sizeOf0
  v0 := Try.zeroValue0
  t3 := Try.underlying3
  a3 := Try.isAgg3
  z3 := Try.sizeOf3
  v3 := Try.zeroValue3
  t4 := Try.underlying4
  a4 := Try.isAgg4
  z4 := Try.sizeOf4
  v4 := Try.zeroValue4
  t5 := Try.underlying5
  a5 := Try.isAgg5
  z5 := Try.sizeOf5
  v5 := Try.zeroValue5
  t9 := Try.underlying9
  a9 := Try.isAgg9
  z9 := Try.sizeOf9
  v9 := Try.zeroValue9
  t31 := Try.underlying81
  a31 := Try.isAgg81
  z31 := Try.sizeOf81
  v31 := Try.zeroValue81
  t46 := Try.underlying46
  a46 := Try.isAgg46
  z46 := Try.sizeOf46
  v46 := Try.zeroValue46
  t51 := Try.underlying170
  a51 := Try.isAgg170
  z51 := Try.sizeOf170
  v51 := Try.zeroValue170
  t53 := Try.underlying30
  a53 := Try.isAgg30
  z53 := Try.sizeOf30
  v53 := Try.zeroValue30
  t131 := Try.underlying89
  a131 := Try.isAgg89
  z131 := Try.sizeOf89
  v131 := Try.zeroValue89
  t182 := Try.underlying183
  a182 := Try.isAgg183
  z182 := Try.sizeOf183
  v182 := Try.zeroValue183
  t183 := Try.underlying184
  a183 := Try.isAgg184
  z183 := Try.sizeOf184
  v183 := Try.zeroValue184
  t218 := Try.underlying196
  a218 := Try.isAgg196
  z218 := Try.sizeOf196
  v218 := Try.zeroValue196
  t222 := Try.underlying194
  a222 := Try.isAgg194
  z222 := Try.sizeOf194
  v222 := Try.zeroValue194
  t228 := Try.underlying202
  a228 := Try.isAgg202
  z228 := Try.sizeOf202
  v228 := Try.zeroValue202
  t229 := Try.underlying200
  a229 := Try.isAgg200
  z229 := Try.sizeOf200
  v229 := Try.zeroValue200 }
theorem shelf_sort_Strings (blk off cap : Nat) (ss : List (List UInt8)) (w : World) (hH : Holds encStr w blk off ss.toArray) (hblk : blk < w.heap.size) (hsz : ss.length < 4611686018427387904) :
    Calls Try.prog 39 #[.slice (some ⟨blk, off, none⟩) ss.length cap] w fun e w' =>
      e = .returned (.tuple #[]) ∧ ∃ n os, w' = grow (putRow encStr (Sort.ahead w n) blk off (ss.mergeSort fun x y => decide (x ≤ y)).toArray) os := Any.sort_Strings shelf_lays192 blk off cap ss w hH hblk hsz
theorem shelf_sort_Strings_none (p : Option Addr) (cap : Nat) (w : World) :
    Calls Try.prog 39 #[.slice p 0 cap] w fun e w' => e = .returned (.tuple #[]) ∧ w' = w := Any.sort_Strings_none shelf_lays192 p cap w
end Go.Proofs.Ytmdahjmkfipdfaa
