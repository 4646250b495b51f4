/- The shelf's contract of slices.Sort at this seat's numbers, laid by the kit's own program. -/
import Derived.Shelf.Sort.Plain
import Derived.Test.YtjdhjnciokhbkaaGreatDoorShelf
namespace Go.Proofs
open Go.Shelf
def Tryz.lays190_ren : Go.Shelf.Ren := ⟨fun | 190 => 101 | 125 => 127 | 258 => 126 | 128 => 158 | 129 => 159 | 302 => 149 | 303 => 150 | 304 => 151 | 305 => 152 | 306 => 153 | 307 => 154 | 308 => 155 | 309 => 156 | 310 => 157 | 333 => 175 | 329 => 176 | 330 => 177 | 334 => 178 | 335 => 179 | 336 => 94 | 344 => 189 | n => n, fun | 31 => 34 | 9 => 9 | 3 => 3 | 46 => 149 | 0 => 0 | 51 => 185 | 53 => 187 | 4 => 4 | 183 => 178 | 182 => 177 | 131 => 182 | 5 => 5 | 218 => 204 | 222 => 208 | 228 => 224 | 229 => 108 | n => n, fun | n => n⟩
theorem Tryz.lays190 : Go.Proofs.Lays.n190 Tryz.prog Tryz.lays190_ren := {
  mixed := by kernel_rfl
  f125 := Tryz.func127.trans (congrArg some (by kernel_rfl))
  f128 := Tryz.func158.trans (congrArg some (by kernel_rfl))
  f129 := Tryz.func159.trans (congrArg some (by kernel_rfl))
  f190 := Tryz.func101.trans (congrArg some (by kernel_rfl))
  f258 := Tryz.func126.trans (congrArg some (by kernel_rfl))
  f302 := Tryz.func149.trans (congrArg some (by kernel_rfl))
  f303 := Tryz.func150.trans (congrArg some (by kernel_rfl))
  f304 := Tryz.func151.trans (congrArg some (by kernel_rfl))
  f305 := Tryz.func152.trans (congrArg some (by kernel_rfl))
  f306 := Tryz.func153.trans (congrArg some (by kernel_rfl))
  f307 := Tryz.func154.trans (congrArg some (by kernel_rfl))
  f308 := Tryz.func155.trans (congrArg some (by kernel_rfl))
  f309 := Tryz.func156.trans (congrArg some (by kernel_rfl))
  f310 := Tryz.func157.trans (congrArg some (by kernel_rfl))
  f329 := Tryz.func176.trans (congrArg some (by kernel_rfl))
  f330 := Tryz.func177.trans (congrArg some (by kernel_rfl))
  f333 := Tryz.func175.trans (congrArg some (by kernel_rfl))
  f334 := Tryz.func178.trans (congrArg some (by kernel_rfl))
  f335 := Tryz.func179.trans (congrArg some (by kernel_rfl))
  f336 := Tryz.func94.trans (congrArg some (by kernel_rfl))
  f344 := Tryz.func189.trans (congrArg some (by kernel_rfl))
  t0 := Tryz.underlying0
  a0 := Tryz.isAgg0
  z0 := Tryz.sizeOf0
  v0 := Tryz.zeroValue0
  t3 := Tryz.underlying3
  a3 := Tryz.isAgg3
  z3 := Tryz.sizeOf3
  v3 := Tryz.zeroValue3
  t4 := Tryz.underlying4
  a4 := Tryz.isAgg4
  z4 := Tryz.sizeOf4
  v4 := Tryz.zeroValue4
  t5 := Tryz.underlying5
  a5 := Tryz.isAgg5
  z5 := Tryz.sizeOf5
  v5 := Tryz.zeroValue5
  t9 := Tryz.underlying9
  a9 := Tryz.isAgg9
  z9 := Tryz.sizeOf9
  v9 := Tryz.zeroValue9
  t31 := Tryz.underlying34
  a31 := Tryz.isAgg34
  z31 := Tryz.sizeOf34
  v31 := Tryz.zeroValue34
  t46 := Tryz.underlying149
  a46 := Tryz.isAgg149
  z46 := Tryz.sizeOf149
  v46 := Tryz.zeroValue149
  t51 := Tryz.underlying185
  a51 := Tryz.isAgg185
  z51 := Tryz.sizeOf185
  v51 := Tryz.zeroValue185
  t53 := Tryz.underlying187
  a53 := Tryz.isAgg187
  z53 := Tryz.sizeOf187
  v53 := Tryz.zeroValue187
  t131 := Tryz.underlying182
  a131 := Tryz.isAgg182
  z131 := Tryz.sizeOf182
  v131 := Tryz.zeroValue182
  t182 := Tryz.underlying177
  a182 := Tryz.isAgg177
  z182 := Tryz.sizeOf177
  v182 := Tryz.zeroValue177
  t183 := Tryz.underlying178
  a183 := Tryz.isAgg178
  z183 := Tryz.sizeOf178
  v183 := Tryz.zeroValue178
  t218 := Tryz.underlying204
  a218 := Tryz.isAgg204
  z218 := Tryz.sizeOf204
  v218 := Tryz.zeroValue204
  t222 := Tryz.underlying208
  a222 := Tryz.isAgg208
  z222 := Tryz.sizeOf208
  v222 := Tryz.zeroValue208
  t228 := Tryz.underlying224
  a228 := Tryz.isAgg224
  z228 := Tryz.sizeOf224
  v228 := Tryz.zeroValue224
  t229 := Tryz.underlying108
  a229 := Tryz.isAgg108
  z229 := Tryz.sizeOf108
  v229 := Tryz.zeroValue108 }
open Go.Sort Go.RowKit in
theorem Tryz.slices_Sort_string (blk off cap : Nat) (ss : List (List UInt8)) (w : World) (hH : Holds encStr w blk off ss.toArray) (hblk : blk < w.heap.size) (hsz : ss.length < 4611686018427387904) :
    Calls Tryz.prog 101 #[.slice (some ⟨blk, off, none⟩) ss.length cap] w fun e w' =>
      e = .returned (.tuple #[]) ∧ ∃ n os, w' = grow (putRow encStr (Sort.ahead w n) blk off (ss.mergeSort fun x y => decide (x ≤ y)).toArray) os := Any.slices_Sort_string Tryz.lays190 blk off cap ss w hH hblk hsz
end Go.Proofs
