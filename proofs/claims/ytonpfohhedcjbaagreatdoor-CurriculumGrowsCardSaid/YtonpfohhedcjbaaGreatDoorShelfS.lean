/- The shelf's contract of slices.Sort at this seat's numbers, laid by the kit's own program. -/
import Derived.Shelf.Sort.Plain
import Derived.Test.YtonpfohhedcjbaaGreatDoorShelf
namespace Go.Proofs
open Go.Shelf
def Tryz.lays190_ren : Go.Shelf.Ren := ⟨fun | 190 => 100 | 125 => 114 | 258 => 113 | 128 => 140 | 129 => 141 | 302 => 131 | 303 => 132 | 304 => 133 | 305 => 134 | 306 => 135 | 307 => 136 | 308 => 137 | 309 => 138 | 310 => 139 | 333 => 152 | 329 => 153 | 330 => 154 | 334 => 155 | 335 => 156 | 336 => 157 | 344 => 164 | n => n, fun | 31 => 34 | 9 => 9 | 3 => 3 | 46 => 106 | 0 => 0 | 51 => 168 | 53 => 171 | 4 => 4 | 183 => 179 | 182 => 178 | 131 => 183 | 5 => 5 | 218 => 198 | 222 => 202 | 228 => 215 | 229 => 142 | n => n, fun | n => n⟩
theorem Tryz.lays190 : Go.Proofs.Lays.n190 Tryz.prog Tryz.lays190_ren := {
  mixed := by kernel_rfl
  f125 := Tryz.func114.trans (congrArg some (by kernel_rfl))
  f128 := Tryz.func140.trans (congrArg some (by kernel_rfl))
  f129 := Tryz.func141.trans (congrArg some (by kernel_rfl))
  f190 := Tryz.func100.trans (congrArg some (by kernel_rfl))
  f258 := Tryz.func113.trans (congrArg some (by kernel_rfl))
  f302 := Tryz.func131.trans (congrArg some (by kernel_rfl))
  f303 := Tryz.func132.trans (congrArg some (by kernel_rfl))
  f304 := Tryz.func133.trans (congrArg some (by kernel_rfl))
  f305 := Tryz.func134.trans (congrArg some (by kernel_rfl))
  f306 := Tryz.func135.trans (congrArg some (by kernel_rfl))
  f307 := Tryz.func136.trans (congrArg some (by kernel_rfl))
  f308 := Tryz.func137.trans (congrArg some (by kernel_rfl))
  f309 := Tryz.func138.trans (congrArg some (by kernel_rfl))
  f310 := Tryz.func139.trans (congrArg some (by kernel_rfl))
  f329 := Tryz.func153.trans (congrArg some (by kernel_rfl))
  f330 := Tryz.func154.trans (congrArg some (by kernel_rfl))
  f333 := Tryz.func152.trans (congrArg some (by kernel_rfl))
  f334 := Tryz.func155.trans (congrArg some (by kernel_rfl))
  f335 := Tryz.func156.trans (congrArg some (by kernel_rfl))
  f336 := Tryz.func157.trans (congrArg some (by kernel_rfl))
  f344 := Tryz.func164.trans (congrArg some (by kernel_rfl))
  t0 := Tryz.underlying0
  a0 := Tryz.isAgg0
  z0 := Tryz.sizeOf0
  v0 := Tryz.zeroValue0
  t3 := Tryz.underlying3
  a3 := Tryz.isAgg3
  z3 := Tryz.sizeOf3
  v3 := Tryz.zeroValue3
  t4 := Tryz.underlying4
  a4 := Tryz.isAgg4
  z4 := Tryz.sizeOf4
  v4 := Tryz.zeroValue4
  t5 := Tryz.underlying5
  a5 := Tryz.isAgg5
  z5 := Tryz.sizeOf5
  v5 := Tryz.zeroValue5
  t9 := Tryz.underlying9
  a9 := Tryz.isAgg9
  z9 := Tryz.sizeOf9
  v9 := Tryz.zeroValue9
  t31 := Tryz.underlying34
  a31 := Tryz.isAgg34
  z31 := Tryz.sizeOf34
  v31 := Tryz.zeroValue34
  t46 := Tryz.underlying106
  a46 := Tryz.isAgg106
  z46 := Tryz.sizeOf106
  v46 := Tryz.zeroValue106
  t51 := Tryz.underlying168
  a51 := Tryz.isAgg168
  z51 := Tryz.sizeOf168
  v51 := Tryz.zeroValue168
  t53 := Tryz.underlying171
  a53 := Tryz.isAgg171
  z53 := Tryz.sizeOf171
  v53 := Tryz.zeroValue171
  t131 := Tryz.underlying183
  a131 := Tryz.isAgg183
  z131 := Tryz.sizeOf183
  v131 := Tryz.zeroValue183
  t182 := Tryz.underlying178
  a182 := Tryz.isAgg178
  z182 := Tryz.sizeOf178
  v182 := Tryz.zeroValue178
  t183 := Tryz.underlying179
  a183 := Tryz.isAgg179
  z183 := Tryz.sizeOf179
  v183 := Tryz.zeroValue179
  t218 := Tryz.underlying198
  a218 := Tryz.isAgg198
  z218 := Tryz.sizeOf198
  v218 := Tryz.zeroValue198
  t222 := Tryz.underlying202
  a222 := Tryz.isAgg202
  z222 := Tryz.sizeOf202
  v222 := Tryz.zeroValue202
  t228 := Tryz.underlying215
  a228 := Tryz.isAgg215
  z228 := Tryz.sizeOf215
  v228 := Tryz.zeroValue215
  t229 := Tryz.underlying142
  a229 := Tryz.isAgg142
  z229 := Tryz.sizeOf142
  v229 := Tryz.zeroValue142 }
open Go.Sort Go.RowKit in
theorem Tryz.slices_Sort_string (blk off cap : Nat) (ss : List (List UInt8)) (w : World) (hH : Holds encStr w blk off ss.toArray) (hblk : blk < w.heap.size) (hsz : ss.length < 4611686018427387904) :
    Calls Tryz.prog 100 #[.slice (some ⟨blk, off, none⟩) ss.length cap] w fun e w' =>
      e = .returned (.tuple #[]) ∧ ∃ n os, w' = grow (putRow encStr (Sort.ahead w n) blk off (ss.mergeSort fun x y => decide (x ≤ y)).toArray) os := Any.slices_Sort_string Tryz.lays190 blk off cap ss w hH hblk hsz
end Go.Proofs
