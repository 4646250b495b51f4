/- The shelf's contract of slices.Sort at this seat's numbers, laid by the kit's own program. -/
import Derived.Shelf.Sort.Plain
import Derived.Shelf.Slices.In.SortNone
import Derived.Test.YthejgholpkeldaaGreatDoorShelf
namespace Go.Proofs
open Go.Shelf
def Tryz.lays190_ren : Go.Shelf.Ren := ⟨fun | 190 => 159 | 125 => 71 | 258 => 184 | 128 => 102 | 129 => 103 | 302 => 201 | 303 => 202 | 304 => 203 | 305 => 204 | 306 => 205 | 307 => 206 | 308 => 207 | 309 => 208 | 310 => 209 | 333 => 216 | 329 => 133 | 330 => 134 | 334 => 217 | 335 => 218 | 336 => 108 | 344 => 219 | n => n, fun | 31 => 41 | 9 => 9 | 3 => 3 | 46 => 113 | 0 => 0 | 51 => 143 | 53 => 145 | 4 => 4 | 183 => 137 | 182 => 136 | 131 => 130 | 5 => 5 | 218 => 171 | 222 => 175 | 228 => 194 | 229 => 195 | n => n, fun | n => n⟩
theorem Tryz.lays190 : Go.Proofs.Lays.n190 Tryz.prog Tryz.lays190_ren := {
  mixed := by kernel_rfl
  f125 := Tryz.func71.trans (congrArg some (by kernel_rfl))
  f128 := Tryz.func102.trans (congrArg some (by kernel_rfl))
  f129 := Tryz.func103.trans (congrArg some (by kernel_rfl))
  f190 := Tryz.func159.trans (congrArg some (by kernel_rfl))
  f258 := Tryz.func184.trans (congrArg some (by kernel_rfl))
  f302 := Tryz.func201.trans (congrArg some (by kernel_rfl))
  f303 := Tryz.func202.trans (congrArg some (by kernel_rfl))
  f304 := Tryz.func203.trans (congrArg some (by kernel_rfl))
  f305 := Tryz.func204.trans (congrArg some (by kernel_rfl))
  f306 := Tryz.func205.trans (congrArg some (by kernel_rfl))
  f307 := Tryz.func206.trans (congrArg some (by kernel_rfl))
  f308 := Tryz.func207.trans (congrArg some (by kernel_rfl))
  f309 := Tryz.func208.trans (congrArg some (by kernel_rfl))
  f310 := Tryz.func209.trans (congrArg some (by kernel_rfl))
  f329 := Tryz.func133.trans (congrArg some (by kernel_rfl))
  f330 := Tryz.func134.trans (congrArg some (by kernel_rfl))
  f333 := Tryz.func216.trans (congrArg some (by kernel_rfl))
  f334 := Tryz.func217.trans (congrArg some (by kernel_rfl))
  f335 := Tryz.func218.trans (congrArg some (by kernel_rfl))
  f336 := Tryz.func108.trans (congrArg some (by kernel_rfl))
  f344 := Tryz.func219.trans (congrArg some (by kernel_rfl))
  t0 := Tryz.underlying0
  a0 := Tryz.isAgg0
  z0 := Tryz.sizeOf0
  v0 := Tryz.zeroValue0
  t3 := Tryz.underlying3
  a3 := Tryz.isAgg3
  z3 := Tryz.sizeOf3
  v3 := Tryz.zeroValue3
  t4 := Tryz.underlying4
  a4 := Tryz.isAgg4
  z4 := Tryz.sizeOf4
  v4 := Tryz.zeroValue4
  t5 := Tryz.underlying5
  a5 := Tryz.isAgg5
  z5 := Tryz.sizeOf5
  v5 := Tryz.zeroValue5
  t9 := Tryz.underlying9
  a9 := Tryz.isAgg9
  z9 := Tryz.sizeOf9
  v9 := Tryz.zeroValue9
  t31 := Tryz.underlying41
  a31 := Tryz.isAgg41
  z31 := Tryz.sizeOf41
  v31 := Tryz.zeroValue41
  t46 := Tryz.underlying113
  a46 := Tryz.isAgg113
  z46 := Tryz.sizeOf113
  v46 := Tryz.zeroValue113
  t51 := Tryz.underlying143
  a51 := Tryz.isAgg143
  z51 := Tryz.sizeOf143
  v51 := Tryz.zeroValue143
  t53 := Tryz.underlying145
  a53 := Tryz.isAgg145
  z53 := Tryz.sizeOf145
  v53 := Tryz.zeroValue145
  t131 := Tryz.underlying130
  a131 := Tryz.isAgg130
  z131 := Tryz.sizeOf130
  v131 := Tryz.zeroValue130
  t182 := Tryz.underlying136
  a182 := Tryz.isAgg136
  z182 := Tryz.sizeOf136
  v182 := Tryz.zeroValue136
  t183 := Tryz.underlying137
  a183 := Tryz.isAgg137
  z183 := Tryz.sizeOf137
  v183 := Tryz.zeroValue137
  t218 := Tryz.underlying171
  a218 := Tryz.isAgg171
  z218 := Tryz.sizeOf171
  v218 := Tryz.zeroValue171
  t222 := Tryz.underlying175
  a222 := Tryz.isAgg175
  z222 := Tryz.sizeOf175
  v222 := Tryz.zeroValue175
  t228 := Tryz.underlying194
  a228 := Tryz.isAgg194
  z228 := Tryz.sizeOf194
  v228 := Tryz.zeroValue194
  t229 := Tryz.underlying195
  a229 := Tryz.isAgg195
  z229 := Tryz.sizeOf195
  v229 := Tryz.zeroValue195 }
open Go.Sort Go.RowKit in
theorem Tryz.slices_Sort_string (blk off cap : Nat) (ss : List (List UInt8)) (w : World) (hH : Holds encStr w blk off ss.toArray) (hblk : blk < w.heap.size) (hsz : ss.length < 4611686018427387904) :
    Calls Tryz.prog 159 #[.slice (some ⟨blk, off, none⟩) ss.length cap] w fun e w' =>
      e = .returned (.tuple #[]) ∧ ∃ n os, w' = grow (putRow encStr (Sort.ahead w n) blk off (ss.mergeSort fun x y => decide (x ≤ y)).toArray) os := Any.slices_Sort_string Tryz.lays190 blk off cap ss w hH hblk hsz
open Go.RowKit Go.Sort in
theorem Tryz.slices_Sort_string_none (p : Option Addr) (cap : Nat) (w : World) :
    Calls Tryz.prog 159 #[.slice p 0 cap] w fun e w' => e = .returned (.tuple #[]) ∧ w' = w := Any.slices_Sort_string_none Tryz.lays190 p cap w
end Go.Proofs
