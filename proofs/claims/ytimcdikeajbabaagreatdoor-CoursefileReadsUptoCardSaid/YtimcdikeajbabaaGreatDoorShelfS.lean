/- The shelf's contract of slices.Sort at this seat's numbers, laid by the kit's own program. -/
import Derived.Shelf.Sort.Plain
import Derived.Shelf.Slices.In.SortNone
import Derived.Test.YtimcdikeajbabaaGreatDoorShelf
namespace Go.Proofs
open Go.Shelf
def Tryz.lays190_ren : Go.Shelf.Ren := ⟨fun | 190 => 145 | 125 => 153 | 258 => 184 | 128 => 196 | 129 => 197 | 302 => 219 | 303 => 220 | 304 => 221 | 305 => 222 | 306 => 223 | 307 => 224 | 308 => 225 | 309 => 226 | 310 => 227 | 333 => 248 | 329 => 229 | 330 => 230 | 334 => 249 | 335 => 250 | 336 => 251 | 344 => 262 | n => n, fun | 31 => 44 | 9 => 9 | 3 => 3 | 46 => 132 | 0 => 0 | 51 => 225 | 53 => 193 | 4 => 4 | 183 => 219 | 182 => 218 | 131 => 150 | 5 => 5 | 218 => 247 | 222 => 251 | 228 => 265 | 229 => 226 | n => n, fun | n => n⟩
theorem Tryz.lays190 : Go.Proofs.Lays.n190 Tryz.prog Tryz.lays190_ren := {
  mixed := by kernel_rfl
  f125 := Tryz.func153.trans (congrArg some (by kernel_rfl))
  f128 := Tryz.func196.trans (congrArg some (by kernel_rfl))
  f129 := Tryz.func197.trans (congrArg some (by kernel_rfl))
  f190 := Tryz.func145.trans (congrArg some (by kernel_rfl))
  f258 := Tryz.func184.trans (congrArg some (by kernel_rfl))
  f302 := Tryz.func219.trans (congrArg some (by kernel_rfl))
  f303 := Tryz.func220.trans (congrArg some (by kernel_rfl))
  f304 := Tryz.func221.trans (congrArg some (by kernel_rfl))
  f305 := Tryz.func222.trans (congrArg some (by kernel_rfl))
  f306 := Tryz.func223.trans (congrArg some (by kernel_rfl))
  f307 := Tryz.func224.trans (congrArg some (by kernel_rfl))
  f308 := Tryz.func225.trans (congrArg some (by kernel_rfl))
  f309 := Tryz.func226.trans (congrArg some (by kernel_rfl))
  f310 := Tryz.func227.trans (congrArg some (by kernel_rfl))
  f329 := Tryz.func229.trans (congrArg some (by kernel_rfl))
  f330 := Tryz.func230.trans (congrArg some (by kernel_rfl))
  f333 := Tryz.func248.trans (congrArg some (by kernel_rfl))
  f334 := Tryz.func249.trans (congrArg some (by kernel_rfl))
  f335 := Tryz.func250.trans (congrArg some (by kernel_rfl))
  f336 := Tryz.func251.trans (congrArg some (by kernel_rfl))
  f344 := Tryz.func262.trans (congrArg some (by kernel_rfl))
  t0 := Tryz.underlying0
  a0 := Tryz.isAgg0
  z0 := Tryz.sizeOf0
  v0 := Tryz.zeroValue0
  t3 := Tryz.underlying3
  a3 := Tryz.isAgg3
  z3 := Tryz.sizeOf3
  v3 := Tryz.zeroValue3
  t4 := Tryz.underlying4
  a4 := Tryz.isAgg4
  z4 := Tryz.sizeOf4
  v4 := Tryz.zeroValue4
  t5 := Tryz.underlying5
  a5 := Tryz.isAgg5
  z5 := Tryz.sizeOf5
  v5 := Tryz.zeroValue5
  t9 := Tryz.underlying9
  a9 := Tryz.isAgg9
  z9 := Tryz.sizeOf9
  v9 := Tryz.zeroValue9
  t31 := Tryz.underlying44
  a31 := Tryz.isAgg44
  z31 := Tryz.sizeOf44
  v31 := Tryz.zeroValue44
  t46 := Tryz.underlying132
  a46 := Tryz.isAgg132
  z46 := Tryz.sizeOf132
  v46 := Tryz.zeroValue132
  t51 := Tryz.underlying225
  a51 := Tryz.isAgg225
  z51 := Tryz.sizeOf225
  v51 := Tryz.zeroValue225
  t53 := Tryz.underlying193
  a53 := Tryz.isAgg193
  z53 := Tryz.sizeOf193
  v53 := Tryz.zeroValue193
  t131 := Tryz.underlying150
  a131 := Tryz.isAgg150
  z131 := Tryz.sizeOf150
  v131 := Tryz.zeroValue150
  t182 := Tryz.underlying218
  a182 := Tryz.isAgg218
  z182 := Tryz.sizeOf218
  v182 := Tryz.zeroValue218
  t183 := Tryz.underlying219
  a183 := Tryz.isAgg219
  z183 := Tryz.sizeOf219
  v183 := Tryz.zeroValue219
  t218 := Tryz.underlying247
  a218 := Tryz.isAgg247
  z218 := Tryz.sizeOf247
  v218 := Tryz.zeroValue247
  t222 := Tryz.underlying251
  a222 := Tryz.isAgg251
  z222 := Tryz.sizeOf251
  v222 := Tryz.zeroValue251
  t228 := Tryz.underlying265
  a228 := Tryz.isAgg265
  z228 := Tryz.sizeOf265
  v228 := Tryz.zeroValue265
  t229 := Tryz.underlying226
  a229 := Tryz.isAgg226
  z229 := Tryz.sizeOf226
  v229 := Tryz.zeroValue226 }
open Go.Sort Go.RowKit in
theorem Tryz.slices_Sort_string (blk off cap : Nat) (ss : List (List UInt8)) (w : World) (hH : Holds encStr w blk off ss.toArray) (hblk : blk < w.heap.size) (hsz : ss.length < 4611686018427387904) :
    Calls Tryz.prog 145 #[.slice (some ⟨blk, off, none⟩) ss.length cap] w fun e w' =>
      e = .returned (.tuple #[]) ∧ ∃ n os, w' = grow (putRow encStr (Sort.ahead w n) blk off (ss.mergeSort fun x y => decide (x ≤ y)).toArray) os := Any.slices_Sort_string Tryz.lays190 blk off cap ss w hH hblk hsz
open Go.RowKit Go.Sort in
theorem Tryz.slices_Sort_string_none (p : Option Addr) (cap : Nat) (w : World) :
    Calls Tryz.prog 145 #[.slice p 0 cap] w fun e w' => e = .returned (.tuple #[]) ∧ w' = w := Any.slices_Sort_string_none Tryz.lays190 p cap w
end Go.Proofs
