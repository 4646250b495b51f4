/- The shelf's contract of slices.Sort at this seat's numbers, laid by the kit's own program. -/
import Derived.Shelf.Sort.Plain
import Derived.Test.YtehgnnedaedpjaaGreatDoorShelf
namespace Go.Proofs
open Go.Shelf
def Tryz.lays190_ren : Go.Shelf.Ren := ⟨fun | 190 => 221 | 125 => 236 | 258 => 256 | 128 => 275 | 129 => 260 | 302 => 290 | 303 => 291 | 304 => 292 | 305 => 293 | 306 => 294 | 307 => 295 | 308 => 296 | 309 => 297 | 310 => 298 | 333 => 321 | 329 => 304 | 330 => 305 | 334 => 322 | 335 => 323 | 336 => 324 | 344 => 332 | n => n, fun | 31 => 34 | 9 => 9 | 3 => 3 | 46 => 200 | 0 => 0 | 51 => 285 | 53 => 259 | 4 => 4 | 183 => 290 | 182 => 289 | 131 => 170 | 5 => 5 | 218 => 314 | 222 => 318 | 228 => 335 | 229 => 250 | n => n, fun | n => n⟩
theorem Tryz.lays190 : Go.Proofs.Lays.n190 Tryz.prog Tryz.lays190_ren := {
  mixed := by kernel_rfl
  f125 := Tryz.func236.trans (congrArg some (by kernel_rfl))
  f128 := Tryz.func275.trans (congrArg some (by kernel_rfl))
  f129 := Tryz.func260.trans (congrArg some (by kernel_rfl))
  f190 := Tryz.func221.trans (congrArg some (by kernel_rfl))
  f258 := Tryz.func256.trans (congrArg some (by kernel_rfl))
  f302 := Tryz.func290.trans (congrArg some (by kernel_rfl))
  f303 := Tryz.func291.trans (congrArg some (by kernel_rfl))
  f304 := Tryz.func292.trans (congrArg some (by kernel_rfl))
  f305 := Tryz.func293.trans (congrArg some (by kernel_rfl))
  f306 := Tryz.func294.trans (congrArg some (by kernel_rfl))
  f307 := Tryz.func295.trans (congrArg some (by kernel_rfl))
  f308 := Tryz.func296.trans (congrArg some (by kernel_rfl))
  f309 := Tryz.func297.trans (congrArg some (by kernel_rfl))
  f310 := Tryz.func298.trans (congrArg some (by kernel_rfl))
  f329 := Tryz.func304.trans (congrArg some (by kernel_rfl))
  f330 := Tryz.func305.trans (congrArg some (by kernel_rfl))
  f333 := Tryz.func321.trans (congrArg some (by kernel_rfl))
  f334 := Tryz.func322.trans (congrArg some (by kernel_rfl))
  f335 := Tryz.func323.trans (congrArg some (by kernel_rfl))
  f336 := Tryz.func324.trans (congrArg some (by kernel_rfl))
  f344 := Tryz.func332.trans (congrArg some (by kernel_rfl))
  t0 := Tryz.underlying0
  a0 := Tryz.isAgg0
  z0 := Tryz.sizeOf0
  v0 := Tryz.zeroValue0
  t3 := Tryz.underlying3
  a3 := Tryz.isAgg3
  z3 := Tryz.sizeOf3
  v3 := Tryz.zeroValue3
  t4 := Tryz.underlying4
  a4 := Tryz.isAgg4
  z4 := Tryz.sizeOf4
  v4 := Tryz.zeroValue4
  t5 := Tryz.underlying5
  a5 := Tryz.isAgg5
  z5 := Tryz.sizeOf5
  v5 := Tryz.zeroValue5
  t9 := Tryz.underlying9
  a9 := Tryz.isAgg9
  z9 := Tryz.sizeOf9
  v9 := Tryz.zeroValue9
  t31 := Tryz.underlying34
  a31 := Tryz.isAgg34
  z31 := Tryz.sizeOf34
  v31 := Tryz.zeroValue34
  t46 := Tryz.underlying200
  a46 := Tryz.isAgg200
  z46 := Tryz.sizeOf200
  v46 := Tryz.zeroValue200
  t51 := Tryz.underlying285
  a51 := Tryz.isAgg285
  z51 := Tryz.sizeOf285
  v51 := Tryz.zeroValue285
  t53 := Tryz.underlying259
  a53 := Tryz.isAgg259
  z53 := Tryz.sizeOf259
  v53 := Tryz.zeroValue259
  t131 := Tryz.underlying170
  a131 := Tryz.isAgg170
  z131 := Tryz.sizeOf170
  v131 := Tryz.zeroValue170
  t182 := Tryz.underlying289
  a182 := Tryz.isAgg289
  z182 := Tryz.sizeOf289
  v182 := Tryz.zeroValue289
  t183 := Tryz.underlying290
  a183 := Tryz.isAgg290
  z183 := Tryz.sizeOf290
  v183 := Tryz.zeroValue290
  t218 := Tryz.underlying314
  a218 := Tryz.isAgg314
  z218 := Tryz.sizeOf314
  v218 := Tryz.zeroValue314
  t222 := Tryz.underlying318
  a222 := Tryz.isAgg318
  z222 := Tryz.sizeOf318
  v222 := Tryz.zeroValue318
  t228 := Tryz.underlying335
  a228 := Tryz.isAgg335
  z228 := Tryz.sizeOf335
  v228 := Tryz.zeroValue335
  t229 := Tryz.underlying250
  a229 := Tryz.isAgg250
  z229 := Tryz.sizeOf250
  v229 := Tryz.zeroValue250 }
open Go.Sort Go.RowKit in
theorem Tryz.slices_Sort_string (blk off cap : Nat) (ss : List (List UInt8)) (w : World) (hH : Holds encStr w blk off ss.toArray) (hblk : blk < w.heap.size) (hsz : ss.length < 4611686018427387904) :
    Calls Tryz.prog 221 #[.slice (some ⟨blk, off, none⟩) ss.length cap] w fun e w' =>
      e = .returned (.tuple #[]) ∧ ∃ n os, w' = grow (putRow encStr (Sort.ahead w n) blk off (ss.mergeSort fun x y => decide (x ≤ y)).toArray) os := Any.slices_Sort_string Tryz.lays190 blk off cap ss w hH hblk hsz
end Go.Proofs
