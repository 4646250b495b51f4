/- The shelf's contract of slices.Sort at this seat's numbers, laid by the kit's own program. -/
import Derived.Shelf.Sort.Plain
import Derived.Shelf.Slices.In.SortNone
import Derived.Test.YtnbcaklnpflihaaGreatDoorShelf
namespace Go.Proofs
open Go.Shelf
def Tryz.lays190_ren : Go.Shelf.Ren := ⟨fun | 190 => 105 | 125 => 144 | 258 => 143 | 128 => 181 | 129 => 154 | 302 => 172 | 303 => 173 | 304 => 174 | 305 => 175 | 306 => 176 | 307 => 177 | 308 => 178 | 309 => 179 | 310 => 180 | 333 => 197 | 329 => 198 | 330 => 199 | 334 => 200 | 335 => 201 | 336 => 202 | 344 => 216 | n => n, fun | 31 => 44 | 9 => 9 | 3 => 3 | 46 => 135 | 0 => 0 | 51 => 186 | 53 => 153 | 4 => 4 | 183 => 204 | 182 => 203 | 131 => 88 | 5 => 5 | 218 => 221 | 222 => 225 | 228 => 243 | 229 => 149 | n => n, fun | n => n⟩
theorem Tryz.lays190 : Go.Proofs.Lays.n190 Tryz.prog Tryz.lays190_ren := {
  mixed := by kernel_rfl
  f125 := Tryz.func144.trans (congrArg some (by kernel_rfl))
  f128 := Tryz.func181.trans (congrArg some (by kernel_rfl))
  f129 := Tryz.func154.trans (congrArg some (by kernel_rfl))
  f190 := Tryz.func105.trans (congrArg some (by kernel_rfl))
  f258 := Tryz.func143.trans (congrArg some (by kernel_rfl))
  f302 := Tryz.func172.trans (congrArg some (by kernel_rfl))
  f303 := Tryz.func173.trans (congrArg some (by kernel_rfl))
  f304 := Tryz.func174.trans (congrArg some (by kernel_rfl))
  f305 := Tryz.func175.trans (congrArg some (by kernel_rfl))
  f306 := Tryz.func176.trans (congrArg some (by kernel_rfl))
  f307 := Tryz.func177.trans (congrArg some (by kernel_rfl))
  f308 := Tryz.func178.trans (congrArg some (by kernel_rfl))
  f309 := Tryz.func179.trans (congrArg some (by kernel_rfl))
  f310 := Tryz.func180.trans (congrArg some (by kernel_rfl))
  f329 := Tryz.func198.trans (congrArg some (by kernel_rfl))
  f330 := Tryz.func199.trans (congrArg some (by kernel_rfl))
  f333 := Tryz.func197.trans (congrArg some (by kernel_rfl))
  f334 := Tryz.func200.trans (congrArg some (by kernel_rfl))
  f335 := Tryz.func201.trans (congrArg some (by kernel_rfl))
  f336 := Tryz.func202.trans (congrArg some (by kernel_rfl))
  f344 := Tryz.func216.trans (congrArg some (by kernel_rfl))
  t0 := Tryz.underlying0
  a0 := Tryz.isAgg0
  z0 := Tryz.sizeOf0
  v0 := Tryz.zeroValue0
  t3 := Tryz.underlying3
  a3 := Tryz.isAgg3
  z3 := Tryz.sizeOf3
  v3 := Tryz.zeroValue3
  t4 := Tryz.underlying4
  a4 := Tryz.isAgg4
  z4 := Tryz.sizeOf4
  v4 := Tryz.zeroValue4
  t5 := Tryz.underlying5
  a5 := Tryz.isAgg5
  z5 := Tryz.sizeOf5
  v5 := Tryz.zeroValue5
  t9 := Tryz.underlying9
  a9 := Tryz.isAgg9
  z9 := Tryz.sizeOf9
  v9 := Tryz.zeroValue9
  t31 := Tryz.underlying44
  a31 := Tryz.isAgg44
  z31 := Tryz.sizeOf44
  v31 := Tryz.zeroValue44
  t46 := Tryz.underlying135
  a46 := Tryz.isAgg135
  z46 := Tryz.sizeOf135
  v46 := Tryz.zeroValue135
  t51 := Tryz.underlying186
  a51 := Tryz.isAgg186
  z51 := Tryz.sizeOf186
  v51 := Tryz.zeroValue186
  t53 := Tryz.underlying153
  a53 := Tryz.isAgg153
  z53 := Tryz.sizeOf153
  v53 := Tryz.zeroValue153
  t131 := Tryz.underlying88
  a131 := Tryz.isAgg88
  z131 := Tryz.sizeOf88
  v131 := Tryz.zeroValue88
  t182 := Tryz.underlying203
  a182 := Tryz.isAgg203
  z182 := Tryz.sizeOf203
  v182 := Tryz.zeroValue203
  t183 := Tryz.underlying204
  a183 := Tryz.isAgg204
  z183 := Tryz.sizeOf204
  v183 := Tryz.zeroValue204
  t218 := Tryz.underlying221
  a218 := Tryz.isAgg221
  z218 := Tryz.sizeOf221
  v218 := Tryz.zeroValue221
  t222 := Tryz.underlying225
  a222 := Tryz.isAgg225
  z222 := Tryz.sizeOf225
  v222 := Tryz.zeroValue225
  t228 := Tryz.underlying243
  a228 := Tryz.isAgg243
  z228 := Tryz.sizeOf243
  v228 := Tryz.zeroValue243
  t229 := Tryz.underlying149
  a229 := Tryz.isAgg149
  z229 := Tryz.sizeOf149
  v229 := Tryz.zeroValue149 }
open Go.Sort Go.RowKit in
theorem Tryz.slices_Sort_string (blk off cap : Nat) (ss : List (List UInt8)) (w : World) (hH : Holds encStr w blk off ss.toArray) (hblk : blk < w.heap.size) (hsz : ss.length < 4611686018427387904) :
    Calls Tryz.prog 105 #[.slice (some ⟨blk, off, none⟩) ss.length cap] w fun e w' =>
      e = .returned (.tuple #[]) ∧ ∃ n os, w' = grow (putRow encStr (Sort.ahead w n) blk off (ss.mergeSort fun x y => decide (x ≤ y)).toArray) os := Any.slices_Sort_string Tryz.lays190 blk off cap ss w hH hblk hsz
open Go.RowKit Go.Sort in
theorem Tryz.slices_Sort_string_none (p : Option Addr) (cap : Nat) (w : World) :
    Calls Tryz.prog 105 #[.slice p 0 cap] w fun e w' => e = .returned (.tuple #[]) ∧ w' = w := Any.slices_Sort_string_none Tryz.lays190 p cap w
end Go.Proofs
