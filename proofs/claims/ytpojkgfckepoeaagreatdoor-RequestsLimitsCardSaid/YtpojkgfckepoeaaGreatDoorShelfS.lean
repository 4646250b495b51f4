/- The shelf's contract of slices.Sort at this seat's numbers, laid by the kit's own program. -/
import Derived.Shelf.Sort.Plain
import Derived.Shelf.Slices.In.SortNone
import Derived.Test.YtpojkgfckepoeaaGreatDoorShelf
namespace Go.Proofs
open Go.Shelf
def Tryz.lays190_ren : Go.Shelf.Ren := ⟨fun | 190 => 160 | 125 => 76 | 258 => 185 | 128 => 110 | 129 => 111 | 302 => 202 | 303 => 203 | 304 => 204 | 305 => 205 | 306 => 206 | 307 => 207 | 308 => 208 | 309 => 209 | 310 => 210 | 333 => 217 | 329 => 135 | 330 => 136 | 334 => 218 | 335 => 219 | 336 => 115 | 344 => 220 | n => n, fun | 31 => 40 | 9 => 9 | 3 => 3 | 46 => 116 | 0 => 0 | 51 => 146 | 53 => 148 | 4 => 4 | 183 => 140 | 182 => 139 | 131 => 130 | 5 => 5 | 218 => 171 | 222 => 175 | 228 => 197 | 229 => 195 | n => n, fun | n => n⟩
theorem Tryz.lays190 : Go.Proofs.Lays.n190 Tryz.prog Tryz.lays190_ren := {
  mixed := by kernel_rfl
  f125 := Tryz.func76.trans (congrArg some (by kernel_rfl))
  f128 := Tryz.func110.trans (congrArg some (by kernel_rfl))
  f129 := Tryz.func111.trans (congrArg some (by kernel_rfl))
  f190 := Tryz.func160.trans (congrArg some (by kernel_rfl))
  f258 := Tryz.func185.trans (congrArg some (by kernel_rfl))
  f302 := Tryz.func202.trans (congrArg some (by kernel_rfl))
  f303 := Tryz.func203.trans (congrArg some (by kernel_rfl))
  f304 := Tryz.func204.trans (congrArg some (by kernel_rfl))
  f305 := Tryz.func205.trans (congrArg some (by kernel_rfl))
  f306 := Tryz.func206.trans (congrArg some (by kernel_rfl))
  f307 := Tryz.func207.trans (congrArg some (by kernel_rfl))
  f308 := Tryz.func208.trans (congrArg some (by kernel_rfl))
  f309 := Tryz.func209.trans (congrArg some (by kernel_rfl))
  f310 := Tryz.func210.trans (congrArg some (by kernel_rfl))
  f329 := Tryz.func135.trans (congrArg some (by kernel_rfl))
  f330 := Tryz.func136.trans (congrArg some (by kernel_rfl))
  f333 := Tryz.func217.trans (congrArg some (by kernel_rfl))
  f334 := Tryz.func218.trans (congrArg some (by kernel_rfl))
  f335 := Tryz.func219.trans (congrArg some (by kernel_rfl))
  f336 := Tryz.func115.trans (congrArg some (by kernel_rfl))
  f344 := Tryz.func220.trans (congrArg some (by kernel_rfl))
  t0 := Tryz.underlying0
  a0 := Tryz.isAgg0
  z0 := Tryz.sizeOf0
  v0 := Tryz.zeroValue0
  t3 := Tryz.underlying3
  a3 := Tryz.isAgg3
  z3 := Tryz.sizeOf3
  v3 := Tryz.zeroValue3
  t4 := Tryz.underlying4
  a4 := Tryz.isAgg4
  z4 := Tryz.sizeOf4
  v4 := Tryz.zeroValue4
  t5 := Tryz.underlying5
  a5 := Tryz.isAgg5
  z5 := Tryz.sizeOf5
  v5 := Tryz.zeroValue5
  t9 := Tryz.underlying9
  a9 := Tryz.isAgg9
  z9 := Tryz.sizeOf9
  v9 := Tryz.zeroValue9
  t31 := Tryz.underlying40
  a31 := Tryz.isAgg40
  z31 := Tryz.sizeOf40
  v31 := Tryz.zeroValue40
  t46 := Tryz.underlying116
  a46 := Tryz.isAgg116
  z46 := Tryz.sizeOf116
  v46 := Tryz.zeroValue116
  t51 := Tryz.underlying146
  a51 := Tryz.isAgg146
  z51 := Tryz.sizeOf146
  v51 := Tryz.zeroValue146
  t53 := Tryz.underlying148
  a53 := Tryz.isAgg148
  z53 := Tryz.sizeOf148
  v53 := Tryz.zeroValue148
  t131 := Tryz.underlying130
  a131 := Tryz.isAgg130
  z131 := Tryz.sizeOf130
  v131 := Tryz.zeroValue130
  t182 := Tryz.underlying139
  a182 := Tryz.isAgg139
  z182 := Tryz.sizeOf139
  v182 := Tryz.zeroValue139
  t183 := Tryz.underlying140
  a183 := Tryz.isAgg140
  z183 := Tryz.sizeOf140
  v183 := Tryz.zeroValue140
  t218 := Tryz.underlying171
  a218 := Tryz.isAgg171
  z218 := Tryz.sizeOf171
  v218 := Tryz.zeroValue171
  t222 := Tryz.underlying175
  a222 := Tryz.isAgg175
  z222 := Tryz.sizeOf175
  v222 := Tryz.zeroValue175
  t228 := Tryz.underlying197
  a228 := Tryz.isAgg197
  z228 := Tryz.sizeOf197
  v228 := Tryz.zeroValue197
  t229 := Tryz.underlying195
  a229 := Tryz.isAgg195
  z229 := Tryz.sizeOf195
  v229 := Tryz.zeroValue195 }
open Go.Sort Go.RowKit in
theorem Tryz.slices_Sort_string (blk off cap : Nat) (ss : List (List UInt8)) (w : World) (hH : Holds encStr w blk off ss.toArray) (hblk : blk < w.heap.size) (hsz : ss.length < 4611686018427387904) :
    Calls Tryz.prog 160 #[.slice (some ⟨blk, off, none⟩) ss.length cap] w fun e w' =>
      e = .returned (.tuple #[]) ∧ ∃ n os, w' = grow (putRow encStr (Sort.ahead w n) blk off (ss.mergeSort fun x y => decide (x ≤ y)).toArray) os := Any.slices_Sort_string Tryz.lays190 blk off cap ss w hH hblk hsz
open Go.RowKit Go.Sort in
theorem Tryz.slices_Sort_string_none (p : Option Addr) (cap : Nat) (w : World) :
    Calls Tryz.prog 160 #[.slice p 0 cap] w fun e w' => e = .returned (.tuple #[]) ∧ w' = w := Any.slices_Sort_string_none Tryz.lays190 p cap w
end Go.Proofs
