/- The shelf's contracts of strings.Trim at this seat's numbers, laid by the kit's own program. -/

import Derived.Shelf.Strings.SlTrimAscii
import Derived.Test.YtehgnnedaedpjaaGreatDoorShelf
namespace Go.Proofs
open Go.Shelf
def Tryz.lays160_ren : Go.Shelf.Ren := ⟨fun | 160 => 218 | 232 => 247 | 231 => 246 | 227 => 248 | 234 => 250 | 233 => 249 | 236 => 252 | 235 => 251 | 228 => 281 | 271 => 284 | 151 => 283 | 197 => 282 | 120 => 317 | 152 => 316 | 260 => 315 | 137 => 328 | 119 => 329 | 224 => 313 | 225 => 312 | 217 => 311 | 266 => 326 | n => n, fun | 9 => 9 | 4 => 4 | 3 => 3 | 5 => 5 | 117 => 276 | 116 => 275 | 0 => 0 | 124 => 279 | 21 => 21 | 105 => 299 | 46 => 200 | 119 => 338 | 139 => 341 | 138 => 340 | n => n, fun | 3 => 10 | 4 => 11 | n => n⟩
theorem Tryz.lays160 : Go.Proofs.Lays.n160 Tryz.prog Tryz.lays160_ren := {
  mixed := by kernel_rfl
  f119 := Tryz.func329.trans (congrArg some (by kernel_rfl))
  f120 := Tryz.func317.trans (congrArg some (by kernel_rfl))
  f137 := Tryz.func328.trans (congrArg some (by kernel_rfl))
  f151 := Tryz.func283.trans (congrArg some (by kernel_rfl))
  f152 := Tryz.func316.trans (congrArg some (by kernel_rfl))
  f160 := Tryz.func218.trans (congrArg some (by kernel_rfl))
  f197 := Tryz.func282.trans (congrArg some (by kernel_rfl))
  f217 := Tryz.func311.trans (congrArg some (by kernel_rfl))
  f224 := Tryz.func313.trans (congrArg some (by kernel_rfl))
  f225 := Tryz.func312.trans (congrArg some (by kernel_rfl))
  f227 := Tryz.func248.trans (congrArg some (by kernel_rfl))
  f228 := Tryz.func281.trans (congrArg some (by kernel_rfl))
  f231 := Tryz.func246.trans (congrArg some (by kernel_rfl))
  f232 := Tryz.func247.trans (congrArg some (by kernel_rfl))
  f233 := Tryz.func249.trans (congrArg some (by kernel_rfl))
  f234 := Tryz.func250.trans (congrArg some (by kernel_rfl))
  f235 := Tryz.func251.trans (congrArg some (by kernel_rfl))
  f236 := Tryz.func252.trans (congrArg some (by kernel_rfl))
  f260 := Tryz.func315.trans (congrArg some (by kernel_rfl))
  f266 := Tryz.func326.trans (congrArg some (by kernel_rfl))
  f271 := Tryz.func284.trans (congrArg some (by kernel_rfl))
  t0 := Tryz.underlying0
  a0 := Tryz.isAgg0
  z0 := Tryz.sizeOf0
  v0 := Tryz.zeroValue0
  t3 := Tryz.underlying3
  a3 := Tryz.isAgg3
  z3 := Tryz.sizeOf3
  v3 := Tryz.zeroValue3
  t4 := Tryz.underlying4
  a4 := Tryz.isAgg4
  z4 := Tryz.sizeOf4
  v4 := Tryz.zeroValue4
  t5 := Tryz.underlying5
  a5 := Tryz.isAgg5
  z5 := Tryz.sizeOf5
  v5 := Tryz.zeroValue5
  t9 := Tryz.underlying9
  a9 := Tryz.isAgg9
  z9 := Tryz.sizeOf9
  v9 := Tryz.zeroValue9
  t21 := Tryz.underlying21
  a21 := Tryz.isAgg21
  z21 := Tryz.sizeOf21
  v21 := Tryz.zeroValue21
  t46 := Tryz.underlying200
  a46 := Tryz.isAgg200
  z46 := Tryz.sizeOf200
  v46 := Tryz.zeroValue200
  t105 := Tryz.underlying299
  a105 := Tryz.isAgg299
  z105 := Tryz.sizeOf299
  v105 := Tryz.zeroValue299
  t116 := Tryz.underlying275
  a116 := Tryz.isAgg275
  z116 := Tryz.sizeOf275
  t117 := Tryz.underlying276
  a117 := Tryz.isAgg276
  z117 := Tryz.sizeOf276
  v117 := Tryz.zeroValue276
  t119 := Tryz.underlying338
  a119 := Tryz.isAgg338
  z119 := Tryz.sizeOf338
  t124 := Tryz.underlying279
  a124 := Tryz.isAgg279
  z124 := Tryz.sizeOf279
  v124 := Tryz.zeroValue279
  t138 := Tryz.underlying340
  a138 := Tryz.isAgg340
  z138 := Tryz.sizeOf340
  v138 := Tryz.zeroValue340
  t139 := Tryz.underlying341
  a139 := Tryz.isAgg341
  z139 := Tryz.sizeOf341
  v139 := Tryz.zeroValue341
  g3 := by kernel_rfl
  g4 := by kernel_rfl }
open Go.RowKit in
theorem Tryz.strings_Trim_one (s : ByteArray) (c : UInt8) (hc : c.toNat < 128) (w : World) (hs : s.size ≤ 9223372036854775807) :
    Calls Tryz.prog 218 #[.string s, .string ⟨#[c]⟩] w fun e w' => e = .returned (.string ⟨(Lib.trimB s.data.toList c).toArray⟩) ∧ (w' = w ∨ w' = w.drew) := Any.strings_Trim_one Tryz.lays160 s c hc w hs
end Go.Proofs
