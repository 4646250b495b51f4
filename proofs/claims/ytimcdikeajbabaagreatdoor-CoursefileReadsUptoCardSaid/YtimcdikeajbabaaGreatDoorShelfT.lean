/- The shelf's contracts of strings.Trim at this seat's numbers, laid by the kit's own program. -/

import Derived.Shelf.Strings.SlTrimAscii
import Derived.Test.YtimcdikeajbabaaGreatDoorShelf
namespace Go.Proofs
open Go.Shelf
def Tryz.lays160_ren : Go.Shelf.Ren := ⟨fun | 160 => 139 | 232 => 171 | 231 => 170 | 227 => 172 | 234 => 174 | 233 => 173 | 236 => 176 | 235 => 175 | 228 => 207 | 271 => 210 | 151 => 209 | 197 => 208 | 120 => 240 | 152 => 239 | 260 => 238 | 137 => 256 | 119 => 257 | 224 => 246 | 225 => 245 | 217 => 244 | 266 => 260 | n => n, fun | 9 => 9 | 4 => 4 | 3 => 3 | 5 => 5 | 117 => 208 | 116 => 207 | 0 => 0 | 124 => 211 | 21 => 21 | 105 => 232 | 46 => 132 | 119 => 273 | 139 => 276 | 138 => 275 | n => n, fun | 3 => 10 | 4 => 11 | n => n⟩
theorem Tryz.lays160 : Go.Proofs.Lays.n160 Tryz.prog Tryz.lays160_ren := {
  mixed := by kernel_rfl
  f119 := Tryz.func257.trans (congrArg some (by kernel_rfl))
  f120 := Tryz.func240.trans (congrArg some (by kernel_rfl))
  f137 := Tryz.func256.trans (congrArg some (by kernel_rfl))
  f151 := Tryz.func209.trans (congrArg some (by kernel_rfl))
  f152 := Tryz.func239.trans (congrArg some (by kernel_rfl))
  f160 := Tryz.func139.trans (congrArg some (by kernel_rfl))
  f197 := Tryz.func208.trans (congrArg some (by kernel_rfl))
  f217 := Tryz.func244.trans (congrArg some (by kernel_rfl))
  f224 := Tryz.func246.trans (congrArg some (by kernel_rfl))
  f225 := Tryz.func245.trans (congrArg some (by kernel_rfl))
  f227 := Tryz.func172.trans (congrArg some (by kernel_rfl))
  f228 := Tryz.func207.trans (congrArg some (by kernel_rfl))
  f231 := Tryz.func170.trans (congrArg some (by kernel_rfl))
  f232 := Tryz.func171.trans (congrArg some (by kernel_rfl))
  f233 := Tryz.func173.trans (congrArg some (by kernel_rfl))
  f234 := Tryz.func174.trans (congrArg some (by kernel_rfl))
  f235 := Tryz.func175.trans (congrArg some (by kernel_rfl))
  f236 := Tryz.func176.trans (congrArg some (by kernel_rfl))
  f260 := Tryz.func238.trans (congrArg some (by kernel_rfl))
  f266 := Tryz.func260.trans (congrArg some (by kernel_rfl))
  f271 := Tryz.func210.trans (congrArg some (by kernel_rfl))
  t0 := Tryz.underlying0
  a0 := Tryz.isAgg0
  z0 := Tryz.sizeOf0
  v0 := Tryz.zeroValue0
  t3 := Tryz.underlying3
  a3 := Tryz.isAgg3
  z3 := Tryz.sizeOf3
  v3 := Tryz.zeroValue3
  t4 := Tryz.underlying4
  a4 := Tryz.isAgg4
  z4 := Tryz.sizeOf4
  v4 := Tryz.zeroValue4
  t5 := Tryz.underlying5
  a5 := Tryz.isAgg5
  z5 := Tryz.sizeOf5
  v5 := Tryz.zeroValue5
  t9 := Tryz.underlying9
  a9 := Tryz.isAgg9
  z9 := Tryz.sizeOf9
  v9 := Tryz.zeroValue9
  t21 := Tryz.underlying21
  a21 := Tryz.isAgg21
  z21 := Tryz.sizeOf21
  v21 := Tryz.zeroValue21
  t46 := Tryz.underlying132
  a46 := Tryz.isAgg132
  z46 := Tryz.sizeOf132
  v46 := Tryz.zeroValue132
  t105 := Tryz.underlying232
  a105 := Tryz.isAgg232
  z105 := Tryz.sizeOf232
  v105 := Tryz.zeroValue232
  t116 := Tryz.underlying207
  a116 := Tryz.isAgg207
  z116 := Tryz.sizeOf207
  t117 := Tryz.underlying208
  a117 := Tryz.isAgg208
  z117 := Tryz.sizeOf208
  v117 := Tryz.zeroValue208
  t119 := Tryz.underlying273
  a119 := Tryz.isAgg273
  z119 := Tryz.sizeOf273
  t124 := Tryz.underlying211
  a124 := Tryz.isAgg211
  z124 := Tryz.sizeOf211
  v124 := Tryz.zeroValue211
  t138 := Tryz.underlying275
  a138 := Tryz.isAgg275
  z138 := Tryz.sizeOf275
  v138 := Tryz.zeroValue275
  t139 := Tryz.underlying276
  a139 := Tryz.isAgg276
  z139 := Tryz.sizeOf276
  v139 := Tryz.zeroValue276
  g3 := by kernel_rfl
  g4 := by kernel_rfl }
open Go.RowKit in
theorem Tryz.strings_Trim_one (s : ByteArray) (c : UInt8) (hc : c.toNat < 128) (w : World) (hs : s.size ≤ 9223372036854775807) :
    Calls Tryz.prog 139 #[.string s, .string ⟨#[c]⟩] w fun e w' => e = .returned (.string ⟨(Lib.trimB s.data.toList c).toArray⟩) ∧ (w' = w ∨ w' = w.drew) := Any.strings_Trim_one Tryz.lays160 s c hc w hs
end Go.Proofs
