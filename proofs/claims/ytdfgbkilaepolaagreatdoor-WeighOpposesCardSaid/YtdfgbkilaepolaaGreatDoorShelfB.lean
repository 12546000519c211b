/- Contracts of the functions of the Go library that this claim calls, laid at its translation by a program of the kit; each under the premises that it states. -/
import Derived.Shelf.Strings.Builder1
import Derived.Shelf.Small.Bits
import Derived.Shelf.Small.Strs
import Derived.Shelf.Strings.BuilderF
import Derived.Shelf.Strings.BuilderK
import Derived.Shelf.Strconv.Itoa0
import Derived.Shelf.Strconv.Itoa1
import Derived.Shelf.LaysM
import Derived.Shelf.Strconv.Itoa2
import Derived.Shelf.Strconv.Itoa3
import Derived.Shelf.Strconv.Itoa4
import Derived.Shelf.Strconv.ParseIntEmpty
import Derived.Shelf.Strconv.Clone
import Derived.Shelf.Strconv.SyntaxError
import Derived.Shelf.LaysC
import Derived.Shelf.Strconv.ToError
import Derived.Shelf.Strconv.Lower
import Derived.Shelf.Strconv.ParseUint10
import Derived.Shelf.Strconv.ParseUint10Empty
import Derived.Shelf.Strconv.ParseUint10Any
import Derived.Shelf.Strconv.ParseInt10
import Derived.Shelf.Strconv.RangeError
import Derived.Shelf.Strconv.ToErrorRange
import Derived.Shelf.Strconv.ParseUintEmpty
import Derived.Shelf.Strconv.ParseUint10b64
import Derived.Shelf.Strconv.ParseUint10b32
import Derived.Shelf.Strconv.ParseUint10b16
import Derived.Shelf.Strconv.ParseUint10b8
import Derived.Shelf.Strconv.ParseUint10At
import Derived.Shelf.Strconv.ParseInt10At64
import Derived.Shelf.Strconv.ParseInt10At32
import Derived.Shelf.Strconv.ParseInt10At16
import Derived.Shelf.Strconv.ParseInt10At8
import Derived.Shelf.Strconv.ParseInt10All
import Derived.Shelf.Strconv.ParseIntPublic10
import Derived.Shelf.Strconv.ErrVarParseInt
import Derived.Shelf.Strings.Search1
import Derived.Shelf.Strings.Search2
import Derived.Shelf.Strings.Search3
import Derived.Shelf.Strings.Shaped
import Derived.Shelf.Sort.Plain
import Derived.Shelf.Strings.Prefix
import Derived.Shelf.Strings.BuilderCap
import Derived.Shelf.Slices.Turned
import Derived.Ground.SlgfProg
import Derived.Shelf.SlicesE.IndexFunc
import Derived.Ground.SlgmProg
import Derived.Shelf.SortM.SortNone
import Derived.Test.YtdfgbkilaepolaaGreatDoorProg
namespace Go.Proofs
open Go.Shelf
def Tryz.lays170_ren : Go.Shelf.Ren := ⟨fun | 170 => 51 | n => n, fun | 70 => 87 | 3 => 3 | 0 => 0 | 72 => 90 | 37 => 88 | 5 => 5 | n => n, fun | n => n⟩
def Tryz.lays169_ren : Go.Shelf.Ren := ⟨fun | 169 => 52 | n => n, fun | 70 => 87 | 9 => 9 | 0 => 0 | 72 => 90 | 37 => 88 | 127 => 117 | 3 => 3 | 5 => 5 | n => n, fun | n => n⟩
def Tryz.lays128_ren : Go.Shelf.Ren := ⟨fun | 128 => 129 | n => n, fun | 51 => 155 | 3 => 3 | 4 => 4 | 46 => 106 | 5 => 5 | 9 => 9 | n => n, fun | n => n⟩
def Tryz.lays125_ren : Go.Shelf.Ren := ⟨fun | 125 => 102 | 128 => 129 | 129 => 130 | n => n, fun | 46 => 106 | 3 => 3 | 51 => 155 | 53 => 157 | 4 => 4 | 5 => 5 | 9 => 9 | n => n, fun | n => n⟩
def Tryz.lays137_ren : Go.Shelf.Ren := ⟨fun | 137 => 112 | 217 => 133 | 266 => 151 | n => n, fun | 9 => 9 | 5 => 5 | 3 => 3 | n => n, fun | n => n⟩
theorem Tryz.lays137 : Go.Proofs.Lays.n137 Tryz.prog Tryz.lays137_ren := {
  mixed := by kernel_rfl
  f137 := Tryz.func112.trans (congrArg some (by kernel_rfl))
  f217 := Tryz.func133.trans (congrArg some (by kernel_rfl))
  f266 := Tryz.func151.trans (congrArg some (by kernel_rfl))
  t3 := Tryz.underlying3
  a3 := Tryz.isAgg3
  z3 := Tryz.sizeOf3
  v3 := Tryz.zeroValue3
  t5 := Tryz.underlying5
  a5 := Tryz.isAgg5
  z5 := Tryz.sizeOf5
  v5 := Tryz.zeroValue5
  t9 := Tryz.underlying9
  a9 := Tryz.isAgg9
  z9 := Tryz.sizeOf9
  v9 := Tryz.zeroValue9 }
open Go.RowKit in
theorem Tryz.strings_IndexByte (s : ByteArray) (c : Int) (w : World) :
    Calls Tryz.prog 112 #[.string s, .int .u8 c] w fun e w' => e = .returned (.int .i64 (Lib.indexByte s.data.toList c.toNat.toUInt8)) ∧ w' = w := Any.strings_IndexByte Tryz.lays137 s c w
def Tryz.lays129_ren : Go.Shelf.Ren := ⟨fun | 129 => 130 | n => n, fun | 53 => 157 | 3 => 3 | 4 => 4 | 46 => 106 | 5 => 5 | 9 => 9 | n => n, fun | n => n⟩
def Tryz.lays317_ren : Go.Shelf.Ren := ⟨fun | 317 => 156 | n => n, fun | 3 => 3 | 46 => 106 | n => n, fun | n => n⟩
def Tryz.lays318_ren : Go.Shelf.Ren := ⟨fun | 318 => 157 | n => n, fun | 3 => 3 | 4 => 4 | n => n, fun | n => n⟩
def Tryz.lays283_ren : Go.Shelf.Ren := ⟨fun | 283 => 141 | n => n, fun | 3 => 3 | 9 => 9 | 4 => 4 | n => n, fun | n => n⟩
def Tryz.laysM284_ren : Go.Shelf.Ren := ⟨fun | 284 => 142 | 129 => 130 | 317 => 156 | 318 => 157 | n => n, fun | 53 => 157 | 3 => 3 | 212 => 176 | 0 => 0 | 4 => 4 | 46 => 106 | 5 => 5 | 9 => 9 | n => n, fun | 17 => 0 | n => n⟩
def Tryz.lays285_ren : Go.Shelf.Ren := ⟨fun | 285 => 143 | n => n, fun | 37 => 88 | 53 => 157 | 3 => 3 | 4 => 4 | 51 => 155 | 9 => 9 | 5 => 5 | 0 => 0 | n => n, fun | n => n⟩
def Tryz.laysM246_ren : Go.Shelf.Ren := ⟨fun | 246 => 118 | 283 => 141 | 284 => 142 | 285 => 143 | 286 => 144 | 129 => 130 | 317 => 156 | 318 => 157 | 319 => 158 | 320 => 159 | 337 => 165 | 338 => 166 | n => n, fun | 2 => 2 | 3 => 3 | 9 => 9 | 4 => 4 | 171 => 161 | 0 => 0 | 53 => 157 | 37 => 88 | 5 => 5 | 173 => 163 | 212 => 176 | 51 => 155 | 20 => 20 | 213 => 177 | 46 => 106 | 232 => 182 | 233 => 183 | n => n, fun | 17 => 0 | 18 => 2 | 19 => 3 | n => n⟩
def Tryz.lays246_ren : Go.Shelf.Ren := ⟨fun | 246 => 118 | 283 => 141 | 284 => 142 | 285 => 143 | 286 => 144 | 129 => 130 | 317 => 156 | 318 => 157 | 319 => 158 | 320 => 159 | 337 => 165 | 338 => 166 | n => n, fun | 2 => 2 | 3 => 3 | 9 => 9 | 4 => 4 | 171 => 161 | 0 => 0 | 53 => 157 | 37 => 88 | 5 => 5 | 173 => 163 | 212 => 176 | 51 => 155 | 20 => 20 | 213 => 177 | 46 => 106 | 232 => 182 | 233 => 183 | n => n, fun | 17 => 0 | 18 => 2 | 19 => 3 | n => n⟩
def Tryz.laysM243_ren : Go.Shelf.Ren := ⟨fun | 243 => 187 | 246 => 118 | 283 => 141 | 284 => 142 | 285 => 143 | 286 => 144 | 129 => 130 | 317 => 156 | 318 => 157 | 319 => 158 | 320 => 159 | 337 => 165 | 338 => 166 | n => n, fun | 3 => 3 | 9 => 9 | 2 => 2 | 4 => 4 | 171 => 161 | 0 => 0 | 53 => 157 | 37 => 88 | 5 => 5 | 173 => 163 | 212 => 176 | 51 => 155 | 20 => 20 | 213 => 177 | 46 => 106 | 232 => 182 | 233 => 183 | n => n, fun | 17 => 0 | 18 => 2 | 19 => 3 | n => n⟩
def Tryz.lays243_ren : Go.Shelf.Ren := ⟨fun | 243 => 187 | 246 => 118 | 283 => 141 | 284 => 142 | 285 => 143 | 286 => 144 | 129 => 130 | 317 => 156 | 318 => 157 | 319 => 158 | 320 => 159 | 337 => 165 | 338 => 166 | n => n, fun | 3 => 3 | 9 => 9 | 2 => 2 | 4 => 4 | 171 => 161 | 0 => 0 | 53 => 157 | 37 => 88 | 5 => 5 | 173 => 163 | 212 => 176 | 51 => 155 | 20 => 20 | 213 => 177 | 46 => 106 | 232 => 182 | 233 => 183 | n => n, fun | 17 => 0 | 18 => 2 | 19 => 3 | n => n⟩
def Tryz.laysM171_ren : Go.Shelf.Ren := ⟨fun | 171 => 186 | 243 => 187 | 246 => 118 | 283 => 141 | 284 => 142 | 285 => 143 | 286 => 144 | 129 => 130 | 317 => 156 | 318 => 157 | 319 => 158 | 320 => 159 | 337 => 165 | 338 => 166 | n => n, fun | 3 => 3 | 9 => 9 | 2 => 2 | 4 => 4 | 171 => 161 | 0 => 0 | 53 => 157 | 37 => 88 | 5 => 5 | 173 => 163 | 212 => 176 | 51 => 155 | 20 => 20 | 213 => 177 | 46 => 106 | 232 => 182 | 233 => 183 | n => n, fun | 17 => 0 | 18 => 2 | 19 => 3 | n => n⟩
def Tryz.lays171_ren : Go.Shelf.Ren := ⟨fun | 171 => 186 | 243 => 187 | 246 => 118 | 283 => 141 | 284 => 142 | 285 => 143 | 286 => 144 | 129 => 130 | 317 => 156 | 318 => 157 | 319 => 158 | 320 => 159 | 337 => 165 | 338 => 166 | n => n, fun | 3 => 3 | 9 => 9 | 2 => 2 | 4 => 4 | 171 => 161 | 0 => 0 | 53 => 157 | 37 => 88 | 5 => 5 | 173 => 163 | 212 => 176 | 51 => 155 | 20 => 20 | 213 => 177 | 46 => 106 | 232 => 182 | 233 => 183 | n => n, fun | 17 => 0 | 18 => 2 | 19 => 3 | n => n⟩
def Tryz.laysM173_ren : Go.Shelf.Ren := ⟨fun | 173 => 97 | 246 => 118 | 283 => 141 | 284 => 142 | 285 => 143 | 286 => 144 | 129 => 130 | 317 => 156 | 318 => 157 | 319 => 158 | 320 => 159 | 337 => 165 | 338 => 166 | n => n, fun | 2 => 2 | 3 => 3 | 9 => 9 | 4 => 4 | 171 => 161 | 0 => 0 | 53 => 157 | 37 => 88 | 5 => 5 | 173 => 163 | 212 => 176 | 51 => 155 | 20 => 20 | 213 => 177 | 46 => 106 | 232 => 182 | 233 => 183 | n => n, fun | 17 => 0 | 18 => 2 | 19 => 3 | n => n⟩
theorem Tryz.laysM173 : Go.Proofs.LaysM.n173 Tryz.prog Tryz.laysM173_ren := {
  mixed := by kernel_rfl
  f129 := Tryz.func130.trans (congrArg some (by kernel_rfl))
  f173 := Tryz.func97.trans (congrArg some (by kernel_rfl))
  f246 := Tryz.func118.trans (congrArg some (by kernel_rfl))
  f283 := Tryz.func141.trans (congrArg some (by kernel_rfl))
  f284 := Tryz.func142.trans (congrArg some (by kernel_rfl))
  f285 := Tryz.func143.trans (congrArg some (by kernel_rfl))
  f286 := Tryz.func144.trans (congrArg some (by kernel_rfl))
  f317 := Tryz.func156.trans (congrArg some (by kernel_rfl))
  f318 := Tryz.func157.trans (congrArg some (by kernel_rfl))
  f319 := Tryz.func158.trans (congrArg some (by kernel_rfl))
  f320 := Tryz.func159.trans (congrArg some (by kernel_rfl))
  f337 := Tryz.func165.trans (congrArg some (by kernel_rfl))
  f338 := Tryz.func166.trans (congrArg some (by kernel_rfl))
  t0 := Tryz.underlying0
  a0 := Tryz.isAgg0
  z0 := Tryz.sizeOf0
  v0 := Tryz.zeroValue0
  t2 := Tryz.underlying2
  a2 := Tryz.isAgg2
  z2 := Tryz.sizeOf2
  v2 := Tryz.zeroValue2
  t3 := Tryz.underlying3
  a3 := Tryz.isAgg3
  z3 := Tryz.sizeOf3
  v3 := Tryz.zeroValue3
  t4 := Tryz.underlying4
  a4 := Tryz.isAgg4
  z4 := Tryz.sizeOf4
  v4 := Tryz.zeroValue4
  t5 := Tryz.underlying5
  a5 := Tryz.isAgg5
  z5 := Tryz.sizeOf5
  v5 := Tryz.zeroValue5
  t9 := Tryz.underlying9
  a9 := Tryz.isAgg9
  z9 := Tryz.sizeOf9
  v9 := Tryz.zeroValue9
  t20 := Tryz.underlying20
  a20 := Tryz.isAgg20
  z20 := Tryz.sizeOf20
  v20 := Tryz.zeroValue20
  t37 := Tryz.underlying88
  a37 := Tryz.isAgg88
  z37 := Tryz.sizeOf88
  v37 := Tryz.zeroValue88
  t46 := Tryz.underlying106
  a46 := Tryz.isAgg106
  z46 := Tryz.sizeOf106
  v46 := Tryz.zeroValue106
  t51 := Tryz.underlying155
  a51 := Tryz.isAgg155
  z51 := Tryz.sizeOf155
  v51 := Tryz.zeroValue155
  t53 := Tryz.underlying157
  a53 := Tryz.isAgg157
  z53 := Tryz.sizeOf157
  v53 := Tryz.zeroValue157
  t171 := Tryz.underlying161
  a171 := Tryz.isAgg161
  z171 := Tryz.sizeOf161
  v171 := Tryz.zeroValue161
  t173 := Tryz.underlying163
  a173 := Tryz.isAgg163
  z173 := Tryz.sizeOf163
  v173 := Tryz.zeroValue163
  t212 := Tryz.underlying176
  a212 := Tryz.isAgg176
  z212 := Tryz.sizeOf176
  v212 := Tryz.zeroValue176
  t213 := Tryz.underlying177
  a213 := Tryz.isAgg177
  z213 := Tryz.sizeOf177
  t232 := Tryz.underlying182
  a232 := Tryz.isAgg182
  z232 := Tryz.sizeOf182
  v232 := Tryz.zeroValue182
  t233 := Tryz.underlying183
  a233 := Tryz.isAgg183
  z233 := Tryz.sizeOf183
  v233 := Tryz.zeroValue183
  g17 := by kernel_rfl
  g18 := by kernel_rfl
  g19 := by kernel_rfl
  i0 := by kernel_rfl
  i2 := by kernel_rfl
  i3 := by kernel_rfl
  i4 := by kernel_rfl
  i5 := by kernel_rfl
  i9 := by kernel_rfl
  i20 := by kernel_rfl
  i37 := by kernel_rfl
  i46 := by kernel_rfl
  i51 := by kernel_rfl
  i53 := by kernel_rfl
  i171 := by kernel_rfl
  i173 := by kernel_rfl
  i212 := by kernel_rfl
  i232 := by kernel_rfl
  i233 := by kernel_rfl
  m17 := by kernel_rfl
  m18 := by kernel_rfl
  m19 := by kernel_rfl }
open Go.RowKit Go.Sort Go.Lib in
theorem Tryz.strconv_FormatInt_10 (n : Int) (h0 : -9223372036854775808 ≤ n) (h1 : n ≤ 9223372036854775807) (w : World) (htab : Lib.TabIs Tryz.prog w "internal/strconv.uint64pow10" .u64 Lib.pow10Tab) :
    Calls Tryz.prog 97 #[.int .i64 n, .int .i64 10] w fun e w' => e = .returned (.string ⟨(Lib.itoa n).toArray⟩) ∧ ∃ k os, w' = grow (w.drewN k) os := Any.strconv_FormatInt_10 Tryz.laysM173 n h0 h1 w htab
def Tryz.lays173_ren : Go.Shelf.Ren := ⟨fun | 173 => 97 | 246 => 118 | 283 => 141 | 284 => 142 | 285 => 143 | 286 => 144 | 129 => 130 | 317 => 156 | 318 => 157 | 319 => 158 | 320 => 159 | 337 => 165 | 338 => 166 | n => n, fun | 2 => 2 | 3 => 3 | 9 => 9 | 4 => 4 | 171 => 161 | 0 => 0 | 53 => 157 | 37 => 88 | 5 => 5 | 173 => 163 | 212 => 176 | 51 => 155 | 20 => 20 | 213 => 177 | 46 => 106 | 232 => 182 | 233 => 183 | n => n, fun | 17 => 0 | 18 => 2 | 19 => 3 | n => n⟩
def Tryz.lays247_ren : Go.Shelf.Ren := ⟨fun | 247 => 175 | 287 => 177 | 321 => 182 | 322 => 183 | n => n, fun | 9 => 9 | 3 => 3 | 2 => 2 | 75 => 115 | 4 => 4 | 167 => 190 | 5 => 5 | 53 => 157 | 175 => 191 | 46 => 106 | 37 => 88 | 0 => 0 | 21 => 21 | 80 => 95 | n => n, fun | n => n⟩
def Tryz.laysM316_ren : Go.Shelf.Ren := ⟨fun | 316 => 184 | n => n, fun | 9 => 9 | 3 => 3 | 4 => 4 | 37 => 88 | 0 => 0 | 127 => 117 | 5 => 5 | n => n, fun | n => n⟩
def Tryz.laysM279_ren : Go.Shelf.Ren := ⟨fun | 279 => 178 | 316 => 184 | n => n, fun | 9 => 9 | 168 => 193 | 75 => 115 | 210 => 199 | 3 => 3 | 4 => 4 | 37 => 88 | 0 => 0 | 127 => 117 | 80 => 95 | 5 => 5 | n => n, fun | 15 => 4 | n => n⟩
def Tryz.laysC245_ren : Go.Shelf.Ren := ⟨fun | 245 => 176 | 279 => 178 | 280 => 179 | 281 => 180 | 282 => 181 | 316 => 184 | 171 => 186 | 205 => 185 | 243 => 187 | 246 => 118 | 283 => 141 | 284 => 142 | 285 => 143 | 286 => 144 | 129 => 130 | 317 => 156 | 318 => 157 | 319 => 158 | 320 => 159 | 337 => 165 | 338 => 166 | n => n, fun | 9 => 9 | 3 => 3 | 75 => 115 | 167 => 190 | 4 => 4 | 168 => 193 | 210 => 199 | 37 => 88 | 0 => 0 | 127 => 117 | 145 => 203 | 143 => 201 | 2 => 2 | 171 => 161 | 53 => 157 | 5 => 5 | 173 => 163 | 212 => 176 | 51 => 155 | 20 => 20 | 213 => 177 | 46 => 106 | 232 => 182 | 233 => 183 | 80 => 95 | n => n, fun | 15 => 4 | 16 => 5 | 17 => 0 | 18 => 2 | 19 => 3 | n => n⟩
def Tryz.lays321_ren : Go.Shelf.Ren := ⟨fun | 321 => 182 | n => n, fun | 5 => 5 | n => n, fun | n => n⟩
def Tryz.lays287_ren : Go.Shelf.Ren := ⟨fun | 287 => 177 | 321 => 182 | 322 => 183 | n => n, fun | 9 => 9 | 3 => 3 | 53 => 157 | 75 => 115 | 4 => 4 | 167 => 190 | 5 => 5 | 46 => 106 | 37 => 88 | 0 => 0 | 21 => 21 | 80 => 95 | n => n, fun | n => n⟩
def Tryz.laysC247_ren : Go.Shelf.Ren := ⟨fun | 247 => 175 | 287 => 177 | 321 => 182 | 322 => 183 | n => n, fun | 9 => 9 | 3 => 3 | 2 => 2 | 75 => 115 | 4 => 4 | 167 => 190 | 5 => 5 | 53 => 157 | 175 => 191 | 46 => 106 | 37 => 88 | 0 => 0 | 21 => 21 | 80 => 95 | n => n, fun | n => n⟩
def Tryz.laysM280_ren : Go.Shelf.Ren := ⟨fun | 280 => 179 | 316 => 184 | n => n, fun | 9 => 9 | 168 => 193 | 75 => 115 | 210 => 199 | 3 => 3 | 4 => 4 | 37 => 88 | 0 => 0 | 127 => 117 | 80 => 95 | 5 => 5 | n => n, fun | 16 => 5 | n => n⟩
def Tryz.laysC174_ren : Go.Shelf.Ren := ⟨fun | 174 => 174 | 247 => 175 | 245 => 176 | 287 => 177 | 279 => 178 | 280 => 179 | 281 => 180 | 282 => 181 | 321 => 182 | 322 => 183 | 316 => 184 | 171 => 186 | 205 => 185 | 243 => 187 | 246 => 118 | 283 => 141 | 284 => 142 | 285 => 143 | 286 => 144 | 129 => 130 | 317 => 156 | 318 => 157 | 319 => 158 | 320 => 159 | 337 => 165 | 338 => 166 | n => n, fun | 9 => 9 | 3 => 3 | 2 => 2 | 75 => 115 | 85 => 187 | 4 => 4 | 167 => 190 | 5 => 5 | 53 => 157 | 175 => 191 | 46 => 106 | 168 => 193 | 37 => 88 | 0 => 0 | 210 => 199 | 21 => 21 | 127 => 117 | 145 => 203 | 143 => 201 | 171 => 161 | 173 => 163 | 212 => 176 | 51 => 155 | 20 => 20 | 213 => 177 | 232 => 182 | 233 => 183 | 80 => 95 | n => n, fun | 15 => 4 | 16 => 5 | 17 => 0 | 18 => 2 | 19 => 3 | n => n⟩
theorem Tryz.laysC174 : Go.Proofs.LaysC.n174 Tryz.prog Tryz.laysC174_ren := {
  mixed := by kernel_rfl
  f129 := Tryz.func130.trans (congrArg some (by kernel_rfl))
  f171 := Tryz.func186.trans (congrArg some (by kernel_rfl))
  f174 := Tryz.func174.trans (congrArg some (by kernel_rfl))
  f205 := Tryz.func185.trans (congrArg some (by kernel_rfl))
  f243 := Tryz.func187.trans (congrArg some (by kernel_rfl))
  f245 := Tryz.func176.trans (congrArg some (by kernel_rfl))
  f246 := Tryz.func118.trans (congrArg some (by kernel_rfl))
  f247 := Tryz.func175.trans (congrArg some (by kernel_rfl))
  f279 := Tryz.func178.trans (congrArg some (by kernel_rfl))
  f280 := Tryz.func179.trans (congrArg some (by kernel_rfl))
  f281 := Tryz.func180.trans (congrArg some (by kernel_rfl))
  f282 := Tryz.func181.trans (congrArg some (by kernel_rfl))
  f283 := Tryz.func141.trans (congrArg some (by kernel_rfl))
  f284 := Tryz.func142.trans (congrArg some (by kernel_rfl))
  f285 := Tryz.func143.trans (congrArg some (by kernel_rfl))
  f286 := Tryz.func144.trans (congrArg some (by kernel_rfl))
  f287 := Tryz.func177.trans (congrArg some (by kernel_rfl))
  f316 := Tryz.func184.trans (congrArg some (by kernel_rfl))
  f317 := Tryz.func156.trans (congrArg some (by kernel_rfl))
  f318 := Tryz.func157.trans (congrArg some (by kernel_rfl))
  f319 := Tryz.func158.trans (congrArg some (by kernel_rfl))
  f320 := Tryz.func159.trans (congrArg some (by kernel_rfl))
  f321 := Tryz.func182.trans (congrArg some (by kernel_rfl))
  f322 := Tryz.func183.trans (congrArg some (by kernel_rfl))
  f337 := Tryz.func165.trans (congrArg some (by kernel_rfl))
  f338 := Tryz.func166.trans (congrArg some (by kernel_rfl))
  t0 := Tryz.underlying0
  a0 := Tryz.isAgg0
  z0 := Tryz.sizeOf0
  v0 := Tryz.zeroValue0
  t2 := Tryz.underlying2
  a2 := Tryz.isAgg2
  z2 := Tryz.sizeOf2
  v2 := Tryz.zeroValue2
  t3 := Tryz.underlying3
  a3 := Tryz.isAgg3
  z3 := Tryz.sizeOf3
  v3 := Tryz.zeroValue3
  t4 := Tryz.underlying4
  a4 := Tryz.isAgg4
  z4 := Tryz.sizeOf4
  v4 := Tryz.zeroValue4
  t5 := Tryz.underlying5
  a5 := Tryz.isAgg5
  z5 := Tryz.sizeOf5
  v5 := Tryz.zeroValue5
  t9 := Tryz.underlying9
  a9 := Tryz.isAgg9
  z9 := Tryz.sizeOf9
  v9 := Tryz.zeroValue9
  t20 := Tryz.underlying20
  a20 := Tryz.isAgg20
  z20 := Tryz.sizeOf20
  v20 := Tryz.zeroValue20
  t21 := Tryz.underlying21
  a21 := Tryz.isAgg21
  z21 := Tryz.sizeOf21
  v21 := Tryz.zeroValue21
  t37 := Tryz.underlying88
  a37 := Tryz.isAgg88
  z37 := Tryz.sizeOf88
  v37 := Tryz.zeroValue88
  t46 := Tryz.underlying106
  a46 := Tryz.isAgg106
  z46 := Tryz.sizeOf106
  v46 := Tryz.zeroValue106
  t51 := Tryz.underlying155
  a51 := Tryz.isAgg155
  z51 := Tryz.sizeOf155
  v51 := Tryz.zeroValue155
  t53 := Tryz.underlying157
  a53 := Tryz.isAgg157
  z53 := Tryz.sizeOf157
  v53 := Tryz.zeroValue157
  t75 := Tryz.underlying115
  a75 := Tryz.isAgg115
  z75 := Tryz.sizeOf115
  v75 := Tryz.zeroValue115
  t85 := Tryz.underlying187
  a85 := Tryz.isAgg187
  z85 := Tryz.sizeOf187
  v85 := Tryz.zeroValue187
  t127 := Tryz.underlying117
  a127 := Tryz.isAgg117
  z127 := Tryz.sizeOf117
  v127 := Tryz.zeroValue117
  t143 := Tryz.underlying201
  a143 := Tryz.isAgg201
  z143 := Tryz.sizeOf201
  v143 := Tryz.zeroValue201
  t145 := Tryz.underlying203
  a145 := Tryz.isAgg203
  z145 := Tryz.sizeOf203
  v145 := Tryz.zeroValue203
  t167 := Tryz.underlying190
  a167 := Tryz.isAgg190
  z167 := Tryz.sizeOf190
  v167 := Tryz.zeroValue190
  t168 := Tryz.underlying193
  a168 := Tryz.isAgg193
  z168 := Tryz.sizeOf193
  v168 := Tryz.zeroValue193
  t171 := Tryz.underlying161
  a171 := Tryz.isAgg161
  z171 := Tryz.sizeOf161
  v171 := Tryz.zeroValue161
  t173 := Tryz.underlying163
  a173 := Tryz.isAgg163
  z173 := Tryz.sizeOf163
  v173 := Tryz.zeroValue163
  t175 := Tryz.underlying191
  a175 := Tryz.isAgg191
  z175 := Tryz.sizeOf191
  v175 := Tryz.zeroValue191
  t210 := Tryz.underlying199
  a210 := Tryz.isAgg199
  z210 := Tryz.sizeOf199
  v210 := Tryz.zeroValue199
  t212 := Tryz.underlying176
  a212 := Tryz.isAgg176
  z212 := Tryz.sizeOf176
  v212 := Tryz.zeroValue176
  t213 := Tryz.underlying177
  a213 := Tryz.isAgg177
  z213 := Tryz.sizeOf177
  t232 := Tryz.underlying182
  a232 := Tryz.isAgg182
  z232 := Tryz.sizeOf182
  v232 := Tryz.zeroValue182
  t233 := Tryz.underlying183
  a233 := Tryz.isAgg183
  z233 := Tryz.sizeOf183
  v233 := Tryz.zeroValue183
  g15 := by kernel_rfl
  g16 := by kernel_rfl
  g17 := by kernel_rfl
  g18 := by kernel_rfl
  g19 := by kernel_rfl
  t80 := Tryz.underlying95
  a80 := Tryz.isAgg95
  z80 := Tryz.sizeOf95
  v80 := Tryz.zeroValue95
  i0 := by kernel_rfl
  i2 := by kernel_rfl
  i3 := by kernel_rfl
  i4 := by kernel_rfl
  i5 := by kernel_rfl
  i9 := by kernel_rfl
  i20 := by kernel_rfl
  i21 := by kernel_rfl
  i37 := by kernel_rfl
  i46 := by kernel_rfl
  i51 := by kernel_rfl
  i53 := by kernel_rfl
  i75 := by kernel_rfl
  i80 := by kernel_rfl
  i85 := by kernel_rfl
  i127 := by kernel_rfl
  i143 := by kernel_rfl
  i145 := by kernel_rfl
  i167 := by kernel_rfl
  i168 := by kernel_rfl
  i171 := by kernel_rfl
  i173 := by kernel_rfl
  i175 := by kernel_rfl
  i210 := by kernel_rfl
  i212 := by kernel_rfl
  i232 := by kernel_rfl
  i233 := by kernel_rfl
  m15 := by kernel_rfl
  m16 := by kernel_rfl
  m17 := by kernel_rfl
  m18 := by kernel_rfl
  m19 := by kernel_rfl
  c0 := by kernel_rfl
  c2 := by kernel_rfl
  c3 := by kernel_rfl
  c4 := by kernel_rfl
  c5 := by kernel_rfl
  c9 := by kernel_rfl
  c20 := by kernel_rfl
  c21 := by kernel_rfl
  c37 := by kernel_rfl
  c46 := by kernel_rfl
  c51 := by kernel_rfl
  c53 := by kernel_rfl
  c75 := by kernel_rfl
  c80 := by kernel_rfl
  c85 := by kernel_rfl
  c127 := by kernel_rfl
  c143 := by kernel_rfl
  c145 := by kernel_rfl
  c167 := by kernel_rfl
  c168 := by kernel_rfl
  c171 := by kernel_rfl
  c173 := by kernel_rfl
  c175 := by kernel_rfl
  c210 := by kernel_rfl
  c212 := by kernel_rfl
  c213 := by kernel_rfl
  c232 := by kernel_rfl
  c233 := by kernel_rfl }
open Go.RowKit in
theorem Tryz.strconv_ParseInt_10_at64_ok (s : ByteArray) (hmax : s.size ≤ 9223372036854775806) (v : Int) (h : Lib.parseIntB 64 s.data.toList = .ok v) (w : World) :
    Calls Tryz.prog 174 #[.string s, .int .i64 10, .int .i64 64] w fun e w' => e = .returned (.tuple #[.int .i64 v, .nilIface]) ∧ (w' = w ∨ ∃ t, w' = Lib.bytesWorld w 5 t) := Any.strconv_ParseInt_10_at64_ok Tryz.laysC174 s hmax v h w
open Go.RowKit in
theorem Tryz.strconv_ParseInt_10_at64_range (s : ByteArray) (hlim : s.size ≤ 281474976710656) (h : Lib.parseIntB 64 s.data.toList = .range) (ev : Value) (w : World) (hv : w.cell? ⟨5, 0, none⟩ = some ev) (hev : ev = .nilIface ∨ ∃ te pe, ev = .iface te pe) :
    Calls Tryz.prog 174 #[.string s, .int .i64 10, .int .i64 64] w fun e w' => ∃ N, e = .returned (.tuple #[.int .i64 (Lib.intSat 64 s.data.toList), .iface 193 (.pointer (some ⟨N, 0, none⟩))]) ∧ w.heap.size ≤ N ∧ w'.heap[N]? = some (.cells #[.string ⟨#[80, 97, 114, 115, 101, 73, 110, 116]⟩, .string s, ev] 199 (0, 0)) ∧ Below w.heap.size w w' := Any.strconv_ParseInt_10_at64_range Tryz.laysC174 s hlim h ev w hv hev
def Tryz.lays217_ren : Go.Shelf.Ren := ⟨fun | 217 => 133 | 266 => 151 | n => n, fun | 9 => 9 | 5 => 5 | 3 => 3 | n => n, fun | n => n⟩
def Tryz.lays224_ren : Go.Shelf.Ren := ⟨fun | 224 => 169 | n => n, fun | 3 => 3 | n => n, fun | n => n⟩
def Tryz.lays314_ren : Go.Shelf.Ren := ⟨fun | 314 => 172 | n => n, fun | 9 => 9 | 51 => 155 | 3 => 3 | 4 => 4 | 5 => 5 | 46 => 106 | n => n, fun | n => n⟩
def Tryz.lays267_ren : Go.Shelf.Ren := ⟨fun | 267 => 170 | 314 => 172 | n => n, fun | 9 => 9 | 3 => 3 | 146 => 184 | 51 => 155 | 4 => 4 | 5 => 5 | 46 => 106 | n => n, fun | n => n⟩
def Tryz.lays219_ren : Go.Shelf.Ren := ⟨fun | 219 => 164 | 217 => 133 | 225 => 168 | 224 => 169 | 267 => 170 | 266 => 151 | 314 => 172 | n => n, fun | 9 => 9 | 3 => 3 | 4 => 4 | 5 => 5 | 46 => 106 | 146 => 184 | 51 => 155 | n => n, fun | 1 => 1 | n => n⟩
def Tryz.lays143_ren : Go.Shelf.Ren := ⟨fun | 143 => 154 | 219 => 164 | 217 => 133 | 225 => 168 | 224 => 169 | 267 => 170 | 266 => 151 | 314 => 172 | n => n, fun | 9 => 9 | 3 => 3 | 4 => 4 | 5 => 5 | 46 => 106 | 146 => 184 | 51 => 155 | n => n, fun | 1 => 1 | n => n⟩
def Tryz.lays144_ren : Go.Shelf.Ren := ⟨fun | 144 => 138 | 143 => 154 | 219 => 164 | 217 => 133 | 225 => 168 | 224 => 169 | 267 => 170 | 266 => 151 | 314 => 172 | n => n, fun | 9 => 9 | 4 => 4 | 3 => 3 | 5 => 5 | 46 => 106 | 146 => 184 | 51 => 155 | n => n, fun | 1 => 1 | n => n⟩
theorem Tryz.lays144 : Go.Proofs.Lays.n144 Tryz.prog Tryz.lays144_ren := {
  mixed := by kernel_rfl
  f143 := Tryz.func154.trans (congrArg some (by kernel_rfl))
  f144 := Tryz.func138.trans (congrArg some (by kernel_rfl))
  f217 := Tryz.func133.trans (congrArg some (by kernel_rfl))
  f219 := Tryz.func164.trans (congrArg some (by kernel_rfl))
  f224 := Tryz.func169.trans (congrArg some (by kernel_rfl))
  f225 := Tryz.func168.trans (congrArg some (by kernel_rfl))
  f266 := Tryz.func151.trans (congrArg some (by kernel_rfl))
  f267 := Tryz.func170.trans (congrArg some (by kernel_rfl))
  f314 := Tryz.func172.trans (congrArg some (by kernel_rfl))
  t3 := Tryz.underlying3
  a3 := Tryz.isAgg3
  z3 := Tryz.sizeOf3
  v3 := Tryz.zeroValue3
  t4 := Tryz.underlying4
  a4 := Tryz.isAgg4
  z4 := Tryz.sizeOf4
  v4 := Tryz.zeroValue4
  t5 := Tryz.underlying5
  a5 := Tryz.isAgg5
  z5 := Tryz.sizeOf5
  v5 := Tryz.zeroValue5
  t9 := Tryz.underlying9
  a9 := Tryz.isAgg9
  z9 := Tryz.sizeOf9
  v9 := Tryz.zeroValue9
  t46 := Tryz.underlying106
  a46 := Tryz.isAgg106
  z46 := Tryz.sizeOf106
  v46 := Tryz.zeroValue106
  t51 := Tryz.underlying155
  a51 := Tryz.isAgg155
  z51 := Tryz.sizeOf155
  v51 := Tryz.zeroValue155
  t146 := Tryz.underlying184
  a146 := Tryz.isAgg184
  z146 := Tryz.sizeOf184
  v146 := Tryz.zeroValue184
  g1 := by kernel_rfl }
open Go.RowKit Go.Lib in
theorem Tryz.strings_Contains_one (s : ByteArray) (c : UInt8) (w : World) :
    Calls Tryz.prog 138 #[.string s, .string ⟨#[c]⟩] w fun e w' => e = .returned (.bool (decide (0 ≤ Lib.indexByte s.data.toList c))) ∧ w' = w := Any.strings_Contains_one Tryz.lays144 s c w
def Tryz.laysM219_ren : Go.Shelf.Ren := ⟨fun | 219 => 164 | 217 => 133 | 225 => 168 | 224 => 169 | 267 => 170 | 266 => 151 | 314 => 172 | n => n, fun | 9 => 9 | 3 => 3 | 4 => 4 | 5 => 5 | 46 => 106 | 146 => 184 | 51 => 155 | n => n, fun | 1 => 1 | n => n⟩
def Tryz.laysM143_ren : Go.Shelf.Ren := ⟨fun | 143 => 154 | 219 => 164 | 217 => 133 | 225 => 168 | 224 => 169 | 267 => 170 | 266 => 151 | 314 => 172 | n => n, fun | 9 => 9 | 3 => 3 | 4 => 4 | 5 => 5 | 46 => 106 | 146 => 184 | 51 => 155 | n => n, fun | 1 => 1 | n => n⟩
def Tryz.laysM144_ren : Go.Shelf.Ren := ⟨fun | 144 => 138 | 143 => 154 | 219 => 164 | 217 => 133 | 225 => 168 | 224 => 169 | 267 => 170 | 266 => 151 | 314 => 172 | n => n, fun | 9 => 9 | 4 => 4 | 3 => 3 | 5 => 5 | 46 => 106 | 146 => 184 | 51 => 155 | n => n, fun | 1 => 1 | n => n⟩
def Tryz.lays190_ren : Go.Shelf.Ren := ⟨fun | 190 => 77 | 125 => 102 | 258 => 101 | 128 => 129 | 129 => 130 | 302 => 120 | 303 => 121 | 304 => 122 | 305 => 123 | 306 => 124 | 307 => 125 | 308 => 126 | 309 => 127 | 310 => 128 | 333 => 145 | 329 => 146 | 330 => 147 | 334 => 148 | 335 => 149 | 336 => 82 | 344 => 160 | n => n, fun | 31 => 25 | 9 => 9 | 3 => 3 | 46 => 106 | 0 => 0 | 51 => 155 | 53 => 157 | 4 => 4 | 183 => 149 | 182 => 148 | 131 => 74 | 5 => 5 | 218 => 165 | 222 => 169 | 228 => 178 | 229 => 179 | n => n, fun | n => n⟩
def Tryz.lays206_ren : Go.Shelf.Ren := ⟨fun | 206 => 132 | n => n, fun | 9 => 9 | 4 => 4 | 3 => 3 | n => n, fun | n => n⟩
def Tryz.lays99_ren : Go.Shelf.Ren := ⟨fun | 99 => 111 | 206 => 132 | n => n, fun | 9 => 9 | 4 => 4 | 3 => 3 | n => n, fun | n => n⟩
theorem Tryz.lays99 : Go.Proofs.Lays.n99 Tryz.prog Tryz.lays99_ren := {
  mixed := by kernel_rfl
  f99 := Tryz.func111.trans (congrArg some (by kernel_rfl))
  f206 := Tryz.func132.trans (congrArg some (by kernel_rfl))
  t3 := Tryz.underlying3
  a3 := Tryz.isAgg3
  z3 := Tryz.sizeOf3
  v3 := Tryz.zeroValue3
  t4 := Tryz.underlying4
  a4 := Tryz.isAgg4
  z4 := Tryz.sizeOf4
  v4 := Tryz.zeroValue4
  t9 := Tryz.underlying9
  a9 := Tryz.isAgg9
  z9 := Tryz.sizeOf9
  v9 := Tryz.zeroValue9 }
open Go.RowKit Go.Lib in
theorem Tryz.strings_HasPrefix (s p : ByteArray) (w : World) :
    Calls Tryz.prog 111 #[.string s, .string p] w fun e w' => e = .returned (.bool (Lib.hasPrefix s.data.toList p.data.toList)) ∧ w' = w := Any.strings_HasPrefix Tryz.lays99 s p w
def Tryz.lays109_ren : Go.Shelf.Ren := ⟨fun | 109 => 155 | n => n, fun | 31 => 25 | 9 => 9 | 3 => 3 | 0 => 0 | 4 => 4 | n => n, fun | n => n⟩
def Tryz.lays110_ren : Go.Shelf.Ren := ⟨fun | 110 => 139 | 109 => 155 | n => n, fun | 31 => 25 | 9 => 9 | 4 => 4 | 3 => 3 | 0 => 0 | n => n, fun | n => n⟩
theorem Tryz.lays110 : Go.Proofs.Lays.n110 Tryz.prog Tryz.lays110_ren := {
  mixed := by kernel_rfl
  f109 := Tryz.func155.trans (congrArg some (by kernel_rfl))
  f110 := Tryz.func139.trans (congrArg some (by kernel_rfl))
  t0 := Tryz.underlying0
  a0 := Tryz.isAgg0
  z0 := Tryz.sizeOf0
  v0 := Tryz.zeroValue0
  t3 := Tryz.underlying3
  a3 := Tryz.isAgg3
  z3 := Tryz.sizeOf3
  v3 := Tryz.zeroValue3
  t4 := Tryz.underlying4
  a4 := Tryz.isAgg4
  z4 := Tryz.sizeOf4
  v4 := Tryz.zeroValue4
  t9 := Tryz.underlying9
  a9 := Tryz.isAgg9
  z9 := Tryz.sizeOf9
  v9 := Tryz.zeroValue9
  t31 := Tryz.underlying25
  a31 := Tryz.isAgg25
  z31 := Tryz.sizeOf25
  v31 := Tryz.zeroValue25 }
open Go.Lib in
theorem Tryz.slices_Contains_string (b off n c : Nat) (zs : List ByteArray) (x : ByteArray) (w : World) (hz : n ≤ zs.length) (hbig : n ≤ 9223372036854775807) (hc : ∀ j, j < zs.length → w.cell? ⟨b, off + j, none⟩ = some (.string (zs.getD j ByteArray.empty))) :
    Calls Tryz.prog 139 #[.slice (some ⟨b, off, none⟩) n c, .string x] w fun e w' => e = .returned (.bool (Lib.containsS (zs.take n) x)) ∧ w' = w := Any.slices_Contains_string Tryz.lays110 b off n c zs x w hz hbig hc
def Tryz.laysSlH6_f53_ren : Go.Shelf.Ren := ⟨fun | 6 => 53 | n => n, fun | 22 => 25 | 23 => 9 | 25 => 65 | 3 => 3 | 0 => 0 | 4 => 4 | n => n, fun | n => n⟩
def Tryz.laysSlH8_f28_ren : Go.Shelf.Ren := ⟨fun | 8 => 28 | 6 => 53 | n => n, fun | 22 => 25 | 23 => 9 | 25 => 65 | 4 => 4 | 3 => 3 | 0 => 0 | n => n, fun | n => n⟩
theorem Tryz.laysSlH8_f28 : Go.Proofs.SlLaysH.n8 Tryz.prog Tryz.laysSlH8_f28_ren := {
  mixed := by kernel_rfl
  f6 := ⟨Tryz.f53.name, by decide, Tryz.func53.trans (congrArg some (by kernel_rfl))⟩
  f8 := ⟨Tryz.f28.name, by decide, Tryz.func28.trans (congrArg some (by kernel_rfl))⟩
  t0 := Tryz.underlying0
  a0 := Tryz.isAgg0
  z0 := Tryz.sizeOf0
  v0 := Tryz.zeroValue0
  t3 := Tryz.underlying3
  a3 := Tryz.isAgg3
  z3 := Tryz.sizeOf3
  v3 := Tryz.zeroValue3
  t4 := Tryz.underlying4
  a4 := Tryz.isAgg4
  z4 := Tryz.sizeOf4
  v4 := Tryz.zeroValue4
  t22 := Tryz.underlying25
  a22 := Tryz.isAgg25
  z22 := Tryz.sizeOf25
  v22 := Tryz.zeroValue25
  a23 := Tryz.isAgg9
  z23 := Tryz.sizeOf9
  t25 := Tryz.underlying65
  a25 := Tryz.isAgg65
  z25 := Tryz.sizeOf65
  v25 := Tryz.zeroValue65 }
open Go.RowKit Go.Lib in
theorem Tryz.slices_ContainsFunc {α : Type} [Inhabited α] (enc : α → Value) (p : α → Bool) (g : Nat) (lb : Array Value) (eg : ∀ args w, (callFunc g args).run Tryz.prog w = .ok (.enter g args) w) (b off n c : Nat) (zs : List α) (w : World) (hp : PredAt Tryz.prog g lb enc p w) (hz : n ≤ zs.length) (hbig : n ≤ 9223372036854775807) (hc : ∀ j, j < zs.length → w.cell? ⟨b, off + j, none⟩ = some (enc zs[j]!)) :
    Calls Tryz.prog 28 #[.slice (some ⟨b, off, none⟩) n c, .func (.func g) #[] lb] w fun e w' => e = .returned (.bool ((zs.take n).any p)) ∧ ∃ q, w' = w.drewN q := AnyE.slices_ContainsFunc Tryz.laysSlH8_f28 enc p g lb eg b off n c zs w hp hz hbig hc
open Go.RowKit Go.Lib in
theorem Tryz.slices_ContainsFunc_empty {α : Type} [Inhabited α] (a : Option Addr) (c : Nat) (fv : Value) (w : World) :
    Calls Tryz.prog 28 #[.slice a 0 c, fv] w fun e w' => e = .returned (.bool false) ∧ w' = w := AnyE.slices_ContainsFunc_empty Tryz.laysSlH8_f28 a c fv w
def Tryz.laysSlM6_f77_ren : Go.Shelf.Ren := ⟨fun | 6 => 77 | 8 => 102 | 9 => 101 | 19 => 129 | 20 => 130 | 21 => 120 | 22 => 121 | 23 => 122 | 24 => 123 | 25 => 124 | 26 => 125 | 27 => 126 | 28 => 127 | 29 => 128 | 36 => 145 | 31 => 146 | 32 => 147 | 37 => 148 | 38 => 149 | 39 => 82 | 41 => 160 | n => n, fun | 27 => 25 | 29 => 9 | 3 => 3 | 32 => 106 | 26 => 25 | 0 => 0 | 44 => 155 | 46 => 157 | 4 => 4 | 36 => 149 | 35 => 148 | 41 => 74 | 5 => 5 | 9 => 9 | 53 => 165 | 57 => 169 | 63 => 178 | 64 => 179 | n => n, fun | n => n⟩
end Go.Proofs
