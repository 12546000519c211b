/- Contracts of the functions of the Go library that this claim calls, laid at its translation by a program of the kit; each under the premises that it states. -/
import Derived.Shelf.Small.Bits
import Derived.Shelf.Small.Strs
import Derived.Shelf.Small.Wraps
import Derived.Shelf.Strconv.Atoi
import Derived.Shelf.Strconv.Itoa0
import Derived.Shelf.Strconv.Itoa1
import Derived.Shelf.LaysM
import Derived.Shelf.Strconv.Itoa2
import Derived.Shelf.Strconv.Itoa3
import Derived.Shelf.Strconv.AtoiErrFast
import Derived.Shelf.Strconv.ParseIntEmpty
import Derived.Shelf.Strconv.AtoiFail
import Derived.Shelf.Strconv.Clone
import Derived.Shelf.Strconv.SyntaxError
import Derived.Shelf.LaysC
import Derived.Shelf.Strconv.ToError
import Derived.Shelf.Strconv.Lower
import Derived.Shelf.Strconv.ParseUint10
import Derived.Shelf.Strconv.ParseUint10Empty
import Derived.Shelf.Strconv.ParseUint10Any
import Derived.Shelf.Strconv.ParseInt10
import Derived.Shelf.Strconv.AtoiLong
import Derived.Shelf.Strconv.AtoiInnerAll
import Derived.Shelf.Strconv.RangeError
import Derived.Shelf.Strconv.ToErrorRange
import Derived.Shelf.Strconv.AtoiAll
import Derived.Shelf.Strconv.ErrVarAll
import Derived.Shelf.Strings.Search1
import Derived.Shelf.Strings.Search2
import Derived.Shelf.Strings.Cut
import Derived.Shelf.Strings.Shaped
import Derived.Ground.Names2Prog
import Derived.Shelf.Slices.SearchI
import Derived.Ground.SlgfProg
import Derived.Shelf.SlicesE.IndexFunc
import Derived.Ground.SlgmProg
import Derived.Shelf.SortM.Plain
import Derived.Shelf.SortM.SortNone
import Derived.Test.YtabcdodjkfknlaaGreatDoorProg
namespace Go.Proofs
open Go.Shelf
def Tryz.lays128_ren : Go.Shelf.Ren := ⟨fun | 128 => 177 | n => n, fun | 51 => 93 | 3 => 3 | 4 => 4 | 46 => 141 | 5 => 5 | 9 => 9 | n => n, fun | n => n⟩
def Tryz.lays125_ren : Go.Shelf.Ren := ⟨fun | 125 => 147 | 128 => 177 | 129 => 178 | n => n, fun | 46 => 141 | 3 => 3 | 51 => 93 | 53 => 28 | 4 => 4 | 5 => 5 | 9 => 9 | n => n, fun | n => n⟩
def Tryz.lays137_ren : Go.Shelf.Ren := ⟨fun | 137 => 36 | 217 => 84 | 266 => 133 | n => n, fun | 9 => 9 | 5 => 5 | 3 => 3 | n => n, fun | n => n⟩
theorem Tryz.lays137 : Go.Proofs.Lays.n137 Tryz.prog Tryz.lays137_ren := {
  mixed := by kernel_rfl
  f137 := Tryz.func36.trans (congrArg some (by kernel_rfl))
  f217 := Tryz.func84.trans (congrArg some (by kernel_rfl))
  f266 := Tryz.func133.trans (congrArg some (by kernel_rfl))
  t3 := Tryz.underlying3
  a3 := Tryz.isAgg3
  z3 := Tryz.sizeOf3
  v3 := Tryz.zeroValue3
  t5 := Tryz.underlying5
  a5 := Tryz.isAgg5
  z5 := Tryz.sizeOf5
  v5 := Tryz.zeroValue5
  t9 := Tryz.underlying9
  a9 := Tryz.isAgg9
  z9 := Tryz.sizeOf9
  v9 := Tryz.zeroValue9 }
open Go.RowKit in
theorem Tryz.strings_IndexByte (s : ByteArray) (c : Int) (w : World) :
    Calls Tryz.prog 36 #[.string s, .int .u8 c] w fun e w' => e = .returned (.int .i64 (Lib.indexByte s.data.toList c.toNat.toUInt8)) ∧ w' = w := Any.strings_IndexByte Tryz.lays137 s c w
def Tryz.lays215_ren : Go.Shelf.Ren := ⟨fun | 215 => 166 | n => n, fun | 3 => 3 | 4 => 4 | n => n, fun | n => n⟩
def Tryz.lays122_ren : Go.Shelf.Ren := ⟨fun | 122 => 135 | 215 => 166 | n => n, fun | 3 => 3 | 4 => 4 | n => n, fun | n => n⟩
def Tryz.lays244_ren : Go.Shelf.Ren := ⟨fun | 244 => 82 | 247 => 128 | 287 => 159 | 321 => 190 | 322 => 191 | n => n, fun | 9 => 9 | 3 => 3 | 75 => 70 | 4 => 4 | 5 => 5 | 167 => 168 | 37 => 43 | 0 => 0 | 85 => 169 | 2 => 2 | 53 => 28 | 175 => 192 | 46 => 141 | 21 => 21 | 80 => 146 | n => n, fun | n => n⟩
def Tryz.lays172_ren : Go.Shelf.Ren := ⟨fun | 172 => 35 | 244 => 82 | 245 => 83 | 247 => 128 | 279 => 129 | 280 => 130 | 281 => 131 | 282 => 132 | 287 => 159 | 316 => 160 | 171 => 37 | 205 => 161 | 321 => 190 | 322 => 191 | 243 => 85 | 246 => 134 | 283 => 162 | 284 => 163 | 285 => 164 | 286 => 165 | 129 => 178 | 317 => 192 | 318 => 193 | 319 => 194 | 320 => 195 | 337 => 204 | 338 => 205 | n => n, fun | 9 => 9 | 3 => 3 | 75 => 70 | 76 => 71 | 4 => 4 | 5 => 5 | 167 => 168 | 37 => 43 | 0 => 0 | 85 => 169 | 2 => 2 | 168 => 171 | 53 => 28 | 175 => 192 | 46 => 141 | 210 => 196 | 127 => 223 | 145 => 226 | 143 => 224 | 21 => 21 | 171 => 198 | 173 => 201 | 212 => 228 | 51 => 93 | 20 => 20 | 213 => 229 | 232 => 241 | 233 => 242 | 80 => 146 | n => n, fun | 15 => 1 | 16 => 2 | 17 => 3 | 18 => 4 | 19 => 5 | n => n⟩
def Tryz.lays129_ren : Go.Shelf.Ren := ⟨fun | 129 => 178 | n => n, fun | 53 => 28 | 3 => 3 | 4 => 4 | 46 => 141 | 5 => 5 | 9 => 9 | n => n, fun | n => n⟩
def Tryz.lays317_ren : Go.Shelf.Ren := ⟨fun | 317 => 192 | n => n, fun | 3 => 3 | 46 => 141 | n => n, fun | n => n⟩
def Tryz.lays318_ren : Go.Shelf.Ren := ⟨fun | 318 => 193 | n => n, fun | 3 => 3 | 4 => 4 | n => n, fun | n => n⟩
def Tryz.lays283_ren : Go.Shelf.Ren := ⟨fun | 283 => 162 | n => n, fun | 3 => 3 | 9 => 9 | 4 => 4 | n => n, fun | n => n⟩
def Tryz.laysM284_ren : Go.Shelf.Ren := ⟨fun | 284 => 163 | 129 => 178 | 317 => 192 | 318 => 193 | n => n, fun | 53 => 28 | 3 => 3 | 212 => 228 | 0 => 0 | 4 => 4 | 46 => 141 | 5 => 5 | 9 => 9 | n => n, fun | 17 => 3 | n => n⟩
def Tryz.lays285_ren : Go.Shelf.Ren := ⟨fun | 285 => 164 | n => n, fun | 37 => 43 | 53 => 28 | 3 => 3 | 4 => 4 | 51 => 93 | 9 => 9 | 5 => 5 | 0 => 0 | n => n, fun | n => n⟩
def Tryz.laysM246_ren : Go.Shelf.Ren := ⟨fun | 246 => 134 | 283 => 162 | 284 => 163 | 285 => 164 | 286 => 165 | 129 => 178 | 317 => 192 | 318 => 193 | 319 => 194 | 320 => 195 | 337 => 204 | 338 => 205 | n => n, fun | 2 => 2 | 3 => 3 | 9 => 9 | 4 => 4 | 171 => 198 | 0 => 0 | 53 => 28 | 37 => 43 | 5 => 5 | 173 => 201 | 212 => 228 | 51 => 93 | 20 => 20 | 213 => 229 | 46 => 141 | 232 => 241 | 233 => 242 | n => n, fun | 17 => 3 | 18 => 4 | 19 => 5 | n => n⟩
def Tryz.lays246_ren : Go.Shelf.Ren := ⟨fun | 246 => 134 | 283 => 162 | 284 => 163 | 285 => 164 | 286 => 165 | 129 => 178 | 317 => 192 | 318 => 193 | 319 => 194 | 320 => 195 | 337 => 204 | 338 => 205 | n => n, fun | 2 => 2 | 3 => 3 | 9 => 9 | 4 => 4 | 171 => 198 | 0 => 0 | 53 => 28 | 37 => 43 | 5 => 5 | 173 => 201 | 212 => 228 | 51 => 93 | 20 => 20 | 213 => 229 | 46 => 141 | 232 => 241 | 233 => 242 | n => n, fun | 17 => 3 | 18 => 4 | 19 => 5 | n => n⟩
def Tryz.laysM243_ren : Go.Shelf.Ren := ⟨fun | 243 => 85 | 246 => 134 | 283 => 162 | 284 => 163 | 285 => 164 | 286 => 165 | 129 => 178 | 317 => 192 | 318 => 193 | 319 => 194 | 320 => 195 | 337 => 204 | 338 => 205 | n => n, fun | 3 => 3 | 9 => 9 | 2 => 2 | 4 => 4 | 171 => 198 | 0 => 0 | 53 => 28 | 37 => 43 | 5 => 5 | 173 => 201 | 212 => 228 | 51 => 93 | 20 => 20 | 213 => 229 | 46 => 141 | 232 => 241 | 233 => 242 | n => n, fun | 17 => 3 | 18 => 4 | 19 => 5 | n => n⟩
def Tryz.lays243_ren : Go.Shelf.Ren := ⟨fun | 243 => 85 | 246 => 134 | 283 => 162 | 284 => 163 | 285 => 164 | 286 => 165 | 129 => 178 | 317 => 192 | 318 => 193 | 319 => 194 | 320 => 195 | 337 => 204 | 338 => 205 | n => n, fun | 3 => 3 | 9 => 9 | 2 => 2 | 4 => 4 | 171 => 198 | 0 => 0 | 53 => 28 | 37 => 43 | 5 => 5 | 173 => 201 | 212 => 228 | 51 => 93 | 20 => 20 | 213 => 229 | 46 => 141 | 232 => 241 | 233 => 242 | n => n, fun | 17 => 3 | 18 => 4 | 19 => 5 | n => n⟩
def Tryz.laysM171_ren : Go.Shelf.Ren := ⟨fun | 171 => 37 | 243 => 85 | 246 => 134 | 283 => 162 | 284 => 163 | 285 => 164 | 286 => 165 | 129 => 178 | 317 => 192 | 318 => 193 | 319 => 194 | 320 => 195 | 337 => 204 | 338 => 205 | n => n, fun | 3 => 3 | 9 => 9 | 2 => 2 | 4 => 4 | 171 => 198 | 0 => 0 | 53 => 28 | 37 => 43 | 5 => 5 | 173 => 201 | 212 => 228 | 51 => 93 | 20 => 20 | 213 => 229 | 46 => 141 | 232 => 241 | 233 => 242 | n => n, fun | 17 => 3 | 18 => 4 | 19 => 5 | n => n⟩
theorem Tryz.laysM171 : Go.Proofs.LaysM.n171 Tryz.prog Tryz.laysM171_ren := {
  mixed := by kernel_rfl
  f129 := Tryz.func178.trans (congrArg some (by kernel_rfl))
  f171 := Tryz.func37.trans (congrArg some (by kernel_rfl))
  f243 := Tryz.func85.trans (congrArg some (by kernel_rfl))
  f246 := Tryz.func134.trans (congrArg some (by kernel_rfl))
  f283 := Tryz.func162.trans (congrArg some (by kernel_rfl))
  f284 := Tryz.func163.trans (congrArg some (by kernel_rfl))
  f285 := Tryz.func164.trans (congrArg some (by kernel_rfl))
  f286 := Tryz.func165.trans (congrArg some (by kernel_rfl))
  f317 := Tryz.func192.trans (congrArg some (by kernel_rfl))
  f318 := Tryz.func193.trans (congrArg some (by kernel_rfl))
  f319 := Tryz.func194.trans (congrArg some (by kernel_rfl))
  f320 := Tryz.func195.trans (congrArg some (by kernel_rfl))
  f337 := Tryz.func204.trans (congrArg some (by kernel_rfl))
  f338 := Tryz.func205.trans (congrArg some (by kernel_rfl))
  t0 := Tryz.underlying0
  a0 := Tryz.isAgg0
  z0 := Tryz.sizeOf0
  v0 := Tryz.zeroValue0
  t2 := Tryz.underlying2
  a2 := Tryz.isAgg2
  z2 := Tryz.sizeOf2
  v2 := Tryz.zeroValue2
  t3 := Tryz.underlying3
  a3 := Tryz.isAgg3
  z3 := Tryz.sizeOf3
  v3 := Tryz.zeroValue3
  t4 := Tryz.underlying4
  a4 := Tryz.isAgg4
  z4 := Tryz.sizeOf4
  v4 := Tryz.zeroValue4
  t5 := Tryz.underlying5
  a5 := Tryz.isAgg5
  z5 := Tryz.sizeOf5
  v5 := Tryz.zeroValue5
  t9 := Tryz.underlying9
  a9 := Tryz.isAgg9
  z9 := Tryz.sizeOf9
  v9 := Tryz.zeroValue9
  t20 := Tryz.underlying20
  a20 := Tryz.isAgg20
  z20 := Tryz.sizeOf20
  v20 := Tryz.zeroValue20
  t37 := Tryz.underlying43
  a37 := Tryz.isAgg43
  z37 := Tryz.sizeOf43
  v37 := Tryz.zeroValue43
  t46 := Tryz.underlying141
  a46 := Tryz.isAgg141
  z46 := Tryz.sizeOf141
  v46 := Tryz.zeroValue141
  t51 := Tryz.underlying93
  a51 := Tryz.isAgg93
  z51 := Tryz.sizeOf93
  v51 := Tryz.zeroValue93
  t53 := Tryz.underlying28
  a53 := Tryz.isAgg28
  z53 := Tryz.sizeOf28
  v53 := Tryz.zeroValue28
  t171 := Tryz.underlying198
  a171 := Tryz.isAgg198
  z171 := Tryz.sizeOf198
  v171 := Tryz.zeroValue198
  t173 := Tryz.underlying201
  a173 := Tryz.isAgg201
  z173 := Tryz.sizeOf201
  v173 := Tryz.zeroValue201
  t212 := Tryz.underlying228
  a212 := Tryz.isAgg228
  z212 := Tryz.sizeOf228
  v212 := Tryz.zeroValue228
  t213 := Tryz.underlying229
  a213 := Tryz.isAgg229
  z213 := Tryz.sizeOf229
  t232 := Tryz.underlying241
  a232 := Tryz.isAgg241
  z232 := Tryz.sizeOf241
  v232 := Tryz.zeroValue241
  t233 := Tryz.underlying242
  a233 := Tryz.isAgg242
  z233 := Tryz.sizeOf242
  v233 := Tryz.zeroValue242
  g17 := by kernel_rfl
  g18 := by kernel_rfl
  g19 := by kernel_rfl
  i0 := by kernel_rfl
  i2 := by kernel_rfl
  i3 := by kernel_rfl
  i4 := by kernel_rfl
  i5 := by kernel_rfl
  i9 := by kernel_rfl
  i20 := by kernel_rfl
  i37 := by kernel_rfl
  i46 := by kernel_rfl
  i51 := by kernel_rfl
  i53 := by kernel_rfl
  i171 := by kernel_rfl
  i173 := by kernel_rfl
  i212 := by kernel_rfl
  i232 := by kernel_rfl
  i233 := by kernel_rfl
  m17 := by kernel_rfl
  m18 := by kernel_rfl
  m19 := by kernel_rfl }
open Go.RowKit Go.Sort Go.Lib in
theorem Tryz.strconv_Itoa (n : Int) (h0 : -9223372036854775808 ≤ n) (h1 : n ≤ 9223372036854775807) (w : World) (htab : Lib.TabIs Tryz.prog w "internal/strconv.uint64pow10" .u64 Lib.pow10Tab) :
    Calls Tryz.prog 37 #[.int .i64 n] w fun e w' => e = .returned (.string ⟨(Lib.itoa n).toArray⟩) ∧ ∃ k os, w' = grow (w.drewN k) os := Any.strconv_Itoa Tryz.laysM171 n h0 h1 w htab
def Tryz.lays171_ren : Go.Shelf.Ren := ⟨fun | 171 => 37 | 243 => 85 | 246 => 134 | 283 => 162 | 284 => 163 | 285 => 164 | 286 => 165 | 129 => 178 | 317 => 192 | 318 => 193 | 319 => 194 | 320 => 195 | 337 => 204 | 338 => 205 | n => n, fun | 3 => 3 | 9 => 9 | 2 => 2 | 4 => 4 | 171 => 198 | 0 => 0 | 53 => 28 | 37 => 43 | 5 => 5 | 173 => 201 | 212 => 228 | 51 => 93 | 20 => 20 | 213 => 229 | 46 => 141 | 232 => 241 | 233 => 242 | n => n, fun | 17 => 3 | 18 => 4 | 19 => 5 | n => n⟩
def Tryz.lays247_ren : Go.Shelf.Ren := ⟨fun | 247 => 128 | 287 => 159 | 321 => 190 | 322 => 191 | n => n, fun | 9 => 9 | 3 => 3 | 2 => 2 | 75 => 70 | 4 => 4 | 167 => 168 | 5 => 5 | 53 => 28 | 175 => 192 | 46 => 141 | 37 => 43 | 0 => 0 | 21 => 21 | 80 => 146 | n => n, fun | n => n⟩
def Tryz.laysM316_ren : Go.Shelf.Ren := ⟨fun | 316 => 160 | n => n, fun | 9 => 9 | 3 => 3 | 4 => 4 | 37 => 43 | 0 => 0 | 127 => 223 | 5 => 5 | n => n, fun | n => n⟩
def Tryz.laysM279_ren : Go.Shelf.Ren := ⟨fun | 279 => 129 | 316 => 160 | n => n, fun | 9 => 9 | 168 => 171 | 75 => 70 | 210 => 196 | 3 => 3 | 4 => 4 | 37 => 43 | 0 => 0 | 127 => 223 | 80 => 146 | 5 => 5 | n => n, fun | 15 => 1 | n => n⟩
def Tryz.laysC245_ren : Go.Shelf.Ren := ⟨fun | 245 => 83 | 279 => 129 | 280 => 130 | 281 => 131 | 282 => 132 | 316 => 160 | 171 => 37 | 205 => 161 | 243 => 85 | 246 => 134 | 283 => 162 | 284 => 163 | 285 => 164 | 286 => 165 | 129 => 178 | 317 => 192 | 318 => 193 | 319 => 194 | 320 => 195 | 337 => 204 | 338 => 205 | n => n, fun | 9 => 9 | 3 => 3 | 75 => 70 | 167 => 168 | 4 => 4 | 168 => 171 | 210 => 196 | 37 => 43 | 0 => 0 | 127 => 223 | 145 => 226 | 143 => 224 | 2 => 2 | 171 => 198 | 53 => 28 | 5 => 5 | 173 => 201 | 212 => 228 | 51 => 93 | 20 => 20 | 213 => 229 | 46 => 141 | 232 => 241 | 233 => 242 | 80 => 146 | n => n, fun | 15 => 1 | 16 => 2 | 17 => 3 | 18 => 4 | 19 => 5 | n => n⟩
def Tryz.lays321_ren : Go.Shelf.Ren := ⟨fun | 321 => 190 | n => n, fun | 5 => 5 | n => n, fun | n => n⟩
def Tryz.lays287_ren : Go.Shelf.Ren := ⟨fun | 287 => 159 | 321 => 190 | 322 => 191 | n => n, fun | 9 => 9 | 3 => 3 | 53 => 28 | 75 => 70 | 4 => 4 | 167 => 168 | 5 => 5 | 46 => 141 | 37 => 43 | 0 => 0 | 21 => 21 | 80 => 146 | n => n, fun | n => n⟩
def Tryz.laysC247_ren : Go.Shelf.Ren := ⟨fun | 247 => 128 | 287 => 159 | 321 => 190 | 322 => 191 | n => n, fun | 9 => 9 | 3 => 3 | 2 => 2 | 75 => 70 | 4 => 4 | 167 => 168 | 5 => 5 | 53 => 28 | 175 => 192 | 46 => 141 | 37 => 43 | 0 => 0 | 21 => 21 | 80 => 146 | n => n, fun | n => n⟩
def Tryz.laysC244_ren : Go.Shelf.Ren := ⟨fun | 244 => 82 | 247 => 128 | 287 => 159 | 321 => 190 | 322 => 191 | n => n, fun | 9 => 9 | 3 => 3 | 75 => 70 | 4 => 4 | 5 => 5 | 167 => 168 | 37 => 43 | 0 => 0 | 85 => 169 | 2 => 2 | 53 => 28 | 175 => 192 | 46 => 141 | 21 => 21 | 80 => 146 | n => n, fun | n => n⟩
def Tryz.laysM280_ren : Go.Shelf.Ren := ⟨fun | 280 => 130 | 316 => 160 | n => n, fun | 9 => 9 | 168 => 171 | 75 => 70 | 210 => 196 | 3 => 3 | 4 => 4 | 37 => 43 | 0 => 0 | 127 => 223 | 80 => 146 | 5 => 5 | n => n, fun | 16 => 2 | n => n⟩
def Tryz.laysC172_ren : Go.Shelf.Ren := ⟨fun | 172 => 35 | 244 => 82 | 245 => 83 | 247 => 128 | 279 => 129 | 280 => 130 | 281 => 131 | 282 => 132 | 287 => 159 | 316 => 160 | 171 => 37 | 205 => 161 | 321 => 190 | 322 => 191 | 243 => 85 | 246 => 134 | 283 => 162 | 284 => 163 | 285 => 164 | 286 => 165 | 129 => 178 | 317 => 192 | 318 => 193 | 319 => 194 | 320 => 195 | 337 => 204 | 338 => 205 | n => n, fun | 9 => 9 | 3 => 3 | 75 => 70 | 76 => 71 | 4 => 4 | 5 => 5 | 167 => 168 | 37 => 43 | 0 => 0 | 85 => 169 | 2 => 2 | 168 => 171 | 53 => 28 | 175 => 192 | 46 => 141 | 210 => 196 | 127 => 223 | 145 => 226 | 143 => 224 | 21 => 21 | 171 => 198 | 173 => 201 | 212 => 228 | 51 => 93 | 20 => 20 | 213 => 229 | 232 => 241 | 233 => 242 | 80 => 146 | n => n, fun | 15 => 1 | 16 => 2 | 17 => 3 | 18 => 4 | 19 => 5 | n => n⟩
theorem Tryz.laysC172 : Go.Proofs.LaysC.n172 Tryz.prog Tryz.laysC172_ren := {
  mixed := by kernel_rfl
  f129 := Tryz.func178.trans (congrArg some (by kernel_rfl))
  f171 := Tryz.func37.trans (congrArg some (by kernel_rfl))
  f172 := Tryz.func35.trans (congrArg some (by kernel_rfl))
  f205 := Tryz.func161.trans (congrArg some (by kernel_rfl))
  f243 := Tryz.func85.trans (congrArg some (by kernel_rfl))
  f244 := Tryz.func82.trans (congrArg some (by kernel_rfl))
  f245 := Tryz.func83.trans (congrArg some (by kernel_rfl))
  f246 := Tryz.func134.trans (congrArg some (by kernel_rfl))
  f247 := Tryz.func128.trans (congrArg some (by kernel_rfl))
  f279 := Tryz.func129.trans (congrArg some (by kernel_rfl))
  f280 := Tryz.func130.trans (congrArg some (by kernel_rfl))
  f281 := Tryz.func131.trans (congrArg some (by kernel_rfl))
  f282 := Tryz.func132.trans (congrArg some (by kernel_rfl))
  f283 := Tryz.func162.trans (congrArg some (by kernel_rfl))
  f284 := Tryz.func163.trans (congrArg some (by kernel_rfl))
  f285 := Tryz.func164.trans (congrArg some (by kernel_rfl))
  f286 := Tryz.func165.trans (congrArg some (by kernel_rfl))
  f287 := Tryz.func159.trans (congrArg some (by kernel_rfl))
  f316 := Tryz.func160.trans (congrArg some (by kernel_rfl))
  f317 := Tryz.func192.trans (congrArg some (by kernel_rfl))
  f318 := Tryz.func193.trans (congrArg some (by kernel_rfl))
  f319 := Tryz.func194.trans (congrArg some (by kernel_rfl))
  f320 := Tryz.func195.trans (congrArg some (by kernel_rfl))
  f321 := Tryz.func190.trans (congrArg some (by kernel_rfl))
  f322 := Tryz.func191.trans (congrArg some (by kernel_rfl))
  f337 := Tryz.func204.trans (congrArg some (by kernel_rfl))
  f338 := Tryz.func205.trans (congrArg some (by kernel_rfl))
  t0 := Tryz.underlying0
  a0 := Tryz.isAgg0
  z0 := Tryz.sizeOf0
  v0 := Tryz.zeroValue0
  t2 := Tryz.underlying2
  a2 := Tryz.isAgg2
  z2 := Tryz.sizeOf2
  v2 := Tryz.zeroValue2
  t3 := Tryz.underlying3
  a3 := Tryz.isAgg3
  z3 := Tryz.sizeOf3
  v3 := Tryz.zeroValue3
  t4 := Tryz.underlying4
  a4 := Tryz.isAgg4
  z4 := Tryz.sizeOf4
  v4 := Tryz.zeroValue4
  t5 := Tryz.underlying5
  a5 := Tryz.isAgg5
  z5 := Tryz.sizeOf5
  v5 := Tryz.zeroValue5
  t9 := Tryz.underlying9
  a9 := Tryz.isAgg9
  z9 := Tryz.sizeOf9
  v9 := Tryz.zeroValue9
  t20 := Tryz.underlying20
  a20 := Tryz.isAgg20
  z20 := Tryz.sizeOf20
  v20 := Tryz.zeroValue20
  t21 := Tryz.underlying21
  a21 := Tryz.isAgg21
  z21 := Tryz.sizeOf21
  v21 := Tryz.zeroValue21
  t37 := Tryz.underlying43
  a37 := Tryz.isAgg43
  z37 := Tryz.sizeOf43
  v37 := Tryz.zeroValue43
  t46 := Tryz.underlying141
  a46 := Tryz.isAgg141
  z46 := Tryz.sizeOf141
  v46 := Tryz.zeroValue141
  t51 := Tryz.underlying93
  a51 := Tryz.isAgg93
  z51 := Tryz.sizeOf93
  v51 := Tryz.zeroValue93
  t53 := Tryz.underlying28
  a53 := Tryz.isAgg28
  z53 := Tryz.sizeOf28
  v53 := Tryz.zeroValue28
  t75 := Tryz.underlying70
  a75 := Tryz.isAgg70
  z75 := Tryz.sizeOf70
  v75 := Tryz.zeroValue70
  t76 := Tryz.underlying71
  a76 := Tryz.isAgg71
  z76 := Tryz.sizeOf71
  v76 := Tryz.zeroValue71
  t85 := Tryz.underlying169
  a85 := Tryz.isAgg169
  z85 := Tryz.sizeOf169
  v85 := Tryz.zeroValue169
  t127 := Tryz.underlying223
  a127 := Tryz.isAgg223
  z127 := Tryz.sizeOf223
  v127 := Tryz.zeroValue223
  t143 := Tryz.underlying224
  a143 := Tryz.isAgg224
  z143 := Tryz.sizeOf224
  v143 := Tryz.zeroValue224
  t145 := Tryz.underlying226
  a145 := Tryz.isAgg226
  z145 := Tryz.sizeOf226
  v145 := Tryz.zeroValue226
  t167 := Tryz.underlying168
  a167 := Tryz.isAgg168
  z167 := Tryz.sizeOf168
  v167 := Tryz.zeroValue168
  t168 := Tryz.underlying171
  a168 := Tryz.isAgg171
  z168 := Tryz.sizeOf171
  v168 := Tryz.zeroValue171
  t171 := Tryz.underlying198
  a171 := Tryz.isAgg198
  z171 := Tryz.sizeOf198
  v171 := Tryz.zeroValue198
  t173 := Tryz.underlying201
  a173 := Tryz.isAgg201
  z173 := Tryz.sizeOf201
  v173 := Tryz.zeroValue201
  t175 := Tryz.underlying192
  a175 := Tryz.isAgg192
  z175 := Tryz.sizeOf192
  v175 := Tryz.zeroValue192
  t210 := Tryz.underlying196
  a210 := Tryz.isAgg196
  z210 := Tryz.sizeOf196
  v210 := Tryz.zeroValue196
  t212 := Tryz.underlying228
  a212 := Tryz.isAgg228
  z212 := Tryz.sizeOf228
  v212 := Tryz.zeroValue228
  t213 := Tryz.underlying229
  a213 := Tryz.isAgg229
  z213 := Tryz.sizeOf229
  t232 := Tryz.underlying241
  a232 := Tryz.isAgg241
  z232 := Tryz.sizeOf241
  v232 := Tryz.zeroValue241
  t233 := Tryz.underlying242
  a233 := Tryz.isAgg242
  z233 := Tryz.sizeOf242
  v233 := Tryz.zeroValue242
  g15 := by kernel_rfl
  g16 := by kernel_rfl
  g17 := by kernel_rfl
  g18 := by kernel_rfl
  g19 := by kernel_rfl
  t80 := Tryz.underlying146
  a80 := Tryz.isAgg146
  z80 := Tryz.sizeOf146
  v80 := Tryz.zeroValue146
  i0 := by kernel_rfl
  i2 := by kernel_rfl
  i3 := by kernel_rfl
  i4 := by kernel_rfl
  i5 := by kernel_rfl
  i9 := by kernel_rfl
  i20 := by kernel_rfl
  i21 := by kernel_rfl
  i37 := by kernel_rfl
  i46 := by kernel_rfl
  i51 := by kernel_rfl
  i53 := by kernel_rfl
  i75 := by kernel_rfl
  i76 := by kernel_rfl
  i80 := by kernel_rfl
  i85 := by kernel_rfl
  i127 := by kernel_rfl
  i143 := by kernel_rfl
  i145 := by kernel_rfl
  i167 := by kernel_rfl
  i168 := by kernel_rfl
  i171 := by kernel_rfl
  i173 := by kernel_rfl
  i175 := by kernel_rfl
  i210 := by kernel_rfl
  i212 := by kernel_rfl
  i232 := by kernel_rfl
  i233 := by kernel_rfl
  m15 := by kernel_rfl
  m16 := by kernel_rfl
  m17 := by kernel_rfl
  m18 := by kernel_rfl
  m19 := by kernel_rfl
  c0 := by kernel_rfl
  c2 := by kernel_rfl
  c3 := by kernel_rfl
  c4 := by kernel_rfl
  c5 := by kernel_rfl
  c9 := by kernel_rfl
  c20 := by kernel_rfl
  c21 := by kernel_rfl
  c37 := by kernel_rfl
  c46 := by kernel_rfl
  c51 := by kernel_rfl
  c53 := by kernel_rfl
  c75 := by kernel_rfl
  c76 := by kernel_rfl
  c80 := by kernel_rfl
  c85 := by kernel_rfl
  c127 := by kernel_rfl
  c143 := by kernel_rfl
  c145 := by kernel_rfl
  c167 := by kernel_rfl
  c168 := by kernel_rfl
  c171 := by kernel_rfl
  c173 := by kernel_rfl
  c175 := by kernel_rfl
  c210 := by kernel_rfl
  c212 := by kernel_rfl
  c213 := by kernel_rfl
  c232 := by kernel_rfl
  c233 := by kernel_rfl }
open Go.RowKit in
theorem Tryz.strconv_Atoi_ok (s : ByteArray) (hmax : s.size ≤ 9223372036854775806) (v : Int) (h : Lib.atoiAll s.data.toList = .ok v) (w : World) :
    Calls Tryz.prog 35 #[.string s] w fun e w' => e = .returned (.tuple #[.int .i64 v, .nilIface]) ∧ (w' = w ∨ ∃ t, w' = Lib.bytesWorld w 5 t) := Any.strconv_Atoi_ok Tryz.laysC172 s hmax v h w
open Go.RowKit in
theorem Tryz.strconv_Atoi_bad (s : ByteArray) (hlim : s.size ≤ 281474976710656) (h1 : ∀ v, Lib.atoiAll s.data.toList ≠ .ok v) (h2 : Lib.atoiAll s.data.toList ≠ .range) (ev : Value) (w : World) (hv : w.cell? ⟨1, 0, none⟩ = some ev) (hev : ev = .nilIface ∨ ∃ te pe, ev = .iface te pe) :
    Calls Tryz.prog 35 #[.string s] w fun e w' => ∃ N, e = .returned (.tuple #[.int .i64 (0), .iface 171 (.pointer (some ⟨N, 0, none⟩))]) ∧ w.heap.size ≤ N ∧ w'.heap[N]? = some (.cells #[.string ⟨#[65, 116, 111, 105]⟩, .string s, ev] 196 (0, 0)) ∧ Below w.heap.size w w' := Any.strconv_Atoi_syntax Tryz.laysC172 s hlim (by cases hx : Lib.atoiAll s.data.toList with | ok v => exact absurd hx (h1 v) | range => exact absurd hx h2 | _ => rfl) ev w hv hev
open Go.RowKit in
theorem Tryz.strconv_Atoi_range (s : ByteArray) (hlim : s.size ≤ 281474976710656) (h : Lib.atoiAll s.data.toList = .range) (ev : Value) (w : World) (hv : w.cell? ⟨2, 0, none⟩ = some ev) (hev : ev = .nilIface ∨ ∃ te pe, ev = .iface te pe) :
    Calls Tryz.prog 35 #[.string s] w fun e w' => ∃ N, e = .returned (.tuple #[.int .i64 (Lib.atoiSat s.data.toList), .iface 171 (.pointer (some ⟨N, 0, none⟩))]) ∧ w.heap.size ≤ N ∧ w'.heap[N]? = some (.cells #[.string ⟨#[65, 116, 111, 105]⟩, .string s, ev] 196 (0, 0)) ∧ Below w.heap.size w w' := Any.strconv_Atoi_range Tryz.laysC172 s hlim h ev w hv hev
def Tryz.lays217_ren : Go.Shelf.Ren := ⟨fun | 217 => 84 | 266 => 133 | n => n, fun | 9 => 9 | 5 => 5 | 3 => 3 | n => n, fun | n => n⟩
def Tryz.lays224_ren : Go.Shelf.Ren := ⟨fun | 224 => 157 | n => n, fun | 3 => 3 | n => n, fun | n => n⟩
def Tryz.lays314_ren : Go.Shelf.Ren := ⟨fun | 314 => 189 | n => n, fun | 9 => 9 | 51 => 93 | 3 => 3 | 4 => 4 | 5 => 5 | 46 => 141 | n => n, fun | n => n⟩
def Tryz.lays267_ren : Go.Shelf.Ren := ⟨fun | 267 => 158 | 314 => 189 | n => n, fun | 9 => 9 | 3 => 3 | 146 => 220 | 51 => 93 | 4 => 4 | 5 => 5 | 46 => 141 | n => n, fun | n => n⟩
def Tryz.lays219_ren : Go.Shelf.Ren := ⟨fun | 219 => 127 | 217 => 84 | 225 => 156 | 224 => 157 | 267 => 158 | 266 => 133 | 314 => 189 | n => n, fun | 9 => 9 | 3 => 3 | 4 => 4 | 5 => 5 | 46 => 141 | 146 => 220 | 51 => 93 | n => n, fun | 1 => 0 | n => n⟩
def Tryz.lays220_ren : Go.Shelf.Ren := ⟨fun | 220 => 81 | 219 => 127 | 217 => 84 | 225 => 156 | 224 => 157 | 267 => 158 | 266 => 133 | 314 => 189 | n => n, fun | 9 => 9 | 4 => 4 | 3 => 3 | 5 => 5 | 46 => 141 | 146 => 220 | 51 => 93 | n => n, fun | 1 => 0 | n => n⟩
def Tryz.lays145_ren : Go.Shelf.Ren := ⟨fun | 145 => 34 | 220 => 81 | 219 => 127 | 217 => 84 | 225 => 156 | 224 => 157 | 267 => 158 | 266 => 133 | 314 => 189 | n => n, fun | 9 => 9 | 4 => 4 | 59 => 67 | 3 => 3 | 5 => 5 | 46 => 141 | 146 => 220 | 51 => 93 | n => n, fun | 1 => 0 | n => n⟩
theorem Tryz.lays145 : Go.Proofs.Lays.n145 Tryz.prog Tryz.lays145_ren := {
  mixed := by kernel_rfl
  f145 := Tryz.func34.trans (congrArg some (by kernel_rfl))
  f217 := Tryz.func84.trans (congrArg some (by kernel_rfl))
  f219 := Tryz.func127.trans (congrArg some (by kernel_rfl))
  f220 := Tryz.func81.trans (congrArg some (by kernel_rfl))
  f224 := Tryz.func157.trans (congrArg some (by kernel_rfl))
  f225 := Tryz.func156.trans (congrArg some (by kernel_rfl))
  f266 := Tryz.func133.trans (congrArg some (by kernel_rfl))
  f267 := Tryz.func158.trans (congrArg some (by kernel_rfl))
  f314 := Tryz.func189.trans (congrArg some (by kernel_rfl))
  t3 := Tryz.underlying3
  a3 := Tryz.isAgg3
  z3 := Tryz.sizeOf3
  v3 := Tryz.zeroValue3
  t4 := Tryz.underlying4
  a4 := Tryz.isAgg4
  z4 := Tryz.sizeOf4
  v4 := Tryz.zeroValue4
  t5 := Tryz.underlying5
  a5 := Tryz.isAgg5
  z5 := Tryz.sizeOf5
  v5 := Tryz.zeroValue5
  t9 := Tryz.underlying9
  a9 := Tryz.isAgg9
  z9 := Tryz.sizeOf9
  v9 := Tryz.zeroValue9
  t46 := Tryz.underlying141
  a46 := Tryz.isAgg141
  z46 := Tryz.sizeOf141
  v46 := Tryz.zeroValue141
  t51 := Tryz.underlying93
  a51 := Tryz.isAgg93
  z51 := Tryz.sizeOf93
  v51 := Tryz.zeroValue93
  t59 := Tryz.underlying67
  a59 := Tryz.isAgg67
  z59 := Tryz.sizeOf67
  v59 := Tryz.zeroValue67
  t146 := Tryz.underlying220
  a146 := Tryz.isAgg220
  z146 := Tryz.sizeOf220
  v146 := Tryz.zeroValue220
  g1 := by kernel_rfl }
open Go.RowKit Go.Lib in
theorem Tryz.strings_Cut (s sep : ByteArray) (m : Int) (w : World) (hs : s.size < 4294967281) (hm : w.cell? ⟨0, 0, none⟩ = some (.int .i64 m)) :
    Calls Tryz.prog 34 #[.string s, .string sep] w fun e w' => e = .returned (.tuple #[.string ⟨(Lib.cut s.data.toList sep.data.toList).1.toArray⟩, .string ⟨(Lib.cut s.data.toList sep.data.toList).2.1.toArray⟩, .bool (Lib.cut s.data.toList sep.data.toList).2.2]) ∧ ∃ n, w' = w.drewN n := Any.strings_Cut Tryz.lays145 s sep m w hs hm
def Tryz.laysM219_ren : Go.Shelf.Ren := ⟨fun | 219 => 127 | 217 => 84 | 225 => 156 | 224 => 157 | 267 => 158 | 266 => 133 | 314 => 189 | n => n, fun | 9 => 9 | 3 => 3 | 4 => 4 | 5 => 5 | 46 => 141 | 146 => 220 | 51 => 93 | n => n, fun | 1 => 0 | n => n⟩
def Tryz.laysM220_ren : Go.Shelf.Ren := ⟨fun | 220 => 81 | 219 => 127 | 217 => 84 | 225 => 156 | 224 => 157 | 267 => 158 | 266 => 133 | 314 => 189 | n => n, fun | 9 => 9 | 4 => 4 | 3 => 3 | 5 => 5 | 46 => 141 | 146 => 220 | 51 => 93 | n => n, fun | 1 => 0 | n => n⟩
def Tryz.laysM145_ren : Go.Shelf.Ren := ⟨fun | 145 => 34 | 220 => 81 | 219 => 127 | 217 => 84 | 225 => 156 | 224 => 157 | 267 => 158 | 266 => 133 | 314 => 189 | n => n, fun | 9 => 9 | 4 => 4 | 59 => 67 | 3 => 3 | 5 => 5 | 46 => 141 | 146 => 220 | 51 => 93 | n => n, fun | 1 => 0 | n => n⟩
def Tryz.laysNm237_ren : Go.Shelf.Ren := ⟨fun | 37 => 166 | n => n, fun | 3 => 3 | 4 => 4 | n => n, fun | n => n⟩
def Tryz.laysSlH6_f124_ren : Go.Shelf.Ren := ⟨fun | 6 => 124 | n => n, fun | 22 => 51 | 23 => 9 | 25 => 124 | 3 => 3 | 0 => 0 | 4 => 4 | n => n, fun | n => n⟩
def Tryz.laysSlH6_f168_ren : Go.Shelf.Ren := ⟨fun | 6 => 168 | n => n, fun | 22 => 31 | 23 => 3 | 25 => 133 | 3 => 3 | 0 => 0 | 4 => 4 | n => n, fun | n => n⟩
def Tryz.laysSlH8_f138_ren : Go.Shelf.Ren := ⟨fun | 8 => 138 | 6 => 168 | n => n, fun | 22 => 31 | 23 => 3 | 25 => 133 | 4 => 4 | 3 => 3 | 0 => 0 | n => n, fun | n => n⟩
def Tryz.laysSlH8_f141_ren : Go.Shelf.Ren := ⟨fun | 8 => 141 | 6 => 124 | n => n, fun | 22 => 51 | 23 => 9 | 25 => 124 | 4 => 4 | 3 => 3 | 0 => 0 | n => n, fun | n => n⟩
def Tryz.laysSlM6_f112_ren : Go.Shelf.Ren := ⟨fun | 6 => 112 | 8 => 147 | 9 => 149 | 19 => 177 | 20 => 178 | 21 => 179 | 22 => 180 | 23 => 181 | 24 => 182 | 25 => 183 | 26 => 184 | 27 => 185 | 28 => 186 | 29 => 187 | 36 => 201 | 31 => 197 | 32 => 198 | 37 => 202 | 38 => 203 | 39 => 167 | 41 => 207 | n => n, fun | 27 => 51 | 29 => 9 | 3 => 3 | 32 => 141 | 26 => 51 | 0 => 0 | 44 => 93 | 46 => 28 | 4 => 4 | 36 => 206 | 35 => 205 | 41 => 210 | 5 => 5 | 9 => 9 | 53 => 230 | 57 => 233 | 63 => 237 | 64 => 238 | n => n, fun | n => n⟩
end Go.Proofs
