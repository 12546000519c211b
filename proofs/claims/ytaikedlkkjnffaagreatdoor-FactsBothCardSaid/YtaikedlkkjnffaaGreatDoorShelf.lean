/- Contracts of the functions of the Go library that this claim calls, laid at its translation by a program of the kit; each under the premises that it states. -/
import Derived.Shelf.Strings.Builder1
import Derived.Shelf.Strings.Builder2
import Derived.Shelf.Strings.OnBuilder
import Derived.Shelf.Small.Bits
import Derived.Shelf.Small.Strs
import Derived.Shelf.Strings.BuilderF
import Derived.Shelf.Strings.BuilderK
import Derived.Shelf.Strconv.Itoa0
import Derived.Shelf.Strings.Search1
import Derived.Shelf.Strings.Search2
import Derived.Shelf.Strings.Search3
import Derived.Shelf.Strings.Count
import Derived.Shelf.LaysM
import Derived.Shelf.Strings.Shaped
import Derived.Shelf.Strings.Prefix
import Derived.Shelf.Unicode.DecodeSlow
import Derived.Test.YtaikedlkkjnffaaGreatDoorProg
namespace Go.Proofs
open Go.Shelf
def Tryz.lays156_ren : Go.Shelf.Ren := ⟨fun | 156 => 73 | 165 => 97 | 166 => 98 | 169 => 99 | 240 => 111 | 241 => 112 | 276 => 121 | 277 => 122 | n => n, fun | 31 => 70 | 9 => 9 | 3 => 3 | 4 => 4 | 0 => 0 | 20 => 20 | 72 => 184 | 76 => 188 | 70 => 182 | 37 => 50 | 75 => 187 | 127 => 210 | 164 => 224 | 5 => 5 | 80 => 129 | n => n, fun | n => n⟩
theorem Tryz.lays156 : Go.Proofs.Lays.n156 Tryz.prog Tryz.lays156_ren := {
  mixed := by kernel_rfl
  f156 := Tryz.func73.trans (congrArg some (by kernel_rfl))
  f165 := Tryz.func97.trans (congrArg some (by kernel_rfl))
  f166 := Tryz.func98.trans (congrArg some (by kernel_rfl))
  f169 := Tryz.func99.trans (congrArg some (by kernel_rfl))
  f240 := Tryz.func111.trans (congrArg some (by kernel_rfl))
  f241 := Tryz.func112.trans (congrArg some (by kernel_rfl))
  f276 := Tryz.func121.trans (congrArg some (by kernel_rfl))
  f277 := Tryz.func122.trans (congrArg some (by kernel_rfl))
  t0 := Tryz.underlying0
  a0 := Tryz.isAgg0
  z0 := Tryz.sizeOf0
  v0 := Tryz.zeroValue0
  t3 := Tryz.underlying3
  a3 := Tryz.isAgg3
  z3 := Tryz.sizeOf3
  v3 := Tryz.zeroValue3
  t4 := Tryz.underlying4
  a4 := Tryz.isAgg4
  z4 := Tryz.sizeOf4
  v4 := Tryz.zeroValue4
  t9 := Tryz.underlying9
  a9 := Tryz.isAgg9
  z9 := Tryz.sizeOf9
  v9 := Tryz.zeroValue9
  t20 := Tryz.underlying20
  a20 := Tryz.isAgg20
  z20 := Tryz.sizeOf20
  v20 := Tryz.zeroValue20
  t31 := Tryz.underlying70
  a31 := Tryz.isAgg70
  z31 := Tryz.sizeOf70
  v31 := Tryz.zeroValue70
  t37 := Tryz.underlying50
  a37 := Tryz.isAgg50
  z37 := Tryz.sizeOf50
  v37 := Tryz.zeroValue50
  t70 := Tryz.underlying182
  a70 := Tryz.isAgg182
  z70 := Tryz.sizeOf182
  v70 := Tryz.zeroValue182
  t72 := Tryz.underlying184
  a72 := Tryz.isAgg184
  z72 := Tryz.sizeOf184
  v72 := Tryz.zeroValue184
  t75 := Tryz.underlying187
  a75 := Tryz.isAgg187
  z75 := Tryz.sizeOf187
  v75 := Tryz.zeroValue187
  t76 := Tryz.underlying188
  a76 := Tryz.isAgg188
  z76 := Tryz.sizeOf188
  v76 := Tryz.zeroValue188
  t127 := Tryz.underlying210
  a127 := Tryz.isAgg210
  z127 := Tryz.sizeOf210
  v127 := Tryz.zeroValue210
  t164 := Tryz.underlying224
  a164 := Tryz.isAgg224
  z164 := Tryz.sizeOf224
  v164 := Tryz.zeroValue224 }
theorem Tryz.Builder_Extra_156 : Builder.Extra Tryz.prog Tryz.lays156_ren := {
  sizeBuilder := by kernel_rfl
  liesBuilder := by kernel_rfl
  t5 := Tryz.underlying5
  a5 := Tryz.isAgg5
  z5 := Tryz.sizeOf5
  v5 := Tryz.zeroValue5
  infoByte := by kernel_rfl
  cellsByte := by kernel_rfl
  sizeByte := by kernel_rfl
  neB5 := by decide }
open Go.RowKit in
theorem Tryz.strings_Join (bk o c : Nat) (xs : List ByteArray) (sep : ByteArray) (w : World) (hcells : ∀ (j : Nat) x, xs[j]? = some x → w.cell? ⟨bk, o + j, none⟩ = some (.string x)) (hbk : bk < w.heap.size) (hN : xs.length ≤ 140737488355328) (hcap : xs.length ≤ c) (hlen : (Lib.join (xs.map (·.data.toList)) sep.data.toList).length ≤ 140737488355328) :
    Calls Tryz.prog 73 #[.slice (some ⟨bk, o, none⟩) xs.length c, .string sep] w fun e w' => e = .returned (.string ⟨(Lib.join (xs.map (·.data.toList)) sep.data.toList).toArray⟩) ∧ Below w.heap.size w w' := Any.strings_Join Tryz.lays156 Tryz.Builder_Extra_156 bk o c xs sep w hcells hbk hN hcap hlen
def Tryz.lays106_ren : Go.Shelf.Ren := ⟨fun | 106 => 48 | 213 => 69 | 265 => 88 | n => n, fun | 9 => 9 | 3 => 3 | n => n, fun | n => n⟩
theorem Tryz.lays106 : Go.Proofs.Lays.n106 Tryz.prog Tryz.lays106_ren := {
  mixed := by kernel_rfl
  f106 := Tryz.func48.trans (congrArg some (by kernel_rfl))
  f213 := Tryz.func69.trans (congrArg some (by kernel_rfl))
  f265 := Tryz.func88.trans (congrArg some (by kernel_rfl))
  t3 := Tryz.underlying3
  a3 := Tryz.isAgg3
  z3 := Tryz.sizeOf3
  v3 := Tryz.zeroValue3
  t9 := Tryz.underlying9
  a9 := Tryz.isAgg9
  z9 := Tryz.sizeOf9
  v9 := Tryz.zeroValue9 }
open Go.RowKit in
theorem Tryz.strings_Compare (a b : ByteArray) (w : World) :
    Calls Tryz.prog 48 #[.string a, .string b] w fun e w' => e = .returned (.int .i64 (Lib.compareBytes a.data.toList b.data.toList)) ∧ w' = w := Any.strings_Compare Tryz.lays106 a b w
end Go.Proofs
