/- Contracts of the Go library, laid at this translation by a program of the kit: slices.ContainsFunc, slices.Clone, maps.Clone; each under the premises that it states. -/
import Derived.Shelf.SlicesE.IndexFunc
import Derived.Shelf.SlicesE.Clone
import Derived.Shelf.SlMaps.Clone
import Derived.Test.YtgclancneohpbaaProg
namespace Go.Proofs
open Go.Shelf
def Try.containsF_ren : Go.Shelf.Ren := ⟨fun | 8 => 75 | 6 => 83 | n => n, fun | 22 => 34 | 23 => 9 | 25 => 116 | 4 => 4 | 3 => 3 | 0 => 0 | n => n, fun | n => n⟩
theorem Try.containsF : Go.Proofs.SlLaysH.n8 Try.prog Try.containsF_ren := {
  mixed := by kernel_rfl
  f6 := ⟨Try.f83.name, by decide, Try.func83.trans (congrArg some (by kernel_rfl))⟩
  f8 := ⟨Try.f75.name, by decide, Try.func75.trans (congrArg some (by kernel_rfl))⟩
  t0 := Try.underlying0
  a0 := Try.isAgg0
  z0 := Try.sizeOf0
  v0 := Try.zeroValue0
  t3 := Try.underlying3
  a3 := Try.isAgg3
  z3 := Try.sizeOf3
  v3 := Try.zeroValue3
  t4 := Try.underlying4
  a4 := Try.isAgg4
  z4 := Try.sizeOf4
  v4 := Try.zeroValue4
  t22 := Try.underlying34
  a22 := Try.isAgg34
  z22 := Try.sizeOf34
  v22 := Try.zeroValue34
  a23 := Try.isAgg9
  z23 := Try.sizeOf9
  t25 := Try.underlying116
  a25 := Try.isAgg116
  z25 := Try.sizeOf116
  v25 := Try.zeroValue116 }
def Try.cloneB_ren : Go.Shelf.Ren := ⟨fun | 41 => 53 | n => n, fun | 22 => 51 | 23 => 5 | 4 => 4 | n => n, fun | n => n⟩
theorem Try.cloneB : Go.Proofs.SlLaysE0.n41 Try.prog Try.cloneB_ren := {
  mixed := by kernel_rfl
  f41 := ⟨Try.f53.name, by decide, Try.func53.trans (congrArg some (by kernel_rfl))⟩
  t4 := Try.underlying4
  a4 := Try.isAgg4
  z4 := Try.sizeOf4
  v4 := Try.zeroValue4
  t22 := Try.underlying51
  a22 := Try.isAgg51
  z22 := Try.sizeOf51
  v22 := Try.zeroValue51 }
def Try.cloneM_ren : Go.Shelf.Ren := ⟨fun | 5 => 52 | 7 => 70 | n => n, fun | 23 => 85 | 25 => 9 | 3 => 89 | 4 => 4 | 20 => 20 | n => n, fun | n => n⟩
theorem Try.cloneM : Go.Proofs.SlLaysW.n5 Try.prog Try.cloneM_ren := {
  mixed := by kernel_rfl
  f5 := ⟨Try.f52.name, by decide, Try.func52.trans (congrArg some (by kernel_rfl))⟩
  f7 := Try.func70.trans (congrArg some (by kernel_rfl))
  t4 := Try.underlying4
  a4 := Try.isAgg4
  z4 := Try.sizeOf4
  v4 := Try.zeroValue4
  t20 := Try.underlying20
  a20 := Try.isAgg20
  z20 := Try.sizeOf20
  v20 := Try.zeroValue20
  t23 := Try.underlying85
  a23 := Try.isAgg85
  z23 := Try.sizeOf85
  v23 := Try.zeroValue85 }
end Go.Proofs
