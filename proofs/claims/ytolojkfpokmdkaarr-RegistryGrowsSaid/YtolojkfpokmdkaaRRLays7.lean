/- The library's contracts of slices.DeleteFunc and slices.ContainsFunc at int, laid at this program. -/
import Derived.Shelf.SlicesE.DeleteFunc
import Derived.Shelf.SlicesE.IndexFunc
import Derived.Ground.SlgfProg
import Derived.Test.YtolojkfpokmdkaaRRProg
namespace Go.Proofs
open Go.Shelf
def Try.delA_ren : Go.Shelf.Ren := ⟨fun | 10 => 25 | 6 => 36 | n => n, fun | 22 => 29 | 23 => 3 | 25 => 32 | 3 => 3 | 4 => 4 | 0 => 0 | n => n, fun | n => n⟩
theorem Try.delA : Go.Proofs.SlLaysH.n10 Try.prog Try.delA_ren := {
  mixed := by kernel_rfl
  f6 := ⟨Try.f36.name, by decide, Try.func36.trans (congrArg some (by kernel_rfl))⟩
  f10 := ⟨Try.f25.name, by decide, Try.func25.trans (congrArg some (by kernel_rfl))⟩
  t0 := Try.underlying0
  a0 := Try.isAgg0
  z0 := Try.sizeOf0
  v0 := Try.zeroValue0
  t3 := Try.underlying3
  a3 := Try.isAgg3
  z3 := Try.sizeOf3
  v3 := Try.zeroValue3
  t4 := Try.underlying4
  a4 := Try.isAgg4
  z4 := Try.sizeOf4
  v4 := Try.zeroValue4
  t22 := Try.underlying29
  a22 := Try.isAgg29
  z22 := Try.sizeOf29
  v22 := Try.zeroValue29
  a23 := Try.isAgg3
  z23 := Try.sizeOf3
  t25 := Try.underlying32
  a25 := Try.isAgg32
  z25 := Try.sizeOf32
  v25 := Try.zeroValue32 }
def Try.contA_ren : Go.Shelf.Ren := ⟨fun | 8 => 23 | 6 => 36 | n => n, fun | 22 => 29 | 23 => 3 | 25 => 32 | 4 => 4 | 3 => 3 | 0 => 0 | n => n, fun | n => n⟩
theorem Try.contA : Go.Proofs.SlLaysH.n8 Try.prog Try.contA_ren := {
  mixed := by kernel_rfl
  f6 := ⟨Try.f36.name, by decide, Try.func36.trans (congrArg some (by kernel_rfl))⟩
  f8 := ⟨Try.f23.name, by decide, Try.func23.trans (congrArg some (by kernel_rfl))⟩
  t0 := Try.underlying0
  a0 := Try.isAgg0
  z0 := Try.sizeOf0
  v0 := Try.zeroValue0
  t3 := Try.underlying3
  a3 := Try.isAgg3
  z3 := Try.sizeOf3
  v3 := Try.zeroValue3
  t4 := Try.underlying4
  a4 := Try.isAgg4
  z4 := Try.sizeOf4
  v4 := Try.zeroValue4
  t22 := Try.underlying29
  a22 := Try.isAgg29
  z22 := Try.sizeOf29
  v22 := Try.zeroValue29
  a23 := Try.isAgg3
  z23 := Try.sizeOf3
  t25 := Try.underlying32
  a25 := Try.isAgg32
  z25 := Try.sizeOf32
  v25 := Try.zeroValue32 }
end Go.Proofs
