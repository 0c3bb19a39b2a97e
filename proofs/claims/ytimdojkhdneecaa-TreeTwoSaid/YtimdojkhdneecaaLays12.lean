/- The library's contracts of slices.DeleteFunc, slices.Sorted and slices.Sort at int, laid at this program. -/
import Derived.Shelf.SlIterI.Nil
import Derived.Shelf.SortM.Plain
import Derived.Shelf.SortM.SortNone
import Derived.Shelf.SlicesE.DeleteFunc
import Derived.Ground.GgzProg
import Derived.Ground.SlgmProg
import Derived.Ground.SlgfProg
import Derived.Test.YtimdojkhdneecaaProg
namespace Go.Proofs
open Go.Shelf
def Try.delA_ren : Go.Shelf.Ren := ⟨fun | 10 => 66 | 6 => 73 | n => n, fun | 22 => 34 | 23 => 3 | 25 => 45 | 3 => 3 | 4 => 4 | 0 => 0 | n => n, fun | n => n⟩
theorem Try.delA : Go.Proofs.SlLaysH.n10 Try.prog Try.delA_ren := {
  mixed := by kernel_rfl
  f6 := ⟨Try.f73.name, by decide, Try.func73.trans (congrArg some (by kernel_rfl))⟩
  f10 := ⟨Try.f66.name, by decide, Try.func66.trans (congrArg some (by kernel_rfl))⟩
  t0 := Try.underlying0
  a0 := Try.isAgg0
  z0 := Try.sizeOf0
  v0 := Try.zeroValue0
  t3 := Try.underlying3
  a3 := Try.isAgg3
  z3 := Try.sizeOf3
  v3 := Try.zeroValue3
  t4 := Try.underlying4
  a4 := Try.isAgg4
  z4 := Try.sizeOf4
  v4 := Try.zeroValue4
  t22 := Try.underlying34
  a22 := Try.isAgg34
  z22 := Try.sizeOf34
  v22 := Try.zeroValue34
  a23 := Try.isAgg3
  z23 := Try.sizeOf3
  t25 := Try.underlying45
  a25 := Try.isAgg45
  z25 := Try.sizeOf45
  v25 := Try.zeroValue45 }
def Try.sortedA_ren : Go.Shelf.Ren := ⟨fun | 6 => 34 | 8 => 56 | 9 => 57 | 11 => 68 | 13 => 70 | 12 => 69 | 23 => 83 | 24 => 84 | 14 => 74 | 15 => 75 | 16 => 76 | 17 => 77 | 18 => 78 | 19 => 79 | 20 => 80 | 21 => 81 | 22 => 82 | 25 => 85 | 26 => 86 | 27 => 87 | 28 => 88 | 29 => 89 | 30 => 90 | 31 => 91 | n => n, fun | 26 => 3 | 28 => 74 | 24 => 34 | 0 => 0 | 3 => 3 | 37 => 119 | 48 => 132 | 50 => 61 | 4 => 4 | 40 => 125 | 39 => 124 | 45 => 111 | 5 => 5 | 9 => 9 | 51 => 134 | 55 => 138 | 57 => 140 | 58 => 95 | 33 => 45 | n => n, fun | n => n⟩
theorem Try.sortedA : Go.Proofs.SlLaysZI.n6 Try.prog Try.sortedA_ren := {
  mixed := by kernel_rfl
  f6 := ⟨Try.f34.name, by decide, Try.func34.trans (congrArg some (by kernel_rfl))⟩
  f8 := ⟨Try.f56.name, by decide, Try.func56.trans (congrArg some (by kernel_rfl))⟩
  f11 := ⟨Try.f68.name, by decide, Try.func68.trans (congrArg some (by kernel_rfl))⟩
  t0 := Try.underlying0
  a0 := Try.isAgg0
  z0 := Try.sizeOf0
  v0 := Try.zeroValue0
  t24 := Try.underlying34
  a24 := Try.isAgg34
  z24 := Try.sizeOf34
  v24 := Try.zeroValue34
  t26 := Try.underlying3
  a26 := Try.isAgg3
  z26 := Try.sizeOf3
  v26 := Try.zeroValue3
  t28 := Try.underlying74
  a28 := Try.isAgg74
  z28 := Try.sizeOf74
  v28 := Try.zeroValue74
  i26 := by kernel_rfl }
def Try.sortA_ren : Go.Shelf.Ren := ⟨fun | 5 => 57 | 8 => 70 | 7 => 69 | 19 => 83 | 20 => 84 | 10 => 74 | 11 => 75 | 12 => 76 | 13 => 77 | 14 => 78 | 15 => 79 | 16 => 80 | 17 => 81 | 18 => 82 | 30 => 85 | 31 => 86 | 32 => 87 | 33 => 88 | 34 => 89 | 35 => 90 | 40 => 91 | n => n, fun | 23 => 34 | 25 => 3 | 3 => 3 | 32 => 119 | 22 => 34 | 0 => 0 | 44 => 132 | 46 => 61 | 4 => 4 | 36 => 125 | 35 => 124 | 41 => 111 | 5 => 5 | 9 => 9 | 53 => 134 | 57 => 138 | 63 => 140 | 64 => 95 | n => n, fun | n => n⟩
theorem Try.sortA : Go.Proofs.SlLaysM.n5 Try.prog Try.sortA_ren := {
  mixed := by kernel_rfl
  f5 := ⟨Try.f57.name, by decide, Try.func57.trans (congrArg some (by kernel_rfl))⟩
  f7 := ⟨Try.f69.name, by decide, Try.func69.trans (congrArg some (by kernel_rfl))⟩
  f8 := Try.func70.trans (congrArg some (by kernel_rfl))
  f10 := ⟨Try.f74.name, by decide, Try.func74.trans (congrArg some (by kernel_rfl))⟩
  f11 := ⟨Try.f75.name, by decide, Try.func75.trans (congrArg some (by kernel_rfl))⟩
  f12 := ⟨Try.f76.name, by decide, Try.func76.trans (congrArg some (by kernel_rfl))⟩
  f13 := ⟨Try.f77.name, by decide, Try.func77.trans (congrArg some (by kernel_rfl))⟩
  f14 := ⟨Try.f78.name, by decide, Try.func78.trans (congrArg some (by kernel_rfl))⟩
  f15 := ⟨Try.f79.name, by decide, Try.func79.trans (congrArg some (by kernel_rfl))⟩
  f16 := ⟨Try.f80.name, by decide, Try.func80.trans (congrArg some (by kernel_rfl))⟩
  f17 := ⟨Try.f81.name, by decide, Try.func81.trans (congrArg some (by kernel_rfl))⟩
  f18 := ⟨Try.f82.name, by decide, Try.func82.trans (congrArg some (by kernel_rfl))⟩
  f19 := Try.func83.trans (congrArg some (by kernel_rfl))
  f20 := Try.func84.trans (congrArg some (by kernel_rfl))
  f30 := ⟨Try.f85.name, by decide, Try.func85.trans (congrArg some (by kernel_rfl))⟩
  f31 := Try.func86.trans (congrArg some (by kernel_rfl))
  f32 := Try.func87.trans (congrArg some (by kernel_rfl))
  f33 := ⟨Try.f88.name, by decide, Try.func88.trans (congrArg some (by kernel_rfl))⟩
  f34 := ⟨Try.f89.name, by decide, Try.func89.trans (congrArg some (by kernel_rfl))⟩
  f35 := ⟨Try.f90.name, by decide, Try.func90.trans (congrArg some (by kernel_rfl))⟩
  f40 := ⟨Try.f91.name, by decide, Try.func91.trans (congrArg some (by kernel_rfl))⟩
  t0 := Try.underlying0
  a0 := Try.isAgg0
  z0 := Try.sizeOf0
  v0 := Try.zeroValue0
  t3 := Try.underlying3
  a3 := Try.isAgg3
  z3 := Try.sizeOf3
  v3 := Try.zeroValue3
  t4 := Try.underlying4
  a4 := Try.isAgg4
  z4 := Try.sizeOf4
  v4 := Try.zeroValue4
  t5 := Try.underlying5
  a5 := Try.isAgg5
  z5 := Try.sizeOf5
  v5 := Try.zeroValue5
  t9 := Try.underlying9
  a9 := Try.isAgg9
  z9 := Try.sizeOf9
  v9 := Try.zeroValue9
  t22 := Try.underlying34
  a22 := Try.isAgg34
  z22 := Try.sizeOf34
  v22 := Try.zeroValue34
  t23 := Try.underlying34
  a23 := Try.isAgg34
  z23 := Try.sizeOf34
  v23 := Try.zeroValue34
  t25 := Try.underlying3
  a25 := Try.isAgg3
  z25 := Try.sizeOf3
  v25 := Try.zeroValue3
  t32 := Try.underlying119
  a32 := Try.isAgg119
  z32 := Try.sizeOf119
  v32 := Try.zeroValue119
  t35 := Try.underlying124
  a35 := Try.isAgg124
  z35 := Try.sizeOf124
  v35 := Try.zeroValue124
  t36 := Try.underlying125
  a36 := Try.isAgg125
  z36 := Try.sizeOf125
  v36 := Try.zeroValue125
  t41 := Try.underlying111
  a41 := Try.isAgg111
  z41 := Try.sizeOf111
  v41 := Try.zeroValue111
  t44 := Try.underlying132
  a44 := Try.isAgg132
  z44 := Try.sizeOf132
  v44 := Try.zeroValue132
  t46 := Try.underlying61
  a46 := Try.isAgg61
  z46 := Try.sizeOf61
  v46 := Try.zeroValue61
  t53 := Try.underlying134
  a53 := Try.isAgg134
  z53 := Try.sizeOf134
  v53 := Try.zeroValue134
  t57 := Try.underlying138
  a57 := Try.isAgg138
  z57 := Try.sizeOf138
  v57 := Try.zeroValue138
  t63 := Try.underlying140
  a63 := Try.isAgg140
  z63 := Try.sizeOf140
  v63 := Try.zeroValue140
  t64 := Try.underlying95
  a64 := Try.isAgg95
  z64 := Try.sizeOf95
  v64 := Try.zeroValue95 }
end Go.Proofs
