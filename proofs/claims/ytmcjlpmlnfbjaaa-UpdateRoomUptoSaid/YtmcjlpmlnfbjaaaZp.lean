/-
  Merged texts, part p.
-/
import Derived.Test.YtmcjlpmlnfbjaaaZo
import Derived.Shelf.SlGeneric
import Derived.Shelf.SlIterI.Sorted
import Derived.Shelf.SlIterI.Keys
import Derived.Ground.GgzProg
import Derived.Test.YtmcjlpmlnfbjaaaProg
/-
  The contracts of maps.Keys and slices.Sorted at this program (written by the kit's lay-plain tool).
-/
namespace Go.Proofs
open Go.Shelf
def Try.keysM_ren : Go.Shelf.Ren := ⟨fun | 7 => 51 | 10 => 68 | n => n, fun | 23 => 92 | 26 => 3 | 3 => 4 | 28 => 99 | 0 => 0 | 27 => 98 | 33 => 76 | 4 => 4 | n => n, fun | n => n⟩
theorem Try.keysM : Go.Proofs.SlLaysZI.n7 Try.prog Try.keysM_ren := {
  mixed := by kernel_rfl
  f7 := ⟨Try.f51.name, by decide, Try.func51.trans (congrArg some (by kernel_rfl))⟩
  f10 := ⟨Try.f68.name, by decide, Try.func68.trans (congrArg some (by kernel_rfl))⟩
  t0 := Try.underlying0
  a0 := Try.isAgg0
  z0 := Try.sizeOf0
  v0 := Try.zeroValue0
  t4 := Try.underlying4
  a4 := Try.isAgg4
  z4 := Try.sizeOf4
  v4 := Try.zeroValue4
  t23 := Try.underlying92
  a23 := Try.isAgg92
  z23 := Try.sizeOf92
  v23 := Try.zeroValue92
  t26 := Try.underlying3
  a26 := Try.isAgg3
  z26 := Try.sizeOf3
  v26 := Try.zeroValue3
  t27 := Try.underlying98
  a27 := Try.isAgg98
  z27 := Try.sizeOf98
  v27 := Try.zeroValue98
  t28 := Try.underlying99
  a28 := Try.isAgg99
  z28 := Try.sizeOf99
  v28 := Try.zeroValue99
  t33 := Try.underlying76
  a33 := Try.isAgg76
  z33 := Try.sizeOf76
  v33 := Try.zeroValue76 }
def Try.sortedM_ren : Go.Shelf.Ren := ⟨fun | 6 => 50 | 8 => 66 | 9 => 67 | 11 => 73 | 13 => 75 | 12 => 74 | 23 => 84 | 24 => 85 | 14 => 76 | 15 => 77 | 16 => 78 | 17 => 79 | 18 => 80 | 19 => 81 | 20 => 62 | 21 => 82 | 22 => 83 | 25 => 86 | 26 => 87 | 27 => 88 | 28 => 89 | 29 => 90 | 30 => 72 | 31 => 91 | n => n, fun | 26 => 3 | 28 => 99 | 24 => 31 | 0 => 0 | 3 => 3 | 37 => 112 | 48 => 70 | 50 => 130 | 4 => 4 | 40 => 123 | 39 => 122 | 45 => 87 | 5 => 5 | 9 => 9 | 51 => 131 | 55 => 135 | 57 => 137 | 58 => 138 | 33 => 76 | n => n, fun | n => n⟩
theorem Try.sortedM : Go.Proofs.SlLaysZI.n6 Try.prog Try.sortedM_ren := {
  mixed := by kernel_rfl
  f6 := ⟨Try.f50.name, by decide, Try.func50.trans (congrArg some (by kernel_rfl))⟩
  f8 := ⟨Try.f66.name, by decide, Try.func66.trans (congrArg some (by kernel_rfl))⟩
  f11 := ⟨Try.f73.name, by decide, Try.func73.trans (congrArg some (by kernel_rfl))⟩
  t0 := Try.underlying0
  a0 := Try.isAgg0
  z0 := Try.sizeOf0
  v0 := Try.zeroValue0
  t24 := Try.underlying31
  a24 := Try.isAgg31
  z24 := Try.sizeOf31
  v24 := Try.zeroValue31
  t26 := Try.underlying3
  a26 := Try.isAgg3
  z26 := Try.sizeOf3
  v26 := Try.zeroValue3
  t28 := Try.underlying99
  a28 := Try.isAgg99
  z28 := Try.sizeOf99
  v28 := Try.zeroValue99
  i26 := by kernel_rfl }
end Go.Proofs

