/-
  The shelf contracts on maps and sorted keys, laid at this program by the tool. Conditions: as each says.
-/
import Derived.Shelf.SlIter.Nil
import Derived.Shelf.SortM.Plain
import Derived.Shelf.SortM.SortNone
import Derived.Shelf.SlMaps.Clone
import Derived.Ground.GgzProg
import Derived.Ground.SlgmProg
import Derived.Ground.SlmcProg
import Derived.Test.YtfglopkglnpokaaProg
namespace Go.Proofs
open Go.Shelf
def Try.keysM_ren : Go.Shelf.Ren := ⟨fun | 7 => 34 | 10 => 54 | n => n, fun | 23 => 66 | 26 => 9 | 3 => 9 | 28 => 81 | 0 => 0 | 27 => 80 | 33 => 104 | 4 => 4 | n => n, fun | n => n⟩
theorem Try.keysM : Go.Proofs.SlLaysZ.n7 Try.prog Try.keysM_ren := {
  mixed := by kernel_rfl
  f7 := ⟨Try.f34.name, by decide, Try.func34.trans (congrArg some (by kernel_rfl))⟩
  f10 := ⟨Try.f54.name, by decide, Try.func54.trans (congrArg some (by kernel_rfl))⟩
  t0 := Try.underlying0
  a0 := Try.isAgg0
  z0 := Try.sizeOf0
  v0 := Try.zeroValue0
  t4 := Try.underlying4
  a4 := Try.isAgg4
  z4 := Try.sizeOf4
  v4 := Try.zeroValue4
  t23 := Try.underlying66
  a23 := Try.isAgg66
  z23 := Try.sizeOf66
  v23 := Try.zeroValue66
  t26 := Try.underlying9
  a26 := Try.isAgg9
  z26 := Try.sizeOf9
  v26 := Try.zeroValue9
  t27 := Try.underlying80
  a27 := Try.isAgg80
  z27 := Try.sizeOf80
  v27 := Try.zeroValue80
  t28 := Try.underlying81
  a28 := Try.isAgg81
  z28 := Try.sizeOf81
  v28 := Try.zeroValue81
  t33 := Try.underlying104
  a33 := Try.isAgg104
  z33 := Try.sizeOf104
  v33 := Try.zeroValue104 }
def Try.sortedM_ren : Go.Shelf.Ren := ⟨fun | 6 => 33 | 8 => 52 | 9 => 53 | 11 => 70 | 13 => 72 | 12 => 71 | 23 => 91 | 24 => 92 | 14 => 82 | 15 => 83 | 16 => 84 | 17 => 85 | 18 => 86 | 19 => 87 | 20 => 88 | 21 => 89 | 22 => 90 | 25 => 95 | 26 => 96 | 27 => 97 | 28 => 98 | 29 => 99 | 30 => 100 | 31 => 101 | n => n, fun | 26 => 9 | 28 => 81 | 24 => 71 | 0 => 0 | 3 => 3 | 37 => 77 | 48 => 129 | 50 => 31 | 4 => 4 | 40 => 140 | 39 => 139 | 45 => 144 | 5 => 5 | 9 => 9 | 51 => 151 | 55 => 154 | 57 => 156 | 58 => 157 | 33 => 104 | n => n, fun | n => n⟩
theorem Try.sortedM : Go.Proofs.SlLaysZ.n6 Try.prog Try.sortedM_ren := {
  mixed := by kernel_rfl
  f6 := ⟨Try.f33.name, by decide, Try.func33.trans (congrArg some (by kernel_rfl))⟩
  f8 := ⟨Try.f52.name, by decide, Try.func52.trans (congrArg some (by kernel_rfl))⟩
  f11 := ⟨Try.f70.name, by decide, Try.func70.trans (congrArg some (by kernel_rfl))⟩
  t0 := Try.underlying0
  a0 := Try.isAgg0
  z0 := Try.sizeOf0
  v0 := Try.zeroValue0
  t24 := Try.underlying71
  a24 := Try.isAgg71
  z24 := Try.sizeOf71
  v24 := Try.zeroValue71
  t26 := Try.underlying9
  a26 := Try.isAgg9
  z26 := Try.sizeOf9
  v26 := Try.zeroValue9
  t28 := Try.underlying81
  a28 := Try.isAgg81
  z28 := Try.sizeOf81
  v28 := Try.zeroValue81
  i26 := by kernel_rfl }
def Try.sortM_ren : Go.Shelf.Ren := ⟨fun | 6 => 53 | 8 => 72 | 9 => 71 | 19 => 91 | 20 => 92 | 21 => 82 | 22 => 83 | 23 => 84 | 24 => 85 | 25 => 86 | 26 => 87 | 27 => 88 | 28 => 89 | 29 => 90 | 36 => 95 | 31 => 96 | 32 => 97 | 37 => 98 | 38 => 99 | 39 => 100 | 41 => 101 | n => n, fun | 27 => 71 | 29 => 9 | 3 => 3 | 32 => 77 | 26 => 71 | 0 => 0 | 44 => 129 | 46 => 31 | 4 => 4 | 36 => 140 | 35 => 139 | 41 => 144 | 5 => 5 | 9 => 9 | 53 => 151 | 57 => 154 | 63 => 156 | 64 => 157 | n => n, fun | n => n⟩
theorem Try.sortM : Go.Proofs.SlLaysM.n6 Try.prog Try.sortM_ren := {
  mixed := by kernel_rfl
  f6 := ⟨Try.f53.name, by decide, Try.func53.trans (congrArg some (by kernel_rfl))⟩
  f8 := Try.func72.trans (congrArg some (by kernel_rfl))
  f9 := ⟨Try.f71.name, by decide, Try.func71.trans (congrArg some (by kernel_rfl))⟩
  f19 := Try.func91.trans (congrArg some (by kernel_rfl))
  f20 := Try.func92.trans (congrArg some (by kernel_rfl))
  f21 := ⟨Try.f82.name, by decide, Try.func82.trans (congrArg some (by kernel_rfl))⟩
  f22 := ⟨Try.f83.name, by decide, Try.func83.trans (congrArg some (by kernel_rfl))⟩
  f23 := ⟨Try.f84.name, by decide, Try.func84.trans (congrArg some (by kernel_rfl))⟩
  f24 := ⟨Try.f85.name, by decide, Try.func85.trans (congrArg some (by kernel_rfl))⟩
  f25 := ⟨Try.f86.name, by decide, Try.func86.trans (congrArg some (by kernel_rfl))⟩
  f26 := ⟨Try.f87.name, by decide, Try.func87.trans (congrArg some (by kernel_rfl))⟩
  f27 := ⟨Try.f88.name, by decide, Try.func88.trans (congrArg some (by kernel_rfl))⟩
  f28 := ⟨Try.f89.name, by decide, Try.func89.trans (congrArg some (by kernel_rfl))⟩
  f29 := ⟨Try.f90.name, by decide, Try.func90.trans (congrArg some (by kernel_rfl))⟩
  f31 := Try.func96.trans (congrArg some (by kernel_rfl))
  f32 := Try.func97.trans (congrArg some (by kernel_rfl))
  f36 := ⟨Try.f95.name, by decide, Try.func95.trans (congrArg some (by kernel_rfl))⟩
  f37 := ⟨Try.f98.name, by decide, Try.func98.trans (congrArg some (by kernel_rfl))⟩
  f38 := ⟨Try.f99.name, by decide, Try.func99.trans (congrArg some (by kernel_rfl))⟩
  f39 := ⟨Try.f100.name, by decide, Try.func100.trans (congrArg some (by kernel_rfl))⟩
  f41 := ⟨Try.f101.name, by decide, Try.func101.trans (congrArg some (by kernel_rfl))⟩
  t0 := Try.underlying0
  a0 := Try.isAgg0
  z0 := Try.sizeOf0
  v0 := Try.zeroValue0
  t3 := Try.underlying3
  a3 := Try.isAgg3
  z3 := Try.sizeOf3
  v3 := Try.zeroValue3
  t4 := Try.underlying4
  a4 := Try.isAgg4
  z4 := Try.sizeOf4
  v4 := Try.zeroValue4
  t5 := Try.underlying5
  a5 := Try.isAgg5
  z5 := Try.sizeOf5
  v5 := Try.zeroValue5
  t9 := Try.underlying9
  a9 := Try.isAgg9
  z9 := Try.sizeOf9
  v9 := Try.zeroValue9
  t26 := Try.underlying71
  a26 := Try.isAgg71
  z26 := Try.sizeOf71
  v26 := Try.zeroValue71
  t27 := Try.underlying71
  a27 := Try.isAgg71
  z27 := Try.sizeOf71
  v27 := Try.zeroValue71
  t29 := Try.underlying9
  a29 := Try.isAgg9
  z29 := Try.sizeOf9
  v29 := Try.zeroValue9
  t32 := Try.underlying77
  a32 := Try.isAgg77
  z32 := Try.sizeOf77
  v32 := Try.zeroValue77
  t35 := Try.underlying139
  a35 := Try.isAgg139
  z35 := Try.sizeOf139
  v35 := Try.zeroValue139
  t36 := Try.underlying140
  a36 := Try.isAgg140
  z36 := Try.sizeOf140
  v36 := Try.zeroValue140
  t41 := Try.underlying144
  a41 := Try.isAgg144
  z41 := Try.sizeOf144
  v41 := Try.zeroValue144
  t44 := Try.underlying129
  a44 := Try.isAgg129
  z44 := Try.sizeOf129
  v44 := Try.zeroValue129
  t46 := Try.underlying31
  a46 := Try.isAgg31
  z46 := Try.sizeOf31
  v46 := Try.zeroValue31
  t53 := Try.underlying151
  a53 := Try.isAgg151
  z53 := Try.sizeOf151
  v53 := Try.zeroValue151
  t57 := Try.underlying154
  a57 := Try.isAgg154
  z57 := Try.sizeOf154
  v57 := Try.zeroValue154
  t63 := Try.underlying156
  a63 := Try.isAgg156
  z63 := Try.sizeOf156
  v63 := Try.zeroValue156
  t64 := Try.underlying157
  a64 := Try.isAgg157
  z64 := Try.sizeOf157
  v64 := Try.zeroValue157 }
def Try.cloneM_ren : Go.Shelf.Ren := ⟨fun | 5 => 68 | 7 => 80 | n => n, fun | 23 => 66 | 25 => 9 | 3 => 9 | 4 => 4 | 20 => 20 | n => n, fun | n => n⟩
theorem Try.cloneM : Go.Proofs.SlLaysW.n5 Try.prog Try.cloneM_ren := {
  mixed := by kernel_rfl
  f5 := ⟨Try.f68.name, by decide, Try.func68.trans (congrArg some (by kernel_rfl))⟩
  f7 := Try.func80.trans (congrArg some (by kernel_rfl))
  t4 := Try.underlying4
  a4 := Try.isAgg4
  z4 := Try.sizeOf4
  v4 := Try.zeroValue4
  t20 := Try.underlying20
  a20 := Try.isAgg20
  z20 := Try.sizeOf20
  v20 := Try.zeroValue20
  t23 := Try.underlying66
  a23 := Try.isAgg66
  z23 := Try.sizeOf66
  v23 := Try.zeroValue66 }
end Go.Proofs
