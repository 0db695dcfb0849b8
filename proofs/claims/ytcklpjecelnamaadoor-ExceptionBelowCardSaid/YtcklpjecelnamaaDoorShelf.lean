/-
  DERIVED: THE SHELF's CONTRACTS AT THIS DUMP, IN PLAIN WORDS (tools/lay-plain.mjs out of 'TrydShelf.lean', which tools/lay-shelf.mjs wrote): THE SAME DECLARATIONS UNDER THE SAME NAMES: 'import', 'namespace', 'open', 'def', 'theorem' AND NOTHING ELSE: no command of the shelf's: FOR A HAND-IN. Each laying: the table of numbers ('.._ren') and one theorem, a field a fact of the dump's own or the kernel's comparison; each contract: ONE APPLICATION.
-/
import Derived.Shelf.SortM.Plain
import Derived.Ground.SlgmProg
import Derived.Test.YtcklpjecelnamaaDoorProg
namespace Go.Proofs
open Go.Shelf
def Tryd.sortA_ren : Go.Shelf.Ren := ⟨fun | 5 => 24 | 8 => 44 | 7 => 43 | 19 => 76 | 20 => 77 | 10 => 67 | 11 => 68 | 12 => 69 | 13 => 70 | 14 => 71 | 15 => 72 | 16 => 73 | 17 => 74 | 18 => 75 | 30 => 86 | 31 => 87 | 32 => 88 | 33 => 89 | 34 => 90 | 35 => 66 | 40 => 95 | n => n, fun | 23 => 29 | 25 => 3 | 3 => 3 | 32 => 85 | 22 => 29 | 0 => 0 | 44 => 107 | 46 => 109 | 4 => 4 | 36 => 100 | 35 => 99 | 41 => 104 | 5 => 5 | 9 => 9 | 53 => 118 | 57 => 122 | 63 => 126 | 64 => 127 | n => n, fun | n => n⟩
theorem Tryd.sortA : Go.Proofs.SlLaysM.n5 Tryd.prog Tryd.sortA_ren := {
  mixed := by kernel_rfl
  f5 := ⟨Tryd.f24.name, by decide, Tryd.func24.trans (congrArg some (by kernel_rfl))⟩
  f7 := ⟨Tryd.f43.name, by decide, Tryd.func43.trans (congrArg some (by kernel_rfl))⟩
  f8 := Tryd.func44.trans (congrArg some (by kernel_rfl))
  f10 := ⟨Tryd.f67.name, by decide, Tryd.func67.trans (congrArg some (by kernel_rfl))⟩
  f11 := ⟨Tryd.f68.name, by decide, Tryd.func68.trans (congrArg some (by kernel_rfl))⟩
  f12 := ⟨Tryd.f69.name, by decide, Tryd.func69.trans (congrArg some (by kernel_rfl))⟩
  f13 := ⟨Tryd.f70.name, by decide, Tryd.func70.trans (congrArg some (by kernel_rfl))⟩
  f14 := ⟨Tryd.f71.name, by decide, Tryd.func71.trans (congrArg some (by kernel_rfl))⟩
  f15 := ⟨Tryd.f72.name, by decide, Tryd.func72.trans (congrArg some (by kernel_rfl))⟩
  f16 := ⟨Tryd.f73.name, by decide, Tryd.func73.trans (congrArg some (by kernel_rfl))⟩
  f17 := ⟨Tryd.f74.name, by decide, Tryd.func74.trans (congrArg some (by kernel_rfl))⟩
  f18 := ⟨Tryd.f75.name, by decide, Tryd.func75.trans (congrArg some (by kernel_rfl))⟩
  f19 := Tryd.func76.trans (congrArg some (by kernel_rfl))
  f20 := Tryd.func77.trans (congrArg some (by kernel_rfl))
  f30 := ⟨Tryd.f86.name, by decide, Tryd.func86.trans (congrArg some (by kernel_rfl))⟩
  f31 := Tryd.func87.trans (congrArg some (by kernel_rfl))
  f32 := Tryd.func88.trans (congrArg some (by kernel_rfl))
  f33 := ⟨Tryd.f89.name, by decide, Tryd.func89.trans (congrArg some (by kernel_rfl))⟩
  f34 := ⟨Tryd.f90.name, by decide, Tryd.func90.trans (congrArg some (by kernel_rfl))⟩
  f35 := ⟨Tryd.f66.name, by decide, Tryd.func66.trans (congrArg some (by kernel_rfl))⟩
  f40 := ⟨Tryd.f95.name, by decide, Tryd.func95.trans (congrArg some (by kernel_rfl))⟩
  t0 := Tryd.underlying0
  a0 := Tryd.isAgg0
  z0 := Tryd.sizeOf0
  v0 := Tryd.zeroValue0
  t3 := Tryd.underlying3
  a3 := Tryd.isAgg3
  z3 := Tryd.sizeOf3
  v3 := Tryd.zeroValue3
  t4 := Tryd.underlying4
  a4 := Tryd.isAgg4
  z4 := Tryd.sizeOf4
  v4 := Tryd.zeroValue4
  t5 := Tryd.underlying5
  a5 := Tryd.isAgg5
  z5 := Tryd.sizeOf5
  v5 := Tryd.zeroValue5
  t9 := Tryd.underlying9
  a9 := Tryd.isAgg9
  z9 := Tryd.sizeOf9
  v9 := Tryd.zeroValue9
  t22 := Tryd.underlying29
  a22 := Tryd.isAgg29
  z22 := Tryd.sizeOf29
  v22 := Tryd.zeroValue29
  t23 := Tryd.underlying29
  a23 := Tryd.isAgg29
  z23 := Tryd.sizeOf29
  v23 := Tryd.zeroValue29
  t25 := Tryd.underlying3
  a25 := Tryd.isAgg3
  z25 := Tryd.sizeOf3
  v25 := Tryd.zeroValue3
  t32 := Tryd.underlying85
  a32 := Tryd.isAgg85
  z32 := Tryd.sizeOf85
  v32 := Tryd.zeroValue85
  t35 := Tryd.underlying99
  a35 := Tryd.isAgg99
  z35 := Tryd.sizeOf99
  v35 := Tryd.zeroValue99
  t36 := Tryd.underlying100
  a36 := Tryd.isAgg100
  z36 := Tryd.sizeOf100
  v36 := Tryd.zeroValue100
  t41 := Tryd.underlying104
  a41 := Tryd.isAgg104
  z41 := Tryd.sizeOf104
  v41 := Tryd.zeroValue104
  t44 := Tryd.underlying107
  a44 := Tryd.isAgg107
  z44 := Tryd.sizeOf107
  v44 := Tryd.zeroValue107
  t46 := Tryd.underlying109
  a46 := Tryd.isAgg109
  z46 := Tryd.sizeOf109
  v46 := Tryd.zeroValue109
  t53 := Tryd.underlying118
  a53 := Tryd.isAgg118
  z53 := Tryd.sizeOf118
  v53 := Tryd.zeroValue118
  t57 := Tryd.underlying122
  a57 := Tryd.isAgg122
  z57 := Tryd.sizeOf122
  v57 := Tryd.zeroValue122
  t63 := Tryd.underlying126
  a63 := Tryd.isAgg126
  z63 := Tryd.sizeOf126
  v63 := Tryd.zeroValue126
  t64 := Tryd.underlying127
  a64 := Tryd.isAgg127
  z64 := Tryd.sizeOf127
  v64 := Tryd.zeroValue127 }
end Go.Proofs
