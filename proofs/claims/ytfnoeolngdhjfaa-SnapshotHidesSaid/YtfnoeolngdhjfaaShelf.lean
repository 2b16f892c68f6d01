/-
  DERIVED: THE SHELF's CONTRACTS AT THIS DUMP, IN PLAIN WORDS (tools/lay-plain.mjs out of 'TryShelfS.lean', which tools/lay-shelf.mjs wrote): THE SAME DECLARATIONS UNDER THE SAME NAMES: 'import', 'namespace', 'open', 'def', 'theorem' AND NOTHING ELSE: no command of the shelf's: FOR A HAND-IN. Each laying: the table of numbers ('.._ren') and one theorem, a field a fact of the dump's own or the kernel's comparison; each contract: ONE APPLICATION.
-/
import Derived.Shelf.SlGeneric
import Derived.Shelf.SlIterI.Nil
import Derived.Shelf.SlIterI.Sorted
import Derived.Shelf.SortM.Plain
import Derived.Shelf.SortM.SortNone
import Derived.Shelf.SlMaps.DeleteFunc
import Derived.Shelf.SlMaps.Copy
import Derived.Ground.GgzProg
import Derived.Ground.SlgmProg
import Derived.Ground.SlmdProg
import Derived.Ground.SlmpProg
import Derived.Test.YtfnoeolngdhjfaaProg
namespace Go.Proofs
open Go.Shelf
def Try.keysA_ren : Go.Shelf.Ren := ⟨fun | 7 => 45 | 10 => 61 | n => n, fun | 23 => 77 | 26 => 3 | 3 => 3 | 28 => 88 | 0 => 0 | 27 => 87 | 33 => 110 | 4 => 4 | n => n, fun | n => n⟩
theorem Try.keysA : Go.Proofs.SlLaysZI.n7 Try.prog Try.keysA_ren := {
  mixed := by kernel_rfl
  f7 := ⟨Try.f45.name, by decide, Try.func45.trans (congrArg some (by kernel_rfl))⟩
  f10 := ⟨Try.f61.name, by decide, Try.func61.trans (congrArg some (by kernel_rfl))⟩
  t0 := Try.underlying0
  a0 := Try.isAgg0
  z0 := Try.sizeOf0
  v0 := Try.zeroValue0
  t4 := Try.underlying4
  a4 := Try.isAgg4
  z4 := Try.sizeOf4
  v4 := Try.zeroValue4
  t23 := Try.underlying77
  a23 := Try.isAgg77
  z23 := Try.sizeOf77
  v23 := Try.zeroValue77
  t26 := Try.underlying3
  a26 := Try.isAgg3
  z26 := Try.sizeOf3
  v26 := Try.zeroValue3
  t27 := Try.underlying87
  a27 := Try.isAgg87
  z27 := Try.sizeOf87
  v27 := Try.zeroValue87
  t28 := Try.underlying88
  a28 := Try.isAgg88
  z28 := Try.sizeOf88
  v28 := Try.zeroValue88
  t33 := Try.underlying110
  a33 := Try.isAgg110
  z33 := Try.sizeOf110
  v33 := Try.zeroValue110 }
def Try.sortedA_ren : Go.Shelf.Ren := ⟨fun | 6 => 44 | 8 => 59 | 9 => 60 | 11 => 70 | 13 => 72 | 12 => 71 | 23 => 89 | 24 => 90 | 14 => 80 | 15 => 81 | 16 => 82 | 17 => 83 | 18 => 84 | 19 => 85 | 20 => 86 | 21 => 87 | 22 => 88 | 25 => 92 | 26 => 93 | 27 => 94 | 28 => 95 | 29 => 96 | 30 => 97 | 31 => 98 | n => n, fun | 26 => 3 | 28 => 88 | 24 => 22 | 0 => 0 | 3 => 3 | 37 => 82 | 48 => 130 | 50 => 60 | 4 => 4 | 40 => 124 | 39 => 123 | 45 => 71 | 5 => 5 | 9 => 9 | 51 => 132 | 55 => 135 | 57 => 137 | 58 => 138 | 33 => 110 | n => n, fun | n => n⟩
theorem Try.sortedA : Go.Proofs.SlLaysZI.n6 Try.prog Try.sortedA_ren := {
  mixed := by kernel_rfl
  f6 := ⟨Try.f44.name, by decide, Try.func44.trans (congrArg some (by kernel_rfl))⟩
  f8 := ⟨Try.f59.name, by decide, Try.func59.trans (congrArg some (by kernel_rfl))⟩
  f11 := ⟨Try.f70.name, by decide, Try.func70.trans (congrArg some (by kernel_rfl))⟩
  t0 := Try.underlying0
  a0 := Try.isAgg0
  z0 := Try.sizeOf0
  v0 := Try.zeroValue0
  t24 := Try.underlying22
  a24 := Try.isAgg22
  z24 := Try.sizeOf22
  v24 := Try.zeroValue22
  t26 := Try.underlying3
  a26 := Try.isAgg3
  z26 := Try.sizeOf3
  v26 := Try.zeroValue3
  t28 := Try.underlying88
  a28 := Try.isAgg88
  z28 := Try.sizeOf88
  v28 := Try.zeroValue88
  i26 := by kernel_rfl }
def Try.sortA_ren : Go.Shelf.Ren := ⟨fun | 5 => 60 | 8 => 72 | 7 => 71 | 19 => 89 | 20 => 90 | 10 => 80 | 11 => 81 | 12 => 82 | 13 => 83 | 14 => 84 | 15 => 85 | 16 => 86 | 17 => 87 | 18 => 88 | 30 => 92 | 31 => 93 | 32 => 94 | 33 => 95 | 34 => 96 | 35 => 97 | 40 => 98 | n => n, fun | 23 => 22 | 25 => 3 | 3 => 3 | 32 => 82 | 22 => 22 | 0 => 0 | 44 => 130 | 46 => 60 | 4 => 4 | 36 => 124 | 35 => 123 | 41 => 71 | 5 => 5 | 9 => 9 | 53 => 132 | 57 => 135 | 63 => 137 | 64 => 138 | n => n, fun | n => n⟩
theorem Try.sortA : Go.Proofs.SlLaysM.n5 Try.prog Try.sortA_ren := {
  mixed := by kernel_rfl
  f5 := ⟨Try.f60.name, by decide, Try.func60.trans (congrArg some (by kernel_rfl))⟩
  f7 := ⟨Try.f71.name, by decide, Try.func71.trans (congrArg some (by kernel_rfl))⟩
  f8 := Try.func72.trans (congrArg some (by kernel_rfl))
  f10 := ⟨Try.f80.name, by decide, Try.func80.trans (congrArg some (by kernel_rfl))⟩
  f11 := ⟨Try.f81.name, by decide, Try.func81.trans (congrArg some (by kernel_rfl))⟩
  f12 := ⟨Try.f82.name, by decide, Try.func82.trans (congrArg some (by kernel_rfl))⟩
  f13 := ⟨Try.f83.name, by decide, Try.func83.trans (congrArg some (by kernel_rfl))⟩
  f14 := ⟨Try.f84.name, by decide, Try.func84.trans (congrArg some (by kernel_rfl))⟩
  f15 := ⟨Try.f85.name, by decide, Try.func85.trans (congrArg some (by kernel_rfl))⟩
  f16 := ⟨Try.f86.name, by decide, Try.func86.trans (congrArg some (by kernel_rfl))⟩
  f17 := ⟨Try.f87.name, by decide, Try.func87.trans (congrArg some (by kernel_rfl))⟩
  f18 := ⟨Try.f88.name, by decide, Try.func88.trans (congrArg some (by kernel_rfl))⟩
  f19 := Try.func89.trans (congrArg some (by kernel_rfl))
  f20 := Try.func90.trans (congrArg some (by kernel_rfl))
  f30 := ⟨Try.f92.name, by decide, Try.func92.trans (congrArg some (by kernel_rfl))⟩
  f31 := Try.func93.trans (congrArg some (by kernel_rfl))
  f32 := Try.func94.trans (congrArg some (by kernel_rfl))
  f33 := ⟨Try.f95.name, by decide, Try.func95.trans (congrArg some (by kernel_rfl))⟩
  f34 := ⟨Try.f96.name, by decide, Try.func96.trans (congrArg some (by kernel_rfl))⟩
  f35 := ⟨Try.f97.name, by decide, Try.func97.trans (congrArg some (by kernel_rfl))⟩
  f40 := ⟨Try.f98.name, by decide, Try.func98.trans (congrArg some (by kernel_rfl))⟩
  t0 := Try.underlying0
  a0 := Try.isAgg0
  z0 := Try.sizeOf0
  v0 := Try.zeroValue0
  t3 := Try.underlying3
  a3 := Try.isAgg3
  z3 := Try.sizeOf3
  v3 := Try.zeroValue3
  t4 := Try.underlying4
  a4 := Try.isAgg4
  z4 := Try.sizeOf4
  v4 := Try.zeroValue4
  t5 := Try.underlying5
  a5 := Try.isAgg5
  z5 := Try.sizeOf5
  v5 := Try.zeroValue5
  t9 := Try.underlying9
  a9 := Try.isAgg9
  z9 := Try.sizeOf9
  v9 := Try.zeroValue9
  t22 := Try.underlying22
  a22 := Try.isAgg22
  z22 := Try.sizeOf22
  v22 := Try.zeroValue22
  t23 := Try.underlying22
  a23 := Try.isAgg22
  z23 := Try.sizeOf22
  v23 := Try.zeroValue22
  t25 := Try.underlying3
  a25 := Try.isAgg3
  z25 := Try.sizeOf3
  v25 := Try.zeroValue3
  t32 := Try.underlying82
  a32 := Try.isAgg82
  z32 := Try.sizeOf82
  v32 := Try.zeroValue82
  t35 := Try.underlying123
  a35 := Try.isAgg123
  z35 := Try.sizeOf123
  v35 := Try.zeroValue123
  t36 := Try.underlying124
  a36 := Try.isAgg124
  z36 := Try.sizeOf124
  v36 := Try.zeroValue124
  t41 := Try.underlying71
  a41 := Try.isAgg71
  z41 := Try.sizeOf71
  v41 := Try.zeroValue71
  t44 := Try.underlying130
  a44 := Try.isAgg130
  z44 := Try.sizeOf130
  v44 := Try.zeroValue130
  t46 := Try.underlying60
  a46 := Try.isAgg60
  z46 := Try.sizeOf60
  v46 := Try.zeroValue60
  t53 := Try.underlying132
  a53 := Try.isAgg132
  z53 := Try.sizeOf132
  v53 := Try.zeroValue132
  t57 := Try.underlying135
  a57 := Try.isAgg135
  z57 := Try.sizeOf135
  v57 := Try.zeroValue135
  t63 := Try.underlying137
  a63 := Try.isAgg137
  z63 := Try.sizeOf137
  v63 := Try.zeroValue137
  t64 := Try.underlying138
  a64 := Try.isAgg138
  z64 := Try.sizeOf138
  v64 := Try.zeroValue138 }
def Try.dfA_ren : Go.Shelf.Ren := ⟨fun | 5 => 41 | n => n, fun | 23 => 77 | 26 => 3 | 24 => 3 | 27 => 84 | 0 => 0 | 4 => 4 | n => n, fun | n => n⟩
theorem Try.dfA : Go.Proofs.SlLaysDf.n5 Try.prog Try.dfA_ren := {
  mixed := by kernel_rfl
  f5 := ⟨Try.f41.name, by decide, Try.func41.trans (congrArg some (by kernel_rfl))⟩
  t0 := Try.underlying0
  a0 := Try.isAgg0
  z0 := Try.sizeOf0
  v0 := Try.zeroValue0
  t4 := Try.underlying4
  a4 := Try.isAgg4
  z4 := Try.sizeOf4
  v4 := Try.zeroValue4
  t23 := Try.underlying77
  a23 := Try.isAgg77
  z23 := Try.sizeOf77
  v23 := Try.zeroValue77
  a24 := Try.isAgg3
  z24 := Try.sizeOf3
  a26 := Try.isAgg3
  z26 := Try.sizeOf3
  t27 := Try.underlying84
  a27 := Try.isAgg84
  z27 := Try.sizeOf84
  v27 := Try.zeroValue84 }
def Try.copyA_ren : Go.Shelf.Ren := ⟨fun | 5 => 43 | n => n, fun | 23 => 77 | 24 => 77 | 26 => 3 | 27 => 3 | 0 => 0 | 4 => 4 | n => n, fun | n => n⟩
theorem Try.copyA : Go.Proofs.SlLaysX.n5 Try.prog Try.copyA_ren := {
  mixed := by kernel_rfl
  f5 := ⟨Try.f43.name, by decide, Try.func43.trans (congrArg some (by kernel_rfl))⟩
  t0 := Try.underlying0
  a0 := Try.isAgg0
  z0 := Try.sizeOf0
  v0 := Try.zeroValue0
  t4 := Try.underlying4
  a4 := Try.isAgg4
  z4 := Try.sizeOf4
  v4 := Try.zeroValue4
  t23 := Try.underlying77
  a23 := Try.isAgg77
  z23 := Try.sizeOf77
  v23 := Try.zeroValue77
  t24 := Try.underlying77
  a24 := Try.isAgg77
  z24 := Try.sizeOf77
  v24 := Try.zeroValue77
  a26 := Try.isAgg3
  z26 := Try.sizeOf3
  a27 := Try.isAgg3
  z27 := Try.sizeOf3 }
end Go.Proofs
