/-
  DERIVED: THE SHELF's CONTRACTS AT THIS DUMP, IN PLAIN WORDS (tools/lay-plain.mjs out of 'TryShelfG.lean', which tools/lay-shelf.mjs wrote): THE SAME DECLARATIONS UNDER THE SAME NAMES: 'import', 'namespace', 'open', 'def', 'theorem' AND NOTHING ELSE: no command of the shelf's: FOR A HAND-IN. Each laying: the table of numbers ('.._ren') and one theorem, a field a fact of the dump's own or the kernel's comparison; each contract: ONE APPLICATION.
-/
import Derived.Shelf.SlGeneric
import Derived.Shelf.SlIterI.Nil
import Derived.Shelf.SlIterI.Collect
import Derived.Ground.GgzProg
import Derived.Test.YtcniepogobgaoaaProg
namespace Go.Proofs
open Go.Shelf
def Try.keysV_ren : Go.Shelf.Ren := ⟨fun | 7 => 49 | 10 => 64 | n => n, fun | 23 => 53 | 26 => 3 | 3 => 30 | 28 => 96 | 0 => 0 | 27 => 95 | 33 => 60 | 4 => 4 | n => n, fun | n => n⟩
theorem Try.keysV : Go.Proofs.SlLaysZI.n7 Try.prog Try.keysV_ren := {
  mixed := by kernel_rfl
  f7 := ⟨Try.f49.name, by decide, Try.func49.trans (congrArg some (by kernel_rfl))⟩
  f10 := ⟨Try.f64.name, by decide, Try.func64.trans (congrArg some (by kernel_rfl))⟩
  t0 := Try.underlying0
  a0 := Try.isAgg0
  z0 := Try.sizeOf0
  v0 := Try.zeroValue0
  t4 := Try.underlying4
  a4 := Try.isAgg4
  z4 := Try.sizeOf4
  v4 := Try.zeroValue4
  t23 := Try.underlying53
  a23 := Try.isAgg53
  z23 := Try.sizeOf53
  v23 := Try.zeroValue53
  t26 := Try.underlying3
  a26 := Try.isAgg3
  z26 := Try.sizeOf3
  v26 := Try.zeroValue3
  t27 := Try.underlying95
  a27 := Try.isAgg95
  z27 := Try.sizeOf95
  v27 := Try.zeroValue95
  t28 := Try.underlying96
  a28 := Try.isAgg96
  z28 := Try.sizeOf96
  v28 := Try.zeroValue96
  t33 := Try.underlying60
  a33 := Try.isAgg60
  z33 := Try.sizeOf60
  v33 := Try.zeroValue60 }
def Try.collV_ren : Go.Shelf.Ren := ⟨fun | 8 => 48 | 11 => 63 | n => n, fun | 26 => 3 | 28 => 96 | 24 => 22 | 0 => 0 | 33 => 60 | 4 => 4 | n => n, fun | n => n⟩
theorem Try.collV : Go.Proofs.SlLaysZI.n8 Try.prog Try.collV_ren := {
  mixed := by kernel_rfl
  f8 := ⟨Try.f48.name, by decide, Try.func48.trans (congrArg some (by kernel_rfl))⟩
  f11 := ⟨Try.f63.name, by decide, Try.func63.trans (congrArg some (by kernel_rfl))⟩
  t0 := Try.underlying0
  a0 := Try.isAgg0
  z0 := Try.sizeOf0
  v0 := Try.zeroValue0
  t24 := Try.underlying22
  a24 := Try.isAgg22
  z24 := Try.sizeOf22
  v24 := Try.zeroValue22
  t26 := Try.underlying3
  a26 := Try.isAgg3
  z26 := Try.sizeOf3
  v26 := Try.zeroValue3
  t28 := Try.underlying96
  a28 := Try.isAgg96
  z28 := Try.sizeOf96
  v28 := Try.zeroValue96
  i26 := by kernel_rfl }
end Go.Proofs
