/-
  DERIVED: THE SHELF's CONTRACTS AT THIS DUMP, IN PLAIN WORDS (tools/lay-plain.mjs out of 'YtcdjeblcmgghhaaListsTry.lean', which tools/lay-shelf.mjs wrote): THE SAME DECLARATIONS UNDER THE SAME NAMES: 'import', 'namespace', 'open', 'def', 'theorem' AND NOTHING ELSE: no command of the shelf's: FOR A HAND-IN. Each laying: the table of numbers ('.._ren') and one theorem, a field a fact of the dump's own or the kernel's comparison; each contract: ONE APPLICATION.
-/
import Derived.Shelf.Slices.Clone
import Derived.Shelf.Slices.SearchI
import Derived.Shelf.Slices.Empties
import Derived.Shelf.Spec.SlicesInsertGrow
import Derived.Ground.Names2Prog
import Derived.Test.YtcdjeblcmgghhaaProg
namespace Go.Proofs
open Go.Shelf
def Try.cloneI_ren : Go.Shelf.Ren := ⟨fun | 15 => 63 | n => n, fun | 22 => 28 | 3 => 3 | 4 => 4 | n => n, fun | n => n⟩
theorem Try.cloneI : Go.Proofs.Lays2.n15 Try.prog Try.cloneI_ren := {
  mixed := by kernel_rfl
  f15 := Try.func63.trans (congrArg some (by kernel_rfl))
  t3 := Try.underlying3
  a3 := Try.isAgg3
  z3 := Try.sizeOf3
  v3 := Try.zeroValue3
  t4 := Try.underlying4
  a4 := Try.isAgg4
  z4 := Try.sizeOf4
  v4 := Try.zeroValue4
  t22 := Try.underlying28
  a22 := Try.isAgg28
  z22 := Try.sizeOf28
  v22 := Try.zeroValue28
  i3 := by kernel_rfl }
def Try.searchI_ren : Go.Shelf.Ren := ⟨fun | 25 => 68 | 31 => 88 | 32 => 89 | 37 => 97 | n => n, fun | 22 => 28 | 3 => 3 | 4 => 4 | 40 => 92 | 0 => 0 | n => n, fun | n => n⟩
theorem Try.searchI : Go.Proofs.Lays2.n25 Try.prog Try.searchI_ren := {
  mixed := by kernel_rfl
  f25 := Try.func68.trans (congrArg some (by kernel_rfl))
  f31 := Try.func88.trans (congrArg some (by kernel_rfl))
  f32 := Try.func89.trans (congrArg some (by kernel_rfl))
  f37 := Try.func97.trans (congrArg some (by kernel_rfl))
  t0 := Try.underlying0
  a0 := Try.isAgg0
  z0 := Try.sizeOf0
  v0 := Try.zeroValue0
  t3 := Try.underlying3
  a3 := Try.isAgg3
  z3 := Try.sizeOf3
  v3 := Try.zeroValue3
  t4 := Try.underlying4
  a4 := Try.isAgg4
  z4 := Try.sizeOf4
  v4 := Try.zeroValue4
  t22 := Try.underlying28
  a22 := Try.isAgg28
  z22 := Try.sizeOf28
  v22 := Try.zeroValue28
  t40 := Try.underlying92
  a40 := Try.isAgg92
  z40 := Try.sizeOf92
  v40 := Try.zeroValue92 }
def Try.insertI_ren : Go.Shelf.Ren := ⟨fun | 21 => 69 | 27 => 90 | 28 => 91 | 35 => 98 | 39 => 109 | n => n, fun | 22 => 28 | 3 => 3 | 4 => 4 | 0 => 0 | n => n, fun | n => n⟩
theorem Try.insertI : Go.Proofs.Lays2.n21 Try.prog Try.insertI_ren := {
  mixed := by kernel_rfl
  f21 := Try.func69.trans (congrArg some (by kernel_rfl))
  f27 := Try.func90.trans (congrArg some (by kernel_rfl))
  f28 := Try.func91.trans (congrArg some (by kernel_rfl))
  f35 := Try.func98.trans (congrArg some (by kernel_rfl))
  f39 := Try.func109.trans (congrArg some (by kernel_rfl))
  t0 := Try.underlying0
  a0 := Try.isAgg0
  z0 := Try.sizeOf0
  v0 := Try.zeroValue0
  t3 := Try.underlying3
  a3 := Try.isAgg3
  z3 := Try.sizeOf3
  v3 := Try.zeroValue3
  t4 := Try.underlying4
  a4 := Try.isAgg4
  z4 := Try.sizeOf4
  v4 := Try.zeroValue4
  t22 := Try.underlying28
  a22 := Try.isAgg28
  z22 := Try.sizeOf28
  v22 := Try.zeroValue28
  i3 := by kernel_rfl }
end Go.Proofs
