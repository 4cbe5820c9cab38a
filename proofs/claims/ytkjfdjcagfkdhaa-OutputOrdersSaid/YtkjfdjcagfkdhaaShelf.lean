/-
  DERIVED: THE SHELF's CONTRACTS AT THIS DUMP, IN PLAIN WORDS (tools/lay-plain.mjs out of 'TryShelf.lean', which tools/lay-shelf.mjs wrote): THE SAME DECLARATIONS UNDER THE SAME NAMES: 'import', 'namespace', 'open', 'def', 'theorem' AND NOTHING ELSE: no command of the shelf's: FOR A HAND-IN. Each laying: the table of numbers ('.._ren') and one theorem, a field a fact of the dump's own or the kernel's comparison; each contract: ONE APPLICATION.
-/
import Derived.Shelf.Small.Bits
import Derived.Shelf.SlGeneric
import Derived.Shelf.SlSortCmp.WholeK
import Derived.Ground.SlsfProg
import Derived.Test.YtkjfdjcagfkdhaaProg
namespace Go.Proofs
open Go.Shelf
def Try.sortRs_ren : Go.Shelf.Ren := ⟨fun | 6 => 45 | 15 => 65 | 14 => 64 | 28 => 82 | 29 => 83 | 20 => 74 | 21 => 75 | 22 => 76 | 23 => 77 | 24 => 78 | 25 => 79 | 26 => 80 | 27 => 81 | 46 => 89 | 47 => 90 | 48 => 91 | 49 => 92 | 50 => 93 | 57 => 96 | n => n, fun | 22 => 33 | 24 => 40 | 25 => 103 | 3 => 3 | 39 => 122 | 0 => 0 | 53 => 139 | 55 => 141 | 4 => 4 | 46 => 133 | 45 => 132 | 50 => 90 | 5 => 5 | 9 => 9 | 66 => 147 | 70 => 151 | 76 => 154 | 77 => 155 | n => n, fun | n => n⟩
theorem Try.sortRs : Go.Proofs.SlLaysF0.n6 Try.prog Try.sortRs_ren := {
  mixed := by kernel_rfl
  f6 := ⟨Try.f45.name, by decide, Try.func45.trans (congrArg some (by kernel_rfl))⟩
  f14 := ⟨Try.f64.name, by decide, Try.func64.trans (congrArg some (by kernel_rfl))⟩
  f15 := Try.func65.trans (congrArg some (by kernel_rfl))
  f20 := ⟨Try.f74.name, by decide, Try.func74.trans (congrArg some (by kernel_rfl))⟩
  f21 := ⟨Try.f75.name, by decide, Try.func75.trans (congrArg some (by kernel_rfl))⟩
  f22 := ⟨Try.f76.name, by decide, Try.func76.trans (congrArg some (by kernel_rfl))⟩
  f23 := ⟨Try.f77.name, by decide, Try.func77.trans (congrArg some (by kernel_rfl))⟩
  f24 := ⟨Try.f78.name, by decide, Try.func78.trans (congrArg some (by kernel_rfl))⟩
  f25 := ⟨Try.f79.name, by decide, Try.func79.trans (congrArg some (by kernel_rfl))⟩
  f26 := ⟨Try.f80.name, by decide, Try.func80.trans (congrArg some (by kernel_rfl))⟩
  f27 := ⟨Try.f81.name, by decide, Try.func81.trans (congrArg some (by kernel_rfl))⟩
  f28 := Try.func82.trans (congrArg some (by kernel_rfl))
  f29 := Try.func83.trans (congrArg some (by kernel_rfl))
  f46 := ⟨Try.f89.name, by decide, Try.func89.trans (congrArg some (by kernel_rfl))⟩
  f47 := Try.func90.trans (congrArg some (by kernel_rfl))
  f48 := Try.func91.trans (congrArg some (by kernel_rfl))
  f49 := ⟨Try.f92.name, by decide, Try.func92.trans (congrArg some (by kernel_rfl))⟩
  f50 := ⟨Try.f93.name, by decide, Try.func93.trans (congrArg some (by kernel_rfl))⟩
  f57 := ⟨Try.f96.name, by decide, Try.func96.trans (congrArg some (by kernel_rfl))⟩
  t0 := Try.underlying0
  a0 := Try.isAgg0
  z0 := Try.sizeOf0
  v0 := Try.zeroValue0
  t3 := Try.underlying3
  a3 := Try.isAgg3
  z3 := Try.sizeOf3
  v3 := Try.zeroValue3
  t4 := Try.underlying4
  a4 := Try.isAgg4
  z4 := Try.sizeOf4
  v4 := Try.zeroValue4
  t5 := Try.underlying5
  a5 := Try.isAgg5
  z5 := Try.sizeOf5
  v5 := Try.zeroValue5
  t9 := Try.underlying9
  a9 := Try.isAgg9
  z9 := Try.sizeOf9
  v9 := Try.zeroValue9
  t22 := Try.underlying33
  a22 := Try.isAgg33
  z22 := Try.sizeOf33
  v22 := Try.zeroValue33
  t25 := Try.underlying103
  a25 := Try.isAgg103
  z25 := Try.sizeOf103
  v25 := Try.zeroValue103
  t39 := Try.underlying122
  a39 := Try.isAgg122
  z39 := Try.sizeOf122
  v39 := Try.zeroValue122
  t45 := Try.underlying132
  a45 := Try.isAgg132
  z45 := Try.sizeOf132
  v45 := Try.zeroValue132
  t46 := Try.underlying133
  a46 := Try.isAgg133
  z46 := Try.sizeOf133
  v46 := Try.zeroValue133
  t50 := Try.underlying90
  a50 := Try.isAgg90
  z50 := Try.sizeOf90
  v50 := Try.zeroValue90
  t53 := Try.underlying139
  a53 := Try.isAgg139
  z53 := Try.sizeOf139
  v53 := Try.zeroValue139
  t55 := Try.underlying141
  a55 := Try.isAgg141
  z55 := Try.sizeOf141
  v55 := Try.zeroValue141
  t66 := Try.underlying147
  a66 := Try.isAgg147
  z66 := Try.sizeOf147
  v66 := Try.zeroValue147
  t70 := Try.underlying151
  a70 := Try.isAgg151
  z70 := Try.sizeOf151
  v70 := Try.zeroValue151
  t76 := Try.underlying154
  a76 := Try.isAgg154
  z76 := Try.sizeOf154
  v76 := Try.zeroValue154
  t77 := Try.underlying155
  a77 := Try.isAgg155
  z77 := Try.sizeOf155
  v77 := Try.zeroValue155 }
end Go.Proofs
