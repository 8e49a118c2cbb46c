/-
  DERIVED: THE SHELF's CONTRACTS AT THIS DUMP, IN PLAIN WORDS (tools/lay-plain.mjs out of 'TrydSrt.lean', which tools/lay-shelf.mjs wrote): THE SAME DECLARATIONS UNDER THE SAME NAMES: 'import', 'namespace', 'open', 'def', 'theorem' AND NOTHING ELSE: no command of the shelf's: FOR A HAND-IN. Each laying: the table of numbers ('.._ren') and one theorem, a field a fact of the dump's own or the kernel's comparison; each contract: ONE APPLICATION.
-/
import Derived.Shelf.SlSortCmp.NoneTotal
import Derived.Shelf.Small.Bits
import Derived.Shelf.SlGeneric
import Derived.Ground.SlsfProg
import Derived.Ground.NamesProg
import Derived.Test.YtkbkgiihgghbeaaDoorProg
namespace Go.Proofs
open Go.Shelf
def Tryd.sortBind_ren : Go.Shelf.Ren := ⟨fun | 6 => 47 | 15 => 76 | 14 => 75 | 28 => 97 | 29 => 98 | 20 => 89 | 21 => 90 | 22 => 91 | 23 => 92 | 24 => 93 | 25 => 94 | 26 => 95 | 27 => 96 | 46 => 106 | 47 => 107 | 48 => 108 | 49 => 109 | 50 => 110 | 57 => 115 | n => n, fun | 22 => 22 | 24 => 54 | 25 => 66 | 3 => 3 | 39 => 93 | 0 => 0 | 53 => 115 | 55 => 117 | 4 => 4 | 46 => 109 | 45 => 108 | 50 => 88 | 5 => 5 | 9 => 9 | 66 => 122 | 70 => 84 | 76 => 130 | 77 => 131 | n => n, fun | n => n⟩
theorem Tryd.sortBind : Go.Proofs.SlLaysF0.n6 Tryd.prog Tryd.sortBind_ren := {
  mixed := by kernel_rfl
  f6 := ⟨Tryd.f47.name, by decide, Tryd.func47.trans (congrArg some (by kernel_rfl))⟩
  f14 := ⟨Tryd.f75.name, by decide, Tryd.func75.trans (congrArg some (by kernel_rfl))⟩
  f15 := Tryd.func76.trans (congrArg some (by kernel_rfl))
  f20 := ⟨Tryd.f89.name, by decide, Tryd.func89.trans (congrArg some (by kernel_rfl))⟩
  f21 := ⟨Tryd.f90.name, by decide, Tryd.func90.trans (congrArg some (by kernel_rfl))⟩
  f22 := ⟨Tryd.f91.name, by decide, Tryd.func91.trans (congrArg some (by kernel_rfl))⟩
  f23 := ⟨Tryd.f92.name, by decide, Tryd.func92.trans (congrArg some (by kernel_rfl))⟩
  f24 := ⟨Tryd.f93.name, by decide, Tryd.func93.trans (congrArg some (by kernel_rfl))⟩
  f25 := ⟨Tryd.f94.name, by decide, Tryd.func94.trans (congrArg some (by kernel_rfl))⟩
  f26 := ⟨Tryd.f95.name, by decide, Tryd.func95.trans (congrArg some (by kernel_rfl))⟩
  f27 := ⟨Tryd.f96.name, by decide, Tryd.func96.trans (congrArg some (by kernel_rfl))⟩
  f28 := Tryd.func97.trans (congrArg some (by kernel_rfl))
  f29 := Tryd.func98.trans (congrArg some (by kernel_rfl))
  f46 := ⟨Tryd.f106.name, by decide, Tryd.func106.trans (congrArg some (by kernel_rfl))⟩
  f47 := Tryd.func107.trans (congrArg some (by kernel_rfl))
  f48 := Tryd.func108.trans (congrArg some (by kernel_rfl))
  f49 := ⟨Tryd.f109.name, by decide, Tryd.func109.trans (congrArg some (by kernel_rfl))⟩
  f50 := ⟨Tryd.f110.name, by decide, Tryd.func110.trans (congrArg some (by kernel_rfl))⟩
  f57 := ⟨Tryd.f115.name, by decide, Tryd.func115.trans (congrArg some (by kernel_rfl))⟩
  t0 := Tryd.underlying0
  a0 := Tryd.isAgg0
  z0 := Tryd.sizeOf0
  v0 := Tryd.zeroValue0
  t3 := Tryd.underlying3
  a3 := Tryd.isAgg3
  z3 := Tryd.sizeOf3
  v3 := Tryd.zeroValue3
  t4 := Tryd.underlying4
  a4 := Tryd.isAgg4
  z4 := Tryd.sizeOf4
  v4 := Tryd.zeroValue4
  t5 := Tryd.underlying5
  a5 := Tryd.isAgg5
  z5 := Tryd.sizeOf5
  v5 := Tryd.zeroValue5
  t9 := Tryd.underlying9
  a9 := Tryd.isAgg9
  z9 := Tryd.sizeOf9
  v9 := Tryd.zeroValue9
  t22 := Tryd.underlying22
  a22 := Tryd.isAgg22
  z22 := Tryd.sizeOf22
  v22 := Tryd.zeroValue22
  t25 := Tryd.underlying66
  a25 := Tryd.isAgg66
  z25 := Tryd.sizeOf66
  v25 := Tryd.zeroValue66
  t39 := Tryd.underlying93
  a39 := Tryd.isAgg93
  z39 := Tryd.sizeOf93
  v39 := Tryd.zeroValue93
  t45 := Tryd.underlying108
  a45 := Tryd.isAgg108
  z45 := Tryd.sizeOf108
  v45 := Tryd.zeroValue108
  t46 := Tryd.underlying109
  a46 := Tryd.isAgg109
  z46 := Tryd.sizeOf109
  v46 := Tryd.zeroValue109
  t50 := Tryd.underlying88
  a50 := Tryd.isAgg88
  z50 := Tryd.sizeOf88
  v50 := Tryd.zeroValue88
  t53 := Tryd.underlying115
  a53 := Tryd.isAgg115
  z53 := Tryd.sizeOf115
  v53 := Tryd.zeroValue115
  t55 := Tryd.underlying117
  a55 := Tryd.isAgg117
  z55 := Tryd.sizeOf117
  v55 := Tryd.zeroValue117
  t66 := Tryd.underlying122
  a66 := Tryd.isAgg122
  z66 := Tryd.sizeOf122
  v66 := Tryd.zeroValue122
  t70 := Tryd.underlying84
  a70 := Tryd.isAgg84
  z70 := Tryd.sizeOf84
  v70 := Tryd.zeroValue84
  t76 := Tryd.underlying130
  a76 := Tryd.isAgg130
  z76 := Tryd.sizeOf130
  v76 := Tryd.zeroValue130
  t77 := Tryd.underlying131
  a77 := Tryd.isAgg131
  z77 := Tryd.sizeOf131
  v77 := Tryd.zeroValue131 }
end Go.Proofs
