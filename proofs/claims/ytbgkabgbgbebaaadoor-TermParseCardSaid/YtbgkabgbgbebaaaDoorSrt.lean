/-
  DERIVED: THE SHELF's CONTRACTS AT THIS DUMP, IN PLAIN WORDS (tools/lay-plain.mjs out of 'TrydSrt.lean', which tools/lay-shelf.mjs wrote): THE SAME DECLARATIONS UNDER THE SAME NAMES: 'import', 'namespace', 'open', 'def', 'theorem' AND NOTHING ELSE: no command of the shelf's: FOR A HAND-IN. Each laying: the table of numbers ('.._ren') and one theorem, a field a fact of the dump's own or the kernel's comparison; each contract: ONE APPLICATION.
-/
import Derived.Shelf.SlSortCmp.NoneTotal
import Derived.Shelf.Small.Bits
import Derived.Shelf.SlGeneric
import Derived.Ground.SlsfProg
import Derived.Ground.NamesProg
import Derived.Test.YtbgkabgbgbebaaaDoorProg
namespace Go.Proofs
open Go.Shelf
def Tryd.sortTerm_ren : Go.Shelf.Ren := ⟨fun | 6 => 67 | 15 => 85 | 14 => 84 | 28 => 100 | 29 => 101 | 20 => 92 | 21 => 93 | 22 => 94 | 23 => 95 | 24 => 96 | 25 => 97 | 26 => 98 | 27 => 99 | 46 => 104 | 47 => 105 | 48 => 106 | 49 => 107 | 50 => 108 | 57 => 109 | n => n, fun | 22 => 22 | 24 => 24 | 25 => 29 | 3 => 3 | 39 => 98 | 0 => 0 | 53 => 110 | 55 => 112 | 4 => 4 | 46 => 104 | 45 => 103 | 50 => 92 | 5 => 5 | 9 => 9 | 66 => 115 | 70 => 71 | 76 => 120 | 77 => 121 | n => n, fun | n => n⟩
theorem Tryd.sortTerm : Go.Proofs.SlLaysF0.n6 Tryd.prog Tryd.sortTerm_ren := {
  mixed := by kernel_rfl
  f6 := ⟨Tryd.f67.name, by decide, Tryd.func67.trans (congrArg some (by kernel_rfl))⟩
  f14 := ⟨Tryd.f84.name, by decide, Tryd.func84.trans (congrArg some (by kernel_rfl))⟩
  f15 := Tryd.func85.trans (congrArg some (by kernel_rfl))
  f20 := ⟨Tryd.f92.name, by decide, Tryd.func92.trans (congrArg some (by kernel_rfl))⟩
  f21 := ⟨Tryd.f93.name, by decide, Tryd.func93.trans (congrArg some (by kernel_rfl))⟩
  f22 := ⟨Tryd.f94.name, by decide, Tryd.func94.trans (congrArg some (by kernel_rfl))⟩
  f23 := ⟨Tryd.f95.name, by decide, Tryd.func95.trans (congrArg some (by kernel_rfl))⟩
  f24 := ⟨Tryd.f96.name, by decide, Tryd.func96.trans (congrArg some (by kernel_rfl))⟩
  f25 := ⟨Tryd.f97.name, by decide, Tryd.func97.trans (congrArg some (by kernel_rfl))⟩
  f26 := ⟨Tryd.f98.name, by decide, Tryd.func98.trans (congrArg some (by kernel_rfl))⟩
  f27 := ⟨Tryd.f99.name, by decide, Tryd.func99.trans (congrArg some (by kernel_rfl))⟩
  f28 := Tryd.func100.trans (congrArg some (by kernel_rfl))
  f29 := Tryd.func101.trans (congrArg some (by kernel_rfl))
  f46 := ⟨Tryd.f104.name, by decide, Tryd.func104.trans (congrArg some (by kernel_rfl))⟩
  f47 := Tryd.func105.trans (congrArg some (by kernel_rfl))
  f48 := Tryd.func106.trans (congrArg some (by kernel_rfl))
  f49 := ⟨Tryd.f107.name, by decide, Tryd.func107.trans (congrArg some (by kernel_rfl))⟩
  f50 := ⟨Tryd.f108.name, by decide, Tryd.func108.trans (congrArg some (by kernel_rfl))⟩
  f57 := ⟨Tryd.f109.name, by decide, Tryd.func109.trans (congrArg some (by kernel_rfl))⟩
  t0 := Tryd.underlying0
  a0 := Tryd.isAgg0
  z0 := Tryd.sizeOf0
  v0 := Tryd.zeroValue0
  t3 := Tryd.underlying3
  a3 := Tryd.isAgg3
  z3 := Tryd.sizeOf3
  v3 := Tryd.zeroValue3
  t4 := Tryd.underlying4
  a4 := Tryd.isAgg4
  z4 := Tryd.sizeOf4
  v4 := Tryd.zeroValue4
  t5 := Tryd.underlying5
  a5 := Tryd.isAgg5
  z5 := Tryd.sizeOf5
  v5 := Tryd.zeroValue5
  t9 := Tryd.underlying9
  a9 := Tryd.isAgg9
  z9 := Tryd.sizeOf9
  v9 := Tryd.zeroValue9
  t22 := Tryd.underlying22
  a22 := Tryd.isAgg22
  z22 := Tryd.sizeOf22
  v22 := Tryd.zeroValue22
  t25 := Tryd.underlying29
  a25 := Tryd.isAgg29
  z25 := Tryd.sizeOf29
  v25 := Tryd.zeroValue29
  t39 := Tryd.underlying98
  a39 := Tryd.isAgg98
  z39 := Tryd.sizeOf98
  v39 := Tryd.zeroValue98
  t45 := Tryd.underlying103
  a45 := Tryd.isAgg103
  z45 := Tryd.sizeOf103
  v45 := Tryd.zeroValue103
  t46 := Tryd.underlying104
  a46 := Tryd.isAgg104
  z46 := Tryd.sizeOf104
  v46 := Tryd.zeroValue104
  t50 := Tryd.underlying92
  a50 := Tryd.isAgg92
  z50 := Tryd.sizeOf92
  v50 := Tryd.zeroValue92
  t53 := Tryd.underlying110
  a53 := Tryd.isAgg110
  z53 := Tryd.sizeOf110
  v53 := Tryd.zeroValue110
  t55 := Tryd.underlying112
  a55 := Tryd.isAgg112
  z55 := Tryd.sizeOf112
  v55 := Tryd.zeroValue112
  t66 := Tryd.underlying115
  a66 := Tryd.isAgg115
  z66 := Tryd.sizeOf115
  v66 := Tryd.zeroValue115
  t70 := Tryd.underlying71
  a70 := Tryd.isAgg71
  z70 := Tryd.sizeOf71
  v70 := Tryd.zeroValue71
  t76 := Tryd.underlying120
  a76 := Tryd.isAgg120
  z76 := Tryd.sizeOf120
  v76 := Tryd.zeroValue120
  t77 := Tryd.underlying121
  a77 := Tryd.isAgg121
  z77 := Tryd.sizeOf121
  v77 := Tryd.zeroValue121 }
end Go.Proofs
