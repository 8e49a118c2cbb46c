/-
  DERIVED: THE SHELF's CONTRACTS AT THIS DUMP, IN PLAIN WORDS (tools/lay-plain.mjs out of 'TrydSrt.lean', which tools/lay-shelf.mjs wrote): THE SAME DECLARATIONS UNDER THE SAME NAMES: 'import', 'namespace', 'open', 'def', 'theorem' AND NOTHING ELSE: no command of the shelf's: FOR A HAND-IN. Each laying: the table of numbers ('.._ren') and one theorem, a field a fact of the dump's own or the kernel's comparison; each contract: ONE APPLICATION.
-/
import Derived.Shelf.SlSortCmp.NoneTotal
import Derived.Shelf.Small.Bits
import Derived.Shelf.SlGeneric
import Derived.Ground.SlsfProg
import Derived.Ground.NamesProg
import Derived.Test.YtpjmdilpldaapaaDoorProg
namespace Go.Proofs
open Go.Shelf
def Tryd.sortTerm_ren : Go.Shelf.Ren := ⟨fun | 6 => 91 | 15 => 100 | 14 => 99 | 28 => 121 | 29 => 122 | 20 => 113 | 21 => 114 | 22 => 115 | 23 => 116 | 24 => 117 | 25 => 118 | 26 => 119 | 27 => 120 | 46 => 130 | 47 => 131 | 48 => 132 | 49 => 133 | 50 => 134 | 57 => 138 | n => n, fun | 22 => 33 | 24 => 35 | 25 => 74 | 3 => 3 | 39 => 100 | 0 => 0 | 53 => 118 | 55 => 102 | 4 => 4 | 46 => 111 | 45 => 110 | 50 => 115 | 5 => 5 | 9 => 9 | 66 => 125 | 70 => 90 | 76 => 130 | 77 => 131 | n => n, fun | n => n⟩
theorem Tryd.sortTerm : Go.Proofs.SlLaysF0.n6 Tryd.prog Tryd.sortTerm_ren := {
  mixed := by kernel_rfl
  f6 := ⟨Tryd.f91.name, by decide, Tryd.func91.trans (congrArg some (by kernel_rfl))⟩
  f14 := ⟨Tryd.f99.name, by decide, Tryd.func99.trans (congrArg some (by kernel_rfl))⟩
  f15 := Tryd.func100.trans (congrArg some (by kernel_rfl))
  f20 := ⟨Tryd.f113.name, by decide, Tryd.func113.trans (congrArg some (by kernel_rfl))⟩
  f21 := ⟨Tryd.f114.name, by decide, Tryd.func114.trans (congrArg some (by kernel_rfl))⟩
  f22 := ⟨Tryd.f115.name, by decide, Tryd.func115.trans (congrArg some (by kernel_rfl))⟩
  f23 := ⟨Tryd.f116.name, by decide, Tryd.func116.trans (congrArg some (by kernel_rfl))⟩
  f24 := ⟨Tryd.f117.name, by decide, Tryd.func117.trans (congrArg some (by kernel_rfl))⟩
  f25 := ⟨Tryd.f118.name, by decide, Tryd.func118.trans (congrArg some (by kernel_rfl))⟩
  f26 := ⟨Tryd.f119.name, by decide, Tryd.func119.trans (congrArg some (by kernel_rfl))⟩
  f27 := ⟨Tryd.f120.name, by decide, Tryd.func120.trans (congrArg some (by kernel_rfl))⟩
  f28 := Tryd.func121.trans (congrArg some (by kernel_rfl))
  f29 := Tryd.func122.trans (congrArg some (by kernel_rfl))
  f46 := ⟨Tryd.f130.name, by decide, Tryd.func130.trans (congrArg some (by kernel_rfl))⟩
  f47 := Tryd.func131.trans (congrArg some (by kernel_rfl))
  f48 := Tryd.func132.trans (congrArg some (by kernel_rfl))
  f49 := ⟨Tryd.f133.name, by decide, Tryd.func133.trans (congrArg some (by kernel_rfl))⟩
  f50 := ⟨Tryd.f134.name, by decide, Tryd.func134.trans (congrArg some (by kernel_rfl))⟩
  f57 := ⟨Tryd.f138.name, by decide, Tryd.func138.trans (congrArg some (by kernel_rfl))⟩
  t0 := Tryd.underlying0
  a0 := Tryd.isAgg0
  z0 := Tryd.sizeOf0
  v0 := Tryd.zeroValue0
  t3 := Tryd.underlying3
  a3 := Tryd.isAgg3
  z3 := Tryd.sizeOf3
  v3 := Tryd.zeroValue3
  t4 := Tryd.underlying4
  a4 := Tryd.isAgg4
  z4 := Tryd.sizeOf4
  v4 := Tryd.zeroValue4
  t5 := Tryd.underlying5
  a5 := Tryd.isAgg5
  z5 := Tryd.sizeOf5
  v5 := Tryd.zeroValue5
  t9 := Tryd.underlying9
  a9 := Tryd.isAgg9
  z9 := Tryd.sizeOf9
  v9 := Tryd.zeroValue9
  t22 := Tryd.underlying33
  a22 := Tryd.isAgg33
  z22 := Tryd.sizeOf33
  v22 := Tryd.zeroValue33
  t25 := Tryd.underlying74
  a25 := Tryd.isAgg74
  z25 := Tryd.sizeOf74
  v25 := Tryd.zeroValue74
  t39 := Tryd.underlying100
  a39 := Tryd.isAgg100
  z39 := Tryd.sizeOf100
  v39 := Tryd.zeroValue100
  t45 := Tryd.underlying110
  a45 := Tryd.isAgg110
  z45 := Tryd.sizeOf110
  v45 := Tryd.zeroValue110
  t46 := Tryd.underlying111
  a46 := Tryd.isAgg111
  z46 := Tryd.sizeOf111
  v46 := Tryd.zeroValue111
  t50 := Tryd.underlying115
  a50 := Tryd.isAgg115
  z50 := Tryd.sizeOf115
  v50 := Tryd.zeroValue115
  t53 := Tryd.underlying118
  a53 := Tryd.isAgg118
  z53 := Tryd.sizeOf118
  v53 := Tryd.zeroValue118
  t55 := Tryd.underlying102
  a55 := Tryd.isAgg102
  z55 := Tryd.sizeOf102
  v55 := Tryd.zeroValue102
  t66 := Tryd.underlying125
  a66 := Tryd.isAgg125
  z66 := Tryd.sizeOf125
  v66 := Tryd.zeroValue125
  t70 := Tryd.underlying90
  a70 := Tryd.isAgg90
  z70 := Tryd.sizeOf90
  v70 := Tryd.zeroValue90
  t76 := Tryd.underlying130
  a76 := Tryd.isAgg130
  z76 := Tryd.sizeOf130
  v76 := Tryd.zeroValue130
  t77 := Tryd.underlying131
  a77 := Tryd.isAgg131
  z77 := Tryd.sizeOf131
  v77 := Tryd.zeroValue131 }
end Go.Proofs
