/-
  DERIVED: THE SHELF's CONTRACTS AT THIS DUMP, IN PLAIN WORDS (tools/lay-plain.mjs out of 'TrydSort.lean', which tools/lay-shelf.mjs wrote): THE SAME DECLARATIONS UNDER THE SAME NAMES: 'import', 'namespace', 'open', 'def', 'theorem' AND NOTHING ELSE: no command of the shelf's: FOR A HAND-IN. Each laying: the table of numbers ('.._ren') and one theorem, a field a fact of the dump's own or the kernel's comparison; each contract: ONE APPLICATION.
-/
import Derived.Ground.SlgnProg
import Derived.Ground.SlsfProg
import Derived.Shelf.SlicesE.Clone
import Derived.Shelf.SlSortCmp.NoneTotal
import Derived.Test.YtpaplobjmmpliaaDoorProg
namespace Go.Proofs
open Go.Shelf
def Tryd.layClone_ren : Go.Shelf.Ren := ⟨fun | 41 => 31 | n => n, fun | 22 => 22 | 23 => 44 | 4 => 4 | n => n, fun | n => n⟩
theorem Tryd.layClone : Go.Proofs.SlLaysE0.n41 Tryd.prog Tryd.layClone_ren := {
  mixed := by kernel_rfl
  f41 := ⟨Tryd.f31.name, by decide, Tryd.func31.trans (congrArg some (by kernel_rfl))⟩
  t4 := Tryd.underlying4
  a4 := Tryd.isAgg4
  z4 := Tryd.sizeOf4
  v4 := Tryd.zeroValue4
  t22 := Tryd.underlying22
  a22 := Tryd.isAgg22
  z22 := Tryd.sizeOf22
  v22 := Tryd.zeroValue22 }
def Tryd.laySort_ren : Go.Shelf.Ren := ⟨fun | 6 => 43 | 15 => 62 | 14 => 61 | 28 => 84 | 29 => 85 | 20 => 76 | 21 => 77 | 22 => 78 | 23 => 79 | 24 => 80 | 25 => 81 | 26 => 82 | 27 => 83 | 46 => 103 | 47 => 104 | 48 => 105 | 49 => 106 | 50 => 107 | 57 => 117 | n => n, fun | 22 => 22 | 24 => 44 | 25 => 87 | 3 => 3 | 39 => 98 | 0 => 0 | 53 => 121 | 55 => 97 | 4 => 4 | 46 => 115 | 45 => 114 | 50 => 91 | 5 => 5 | 9 => 9 | 66 => 138 | 70 => 142 | 76 => 152 | 77 => 153 | n => n, fun | n => n⟩
theorem Tryd.laySort : Go.Proofs.SlLaysF0.n6 Tryd.prog Tryd.laySort_ren := {
  mixed := by kernel_rfl
  f6 := ⟨Tryd.f43.name, by decide, Tryd.func43.trans (congrArg some (by kernel_rfl))⟩
  f14 := ⟨Tryd.f61.name, by decide, Tryd.func61.trans (congrArg some (by kernel_rfl))⟩
  f15 := Tryd.func62.trans (congrArg some (by kernel_rfl))
  f20 := ⟨Tryd.f76.name, by decide, Tryd.func76.trans (congrArg some (by kernel_rfl))⟩
  f21 := ⟨Tryd.f77.name, by decide, Tryd.func77.trans (congrArg some (by kernel_rfl))⟩
  f22 := ⟨Tryd.f78.name, by decide, Tryd.func78.trans (congrArg some (by kernel_rfl))⟩
  f23 := ⟨Tryd.f79.name, by decide, Tryd.func79.trans (congrArg some (by kernel_rfl))⟩
  f24 := ⟨Tryd.f80.name, by decide, Tryd.func80.trans (congrArg some (by kernel_rfl))⟩
  f25 := ⟨Tryd.f81.name, by decide, Tryd.func81.trans (congrArg some (by kernel_rfl))⟩
  f26 := ⟨Tryd.f82.name, by decide, Tryd.func82.trans (congrArg some (by kernel_rfl))⟩
  f27 := ⟨Tryd.f83.name, by decide, Tryd.func83.trans (congrArg some (by kernel_rfl))⟩
  f28 := Tryd.func84.trans (congrArg some (by kernel_rfl))
  f29 := Tryd.func85.trans (congrArg some (by kernel_rfl))
  f46 := ⟨Tryd.f103.name, by decide, Tryd.func103.trans (congrArg some (by kernel_rfl))⟩
  f47 := Tryd.func104.trans (congrArg some (by kernel_rfl))
  f48 := Tryd.func105.trans (congrArg some (by kernel_rfl))
  f49 := ⟨Tryd.f106.name, by decide, Tryd.func106.trans (congrArg some (by kernel_rfl))⟩
  f50 := ⟨Tryd.f107.name, by decide, Tryd.func107.trans (congrArg some (by kernel_rfl))⟩
  f57 := ⟨Tryd.f117.name, by decide, Tryd.func117.trans (congrArg some (by kernel_rfl))⟩
  t0 := Tryd.underlying0
  a0 := Tryd.isAgg0
  z0 := Tryd.sizeOf0
  v0 := Tryd.zeroValue0
  t3 := Tryd.underlying3
  a3 := Tryd.isAgg3
  z3 := Tryd.sizeOf3
  v3 := Tryd.zeroValue3
  t4 := Tryd.underlying4
  a4 := Tryd.isAgg4
  z4 := Tryd.sizeOf4
  v4 := Tryd.zeroValue4
  t5 := Tryd.underlying5
  a5 := Tryd.isAgg5
  z5 := Tryd.sizeOf5
  v5 := Tryd.zeroValue5
  t9 := Tryd.underlying9
  a9 := Tryd.isAgg9
  z9 := Tryd.sizeOf9
  v9 := Tryd.zeroValue9
  t22 := Tryd.underlying22
  a22 := Tryd.isAgg22
  z22 := Tryd.sizeOf22
  v22 := Tryd.zeroValue22
  t25 := Tryd.underlying87
  a25 := Tryd.isAgg87
  z25 := Tryd.sizeOf87
  v25 := Tryd.zeroValue87
  t39 := Tryd.underlying98
  a39 := Tryd.isAgg98
  z39 := Tryd.sizeOf98
  v39 := Tryd.zeroValue98
  t45 := Tryd.underlying114
  a45 := Tryd.isAgg114
  z45 := Tryd.sizeOf114
  v45 := Tryd.zeroValue114
  t46 := Tryd.underlying115
  a46 := Tryd.isAgg115
  z46 := Tryd.sizeOf115
  v46 := Tryd.zeroValue115
  t50 := Tryd.underlying91
  a50 := Tryd.isAgg91
  z50 := Tryd.sizeOf91
  v50 := Tryd.zeroValue91
  t53 := Tryd.underlying121
  a53 := Tryd.isAgg121
  z53 := Tryd.sizeOf121
  v53 := Tryd.zeroValue121
  t55 := Tryd.underlying97
  a55 := Tryd.isAgg97
  z55 := Tryd.sizeOf97
  v55 := Tryd.zeroValue97
  t66 := Tryd.underlying138
  a66 := Tryd.isAgg138
  z66 := Tryd.sizeOf138
  v66 := Tryd.zeroValue138
  t70 := Tryd.underlying142
  a70 := Tryd.isAgg142
  z70 := Tryd.sizeOf142
  v70 := Tryd.zeroValue142
  t76 := Tryd.underlying152
  a76 := Tryd.isAgg152
  z76 := Tryd.sizeOf152
  v76 := Tryd.zeroValue152
  t77 := Tryd.underlying153
  a77 := Tryd.isAgg153
  z77 := Tryd.sizeOf153
  v77 := Tryd.zeroValue153 }
end Go.Proofs
