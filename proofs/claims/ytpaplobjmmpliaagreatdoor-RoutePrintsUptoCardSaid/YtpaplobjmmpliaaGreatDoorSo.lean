/-
  DERIVED: THE SHELF's CONTRACTS AT THIS DUMP, IN PLAIN WORDS (tools/lay-plain.mjs out of 'TryzSort.lean', which tools/lay-shelf.mjs wrote): THE SAME DECLARATIONS UNDER THE SAME NAMES: 'import', 'namespace', 'open', 'def', 'theorem' AND NOTHING ELSE: no command of the shelf's: FOR A HAND-IN. Each laying: the table of numbers ('.._ren') and one theorem, a field a fact of the dump's own or the kernel's comparison; each contract: ONE APPLICATION.
-/
import Derived.Ground.SlgnProg
import Derived.Ground.SlsfProg
import Derived.Shelf.SlicesE.Clone
import Derived.Shelf.SlSortCmp.NoneTotal
import Derived.Test.YtpaplobjmmpliaaGreatDoorProg
namespace Go.Proofs
open Go.Shelf
def Tryz.layClone_ren : Go.Shelf.Ren := ⟨fun | 41 => 25 | n => n, fun | 22 => 22 | 23 => 37 | 4 => 4 | n => n, fun | n => n⟩
theorem Tryz.layClone : Go.Proofs.SlLaysE0.n41 Tryz.prog Tryz.layClone_ren := {
  mixed := by kernel_rfl
  f41 := ⟨Tryz.f25.name, by decide, Tryz.func25.trans (congrArg some (by kernel_rfl))⟩
  t4 := Tryz.underlying4
  a4 := Tryz.isAgg4
  z4 := Tryz.sizeOf4
  v4 := Tryz.zeroValue4
  t22 := Tryz.underlying22
  a22 := Tryz.isAgg22
  z22 := Tryz.sizeOf22
  v22 := Tryz.zeroValue22 }
def Tryz.laySort_ren : Go.Shelf.Ren := ⟨fun | 6 => 26 | 15 => 46 | 14 => 45 | 28 => 67 | 29 => 68 | 20 => 59 | 21 => 60 | 22 => 61 | 23 => 62 | 24 => 63 | 25 => 64 | 26 => 65 | 27 => 66 | 46 => 80 | 47 => 81 | 48 => 82 | 49 => 83 | 50 => 84 | 57 => 97 | n => n, fun | 22 => 22 | 24 => 37 | 25 => 65 | 3 => 3 | 39 => 71 | 0 => 0 | 53 => 105 | 55 => 70 | 4 => 4 | 46 => 99 | 45 => 98 | 50 => 95 | 5 => 5 | 9 => 9 | 66 => 116 | 70 => 120 | 76 => 133 | 77 => 134 | n => n, fun | n => n⟩
theorem Tryz.laySort : Go.Proofs.SlLaysF0.n6 Tryz.prog Tryz.laySort_ren := {
  mixed := by kernel_rfl
  f6 := ⟨Tryz.f26.name, by decide, Tryz.func26.trans (congrArg some (by kernel_rfl))⟩
  f14 := ⟨Tryz.f45.name, by decide, Tryz.func45.trans (congrArg some (by kernel_rfl))⟩
  f15 := Tryz.func46.trans (congrArg some (by kernel_rfl))
  f20 := ⟨Tryz.f59.name, by decide, Tryz.func59.trans (congrArg some (by kernel_rfl))⟩
  f21 := ⟨Tryz.f60.name, by decide, Tryz.func60.trans (congrArg some (by kernel_rfl))⟩
  f22 := ⟨Tryz.f61.name, by decide, Tryz.func61.trans (congrArg some (by kernel_rfl))⟩
  f23 := ⟨Tryz.f62.name, by decide, Tryz.func62.trans (congrArg some (by kernel_rfl))⟩
  f24 := ⟨Tryz.f63.name, by decide, Tryz.func63.trans (congrArg some (by kernel_rfl))⟩
  f25 := ⟨Tryz.f64.name, by decide, Tryz.func64.trans (congrArg some (by kernel_rfl))⟩
  f26 := ⟨Tryz.f65.name, by decide, Tryz.func65.trans (congrArg some (by kernel_rfl))⟩
  f27 := ⟨Tryz.f66.name, by decide, Tryz.func66.trans (congrArg some (by kernel_rfl))⟩
  f28 := Tryz.func67.trans (congrArg some (by kernel_rfl))
  f29 := Tryz.func68.trans (congrArg some (by kernel_rfl))
  f46 := ⟨Tryz.f80.name, by decide, Tryz.func80.trans (congrArg some (by kernel_rfl))⟩
  f47 := Tryz.func81.trans (congrArg some (by kernel_rfl))
  f48 := Tryz.func82.trans (congrArg some (by kernel_rfl))
  f49 := ⟨Tryz.f83.name, by decide, Tryz.func83.trans (congrArg some (by kernel_rfl))⟩
  f50 := ⟨Tryz.f84.name, by decide, Tryz.func84.trans (congrArg some (by kernel_rfl))⟩
  f57 := ⟨Tryz.f97.name, by decide, Tryz.func97.trans (congrArg some (by kernel_rfl))⟩
  t0 := Tryz.underlying0
  a0 := Tryz.isAgg0
  z0 := Tryz.sizeOf0
  v0 := Tryz.zeroValue0
  t3 := Tryz.underlying3
  a3 := Tryz.isAgg3
  z3 := Tryz.sizeOf3
  v3 := Tryz.zeroValue3
  t4 := Tryz.underlying4
  a4 := Tryz.isAgg4
  z4 := Tryz.sizeOf4
  v4 := Tryz.zeroValue4
  t5 := Tryz.underlying5
  a5 := Tryz.isAgg5
  z5 := Tryz.sizeOf5
  v5 := Tryz.zeroValue5
  t9 := Tryz.underlying9
  a9 := Tryz.isAgg9
  z9 := Tryz.sizeOf9
  v9 := Tryz.zeroValue9
  t22 := Tryz.underlying22
  a22 := Tryz.isAgg22
  z22 := Tryz.sizeOf22
  v22 := Tryz.zeroValue22
  t25 := Tryz.underlying65
  a25 := Tryz.isAgg65
  z25 := Tryz.sizeOf65
  v25 := Tryz.zeroValue65
  t39 := Tryz.underlying71
  a39 := Tryz.isAgg71
  z39 := Tryz.sizeOf71
  v39 := Tryz.zeroValue71
  t45 := Tryz.underlying98
  a45 := Tryz.isAgg98
  z45 := Tryz.sizeOf98
  v45 := Tryz.zeroValue98
  t46 := Tryz.underlying99
  a46 := Tryz.isAgg99
  z46 := Tryz.sizeOf99
  v46 := Tryz.zeroValue99
  t50 := Tryz.underlying95
  a50 := Tryz.isAgg95
  z50 := Tryz.sizeOf95
  v50 := Tryz.zeroValue95
  t53 := Tryz.underlying105
  a53 := Tryz.isAgg105
  z53 := Tryz.sizeOf105
  v53 := Tryz.zeroValue105
  t55 := Tryz.underlying70
  a55 := Tryz.isAgg70
  z55 := Tryz.sizeOf70
  v55 := Tryz.zeroValue70
  t66 := Tryz.underlying116
  a66 := Tryz.isAgg116
  z66 := Tryz.sizeOf116
  v66 := Tryz.zeroValue116
  t70 := Tryz.underlying120
  a70 := Tryz.isAgg120
  z70 := Tryz.sizeOf120
  v70 := Tryz.zeroValue120
  t76 := Tryz.underlying133
  a76 := Tryz.isAgg133
  z76 := Tryz.sizeOf133
  v76 := Tryz.zeroValue133
  t77 := Tryz.underlying134
  a77 := Tryz.isAgg134
  z77 := Tryz.sizeOf134
  v77 := Tryz.zeroValue134 }
end Go.Proofs
