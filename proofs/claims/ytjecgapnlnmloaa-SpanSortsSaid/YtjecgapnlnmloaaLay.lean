/- The kit's contracts of slices.SortFunc, slices.Clone, cmp.Compare, laid at this program's functions (printed by the kit's tool). -/
import Derived.Test.YtjecgapnlnmloaaProg
import Derived.Shelf.SlSortCmp.NoneTotal
import Derived.Shelf.SlicesE.Clone
import Derived.Shelf.SlicesG.Cmp
import Derived.Shelf.SlGeneric
import Derived.Ground.SlsfProg
import Derived.Ground.SlgnProg
import Derived.Ground.SlgcProg
namespace Go.Proofs
open Go.Shelf
def Try.sortSp_ren : Go.Shelf.Ren := ⟨fun | 6 => 36 | 15 => 43 | 14 => 46 | 28 => 55 | 29 => 56 | 20 => 58 | 21 => 59 | 22 => 60 | 23 => 61 | 24 => 62 | 25 => 63 | 26 => 64 | 27 => 65 | 46 => 71 | 47 => 67 | 48 => 68 | 49 => 72 | 50 => 73 | 57 => 75 | n => n, fun | 22 => 36 | 24 => 23 | 25 => 49 | 3 => 3 | 39 => 54 | 0 => 0 | 53 => 67 | 55 => 69 | 4 => 4 | 46 => 61 | 45 => 60 | 50 => 43 | 5 => 5 | 9 => 9 | 66 => 77 | 70 => 81 | 76 => 85 | 77 => 86 | n => n, fun | n => n⟩
theorem Try.sortSp : Go.Proofs.SlLaysF0.n6 Try.prog Try.sortSp_ren := {
  mixed := by kernel_rfl
  f6 := ⟨Try.f36.name, by decide, Try.func36.trans (congrArg some (by kernel_rfl))⟩
  f14 := ⟨Try.f46.name, by decide, Try.func46.trans (congrArg some (by kernel_rfl))⟩
  f15 := Try.func43.trans (congrArg some (by kernel_rfl))
  f20 := ⟨Try.f58.name, by decide, Try.func58.trans (congrArg some (by kernel_rfl))⟩
  f21 := ⟨Try.f59.name, by decide, Try.func59.trans (congrArg some (by kernel_rfl))⟩
  f22 := ⟨Try.f60.name, by decide, Try.func60.trans (congrArg some (by kernel_rfl))⟩
  f23 := ⟨Try.f61.name, by decide, Try.func61.trans (congrArg some (by kernel_rfl))⟩
  f24 := ⟨Try.f62.name, by decide, Try.func62.trans (congrArg some (by kernel_rfl))⟩
  f25 := ⟨Try.f63.name, by decide, Try.func63.trans (congrArg some (by kernel_rfl))⟩
  f26 := ⟨Try.f64.name, by decide, Try.func64.trans (congrArg some (by kernel_rfl))⟩
  f27 := ⟨Try.f65.name, by decide, Try.func65.trans (congrArg some (by kernel_rfl))⟩
  f28 := Try.func55.trans (congrArg some (by kernel_rfl))
  f29 := Try.func56.trans (congrArg some (by kernel_rfl))
  f46 := ⟨Try.f71.name, by decide, Try.func71.trans (congrArg some (by kernel_rfl))⟩
  f47 := Try.func67.trans (congrArg some (by kernel_rfl))
  f48 := Try.func68.trans (congrArg some (by kernel_rfl))
  f49 := ⟨Try.f72.name, by decide, Try.func72.trans (congrArg some (by kernel_rfl))⟩
  f50 := ⟨Try.f73.name, by decide, Try.func73.trans (congrArg some (by kernel_rfl))⟩
  f57 := ⟨Try.f75.name, by decide, Try.func75.trans (congrArg some (by kernel_rfl))⟩
  t0 := Try.underlying0
  a0 := Try.isAgg0
  z0 := Try.sizeOf0
  v0 := Try.zeroValue0
  t3 := Try.underlying3
  a3 := Try.isAgg3
  z3 := Try.sizeOf3
  v3 := Try.zeroValue3
  t4 := Try.underlying4
  a4 := Try.isAgg4
  z4 := Try.sizeOf4
  v4 := Try.zeroValue4
  t5 := Try.underlying5
  a5 := Try.isAgg5
  z5 := Try.sizeOf5
  v5 := Try.zeroValue5
  t9 := Try.underlying9
  a9 := Try.isAgg9
  z9 := Try.sizeOf9
  v9 := Try.zeroValue9
  t22 := Try.underlying36
  a22 := Try.isAgg36
  z22 := Try.sizeOf36
  v22 := Try.zeroValue36
  t25 := Try.underlying49
  a25 := Try.isAgg49
  z25 := Try.sizeOf49
  v25 := Try.zeroValue49
  t39 := Try.underlying54
  a39 := Try.isAgg54
  z39 := Try.sizeOf54
  v39 := Try.zeroValue54
  t45 := Try.underlying60
  a45 := Try.isAgg60
  z45 := Try.sizeOf60
  v45 := Try.zeroValue60
  t46 := Try.underlying61
  a46 := Try.isAgg61
  z46 := Try.sizeOf61
  v46 := Try.zeroValue61
  t50 := Try.underlying43
  a50 := Try.isAgg43
  z50 := Try.sizeOf43
  v50 := Try.zeroValue43
  t53 := Try.underlying67
  a53 := Try.isAgg67
  z53 := Try.sizeOf67
  v53 := Try.zeroValue67
  t55 := Try.underlying69
  a55 := Try.isAgg69
  z55 := Try.sizeOf69
  v55 := Try.zeroValue69
  t66 := Try.underlying77
  a66 := Try.isAgg77
  z66 := Try.sizeOf77
  v66 := Try.zeroValue77
  t70 := Try.underlying81
  a70 := Try.isAgg81
  z70 := Try.sizeOf81
  v70 := Try.zeroValue81
  t76 := Try.underlying85
  a76 := Try.isAgg85
  z76 := Try.sizeOf85
  v76 := Try.zeroValue85
  t77 := Try.underlying86
  a77 := Try.isAgg86
  z77 := Try.sizeOf86
  v77 := Try.zeroValue86 }
def Try.cloneSp_ren : Go.Shelf.Ren := ⟨fun | 41 => 35 | n => n, fun | 22 => 36 | 23 => 23 | 4 => 4 | n => n, fun | n => n⟩
theorem Try.cloneSp : Go.Proofs.SlLaysE0.n41 Try.prog Try.cloneSp_ren := {
  mixed := by kernel_rfl
  f41 := ⟨Try.f35.name, by decide, Try.func35.trans (congrArg some (by kernel_rfl))⟩
  t4 := Try.underlying4
  a4 := Try.isAgg4
  z4 := Try.sizeOf4
  v4 := Try.zeroValue4
  t22 := Try.underlying36
  a22 := Try.isAgg36
  z22 := Try.sizeOf36
  v22 := Try.zeroValue36 }
def Try.cmpInt_ren : Go.Shelf.Ren := ⟨fun | 5 => 45 | 7 => 57 | n => n, fun | 22 => 3 | 3 => 3 | 4 => 4 | n => n, fun | n => n⟩
theorem Try.cmpInt : Go.Proofs.SlLaysC2.n5 Try.prog Try.cmpInt_ren := {
  mixed := by kernel_rfl
  f5 := ⟨Try.f45.name, by decide, Try.func45.trans (congrArg some (by kernel_rfl))⟩
  f7 := ⟨Try.f57.name, by decide, Try.func57.trans (congrArg some (by kernel_rfl))⟩
  t3 := Try.underlying3
  a3 := Try.isAgg3
  z3 := Try.sizeOf3
  v3 := Try.zeroValue3
  t4 := Try.underlying4
  a4 := Try.isAgg4
  z4 := Try.sizeOf4
  v4 := Try.zeroValue4
  t22 := Try.underlying3
  a22 := Try.isAgg3
  z22 := Try.sizeOf3
  v22 := Try.zeroValue3 }
end Go.Proofs
