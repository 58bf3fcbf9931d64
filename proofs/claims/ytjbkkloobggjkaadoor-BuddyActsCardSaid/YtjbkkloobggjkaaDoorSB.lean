/- The library's sort, laid at this program: each field a fact of the program's own. No condition. -/
import Derived.Test.YtjbkkloobggjkaaDoorChecked
import Derived.Shelf.SlGeneric
import Derived.Shelf.SlSortCmp.NoneTotal
import Derived.Ground.SlsfProg
namespace Go.Proofs.YtjbkkloobggjkaaDoor
open Go.Shelf
def sortBlk_ren : Go.Shelf.Ren := ⟨fun | 6 => 43 | 15 => 47 | 14 => 46 | 28 => 57 | 29 => 58 | 20 => 49 | 21 => 50 | 22 => 51 | 23 => 52 | 24 => 53 | 25 => 54 | 26 => 55 | 27 => 56 | 46 => 59 | 47 => 60 | 48 => 61 | 49 => 62 | 50 => 63 | 57 => 64 | n => n, fun | 22 => 32 | 24 => 44 | 25 => 78 | 3 => 3 | 39 => 50 | 0 => 0 | 53 => 68 | 55 => 70 | 4 => 4 | 46 => 84 | 45 => 83 | 50 => 62 | 5 => 5 | 9 => 9 | 66 => 89 | 70 => 93 | 76 => 95 | 77 => 39 | n => n, fun | n => n⟩
theorem sortBlk : Go.Proofs.SlLaysF0.n6 Tryd.prog sortBlk_ren := {
  mixed := by kernel_rfl
  f6 := ⟨Tryd.f43.name, by decide, Tryd.func43.trans (congrArg some (by kernel_rfl))⟩
  f14 := ⟨Tryd.f46.name, by decide, Tryd.func46.trans (congrArg some (by kernel_rfl))⟩
  f15 := Tryd.func47.trans (congrArg some (by kernel_rfl))
  f20 := ⟨Tryd.f49.name, by decide, Tryd.func49.trans (congrArg some (by kernel_rfl))⟩
  f21 := ⟨Tryd.f50.name, by decide, Tryd.func50.trans (congrArg some (by kernel_rfl))⟩
  f22 := ⟨Tryd.f51.name, by decide, Tryd.func51.trans (congrArg some (by kernel_rfl))⟩
  f23 := ⟨Tryd.f52.name, by decide, Tryd.func52.trans (congrArg some (by kernel_rfl))⟩
  f24 := ⟨Tryd.f53.name, by decide, Tryd.func53.trans (congrArg some (by kernel_rfl))⟩
  f25 := ⟨Tryd.f54.name, by decide, Tryd.func54.trans (congrArg some (by kernel_rfl))⟩
  f26 := ⟨Tryd.f55.name, by decide, Tryd.func55.trans (congrArg some (by kernel_rfl))⟩
  f27 := ⟨Tryd.f56.name, by decide, Tryd.func56.trans (congrArg some (by kernel_rfl))⟩
  f28 := Tryd.func57.trans (congrArg some (by kernel_rfl))
  f29 := Tryd.func58.trans (congrArg some (by kernel_rfl))
  f46 := ⟨Tryd.f59.name, by decide, Tryd.func59.trans (congrArg some (by kernel_rfl))⟩
  f47 := Tryd.func60.trans (congrArg some (by kernel_rfl))
  f48 := Tryd.func61.trans (congrArg some (by kernel_rfl))
  f49 := ⟨Tryd.f62.name, by decide, Tryd.func62.trans (congrArg some (by kernel_rfl))⟩
  f50 := ⟨Tryd.f63.name, by decide, Tryd.func63.trans (congrArg some (by kernel_rfl))⟩
  f57 := ⟨Tryd.f64.name, by decide, Tryd.func64.trans (congrArg some (by kernel_rfl))⟩
  t0 := Tryd.underlying0
  a0 := Tryd.isAgg0
  z0 := Tryd.sizeOf0
  v0 := Tryd.zeroValue0
  t3 := Tryd.underlying3
  a3 := Tryd.isAgg3
  z3 := Tryd.sizeOf3
  v3 := Tryd.zeroValue3
  t4 := Tryd.underlying4
  a4 := Tryd.isAgg4
  z4 := Tryd.sizeOf4
  v4 := Tryd.zeroValue4
  t5 := Tryd.underlying5
  a5 := Tryd.isAgg5
  z5 := Tryd.sizeOf5
  v5 := Tryd.zeroValue5
  t9 := Tryd.underlying9
  a9 := Tryd.isAgg9
  z9 := Tryd.sizeOf9
  v9 := Tryd.zeroValue9
  t22 := Tryd.underlying32
  a22 := Tryd.isAgg32
  z22 := Tryd.sizeOf32
  v22 := Tryd.zeroValue32
  t25 := Tryd.underlying78
  a25 := Tryd.isAgg78
  z25 := Tryd.sizeOf78
  v25 := Tryd.zeroValue78
  t39 := Tryd.underlying50
  a39 := Tryd.isAgg50
  z39 := Tryd.sizeOf50
  v39 := Tryd.zeroValue50
  t45 := Tryd.underlying83
  a45 := Tryd.isAgg83
  z45 := Tryd.sizeOf83
  v45 := Tryd.zeroValue83
  t46 := Tryd.underlying84
  a46 := Tryd.isAgg84
  z46 := Tryd.sizeOf84
  v46 := Tryd.zeroValue84
  t50 := Tryd.underlying62
  a50 := Tryd.isAgg62
  z50 := Tryd.sizeOf62
  v50 := Tryd.zeroValue62
  t53 := Tryd.underlying68
  a53 := Tryd.isAgg68
  z53 := Tryd.sizeOf68
  v53 := Tryd.zeroValue68
  t55 := Tryd.underlying70
  a55 := Tryd.isAgg70
  z55 := Tryd.sizeOf70
  v55 := Tryd.zeroValue70
  t66 := Tryd.underlying89
  a66 := Tryd.isAgg89
  z66 := Tryd.sizeOf89
  v66 := Tryd.zeroValue89
  t70 := Tryd.underlying93
  a70 := Tryd.isAgg93
  z70 := Tryd.sizeOf93
  v70 := Tryd.zeroValue93
  t76 := Tryd.underlying95
  a76 := Tryd.isAgg95
  z76 := Tryd.sizeOf95
  v76 := Tryd.zeroValue95
  t77 := Tryd.underlying39
  a77 := Tryd.isAgg39
  z77 := Tryd.sizeOf39
  v77 := Tryd.zeroValue39 }
end Go.Proofs.YtjbkkloobggjkaaDoor
