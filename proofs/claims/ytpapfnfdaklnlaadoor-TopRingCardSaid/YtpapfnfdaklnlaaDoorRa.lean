/- The library's sort, at the ring's points: the kit's contracts lie here. -/
import Derived.Test.YtpapfnfdaklnlaaDoorApp
import Derived.Shelf.SlLaysF0
namespace Go.Proofs.YtpapfnfdaklnlaaDoor
set_option linter.unusedVariables false
open Go.Shelf Go.RowKit

def sortRen : Go.Shelf.Ren := ⟨fun | 6 => 20 | 14 => 38 | 15 => 39 | 20 => 51 | 21 => 52 | 22 => 53 | 23 => 54 | 24 => 55 | 25 => 56 | 26 => 57 | 27 => 58 | 28 => 59 | 29 => 60 | 46 => 74 | 47 => 75 | 48 => 76 | 49 => 77 | 50 => 78 | 57 => 86 | n => n, fun | 22 => 56 | 24 => 63 | 25 => 68 | 39 => 86 | 45 => 100 | 46 => 101 | 50 => 59 | 53 => 107 | 55 => 28 | 66 => 119 | 70 => 123 | 76 => 132 | 77 => 133 | n => n, fun n => n⟩
theorem sortLays : SlLaysF0.n6 Tryd.prog sortRen where
  mixed := by kernel_rfl
  f6 := ⟨ "slices.SortFunc[[]mandoline/ring.point,mandoline/ring.point]", by decide, Tryd.func20.trans (congrArg some (by kernel_rfl))⟩
  f14 := ⟨ "slices.pdqsortCmpFunc[mandoline/ring.point]", by decide, Tryd.func38.trans (congrArg some (by kernel_rfl))⟩
  f15 := Tryd.func39.trans (congrArg some (by kernel_rfl))
  f20 := ⟨ "slices.insertionSortCmpFunc[mandoline/ring.point]", by decide, Tryd.func51.trans (congrArg some (by kernel_rfl))⟩
  f21 := ⟨ "slices.heapSortCmpFunc[mandoline/ring.point]", by decide, Tryd.func52.trans (congrArg some (by kernel_rfl))⟩
  f22 := ⟨ "slices.breakPatternsCmpFunc[mandoline/ring.point]", by decide, Tryd.func53.trans (congrArg some (by kernel_rfl))⟩
  f23 := ⟨ "slices.choosePivotCmpFunc[mandoline/ring.point]", by decide, Tryd.func54.trans (congrArg some (by kernel_rfl))⟩
  f24 := ⟨ "slices.reverseRangeCmpFunc[mandoline/ring.point]", by decide, Tryd.func55.trans (congrArg some (by kernel_rfl))⟩
  f25 := ⟨ "slices.partialInsertionSortCmpFunc[mandoline/ring.point]", by decide, Tryd.func56.trans (congrArg some (by kernel_rfl))⟩
  f26 := ⟨ "slices.partitionEqualCmpFunc[mandoline/ring.point]", by decide, Tryd.func57.trans (congrArg some (by kernel_rfl))⟩
  f27 := ⟨ "slices.partitionCmpFunc[mandoline/ring.point]", by decide, Tryd.func58.trans (congrArg some (by kernel_rfl))⟩
  f28 := Tryd.func59.trans (congrArg some (by kernel_rfl))
  f29 := Tryd.func60.trans (congrArg some (by kernel_rfl))
  f46 := ⟨ "slices.siftDownCmpFunc[mandoline/ring.point]", by decide, Tryd.func74.trans (congrArg some (by kernel_rfl))⟩
  f47 := Tryd.func75.trans (congrArg some (by kernel_rfl))
  f48 := Tryd.func76.trans (congrArg some (by kernel_rfl))
  f49 := ⟨ "slices.medianAdjacentCmpFunc[mandoline/ring.point]", by decide, Tryd.func77.trans (congrArg some (by kernel_rfl))⟩
  f50 := ⟨ "slices.medianCmpFunc[mandoline/ring.point]", by decide, Tryd.func78.trans (congrArg some (by kernel_rfl))⟩
  f57 := ⟨ "slices.order2CmpFunc[mandoline/ring.point]", by decide, Tryd.func86.trans (congrArg some (by kernel_rfl))⟩
  t0 := Tryd.underlying0
  a0 := Tryd.isAgg0
  z0 := Tryd.sizeOf0
  v0 := Tryd.zeroValue0
  t3 := Tryd.underlying3
  a3 := Tryd.isAgg3
  z3 := Tryd.sizeOf3
  v3 := Tryd.zeroValue3
  t4 := Tryd.underlying4
  a4 := Tryd.isAgg4
  z4 := Tryd.sizeOf4
  v4 := Tryd.zeroValue4
  t5 := Tryd.underlying5
  a5 := Tryd.isAgg5
  z5 := Tryd.sizeOf5
  v5 := Tryd.zeroValue5
  t9 := Tryd.underlying9
  a9 := Tryd.isAgg9
  z9 := Tryd.sizeOf9
  v9 := Tryd.zeroValue9
  t22 := Tryd.underlying56
  a22 := Tryd.isAgg56
  z22 := Tryd.sizeOf56
  v22 := Tryd.zeroValue56
  t25 := Tryd.underlying68
  a25 := Tryd.isAgg68
  z25 := Tryd.sizeOf68
  v25 := Tryd.zeroValue68
  t39 := Tryd.underlying86
  a39 := Tryd.isAgg86
  z39 := Tryd.sizeOf86
  v39 := Tryd.zeroValue86
  t45 := Tryd.underlying100
  a45 := Tryd.isAgg100
  z45 := Tryd.sizeOf100
  v45 := Tryd.zeroValue100
  t46 := Tryd.underlying101
  a46 := Tryd.isAgg101
  z46 := Tryd.sizeOf101
  v46 := Tryd.zeroValue101
  t50 := Tryd.underlying59
  a50 := Tryd.isAgg59
  z50 := Tryd.sizeOf59
  v50 := Tryd.zeroValue59
  t53 := Tryd.underlying107
  a53 := Tryd.isAgg107
  z53 := Tryd.sizeOf107
  v53 := Tryd.zeroValue107
  t55 := Tryd.underlying28
  a55 := Tryd.isAgg28
  z55 := Tryd.sizeOf28
  v55 := Tryd.zeroValue28
  t66 := Tryd.underlying119
  a66 := Tryd.isAgg119
  z66 := Tryd.sizeOf119
  v66 := Tryd.zeroValue119
  t70 := Tryd.underlying123
  a70 := Tryd.isAgg123
  z70 := Tryd.sizeOf123
  v70 := Tryd.zeroValue123
  t76 := Tryd.underlying132
  a76 := Tryd.isAgg132
  z76 := Tryd.sizeOf132
  v76 := Tryd.zeroValue132
  t77 := Tryd.underlying133
  a77 := Tryd.isAgg133
  z77 := Tryd.sizeOf133
  v77 := Tryd.zeroValue133
end Go.Proofs.YtpapfnfdaklnlaaDoor
