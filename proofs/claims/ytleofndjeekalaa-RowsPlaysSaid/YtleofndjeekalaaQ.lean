/- Rows: the library's sort is of this program. -/
import Derived.Shelf.SlSortCmp.WholeK
import Derived.Test.YtleofndjeekalaaC1
import Derived.KernelRfl
namespace Go.Proofs.Ytleofndjeekalaa
open Go Go.Shelf Go.RowKit Go.Lib Go.Sort Go.Proofs
def sortRen : Ren := { f := fun x => match x with | 6 => 34 | 15 => 42 | 14 => 41 | 28 => 55 | 29 => 56 | 20 => 47 | 21 => 48 | 22 => 49 | 23 => 50 | 24 => 51 | 25 => 52 | 26 => 53 | 27 => 54 | 46 => 58 | 47 => 59 | 48 => 60 | 49 => 61 | 50 => 62 | 57 => 63 | n => n, t := fun x => match x with | 22 => 30 | 24 => 36 | 25 => 75 | 3 => 3 | 39 => 82 | 0 => 0 | 53 => 34 | 55 => 96 | 4 => 4 | 46 => 89 | 45 => 88 | 50 => 43 | 5 => 5 | 9 => 9 | 66 => 98 | 70 => 102 | 76 => 104 | 77 => 105 | n => n, g := fun n => n }
set_option maxRecDepth 100000 in
theorem sortLay : SlLaysF0.n6 Try.prog sortRen where
  mixed := by kernel_rfl
  f6 := ⟨ "slices.SortFunc[[]clerestory/api.Cell,clerestory/api.Cell]", of_decide_eq_true (by kernel_rfl), Try.func34.trans (by kernel_rfl)⟩
  f14 := ⟨ "slices.pdqsortCmpFunc[clerestory/api.Cell]", of_decide_eq_true (by kernel_rfl), Try.func41.trans (by kernel_rfl)⟩
  f15 := Try.func42.trans (by kernel_rfl)
  f20 := ⟨ "slices.insertionSortCmpFunc[clerestory/api.Cell]", of_decide_eq_true (by kernel_rfl), Try.func47.trans (by kernel_rfl)⟩
  f21 := ⟨ "slices.heapSortCmpFunc[clerestory/api.Cell]", of_decide_eq_true (by kernel_rfl), Try.func48.trans (by kernel_rfl)⟩
  f22 := ⟨ "slices.breakPatternsCmpFunc[clerestory/api.Cell]", of_decide_eq_true (by kernel_rfl), Try.func49.trans (by kernel_rfl)⟩
  f23 := ⟨ "slices.choosePivotCmpFunc[clerestory/api.Cell]", of_decide_eq_true (by kernel_rfl), Try.func50.trans (by kernel_rfl)⟩
  f24 := ⟨ "slices.reverseRangeCmpFunc[clerestory/api.Cell]", of_decide_eq_true (by kernel_rfl), Try.func51.trans (by kernel_rfl)⟩
  f25 := ⟨ "slices.partialInsertionSortCmpFunc[clerestory/api.Cell]", of_decide_eq_true (by kernel_rfl), Try.func52.trans (by kernel_rfl)⟩
  f26 := ⟨ "slices.partitionEqualCmpFunc[clerestory/api.Cell]", of_decide_eq_true (by kernel_rfl), Try.func53.trans (by kernel_rfl)⟩
  f27 := ⟨ "slices.partitionCmpFunc[clerestory/api.Cell]", of_decide_eq_true (by kernel_rfl), Try.func54.trans (by kernel_rfl)⟩
  f28 := Try.func55.trans (by kernel_rfl)
  f29 := Try.func56.trans (by kernel_rfl)
  f46 := ⟨ "slices.siftDownCmpFunc[clerestory/api.Cell]", of_decide_eq_true (by kernel_rfl), Try.func58.trans (by kernel_rfl)⟩
  f47 := Try.func59.trans (by kernel_rfl)
  f48 := Try.func60.trans (by kernel_rfl)
  f49 := ⟨ "slices.medianAdjacentCmpFunc[clerestory/api.Cell]", of_decide_eq_true (by kernel_rfl), Try.func61.trans (by kernel_rfl)⟩
  f50 := ⟨ "slices.medianCmpFunc[clerestory/api.Cell]", of_decide_eq_true (by kernel_rfl), Try.func62.trans (by kernel_rfl)⟩
  f57 := ⟨ "slices.order2CmpFunc[clerestory/api.Cell]", of_decide_eq_true (by kernel_rfl), Try.func63.trans (by kernel_rfl)⟩
  t0 := Try.underlying0
  a0 := Try.isAgg0
  z0 := Try.sizeOf0
  v0 := Try.zeroValue0
  t3 := Try.underlying3
  a3 := Try.isAgg3
  z3 := Try.sizeOf3
  v3 := Try.zeroValue3
  t4 := Try.underlying4
  a4 := Try.isAgg4
  z4 := Try.sizeOf4
  v4 := Try.zeroValue4
  t5 := Try.underlying5
  a5 := Try.isAgg5
  z5 := Try.sizeOf5
  v5 := Try.zeroValue5
  t9 := Try.underlying9
  a9 := Try.isAgg9
  z9 := Try.sizeOf9
  v9 := Try.zeroValue9
  t22 := Try.underlying30
  a22 := Try.isAgg30
  z22 := Try.sizeOf30
  v22 := Try.zeroValue30
  t25 := Try.underlying75
  a25 := Try.isAgg75
  z25 := Try.sizeOf75
  v25 := Try.zeroValue75
  t39 := Try.underlying82
  a39 := Try.isAgg82
  z39 := Try.sizeOf82
  v39 := Try.zeroValue82
  t45 := Try.underlying88
  a45 := Try.isAgg88
  z45 := Try.sizeOf88
  v45 := Try.zeroValue88
  t46 := Try.underlying89
  a46 := Try.isAgg89
  z46 := Try.sizeOf89
  v46 := Try.zeroValue89
  t50 := Try.underlying43
  a50 := Try.isAgg43
  z50 := Try.sizeOf43
  v50 := Try.zeroValue43
  t53 := Try.underlying34
  a53 := Try.isAgg34
  z53 := Try.sizeOf34
  v53 := Try.zeroValue34
  t55 := Try.underlying96
  a55 := Try.isAgg96
  z55 := Try.sizeOf96
  v55 := Try.zeroValue96
  t66 := Try.underlying98
  a66 := Try.isAgg98
  z66 := Try.sizeOf98
  v66 := Try.zeroValue98
  t70 := Try.underlying102
  a70 := Try.isAgg102
  z70 := Try.sizeOf102
  v70 := Try.zeroValue102
  t76 := Try.underlying104
  a76 := Try.isAgg104
  z76 := Try.sizeOf104
  v76 := Try.zeroValue104
  t77 := Try.underlying105
  a77 := Try.isAgg105
  z77 := Try.sizeOf105
  v77 := Try.zeroValue105
end Go.Proofs.Ytleofndjeekalaa
