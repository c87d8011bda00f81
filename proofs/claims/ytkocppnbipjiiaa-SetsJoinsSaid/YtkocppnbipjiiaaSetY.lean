/- Sets: the library's bodies, as this program numbers them. -/
import Derived.Test.YtkocppnbipjiiaaSet1
import Derived.Shelf.SlLaysF
import Derived.Shelf.SlLaysE0
import Derived.Shelf.Lays8
namespace Go.Proofs.Ytkocppnbipjiiaa.U
open Go Go.Proofs Go.Shelf
def ρ_lay6 : Ren := ⟨fun | 6 => 39 | 14 => 49 | 15 => 50 | 20 => 59 | 21 => 60 | 22 => 61 | 23 => 62 | 24 => 63 | 25 => 64 | 26 => 65 | 27 => 66 | 28 => 67 | 29 => 68 | 46 => 75 | 47 => 76 | 48 => 77 | 49 => 78 | 50 => 79 | 57 => 80 | x => x, fun | 0 => 0 | 3 => 3 | 4 => 4 | 5 => 5 | 9 => 9 | 22 => 24 | 24 => 49 | 25 => 63 | 39 => 73 | 45 => 93 | 46 => 94 | 50 => 98 | 53 => 101 | 55 => 103 | 66 => 104 | 70 => 108 | 76 => 110 | 77 => 111 | x => x, fun x => x⟩
theorem lay6 : SlLaysF.n6 pr ρ_lay6 where
  mixed := by kernel_rfl
  f6 := ⟨"slices.SortFunc[[]complex128,complex128]", rfl, by kernel_rfl⟩
  f14 := ⟨"slices.pdqsortCmpFunc[complex128]", rfl, by kernel_rfl⟩
  f15 := by kernel_rfl
  f20 := ⟨"slices.insertionSortCmpFunc[complex128]", rfl, by kernel_rfl⟩
  f21 := ⟨"slices.heapSortCmpFunc[complex128]", rfl, by kernel_rfl⟩
  f22 := ⟨"slices.breakPatternsCmpFunc[complex128]", rfl, by kernel_rfl⟩
  f23 := ⟨"slices.choosePivotCmpFunc[complex128]", rfl, by kernel_rfl⟩
  f24 := ⟨"slices.reverseRangeCmpFunc[complex128]", rfl, by kernel_rfl⟩
  f25 := ⟨"slices.partialInsertionSortCmpFunc[complex128]", rfl, by kernel_rfl⟩
  f26 := ⟨"slices.partitionEqualCmpFunc[complex128]", rfl, by kernel_rfl⟩
  f27 := ⟨"slices.partitionCmpFunc[complex128]", rfl, by kernel_rfl⟩
  f28 := by kernel_rfl
  f29 := by kernel_rfl
  f46 := ⟨"slices.siftDownCmpFunc[complex128]", rfl, by kernel_rfl⟩
  f47 := by kernel_rfl
  f48 := by kernel_rfl
  f49 := ⟨"slices.medianAdjacentCmpFunc[complex128]", rfl, by kernel_rfl⟩
  f50 := ⟨"slices.medianCmpFunc[complex128]", rfl, by kernel_rfl⟩
  f57 := ⟨"slices.order2CmpFunc[complex128]", rfl, by kernel_rfl⟩
  t0 := by kernel_rfl
  a0 := fun w => by kernel_rfl
  z0 := fun w => by kernel_rfl
  v0 := fun w => by kernel_rfl
  t3 := by kernel_rfl
  a3 := fun w => by kernel_rfl
  z3 := fun w => by kernel_rfl
  v3 := fun w => by kernel_rfl
  t4 := by kernel_rfl
  a4 := fun w => by kernel_rfl
  z4 := fun w => by kernel_rfl
  v4 := fun w => by kernel_rfl
  t5 := by kernel_rfl
  a5 := fun w => by kernel_rfl
  z5 := fun w => by kernel_rfl
  v5 := fun w => by kernel_rfl
  t9 := by kernel_rfl
  a9 := fun w => by kernel_rfl
  z9 := fun w => by kernel_rfl
  v9 := fun w => by kernel_rfl
  t22 := by kernel_rfl
  a22 := fun w => by kernel_rfl
  z22 := fun w => by kernel_rfl
  v22 := fun w => by kernel_rfl
  a24 := fun w => by kernel_rfl
  z24 := fun w => by kernel_rfl
  t25 := by kernel_rfl
  a25 := fun w => by kernel_rfl
  z25 := fun w => by kernel_rfl
  v25 := fun w => by kernel_rfl
  t39 := by kernel_rfl
  a39 := fun w => by kernel_rfl
  z39 := fun w => by kernel_rfl
  v39 := fun w => by kernel_rfl
  t45 := by kernel_rfl
  a45 := fun w => by kernel_rfl
  z45 := fun w => by kernel_rfl
  v45 := fun w => by kernel_rfl
  t46 := by kernel_rfl
  a46 := fun w => by kernel_rfl
  z46 := fun w => by kernel_rfl
  v46 := fun w => by kernel_rfl
  t50 := by kernel_rfl
  a50 := fun w => by kernel_rfl
  z50 := fun w => by kernel_rfl
  v50 := fun w => by kernel_rfl
  t53 := by kernel_rfl
  a53 := fun w => by kernel_rfl
  z53 := fun w => by kernel_rfl
  v53 := fun w => by kernel_rfl
  t55 := by kernel_rfl
  a55 := fun w => by kernel_rfl
  z55 := fun w => by kernel_rfl
  v55 := fun w => by kernel_rfl
  t66 := by kernel_rfl
  a66 := fun w => by kernel_rfl
  z66 := fun w => by kernel_rfl
  v66 := fun w => by kernel_rfl
  t70 := by kernel_rfl
  a70 := fun w => by kernel_rfl
  z70 := fun w => by kernel_rfl
  v70 := fun w => by kernel_rfl
  t76 := by kernel_rfl
  a76 := fun w => by kernel_rfl
  z76 := fun w => by kernel_rfl
  v76 := fun w => by kernel_rfl
  t77 := by kernel_rfl
  a77 := fun w => by kernel_rfl
  z77 := fun w => by kernel_rfl
  v77 := fun w => by kernel_rfl
def ρ_lay41 : Ren := ⟨fun | 41 => 28 | x => x, fun | 22 => 24 | 23 => 49 | 4 => 4 | x => x, fun x => x⟩
theorem lay41 : SlLaysE0.n41 pr ρ_lay41 where
  mixed := by kernel_rfl
  f41 := ⟨"slices.Clone[[]complex128,complex128]", rfl, by kernel_rfl⟩
  t4 := by kernel_rfl
  a4 := fun w => by kernel_rfl
  z4 := fun w => by kernel_rfl
  v4 := fun w => by kernel_rfl
  t22 := by kernel_rfl
  a22 := fun w => by kernel_rfl
  z22 := fun w => by kernel_rfl
  v22 := fun w => by kernel_rfl
def ρ_lay4 : Ren := ⟨fun | 4 => 47 | x => x, fun | 0 => 0 | 3 => 3 | 4 => 4 | 9 => 9 | 20 => 20 | 22 => 24 | 25 => 49 | x => x, fun x => x⟩
theorem lay4 : Lays8.n4 pr ρ_lay4 where
  mixed := by kernel_rfl
  f4 := ⟨"slices.Grow[[]complex128,complex128]", rfl, by kernel_rfl⟩
  t0 := by kernel_rfl
  a0 := fun w => by kernel_rfl
  z0 := fun w => by kernel_rfl
  v0 := fun w => by kernel_rfl
  t3 := by kernel_rfl
  a3 := fun w => by kernel_rfl
  z3 := fun w => by kernel_rfl
  v3 := fun w => by kernel_rfl
  t4 := by kernel_rfl
  a4 := fun w => by kernel_rfl
  z4 := fun w => by kernel_rfl
  v4 := fun w => by kernel_rfl
  t9 := by kernel_rfl
  a9 := fun w => by kernel_rfl
  z9 := fun w => by kernel_rfl
  v9 := fun w => by kernel_rfl
  t20 := by kernel_rfl
  a20 := fun w => by kernel_rfl
  z20 := fun w => by kernel_rfl
  v20 := fun w => by kernel_rfl
  t22 := by kernel_rfl
  a22 := fun w => by kernel_rfl
  z22 := fun w => by kernel_rfl
  v22 := fun w => by kernel_rfl
end Go.Proofs.Ytkocppnbipjiiaa.U
