/- The library's maps.Keys and slices.Sort at this program: the shelf's contracts laid at its numbers. -/
import Derived.Shelf.SlIterI.Stops
import Derived.Shelf.SlIterI.Nil
import Derived.Shelf.SortM.Plain
import Derived.Shelf.SortM.SortNone
import Derived.RangeFuncOwn
import Derived.Test.YtjhemoekmlhlpaaProg
namespace Go.Proofs.Ytjhemoekmlhlpaa
open Go Go.RowKit Go.Maps Go.Sort Go.Shelf

def keysRen : Ren where
  f := fun | 7 => 38 | 10 => 52 | n => n
  t := fun | 23 => 80 | 26 => 3 | 3 => 3 | 28 => 85 | 0 => 0 | 27 => 84 | 33 => 65 | 4 => 4 | n => n
  g := fun n => n
theorem keysLaid : SlLaysZI.n7 Try.prog keysRen := by
  constructor
  case f7 => exact ⟨Try.f38.name, by kernel_rfl, by kernel_rfl⟩
  case f10 => exact ⟨Try.f52.name, by kernel_rfl, by kernel_rfl⟩
  all_goals first | kernel_rfl | (intro w; kernel_rfl)
def sortRen : Ren where
  f := fun | 5 => 39 | 7 => 53 | 8 => 54 | 10 => 67 | 11 => 68 | 12 => 69 | 13 => 70 | 14 => 71 | 15 => 72 | 16 => 73 | 17 => 74 | 18 => 75 | 19 => 76 | 20 => 77 | 30 => 79 | 31 => 80 | 32 => 81 | 33 => 82 | 34 => 83 | 35 => 84 | 40 => 85 | n => n
  t := fun | 0 => 0 | 3 => 3 | 4 => 4 | 5 => 5 | 9 => 9 | 22 => 23 | 23 => 23 | 25 => 3 | 32 => 102 | 35 => 113 | 36 => 114 | 41 => 39 | 44 => 120 | 46 => 122 | 53 => 123 | 57 => 127 | 63 => 129 | 64 => 130 | n => n
  g := fun n => n
theorem sortLaid : SlLaysM.n5 Try.prog sortRen := by
  constructor
  case f5 => exact ⟨Try.f39.name, by kernel_rfl, by kernel_rfl⟩
  case f7 => exact ⟨Try.f53.name, by kernel_rfl, by kernel_rfl⟩
  case f10 => exact ⟨Try.f67.name, by kernel_rfl, by kernel_rfl⟩
  case f11 => exact ⟨Try.f68.name, by kernel_rfl, by kernel_rfl⟩
  case f12 => exact ⟨Try.f69.name, by kernel_rfl, by kernel_rfl⟩
  case f13 => exact ⟨Try.f70.name, by kernel_rfl, by kernel_rfl⟩
  case f14 => exact ⟨Try.f71.name, by kernel_rfl, by kernel_rfl⟩
  case f15 => exact ⟨Try.f72.name, by kernel_rfl, by kernel_rfl⟩
  case f16 => exact ⟨Try.f73.name, by kernel_rfl, by kernel_rfl⟩
  case f17 => exact ⟨Try.f74.name, by kernel_rfl, by kernel_rfl⟩
  case f18 => exact ⟨Try.f75.name, by kernel_rfl, by kernel_rfl⟩
  case f30 => exact ⟨Try.f79.name, by kernel_rfl, by kernel_rfl⟩
  case f33 => exact ⟨Try.f82.name, by kernel_rfl, by kernel_rfl⟩
  case f34 => exact ⟨Try.f83.name, by kernel_rfl, by kernel_rfl⟩
  case f35 => exact ⟨Try.f84.name, by kernel_rfl, by kernel_rfl⟩
  case f40 => exact ⟨Try.f85.name, by kernel_rfl, by kernel_rfl⟩
  all_goals first | kernel_rfl | (intro w; kernel_rfl)
end Go.Proofs.Ytjhemoekmlhlpaa
