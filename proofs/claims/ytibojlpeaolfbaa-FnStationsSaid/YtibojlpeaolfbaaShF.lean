/- The library's insertion sort at frames: the contract of the shelf, laid at this program. -/
import Derived.Test.YtibojlpeaolfbaaSrt
import Derived.Shelf.SlSortCmp.InsertionK
namespace Go.Proofs.Ytibojlpeaolfbaa
open Go Go.Shelf
def Try.laysF20_ren : Go.Shelf.Ren := ⟨fun | 20 => 147 | n => n, fun | 0 => 0 | 3 => 3 | 4 => 4 | 22 => 24 | 24 => 31 | 25 => 139 | n => n, fun | n => n⟩
set_option maxRecDepth 100000 in
theorem Try.laysF20 : Go.Proofs.SlLaysF0.n20 Try.prog Try.laysF20_ren := {
  mixed := by kernel_rfl
  f20 := ⟨"slices.insertionSortCmpFunc[loop.example/g01231/impl.Frame]", by decide, Try.func147.trans (congrArg some (by kernel_rfl))⟩
  t0 := Try.underlying0
  a0 := Try.isAgg0
  z0 := Try.sizeOf0
  v0 := Try.zeroValue0
  t3 := Try.underlying3
  a3 := Try.isAgg3
  z3 := Try.sizeOf3
  v3 := Try.zeroValue3
  t4 := Try.underlying4
  a4 := Try.isAgg4
  z4 := Try.sizeOf4
  v4 := Try.zeroValue4
  t22 := Try.underlying24
  a22 := Try.isAgg24
  z22 := Try.sizeOf24
  v22 := Try.zeroValue24
  t25 := Try.underlying139
  a25 := Try.isAgg139
  z25 := Try.sizeOf139
  v25 := Try.zeroValue139 }
end Go.Proofs.Ytibojlpeaolfbaa
