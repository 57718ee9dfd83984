/- Contracts of the library's functions at this program, laid by the kit's tool: bits_Len (numbers of the seat Ytibojlpeaolfbaa alone). -/
import Derived.Shelf.Small.Bits
import Derived.Shelf.Strconv.Itoa0
import Derived.Ground.SlgnProg
import Derived.Shelf.SlicesG.CompactI
import Derived.Shelf.SlicesG.SearchI
import Derived.Shelf.SlicesG.Cells
import Derived.Shelf.SlicesE.Clone
import Derived.Test.YtibojlpeaolfbaaChecked
namespace Go.Proofs.Ytibojlpeaolfbaa
open Go Go.Shelf
def Try.lays125_ren : Go.Shelf.Ren := ⟨fun | 125 => 138 | 128 => 158 | 129 => 159 | n => n, fun | 46 => 134 | 3 => 3 | 51 => 123 | 53 => 116 | 4 => 4 | 5 => 5 | 9 => 9 | n => n, fun | n => n⟩
theorem Try.lays125 : Go.Proofs.Lays.n125 Try.prog Try.lays125_ren := {
  mixed := by kernel_rfl
  f125 := Try.func138.trans (congrArg some (by kernel_rfl))
  f128 := Try.func158.trans (congrArg some (by kernel_rfl))
  f129 := Try.func159.trans (congrArg some (by kernel_rfl))
  t3 := Try.underlying3
  a3 := Try.isAgg3
  z3 := Try.sizeOf3
  v3 := Try.zeroValue3
  t4 := Try.underlying4
  a4 := Try.isAgg4
  z4 := Try.sizeOf4
  v4 := Try.zeroValue4
  t5 := Try.underlying5
  a5 := Try.isAgg5
  z5 := Try.sizeOf5
  v5 := Try.zeroValue5
  t9 := Try.underlying9
  a9 := Try.isAgg9
  z9 := Try.sizeOf9
  v9 := Try.zeroValue9
  t46 := Try.underlying134
  a46 := Try.isAgg134
  z46 := Try.sizeOf134
  v46 := Try.zeroValue134
  t51 := Try.underlying123
  a51 := Try.isAgg123
  z51 := Try.sizeOf123
  v51 := Try.zeroValue123
  t53 := Try.underlying116
  a53 := Try.isAgg116
  z53 := Try.sizeOf116
  v53 := Try.zeroValue116 }
/-- bits.Len: "Len returns the minimum number of bits required to represent x; the result is 0 for x == 0.": IT RETURNS 'Lib.bitLen x'; the world is as it was. (A uint has 64 bits in the model.) ITS CALLEE bits.Len64 IS MET BY ITS OWN CONTRACT OFF THE SHELF (lay that first). (LAID: no walk: one application.) -/
theorem Try.bits_Len (x : Int) (w : World) (h0 : 0 ≤ x) (h1 : x ≤ 18446744073709551615) :
    Calls Try.prog 138 #[.int .u64 x] w fun e w' => e = .returned (.int .i64 (Lib.bitLen x.toNat)) ∧ w' = w := Any.bits_Len Try.lays125 x w h0 h1
end Go.Proofs.Ytibojlpeaolfbaa
