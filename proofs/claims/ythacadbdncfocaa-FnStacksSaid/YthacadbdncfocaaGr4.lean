/- Walks on a seat of gathers: places compared; indices put in order by the library. -/
import Derived.Test.YthacadbdncfocaaGr3
import Derived.Test.YthacadbdncfocaaGs0
import Derived.Shelf.SlSortCmp.Insertion
import Derived.Deep.QuietTactic
namespace Go.Proofs.Ythacadbdncfocaa
open Go Go.RowKit Go.Shelf
open Go.Sort (grow putRow putCells mapBlock onCells Holds)

def cmpQ (q : Ordering) : Int := match q with | .lt => -1 | .gt => 1 | .eq => 0
def cmpO (x y : Nat) : Int := match FloatKind.f32.format.order x y with | some .lt => -1 | some .gt => 1 | _ => 0
end Go.Proofs.Ythacadbdncfocaa
