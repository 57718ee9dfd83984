/- What a law hands back. -/
import Derived.Test.YthacadbdncfocaaOwn
namespace Go.Proofs.Ythacadbdncfocaa
open Go Go.RowKit
def TrueB (w : World) (e : Ending) (w' : World) : Prop := e = .returned (.bool true) ∧ Below w.heap.size w w'
theorem TrueB.mk {w w' : World} (h : Below w.heap.size w w') : TrueB w (.returned (.bool true)) w' := ⟨rfl, h⟩
end Go.Proofs.Ythacadbdncfocaa
