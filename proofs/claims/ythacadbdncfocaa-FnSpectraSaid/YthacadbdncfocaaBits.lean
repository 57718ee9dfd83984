/- Walks: the bits of numbers. -/
import Derived.Test.YthacadbdncfocaaStrB
namespace Go.Proofs.Ythacadbdncfocaa
open Go Go.RowKit

theorem isN_order (k : FloatKind) (r : Nat) : (k.format.order r r != some Ordering.eq) = isN k r := by
  cases hn : isN k r with
  | true =>
    have : k.format.order r r = none := by
      unfold isN FloatKind.decode at hn
      unfold Ieee.Format.order
      obtain ⟨s, t, e⟩ := datum_nan hn
      rw [e]
      rfl
    rw [this]; rfl
  | false => rw [order_self hn]; rfl

end Go.Proofs.Ythacadbdncfocaa
