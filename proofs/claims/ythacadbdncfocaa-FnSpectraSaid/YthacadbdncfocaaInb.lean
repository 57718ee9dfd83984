/- A number between two. -/
import Derived.Test.YthacadbdncfocaaFl
namespace Go.Proofs.Ythacadbdncfocaa
open Go
/-- A number lies between two. -/
def inB (n lo hi : Int) : Bool := decide (lo ≤ n) && decide (n ≤ hi)
theorem inB_out {n lo hi : Int} (h : inB n lo hi = true) : lo ≤ n ∧ n ≤ hi := by
  unfold inB at h
  simpa using h
end Go.Proofs.Ythacadbdncfocaa
