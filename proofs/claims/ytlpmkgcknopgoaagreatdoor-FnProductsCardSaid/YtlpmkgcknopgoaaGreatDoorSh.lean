/- Walks: traces that are shifted, energies, the best of a list, the best shift. -/
import Derived.Test.YtlpmkgcknopgoaaGreatDoorSrc
namespace Go.Proofs.YtlpmkgcknopgoaaGreatDoor
open Go Go.RowKit

set_option maxRecDepth 100000 in
set_option maxHeartbeats 400000 in
theorem within_any (w : World) (n lo hi : Int) :
    Calls Tryz.prog 54 #[.int .i64 n, .int .i64 lo, .int .i64 hi] w fun e w' => e = .returned (.bool (inB n lo hi)) ∧ w' = w := by
  by_cases h : lo ≤ n
  · have HG : Hid (inB n lo hi = decide (n ≤ hi)) := Lib.hid (by unfold inB; rw [decide_eq_true h]; rfl)
    go_enter Tryz.func54, Tryz.ntmps54
    go_wp2
    go_ret
    refine ⟨?_, rfl⟩
    rw [HG.out]; rfl
  · have HG : Hid (inB n lo hi = false) := Lib.hid (by unfold inB; rw [decide_eq_false h]; rfl)
    go_enter Tryz.func54, Tryz.ntmps54
    go_wp2
    go_ret
    refine ⟨?_, rfl⟩
    rw [HG.out]; rfl
end Go.Proofs.YtlpmkgcknopgoaaGreatDoor
