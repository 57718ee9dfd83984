/- Walks: l01Cut (a text cut at a mark). -/
import Derived.Test.YtlpmkgcknopgoaaGreatDoorStrB
import Derived.Test.YtlpmkgcknopgoaaGreatDoorCut
import Derived.Lib.Hide
namespace Go.Proofs.YtlpmkgcknopgoaaGreatDoor
open Go Go.RowKit

theorem Tryz.infoSt : (Tryz.prog.info? 9).map (fun i => (i.zero, i.size, i.bytes)) = some (some (.string ⟨#[]⟩), 1, 16) := by kernel_rfl
theorem cutB_pos (m : UInt8) (s : ByteArray) : 0 < (cutB m s).length := by
  unfold cutB
  rw [List.length_map]
  exact List.length_pos_iff.2 (cutL_ne m _)
theorem byte_at {s : ByteArray} {j : Nat} (h : j < s.size) (m : UInt8) : (s.data.toList[j]? = some m) ↔ (s[j]'h).toNat = m.toNat := by
  have hj : j < s.data.toList.length := by rw [← Lib.size_eq]; exact h
  rw [List.getElem?_eq_getElem hj, Option.some.injEq, ← UInt8.toNat_inj]
  exact Iff.rfl
/-- The parts that have come at place j. -/
def CutAt (m : UInt8) (s : ByteArray) (a j : Nat) (pre : List ByteArray) : Prop :=
  (j ≤ s.size ∧ a ≤ j ∧ NoM m s a j ∧ pre ++ cutB m (s.extract a s.size) = cutB m s) ∨ (j = s.size + 1 ∧ pre = cutB m s)

end Go.Proofs.YtlpmkgcknopgoaaGreatDoor
