/- Walks: the bits of numbers. -/
import Derived.Test.YtlpmkgcknopgoaaGreatDoorStrB
namespace Go.Proofs.YtlpmkgcknopgoaaGreatDoor
open Go Go.RowKit

theorem isN_order (k : FloatKind) (r : Nat) : (k.format.order r r != some Ordering.eq) = isN k r := by
  cases hn : isN k r with
  | true =>
    have : k.format.order r r = none := by
      unfold isN FloatKind.decode at hn
      unfold Ieee.Format.order
      obtain ⟨s, t, e⟩ := datum_nan hn
      rw [e]
      rfl
    rw [this]; rfl
  | false => rw [order_self hn]; rfl

theorem run_bits (w : World) (r : Nat) : (callFunc 56 #[.float .f32 r]).run Tryz.prog w = .ok (.value (.int .u32 (r : Int))) w := by kernel_rfl

set_option maxRecDepth 100000 in
set_option maxHeartbeats 400000 in
theorem bitsOf_any (w : World) (r x : Nat) (hr : FV .f32 r x) :
    Calls Tryz.prog 21 #[.float .f32 r] w fun e w' => e = .returned (.int .i64 (x : Int)) ∧ w' = w := by
  have ho := isN_order .f32 r
  cases hn : isN .f32 r with
  | true =>
    rw [hn] at ho
    have hx : x = 2143289344 := by rw [← hr.2, can_of_nan hn]; rfl
    subst hx
    go_enter Tryz.func21, Tryz.ntmps21
    go_wp2
    go_ret
    exact ⟨rfl, rfl⟩
  | false =>
    rw [hn] at ho
    obtain rfl : r = x := by rw [← hr.2, can_of_not hn]
    have hlt : r < 4294967296 := hr.1
    have hb := run_bits
    go_enter Tryz.func21, Tryz.ntmps21
    go_wp2
    go_ret
    exact ⟨rfl, rfl⟩
set_option maxRecDepth 100000 in
set_option maxHeartbeats 400000 in
theorem l01Bits_any (w : World) (r x : Nat) (hr : FV .f32 r x) :
    Calls Tryz.prog 78 #[.float .f32 r] w fun e w' => e = .returned (.int .i64 (x : Int)) ∧ w' = w := by
  have ho := isN_order .f32 r
  cases hn : isN .f32 r with
  | true =>
    rw [hn] at ho
    have hx : x = 2143289344 := by rw [← hr.2, can_of_nan hn]; rfl
    subst hx
    go_enter Tryz.func78, Tryz.ntmps78
    go_wp2
    go_ret
    exact ⟨rfl, rfl⟩
  | false =>
    rw [hn] at ho
    obtain rfl : r = x := by rw [← hr.2, can_of_not hn]
    have hlt : r < 4294967296 := hr.1
    have hb := run_bits
    go_enter Tryz.func78, Tryz.ntmps78
    go_wp2
    go_ret
    exact ⟨rfl, rfl⟩
end Go.Proofs.YtlpmkgcknopgoaaGreatDoor
