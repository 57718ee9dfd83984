/- Walks: are numbers, and lists of numbers, the same. -/
import Derived.Test.YtalajgjdceoleaaL3
namespace Go.Proofs.Ytalajgjdceoleaa
open Go Go.RowKit

theorem isN_order (k : FloatKind) (r : Nat) : (k.format.order r r != some Ordering.eq) = isN k r := by
  cases hn : isN k r with
  | true =>
    have : k.format.order r r = none := by
      unfold isN FloatKind.decode at hn
      unfold Ieee.Format.order
      obtain ⟨s, t, e⟩ := datum_nan hn
      rw [e]
      rfl
    rw [this]; rfl
  | false => rw [order_self hn]; rfl

theorem run_bits (w : World) (r : Nat) : (callFunc 95 #[.float .f32 r]).run Try.prog w = .ok (.value (.int .u32 (r : Int))) w := by kernel_rfl

set_option maxRecDepth 100000 in
set_option maxHeartbeats 400000 in
theorem bitsOf_any (w : World) (r x : Nat) (hr : FV .f32 r x) :
    Calls Try.prog 84 #[.float .f32 r] w fun e w' => e = .returned (.int .i64 (x : Int)) ∧ w' = w := by
  have ho := isN_order .f32 r
  cases hn : isN .f32 r with
  | true =>
    rw [hn] at ho
    have hx : x = 2143289344 := by rw [← hr.2, can_of_nan hn]; rfl
    subst hx
    go_enter Try.func84, Try.ntmps84
    go_wp2
    go_ret
    exact ⟨rfl, rfl⟩
  | false =>
    rw [hn] at ho
    obtain rfl : r = x := by rw [← hr.2, can_of_not hn]
    have hlt : r < 4294967296 := hr.1
    have hb := run_bits
    go_enter Try.func84, Try.ntmps84
    go_wp2
    go_ret
    exact ⟨rfl, rfl⟩
set_option maxRecDepth 100000 in
set_option maxHeartbeats 400000 in
theorem l01Bits_any (w : World) (r x : Nat) (hr : FV .f32 r x) :
    Calls Try.prog 82 #[.float .f32 r] w fun e w' => e = .returned (.int .i64 (x : Int)) ∧ w' = w := by
  have ho := isN_order .f32 r
  cases hn : isN .f32 r with
  | true =>
    rw [hn] at ho
    have hx : x = 2143289344 := by rw [← hr.2, can_of_nan hn]; rfl
    subst hx
    go_enter Try.func82, Try.ntmps82
    go_wp2
    go_ret
    exact ⟨rfl, rfl⟩
  | false =>
    rw [hn] at ho
    obtain rfl : r = x := by rw [← hr.2, can_of_not hn]
    have hlt : r < 4294967296 := hr.1
    have hb := run_bits
    go_enter Try.func82, Try.ntmps82
    go_wp2
    go_ret
    exact ⟨rfl, rfl⟩

theorem beq_cast (x y : Nat) : ((x : Int) == (y : Int)) = (x == y) := by
  rw [Bool.eq_iff_iff]; simp only [beq_iff_eq]; omega
set_option maxRecDepth 100000 in
theorem sameNumber_any (w : World) (r s x y : Nat) (hr : FV .f32 r x) (hs : FV .f32 s y) :
    Calls Try.prog 63 #[.float .f32 r, .float .f32 s] w fun e w' => e = .returned (.bool (x == y)) ∧ w' = w := by
  rw [← beq_cast]
  go_enter Try.func63, Try.ntmps63
  go_wp2_with fail
  refine (bitsOf_any w r x hr).mono ?_
  rintro e1 w1 ⟨rfl, rfl⟩
  go_wp2_with fail
  refine (bitsOf_any _ s y hs).mono ?_
  rintro e2 w2 ⟨rfl, rfl⟩
  go_wp2
  go_ret
  exact ⟨rfl, rfl⟩

set_option maxRecDepth 100000 in
theorem l01Same_any (w : World) (r s x y : Nat) (hr : FV .f32 r x) (hs : FV .f32 s y) :
    Calls Try.prog 58 #[.float .f32 r, .float .f32 s] w fun e w' => e = .returned (.bool (x == y)) ∧ w' = w := by
  rw [← beq_cast]
  go_enter Try.func58, Try.ntmps58
  go_wp2_with fail
  refine (l01Bits_any w r x hr).mono ?_
  rintro e1 w1 ⟨rfl, rfl⟩
  go_wp2_with fail
  refine (l01Bits_any _ s y hs).mono ?_
  rintro e2 w2 ⟨rfl, rfl⟩
  go_wp2
  go_ret
  exact ⟨rfl, rfl⟩
end Go.Proofs.Ytalajgjdceoleaa
