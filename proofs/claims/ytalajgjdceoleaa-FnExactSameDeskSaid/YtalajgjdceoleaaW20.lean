/- Walks: SameGround of the program. -/
import Derived.Test.YtalajgjdceoleaaW19
namespace Go.Proofs.Ytalajgjdceoleaa
open Go Go.RowKit

/-- Layer i of two grounds. -/
def lay4 (A B : List Nat) (i : Nat) : Bool := (A.getD (4 * i) 0 == B.getD (4 * i) 0) && ((A.getD (4 * i + 1) 0 == B.getD (4 * i + 1) 0) && ((A.getD (4 * i + 2) 0 == B.getD (4 * i + 2) 0) && (A.getD (4 * i + 3) 0 == B.getD (4 * i + 3) 0)))

set_option maxRecDepth 100000 in
set_option maxHeartbeats 800000 in
theorem sameLay_any (w : World) (r0 r1 r2 r3 s0 s1 s2 s3 x0 x1 x2 x3 y0 y1 y2 y3 : Nat) (hr0 : FV .f32 r0 x0) (hr1 : FV .f32 r1 x1) (hr2 : FV .f32 r2 x2) (hr3 : FV .f32 r3 x3) (hs0 : FV .f32 s0 y0) (hs1 : FV .f32 s1 y1) (hs2 : FV .f32 s2 y2) (hs3 : FV .f32 s3 y3) :
    Calls Try.prog 65 #[.agg #[.float .f32 r0, .float .f32 r1, .float .f32 r2, .float .f32 r3], .agg #[.float .f32 s0, .float .f32 s1, .float .f32 s2, .float .f32 s3]] w fun e w' => e = .returned (.bool ((x0 == y0) && ((x1 == y1) && ((x2 == y2) && (x3 == y3))))) ∧ Below w.heap.size w w' := by
  have hb0 : Below w.heap.size w ((w.alloc (.cells #[.float .f32 r0, .float .f32 r1, .float .f32 r2, .float .f32 r3] 57)).alloc (.cells #[.float .f32 s0, .float .f32 s1, .float .f32 s2, .float .f32 s3] 57)) := by (repeat (first | exact Below.refl _ _ | (refine Below.drewN ?_ _) | (refine Below.alloc ?_ (by first | exact Nat.le_refl _ | (simp; done) | (simp; omega)) _)))
  go_enter Try.func65, Try.ntmps65
  go_wp2_with fail
  refine (sameNumber_any _ r0 s0 x0 y0 hr0 hs0).mono ?_
  rintro e w1 ⟨rfl, rfl⟩
  cases h0 : (x0 == y0) with
  | false =>
    go_wp2
    go_ret
    exact ⟨by rw [h0]; rfl, hb0⟩
  | true =>
    go_wp2_with fail
    refine (sameNumber_any _ r1 s1 x1 y1 hr1 hs1).mono ?_
    rintro e w1 ⟨rfl, rfl⟩
    cases h1 : (x1 == y1) with
    | false =>
      go_wp2
      go_ret
      exact ⟨by rw [h0, h1]; rfl, hb0⟩
    | true =>
      go_wp2_with fail
      refine (sameNumber_any _ r2 s2 x2 y2 hr2 hs2).mono ?_
      rintro e w1 ⟨rfl, rfl⟩
      cases h2 : (x2 == y2) with
      | false =>
        go_wp2
        go_ret
        exact ⟨by rw [h0, h1, h2]; rfl, hb0⟩
      | true =>
        go_wp2_with fail
        refine (sameNumber_any _ r3 s3 x3 y3 hr3 hs3).mono ?_
        rintro e w1 ⟨rfl, rfl⟩
        cases h3 : (x3 == y3) with
        | false =>
          go_wp2
          go_ret
          exact ⟨by rw [h0, h1, h2, h3]; rfl, hb0⟩
        | true =>
          go_wp2
          go_ret
          exact ⟨by rw [h0, h1, h2, h3]; rfl, hb0⟩
end Go.Proofs.Ytalajgjdceoleaa
