/- Walks: are numbers the same, as the laws compare them. -/
import Derived.Test.YtjbaebgdebcipaaDoorOwn
import Derived.Test.YtjbaebgdebcipaaDoorRelOp
import Derived.Test.YtjbaebgdebcipaaDoorCv
namespace Go.Proofs.YtjbaebgdebcipaaDoor
open Go Go.RowKit

theorem isF32 : (Tryd.prog.underlying 22).isSome = true := by kernel_rfl
theorem isF64 : Tryd.prog.underlying 37 = some (.float .f64) := by kernel_rfl

set_option maxRecDepth 100000 in
set_option maxHeartbeats 800000 in
theorem sameFloat_any (w : World) (a b z : Nat) (ha : FV .f64 a z) (hb : FV .f64 b z) :
    Calls Tryd.prog 11 #[.float .f64 a, .float .f64 b] w fun e w' => e = .returned (.bool true) ∧ ∃ n, w' = w.drewN n := by
  have hquo := run_fquo (P := Tryd.prog)
  cases hn : isN .f64 z with
  | true =>
    have h1 : (FloatKind.f64.format.order a a != some Ordering.eq) = true := by rw [ha.order ha, order_self_nan hn]; rfl
    have h2 : (FloatKind.f64.format.order b b != some Ordering.eq) = true := by rw [hb.order hb, order_self_nan hn]; rfl
    clear ha hb
    go_enter Tryd.func11, Tryd.ntmps11
    go_wp2
    go_ret
    exact ⟨rfl, 0, rfl⟩
  | false =>
    obtain rfl := ha.eq_of_not hn
    obtain rfl := hb.eq_of_not hn
    have h1 : (FloatKind.f64.format.order b b != some Ordering.eq) = false := by rw [order_self hn]; rfl
    have h2 : (FloatKind.f64.format.order b b == some Ordering.eq) = true := by rw [order_self hn]; rfl
    cases h0 : (FloatKind.f64.format.order b 0 == some Ordering.eq) with
    | false =>
      go_enter Tryd.func11, Tryd.ntmps11
      go_wp2
      go_ret
      exact ⟨rfl, 0, rfl⟩
    | true =>
      have h3 : ∀ w1 : World, (FloatKind.f64.format.order (fres .quo .f64 4607182418800017408 b w1) 0 == some Ordering.gt) = (FloatKind.f64.format.order (fop .quo .f64 4607182418800017408 b) 0 == some Ordering.gt) := fun w1 => by
        rw [(FV.op (op := .quo) (FV.self (k := .f64) (x := 4607182418800017408) (by decide) (by decide +kernel)) ha w1).order (fv0 _)]
      have H3 := Lib.hid h3
      clear h3
      go_enter Tryd.func11, Tryd.ntmps11
      go_wp2
      go_ret
      refine ⟨?_, _, rfl⟩
      rw [H3.out, H3.out, beq_self_eq_true]
      rfl

end Go.Proofs.YtjbaebgdebcipaaDoor
