/- Walks: the program's angle at finite numbers. UNDER WAY. -/
import Derived.Test.YtlpmkgcknopgoaaGreatDoorAng
import Derived.Test.YtlpmkgcknopgoaaGreatDoorNumB
import Derived.Test.YtlpmkgcknopgoaaGreatDoorGatB
namespace Go.Proofs.YtlpmkgcknopgoaaGreatDoor
open Go Go.RowKit

theorem run_sqrtX (w : World) (x : Nat) (h : (FloatKind.f64.format.sqrt x).isSome = true) : (callFunc 79 #[.float .f64 x]).run Tryz.prog w = .ok (.value (.float .f64 (sqr x))) w := by
  have e : (callFunc 79 #[.float .f64 x]).run Tryz.prog w = (do pure (.value (← Extern.MathSqrt.sqrt #[.float .f64 x])) : Sem Next).run Tryz.prog w := by kernel_rfl
  rw [e, Sem.run_bind, run_sqr w x h]
  rfl
set_option maxRecDepth 100000 in
theorem mathSqrt_any (w : World) (x : Nat) (h : (FloatKind.f64.format.sqrt x).isSome = true) :
    Calls Tryz.prog 43 #[.float .f64 x] w fun e w' => e = .returned (.float .f64 (sqr x)) ∧ w' = w := by
  have h1 := run_sqrtX w x h
  clear h
  go_enter Tryz.func43, Tryz.ntmps43
  go_wp2
  go_ret
  exact ⟨rfl, rfl⟩
theorem RQ.absW {x : Nat} {q : Rat} (h : RQ .f64 x q) : ∃ p, RQ .f64 (Proofs.YtlpmkgcknopgoaaGreatDoor.absW x) p ∧ 0 ≤ p ∧ (p = 0 → q = 0) := by
  obtain ⟨s, m, e, h1, rfl⟩ := h
  have hm : (0 : Rat) ≤ (m : Rat) * sc e := Rat.mul_nonneg (by exact_mod_cast Nat.zero_le m) (Rat.le_of_lt (sc_pos e))
  refine ⟨sgr false * (m * sc e), ⟨false, m, e, ?_, rfl⟩, ?_, ?_⟩
  · show Ieee.double.read (Proofs.YtlpmkgcknopgoaaGreatDoor.absW x) = _
    rw [read_absW, show Ieee.double.read x = .number s m e from h1]
    rfl
  · simp only [sgr, Bool.false_eq_true, if_false]
    grind
  · intro h0
    simp only [sgr, Bool.false_eq_true, if_false] at h0
    have : (m : Rat) * sc e = 0 := by grind
    rw [this]
    grind
theorem quo_some {k : FloatKind} {x y : Nat} {a b : Rat} (hx : RQ k x a) (hy : RQ k y b) (h0 : ¬ (a = 0 ∧ b = 0)) : isN k (fop .quo k x y) = false := by
  obtain ⟨s, m, i, h1, rfl⟩ := hx
  obtain ⟨t, n, j, h2, rfl⟩ := hy
  have hn : n = 0 → m ≠ 0 := by
    rintro rfl rfl
    apply h0
    rw [show ((0 : Nat) : Rat) = 0 from rfl]
    grind
  have : ∃ r, floatBits .quo k x y = some r := by
    unfold floatBits Ieee.Format.div
    rw [h1, h2]
    unfold Ieee.Datum.quotient
    by_cases hz : n = 0
    · simp only [if_pos hz, if_neg (hn hz)]
      exact ⟨_, rfl⟩
    · simp only [if_neg hz]
      exact ⟨_, rfl⟩
  obtain ⟨r, hr⟩ := this
  unfold fop
  rw [hr]
  exact floatBits_not_nan hr
/-- What is asked of two finite numbers. -/
structure AngOk (a b : Nat) : Prop where
  na : isN .f32 a = false
  nb : isN .f32 b = false
  q : isN .f64 (fop .quo .f64 (absW (cwide a)) (absW (cwide b))) = false
  t : FD (agT (absW (cwide a)) (absW (cwide b))) 2
theorem ang_ok {a b : Nat} {p q : Rat} (ha : RQ .f32 a p) (hb : RQ .f32 b q) (h0 : ¬ (p = 0 ∧ q = 0)) : AngOk a b := by
  obtain ⟨x, hx, x0, x1⟩ := ha.wide.absW
  obtain ⟨y, hy, y0, y1⟩ := hb.wide.absW
  have h1 : ¬ (x = 0 ∧ y = 0) := fun h => h0 ⟨x1 h.1, y1 h.2⟩
  exact ⟨ha.notNan, hb.notNan, quo_some hx hy h1, agT_fd hx hy x0 y0 h1⟩
/-- The angle of a (over) and b (under), in turns, before the narrowing. -/
def angZ (a b : Nat) : Nat :=
  agQ3 (FloatKind.f32.format.order a 0 == some .lt) (agQ2 (FloatKind.f32.format.order b 0 == some .lt)
    (agQ1 (gtB (absW (cwide a)) (absW (cwide b))) (agZ (agI (agT (absW (cwide a)) (absW (cwide b))) 3))))
end Go.Proofs.YtlpmkgcknopgoaaGreatDoor
