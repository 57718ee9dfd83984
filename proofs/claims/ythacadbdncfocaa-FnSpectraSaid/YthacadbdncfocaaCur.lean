/- Walks: roots, floors, curves at numbers. -/
import Derived.Test.YthacadbdncfocaaNn
import Derived.Test.YthacadbdncfocaaPos
namespace Go.Proofs.Ythacadbdncfocaa
open Go Go.RowKit

theorem run_sqrtX (w : World) (x : Nat) (h : (FloatKind.f64.format.sqrt x).isSome = true) : (callFunc 97 #[.float .f64 x]).run Try.prog w = .ok (.value (.float .f64 (sqr x))) w := by
  have e : (callFunc 97 #[.float .f64 x]).run Try.prog w = (do pure (.value (← Extern.MathSqrt.sqrt #[.float .f64 x])) : Sem Next).run Try.prog w := by kernel_rfl
  rw [e, Sem.run_bind, run_sqr w x h]
  rfl
theorem run_floorX (w : World) (x : Nat) (h : isN .f64 x = false) : (callFunc 111 #[.float .f64 x]).run Try.prog w = .ok (.value (.float .f64 (flo x))) w := by
  have e : (callFunc 111 #[.float .f64 x]).run Try.prog w = (do pure (.value (← Extern.MathFloor.toIntegral "math.archFloor" .down #[.float .f64 x])) : Sem Next).run Try.prog w := by kernel_rfl
  rw [e, Sem.run_bind, run_flo w x h]
  rfl
set_option maxRecDepth 100000 in
theorem mathSqrt_any (w : World) (x : Nat) (h : (FloatKind.f64.format.sqrt x).isSome = true) :
    Calls Try.prog 81 #[.float .f64 x] w fun e w' => e = .returned (.float .f64 (sqr x)) ∧ w' = w := by
  have h1 := run_sqrtX w x h
  clear h
  go_enter Try.func81, Try.ntmps81
  go_wp2
  go_ret
  exact ⟨rfl, rfl⟩
set_option maxRecDepth 100000 in
theorem mathFloor_any (w : World) (x : Nat) (h : isN .f64 x = false) :
    Calls Try.prog 109 #[.float .f64 x] w fun e w' => e = .returned (.float .f64 (flo x)) ∧ w' = w := by
  have h1 := run_floorX w x h
  clear h
  go_enter Try.func109, Try.ntmps109
  go_wp2
  go_ret
  exact ⟨rfl, rfl⟩
/-- The root of a number. -/
def rootF (x : Nat) : Nat := nrw (sqr (cwide x))
def rootOk (x : Nat) : Bool := !isN .f32 x && ((FloatKind.f64.format.sqrt (cwide x)).isSome && nrwOk (sqr (cwide x)))
set_option maxRecDepth 100000 in
theorem rootNumber_fine (w : World) (x : Nat) (h : rootOk x = true) :
    Calls Try.prog 73 #[.float .f32 x] w fun e w' => e = .returned (.float .f32 (rootF x)) ∧ w' = w := by
  unfold rootOk at h
  simp only [Bool.and_eq_true, Bool.not_eq_true'] at h
  have h1 : ∀ wq : World, (convert 27 40 (.float .f32 x)).run Try.prog wq = .ok (.float .f64 (cwide x)) wq := fun wq => run_wideF _ _ (by kernel_rfl) (by kernel_rfl) wq x h.1
  have h2 : ∀ wq : World, (convert 40 27 (.float .f64 (sqr (cwide x)))).run Try.prog wq = .ok (.float .f32 (rootF x)) wq := fun wq => run_narrowF _ _ (by kernel_rfl) (by kernel_rfl) wq _ h.2.2
  have HS := Lib.hid (fun wq => mathSqrt_any wq (cwide x) h.2.1)
  clear h
  go_enter Try.func73, Try.ntmps73
  go_wp2_with fail
  refine (HS.out _).mono ?_
  rintro e w1 ⟨rfl, rfl⟩
  go_wp2
  go_ret
  exact ⟨rfl, rfl⟩
/-- The curve of a start, a way and a speed. -/
def crv (s p v : Nat) : Nat := rootF (fop .add .f32 (fop .mul .f32 s s) (fop .mul .f32 (fop .quo .f32 p v) (fop .quo .f32 p v)))
def crvOk (s p v : Nat) : Bool := !isN .f32 (fop .quo .f32 p v) && (!isN .f32 (fop .mul .f32 s s) && (!isN .f32 (fop .mul .f32 (fop .quo .f32 p v) (fop .quo .f32 p v)) && (!isN .f32 (fop .add .f32 (fop .mul .f32 s s) (fop .mul .f32 (fop .quo .f32 p v) (fop .quo .f32 p v))) && rootOk (fop .add .f32 (fop .mul .f32 s s) (fop .mul .f32 (fop .quo .f32 p v) (fop .quo .f32 p v))))))
set_option maxRecDepth 100000 in
theorem curve_fine (w : World) (s p v : Nat) (h : crvOk s p v = true) :
    Calls Try.prog 102 #[.float .f32 s, .float .f32 p, .float .f32 v] w fun e w' => e = .returned (.float .f32 (crv s p v)) ∧ w' = w := by
  unfold crvOk at h
  simp only [Bool.and_eq_true, Bool.not_eq_true'] at h
  obtain ⟨a1, a2, a3, a4, a5⟩ := h
  have h1 := fun wq t => run_fineK (P := Try.prog) .f32 .quo (by simp) wq t _ _ a1
  have h2 := fun wq t => run_fineK (P := Try.prog) .f32 .mul (by simp) wq t _ _ a2
  have h3 := fun wq t => run_fineK (P := Try.prog) .f32 .mul (by simp) wq t _ _ a3
  have h4 := fun wq t => run_fineK (P := Try.prog) .f32 .add (by simp) wq t _ _ a4
  have HR := Lib.hid (fun wq => rootNumber_fine wq _ a5)
  have HE : Hid (crv s p v = rootF (fop .add .f32 (fop .mul .f32 s s) (fop .mul .f32 (fop .quo .f32 p v) (fop .quo .f32 p v)))) := Lib.hid rfl
  clear a1 a2 a3 a4 a5
  generalize fop .quo .f32 p v = q at *
  generalize fop .mul .f32 s s = a at *
  generalize fop .mul .f32 q q = b at *
  generalize fop .add .f32 a b = c at *
  go_enter Try.func102, Try.ntmps102
  go_wp2_with fail
  refine (HR.out _).mono ?_
  rintro e w1 ⟨rfl, rfl⟩
  go_wp2
  go_ret
  exact ⟨by rw [HE.out]; rfl, rfl⟩
end Go.Proofs.Ythacadbdncfocaa
