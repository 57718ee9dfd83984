/- Floats at numbers: what operations, conversions, roots and floors give where no not-a-number comes up. -/
import Derived.Test.YthacadbdncfocaaCv
namespace Go.Proofs.Ythacadbdncfocaa
open Go

theorem run_fineK {P : Program} (k : FloatKind) (op : BinOp) (h : op = .add ∨ op = .sub ∨ op = .mul ∨ op = .quo) (w : World) (t : TypeId) (x y : Nat) (hn : isN k (fop op k x y) = false) :
    (binOp op t (.float k x) (.float k y)).run P w = .ok (.float k (fop op k x y)) w := by
  rw [run_fop op h]
  cases hq : floatBits op k x y with
  | none =>
    unfold fop at hn
    rw [hq, Option.getD_none, isN_nanC] at hn
    cases hn
  | some r =>
    unfold fres fop fcnt
    rw [hq]
    rfl
theorem run_wideF {P : Program} (src dst : TypeId) (hs : (P.underlying src).isSome = true) (hd : P.underlying dst = some (.float .f64)) (w : World) (b : Nat) (hn : isN .f32 b = false) :
    (convert src dst (.float .f32 b)).run P w = .ok (.float .f64 (cwide b)) w := by
  rw [run_widen src dst hs hd]
  unfold cres ccnt cwide
  rw [hn]
  rfl
/-- A number of 64 bits, narrowed. -/
def nrw (y : Nat) : Nat := FloatKind.f32.encode (FloatKind.f64.decode y)
def nrwOk (y : Nat) : Bool := match FloatKind.f64.decode y with
  | .number s m e => !(FloatKind.f32.decode (FloatKind.f32.encode (.number s m e))).isInfinity
  | _ => false
theorem run_narrowF {P : Program} (src dst : TypeId) (hs : (P.underlying src).isSome = true) (hd : P.underlying dst = some (.float .f32)) (w : World) (y : Nat) (h : nrwOk y = true) :
    (convert src dst (.float .f64 y)).run P w = .ok (.float .f32 (nrw y)) w := by
  obtain ⟨u, hs'⟩ := Option.isSome_iff_exists.1 hs
  have key : (Conv.floatToFloat .f64 y .f32).run P w = .ok (.float .f32 (nrw y)) w := by
    unfold nrwOk at h
    unfold Conv.floatToFloat nrw
    rw [if_neg (by decide)]
    cases hb : FloatKind.f64.decode y with
    | nan s t => rw [hb] at h; cases h
    | infinity s => rw [hb] at h; cases h
    | number s m e =>
      rw [hb] at h
      have h2 : (FloatKind.f32.decode (FloatKind.f32.encode (.number s m e))).isInfinity = false := by simpa using h
      simp [h2]
  cases u <;> simp [convert, run_underlying hs', run_underlying hd, key]
/-- The whole part of a number. -/
def toI (k : FloatKind) (x : Nat) : Int := ((k.decode x).toInt .zero).getD 0
def toIOk (k : FloatKind) (x : Nat) : Bool := match (k.decode x).toInt .zero with
  | some n => decide (IntKind.i64.min ≤ n) && decide (n ≤ IntKind.i64.max)
  | none => false
theorem run_toI {P : Program} (src dst : TypeId) (hs : (P.underlying src).isSome = true) (hd : P.underlying dst = some (.int .i64)) (w : World) (k : FloatKind) (x : Nat) (h : toIOk k x = true) :
    (convert src dst (.float k x)).run P w = .ok (.int .i64 (toI k x)) w := by
  obtain ⟨u, hs'⟩ := Option.isSome_iff_exists.1 hs
  have key : (Conv.floatToInt k x .i64).run P w = .ok (.int .i64 (toI k x)) w := by
    unfold toIOk at h
    unfold Conv.floatToInt toI
    cases hb : (k.decode x).toInt .zero with
    | none => rw [hb] at h; cases h
    | some n =>
      rw [hb] at h
      simp only [Bool.and_eq_true, decide_eq_true_eq] at h
      simp only
      rw [if_pos h]
      rfl
  cases u <;> simp [convert, run_underlying hs', run_underlying hd, key]
/-- The floor of a number. -/
def flo (x : Nat) : Nat := FloatKind.f64.encode ((FloatKind.f64.decode x).integral .down)
def sqr (x : Nat) : Nat := (FloatKind.f64.format.sqrt x).getD 0
theorem run_flo {P : Program} (w : World) (x : Nat) (h : isN .f64 x = false) : (Extern.MathFloor.toIntegral "math.archFloor" .down #[.float .f64 x]).run P w = .ok (.float .f64 (flo x)) w := by
  have e : Extern.MathFloor.toIntegral "math.archFloor" .down #[.float .f64 x] = (match FloatKind.f64.decode x with
    | .nan s t =>
      if FloatKind.f64.format.quiet t = t then (pure (.float .f64 x) : Sem Value) else do
      let kept ← choose (.extern "math.Floor,Ceil,Trunc,RoundToEven.signallingNaN kept" 2)
      pure (.float .f64 (if kept == 1 then x else FloatKind.f64.encode (.nan s (FloatKind.f64.format.quiet t))))
    | d => (pure (.float .f64 (FloatKind.f64.encode (d.integral .down))) : Sem Value)) := rfl
  rw [e]
  unfold isN at h
  unfold flo
  cases hb : FloatKind.f64.decode x with
  | nan s t => rw [hb] at h; cases h
  | infinity s => rfl
  | number s m e => rfl
theorem run_sqr {P : Program} (w : World) (x : Nat) (h : (FloatKind.f64.format.sqrt x).isSome = true) : (Extern.MathSqrt.sqrt #[.float .f64 x]).run P w = .ok (.float .f64 (sqr x)) w := by
  obtain ⟨r, hr⟩ := Option.isSome_iff_exists.1 h
  have e : Extern.MathSqrt.sqrt #[.float .f64 x] = (match FloatKind.f64.format.sqrt x with
    | some r => (pure (.float .f64 r) : Sem Value)
    | none => do pure (.float .f64 (← choose (.nanBits .f64 x x)))) := rfl
  rw [e]
  unfold sqr
  rw [hr]
  rfl
end Go.Proofs.Ythacadbdncfocaa
