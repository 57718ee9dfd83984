/- The sine of some turns, in 64 bits and in 32: what the program reckons; conditions that the kernel can check. -/
import Derived.Test.YthacadbdncfocaaMx
namespace Go.Proofs.Ythacadbdncfocaa
open Go Go.RowKit

def trnc (x : Nat) : Nat := FloatKind.f64.encode ((FloatKind.f64.decode x).integral .zero)
theorem run_trnc {P : Program} (w : World) (x : Nat) (h : isN .f64 x = false) : (Extern.MathFloor.toIntegral "math.archTrunc" .zero #[.float .f64 x]).run P w = .ok (.float .f64 (trnc x)) w := by
  have e : Extern.MathFloor.toIntegral "math.archTrunc" .zero #[.float .f64 x] = (match FloatKind.f64.decode x with
    | .nan s t =>
      if FloatKind.f64.format.quiet t = t then (pure (.float .f64 x) : Sem Value) else do
      let kept ← choose (.extern "math.Floor,Ceil,Trunc,RoundToEven.signallingNaN kept" 2)
      pure (.float .f64 (if kept == 1 then x else FloatKind.f64.encode (.nan s (FloatKind.f64.format.quiet t))))
    | d => (pure (.float .f64 (FloatKind.f64.encode (d.integral .zero))) : Sem Value)) := rfl
  rw [e]
  unfold isN at h
  unfold trnc
  cases hb : FloatKind.f64.decode x with
  | nan s t => rw [hb] at h; cases h
  | infinity s => rfl
  | number s m e => rfl
def ltB (x y : Nat) : Bool := FloatKind.f64.format.order x y == some Ordering.lt
def eqB (x y : Nat) : Bool := FloatKind.f64.format.order x y == some Ordering.eq
def gtB (x y : Nat) : Bool := FloatKind.f64.format.order x y == some Ordering.gt
def geB (x y : Nat) : Bool := gtB x y || eqB x y
/-- The whole turns. -/
def whlF (t : Nat) : Nat := if eqB (trnc t) 0 then 0 else trnc t
def frcD (t : Nat) : Nat := fop .sub .f64 t (whlF t)
/-- What is left of whole turns. -/
def frcF (t : Nat) : Nat := if ltB (frcD t) 0 then fop .add .f64 (frcD t) 4607182418800017408 else frcD t
def frcOk (t : Nat) : Bool := !isN .f64 t && (!isN .f64 (frcD t) && (!ltB (frcD t) 0 || !isN .f64 (fop .add .f64 (frcD t) 4607182418800017408)))
/-- The polynomial, from k down. -/
def polM (u p : Nat) : Nat := fop .mul .f64 u p
def polQ (u p k : Nat) : Nat := fop .quo .f64 (polM u p) (floatOfInt .f64 (2 * (k : Int) * (2 * (k : Int) + 1)))
def polS (u p k : Nat) : Nat := fop .sub .f64 4607182418800017408 (polQ u p k)
/-- Behind j rounds, from 8 on. -/
def polF (u : Nat) : Nat → Nat
  | 0 => 4607182418800017408
  | j + 1 => polS u (polF u j) (8 - j)
def polOk (u j : Nat) : Bool := !isN .f64 (polM u (polF u j)) && (!isN .f64 (polQ u (polF u j) (8 - j)) && !isN .f64 (polS u (polF u j) (8 - j)))
/-- The sine of a fraction f of a turn. -/
def snA (f : Nat) : Nat := if geB f 4602678819172646912 then fop .sub .f64 f 4602678819172646912 else f
def snB (f : Nat) : Nat := if gtB f 4598175219545276416 then fop .sub .f64 4602678819172646912 f else f
def snZ (f : Nat) : Nat := fop .mul .f64 f 4618760256179416344
def snU (f : Nat) : Nat := fop .mul .f64 (snZ f) (snZ f)
def snO (f : Nat) : Nat := fop .mul .f64 (snZ f) (polF (snU f) 8)
def snG (f : Nat) : Nat := snB (snA f)
def sinF (f : Nat) : Nat := if geB f 4602678819172646912 then ngF .f64 (snO (snG f)) else snO (snG f)
def sinOk (f : Nat) : Bool := !isN .f64 f && ((!geB f 4602678819172646912 || !isN .f64 (fop .sub .f64 f 4602678819172646912)) && ((!gtB (snA f) 4598175219545276416 || !isN .f64 (fop .sub .f64 4602678819172646912 (snA f))) &&
  (!isN .f64 (snZ (snG f)) && (!isN .f64 (snU (snG f)) && ((List.range 8).all (polOk (snU (snG f))) && !isN .f64 (snO (snG f)))))))
end Go.Proofs.Ythacadbdncfocaa
