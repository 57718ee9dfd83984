/- Plain: phasors: what the program reckons, conditions that the kernel can check. -/
import Derived.Test.YthacadbdncfocaaSne
import Derived.Test.YthacadbdncfocaaQv
import Derived.Test.YthacadbdncfocaaNumB
namespace Go.Proofs.Ythacadbdncfocaa
open Go Go.RowKit

/-- What is left after some quarters are taken off. -/
def qfF (f : Nat) : Nat → Nat
  | 0 => f
  | k + 1 => fop .sub .f64 (qfF f k) 4598175219545276416
/-- The number of quarters. -/
def qfN (f : Nat) : Nat := if geB (qfF f 0) 4598175219545276416 then if geB (qfF f 1) 4598175219545276416 then if geB (qfF f 2) 4598175219545276416 then 3 else 2 else 1 else 0
def qfOk (f : Nat) : Bool := (List.range (qfN f)).all (fun k => geB (qfF f k) 4598175219545276416 && !isN .f64 (qfF f (k + 1))) && !geB (qfF f (qfN f)) 4598175219545276416
def sinAt (t : Nat) : Nat := sinF (frcF t)
def sinAOk (t : Nat) : Bool := frcOk t && sinOk (frcF t)
def phC (r : Nat) : Nat := sinAt (fop .sub .f64 4598175219545276416 r)
def phS (r : Nat) : Nat := sinAt r
def ng0 (x : Nat) : Nat := fop .sub .f64 0 x
def phU (r q : Nat) : Nat := if q = 0 then phC r else if q = 1 then ng0 (phS r) else if q = 2 then ng0 (phC r) else phS r
def phV (r q : Nat) : Nat := if q = 0 then phS r else if q = 1 then phC r else if q = 2 then ng0 (phS r) else ng0 (phC r)
def phR (f : Nat) : Nat := qfF f (qfN f)
/-- The phasor of a part of a turn: its parts. -/
def phReF (f : Nat) : Nat := nrw (phU (phR f) (qfN f))
def phImF (f : Nat) : Nat := nrw (phV (phR f) (qfN f))
def phRe (t : Nat) : Nat := phReF (frcF t)
def phIm (t : Nat) : Nat := phImF (frcF t)
def phOkA (t : Nat) : Bool := decide (t < 18446744073709551616) && (!isN .f64 (fop .sub .f64 t t) && (eqB (fop .sub .f64 t t) 0 && (!geB (absW t) 4841369599423283200 && frcOk t)))
def phOkB (f : Nat) : Bool := qfOk f &&
  (!isN .f64 (fop .sub .f64 4598175219545276416 (phR f)) && (sinAOk (fop .sub .f64 4598175219545276416 (phR f)) && (sinAOk (phR f) && (!isN .f64 (ng0 (phC (phR f))) && (!isN .f64 (ng0 (phS (phR f))) &&
  (nrwOk (phU (phR f) (qfN f)) && nrwOk (phV (phR f) (qfN f))))))))
def phOk (t : Nat) : Bool := phOkA t && phOkB (frcF t)
theorem qfN_le (f : Nat) : qfN f ≤ 3 := by
  unfold qfN
  split
  · split
    · split <;> decide
    · decide
  · decide
/-- Turns of the law, and what is asked of phasors. -/
def tW (T : Nat) : Nat := fop .quo .f32 (floatOfInt .f32 ((T : Int) - 16)) 1107296256
def argX (k t : Nat) : Nat := ngF .f64 (fop .mul .f64 (floatOfInt .f64 (k : Nat)) (cwide t))
def jx (k T : Nat) : Nat := ((-(k : Int) * ((T : Int) - 16)) % 32).toNat
/-- A number is a count of 2 to the -26. -/
def rq26B (w : Nat) (N : Int) : Bool := match FloatKind.f32.format.read w with
  | .number s m e => if m = 0 then decide (N = 0) else decide (-26 ≤ e) && decide (N = if s then -((m * 2 ^ (e + 26).toNat : Nat) : Int) else ((m * 2 ^ (e + 26).toNat : Nat) : Int))
  | _ => false
theorem rq26 {w : Nat} {N : Int} (h : rq26B w N = true) : RQ .f32 w ((N : Rat) * sc (-26)) := by
  unfold rq26B at h
  cases hr : FloatKind.f32.format.read w with
  | nan s t => rw [hr] at h; cases h
  | infinity s => rw [hr] at h; cases h
  | number s m e =>
    rw [hr] at h
    refine ⟨s, m, e, hr, ?_⟩
    by_cases hm : m = 0
    · simp only [hm, if_true, decide_eq_true_eq] at h
      subst h hm
      have e0 : ((0 : Int) : Rat) = 0 := rfl
      have e1 : ((0 : Nat) : Rat) = 0 := rfl
      rw [e0, e1]
      grind
    · simp only [hm, if_false, Bool.and_eq_true, decide_eq_true_eq] at h
      obtain ⟨h1, h2⟩ := h
      obtain ⟨l, hl⟩ : ∃ l : Nat, (e + 26).toNat = l := ⟨_, rfl⟩
      rw [hl] at h2
      have he : sc e = sc (l : Int) * sc (-26) := by rw [← sc_add]; congr 1; omega
      have hp : sc (l : Int) = ((2 ^ l : Nat) : Rat) := (sc_nat l)
      rw [he, hp, h2]
      cases s
      · simp only [Bool.false_eq_true, if_false]
        rw [Rat.intCast_natCast, Rat.natCast_mul]
        unfold sgr
        grind
      · simp only [if_true]
        rw [Rat.intCast_neg, Rat.intCast_natCast, Rat.natCast_mul]
        unfold sgr
        grind
/-- A phasor is known. -/
def phB (f c s : Nat) (N M : Int) : Bool := phOkB f && (phReF f == c && (phImF f == s && (rq26B c N && rq26B s M)))
end Go.Proofs.Ythacadbdncfocaa
