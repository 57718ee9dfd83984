/- Bounded floats of 64 bits. -/
import Derived.Test.YtlpmkgcknopgoaaGreatDoorMx
import Derived.Test.YtlpmkgcknopgoaaGreatDoorSne
namespace Go.Proofs.YtlpmkgcknopgoaaGreatDoor
open Go Ieee

def FD (x : Nat) (B : Rat) : Prop := ∃ q, RQ .f64 x q ∧ Ab q B
theorem FD.notNan {x : Nat} {B : Rat} (h : FD x B) : isN .f64 x = false := by obtain ⟨q, h, -⟩ := h; exact h.notNan
theorem FD.mono {x : Nat} {B C : Rat} (h : FD x B) (hc : B ≤ C) : FD x C := by obtain ⟨q, h, hb⟩ := h; exact ⟨q, h, hb.mono hc⟩
theorem FD.add {x y : Nat} {A B : Rat} (hx : FD x A) (hy : FD y B) (h : A + B ≤ 10000000000000000000000000000000) : FD (fop .add .f64 x y) (A + B + (A + B + 1) * (1 / 1000000)) := by
  obtain ⟨a, ha, hA⟩ := hx
  obtain ⟨b, hb, hB⟩ := hy
  have hAB := hA.add hB
  obtain ⟨d, r, hd⟩ := ha.add hb hAB (big_top64 (by grind))
  refine ⟨_, r, ?_⟩
  have h1 := uu64
  have h2 := tt64
  rw [h1] at hd
  have := hAB.nn
  exact (hAB.add hd).mono (by grind)
theorem FD.sub {x y : Nat} {A B : Rat} (hx : FD x A) (hy : FD y B) (h : A + B ≤ 10000000000000000000000000000000) : FD (fop .sub .f64 x y) (A + B + (A + B + 1) * (1 / 1000000)) := by
  obtain ⟨a, ha, hA⟩ := hx
  obtain ⟨b, hb, hB⟩ := hy
  have hAB := hA.sub hB
  obtain ⟨d, r, hd⟩ := ha.sub hb hAB (big_top64 (by grind))
  refine ⟨_, r, ?_⟩
  have h1 := uu64
  have h2 := tt64
  rw [h1] at hd
  have := hAB.nn
  exact (hAB.add hd).mono (by grind)
theorem FD.mul {x y : Nat} {A B : Rat} (hx : FD x A) (hy : FD y B) (h : A * B ≤ 10000000000000000000000000000000) : FD (fop .mul .f64 x y) (A * B + (A * B + 1) * (1 / 1000000)) := by
  obtain ⟨a, ha, hA⟩ := hx
  obtain ⟨b, hb, hB⟩ := hy
  have hAB := hA.mul hB
  obtain ⟨d, r, hd⟩ := ha.mul hb hAB (big_top64 (by grind))
  refine ⟨_, r, ?_⟩
  have h1 := uu64
  have h2 := tt64
  rw [h1] at hd
  have := hAB.nn
  exact (hAB.add hd).mono (by grind)
/-- A quotient by what is at least a half. -/
theorem FD.quo {x y : Nat} {A b : Rat} (hx : FD x A) (hy : RQ .f64 y b) (hb : 1 / 2 ≤ b) (h : A ≤ 1000000000000000000000000000000) : FD (fop .quo .f64 x y) (2 * A + (2 * A + 1) * (1 / 1000000)) := by
  obtain ⟨a, ha, hA⟩ := hx
  have hb0 : b ≠ 0 := by grind
  obtain ⟨q, hq⟩ : ∃ q : Rat, a / b = q := ⟨_, rfl⟩
  have hqb : q * b = a := by rw [← hq]; exact Rat.div_mul_cancel hb0
  have hA0 := hA.nn
  have hQ : Ab q (2 * A) := by
    unfold Ab at hA ⊢
    have hbp : 0 < b := by grind
    constructor
    · by_cases hc : -(2 * A) ≤ q
      · exact hc
      · exfalso
        have h1 : q * b < -(2 * A) * b := Rat.mul_lt_mul_of_pos_right (Rat.not_le.1 hc) hbp
        have h2 : A * (1 / 2) ≤ A * b := Rat.mul_le_mul_of_nonneg_left hb hA0
        grind
    · by_cases hc : q ≤ 2 * A
      · exact hc
      · exfalso
        have h1 : (2 * A) * b < q * b := Rat.mul_lt_mul_of_pos_right (Rat.not_le.1 hc) hbp
        have h2 : A * (1 / 2) ≤ A * b := Rat.mul_le_mul_of_nonneg_left hb hA0
        grind
  obtain ⟨d, r, hd⟩ := ha.quo hy hb0 hqb hQ (big_top64 (by grind))
  refine ⟨_, r, ?_⟩
  have h1 := uu64
  have h2 := tt64
  rw [h1] at hd
  exact (hQ.add hd).mono (by grind)
end Go.Proofs.YtlpmkgcknopgoaaGreatDoor
