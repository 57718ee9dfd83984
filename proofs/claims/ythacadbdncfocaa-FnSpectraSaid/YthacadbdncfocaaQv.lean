/- Rational values: fixed points, bounded floats, sums of bounded floats. -/
import Derived.Test.YthacadbdncfocaaQu
import Derived.Test.YthacadbdncfocaaFix
namespace Go.Proofs.Ythacadbdncfocaa
open Go Ieee

theorem sg_rq (s : Bool) (m : Nat) : ((sg s m : Int) : Rat) = sgr s * m := by
  unfold sg sgr
  cases s
  · simp only [Bool.false_eq_true, if_false, Rat.intCast_natCast]; grind
  · simp only [if_true, Rat.intCast_neg, Rat.intCast_natCast]; grind
theorem Fx.rq {k r : Nat} {n : Int} (h : Fx k r n) (hk : k ≤ 149) : RQ .f32 r (n * sc (-(k : Int))) := by
  obtain ⟨s, m, e, h1, -, he, -, h2⟩ := h
  refine ⟨s, m, e, h1, ?_⟩
  have h3 : ((sg s m : Int) : Rat) * ((2 ^ (e + 149).toNat : Nat) : Rat) = (n : Rat) * ((2 ^ (149 - k) : Nat) : Rat) := by
    have : ((sg s m * ((2 ^ (e + 149).toNat : Nat) : Int) : Int) : Rat) = ((n * ((2 ^ (149 - k) : Nat) : Int) : Int) : Rat) := by rw [h2]
    rw [Rat.intCast_mul, Rat.intCast_mul, Rat.intCast_natCast, Rat.intCast_natCast] at this
    exact this
  rw [sg_rq, ← sc_nat, ← sc_nat, show (((e + 149).toNat : Nat) : Int) = e + 149 by omega, show ((149 - k : Nat) : Int) = 149 + -(k : Int) by omega, sc_add, sc_add] at h3
  have hp := sc_pos 149
  have h4 : (sgr s * ((m : Rat) * sc e) - n * sc (-(k : Int))) * sc 149 = 0 := by grind
  rcases Rat.mul_eq_zero.1 h4 with h | h <;> grind
/-- A finite number whose size is bounded. -/
def FB (x : Nat) (B : Rat) : Prop := ∃ q, RQ .f32 x q ∧ Ab q B
theorem FB.notNan {x : Nat} {B : Rat} (h : FB x B) : isN .f32 x = false := by obtain ⟨q, h, -⟩ := h; exact h.notNan
theorem FB.mono {x : Nat} {B C : Rat} (h : FB x B) (hc : B ≤ C) : FB x C := by obtain ⟨q, h, hb⟩ := h; exact ⟨q, h, hb.mono hc⟩
theorem Ab.add {a b A B : Rat} (ha : Ab a A) (hb : Ab b B) : Ab (a + b) (A + B) := by unfold Ab at *; grind
theorem Ab.sub {a b A B : Rat} (ha : Ab a A) (hb : Ab b B) : Ab (a - b) (A + B) := by unfold Ab at *; grind
theorem Ab.nn {a A : Rat} (h : Ab a A) : 0 ≤ A := by unfold Ab at h; grind
theorem Ab.mul {a b A B : Rat} (ha : Ab a A) (hb : Ab b B) : Ab (a * b) (A * B) := by
  have hA := ha.nn
  have hB := hb.nn
  unfold Ab at *
  have key : ∀ {x y X Y : Rat}, 0 ≤ x → x ≤ X → 0 ≤ y → y ≤ Y → x * y ≤ X * Y := fun h1 h2 h3 h4 => by
    have a1 := Rat.mul_le_mul_of_nonneg_right h2 h3
    have a2 := Rat.mul_le_mul_of_nonneg_left h4 (show 0 ≤ _ from Rat.le_trans h1 h2)
    grind
  have hAB := Rat.mul_nonneg hA hB
  by_cases h1 : 0 ≤ a <;> by_cases h2 : 0 ≤ b
  · have k := key h1 ha.2 h2 hb.2
    have := Rat.mul_nonneg h1 h2
    grind
  · have k := key h1 ha.2 (show 0 ≤ -b by grind) (show -b ≤ B by grind)
    have := Rat.mul_nonneg h1 (show 0 ≤ -b by grind)
    grind
  · have k := key (show 0 ≤ -a by grind) (show -a ≤ A by grind) h2 hb.2
    have := Rat.mul_nonneg (show 0 ≤ -a by grind) h2
    grind
  · have k := key (show 0 ≤ -a by grind) (show -a ≤ A by grind) (show 0 ≤ -b by grind) (show -b ≤ B by grind)
    have := Rat.mul_nonneg (show 0 ≤ -a by grind) (show 0 ≤ -b by grind)
    grind
theorem uu32 : uu .f32 = 1 / 16777216 := by decide +kernel
theorem uu64 : uu .f64 = 1 / 9007199254740992 := by decide +kernel
theorem tt32 : tt .f32 ≤ 1 / 1000000000000000000000000000000 := by decide +kernel
theorem tt64 : tt .f64 ≤ 1 / 1000000000000000000000000000000 := by decide +kernel
theorem big_top {B : Rat} (h : B ≤ 100000000000000000000000000000000) : B < sc (topB .f32) := by
  have : (100000000000000000000000000000000 : Rat) < sc (topB .f32) := by decide +kernel
  grind
theorem big_top64 {B : Rat} (h : B ≤ 100000000000000000000000000000000) : B < sc (topB .f64) := by
  have : (100000000000000000000000000000000 : Rat) < sc (topB .f64) := by decide +kernel
  grind
theorem FB.add {x y : Nat} {A B : Rat} (hx : FB x A) (hy : FB y B) (h : A + B ≤ 10000000000000000000000000000000) : FB (fop .add .f32 x y) (A + B + (A + B + 1) * (1 / 16777216)) := by
  obtain ⟨a, ha, hA⟩ := hx
  obtain ⟨b, hb, hB⟩ := hy
  have hAB := hA.add hB
  obtain ⟨d, r, hd⟩ := ha.add hb hAB (big_top (by grind))
  refine ⟨_, r, ?_⟩
  have h1 := uu32
  have h2 := tt32
  rw [h1] at hd
  have := hAB.nn
  exact (hAB.add hd).mono (by grind)
theorem FB.sub {x y : Nat} {A B : Rat} (hx : FB x A) (hy : FB y B) (h : A + B ≤ 10000000000000000000000000000000) : FB (fop .sub .f32 x y) (A + B + (A + B + 1) * (1 / 16777216)) := by
  obtain ⟨a, ha, hA⟩ := hx
  obtain ⟨b, hb, hB⟩ := hy
  have hAB := hA.sub hB
  obtain ⟨d, r, hd⟩ := ha.sub hb hAB (big_top (by grind))
  refine ⟨_, r, ?_⟩
  have h1 := uu32
  have h2 := tt32
  rw [h1] at hd
  have := hAB.nn
  exact (hAB.add hd).mono (by grind)
theorem FB.mul {x y : Nat} {A B : Rat} (hx : FB x A) (hy : FB y B) (h : A * B ≤ 10000000000000000000000000000000) : FB (fop .mul .f32 x y) (A * B + (A * B + 1) * (1 / 16777216)) := by
  obtain ⟨a, ha, hA⟩ := hx
  obtain ⟨b, hb, hB⟩ := hy
  have hAB := hA.mul hB
  obtain ⟨d, r, hd⟩ := ha.mul hb hAB (big_top (by grind))
  refine ⟨_, r, ?_⟩
  have h1 := uu32
  have h2 := tt32
  rw [h1] at hd
  have := hAB.nn
  exact (hAB.add hd).mono (by grind)
/-- One more term: sums of bounded floats stay below twice the sum of the bounds. -/
theorem FB.sum_next {x y : Nat} {B : Rat} (j : Nat) (hj : j ≤ 1000) (hB1 : 1 ≤ B) (hB2 : B ≤ 1000000000000000000000000) (hx : FB x (2 * (j : Rat) * B)) (hy : FB y B) : FB (fop .add .f32 x y) (2 * ((j + 1 : Nat) : Rat) * B) := by
  have hjr : (j : Rat) ≤ 1000 := by exact_mod_cast hj
  have hj0 := nat_nn j
  have hB0 : 0 ≤ B := by grind
  have h1 := Rat.mul_le_mul_of_nonneg_right hjr hB0
  have h2 := Rat.mul_nonneg hj0 hB0
  have e1 : 2 * (j : Rat) * B = 2 * (j * B) := by grind
  rw [e1] at hx
  refine (FB.add hx hy (by grind)).mono ?_
  rw [Rat.natCast_add, show ((1 : Nat) : Rat) = 1 from rfl, show 2 * ((j : Rat) + 1) * B = 2 * (j * B) + 2 * B by grind]
  grind
theorem FB.zero (B : Rat) (h : 0 ≤ B) : FB 0 B := ⟨0, ⟨false, 0, -149, by decide +kernel, by decide +kernel⟩, by unfold Ab; grind⟩
end Go.Proofs.Ythacadbdncfocaa
