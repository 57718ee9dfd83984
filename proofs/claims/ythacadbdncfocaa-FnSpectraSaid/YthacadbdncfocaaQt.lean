/- Rational values of floats: roots, comparisons, conversions, whole parts. -/
import Derived.Test.YthacadbdncfocaaQs
namespace Go.Proofs.Ythacadbdncfocaa
open Go Ieee

theorem rootFrom_is (n : Nat) : ∀ todo root, root * root ≤ n → n < (root + 2 ^ todo) * (root + 2 ^ todo) → Datum.rootFrom n todo root * Datum.rootFrom n todo root ≤ n ∧ n < (Datum.rootFrom n todo root + 1) * (Datum.rootFrom n todo root + 1)
  | 0, root, h1, h2 => ⟨h1, by show n < (root + 1) * (root + 1); simpa using h2⟩
  | todo + 1, root, h1, h2 => by
    unfold Datum.rootFrom
    have e : 1 <<< todo = 2 ^ todo := by rw [Nat.shiftLeft_eq, Nat.one_mul]
    simp only [e]
    split
    · refine rootFrom_is n todo _ (by assumption) ?_
      rw [show root + 2 ^ todo + 2 ^ todo = root + 2 ^ (todo + 1) by rw [Nat.pow_succ]; omega]
      exact h2
    · refine rootFrom_is n todo _ h1 ?_
      omega
theorem root_bounds (n : Nat) : Datum.rootFrom n (n.log2 / 2 + 1) 0 * Datum.rootFrom n (n.log2 / 2 + 1) 0 ≤ n ∧ n < (Datum.rootFrom n (n.log2 / 2 + 1) 0 + 1) * (Datum.rootFrom n (n.log2 / 2 + 1) 0 + 1) := by
  refine rootFrom_is n _ 0 (by omega) ?_
  rw [Nat.zero_add, ← Nat.pow_add]
  have h1 : n < 2 ^ (n.log2 + 1) := Nat.lt_log2_self
  have h2 := Nat.pow_le_pow_right (show 0 < 2 by decide) (show n.log2 + 1 ≤ n.log2 / 2 + 1 + (n.log2 / 2 + 1) by omega)
  omega
theorem sq_le {a b : Rat} (hb : 0 ≤ b) (h : a * a ≤ b * b) : a ≤ b := by
  by_cases hc : a ≤ b
  · exact hc
  · exfalso
    have h3 : b < a := by grind
    have h4 : b * b ≤ b * a := Rat.mul_le_mul_of_nonneg_left (by grind) hb
    have h5 : b * a < a * a := Rat.mul_lt_mul_of_pos_right h3 (by grind)
    grind
theorem sq_lt {a b : Rat} (hb : 0 ≤ b) (h : a * a < b * b) : a < b := by
  by_cases hc : a < b
  · exact hc
  · exfalso
    have h4 : b * b ≤ b * a := Rat.mul_le_mul_of_nonneg_left (by grind) hb
    have h5 : b * a ≤ a * a := Rat.mul_le_mul_of_nonneg_right (by grind) (by grind)
    grind
theorem sq_mono {a b : Rat} (ha : 0 ≤ a) (h : a ≤ b) : a * a ≤ b * b := by
  have h4 : a * a ≤ a * b := Rat.mul_le_mul_of_nonneg_left h ha
  have h5 : a * b ≤ b * b := Rat.mul_le_mul_of_nonneg_right h (by grind)
  grind
/-- The root of a number, up to its last digit. -/
theorem root_mag (m digits : Nat) (i : Int) (hm : m ≠ 0) : ∃ (T : Nat) (p : Int) (c : Rat), Datum.root digits (.number false m i) = some (.number false T p) ∧ (T * sc p) * (T * sc p) = m * sc i + c ∧ Ab c (m * sc i * sc (1 - (digits : Int))) ∧ sc (digits : Int) * sc (p + 1) ≤ T * sc p ∧ i - 2 * digits - 2 ≤ 2 * (p + 1) ∧
    ∀ (z : Nat) (g : Int), (z * sc g) * (z * sc g) = m * sc i → z < 2 ^ digits → T * sc p = z * sc g := by
  unfold Datum.root
  simp only [if_neg hm, Bool.false_eq_true, if_false]
  obtain ⟨more, hmore⟩ : ∃ more : Nat, 2 * digits - m.log2 + ((i - ((2 * digits - m.log2 : Nat) : Int)) % 2).toNat = more := ⟨_, rfl⟩
  have hge : 2 * digits ≤ m.log2 + more := by omega
  have hmore2 : more ≤ 2 * digits + 1 := by omega
  obtain ⟨h, hh⟩ : ∃ h : Int, i - (more : Int) = 2 * h := ⟨(i - (more : Int)) / 2, by omega⟩
  rw [hmore, hh, show 2 * h / 2 = h by omega]
  have hN1 : 2 ^ (2 * digits) ≤ m <<< more := by
    rw [Nat.shiftLeft_eq]
    have h1 : 2 ^ m.log2 ≤ m := Nat.log2_self_le hm
    have h2 := Nat.mul_le_mul_right (2 ^ more) h1
    rw [← Nat.pow_add] at h2
    have h3 := Nat.pow_le_pow_right (show 0 < 2 by decide) hge
    omega
  have hNv : ((m <<< more : Nat) : Rat) * (sc h * sc h) = m * sc i := by
    rw [Nat.shiftLeft_eq, Rat.natCast_mul, ← sc_nat, ← sc_add]
    rw [show (m : Rat) * sc (more : Int) * sc (h + h) = m * (sc (more : Int) * sc (h + h)) by grind, ← sc_add]
    congr 2; omega
  obtain ⟨r1, r2⟩ := root_bounds (m <<< more)
  generalize m <<< more = N at *
  generalize Datum.rootFrom N (N.log2 / 2 + 1) 0 = w at *
  have hw : 2 ^ digits ≤ w := by
    by_cases hc : 2 ^ digits ≤ w
    · exact hc
    · exfalso
      have h1 : w + 1 ≤ 2 ^ digits := by omega
      have h2 := Nat.mul_le_mul h1 h1
      rw [← Nat.pow_add, show digits + digits = 2 * digits by omega] at h2
      omega
  have hp := sc_pos h
  have hp2 : sc (h - 1) * 2 = sc h := by
    rw [show h = (h - 1) + 1 by omega, sc_add (h - 1) 1, show h - 1 + 1 - 1 = h - 1 by omega, show sc 1 = 2 from Rat.zpow_one _]
  have c1 : (w : Rat) * w ≤ N := by exact_mod_cast r1
  have c2 : (N : Rat) < ((w : Rat) + 1) * ((w : Rat) + 1) := by exact_mod_cast r2
  have c3 : sc (digits : Int) ≤ w := by rw [sc_nat]; exact_mod_cast hw
  have hd1 := one_le_sc digits
  obtain ⟨st, hst⟩ : ∃ st : Nat, (w * w != N).toNat = st := ⟨_, rfl⟩
  have hs : ((N : Rat) = w * w ∧ st = 0) ∨ ((w : Rat) * w + 1 ≤ N ∧ st = 1) := by
    by_cases hz : w * w = N
    · exact .inl ⟨by exact_mod_cast hz.symm, by rw [← hst]; simp [hz]⟩
    · refine .inr ⟨?_, by rw [← hst]; simp [hz]⟩
      have : w * w + 1 ≤ N := by omega
      exact_mod_cast this
  rw [hst]
  have hTv : ((2 * w + st : Nat) : Rat) * sc (h - 1) = (w + (st : Rat) * (1 / 2)) * sc h := by
    rw [Rat.natCast_add, Rat.natCast_mul, show ((2 : Nat) : Rat) = 2 from rfl]
    grind
  have hst01 : 0 ≤ (st : Rat) := nat_nn st
  obtain ⟨S, hS⟩ : ∃ S, sc h * sc h = S := ⟨_, rfl⟩
  have hSp : 0 < S := by rw [← hS]; exact Rat.mul_pos hp hp
  refine ⟨2 * w + st, h - 1, ((2 * w + st : Nat) : Rat) * sc (h - 1) * (((2 * w + st : Nat) : Rat) * sc (h - 1)) - m * sc i, rfl, by grind, ?_, ?_, by omega, ?_⟩
  · rw [hTv, ← hNv]
    have e1 : (w + (st : Rat) * (1 / 2)) * sc h * ((w + (st : Rat) * (1 / 2)) * sc h) - N * (sc h * sc h) = ((w + (st : Rat) * (1 / 2)) * (w + (st : Rat) * (1 / 2)) - N) * (sc h * sc h) := by grind
    rw [e1, hS]
    -- the size of the error
    have hA : Ab ((w + (st : Rat) * (1 / 2)) * (w + (st : Rat) * (1 / 2)) - N) (2 * w) := by
      have hw1 : (1 : Rat) ≤ w := by grind
      rcases hs with ⟨h1, rfl⟩ | ⟨h1, rfl⟩
      · rw [show ((0 : Nat) : Rat) = 0 from rfl]
        rw [h1]
        unfold Ab
        grind
      · rw [show ((1 : Nat) : Rat) = 1 from rfl]
        have e2 : ((w : Rat) + 1 * (1 / 2)) * (w + 1 * (1 / 2)) = w * w + w + 1 / 4 := by grind
        have e3 : ((w : Rat) + 1) * ((w : Rat) + 1) = w * w + 2 * w + 1 := by grind
        rw [e3] at c2
        rw [e2]
        unfold Ab
        grind
    have hw2 : 2 * (w : Rat) ≤ N * sc (1 - (digits : Int)) := by
      have hw0 : (0 : Rat) ≤ w := nat_nn w
      have h5 : sc (digits : Int) * w ≤ w * w := Rat.mul_le_mul_of_nonneg_right c3 hw0
      have h6 : sc (digits : Int) * w ≤ N := by grind
      have h7 := Rat.mul_le_mul_of_nonneg_right h6 (Rat.le_of_lt (sc_pos (1 - (digits : Int))))
      have e : sc (digits : Int) * sc (1 - (digits : Int)) = 2 := by
        rw [← sc_add, show (digits : Int) + (1 - (digits : Int)) = 1 by omega]
        exact Rat.zpow_one _
      have e2 : sc (digits : Int) * w * sc (1 - (digits : Int)) = 2 * w := by grind
      rw [e2] at h7
      exact h7
    have hB := hA.mono hw2
    unfold Ab at hB ⊢
    have h8 := Rat.mul_le_mul_of_nonneg_right hB.1 (Rat.le_of_lt hSp)
    have h9 := Rat.mul_le_mul_of_nonneg_right hB.2 (Rat.le_of_lt hSp)
    have e4 : (N : Rat) * S * sc (1 - (digits : Int)) = N * sc (1 - (digits : Int)) * S := by grind
    rw [e4]
    exact ⟨by grind, h9⟩
  · rw [hTv, show h - 1 + 1 = h by omega]
    exact Rat.mul_le_mul_of_nonneg_right (by grind) (Rat.le_of_lt hp)
  · intro z g hz hzl
    have hzr : (z : Rat) < sc (digits : Int) := by rw [sc_nat]; exact_mod_cast hzl
    -- z * 2^g is a whole number of units
    have hgh : h < g := by
      apply sc_lt_inv
      by_cases hc : sc h < sc g
      · exact hc
      · exfalso
        have h6 : sc g ≤ sc h := by grind
        have h7 : (z : Rat) * sc g ≤ z * sc h := Rat.mul_le_mul_of_nonneg_left h6 (nat_nn z)
        have h8 : (z : Rat) * sc h < sc (digits : Int) * sc h := Rat.mul_lt_mul_of_pos_right hzr hp
        have h9 : sc (digits : Int) * sc h ≤ w * sc h := Rat.mul_le_mul_of_nonneg_right c3 (Rat.le_of_lt hp)
        have hzn : 0 ≤ (z : Rat) * sc g := Rat.mul_nonneg (nat_nn z) (Rat.le_of_lt (sc_pos g))
        have h10 : (z : Rat) * sc g < w * sc h := by grind
        have h11 : ((z : Rat) * sc g) * ((z : Rat) * sc g) < (w * sc h) * (w * sc h) := by
          by_cases hcc : ((z : Rat) * sc g) * ((z : Rat) * sc g) < (w * sc h) * (w * sc h)
          · exact hcc
          · have := sq_le hzn (show ((w : Rat) * sc h) * (w * sc h) ≤ ((z : Rat) * sc g) * ((z : Rat) * sc g) by grind)
            grind
        have h12 := Rat.mul_le_mul_of_nonneg_right c1 (Rat.le_of_lt hSp)
        have e5 : (w : Rat) * sc h * (w * sc h) = w * w * S := by grind
        grind
    obtain ⟨v, hv⟩ : ∃ v : Nat, g = h + v := ⟨(g - h).toNat, by omega⟩
    rw [hv, sc_add, sc_nat] at hz ⊢
    have h13 : (((z * 2 ^ v * (z * 2 ^ v) : Nat) : Rat) - N) * S = 0 := by
      rw [Rat.natCast_mul, Rat.natCast_mul, ← hS]
      grind
    have h14 : z * 2 ^ v * (z * 2 ^ v) = N := by
      rcases Rat.mul_eq_zero.1 h13 with h | h
      · have h15 : ((z * 2 ^ v * (z * 2 ^ v) : Nat) : Rat) = (N : Nat) := by grind
        exact_mod_cast h15
      · grind
    have h16 : w = z * 2 ^ v := by
      have a1 : w ≤ z * 2 ^ v := by
        by_cases hc : w ≤ z * 2 ^ v
        · exact hc
        · have := Nat.mul_le_mul (show z * 2 ^ v + 1 ≤ w by omega) (show z * 2 ^ v + 1 ≤ w by omega)
          rw [Nat.add_mul, Nat.mul_add] at this
          omega
      have a2 : z * 2 ^ v < w + 1 := by
        by_cases hc : z * 2 ^ v < w + 1
        · exact hc
        · have := Nat.mul_le_mul (show w + 1 ≤ z * 2 ^ v by omega) (show w + 1 ≤ z * 2 ^ v by omega)
          omega
      omega
    have h17 : st = 0 := by rw [← hst, h16, h14]; simp
    rw [hTv, h17, h16, Rat.natCast_mul, show ((0 : Nat) : Rat) = 0 from rfl]
    grind
end Go.Proofs.Ythacadbdncfocaa
