/- Rational values of floats: exact results, quotients, roots, comparisons, conversions. -/
import Derived.Test.YthacadbdncfocaaQr
namespace Go.Proofs.Ythacadbdncfocaa
open Go Ieee

theorem nearest_by_value (f : Format) (neg : Bool) (T T' : Nat) (p p' : Int) (h : (T : Rat) * sc p = T' * sc p') : f.nearest neg T p = f.nearest neg T' p' := by
  have key : ∀ (T T' : Nat) (p p' : Int), p ≤ p' → (T : Rat) * sc p = T' * sc p' → f.nearest neg T p = f.nearest neg T' p' := by
    intro T T' p p' hp h
    obtain ⟨n, rfl⟩ : ∃ n : Nat, p' = p + n := ⟨(p' - p).toNat, by omega⟩
    have hpp := sc_pos p
    have h2 : (T : Rat) = T' * ((2 ^ n : Nat) : Rat) := by
      rw [sc_add, sc_nat] at h
      have h3 : ((T : Rat) - T' * ((2 ^ n : Nat) : Rat)) * sc p = 0 := by grind
      rcases Rat.mul_eq_zero.1 h3 with h4 | h4
      · grind
      · grind
    have h3 : T = T' * 2 ^ n := by exact_mod_cast h2
    by_cases h0 : T' = 0
    · subst h0
      rw [Nat.zero_mul] at h3
      subst h3
      unfold Format.nearest
      rw [if_pos rfl, if_pos rfl]
    · rw [h3, nearest_scale f neg T' n p h0]
  by_cases hp : p ≤ p'
  · exact key T T' p p' hp h
  · exact (key T' T p' p (by omega) h.symm).symm
theorem le_sc_mul {a b : Rat} (e : Int) (h : a ≤ b) : a * sc e ≤ b * sc e := Rat.mul_le_mul_of_nonneg_right h (Rat.le_of_lt (sc_pos e))
theorem fits_top (k : FloatKind) (z : Nat) (g : Int) (hz : z < 2 ^ (fracB k + 1)) (hg : g ≤ topB k - fracB k - 1) : (z : Rat) * sc g < sc (topB k) := by
  have h1 : (z : Rat) < ((2 ^ (fracB k + 1) : Nat) : Rat) := by exact_mod_cast hz
  rw [← sc_nat] at h1
  have h2 := Rat.mul_lt_mul_of_pos_right h1 (sc_pos g)
  rw [← sc_add] at h2
  have h3 := sc_le (show ((fracB k + 1 : Nat) : Int) + g ≤ topB k by omega)
  grind
/-- A value that the format has. -/
theorem near_exact (k : FloatKind) (neg : Bool) (T : Nat) (p : Int) (z : Nat) (g : Int) (h : (T : Rat) * sc p = z * sc g) (hz : z < 2 ^ (fracB k + 1)) (hg : leastB k ≤ g) (hg2 : g ≤ topB k - fracB k - 1) :
    RQ k (k.format.nearest neg T p) (sgr neg * (z * sc g)) := by
  rw [nearest_by_value _ neg T z p g h]
  obtain ⟨d, hr, -, -, -, h0⟩ := near_rq k neg z g (fits_top k z g hz hg2)
  rw [h0 hz hg] at hr
  rw [show (z : Rat) * sc g = z * sc g + 0 by grind]
  exact hr
/-- Values of some digits: z * 2 ^ g. -/
def Rep (k : FloatKind) (q : Rat) (g : Int) : Prop := ∃ z : Int, q = z * sc g ∧ z.natAbs < 2 ^ (fracB k + 1) ∧ leastB k ≤ g ∧ g ≤ topB k - fracB k - 1
theorem sgr_nat (b : Bool) (T z : Nat) (a c : Rat) (hc : 0 < c) (ha : 0 < a) (zi : Int) (hz : zi.natAbs = z) (h : sgr b * (T * a) = zi * c) : (T : Rat) * a = z * c := by
  have h1 : 0 ≤ (T : Rat) * a := Rat.mul_nonneg (nat_nn T) (Rat.le_of_lt ha)
  have h2 : 0 ≤ (z : Rat) * c := Rat.mul_nonneg (nat_nn z) (Rat.le_of_lt hc)
  have h3 : (zi : Rat) = z ∨ (zi : Rat) = -z := by
    rcases Int.natAbs_eq zi with e | e
    · left; rw [hz] at e; rw [e]; exact Rat.intCast_natCast z
    · right; rw [hz] at e; rw [e, Rat.intCast_neg, Rat.intCast_natCast]
  cases b <;> unfold sgr at h <;> rcases h3 with h3 | h3 <;> rw [h3] at h <;> grind
theorem int_abs (z : Int) : (z : Rat) = z.natAbs ∨ (z : Rat) = -z.natAbs := by
  rcases Int.natAbs_eq z with e | e
  · left; conv => lhs; rw [e]
    exact Rat.intCast_natCast _
  · right; conv => lhs; rw [e]
    rw [Rat.intCast_neg, Rat.intCast_natCast]
theorem sgr_nonneg (b : Bool) (z : Int) (c : Rat) (hc : 0 < c) (h : 0 ≤ sgr b * (z * c)) : sgr b * (z * c) = z.natAbs * c := by
  have hnn : 0 ≤ (z.natAbs : Rat) * c := Rat.mul_nonneg (nat_nn _) (Rat.le_of_lt hc)
  rcases int_abs z with e | e <;> rw [e] at h ⊢ <;> cases b <;> unfold sgr at * <;> grind
theorem write_rep (k : FloatKind) (neg : Bool) (T : Nat) (p : Int) (q : Rat) (g : Int) (hq : q = sgr neg * (T * sc p)) (hr : Rep k q g) : RQ k (k.format.write (.number neg T p)) q := by
  obtain ⟨z, h1, h2, h3, h4⟩ := hr
  have h5 := sgr_nat neg T z.natAbs (sc p) (sc g) (sc_pos g) (sc_pos p) z rfl (by rw [← hq]; exact h1)
  have := near_exact k neg T p z.natAbs g h5 h2 h3 h4
  rw [← h5, ← hq] at this
  exact this
theorem RQ.add_rep {k : FloatKind} {x y : Nat} {a b : Rat} {g : Int} (hx : RQ k x a) (hy : RQ k y b) (h : Rep k (a + b) g) : RQ k (fop .add k x y) (a + b) := by
  obtain ⟨s, m, i, h1, rfl⟩ := hx
  obtain ⟨t, n, j, h2, rfl⟩ := hy
  obtain ⟨c, T, p, h3, h4, -⟩ := sum_rq (s := s) (t := t) (m := m) (n := n) (i := i) (j := j)
  have := write_rep k c T p _ g h4.symm h
  unfold fop floatBits Format.add
  rw [h1, h2, h3]
  exact this
theorem RQ.sub_rep {k : FloatKind} {x y : Nat} {a b : Rat} {g : Int} (hx : RQ k x a) (hy : RQ k y b) (h : Rep k (a - b) g) : RQ k (fop .sub k x y) (a - b) := by
  obtain ⟨s, m, i, h1, rfl⟩ := hx
  obtain ⟨t, n, j, h2, rfl⟩ := hy
  obtain ⟨c, T, p, h3, h4, -⟩ := sum_rq (s := s) (t := !t) (m := m) (n := n) (i := i) (j := j)
  rw [sgr_not] at h4
  have := write_rep k c T p (sgr s * (m * sc i) - sgr t * (n * sc j)) g (by grind) h
  unfold fop floatBits Format.sub
  rw [h1, h2]
  show RQ k (((Datum.sum (.number s m i) (.number (!t) n j)).map k.format.write).getD (nanC k)) _
  rw [h3]
  exact this
theorem RQ.mul_rep {k : FloatKind} {x y : Nat} {a b : Rat} {g : Int} (hx : RQ k x a) (hy : RQ k y b) (h : Rep k (a * b) g) : RQ k (fop .mul k x y) (a * b) := by
  obtain ⟨s, m, i, h1, rfl⟩ := hx
  obtain ⟨t, n, j, h2, rfl⟩ := hy
  have := write_rep k (s ^^ t) (m * n) (i + j) (sgr s * (m * sc i) * (sgr t * (n * sc j))) g (by rw [sgr_xor, sc_add, Rat.natCast_mul]; grind) h
  unfold fop floatBits Format.mul
  rw [h1, h2]
  exact this
theorem RQ.zero_mag {k : FloatKind} {m : Nat} {s : Bool} {e : Int} (h : sgr s * ((m : Rat) * sc e) = 0) : m = 0 := by
  by_cases hm : m = 0
  · exact hm
  · have h1 := Rat.mul_pos (nat_pos hm) (sc_pos e)
    cases s <;> unfold sgr at h <;> grind
/-- The quotient's digits. -/
theorem quo_digits (m n digits : Nat) (hm : m ≠ 0) (hd : 1 ≤ digits) : 2 ^ (digits - 1) * n ≤ m <<< (digits + n.log2 - m.log2) := by
  rw [Nat.shiftLeft_eq]
  have h1 : 2 ^ m.log2 ≤ m := Nat.log2_self_le hm
  have h2 : n < 2 ^ (n.log2 + 1) := Nat.lt_log2_self
  have h3 : 2 ^ m.log2 * 2 ^ (digits + n.log2 - m.log2) ≤ m * 2 ^ (digits + n.log2 - m.log2) := Nat.mul_le_mul_right _ h1
  rw [← Nat.pow_add] at h3
  have h4 : 2 ^ (digits - 1) * n ≤ 2 ^ (digits - 1) * 2 ^ (n.log2 + 1) := Nat.mul_le_mul_left _ (Nat.le_of_lt h2)
  rw [← Nat.pow_add] at h4
  have := Nat.pow_le_pow_right (show 0 < 2 by decide) (show digits - 1 + (n.log2 + 1) ≤ m.log2 + (digits + n.log2 - m.log2) by omega)
  omega
theorem quo_core {n fl re D U Q : Rat} (hn : 0 < n) (h1 : n * fl + re = D) (h2 : D * U = Q * n) (hU : 0 < U) (h0 : 0 ≤ re) (h3 : re < n) : fl * U ≤ Q ∧ Q ≤ fl * U + U ∧ (re = 0 → Q = fl * U) := by
  have h5 : 0 ≤ re * U := Rat.mul_nonneg h0 (Rat.le_of_lt hU)
  have h6 : 0 ≤ (n - re) * U := Rat.mul_nonneg (by grind) (Rat.le_of_lt hU)
  have e : Q * n = fl * U * n + re * U := by grind
  refine ⟨Rat.le_of_mul_le_mul_right (c := n) (by grind) hn, Rat.le_of_mul_le_mul_right (c := n) (by grind) hn, fun h => ?_⟩
  have : (fl * U - Q) * n = 0 := by grind
  rcases Rat.mul_eq_zero.1 this with h | h <;> grind
/-- What the quotient of two numbers is, up to its last digit. -/
theorem quo_mag (m n digits : Nat) (i j : Int) (hm : m ≠ 0) (hn : n ≠ 0) (hd : 1 ≤ digits) (Q : Rat) (hQ : Q * (n * sc j) = m * sc i) :
    ∃ (T : Nat) (p : Int) (r : Rat), Datum.quotient digits (.number false m i) (.number false n j) = some (.number false T p) ∧ T * sc p = Q + r ∧ Ab r (Q * sc (-(digits : Int))) ∧ 0 ≤ Q ∧
      (∀ (z : Nat) (g : Int), Q = z * sc g → z < 2 ^ (digits - 1) → r = 0) ∧ ∀ s t, Datum.quotient digits (.number s m i) (.number t n j) = some (.number (s ^^ t) T p) := by
  have h0 := quo_digits m n digits hm hd
  obtain ⟨more, hmore⟩ : ∃ more, digits + n.log2 - m.log2 = more := ⟨_, rfl⟩
  have hq : ∀ s t, Datum.quotient digits (.number s m i) (.number t n j) = some (.number (s ^^ t) (2 * ((m <<< more) / n) + ((m <<< more) % n != 0).toNat) (i - j - more - 1)) := by
    intro s t
    unfold Datum.quotient
    simp only [if_neg hn, hmore]
  rw [hmore, Nat.shiftLeft_eq] at h0
  rw [Nat.shiftLeft_eq] at hq
  have hnp := nat_pos hn
  have hjp := sc_pos j
  have hQ0 : 0 ≤ Q := by
    have h1 : 0 < (m : Rat) * sc i := Rat.mul_pos (nat_pos hm) (sc_pos i)
    have h2 : 0 < (n : Rat) * sc j := Rat.mul_pos hnp hjp
    by_cases h : 0 ≤ Q
    · exact h
    · have : Q * (n * sc j) < 0 * (n * sc j) := Rat.mul_lt_mul_of_pos_right (by grind) h2
      grind
  -- D = Q n in units of U
  obtain ⟨U, hU⟩ : ∃ U, sc (i - j - (more : Int)) = U := ⟨_, rfl⟩
  have hUp : 0 < U := by rw [← hU]; exact sc_pos _
  have hD : ((m * 2 ^ more : Nat) : Rat) * U = Q * n := by
    have e1 : sc i = sc (more : Int) * U * sc j := by rw [← hU, ← sc_add, ← sc_add]; congr 1; omega
    rw [e1] at hQ
    rw [Rat.natCast_mul, ← sc_nat]
    have : ((m : Rat) * sc (more : Int) * U - Q * n) * sc j = 0 := by grind
    rcases Rat.mul_eq_zero.1 this with h | h
    · grind
    · grind
  have hdm := Nat.div_add_mod (m * 2 ^ more) n
  have hml := Nat.mod_lt (m * 2 ^ more) (show 0 < n by omega)
  have hdig : sc ((digits - 1 : Nat) : Int) * U ≤ Q := by
    have c : ((2 ^ (digits - 1) : Nat) : Rat) * n ≤ ((m * 2 ^ more : Nat) : Rat) := by exact_mod_cast h0
    rw [← sc_nat] at c
    have c2 := Rat.mul_le_mul_of_nonneg_right c (Rat.le_of_lt hUp)
    rw [hD] at c2
    have c3 : (sc ((digits - 1 : Nat) : Int) * U) * n ≤ Q * n := by grind
    exact Rat.le_of_mul_le_mul_right c3 hnp
  generalize m * 2 ^ more = D at *
  obtain ⟨fl, hfl⟩ : ∃ fl, D / n = fl := ⟨_, rfl⟩
  obtain ⟨re, hre⟩ : ∃ re, D % n = re := ⟨_, rfl⟩
  rw [hfl, hre] at hdm hq
  rw [hre] at hml
  have hdmr : (n : Rat) * fl + re = D := by exact_mod_cast hdm
  have hmlr : (re : Rat) < n := by exact_mod_cast hml
  have hrn := nat_nn re
  obtain ⟨st, hst⟩ : ∃ st : Nat, (re != 0).toNat = st := ⟨_, rfl⟩
  rw [hst] at hq
  -- the error
  have hp2 : sc (i - j - (more : Int) - 1) * 2 = U := by
    rw [← hU, show i - j - (more : Int) = (i - j - (more : Int) - 1) + 1 by omega, sc_add (i - j - (more : Int) - 1) 1, show i - j - (more : Int) - 1 + 1 - 1 = i - j - (more : Int) - 1 by omega, show sc 1 = 2 from Rat.zpow_one _]
  have herr : ∃ r : Rat, ((2 * fl + st : Nat) : Rat) * sc (i - j - (more : Int) - 1) = Q + r ∧ -(U * (1/2)) ≤ r ∧ r ≤ U * (1/2) ∧ (re = 0 → r = 0) := by
    obtain ⟨c1, c2, c3⟩ := quo_core hnp hdmr hD hUp hrn hmlr
    have hs : (re = 0 ∧ st = 0) ∨ (re ≠ 0 ∧ st = 1) := by
      by_cases hz : re = 0
      · exact .inl ⟨hz, by rw [← hst, hz]; rfl⟩
      · exact .inr ⟨hz, by rw [← hst]; simp [hz]⟩
    have hrz : re = 0 → (re : Rat) = 0 := fun h => by rw [h]; rfl
    rw [Rat.natCast_add, Rat.natCast_mul, show ((2 : Nat) : Rat) = 2 from rfl]
    clear hst hfl hre hdm hml hdmr hmlr h0 hq hdig hD hQ hmore
    generalize sc (i - j - (more : Int) - 1) = V at *
    rcases hs with ⟨hz, rfl⟩ | ⟨hz, rfl⟩
    · have c4 := c3 (hrz hz)
      rw [show ((0 : Nat) : Rat) = 0 from rfl]
      exact ⟨0, by grind, by grind, by grind, fun _ => rfl⟩
    · rw [show ((1 : Nat) : Rat) = 1 from rfl]
      have e : (2 * (fl : Rat) + 1) * V = fl * U + U * (1 / 2) := by grind
      clear hrz c3 hU
      exact ⟨(2 * (fl : Rat) + 1) * V - Q, by grind, by rw [e]; grind, by rw [e]; grind, fun h => absurd h hz⟩
  obtain ⟨r, hr1, hr2, hr3, hr4⟩ := herr
  refine ⟨_, _, r, hq false false, hr1, ?_, hQ0, ?_, hq⟩
  · have h5 := Rat.mul_le_mul_of_nonneg_right hdig (Rat.le_of_lt (sc_pos (-(digits : Int))))
    have e : sc ((digits - 1 : Nat) : Int) * sc (-(digits : Int)) = 1 / 2 := by
      rw [← sc_add, show ((digits - 1 : Nat) : Int) + -(digits : Int) = -1 by omega]
      decide +kernel
    have e2 : sc ((digits - 1 : Nat) : Int) * U * sc (-(digits : Int)) = U * (1 / 2) := by grind
    rw [e2] at h5
    unfold Ab
    clear e e2 hq hdm hfl hre hml hdmr hmlr hst h0 hmore
    generalize Q * sc (-(digits : Int)) = X at *
    exact ⟨by grind, by grind⟩
  · intro z g hz hzl
    apply hr4
    have hzU : sc ((digits - 1 : Nat) : Int) * U ≤ z * sc g := by rw [← hz]; exact hdig
    have hgu : i - j - (more : Int) < g := by
      apply sc_lt_inv
      rw [hU]
      by_cases hc : U < sc g
      · exact hc
      · exfalso
        have h6 : sc g ≤ U := by grind
        have h7 : (z : Rat) < sc ((digits - 1 : Nat) : Int) := by rw [sc_nat]; exact_mod_cast hzl
        have h8 := Rat.mul_lt_mul_of_pos_right h7 hUp
        have h9 := Rat.mul_le_mul_of_nonneg_left h6 (nat_nn z)
        grind
    obtain ⟨v, hv⟩ : ∃ v : Nat, g = (i - j - (more : Int)) + v := ⟨(g - (i - j - (more : Int))).toNat, by omega⟩
    rw [hv, sc_add, hU, sc_nat] at hz
    have h10 : (((z * 2 ^ v * n : Nat) : Rat) - (D : Nat)) * U = 0 := by
      rw [Rat.natCast_mul, Rat.natCast_mul]
      grind
    rcases Rat.mul_eq_zero.1 h10 with h | h
    · have h11 : ((z * 2 ^ v * n : Nat) : Rat) = (D : Nat) := by grind
      have h12 : z * 2 ^ v * n = D := by exact_mod_cast h11
      rw [← hre, ← h12, Nat.mul_mod_left]
    · grind
theorem quo_zero (s t : Bool) (n digits : Nat) (i j : Int) (hn : n ≠ 0) : ∃ p, Datum.quotient digits (.number s 0 i) (.number t n j) = some (.number (s ^^ t) 0 p) := by
  unfold Datum.quotient
  simp only [if_neg hn, Nat.zero_shiftLeft, Nat.zero_div, Nat.zero_mod]
  exact ⟨_, rfl⟩
theorem sgr_sq (s : Bool) : sgr s * sgr s = 1 := by cases s <;> decide +kernel
theorem RQ.quo {k : FloatKind} {x y : Nat} {a b q B : Rat} (hx : RQ k x a) (hy : RQ k y b) (hb : b ≠ 0) (hq : q * b = a) (hB : Ab q B) (hs : B + B < sc (topB k)) :
    ∃ d : Rat, RQ k (fop .quo k x y) (q + d) ∧ Ab d (B * (2 * uu k) + tt k) := by
  obtain ⟨s, m, i, h1, rfl⟩ := hx
  obtain ⟨t, n, j, h2, rfl⟩ := hy
  have hn : n ≠ 0 := by
    rintro rfl
    apply hb
    rw [show ((0 : Nat) : Rat) = 0 from rfl]
    grind
  have hB0 : 0 ≤ B := by unfold Ab at hB; grind
  have hu := uu_pos k
  have ht := tt_pos k
  have hform : fop .quo k x y = ((Datum.quotient (fracB k + 2) (.number s m i) (.number t n j)).map k.format.write).getD (nanC k) := by
    unfold fop floatBits Format.div
    rw [h1, h2, fracB_eq]
  rw [hform]
  by_cases hm : m = 0
  · subst hm
    obtain ⟨p, hp⟩ := quo_zero s t n (fracB k + 2) i j hn
    have hq0 : q = 0 := by
      rw [show ((0 : Nat) : Rat) = 0 from rfl] at hq
      have h3 : q * (sgr t * ((n : Rat) * sc j)) = 0 := by grind
      rcases Rat.mul_eq_zero.1 h3 with h | h
      · exact h
      · exact absurd h hb
    obtain ⟨d, r1, r2, -⟩ := write_rq k (s ^^ t) 0 p q B (by rw [hq0, show ((0 : Nat) : Rat) = 0 from rfl]; grind) hB (by grind)
    refine ⟨d, ?_, ?_⟩
    · rw [hp]; exact r1
    · have := Rat.mul_nonneg hB0 (Rat.le_of_lt hu)
      exact r2.mono (by grind)
  · have hst := sgr_sq s
    have htt := sgr_sq t
    obtain ⟨T, p, r, -, h3, h4, h5, -, h7⟩ := quo_mag m n (fracB k + 2) i j hm hn (by omega) (sgr s * sgr t * q) (by
      have h8 : sgr s * sgr t * q * (n * sc j) = sgr s * (q * (sgr t * (n * sc j))) := by grind
      rw [h8, hq]
      grind)
    have hqB : sgr s * sgr t * q ≤ B := by
      rw [← sgr_xor]
      exact (sgr_abs (s ^^ t) q B hB).2
    have e1 : sc (-((fracB k + 2 : Nat) : Int)) = uu k * (1 / 2) := by
      unfold uu
      rw [show -((fracB k + 2 : Nat) : Int) = (-(fracB k : Int) - 1) + -1 by omega, sc_add, show sc (-1) = 1 / 2 by decide +kernel]
    rw [e1] at h4
    have hu1 : uu k ≤ 1 / 1024 := by cases k <;> decide +kernel
    have hBu := Rat.mul_nonneg hB0 (Rat.le_of_lt hu)
    have hBu2 := Rat.mul_le_mul_of_nonneg_left hu1 hBu
    have hQu := Rat.mul_le_mul_of_nonneg_right hqB (Rat.le_of_lt hu)
    have hBu3 := Rat.mul_le_mul_of_nonneg_left hu1 hB0
    obtain ⟨d, r1, r2, -⟩ := write_rq k (s ^^ t) T p (sgr (s ^^ t) * (sgr s * sgr t * q + r)) (B + B * (uu k * (1 / 2))) (by rw [h3]) (sgr_abs _ _ _ (by unfold Ab at *; grind)) (by grind)
    refine ⟨sgr (s ^^ t) * r + d, ?_, ?_⟩
    · rw [h7]
      rw [show q + (sgr (s ^^ t) * r + d) = sgr (s ^^ t) * (sgr s * sgr t * q + r) + d by
        rw [sgr_xor]
        have : sgr s * sgr t * (sgr s * sgr t * q) = (sgr s * sgr s) * (sgr t * sgr t) * q := by grind
        grind]
      exact r1
    · have h8 := sgr_abs (s ^^ t) r _ h4
      unfold Ab at *
      grind
theorem RQ.quo_rep {k : FloatKind} {x y : Nat} {a b q : Rat} {g : Int} (hx : RQ k x a) (hy : RQ k y b) (hb : b ≠ 0) (hq : q * b = a) (hr : Rep k q g) : RQ k (fop .quo k x y) q := by
  obtain ⟨s, m, i, h1, rfl⟩ := hx
  obtain ⟨t, n, j, h2, rfl⟩ := hy
  have hn : n ≠ 0 := by
    rintro rfl
    apply hb
    rw [show ((0 : Nat) : Rat) = 0 from rfl]
    grind
  have hform : fop .quo k x y = ((Datum.quotient (fracB k + 2) (.number s m i) (.number t n j)).map k.format.write).getD (nanC k) := by
    unfold fop floatBits Format.div
    rw [h1, h2, fracB_eq]
  rw [hform]
  by_cases hm : m = 0
  · subst hm
    obtain ⟨p, hp⟩ := quo_zero s t n (fracB k + 2) i j hn
    have hq0 : q = 0 := by
      rw [show ((0 : Nat) : Rat) = 0 from rfl] at hq
      have h3 : q * (sgr t * ((n : Rat) * sc j)) = 0 := by grind
      rcases Rat.mul_eq_zero.1 h3 with h | h
      · exact h
      · exact absurd h hb
    rw [hp]
    exact write_rep k (s ^^ t) 0 p q g (by rw [hq0, show ((0 : Nat) : Rat) = 0 from rfl]; grind) hr
  · have hst := sgr_sq s
    have htt := sgr_sq t
    obtain ⟨T, p, r, -, h3, -, h5, h6, h7⟩ := quo_mag m n (fracB k + 2) i j hm hn (by omega) (sgr s * sgr t * q) (by
      have h8 : sgr s * sgr t * q * (n * sc j) = sgr s * (q * (sgr t * (n * sc j))) := by grind
      rw [h8, hq]
      grind)
    have hr2 := hr
    obtain ⟨z, z1, z2, z3, z4⟩ := hr
    have hr0 : r = 0 := h6 z.natAbs g (by
      rw [z1]
      rw [z1] at h5
      rw [← sgr_xor] at h5 ⊢
      exact sgr_nonneg (s ^^ t) z (sc g) (sc_pos g) h5) (by simpa using z2)
    rw [h7]
    exact write_rep k (s ^^ t) T p q g (by
      rw [h3, hr0, sgr_xor]
      have : sgr s * sgr t * (sgr s * sgr t * q) = (sgr s * sgr s) * (sgr t * sgr t) * q := by grind
      grind) hr2
end Go.Proofs.Ythacadbdncfocaa
