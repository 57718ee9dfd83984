/- Several texts in one: Qr, Qs, Qt, Qu, Qv, Mx, Gr8, Grw, Gr9, Gra, OdP, Stk, StA, StB, Cur, Sam, San, Sae, Dbl, SaP, SaT, SaQ, StT. -/
import Derived.Test.YthacadbdncfocaaRnd
import Derived.Test.YthacadbdncfocaaNn
import Derived.Test.YthacadbdncfocaaFix
import Derived.Test.YthacadbdncfocaaGr7
import Derived.Test.YthacadbdncfocaaPos
import Derived.Test.YthacadbdncfocaaNumB
import Derived.Test.YthacadbdncfocaaRelK
import Derived.Lib.AppendZeros
import Derived.Test.YthacadbdncfocaaSfC
import Derived.Test.YthacadbdncfocaaSfG
import Derived.Test.YthacadbdncfocaaGr0
import Derived.Test.YthacadbdncfocaaSfS
/- The rational value of a finite float, and what rounding does to it. -/
namespace Go.Proofs.Ythacadbdncfocaa
open Go Ieee

/-- 2 to the e. -/
def sc (e : Int) : Rat := (2 : Rat) ^ e
theorem sc_pos (e : Int) : 0 < sc e := Rat.zpow_pos (by decide +kernel)
theorem sc_add (a b : Int) : sc (a + b) = sc a * sc b := Rat.zpow_add (by decide +kernel) a b
theorem sc_zero : sc 0 = 1 := Rat.zpow_zero _
theorem sc_nat (n : Nat) : sc (n : Int) = ((2 ^ n : Nat) : Rat) := by
  unfold sc
  rw [Rat.zpow_natCast, Rat.natCast_pow]
  rfl
theorem sc_cancel (a : Int) : sc a * sc (-a) = 1 := by rw [← sc_add, show a + -a = 0 by omega, sc_zero]
theorem one_le_sc (n : Nat) : 1 ≤ sc (n : Int) := by
  rw [sc_nat]
  have : 1 ≤ 2 ^ n := Nat.one_le_two_pow
  exact_mod_cast this
theorem sc_le {a b : Int} (h : a ≤ b) : sc a ≤ sc b := by
  obtain ⟨n, rfl⟩ : ∃ n : Nat, b = a + n := ⟨(b - a).toNat, by omega⟩
  rw [sc_add]
  have h1 := sc_pos a
  have h2 := one_le_sc n
  have := Rat.mul_le_mul_of_nonneg_left h2 (Rat.le_of_lt h1)
  grind
theorem sc_lt_inv {a b : Int} (h : sc a < sc b) : a < b := by
  by_cases hc : a < b
  · exact hc
  · have := sc_le (show b ≤ a by omega)
    grind
theorem nat_pos {n : Nat} (h : n ≠ 0) : (0 : Rat) < (n : Rat) := by
  have : 0 < n := by omega
  exact_mod_cast this
theorem nat_nn (n : Nat) : (0 : Rat) ≤ (n : Rat) := by exact_mod_cast Nat.zero_le n
/-- The sign. -/
def sgr (s : Bool) : Rat := if s then -1 else 1
theorem sgr_xor (s t : Bool) : sgr (s ^^ t) = sgr s * sgr t := by cases s <;> cases t <;> simp only [sgr, Bool.xor_false, Bool.xor_true, Bool.not_true, Bool.not_false, if_true] <;> decide +kernel
theorem sgr_not (s : Bool) : sgr (!s) = - sgr s := by cases s <;> decide +kernel
/-- The float is a number, and this is its value. -/
def RQ (k : FloatKind) (r : Nat) (q : Rat) : Prop := ∃ s m e, k.format.read r = .number s m e ∧ q = sgr s * (m * sc e)
theorem RQ.uniq {k : FloatKind} {r : Nat} {a b : Rat} (h : RQ k r a) (h' : RQ k r b) : a = b := by
  obtain ⟨s, m, e, h1, rfl⟩ := h
  obtain ⟨s', m', e', h2, rfl⟩ := h'
  rw [h1] at h2
  cases h2
  rfl
theorem RQ.notNan {k : FloatKind} {r : Nat} {a : Rat} (h : RQ k r a) : isN k r = false := by
  obtain ⟨s, m, e, h1, -⟩ := h
  unfold isN FloatKind.decode
  rw [h1]
  rfl
def fracB : FloatKind → Nat | .f32 => 23 | .f64 => 52
def leastB : FloatKind → Int | .f32 => -149 | .f64 => -1074
def topB : FloatKind → Int | .f32 => 127 | .f64 => 1023
theorem fracB_eq (k : FloatKind) : k.format.fractionBits = fracB k := by cases k <;> rfl
theorem leastB_eq (k : FloatKind) : k.format.leastPlace = leastB k := by cases k <;> decide
/-- Half a unit of the last digit of 1; half of the least number. -/
def uu (k : FloatKind) : Rat := sc (-(fracB k : Int) - 1)
def tt (k : FloatKind) : Rat := sc (leastB k - 1)
theorem log_bounds (T : Nat) (hT : T ≠ 0) : sc (T.log2 : Nat) ≤ (T : Rat) ∧ (T : Rat) < sc ((T.log2 : Nat) + 1) := by
  have h1 : 2 ^ T.log2 ≤ T := Nat.log2_self_le hT
  have h2 : T < 2 ^ (T.log2 + 1) := Nat.lt_log2_self
  rw [sc_nat, show ((T.log2 : Nat) : Int) + 1 = ((T.log2 + 1 : Nat) : Int) by omega, sc_nat]
  exact ⟨by exact_mod_cast h1, by exact_mod_cast h2⟩
theorem rung_fits (k : FloatKind) (L : Int) (K : Nat) (hL : L ≤ topB k - 1 - fracB k) (hK : K ≤ 2 * k.format.binade) : (L - k.format.leastPlace).toNat * k.format.binade + K < k.format.infRung := by
  cases k with
  | f32 =>
    have e1 : FloatKind.f32.format.binade = 8388608 := by decide
    have e2 : FloatKind.f32.format.infRung = 2139095040 := by decide
    have e3 : FloatKind.f32.format.leastPlace = -149 := by decide
    have e4 : topB .f32 = 127 := rfl
    have e5 : fracB .f32 = 23 := rfl
    rw [e1] at hK
    rw [e1, e2, e3]
    have : (L - -149).toNat ≤ 252 := by omega
    have := Nat.mul_le_mul_right 8388608 this
    omega
  | f64 =>
    have e1 : FloatKind.f64.format.binade = 4503599627370496 := by decide
    have e2 : FloatKind.f64.format.infRung = 9218868437227405312 := by decide
    have e3 : FloatKind.f64.format.leastPlace = -1074 := by decide
    have e4 : topB .f64 = 1023 := rfl
    have e5 : fracB .f64 = 52 := rfl
    rw [e1] at hK
    rw [e1, e2, e3]
    have : (L - -1074).toNat ≤ 2044 := by omega
    have := Nat.mul_le_mul_right 4503599627370496 this
    omega
/-- The number kept, in its place. -/
theorem kept_err (neg : Bool) (T : Nat) (p L : Int) : ∃ d : Rat, ((Toward.even.cut neg (T <<< (p - L).toNat) (L - p).toNat : Nat) : Rat) * sc L = T * sc p + d ∧ -sc (L - 1) ≤ d ∧ d ≤ sc (L - 1) ∧ (L ≤ p → d = 0) := by
  have hpos := sc_pos (L - 1)
  by_cases h : L ≤ p
  · refine ⟨0, ?_, by grind, by grind, fun _ => rfl⟩
    rw [show (L - p).toNat = 0 by omega, cut_zero, Nat.shiftLeft_eq]
    rw [Rat.natCast_mul, ← sc_nat, show (((p - L).toNat : Nat) : Int) = p - L by omega, show p = (p - L) + L by omega, sc_add (p - L) L]
    rw [show p - L + L - L = p - L by omega]
    grind
  · obtain ⟨d, hd⟩ : ∃ d : Nat, L = p + d := ⟨(L - p).toNat, by omega⟩
    subst hd
    rw [show (p - (p + d)).toNat = 0 by omega, show (p + (d : Int) - p).toNat = d by omega, Nat.shiftLeft_zero]
    obtain ⟨n1, n2⟩ := cut_near neg T d
    generalize Toward.even.cut neg T d = K at *
    have c1 : (2 * ((K : Rat) * ((2 ^ d : Nat) : Rat))) ≤ 2 * (T : Rat) + ((2 ^ d : Nat) : Rat) := by exact_mod_cast n1
    have c2 : (2 * (T : Rat)) ≤ 2 * ((K : Rat) * ((2 ^ d : Nat) : Rat)) + ((2 ^ d : Nat) : Rat) := by exact_mod_cast n2
    rw [← sc_nat] at c1 c2
    have hp := Rat.le_of_lt (sc_pos p)
    have c3 := Rat.mul_le_mul_of_nonneg_right c1 hp
    have c4 := Rat.mul_le_mul_of_nonneg_right c2 hp
    have e1 : sc (p + (d : Int)) = sc p * sc (d : Int) := sc_add _ _
    have e2 : 2 * sc (p + (d : Int) - 1) = sc (p + (d : Int)) := by
      rw [show p + (d : Int) = (p + (d : Int) - 1) + 1 by omega, sc_add (p + (d : Int) - 1) 1, show p + (d : Int) - 1 + 1 - 1 = p + (d : Int) - 1 by omega, show sc 1 = 2 from Rat.zpow_one _]
      grind
    refine ⟨(K : Rat) * sc (p + (d : Int)) - T * sc p, by grind, ?_, ?_, fun h2 => ?_⟩
    · rw [e1] at e2 ⊢
      generalize sc (p + (d : Int) - 1) = A at *
      generalize sc p = B at *
      generalize sc (d : Int) = C at *
      grind
    · rw [e1] at e2 ⊢
      generalize sc (p + (d : Int) - 1) = A at *
      generalize sc p = B at *
      generalize sc (d : Int) = C at *
      grind
    · have hd0 : d = 0 := by omega
      omega
/-- The nearest float to a number, and how far it is. -/
theorem near_rq (k : FloatKind) (neg : Bool) (T : Nat) (p : Int) (hs : (T : Rat) * sc p < sc (topB k)) :
    ∃ d : Rat, RQ k (k.format.nearest neg T p) (sgr neg * (T * sc p + d)) ∧ -(T * sc p * uu k + tt k) ≤ d ∧ d ≤ T * sc p * uu k + tt k ∧ 0 ≤ T * sc p + d ∧ (T < 2 ^ (fracB k + 1) → leastB k ≤ p → d = 0) := by
  by_cases hT : T = 0
  · subst hT
    refine ⟨0, ⟨neg, 0, k.format.leastPlace, ?_, ?_⟩, ?_, ?_, ?_, fun _ _ => rfl⟩
    · unfold Format.nearest
      rw [if_pos rfl]
      cases k <;> cases neg <;> decide +kernel
    · rw [show ((0 : Nat) : Rat) = 0 from rfl]; grind
    · have := sc_pos (leastB k - 1); unfold tt; rw [show ((0 : Nat) : Rat) = 0 from rfl]; grind
    · have := sc_pos (leastB k - 1); unfold tt; rw [show ((0 : Nat) : Rat) = 0 from rfl]; grind
    · rw [show ((0 : Nat) : Rat) = 0 from rfl]; grind
  · obtain ⟨l1, l2⟩ := log_bounds T hT
    have hpp := sc_pos p
    have hlow : sc ((T.log2 : Nat) + p) ≤ T * sc p := by
      rw [sc_add]
      exact Rat.mul_le_mul_of_nonneg_right l1 (Rat.le_of_lt hpp)
    have htop : ((T.log2 : Nat) : Int) + p < topB k := sc_lt_inv (by grind)
    have hL : lastP k.format T p = max (p + T.log2 - fracB k) (leastB k) := by unfold lastP; rw [fracB_eq, leastB_eq]
    have hLt : lastP k.format T p ≤ topB k - 1 - fracB k := by
      rw [hL]
      have : leastB k ≤ topB k - 1 - fracB k := by cases k <;> decide
      omega
    have hLp : T < 2 ^ (fracB k + 1) → leastB k ≤ p → lastP k.format T p ≤ p := fun h h2 => by
      have : T.log2 < fracB k + 1 := (Nat.log2_lt hT).2 h
      rw [hL]; omega
    obtain ⟨k1, -⟩ := kept_bounds k.format neg T p hT
    obtain ⟨m, e, hr, he, hv⟩ := nearest_val k.format neg T p hT (rung_fits k _ _ hLt k1)
    obtain ⟨d, hd, d1, d2, d3⟩ := kept_err neg T p (lastP k.format T p)
    have hkd : keptP k.format neg T p = Toward.even.cut neg (T <<< (p - lastP k.format T p).toNat) (lastP k.format T p - p).toNat := rfl
    rw [← hkd] at hd
    have hle : k.format.leastPlace ≤ lastP k.format T p := by unfold lastP; omega
    have hmv : (m : Rat) * sc e = T * sc p + d := by
      rw [← hd]
      have c : ((m : Rat) * ((2 ^ (e - k.format.leastPlace).toNat : Nat) : Rat)) = (keptP k.format neg T p : Rat) * ((2 ^ (lastP k.format T p - k.format.leastPlace).toNat : Nat) : Rat) := by exact_mod_cast hv
      rw [← sc_nat, ← sc_nat, show (((e - k.format.leastPlace).toNat : Nat) : Int) = e - k.format.leastPlace by omega, show (((lastP k.format T p - k.format.leastPlace).toNat : Nat) : Int) = lastP k.format T p - k.format.leastPlace by omega] at c
      have e1 : sc e = sc (e - k.format.leastPlace) * sc k.format.leastPlace := by rw [← sc_add]; congr 1; omega
      have e2 : sc (lastP k.format T p) = sc (lastP k.format T p - k.format.leastPlace) * sc k.format.leastPlace := by rw [← sc_add]; congr 1; omega
      rw [e1, e2]
      grind
    have hmn : 0 ≤ (m : Rat) * sc e := Rat.mul_nonneg (nat_nn m) (Rat.le_of_lt (sc_pos e))
    have hLb : sc (lastP k.format T p - 1) ≤ T * sc p * uu k + tt k := by
      have hu : 0 < uu k := sc_pos _
      have ht : 0 < tt k := sc_pos _
      have hTp : 0 ≤ (T : Rat) * sc p := Rat.mul_nonneg (nat_nn T) (Rat.le_of_lt hpp)
      have hTu : 0 ≤ (T : Rat) * sc p * uu k := Rat.mul_nonneg hTp (Rat.le_of_lt hu)
      by_cases hc : p + T.log2 - fracB k ≤ leastB k
      · rw [hL, Int.max_eq_right hc]
        unfold tt
        unfold tt at ht
        grind
      · rw [hL, Int.max_eq_left (by omega), show p + (T.log2 : Int) - (fracB k : Int) - 1 = ((T.log2 : Nat) + p) + (-(fracB k : Int) - 1) by omega, sc_add]
        have := Rat.mul_le_mul_of_nonneg_right hlow (Rat.le_of_lt hu)
        unfold uu at *
        grind
    refine ⟨d, ⟨neg, m, e, hr, by rw [hmv]⟩, by grind, by grind, by grind, fun h h2 => d3 (hLp h h2)⟩
/-- Less than a bound by its size. -/
def Ab (x B : Rat) : Prop := -B ≤ x ∧ x ≤ B
theorem Ab.mono {x B C : Rat} (h : Ab x B) (hc : B ≤ C) : Ab x C := by unfold Ab at *; grind
theorem sgr_abs (s : Bool) (x B : Rat) (h : Ab x B) : Ab (sgr s * x) B := by cases s <;> unfold Ab sgr at * <;> grind
theorem sgr_ab_inv (s : Bool) (x B : Rat) (h : Ab (sgr s * x) B) : Ab x B := by cases s <;> unfold Ab sgr at * <;> grind
theorem uu_pos (k : FloatKind) : 0 < uu k := sc_pos _
theorem tt_pos (k : FloatKind) : 0 < tt k := sc_pos _
/-- A number that is written. -/
theorem write_rq (k : FloatKind) (neg : Bool) (T : Nat) (p : Int) (q B : Rat) (hq : q = sgr neg * (T * sc p)) (hB : Ab q B) (hs : B < sc (topB k)) :
    ∃ d : Rat, RQ k (k.format.write (.number neg T p)) (q + d) ∧ Ab d (B * uu k + tt k) ∧ (T < 2 ^ (fracB k + 1) → leastB k ≤ p → d = 0) := by
  rw [hq] at hB
  have h1 := sgr_ab_inv neg _ _ hB
  obtain ⟨d, hr, d1, d2, d3, d4⟩ := near_rq k neg T p (by unfold Ab at h1; grind)
  refine ⟨sgr neg * d, ?_, ?_, fun a b => by rw [d4 a b]; grind⟩
  · rw [hq, show sgr neg * ((T : Rat) * sc p) + sgr neg * d = sgr neg * (T * sc p + d) by grind]
    exact hr
  · refine sgr_abs neg d _ ?_
    have hu := uu_pos k
    have := Rat.mul_le_mul_of_nonneg_right h1.2 (Rat.le_of_lt hu)
    unfold Ab
    grind
theorem signed_rq (s : Bool) (m u : Nat) : ((signed s m u : Int) : Rat) = sgr s * (m * sc (u : Int)) := by
  unfold signed sgr
  rw [Nat.shiftLeft_eq, sc_nat]
  cases s
  · simp only [Bool.false_eq_true, if_false]
    rw [Rat.intCast_natCast, Rat.natCast_mul]
    grind
  · simp only [if_true]
    rw [Rat.intCast_neg, Rat.intCast_natCast, Rat.natCast_mul]
    grind
theorem natAbs_rq (n : Int) (b : Bool) (h : n ≠ 0 → (b = true ↔ n < 0)) : sgr b * ((n.natAbs : Nat) : Rat) = (n : Rat) := by
  by_cases h0 : n = 0
  · subst h0; show sgr b * 0 = 0; grind
  · by_cases hn : n < 0
    · rw [(h h0).2 hn]
      have e : n = -((n.natAbs : Nat) : Int) := by omega
      conv => rhs; rw [e]
      rw [Rat.intCast_neg, Rat.intCast_natCast]
      unfold sgr
      grind
    · have hb : b = false := by
        cases b
        · rfl
        · exact absurd ((h h0).1 rfl) hn
      subst hb
      have e : n = ((n.natAbs : Nat) : Int) := by omega
      conv => rhs; rw [e]
      rw [Rat.intCast_natCast]
      unfold sgr
      grind
/-- The sum of two numbers. -/
theorem sum_rq {s t : Bool} {m n : Nat} {i j : Int} : ∃ b T p, Datum.sum (.number s m i) (.number t n j) = some (.number b T p) ∧ sgr b * (T * sc p) = sgr s * (m * sc i) + sgr t * (n * sc j) ∧ p = min i j := by
  refine ⟨_, _, _, rfl, ?_, rfl⟩
  generalize hb : min i j = p
  have hi : (((i - p).toNat : Nat) : Int) = i - p := by omega
  have hj : (((j - p).toNat : Nat) : Int) = j - p := by omega
  have e1 := signed_rq s m (i - p).toNat
  have e2 := signed_rq t n (j - p).toNat
  rw [hi] at e1
  rw [hj] at e2
  have e3 : sc i = sc (i - p) * sc p := by rw [← sc_add]; congr 1; omega
  have e4 : sc j = sc (j - p) * sc p := by rw [← sc_add]; congr 1; omega
  have e5 := natAbs_rq (signed s m (i - p).toNat + signed t n (j - p).toNat) (if signed s m (i - p).toNat + signed t n (j - p).toNat = 0 then s && t else decide (signed s m (i - p).toNat + signed t n (j - p).toNat < 0)) (fun h => by rw [if_neg h]; simp)
  rw [show ∀ a b c : Rat, a * (b * c) = a * b * c by intros; grind, e5, Rat.intCast_add, e1, e2, e3, e4]
  grind
theorem RQ.add {k : FloatKind} {x y : Nat} {a b B : Rat} (hx : RQ k x a) (hy : RQ k y b) (hB : Ab (a + b) B) (hs : B < sc (topB k)) :
    ∃ d : Rat, RQ k (fop .add k x y) (a + b + d) ∧ Ab d (B * uu k + tt k) := by
  obtain ⟨s, m, i, h1, rfl⟩ := hx
  obtain ⟨t, n, j, h2, rfl⟩ := hy
  obtain ⟨c, T, p, h3, h4, -⟩ := sum_rq (s := s) (t := t) (m := m) (n := n) (i := i) (j := j)
  obtain ⟨d, r1, r2, -⟩ := write_rq k c T p _ B h4.symm hB hs
  refine ⟨d, ?_, r2⟩
  unfold fop floatBits Format.add
  rw [h1, h2, h3]
  exact r1
theorem RQ.sub {k : FloatKind} {x y : Nat} {a b B : Rat} (hx : RQ k x a) (hy : RQ k y b) (hB : Ab (a - b) B) (hs : B < sc (topB k)) :
    ∃ d : Rat, RQ k (fop .sub k x y) (a - b + d) ∧ Ab d (B * uu k + tt k) := by
  obtain ⟨s, m, i, h1, rfl⟩ := hx
  obtain ⟨t, n, j, h2, rfl⟩ := hy
  obtain ⟨c, T, p, h3, h4, -⟩ := sum_rq (s := s) (t := !t) (m := m) (n := n) (i := i) (j := j)
  rw [sgr_not] at h4
  obtain ⟨d, r1, r2, -⟩ := write_rq k c T p (sgr s * (m * sc i) - sgr t * (n * sc j)) B (by grind) hB hs
  refine ⟨d, ?_, r2⟩
  unfold fop floatBits Format.sub
  rw [h1, h2]
  show RQ k (((Datum.sum (.number s m i) (.number (!t) n j)).map k.format.write).getD (nanC k)) _
  rw [h3]
  exact r1
theorem RQ.mul {k : FloatKind} {x y : Nat} {a b B : Rat} (hx : RQ k x a) (hy : RQ k y b) (hB : Ab (a * b) B) (hs : B < sc (topB k)) :
    ∃ d : Rat, RQ k (fop .mul k x y) (a * b + d) ∧ Ab d (B * uu k + tt k) := by
  obtain ⟨s, m, i, h1, rfl⟩ := hx
  obtain ⟨t, n, j, h2, rfl⟩ := hy
  obtain ⟨d, r1, r2, -⟩ := write_rq k (s ^^ t) (m * n) (i + j) (sgr s * (m * sc i) * (sgr t * (n * sc j))) B (by rw [sgr_xor, sc_add, Rat.natCast_mul]; grind) hB hs
  refine ⟨d, ?_, r2⟩
  unfold fop floatBits Format.mul
  rw [h1, h2]
  exact r1
end Go.Proofs.Ythacadbdncfocaa

/- Rational values of floats: exact results, quotients, roots, comparisons, conversions. -/
namespace Go.Proofs.Ythacadbdncfocaa
open Go Ieee

theorem nearest_by_value (f : Format) (neg : Bool) (T T' : Nat) (p p' : Int) (h : (T : Rat) * sc p = T' * sc p') : f.nearest neg T p = f.nearest neg T' p' := by
  have key : ∀ (T T' : Nat) (p p' : Int), p ≤ p' → (T : Rat) * sc p = T' * sc p' → f.nearest neg T p = f.nearest neg T' p' := by
    intro T T' p p' hp h
    obtain ⟨n, rfl⟩ : ∃ n : Nat, p' = p + n := ⟨(p' - p).toNat, by omega⟩
    have hpp := sc_pos p
    have h2 : (T : Rat) = T' * ((2 ^ n : Nat) : Rat) := by
      rw [sc_add, sc_nat] at h
      have h3 : ((T : Rat) - T' * ((2 ^ n : Nat) : Rat)) * sc p = 0 := by grind
      rcases Rat.mul_eq_zero.1 h3 with h4 | h4
      · grind
      · grind
    have h3 : T = T' * 2 ^ n := by exact_mod_cast h2
    by_cases h0 : T' = 0
    · subst h0
      rw [Nat.zero_mul] at h3
      subst h3
      unfold Format.nearest
      rw [if_pos rfl, if_pos rfl]
    · rw [h3, nearest_scale f neg T' n p h0]
  by_cases hp : p ≤ p'
  · exact key T T' p p' hp h
  · exact (key T' T p' p (by omega) h.symm).symm
theorem le_sc_mul {a b : Rat} (e : Int) (h : a ≤ b) : a * sc e ≤ b * sc e := Rat.mul_le_mul_of_nonneg_right h (Rat.le_of_lt (sc_pos e))
theorem fits_top (k : FloatKind) (z : Nat) (g : Int) (hz : z < 2 ^ (fracB k + 1)) (hg : g ≤ topB k - fracB k - 1) : (z : Rat) * sc g < sc (topB k) := by
  have h1 : (z : Rat) < ((2 ^ (fracB k + 1) : Nat) : Rat) := by exact_mod_cast hz
  rw [← sc_nat] at h1
  have h2 := Rat.mul_lt_mul_of_pos_right h1 (sc_pos g)
  rw [← sc_add] at h2
  have h3 := sc_le (show ((fracB k + 1 : Nat) : Int) + g ≤ topB k by omega)
  grind
/-- A value that the format has. -/
theorem near_exact (k : FloatKind) (neg : Bool) (T : Nat) (p : Int) (z : Nat) (g : Int) (h : (T : Rat) * sc p = z * sc g) (hz : z < 2 ^ (fracB k + 1)) (hg : leastB k ≤ g) (hg2 : g ≤ topB k - fracB k - 1) :
    RQ k (k.format.nearest neg T p) (sgr neg * (z * sc g)) := by
  rw [nearest_by_value _ neg T z p g h]
  obtain ⟨d, hr, -, -, -, h0⟩ := near_rq k neg z g (fits_top k z g hz hg2)
  rw [h0 hz hg] at hr
  rw [show (z : Rat) * sc g = z * sc g + 0 by grind]
  exact hr
/-- Values of some digits: z * 2 ^ g. -/
def Rep (k : FloatKind) (q : Rat) (g : Int) : Prop := ∃ z : Int, q = z * sc g ∧ z.natAbs < 2 ^ (fracB k + 1) ∧ leastB k ≤ g ∧ g ≤ topB k - fracB k - 1
theorem sgr_nat (b : Bool) (T z : Nat) (a c : Rat) (hc : 0 < c) (ha : 0 < a) (zi : Int) (hz : zi.natAbs = z) (h : sgr b * (T * a) = zi * c) : (T : Rat) * a = z * c := by
  have h1 : 0 ≤ (T : Rat) * a := Rat.mul_nonneg (nat_nn T) (Rat.le_of_lt ha)
  have h2 : 0 ≤ (z : Rat) * c := Rat.mul_nonneg (nat_nn z) (Rat.le_of_lt hc)
  have h3 : (zi : Rat) = z ∨ (zi : Rat) = -z := by
    rcases Int.natAbs_eq zi with e | e
    · left; rw [hz] at e; rw [e]; exact Rat.intCast_natCast z
    · right; rw [hz] at e; rw [e, Rat.intCast_neg, Rat.intCast_natCast]
  cases b <;> unfold sgr at h <;> rcases h3 with h3 | h3 <;> rw [h3] at h <;> grind
theorem int_abs (z : Int) : (z : Rat) = z.natAbs ∨ (z : Rat) = -z.natAbs := by
  rcases Int.natAbs_eq z with e | e
  · left; conv => lhs; rw [e]
    exact Rat.intCast_natCast _
  · right; conv => lhs; rw [e]
    rw [Rat.intCast_neg, Rat.intCast_natCast]
theorem sgr_nonneg (b : Bool) (z : Int) (c : Rat) (hc : 0 < c) (h : 0 ≤ sgr b * (z * c)) : sgr b * (z * c) = z.natAbs * c := by
  have hnn : 0 ≤ (z.natAbs : Rat) * c := Rat.mul_nonneg (nat_nn _) (Rat.le_of_lt hc)
  rcases int_abs z with e | e <;> rw [e] at h ⊢ <;> cases b <;> unfold sgr at * <;> grind
theorem write_rep (k : FloatKind) (neg : Bool) (T : Nat) (p : Int) (q : Rat) (g : Int) (hq : q = sgr neg * (T * sc p)) (hr : Rep k q g) : RQ k (k.format.write (.number neg T p)) q := by
  obtain ⟨z, h1, h2, h3, h4⟩ := hr
  have h5 := sgr_nat neg T z.natAbs (sc p) (sc g) (sc_pos g) (sc_pos p) z rfl (by rw [← hq]; exact h1)
  have := near_exact k neg T p z.natAbs g h5 h2 h3 h4
  rw [← h5, ← hq] at this
  exact this
theorem RQ.add_rep {k : FloatKind} {x y : Nat} {a b : Rat} {g : Int} (hx : RQ k x a) (hy : RQ k y b) (h : Rep k (a + b) g) : RQ k (fop .add k x y) (a + b) := by
  obtain ⟨s, m, i, h1, rfl⟩ := hx
  obtain ⟨t, n, j, h2, rfl⟩ := hy
  obtain ⟨c, T, p, h3, h4, -⟩ := sum_rq (s := s) (t := t) (m := m) (n := n) (i := i) (j := j)
  have := write_rep k c T p _ g h4.symm h
  unfold fop floatBits Format.add
  rw [h1, h2, h3]
  exact this
theorem RQ.sub_rep {k : FloatKind} {x y : Nat} {a b : Rat} {g : Int} (hx : RQ k x a) (hy : RQ k y b) (h : Rep k (a - b) g) : RQ k (fop .sub k x y) (a - b) := by
  obtain ⟨s, m, i, h1, rfl⟩ := hx
  obtain ⟨t, n, j, h2, rfl⟩ := hy
  obtain ⟨c, T, p, h3, h4, -⟩ := sum_rq (s := s) (t := !t) (m := m) (n := n) (i := i) (j := j)
  rw [sgr_not] at h4
  have := write_rep k c T p (sgr s * (m * sc i) - sgr t * (n * sc j)) g (by grind) h
  unfold fop floatBits Format.sub
  rw [h1, h2]
  show RQ k (((Datum.sum (.number s m i) (.number (!t) n j)).map k.format.write).getD (nanC k)) _
  rw [h3]
  exact this
theorem RQ.mul_rep {k : FloatKind} {x y : Nat} {a b : Rat} {g : Int} (hx : RQ k x a) (hy : RQ k y b) (h : Rep k (a * b) g) : RQ k (fop .mul k x y) (a * b) := by
  obtain ⟨s, m, i, h1, rfl⟩ := hx
  obtain ⟨t, n, j, h2, rfl⟩ := hy
  have := write_rep k (s ^^ t) (m * n) (i + j) (sgr s * (m * sc i) * (sgr t * (n * sc j))) g (by rw [sgr_xor, sc_add, Rat.natCast_mul]; grind) h
  unfold fop floatBits Format.mul
  rw [h1, h2]
  exact this
theorem RQ.zero_mag {k : FloatKind} {m : Nat} {s : Bool} {e : Int} (h : sgr s * ((m : Rat) * sc e) = 0) : m = 0 := by
  by_cases hm : m = 0
  · exact hm
  · have h1 := Rat.mul_pos (nat_pos hm) (sc_pos e)
    cases s <;> unfold sgr at h <;> grind
/-- The quotient's digits. -/
theorem quo_digits (m n digits : Nat) (hm : m ≠ 0) (hd : 1 ≤ digits) : 2 ^ (digits - 1) * n ≤ m <<< (digits + n.log2 - m.log2) := by
  rw [Nat.shiftLeft_eq]
  have h1 : 2 ^ m.log2 ≤ m := Nat.log2_self_le hm
  have h2 : n < 2 ^ (n.log2 + 1) := Nat.lt_log2_self
  have h3 : 2 ^ m.log2 * 2 ^ (digits + n.log2 - m.log2) ≤ m * 2 ^ (digits + n.log2 - m.log2) := Nat.mul_le_mul_right _ h1
  rw [← Nat.pow_add] at h3
  have h4 : 2 ^ (digits - 1) * n ≤ 2 ^ (digits - 1) * 2 ^ (n.log2 + 1) := Nat.mul_le_mul_left _ (Nat.le_of_lt h2)
  rw [← Nat.pow_add] at h4
  have := Nat.pow_le_pow_right (show 0 < 2 by decide) (show digits - 1 + (n.log2 + 1) ≤ m.log2 + (digits + n.log2 - m.log2) by omega)
  omega
theorem quo_core {n fl re D U Q : Rat} (hn : 0 < n) (h1 : n * fl + re = D) (h2 : D * U = Q * n) (hU : 0 < U) (h0 : 0 ≤ re) (h3 : re < n) : fl * U ≤ Q ∧ Q ≤ fl * U + U ∧ (re = 0 → Q = fl * U) := by
  have h5 : 0 ≤ re * U := Rat.mul_nonneg h0 (Rat.le_of_lt hU)
  have h6 : 0 ≤ (n - re) * U := Rat.mul_nonneg (by grind) (Rat.le_of_lt hU)
  have e : Q * n = fl * U * n + re * U := by grind
  refine ⟨Rat.le_of_mul_le_mul_right (c := n) (by grind) hn, Rat.le_of_mul_le_mul_right (c := n) (by grind) hn, fun h => ?_⟩
  have : (fl * U - Q) * n = 0 := by grind
  rcases Rat.mul_eq_zero.1 this with h | h <;> grind
/-- What the quotient of two numbers is, up to its last digit. -/
theorem quo_mag (m n digits : Nat) (i j : Int) (hm : m ≠ 0) (hn : n ≠ 0) (hd : 1 ≤ digits) (Q : Rat) (hQ : Q * (n * sc j) = m * sc i) :
    ∃ (T : Nat) (p : Int) (r : Rat), Datum.quotient digits (.number false m i) (.number false n j) = some (.number false T p) ∧ T * sc p = Q + r ∧ Ab r (Q * sc (-(digits : Int))) ∧ 0 ≤ Q ∧
      (∀ (z : Nat) (g : Int), Q = z * sc g → z < 2 ^ (digits - 1) → r = 0) ∧ ∀ s t, Datum.quotient digits (.number s m i) (.number t n j) = some (.number (s ^^ t) T p) := by
  have h0 := quo_digits m n digits hm hd
  obtain ⟨more, hmore⟩ : ∃ more, digits + n.log2 - m.log2 = more := ⟨_, rfl⟩
  have hq : ∀ s t, Datum.quotient digits (.number s m i) (.number t n j) = some (.number (s ^^ t) (2 * ((m <<< more) / n) + ((m <<< more) % n != 0).toNat) (i - j - more - 1)) := by
    intro s t
    unfold Datum.quotient
    simp only [if_neg hn, hmore]
  rw [hmore, Nat.shiftLeft_eq] at h0
  rw [Nat.shiftLeft_eq] at hq
  have hnp := nat_pos hn
  have hjp := sc_pos j
  have hQ0 : 0 ≤ Q := by
    have h1 : 0 < (m : Rat) * sc i := Rat.mul_pos (nat_pos hm) (sc_pos i)
    have h2 : 0 < (n : Rat) * sc j := Rat.mul_pos hnp hjp
    by_cases h : 0 ≤ Q
    · exact h
    · have : Q * (n * sc j) < 0 * (n * sc j) := Rat.mul_lt_mul_of_pos_right (by grind) h2
      grind
  -- D = Q n in units of U
  obtain ⟨U, hU⟩ : ∃ U, sc (i - j - (more : Int)) = U := ⟨_, rfl⟩
  have hUp : 0 < U := by rw [← hU]; exact sc_pos _
  have hD : ((m * 2 ^ more : Nat) : Rat) * U = Q * n := by
    have e1 : sc i = sc (more : Int) * U * sc j := by rw [← hU, ← sc_add, ← sc_add]; congr 1; omega
    rw [e1] at hQ
    rw [Rat.natCast_mul, ← sc_nat]
    have : ((m : Rat) * sc (more : Int) * U - Q * n) * sc j = 0 := by grind
    rcases Rat.mul_eq_zero.1 this with h | h
    · grind
    · grind
  have hdm := Nat.div_add_mod (m * 2 ^ more) n
  have hml := Nat.mod_lt (m * 2 ^ more) (show 0 < n by omega)
  have hdig : sc ((digits - 1 : Nat) : Int) * U ≤ Q := by
    have c : ((2 ^ (digits - 1) : Nat) : Rat) * n ≤ ((m * 2 ^ more : Nat) : Rat) := by exact_mod_cast h0
    rw [← sc_nat] at c
    have c2 := Rat.mul_le_mul_of_nonneg_right c (Rat.le_of_lt hUp)
    rw [hD] at c2
    have c3 : (sc ((digits - 1 : Nat) : Int) * U) * n ≤ Q * n := by grind
    exact Rat.le_of_mul_le_mul_right c3 hnp
  generalize m * 2 ^ more = D at *
  obtain ⟨fl, hfl⟩ : ∃ fl, D / n = fl := ⟨_, rfl⟩
  obtain ⟨re, hre⟩ : ∃ re, D % n = re := ⟨_, rfl⟩
  rw [hfl, hre] at hdm hq
  rw [hre] at hml
  have hdmr : (n : Rat) * fl + re = D := by exact_mod_cast hdm
  have hmlr : (re : Rat) < n := by exact_mod_cast hml
  have hrn := nat_nn re
  obtain ⟨st, hst⟩ : ∃ st : Nat, (re != 0).toNat = st := ⟨_, rfl⟩
  rw [hst] at hq
  -- the error
  have hp2 : sc (i - j - (more : Int) - 1) * 2 = U := by
    rw [← hU, show i - j - (more : Int) = (i - j - (more : Int) - 1) + 1 by omega, sc_add (i - j - (more : Int) - 1) 1, show i - j - (more : Int) - 1 + 1 - 1 = i - j - (more : Int) - 1 by omega, show sc 1 = 2 from Rat.zpow_one _]
  have herr : ∃ r : Rat, ((2 * fl + st : Nat) : Rat) * sc (i - j - (more : Int) - 1) = Q + r ∧ -(U * (1/2)) ≤ r ∧ r ≤ U * (1/2) ∧ (re = 0 → r = 0) := by
    obtain ⟨c1, c2, c3⟩ := quo_core hnp hdmr hD hUp hrn hmlr
    have hs : (re = 0 ∧ st = 0) ∨ (re ≠ 0 ∧ st = 1) := by
      by_cases hz : re = 0
      · exact .inl ⟨hz, by rw [← hst, hz]; rfl⟩
      · exact .inr ⟨hz, by rw [← hst]; simp [hz]⟩
    have hrz : re = 0 → (re : Rat) = 0 := fun h => by rw [h]; rfl
    rw [Rat.natCast_add, Rat.natCast_mul, show ((2 : Nat) : Rat) = 2 from rfl]
    clear hst hfl hre hdm hml hdmr hmlr h0 hq hdig hD hQ hmore
    generalize sc (i - j - (more : Int) - 1) = V at *
    rcases hs with ⟨hz, rfl⟩ | ⟨hz, rfl⟩
    · have c4 := c3 (hrz hz)
      rw [show ((0 : Nat) : Rat) = 0 from rfl]
      exact ⟨0, by grind, by grind, by grind, fun _ => rfl⟩
    · rw [show ((1 : Nat) : Rat) = 1 from rfl]
      have e : (2 * (fl : Rat) + 1) * V = fl * U + U * (1 / 2) := by grind
      clear hrz c3 hU
      exact ⟨(2 * (fl : Rat) + 1) * V - Q, by grind, by rw [e]; grind, by rw [e]; grind, fun h => absurd h hz⟩
  obtain ⟨r, hr1, hr2, hr3, hr4⟩ := herr
  refine ⟨_, _, r, hq false false, hr1, ?_, hQ0, ?_, hq⟩
  · have h5 := Rat.mul_le_mul_of_nonneg_right hdig (Rat.le_of_lt (sc_pos (-(digits : Int))))
    have e : sc ((digits - 1 : Nat) : Int) * sc (-(digits : Int)) = 1 / 2 := by
      rw [← sc_add, show ((digits - 1 : Nat) : Int) + -(digits : Int) = -1 by omega]
      decide +kernel
    have e2 : sc ((digits - 1 : Nat) : Int) * U * sc (-(digits : Int)) = U * (1 / 2) := by grind
    rw [e2] at h5
    unfold Ab
    clear e e2 hq hdm hfl hre hml hdmr hmlr hst h0 hmore
    generalize Q * sc (-(digits : Int)) = X at *
    exact ⟨by grind, by grind⟩
  · intro z g hz hzl
    apply hr4
    have hzU : sc ((digits - 1 : Nat) : Int) * U ≤ z * sc g := by rw [← hz]; exact hdig
    have hgu : i - j - (more : Int) < g := by
      apply sc_lt_inv
      rw [hU]
      by_cases hc : U < sc g
      · exact hc
      · exfalso
        have h6 : sc g ≤ U := by grind
        have h7 : (z : Rat) < sc ((digits - 1 : Nat) : Int) := by rw [sc_nat]; exact_mod_cast hzl
        have h8 := Rat.mul_lt_mul_of_pos_right h7 hUp
        have h9 := Rat.mul_le_mul_of_nonneg_left h6 (nat_nn z)
        grind
    obtain ⟨v, hv⟩ : ∃ v : Nat, g = (i - j - (more : Int)) + v := ⟨(g - (i - j - (more : Int))).toNat, by omega⟩
    rw [hv, sc_add, hU, sc_nat] at hz
    have h10 : (((z * 2 ^ v * n : Nat) : Rat) - (D : Nat)) * U = 0 := by
      rw [Rat.natCast_mul, Rat.natCast_mul]
      grind
    rcases Rat.mul_eq_zero.1 h10 with h | h
    · have h11 : ((z * 2 ^ v * n : Nat) : Rat) = (D : Nat) := by grind
      have h12 : z * 2 ^ v * n = D := by exact_mod_cast h11
      rw [← hre, ← h12, Nat.mul_mod_left]
    · grind
theorem quo_zero (s t : Bool) (n digits : Nat) (i j : Int) (hn : n ≠ 0) : ∃ p, Datum.quotient digits (.number s 0 i) (.number t n j) = some (.number (s ^^ t) 0 p) := by
  unfold Datum.quotient
  simp only [if_neg hn, Nat.zero_shiftLeft, Nat.zero_div, Nat.zero_mod]
  exact ⟨_, rfl⟩
theorem sgr_sq (s : Bool) : sgr s * sgr s = 1 := by cases s <;> decide +kernel
theorem RQ.quo {k : FloatKind} {x y : Nat} {a b q B : Rat} (hx : RQ k x a) (hy : RQ k y b) (hb : b ≠ 0) (hq : q * b = a) (hB : Ab q B) (hs : B + B < sc (topB k)) :
    ∃ d : Rat, RQ k (fop .quo k x y) (q + d) ∧ Ab d (B * (2 * uu k) + tt k) := by
  obtain ⟨s, m, i, h1, rfl⟩ := hx
  obtain ⟨t, n, j, h2, rfl⟩ := hy
  have hn : n ≠ 0 := by
    rintro rfl
    apply hb
    rw [show ((0 : Nat) : Rat) = 0 from rfl]
    grind
  have hB0 : 0 ≤ B := by unfold Ab at hB; grind
  have hu := uu_pos k
  have ht := tt_pos k
  have hform : fop .quo k x y = ((Datum.quotient (fracB k + 2) (.number s m i) (.number t n j)).map k.format.write).getD (nanC k) := by
    unfold fop floatBits Format.div
    rw [h1, h2, fracB_eq]
  rw [hform]
  by_cases hm : m = 0
  · subst hm
    obtain ⟨p, hp⟩ := quo_zero s t n (fracB k + 2) i j hn
    have hq0 : q = 0 := by
      rw [show ((0 : Nat) : Rat) = 0 from rfl] at hq
      have h3 : q * (sgr t * ((n : Rat) * sc j)) = 0 := by grind
      rcases Rat.mul_eq_zero.1 h3 with h | h
      · exact h
      · exact absurd h hb
    obtain ⟨d, r1, r2, -⟩ := write_rq k (s ^^ t) 0 p q B (by rw [hq0, show ((0 : Nat) : Rat) = 0 from rfl]; grind) hB (by grind)
    refine ⟨d, ?_, ?_⟩
    · rw [hp]; exact r1
    · have := Rat.mul_nonneg hB0 (Rat.le_of_lt hu)
      exact r2.mono (by grind)
  · have hst := sgr_sq s
    have htt := sgr_sq t
    obtain ⟨T, p, r, -, h3, h4, h5, -, h7⟩ := quo_mag m n (fracB k + 2) i j hm hn (by omega) (sgr s * sgr t * q) (by
      have h8 : sgr s * sgr t * q * (n * sc j) = sgr s * (q * (sgr t * (n * sc j))) := by grind
      rw [h8, hq]
      grind)
    have hqB : sgr s * sgr t * q ≤ B := by
      rw [← sgr_xor]
      exact (sgr_abs (s ^^ t) q B hB).2
    have e1 : sc (-((fracB k + 2 : Nat) : Int)) = uu k * (1 / 2) := by
      unfold uu
      rw [show -((fracB k + 2 : Nat) : Int) = (-(fracB k : Int) - 1) + -1 by omega, sc_add, show sc (-1) = 1 / 2 by decide +kernel]
    rw [e1] at h4
    have hu1 : uu k ≤ 1 / 1024 := by cases k <;> decide +kernel
    have hBu := Rat.mul_nonneg hB0 (Rat.le_of_lt hu)
    have hBu2 := Rat.mul_le_mul_of_nonneg_left hu1 hBu
    have hQu := Rat.mul_le_mul_of_nonneg_right hqB (Rat.le_of_lt hu)
    have hBu3 := Rat.mul_le_mul_of_nonneg_left hu1 hB0
    obtain ⟨d, r1, r2, -⟩ := write_rq k (s ^^ t) T p (sgr (s ^^ t) * (sgr s * sgr t * q + r)) (B + B * (uu k * (1 / 2))) (by rw [h3]) (sgr_abs _ _ _ (by unfold Ab at *; grind)) (by grind)
    refine ⟨sgr (s ^^ t) * r + d, ?_, ?_⟩
    · rw [h7]
      rw [show q + (sgr (s ^^ t) * r + d) = sgr (s ^^ t) * (sgr s * sgr t * q + r) + d by
        rw [sgr_xor]
        have : sgr s * sgr t * (sgr s * sgr t * q) = (sgr s * sgr s) * (sgr t * sgr t) * q := by grind
        grind]
      exact r1
    · have h8 := sgr_abs (s ^^ t) r _ h4
      unfold Ab at *
      grind
theorem RQ.quo_rep {k : FloatKind} {x y : Nat} {a b q : Rat} {g : Int} (hx : RQ k x a) (hy : RQ k y b) (hb : b ≠ 0) (hq : q * b = a) (hr : Rep k q g) : RQ k (fop .quo k x y) q := by
  obtain ⟨s, m, i, h1, rfl⟩ := hx
  obtain ⟨t, n, j, h2, rfl⟩ := hy
  have hn : n ≠ 0 := by
    rintro rfl
    apply hb
    rw [show ((0 : Nat) : Rat) = 0 from rfl]
    grind
  have hform : fop .quo k x y = ((Datum.quotient (fracB k + 2) (.number s m i) (.number t n j)).map k.format.write).getD (nanC k) := by
    unfold fop floatBits Format.div
    rw [h1, h2, fracB_eq]
  rw [hform]
  by_cases hm : m = 0
  · subst hm
    obtain ⟨p, hp⟩ := quo_zero s t n (fracB k + 2) i j hn
    have hq0 : q = 0 := by
      rw [show ((0 : Nat) : Rat) = 0 from rfl] at hq
      have h3 : q * (sgr t * ((n : Rat) * sc j)) = 0 := by grind
      rcases Rat.mul_eq_zero.1 h3 with h | h
      · exact h
      · exact absurd h hb
    rw [hp]
    exact write_rep k (s ^^ t) 0 p q g (by rw [hq0, show ((0 : Nat) : Rat) = 0 from rfl]; grind) hr
  · have hst := sgr_sq s
    have htt := sgr_sq t
    obtain ⟨T, p, r, -, h3, -, h5, h6, h7⟩ := quo_mag m n (fracB k + 2) i j hm hn (by omega) (sgr s * sgr t * q) (by
      have h8 : sgr s * sgr t * q * (n * sc j) = sgr s * (q * (sgr t * (n * sc j))) := by grind
      rw [h8, hq]
      grind)
    have hr2 := hr
    obtain ⟨z, z1, z2, z3, z4⟩ := hr
    have hr0 : r = 0 := h6 z.natAbs g (by
      rw [z1]
      rw [z1] at h5
      rw [← sgr_xor] at h5 ⊢
      exact sgr_nonneg (s ^^ t) z (sc g) (sc_pos g) h5) (by simpa using z2)
    rw [h7]
    exact write_rep k (s ^^ t) T p q g (by
      rw [h3, hr0, sgr_xor]
      have : sgr s * sgr t * (sgr s * sgr t * q) = (sgr s * sgr s) * (sgr t * sgr t) * q := by grind
      grind) hr2
end Go.Proofs.Ythacadbdncfocaa

/- Rational values of floats: roots, comparisons, conversions, whole parts. -/
namespace Go.Proofs.Ythacadbdncfocaa
open Go Ieee

theorem rootFrom_is (n : Nat) : ∀ todo root, root * root ≤ n → n < (root + 2 ^ todo) * (root + 2 ^ todo) → Datum.rootFrom n todo root * Datum.rootFrom n todo root ≤ n ∧ n < (Datum.rootFrom n todo root + 1) * (Datum.rootFrom n todo root + 1)
  | 0, root, h1, h2 => ⟨h1, by show n < (root + 1) * (root + 1); simpa using h2⟩
  | todo + 1, root, h1, h2 => by
    unfold Datum.rootFrom
    have e : 1 <<< todo = 2 ^ todo := by rw [Nat.shiftLeft_eq, Nat.one_mul]
    simp only [e]
    split
    · refine rootFrom_is n todo _ (by assumption) ?_
      rw [show root + 2 ^ todo + 2 ^ todo = root + 2 ^ (todo + 1) by rw [Nat.pow_succ]; omega]
      exact h2
    · refine rootFrom_is n todo _ h1 ?_
      omega
theorem root_bounds (n : Nat) : Datum.rootFrom n (n.log2 / 2 + 1) 0 * Datum.rootFrom n (n.log2 / 2 + 1) 0 ≤ n ∧ n < (Datum.rootFrom n (n.log2 / 2 + 1) 0 + 1) * (Datum.rootFrom n (n.log2 / 2 + 1) 0 + 1) := by
  refine rootFrom_is n _ 0 (by omega) ?_
  rw [Nat.zero_add, ← Nat.pow_add]
  have h1 : n < 2 ^ (n.log2 + 1) := Nat.lt_log2_self
  have h2 := Nat.pow_le_pow_right (show 0 < 2 by decide) (show n.log2 + 1 ≤ n.log2 / 2 + 1 + (n.log2 / 2 + 1) by omega)
  omega
theorem sq_le {a b : Rat} (hb : 0 ≤ b) (h : a * a ≤ b * b) : a ≤ b := by
  by_cases hc : a ≤ b
  · exact hc
  · exfalso
    have h3 : b < a := by grind
    have h4 : b * b ≤ b * a := Rat.mul_le_mul_of_nonneg_left (by grind) hb
    have h5 : b * a < a * a := Rat.mul_lt_mul_of_pos_right h3 (by grind)
    grind
theorem sq_lt {a b : Rat} (hb : 0 ≤ b) (h : a * a < b * b) : a < b := by
  by_cases hc : a < b
  · exact hc
  · exfalso
    have h4 : b * b ≤ b * a := Rat.mul_le_mul_of_nonneg_left (by grind) hb
    have h5 : b * a ≤ a * a := Rat.mul_le_mul_of_nonneg_right (by grind) (by grind)
    grind
theorem sq_mono {a b : Rat} (ha : 0 ≤ a) (h : a ≤ b) : a * a ≤ b * b := by
  have h4 : a * a ≤ a * b := Rat.mul_le_mul_of_nonneg_left h ha
  have h5 : a * b ≤ b * b := Rat.mul_le_mul_of_nonneg_right h (by grind)
  grind
/-- The root of a number, up to its last digit. -/
theorem root_mag (m digits : Nat) (i : Int) (hm : m ≠ 0) : ∃ (T : Nat) (p : Int) (c : Rat), Datum.root digits (.number false m i) = some (.number false T p) ∧ (T * sc p) * (T * sc p) = m * sc i + c ∧ Ab c (m * sc i * sc (1 - (digits : Int))) ∧ sc (digits : Int) * sc (p + 1) ≤ T * sc p ∧ i - 2 * digits - 2 ≤ 2 * (p + 1) ∧
    ∀ (z : Nat) (g : Int), (z * sc g) * (z * sc g) = m * sc i → z < 2 ^ digits → T * sc p = z * sc g := by
  unfold Datum.root
  simp only [if_neg hm, Bool.false_eq_true, if_false]
  obtain ⟨more, hmore⟩ : ∃ more : Nat, 2 * digits - m.log2 + ((i - ((2 * digits - m.log2 : Nat) : Int)) % 2).toNat = more := ⟨_, rfl⟩
  have hge : 2 * digits ≤ m.log2 + more := by omega
  have hmore2 : more ≤ 2 * digits + 1 := by omega
  obtain ⟨h, hh⟩ : ∃ h : Int, i - (more : Int) = 2 * h := ⟨(i - (more : Int)) / 2, by omega⟩
  rw [hmore, hh, show 2 * h / 2 = h by omega]
  have hN1 : 2 ^ (2 * digits) ≤ m <<< more := by
    rw [Nat.shiftLeft_eq]
    have h1 : 2 ^ m.log2 ≤ m := Nat.log2_self_le hm
    have h2 := Nat.mul_le_mul_right (2 ^ more) h1
    rw [← Nat.pow_add] at h2
    have h3 := Nat.pow_le_pow_right (show 0 < 2 by decide) hge
    omega
  have hNv : ((m <<< more : Nat) : Rat) * (sc h * sc h) = m * sc i := by
    rw [Nat.shiftLeft_eq, Rat.natCast_mul, ← sc_nat, ← sc_add]
    rw [show (m : Rat) * sc (more : Int) * sc (h + h) = m * (sc (more : Int) * sc (h + h)) by grind, ← sc_add]
    congr 2; omega
  obtain ⟨r1, r2⟩ := root_bounds (m <<< more)
  generalize m <<< more = N at *
  generalize Datum.rootFrom N (N.log2 / 2 + 1) 0 = w at *
  have hw : 2 ^ digits ≤ w := by
    by_cases hc : 2 ^ digits ≤ w
    · exact hc
    · exfalso
      have h1 : w + 1 ≤ 2 ^ digits := by omega
      have h2 := Nat.mul_le_mul h1 h1
      rw [← Nat.pow_add, show digits + digits = 2 * digits by omega] at h2
      omega
  have hp := sc_pos h
  have hp2 : sc (h - 1) * 2 = sc h := by
    rw [show h = (h - 1) + 1 by omega, sc_add (h - 1) 1, show h - 1 + 1 - 1 = h - 1 by omega, show sc 1 = 2 from Rat.zpow_one _]
  have c1 : (w : Rat) * w ≤ N := by exact_mod_cast r1
  have c2 : (N : Rat) < ((w : Rat) + 1) * ((w : Rat) + 1) := by exact_mod_cast r2
  have c3 : sc (digits : Int) ≤ w := by rw [sc_nat]; exact_mod_cast hw
  have hd1 := one_le_sc digits
  obtain ⟨st, hst⟩ : ∃ st : Nat, (w * w != N).toNat = st := ⟨_, rfl⟩
  have hs : ((N : Rat) = w * w ∧ st = 0) ∨ ((w : Rat) * w + 1 ≤ N ∧ st = 1) := by
    by_cases hz : w * w = N
    · exact .inl ⟨by exact_mod_cast hz.symm, by rw [← hst]; simp [hz]⟩
    · refine .inr ⟨?_, by rw [← hst]; simp [hz]⟩
      have : w * w + 1 ≤ N := by omega
      exact_mod_cast this
  rw [hst]
  have hTv : ((2 * w + st : Nat) : Rat) * sc (h - 1) = (w + (st : Rat) * (1 / 2)) * sc h := by
    rw [Rat.natCast_add, Rat.natCast_mul, show ((2 : Nat) : Rat) = 2 from rfl]
    grind
  have hst01 : 0 ≤ (st : Rat) := nat_nn st
  obtain ⟨S, hS⟩ : ∃ S, sc h * sc h = S := ⟨_, rfl⟩
  have hSp : 0 < S := by rw [← hS]; exact Rat.mul_pos hp hp
  refine ⟨2 * w + st, h - 1, ((2 * w + st : Nat) : Rat) * sc (h - 1) * (((2 * w + st : Nat) : Rat) * sc (h - 1)) - m * sc i, rfl, by grind, ?_, ?_, by omega, ?_⟩
  · rw [hTv, ← hNv]
    have e1 : (w + (st : Rat) * (1 / 2)) * sc h * ((w + (st : Rat) * (1 / 2)) * sc h) - N * (sc h * sc h) = ((w + (st : Rat) * (1 / 2)) * (w + (st : Rat) * (1 / 2)) - N) * (sc h * sc h) := by grind
    rw [e1, hS]
    -- the size of the error
    have hA : Ab ((w + (st : Rat) * (1 / 2)) * (w + (st : Rat) * (1 / 2)) - N) (2 * w) := by
      have hw1 : (1 : Rat) ≤ w := by grind
      rcases hs with ⟨h1, rfl⟩ | ⟨h1, rfl⟩
      · rw [show ((0 : Nat) : Rat) = 0 from rfl]
        rw [h1]
        unfold Ab
        grind
      · rw [show ((1 : Nat) : Rat) = 1 from rfl]
        have e2 : ((w : Rat) + 1 * (1 / 2)) * (w + 1 * (1 / 2)) = w * w + w + 1 / 4 := by grind
        have e3 : ((w : Rat) + 1) * ((w : Rat) + 1) = w * w + 2 * w + 1 := by grind
        rw [e3] at c2
        rw [e2]
        unfold Ab
        grind
    have hw2 : 2 * (w : Rat) ≤ N * sc (1 - (digits : Int)) := by
      have hw0 : (0 : Rat) ≤ w := nat_nn w
      have h5 : sc (digits : Int) * w ≤ w * w := Rat.mul_le_mul_of_nonneg_right c3 hw0
      have h6 : sc (digits : Int) * w ≤ N := by grind
      have h7 := Rat.mul_le_mul_of_nonneg_right h6 (Rat.le_of_lt (sc_pos (1 - (digits : Int))))
      have e : sc (digits : Int) * sc (1 - (digits : Int)) = 2 := by
        rw [← sc_add, show (digits : Int) + (1 - (digits : Int)) = 1 by omega]
        exact Rat.zpow_one _
      have e2 : sc (digits : Int) * w * sc (1 - (digits : Int)) = 2 * w := by grind
      rw [e2] at h7
      exact h7
    have hB := hA.mono hw2
    unfold Ab at hB ⊢
    have h8 := Rat.mul_le_mul_of_nonneg_right hB.1 (Rat.le_of_lt hSp)
    have h9 := Rat.mul_le_mul_of_nonneg_right hB.2 (Rat.le_of_lt hSp)
    have e4 : (N : Rat) * S * sc (1 - (digits : Int)) = N * sc (1 - (digits : Int)) * S := by grind
    rw [e4]
    exact ⟨by grind, h9⟩
  · rw [hTv, show h - 1 + 1 = h by omega]
    exact Rat.mul_le_mul_of_nonneg_right (by grind) (Rat.le_of_lt hp)
  · intro z g hz hzl
    have hzr : (z : Rat) < sc (digits : Int) := by rw [sc_nat]; exact_mod_cast hzl
    -- z * 2^g is a whole number of units
    have hgh : h < g := by
      apply sc_lt_inv
      by_cases hc : sc h < sc g
      · exact hc
      · exfalso
        have h6 : sc g ≤ sc h := by grind
        have h7 : (z : Rat) * sc g ≤ z * sc h := Rat.mul_le_mul_of_nonneg_left h6 (nat_nn z)
        have h8 : (z : Rat) * sc h < sc (digits : Int) * sc h := Rat.mul_lt_mul_of_pos_right hzr hp
        have h9 : sc (digits : Int) * sc h ≤ w * sc h := Rat.mul_le_mul_of_nonneg_right c3 (Rat.le_of_lt hp)
        have hzn : 0 ≤ (z : Rat) * sc g := Rat.mul_nonneg (nat_nn z) (Rat.le_of_lt (sc_pos g))
        have h10 : (z : Rat) * sc g < w * sc h := by grind
        have h11 : ((z : Rat) * sc g) * ((z : Rat) * sc g) < (w * sc h) * (w * sc h) := by
          by_cases hcc : ((z : Rat) * sc g) * ((z : Rat) * sc g) < (w * sc h) * (w * sc h)
          · exact hcc
          · have := sq_le hzn (show ((w : Rat) * sc h) * (w * sc h) ≤ ((z : Rat) * sc g) * ((z : Rat) * sc g) by grind)
            grind
        have h12 := Rat.mul_le_mul_of_nonneg_right c1 (Rat.le_of_lt hSp)
        have e5 : (w : Rat) * sc h * (w * sc h) = w * w * S := by grind
        grind
    obtain ⟨v, hv⟩ : ∃ v : Nat, g = h + v := ⟨(g - h).toNat, by omega⟩
    rw [hv, sc_add, sc_nat] at hz ⊢
    have h13 : (((z * 2 ^ v * (z * 2 ^ v) : Nat) : Rat) - N) * S = 0 := by
      rw [Rat.natCast_mul, Rat.natCast_mul, ← hS]
      grind
    have h14 : z * 2 ^ v * (z * 2 ^ v) = N := by
      rcases Rat.mul_eq_zero.1 h13 with h | h
      · have h15 : ((z * 2 ^ v * (z * 2 ^ v) : Nat) : Rat) = (N : Nat) := by grind
        exact_mod_cast h15
      · grind
    have h16 : w = z * 2 ^ v := by
      have a1 : w ≤ z * 2 ^ v := by
        by_cases hc : w ≤ z * 2 ^ v
        · exact hc
        · have := Nat.mul_le_mul (show z * 2 ^ v + 1 ≤ w by omega) (show z * 2 ^ v + 1 ≤ w by omega)
          rw [Nat.add_mul, Nat.mul_add] at this
          omega
      have a2 : z * 2 ^ v < w + 1 := by
        by_cases hc : z * 2 ^ v < w + 1
        · exact hc
        · have := Nat.mul_le_mul (show w + 1 ≤ z * 2 ^ v by omega) (show w + 1 ≤ z * 2 ^ v by omega)
          omega
      omega
    have h17 : st = 0 := by rw [← hst, h16, h14]; simp
    rw [hTv, h17, h16, Rat.natCast_mul, show ((0 : Nat) : Rat) = 0 from rfl]
    grind
end Go.Proofs.Ythacadbdncfocaa

/- Rational values of floats: comparisons, conversions, roots of 64 bits, whole parts. -/
namespace Go.Proofs.Ythacadbdncfocaa
open Go Ieee

theorem scale_lt {A C : Int} {c : Rat} (hc : 0 < c) : ((A : Rat) * c < C * c) ↔ A < C := by
  constructor
  · intro h
    have : (A : Rat) < C := by
      by_cases h2 : (A : Rat) < C
      · exact h2
      · have := Rat.mul_le_mul_of_nonneg_right (show (C : Rat) ≤ A by grind) (Rat.le_of_lt hc)
        grind
    exact_mod_cast this
  · intro h
    have : (A : Rat) < C := by exact_mod_cast h
    exact Rat.mul_lt_mul_of_pos_right this hc
theorem scale_eq {A C : Int} {c : Rat} (hc : 0 < c) : ((A : Rat) * c = C * c) ↔ A = C := by
  constructor
  · intro h
    have h3 : ((A : Rat) - C) * c = 0 := by grind
    rcases Rat.mul_eq_zero.1 h3 with h | h
    · have : (A : Rat) = C := by grind
      exact_mod_cast this
    · grind
  · rintro rfl; rfl
theorem RQ.order {k : FloatKind} {x y : Nat} {a b : Rat} (hx : RQ k x a) (hy : RQ k y b) : k.format.order x y = some (if a < b then .lt else if a = b then .eq else .gt) := by
  obtain ⟨s, m, i, h1, rfl⟩ := hx
  obtain ⟨t, n, j, h2, rfl⟩ := hy
  unfold Format.order
  rw [h1, h2]
  show some (compare (signed s m (i - min i j).toNat) (signed t n (j - min i j).toNat)) = _
  generalize hb : min i j = p
  have hi : (((i - p).toNat : Nat) : Int) = i - p := by omega
  have hj : (((j - p).toNat : Nat) : Int) = j - p := by omega
  have e1 := signed_rq s m (i - p).toNat
  have e2 := signed_rq t n (j - p).toNat
  rw [hi] at e1
  rw [hj] at e2
  have e3 : sc i = sc (i - p) * sc p := by rw [← sc_add]; congr 1; omega
  have e4 : sc j = sc (j - p) * sc p := by rw [← sc_add]; congr 1; omega
  have hp := sc_pos p
  have f1 : sgr s * ((m : Rat) * sc i) = ((signed s m (i - p).toNat : Int) : Rat) * sc p := by rw [e1, e3]; grind
  have f2 : sgr t * ((n : Rat) * sc j) = ((signed t n (j - p).toNat : Int) : Rat) * sc p := by rw [e2, e4]; grind
  rw [f1, f2]
  generalize signed s m (i - p).toNat = A
  generalize signed t n (j - p).toNat = C
  congr 1
  by_cases c1 : A < C
  · rw [if_pos ((scale_lt hp).2 c1)]
    exact Int.compare_eq_lt.2 c1
  · rw [if_neg (fun h => c1 ((scale_lt hp).1 h))]
    by_cases c2 : A = C
    · rw [if_pos ((scale_eq hp).2 c2)]
      exact Int.compare_eq_eq.2 c2
    · rw [if_neg (fun h => c2 ((scale_eq hp).1 h))]
      exact Int.compare_eq_gt.2 (by omega)
theorem RQ.fin {k : FloatKind} {x : Nat} {a : Rat} (h : RQ k x a) : fin k x = true := by
  obtain ⟨s, m, e, h1, -⟩ := h
  unfold Proofs.Ythacadbdncfocaa.fin FloatKind.decode
  rw [h1]
theorem RQ.of_fin {k : FloatKind} {x : Nat} (h : Proofs.Ythacadbdncfocaa.fin k x = true) : ∃ a, RQ k x a := by
  unfold Proofs.Ythacadbdncfocaa.fin FloatKind.decode at h
  cases hr : k.format.read x with
  | number s m e => exact ⟨_, s, m, e, hr, rfl⟩
  | infinity s => rw [hr] at h; cases h
  | nan s t => rw [hr] at h; cases h
theorem RQ.wide {x : Nat} {q : Rat} (h : RQ .f32 x q) : RQ .f64 (cwide x) q := by
  have hn := h.notNan
  obtain ⟨s, m, e, h1, rfl⟩ := h
  obtain ⟨hm, he, he2⟩ := read_bounds32 x h1
  unfold cwide
  rw [if_neg (by rw [hn]; decide)]
  unfold FloatKind.encode FloatKind.decode
  rw [show FloatKind.f32.format.read x = .number s m e from h1]
  refine write_rep .f64 s m e _ e rfl ⟨if s then -(m : Int) else (m : Int), ?_, ?_, ?_, ?_⟩
  · cases s
    · simp only [Bool.false_eq_true, if_false, sgr, Rat.intCast_natCast]; grind
    · simp only [if_true, sgr, Rat.intCast_neg, Rat.intCast_natCast]; grind
  · have : (if s = true then -(m : Int) else (m : Int)).natAbs = m := by cases s <;> simp
    rw [this]
    have : fracB .f64 = 52 := rfl
    rw [this]
    omega
  · have : leastB .f64 = -1074 := rfl
    omega
  · have : topB .f64 = 1023 := rfl
    have : fracB .f64 = 52 := rfl
    omega
theorem narrow_ok {y : Nat} {s : Bool} {m : Nat} {e : Int} {q : Rat} (h1 : FloatKind.f64.format.read y = .number s m e) (h : RQ .f32 (FloatKind.f32.format.write (.number s m e)) q) : nrwOk y = true := by
  obtain ⟨s', m', e', h2, -⟩ := h
  unfold nrwOk FloatKind.decode FloatKind.encode
  rw [h1]
  show (!(FloatKind.f32.format.read (FloatKind.f32.format.write (.number s m e))).isInfinity) = true
  rw [h2]
  rfl
theorem RQ.narrow {y : Nat} {q B : Rat} (h : RQ .f64 y q) (hB : Ab q B) (hs : B < sc 127) : ∃ d, RQ .f32 (nrw y) (q + d) ∧ Ab d (B * uu .f32 + tt .f32) ∧ nrwOk y = true := by
  obtain ⟨s, m, e, h1, rfl⟩ := h
  obtain ⟨d, r1, r2, -⟩ := write_rq .f32 s m e _ B rfl hB hs
  refine ⟨d, ?_, r2, narrow_ok h1 r1⟩
  unfold nrw FloatKind.encode FloatKind.decode
  rw [h1]
  exact r1
theorem RQ.narrow_rep {y : Nat} {q : Rat} {g : Int} (h : RQ .f64 y q) (hr : Rep .f32 q g) : RQ .f32 (nrw y) q ∧ nrwOk y = true := by
  obtain ⟨s, m, e, h1, rfl⟩ := h
  have r1 := write_rep .f32 s m e _ g rfl hr
  refine ⟨?_, narrow_ok h1 r1⟩
  unfold nrw FloatKind.encode FloatKind.decode
  rw [h1]
  exact r1
theorem RQ.ofInt (k : FloatKind) (n : Int) (h : n.natAbs < 2 ^ (fracB k + 1)) : RQ k (floatOfInt k n) n := by
  have h0 : sgr (decide (n < 0)) * ((n.natAbs : Nat) : Rat) = (n : Rat) := natAbs_rq n _ fun _ => by simp
  refine write_rep k _ _ 0 _ 0 (by rw [sc_zero]; grind) ⟨n, by rw [sc_zero]; grind, h, by cases k <;> decide, by cases k <;> decide⟩
theorem read_place {f : Format} {x : Nat} {s : Bool} {m : Nat} {e : Int} (h : f.read x = .number s m e) : f.leastPlace ≤ e := by
  unfold Format.read at h
  dsimp only at h
  split at h
  · cases h; exact Int.le_refl _
  · split at h
    · cases h; omega
    · split at h <;> cases h
theorem RQ.sqrt {x : Nat} {q : Rat} (hx : RQ .f64 x q) (hq : 0 ≤ q) (hs : q < sc 1000) : ∃ y, RQ .f64 (sqr x) y ∧ (FloatKind.f64.format.sqrt x).isSome = true ∧ 0 ≤ y ∧ Ab (y * y - q) (q * (8 * uu .f64)) := by
  obtain ⟨s, m, i, h1, rfl⟩ := hx
  have hform : FloatKind.f64.format.sqrt x = (Datum.root 54 (.number s m i)).map FloatKind.f64.format.write := by
    unfold Format.sqrt
    rw [h1]
    rfl
  unfold sqr
  rw [hform]
  by_cases hm : m = 0
  · subst hm
    have e : Datum.root 54 (.number s 0 i) = some (.number s 0 i) := by unfold Datum.root; simp
    rw [e]
    have h0 : sgr s * (((0 : Nat) : Rat) * sc i) = 0 := by rw [show ((0 : Nat) : Rat) = 0 from rfl]; grind
    have r := write_rep .f64 s 0 i 0 0 h0.symm ⟨0, by rw [show ((0 : Int) : Rat) = 0 from rfl]; grind, by decide, by decide, by decide⟩
    refine ⟨0, r, rfl, by grind, ?_⟩
    rw [h0]
    unfold Ab
    grind
  · have hpos : 0 < (m : Rat) * sc i := Rat.mul_pos (nat_pos hm) (sc_pos i)
    have hs0 : s = false := by
      cases s
      · rfl
      · unfold sgr at hq; grind
    subst hs0
    have e0 : sgr false * ((m : Rat) * sc i) = m * sc i := by unfold sgr; grind
    rw [e0] at hq hs ⊢
    obtain ⟨T, p, c, hr, hv, hc, hlo, hpl, -⟩ := root_mag m 54 i hm
    rw [hr]
    have hpi : leastB .f64 ≤ i := by have := read_place h1; exact this
    have hl : leastB .f64 = -1074 := rfl
    obtain ⟨X, hX⟩ : ∃ X, (T : Rat) * sc p = X := ⟨_, rfl⟩
    have hX0 : 0 ≤ X := by rw [← hX]; exact Rat.mul_nonneg (nat_nn T) (Rat.le_of_lt (sc_pos p))
    obtain ⟨V, hV⟩ : ∃ V, (m : Rat) * sc i = V := ⟨_, rfl⟩
    rw [hV] at hv hc hs hpos ⊢
    rw [hX] at hv hlo
    have hu : sc (1 - ((54 : Nat) : Int)) = uu .f64 := by decide +kernel
    rw [hu] at hc
    have huu : uu .f64 ≤ 1 / 1024 := by decide +kernel
    have hup := uu_pos .f64
    -- the least place plays no part
    have htX : tt .f64 ≤ X * uu .f64 := by
      have h5 : sc (-600) ≤ sc ((54 : Nat) : Int) * sc (p + 1) := by
        rw [← sc_add]
        exact sc_le (by omega)
      have h6 : sc (-600) ≤ X := by grind
      have h7 := Rat.mul_le_mul_of_nonneg_right h6 (Rat.le_of_lt hup)
      have h8 : tt .f64 ≤ sc (-600) * uu .f64 := by decide +kernel
      grind
    have hVu := Rat.mul_nonneg (Rat.le_of_lt hpos) (Rat.le_of_lt hup)
    have hVu2 := Rat.mul_le_mul_of_nonneg_left huu (Rat.le_of_lt hpos)
    have hXX : X * X ≤ V + V * (1 / 1024) := by unfold Ab at hc; grind
    have hXs : X < sc 501 := by
      refine sq_lt (Rat.le_of_lt (sc_pos _)) ?_
      rw [← sc_add]
      have : sc (501 + 501) = sc 1000 * 4 := by rw [show (501 + 501 : Int) = 1000 + 2 by decide, sc_add]; rfl
      rw [this]
      grind
    obtain ⟨d, r1, r2, -⟩ := write_rq .f64 false T p X X (by rw [← hX]; unfold sgr; grind) (by unfold Ab; grind) (by have := sc_le (show (501 : Int) ≤ topB .f64 by decide); grind)
    have hXu := Rat.mul_nonneg hX0 (Rat.le_of_lt hup)
    have hd : Ab d (X * uu .f64 * 2) := r2.mono (by grind)
    have hXu2 := Rat.mul_le_mul_of_nonneg_left huu hX0
    have hdX : Ab d (X * (1 / 512)) := hd.mono (by grind)
    refine ⟨X + d, r1, rfl, by unfold Ab at hdX; grind, ?_⟩
    -- (X + d)^2 - V = c + 2 X d + d^2
    have e2 : (X + d) * (X + d) - V = c + X * d * 2 + d * d := by grind
    rw [e2]
    have hXd : Ab (X * d) (X * X * uu .f64 * 2) := by
      unfold Ab at hd ⊢
      have a1 := Rat.mul_le_mul_of_nonneg_left hd.1 hX0
      have a2 := Rat.mul_le_mul_of_nonneg_left hd.2 hX0
      grind
    have hdd : Ab (d * d) (X * X * uu .f64 * (1 / 128)) := by
      unfold Ab at hd hdX hXd ⊢
      have hdd0 : 0 ≤ d * d := by
        by_cases h : 0 ≤ d
        · exact Rat.mul_nonneg h h
        · have := Rat.mul_nonneg (show 0 ≤ -d by grind) (show 0 ≤ -d by grind)
          grind
      have hXXu : 0 ≤ X * X * uu .f64 := Rat.mul_nonneg (Rat.mul_nonneg hX0 hX0) (Rat.le_of_lt hup)
      refine ⟨by grind, ?_⟩
      by_cases h : 0 ≤ d
      · have a1 : d * d ≤ (X * (1 / 512)) * d := Rat.mul_le_mul_of_nonneg_right hdX.2 h
        grind
      · have a1 : (-d) * (-d) ≤ (X * (1 / 512)) * (-d) := Rat.mul_le_mul_of_nonneg_right (by grind) (by grind)
        grind
    have hXXu2 : X * X * uu .f64 ≤ (V + V * (1 / 1024)) * uu .f64 := Rat.mul_le_mul_of_nonneg_right hXX (Rat.le_of_lt hup)
    unfold Ab at hc hXd hdd ⊢
    grind
theorem RQ.sqrt_rep {x : Nat} {q : Rat} (hx : RQ .f64 x q) {z : Nat} {g : Int} (h : z * sc g * (z * sc g) = q) (hz : z < 2 ^ 53) (hg : -1074 ≤ g) (hg2 : g ≤ 900) : RQ .f64 (sqr x) (z * sc g) ∧ (FloatKind.f64.format.sqrt x).isSome = true := by
  obtain ⟨s, m, i, h1, rfl⟩ := hx
  have hform : FloatKind.f64.format.sqrt x = (Datum.root 54 (.number s m i)).map FloatKind.f64.format.write := by
    unfold Format.sqrt
    rw [h1]
    rfl
  unfold sqr
  rw [hform]
  have hzg : 0 ≤ (z : Rat) * sc g := Rat.mul_nonneg (nat_nn z) (Rat.le_of_lt (sc_pos g))
  have hzz : 0 ≤ (z : Rat) * sc g * (z * sc g) := Rat.mul_nonneg hzg hzg
  by_cases hm : m = 0
  · subst hm
    have e : Datum.root 54 (.number s 0 i) = some (.number s 0 i) := by unfold Datum.root; simp
    rw [e]
    have h0 : sgr s * (((0 : Nat) : Rat) * sc i) = 0 := by rw [show ((0 : Nat) : Rat) = 0 from rfl]; grind
    have r := write_rep .f64 s 0 i 0 0 h0.symm ⟨0, by rw [show ((0 : Int) : Rat) = 0 from rfl]; grind, by decide, by decide, by decide⟩
    have hz0 : (z : Rat) * sc g = 0 := by
      rw [h0] at h
      rcases Rat.mul_eq_zero.1 h with h | h <;> exact h
    rw [hz0]
    exact ⟨r, rfl⟩
  · have hpos : 0 < (m : Rat) * sc i := Rat.mul_pos (nat_pos hm) (sc_pos i)
    have hs0 : s = false := by
      cases s
      · rfl
      · unfold sgr at h; grind
    subst hs0
    have e0 : sgr false * ((m : Rat) * sc i) = m * sc i := by unfold sgr; grind
    rw [e0] at h
    obtain ⟨T, p, c, hr, -, -, -, -, hx⟩ := root_mag m 54 i hm
    have hv := hx z g h (by omega)
    rw [hr]
    refine ⟨?_, rfl⟩
    have r := write_rep .f64 false T p (z * sc g) g (by rw [hv]; unfold sgr; grind) ⟨(z : Int), by rw [Rat.intCast_natCast], by
      have : fracB .f64 = 52 := rfl
      rw [this]; omega, by have : leastB .f64 = -1074 := rfl
                           omega, by have : topB .f64 = 1023 := rfl
                                     have : fracB .f64 = 52 := rfl
                                     omega⟩
    exact r
end Go.Proofs.Ythacadbdncfocaa

/- Rational values: fixed points, bounded floats, sums of bounded floats. -/
namespace Go.Proofs.Ythacadbdncfocaa
open Go Ieee

theorem sg_rq (s : Bool) (m : Nat) : ((sg s m : Int) : Rat) = sgr s * m := by
  unfold sg sgr
  cases s
  · simp only [Bool.false_eq_true, if_false, Rat.intCast_natCast]; grind
  · simp only [if_true, Rat.intCast_neg, Rat.intCast_natCast]; grind
theorem Fx.rq {k r : Nat} {n : Int} (h : Fx k r n) (hk : k ≤ 149) : RQ .f32 r (n * sc (-(k : Int))) := by
  obtain ⟨s, m, e, h1, -, he, -, h2⟩ := h
  refine ⟨s, m, e, h1, ?_⟩
  have h3 : ((sg s m : Int) : Rat) * ((2 ^ (e + 149).toNat : Nat) : Rat) = (n : Rat) * ((2 ^ (149 - k) : Nat) : Rat) := by
    have : ((sg s m * ((2 ^ (e + 149).toNat : Nat) : Int) : Int) : Rat) = ((n * ((2 ^ (149 - k) : Nat) : Int) : Int) : Rat) := by rw [h2]
    rw [Rat.intCast_mul, Rat.intCast_mul, Rat.intCast_natCast, Rat.intCast_natCast] at this
    exact this
  rw [sg_rq, ← sc_nat, ← sc_nat, show (((e + 149).toNat : Nat) : Int) = e + 149 by omega, show ((149 - k : Nat) : Int) = 149 + -(k : Int) by omega, sc_add, sc_add] at h3
  have hp := sc_pos 149
  have h4 : (sgr s * ((m : Rat) * sc e) - n * sc (-(k : Int))) * sc 149 = 0 := by grind
  rcases Rat.mul_eq_zero.1 h4 with h | h <;> grind
/-- A finite number whose size is bounded. -/
def FB (x : Nat) (B : Rat) : Prop := ∃ q, RQ .f32 x q ∧ Ab q B
theorem FB.notNan {x : Nat} {B : Rat} (h : FB x B) : isN .f32 x = false := by obtain ⟨q, h, -⟩ := h; exact h.notNan
theorem FB.mono {x : Nat} {B C : Rat} (h : FB x B) (hc : B ≤ C) : FB x C := by obtain ⟨q, h, hb⟩ := h; exact ⟨q, h, hb.mono hc⟩
theorem Ab.add {a b A B : Rat} (ha : Ab a A) (hb : Ab b B) : Ab (a + b) (A + B) := by unfold Ab at *; grind
theorem Ab.sub {a b A B : Rat} (ha : Ab a A) (hb : Ab b B) : Ab (a - b) (A + B) := by unfold Ab at *; grind
theorem Ab.nn {a A : Rat} (h : Ab a A) : 0 ≤ A := by unfold Ab at h; grind
theorem Ab.mul {a b A B : Rat} (ha : Ab a A) (hb : Ab b B) : Ab (a * b) (A * B) := by
  have hA := ha.nn
  have hB := hb.nn
  unfold Ab at *
  have key : ∀ {x y X Y : Rat}, 0 ≤ x → x ≤ X → 0 ≤ y → y ≤ Y → x * y ≤ X * Y := fun h1 h2 h3 h4 => by
    have a1 := Rat.mul_le_mul_of_nonneg_right h2 h3
    have a2 := Rat.mul_le_mul_of_nonneg_left h4 (show 0 ≤ _ from Rat.le_trans h1 h2)
    grind
  have hAB := Rat.mul_nonneg hA hB
  by_cases h1 : 0 ≤ a <;> by_cases h2 : 0 ≤ b
  · have k := key h1 ha.2 h2 hb.2
    have := Rat.mul_nonneg h1 h2
    grind
  · have k := key h1 ha.2 (show 0 ≤ -b by grind) (show -b ≤ B by grind)
    have := Rat.mul_nonneg h1 (show 0 ≤ -b by grind)
    grind
  · have k := key (show 0 ≤ -a by grind) (show -a ≤ A by grind) h2 hb.2
    have := Rat.mul_nonneg (show 0 ≤ -a by grind) h2
    grind
  · have k := key (show 0 ≤ -a by grind) (show -a ≤ A by grind) (show 0 ≤ -b by grind) (show -b ≤ B by grind)
    have := Rat.mul_nonneg (show 0 ≤ -a by grind) (show 0 ≤ -b by grind)
    grind
theorem uu32 : uu .f32 = 1 / 16777216 := by decide +kernel
theorem uu64 : uu .f64 = 1 / 9007199254740992 := by decide +kernel
theorem tt32 : tt .f32 ≤ 1 / 1000000000000000000000000000000 := by decide +kernel
theorem tt64 : tt .f64 ≤ 1 / 1000000000000000000000000000000 := by decide +kernel
theorem big_top {B : Rat} (h : B ≤ 100000000000000000000000000000000) : B < sc (topB .f32) := by
  have : (100000000000000000000000000000000 : Rat) < sc (topB .f32) := by decide +kernel
  grind
theorem big_top64 {B : Rat} (h : B ≤ 100000000000000000000000000000000) : B < sc (topB .f64) := by
  have : (100000000000000000000000000000000 : Rat) < sc (topB .f64) := by decide +kernel
  grind
theorem FB.add {x y : Nat} {A B : Rat} (hx : FB x A) (hy : FB y B) (h : A + B ≤ 10000000000000000000000000000000) : FB (fop .add .f32 x y) (A + B + (A + B + 1) * (1 / 16777216)) := by
  obtain ⟨a, ha, hA⟩ := hx
  obtain ⟨b, hb, hB⟩ := hy
  have hAB := hA.add hB
  obtain ⟨d, r, hd⟩ := ha.add hb hAB (big_top (by grind))
  refine ⟨_, r, ?_⟩
  have h1 := uu32
  have h2 := tt32
  rw [h1] at hd
  have := hAB.nn
  exact (hAB.add hd).mono (by grind)
theorem FB.sub {x y : Nat} {A B : Rat} (hx : FB x A) (hy : FB y B) (h : A + B ≤ 10000000000000000000000000000000) : FB (fop .sub .f32 x y) (A + B + (A + B + 1) * (1 / 16777216)) := by
  obtain ⟨a, ha, hA⟩ := hx
  obtain ⟨b, hb, hB⟩ := hy
  have hAB := hA.sub hB
  obtain ⟨d, r, hd⟩ := ha.sub hb hAB (big_top (by grind))
  refine ⟨_, r, ?_⟩
  have h1 := uu32
  have h2 := tt32
  rw [h1] at hd
  have := hAB.nn
  exact (hAB.add hd).mono (by grind)
theorem FB.mul {x y : Nat} {A B : Rat} (hx : FB x A) (hy : FB y B) (h : A * B ≤ 10000000000000000000000000000000) : FB (fop .mul .f32 x y) (A * B + (A * B + 1) * (1 / 16777216)) := by
  obtain ⟨a, ha, hA⟩ := hx
  obtain ⟨b, hb, hB⟩ := hy
  have hAB := hA.mul hB
  obtain ⟨d, r, hd⟩ := ha.mul hb hAB (big_top (by grind))
  refine ⟨_, r, ?_⟩
  have h1 := uu32
  have h2 := tt32
  rw [h1] at hd
  have := hAB.nn
  exact (hAB.add hd).mono (by grind)
/-- One more term: sums of bounded floats stay below twice the sum of the bounds. -/
theorem FB.sum_next {x y : Nat} {B : Rat} (j : Nat) (hj : j ≤ 1000) (hB1 : 1 ≤ B) (hB2 : B ≤ 1000000000000000000000000) (hx : FB x (2 * (j : Rat) * B)) (hy : FB y B) : FB (fop .add .f32 x y) (2 * ((j + 1 : Nat) : Rat) * B) := by
  have hjr : (j : Rat) ≤ 1000 := by exact_mod_cast hj
  have hj0 := nat_nn j
  have hB0 : 0 ≤ B := by grind
  have h1 := Rat.mul_le_mul_of_nonneg_right hjr hB0
  have h2 := Rat.mul_nonneg hj0 hB0
  have e1 : 2 * (j : Rat) * B = 2 * (j * B) := by grind
  rw [e1] at hx
  refine (FB.add hx hy (by grind)).mono ?_
  rw [Rat.natCast_add, show ((1 : Nat) : Rat) = 1 from rfl, show 2 * ((j : Rat) + 1) * B = 2 * (j * B) + 2 * B by grind]
  grind
theorem FB.zero (B : Rat) (h : 0 ≤ B) : FB 0 B := ⟨0, ⟨false, 0, -149, by decide +kernel, by decide +kernel⟩, by unfold Ab; grind⟩
end Go.Proofs.Ythacadbdncfocaa

/- The builtin max of floats that are no NaNs; the opposite of a float. -/
namespace Go.Proofs.Ythacadbdncfocaa
open Go Ieee

def mx2 (k : FloatKind) (x y : Nat) : Nat := match k.format.order x y with
  | some .lt => y
  | some .gt => x
  | _ => if (k.decode x).neg then y else x
theorem run_mx2 {P : Program} (k : FloatKind) (x y : Nat) (w : World) (h : (k.format.order x y).isSome = true) : (Builtin.max2 (.float k x) (.float k y)).run P w = .ok (.float k (mx2 k x y)) w := by
  unfold Builtin.max2 mx2
  cases ho : k.format.order x y with
  | none => rw [ho] at h; cases h
  | some o => cases o <;> simp only [ho] <;> rfl
theorem run_max2 {P : Program} (k : FloatKind) (ats : Array TypeId) (ty : TypeId) (x y : Nat) (w : World) (h : (k.format.order x y).isSome = true) : (Builtin.max_ ats ty #[.float k x, .float k y]).run P w = .ok (.float k (mx2 k x y)) w := by
  have e : Builtin.max_ ats ty #[.float k x, .float k y] = Builtin.max2 (.float k x) (.float k y) := by simp [Builtin.max_]
  rw [e, run_mx2 k x y w h]
theorem run_max3 {P : Program} (k : FloatKind) (ats : Array TypeId) (ty : TypeId) (x y z : Nat) (w : World) (h : (k.format.order x y).isSome = true) (h2 : (k.format.order (mx2 k x y) z).isSome = true) : (Builtin.max_ ats ty #[.float k x, .float k y, .float k z]).run P w = .ok (.float k (mx2 k (mx2 k x y) z)) w := by
  have e : Builtin.max_ ats ty #[.float k x, .float k y, .float k z] = (do let r ← Builtin.max2 (.float k x) (.float k y); Builtin.max2 r (.float k z)) := by simp [Builtin.max_]
  rw [e, Sem.run_bind, run_mx2 k x y w h]
  exact run_mx2 k _ z w h2
def rmax (a b : Rat) : Rat := if a < b then b else a
theorem RQ.order_some {k : FloatKind} {x y : Nat} {a b : Rat} (hx : RQ k x a) (hy : RQ k y b) : (k.format.order x y).isSome = true := by rw [hx.order hy]; rfl
theorem RQ.mx2 {k : FloatKind} {x y : Nat} {a b : Rat} (hx : RQ k x a) (hy : RQ k y b) : RQ k (mx2 k x y) (rmax a b) := by
  unfold Proofs.Ythacadbdncfocaa.mx2 rmax
  rw [hx.order hy]
  by_cases h1 : a < b
  · rw [if_pos h1, if_pos h1]; exact hy
  · rw [if_neg h1, if_neg h1]
    by_cases h2 : a = b
    · subst h2
      rw [if_pos rfl]
      show RQ k (if (k.decode x).neg then y else x) a
      split
      · exact hy
      · exact hx
    · rw [if_neg h2]; exact hx
/-- The opposite. -/
def ngF (k : FloatKind) (x : Nat) : Nat := x ^^^ (match k with | .f32 => 2 ^ 31 | .f64 => 2 ^ 63)
theorem run_ngF {P : Program} (k : FloatKind) (w : World) (x : Nat) : (Op.unary .neg (.float k x)).run P w = .ok (.float k (ngF k x)) w := by cases k <;> rfl
theorem xor_top (x n : Nat) (hx : x < 2 ^ (n + 1)) : x ^^^ 2 ^ n = if x < 2 ^ n then x + 2 ^ n else x - 2 ^ n := by
  split
  · next h =>
    apply Nat.eq_of_testBit_eq
    intro i
    rw [Nat.testBit_xor, Nat.testBit_two_pow]
    by_cases hi : i = n
    · subst hi
      rw [Nat.testBit_lt_two_pow h, Nat.add_comm, Nat.testBit_two_pow_add_eq, Nat.testBit_lt_two_pow h]
      simp
    · by_cases hl : i < n
      · rw [Nat.add_comm, Nat.testBit_two_pow_add_gt hl]
        simp [Ne.symm hi]
      · have h1 : x.testBit i = false := Nat.testBit_lt_two_pow (Nat.lt_of_lt_of_le h (Nat.pow_le_pow_right (by decide) (by omega)))
        have h2 : (x + 2 ^ n).testBit i = false := Nat.testBit_lt_two_pow (Nat.lt_of_lt_of_le (show x + 2 ^ n < 2 ^ (n + 1) by rw [Nat.pow_succ]; omega) (Nat.pow_le_pow_right (by decide) (by omega)))
        rw [h1, h2]
        simp [Ne.symm hi]
  · next h =>
    obtain ⟨y, rfl⟩ : ∃ y, x = 2 ^ n + y := ⟨x - 2 ^ n, by omega⟩
    have hy : y < 2 ^ n := by rw [Nat.pow_succ] at hx; omega
    rw [Nat.add_sub_cancel_left]
    apply Nat.eq_of_testBit_eq
    intro i
    rw [Nat.testBit_xor, Nat.testBit_two_pow]
    by_cases hi : i = n
    · subst hi
      rw [Nat.testBit_two_pow_add_eq, Nat.testBit_lt_two_pow hy]
      simp
    · by_cases hl : i < n
      · rw [Nat.testBit_two_pow_add_gt hl]
        simp [Ne.symm hi]
      · have h1 : y.testBit i = false := Nat.testBit_lt_two_pow (Nat.lt_of_lt_of_le hy (Nat.pow_le_pow_right (by decide) (by omega)))
        have h2 : (2 ^ n + y).testBit i = false := Nat.testBit_lt_two_pow (Nat.lt_of_lt_of_le hx (Nat.pow_le_pow_right (by decide) (by omega)))
        rw [h1, h2]
        simp [Ne.symm hi]
theorem RQ.lt {k : FloatKind} {x : Nat} {q : Rat} (h : RQ k x q) : x < 2 ^ k.format.width → x < 2 ^ k.format.width := id
/-- The value of the opposite. -/
theorem RQ.neg {k : FloatKind} {x : Nat} {q : Rat} (hx : RQ k x q) (hw : x < 2 ^ k.format.width) : RQ k (ngF k x) (-q) := by
  obtain ⟨s, m, e, h1, rfl⟩ := hx
  refine ⟨!s, m, e, ?_, by rw [sgr_not]; grind⟩
  have key : ∀ (f : Format) (n : Nat), f.signWeight = 2 ^ n → x < 2 ^ (n + 1) → f.read x = .number s m e → f.read (x ^^^ 2 ^ n) = .number (!s) m e := by
    intro f n hn hx hr
    rw [xor_top x n hx]
    unfold Format.read at hr ⊢
    rw [hn] at hr ⊢
    have hp : 0 < 2 ^ n := Nat.two_pow_pos _
    split
    · next h =>
      have e1 : x / 2 ^ n % 2 = 0 := by rw [Nat.div_eq_of_lt h]
      have e2 : (x + 2 ^ n) / 2 ^ n % 2 = 1 := by rw [Nat.add_div_right _ hp, Nat.div_eq_of_lt h]
      have e3 : (x + 2 ^ n) % 2 ^ n = x % 2 ^ n := Nat.add_mod_right _ _
      rw [e1] at hr
      rw [e2, e3]
      dsimp only at hr ⊢
      split at hr
      · next h5 => cases hr; rw [if_pos h5]; rfl
      · next h5 =>
        split at hr
        · next h6 => cases hr; rw [if_neg h5, if_pos h6]; rfl
        · split at hr <;> cases hr
    · next h =>
      obtain ⟨y, rfl⟩ : ∃ y, x = 2 ^ n + y := ⟨x - 2 ^ n, by omega⟩
      have hy : y < 2 ^ n := by rw [Nat.pow_succ] at hx; omega
      rw [Nat.add_sub_cancel_left]
      have e1 : (2 ^ n + y) / 2 ^ n % 2 = 1 := by rw [Nat.add_div_left _ hp, Nat.div_eq_of_lt hy]
      have e2 : y / 2 ^ n % 2 = 0 := by rw [Nat.div_eq_of_lt hy]
      have e3 : (2 ^ n + y) % 2 ^ n = y % 2 ^ n := Nat.add_mod_left _ _
      rw [e1, e3] at hr
      rw [e2]
      dsimp only at hr ⊢
      split at hr
      · next h5 => cases hr; rw [if_pos h5]; rfl
      · next h5 =>
        split at hr
        · next h6 => cases hr; rw [if_neg h5, if_pos h6]; rfl
        · split at hr <;> cases hr
  cases k with
  | f32 => exact key Ieee.single 31 (by decide) (by rw [width32] at hw; exact hw) h1
  | f64 => exact key Ieee.double 63 (by decide) (by rw [width64] at hw; exact hw) h1
end Go.Proofs.Ythacadbdncfocaa

/- Walks on a seat of gathers: MuteGather. -/
namespace Go.Proofs.Ythacadbdncfocaa
open Go Go.RowKit

/-- The list with zeros where c says so, up to k. -/
def mutTo (c : Nat → Bool) (L : List Nat) (k : Nat) : List Nat := (List.range L.length).map fun j => if j < k ∧ c j = true then 0 else L.getD j 0
theorem mutTo_length (c : Nat → Bool) (L : List Nat) (k : Nat) : (mutTo c L k).length = L.length := by simp [mutTo]
theorem mutTo_getD (c : Nat → Bool) (L : List Nat) (k j : Nat) (h : j < L.length) : (mutTo c L k).getD j 0 = if j < k ∧ c j = true then 0 else L.getD j 0 := by
  simp [mutTo, List.getD_eq_getElem?_getD, List.getElem?_map, List.getElem?_range h]
theorem list_getD_ext {A B : List Nat} (hl : A.length = B.length) (h : ∀ j, j < A.length → A.getD j 0 = B.getD j 0) : A = B := by
  apply List.ext_getElem hl
  intro i h1 h2
  have := h i h1
  rw [List.getD_eq_getElem?_getD, List.getD_eq_getElem?_getD, List.getElem?_eq_getElem h1, List.getElem?_eq_getElem h2] at this
  exact this
theorem mutTo_zero (c : Nat → Bool) (L : List Nat) : mutTo c L 0 = L :=
  list_getD_ext (mutTo_length _ _ _) fun j hj => by
    rw [mutTo_length] at hj
    rw [mutTo_getD _ _ _ _ hj, if_neg (by omega)]
theorem mutTo_no (c : Nat → Bool) (L : List Nat) (k : Nat) (h : c k = false) : mutTo c L (k + 1) = mutTo c L k :=
  list_getD_ext (by rw [mutTo_length, mutTo_length]) fun j hj => by
    rw [mutTo_length] at hj
    rw [mutTo_getD _ _ _ _ hj, mutTo_getD _ _ _ _ hj]
    by_cases hjk : j = k
    · subst hjk
      rw [if_neg (by rw [h]; simp), if_neg (by omega)]
    · by_cases h2 : j < k
      · by_cases h3 : c j = true
        · rw [if_pos ⟨by omega, h3⟩, if_pos ⟨h2, h3⟩]
        · rw [if_neg (fun q => h3 q.2), if_neg (fun q => h3 q.2)]
      · rw [if_neg (by omega), if_neg (by omega)]
theorem mutTo_yes (c : Nat → Bool) (L : List Nat) (k : Nat) (h : c k = true) : mutTo c L (k + 1) = (mutTo c L k).set k 0 :=
  list_getD_ext (by rw [List.length_set, mutTo_length, mutTo_length]) fun j hj => by
    rw [mutTo_length] at hj
    have e : ((mutTo c L k).set k 0).getD j 0 = if k = j then 0 else (mutTo c L k).getD j 0 := by
      simp only [List.getD_eq_getElem?_getD, List.getElem?_set]
      by_cases hjk : k = j
      · subst hjk
        rw [if_pos rfl, if_pos rfl, if_pos (by rw [mutTo_length]; exact hj)]; rfl
      · rw [if_neg hjk, if_neg hjk]
    rw [e, mutTo_getD _ _ _ _ hj, mutTo_getD _ _ _ _ hj]
    by_cases hjk : k = j
    · subst hjk
      rw [if_pos rfl, if_pos ⟨by omega, h⟩]
    · rw [if_neg hjk]
      by_cases h2 : j < k
      · by_cases h3 : c j = true
        · rw [if_pos ⟨by omega, h3⟩, if_pos ⟨h2, h3⟩]
        · rw [if_neg (fun q => h3 q.2), if_neg (fun q => h3 q.2)]
      · rw [if_neg (by omega), if_neg (by omega)]
/-- Which numbers come too early. -/
def early (p sp k : Nat) : Bool := FloatKind.f32.format.order (floatOfInt .f32 (k : Nat)) (fop .quo .f32 (absC p) sp) == some Ordering.lt
def absT (x : Nat) (f : FuncId) (args : Array Value) (v : Value) : Prop := ∃ q, v = .float .f32 q ∧ FV .f32 q (absC x)
/-- The traces, what comes too early muted. -/
def mutF (T : TM) (sp i : Nat) : List Nat := mutTo (early (T.P.getD i 0) sp) (rowAt T.Ls i) (rowAt T.Ls i).length
theorem mutF_fine (w : World) (vt : Value) (T : TM) (sp : Nat) (hL : RdSS w vt T.Ls) (hr : ∀ j, (rowAt T.Ls j).length ≤ 64) (i : Nat) (hi : i < T.Ls.length) : (mutF T sp i).length ≤ 64 ∧ ∀ j, j < (mutF T sp i).length → ∃ r, FV .f32 r ((mutF T sp i).getD j 0) := by
  unfold mutF
  rw [mutTo_length]
  refine ⟨hr i, fun j hj => ?_⟩
  rw [mutTo_getD _ _ _ _ hj]
  split
  · exact ⟨0, fv0 .f32⟩
  · obtain ⟨_, _, -, -, -, hc⟩ := hL.opened
    obtain ⟨b, o, a', c', -, -, -, hR⟩ := hc i hi
    obtain ⟨_, _, -, -, -, hc2⟩ := hR.opened
    obtain ⟨b2, o2, r, -, -, hf⟩ := hc2 j hj
    exact ⟨r, hf⟩
end Go.Proofs.Ythacadbdncfocaa

/- Walks: slices.Grow from nil, slices.Concat of two lists of floats. -/
namespace Go.Proofs.Ythacadbdncfocaa
open Go Go.RowKit

/-- 'append' of some zeros to nil: the front of length 0 of what is made is owned. -/
theorem wpList_growNil {P : Program} {ops : Array Oper} {rest : List Oper} {o : Oper} {a : Act} {w : World} {Q : Exit → Act → World → Prop} (hgd : o.guard = none) (s x : Operand) (t tn : TypeId)
    (ho : o.op = .call { callee := .builtin .append, args := #[s, x], argTypes := #[t, tn] }) (e : TypeId) (z : Value) (size bytes : Nat) (kn : IntKind) (ht : P.underlying t = some (.slice e)) (htn : P.underlying tn = some (.int kn))
    (hinfo : (P.info? e).map (fun i => (i.zero, i.size, i.bytes)) = some (some z, size, bytes)) (hzs : z.cells.size = size) (hsz : 0 < size) (k : IntKind) (N : Int) (n : Nat) (hs : a.eval s = .slice none 0 0) (hx : a.eval x = .int k N) (hN : N = (n : Int)) (h0 : 0 < n) (hn : n ≤ 1048576) (hby : bytes ≤ 1000)
    (h : ∀ cap w', n ≤ cap → w'.ownsRow w.heap.size e size (.slice (some ⟨w.heap.size, 0, none⟩) 0 cap) 0 [] → Ext w w' → wpList P ops Q rest (a.put o.dst (.slice (some ⟨w.heap.size, 0, none⟩) n cap)) w') : wpList P ops Q (o :: rest) a w := by
  obtain ⟨i, hi, hz0, hz1, hz2⟩ := info_parts hinfo
  subst hN
  have hr := fun ty => Lib.run_append_nil_zeros (P := P) w t tn ty e i z k kn ht htn hi hz0 n h0 (by omega) (by omega) (by rw [hz2]; exact Nat.le_trans (Nat.mul_le_mul hn hby) (by decide))
  refine wpList_plain hgd fun K hK => ?_
  unfold Oper.wp execOp
  simp only [ho, resolve, invoke, builtin, Sem.run_bind, Sem.run_pure, Result.andThen_ok, List.map_toArray, List.map_cons, List.map_nil, hs, hx, hr]
  have hge := grownCap_ge w n 0 e
  have hlm := grownCap_le_maxLen w n 0 e (by unfold maxLen; omega)
  refine hK _ _ (h _ _ hge ?_ ?_)
  · refine ⟨by simp, .inr ⟨w.heap.size, _, _, rfl, Nat.le_refl _, (by show (w.drew.heap.push _)[w.drew.heap.size]? = _; exact Array.getElem?_push_size), Nat.zero_le _, hlm, ?_, by simp⟩⟩
    simp [Builtin.zeroCells, hzs]
    rw [← Nat.add_mul]
    congr 1
    omega
  · exact ((Below.drewN (Below.refl _ _) 1).alloc (by show w.heap.size ≤ w.heap.size; omega) _)

end Go.Proofs.Ythacadbdncfocaa

/- Walks on a seat of gathers: MergeGathers. -/
namespace Go.Proofs.Ythacadbdncfocaa
open Go Go.RowKit

theorem Try.infoFF2 : (Try.prog.info? 25).map (fun i => (i.zero, i.size, i.bytes)) = some (some (.slice none 0 0), 1, 24) := by kernel_rfl
/-- The cells of a row of rows. -/
def CellsS (w : World) (v : Value) (us : List Value) : Prop :=
  ∃ b o c, v = .slice (some ⟨b, o, none⟩) us.length c ∧ us.length ≤ c ∧ ∀ j, j < us.length → w.cell? ⟨b, o + j, none⟩ = some (us.getD j undef) ∧ (us.getD j undef).oneCell' = true
theorem CellsS.mono {w w' : World} {v : Value} {us : List Value} (h : CellsS w v us) (hb : Below w.heap.size w w') : CellsS w' v us := by
  obtain ⟨b, o, c, hv, hc, hr⟩ := h
  exact ⟨b, o, c, hv, hc, fun j hj => ⟨((bcell hb).1 _ _ (block_lt (hr j hj).1)).trans (hr j hj).1, (hr j hj).2⟩⟩
/-- The rows to which cells lead. -/
def RowsR (w : World) (us : List Value) (Ls : List (List Nat)) : Prop := us.length = Ls.length ∧ ∀ j, j < us.length → RdF w (us.getD j undef) (rowAt Ls j)
theorem RowsR.mono {w w' : World} {us : List Value} {Ls : List (List Nat)} (h : RowsR w us Ls) (hb : Below w.heap.size w w') : RowsR w' us Ls := ⟨h.1, fun j hj => (h.2 j hj).mono hb⟩
theorem pick_val {α : Type} (d : α) {P : Nat → α → Prop} : ∀ n, (∀ j, j < n → ∃ r, P j r) → ∃ us : List α, us.length = n ∧ ∀ j, j < n → P j (us.getD j d)
  | 0, _ => ⟨[], rfl, fun j hj => (by cases hj)⟩
  | n + 1, h => by
    obtain ⟨us, hl, hb⟩ := pick_val d n fun j hj => h j (by omega)
    obtain ⟨r, hr⟩ := h n (by omega)
    refine ⟨us ++ [r], by simp [hl], fun j hj => ?_⟩
    rw [getD_snoc]
    by_cases hlt : j < n
    · rw [if_pos (by omega)]; exact hb j hlt
    · obtain rfl : j = n := by omega
      rw [if_neg (by omega), if_pos hl.symm]; exact hr
theorem RdSS.cells {w : World} {v : Value} {Ls : List (List Nat)} (h : RdSS w v Ls) (h0 : 0 < Ls.length) : ∃ us, CellsS w v us ∧ RowsR w us Ls := by
  obtain ⟨a, c, rfl, hc, -, hr⟩ := h.opened
  obtain ⟨b, o, -, -, rfl, -⟩ := hr 0 h0
  obtain ⟨us, hl, hu⟩ := pick_val undef (P := fun j u => w.cell? ⟨b, o + j, none⟩ = some u ∧ u.oneCell' = true ∧ RdF w u (rowAt Ls j)) Ls.length (fun j hj => by
    obtain ⟨b', o', a', c', he, -, h1, h2⟩ := hr j hj
    cases he
    exact ⟨_, h1, rfl, h2⟩)
  exact ⟨us, ⟨b, o, c, by rw [hl], by rw [hl]; exact hc, fun j hj => ⟨(hu j (by omega)).1, (hu j (by omega)).2.1⟩⟩, hl, fun j hj => (hu j (by omega)).2.2⟩
/-- A row of rows of the call's own whose rows lie elsewhere is read. -/
theorem rdSS_of {w : World} {B : Nat} {v : Value} {us : List Value} {Ls : List (List Nat)} (h : w.ownsRow B 25 1 v us.length us) (hr : RowsR w us Ls) : RdSS w v Ls := by
  obtain ⟨hl, hr⟩ := hr
  unfold RdSS
  rw [← hl]
  rcases h.2 with ⟨rfl, hn⟩ | ⟨g, cap, cur, rfl, hb, hg, hn, _⟩
  · refine ⟨none, 0, by rw [hn], by omega, fun _ => rfl, fun j hj => ?_⟩
    rw [List.length_map, ← hl, hn] at hj; omega
  · refine ⟨_, cap, rfl, hn, fun h => (by cases h), fun j hj => ?_⟩
    rw [List.length_map, ← hl] at hj
    refine ⟨g, 0, us.getD j undef, rfl, ?_, ?_⟩
    · rw [Nat.zero_add, World.ownsRow.cellAt h j (by omega), List.getD_eq_getElem?_getD, List.getElem?_eq_getElem hj]; rfl
    · have e : (Ls.map D1.fs).getD j default = .fs (rowAt Ls j) := by simp [rowAt, List.getD_eq_getElem?_getD, List.getElem?_map, List.getElem?_eq_getElem (show j < Ls.length by omega)]
      rw [e]
      exact hr j hj
theorem RowsR.append {w : World} {us us' : List Value} {A B : List (List Nat)} (h : RowsR w us A) (h' : RowsR w us' B) : RowsR w (us ++ us') (A ++ B) := by
  refine ⟨by rw [List.length_append, List.length_append, h.1, h'.1], fun j hj => ?_⟩
  rw [List.length_append] at hj
  by_cases hlt : j < us.length
  · have e1 : (us ++ us').getD j undef = us.getD j undef := by simp [List.getD_eq_getElem?_getD, List.getElem?_append_left hlt]
    have e2 : rowAt (A ++ B) j = rowAt A j := by simp [rowAt, List.getD_eq_getElem?_getD, List.getElem?_append_left (show j < A.length by have := h.1; omega)]
    rw [e1, e2]; exact h.2 j hlt
  · have e1 : (us ++ us').getD j undef = us'.getD (j - us.length) undef := by simp [List.getD_eq_getElem?_getD, List.getElem?_append_right (show us.length ≤ j by omega)]
    have e2 : rowAt (A ++ B) j = rowAt B (j - us.length) := by simp [rowAt, List.getD_eq_getElem?_getD, List.getElem?_append_right (show A.length ≤ j by have := h.1; omega), h.1]
    rw [e1, e2]; exact h'.2 _ (by omega)
/-- 'append' of all of a row of rows. -/
theorem wpList_pushCells {P : Program} {ops : Array Oper} {rest : List Oper} {o : Oper} {a : Act} {w : World} {Q : Exit → Act → World → Prop} (hgd : o.guard = none) (s x : Operand) (t e : TypeId)
    (ho : o.op = .call { callee := .builtin .append, args := #[s, x], argTypes := #[t, t] }) (z : Value) (bytes : Nat) (ht : P.underlying t = some (.slice e)) (hinfo : (P.info? e).map (fun i => (i.zero, i.size, i.bytes)) = some (some z, 1, bytes))
    (hzs : z.cells.size = 1) (hby : bytes ≤ 100) (B : Nat) (v : Value) (xs us : List Value) (hs : a.eval s = v) (hown : w.ownsRow B e 1 v xs.length xs) (vx : Value) (hx : a.eval x = vx) (hc : CellsS w vx us) (hl1 : xs.length ≤ 1000000) (hl2 : us.length ≤ 1000) (hB : B ≤ w.heap.size)
    (h : ∀ v' w', w'.ownsRow B e 1 v' (xs ++ us).length (xs ++ us) → Below B w w' → wpList P ops Q rest (a.put o.dst v') w') : wpList P ops Q (o :: rest) a w := by
  obtain ⟨i0, hi, hz0, hz1, hz2⟩ := info_parts hinfo
  obtain ⟨b, o1, c, rfl, hcc, hcell⟩ := hc
  refine wpList_append_own2 hgd s x t ho B e i0 z 1 bytes ht hi hz0 hz1 hz2 hzs (by decide) v xs.length xs hs hown ⟨b, o1, none⟩ us.length c us hx (by omega) ?_ ?_ ?_ ?_ hB ?_
  · intro j y hy
    have hj := (List.getElem?_eq_some_iff.1 hy).1
    rw [Addr.add_lit, (hcell j hj).1, List.getD_eq_getElem?_getD, hy]; rfl
  · intro y hy
    obtain ⟨j, hj, rfl⟩ := List.getElem_of_mem hy
    have := (hcell j hj).2
    rwa [List.getD_eq_getElem?_getD, List.getElem?_eq_getElem hj] at this
  · unfold maxLen; omega
  · exact Nat.le_trans (Nat.mul_le_mul (by omega : xs.length + us.length ≤ 1001000) hby) (by decide)
  · intro v' w' h1 h2 _
    rw [← List.length_append] at h1
    exact h v' w' h1 ((Below.refl _ _).grown h2 hB fun k hk => (hown.lt k hk).1)
end Go.Proofs.Ythacadbdncfocaa

/- Walks on a seat of gathers: MergeGathers of a gather and itself. -/
namespace Go.Proofs.Ythacadbdncfocaa
open Go Go.RowKit

def twT (T : TM) : TM := ⟨T.t, T.P ++ T.P, T.Ls ++ T.Ls⟩
theorem row_exists (w : World) (us : List Value) (hl : us.length ≤ maxLen) : ∃ u w'', w''.ownsRow w.heap.size 25 1 u us.length us ∧ Ext w w'' :=
  ⟨.slice (some ⟨w.heap.size, 0, none⟩) us.length us.length, w.alloc (.cells us.toArray 25), ⟨by simp, .inr ⟨w.heap.size, us.length, _, rfl, Nat.le_refl _, alloc_new _ _, Nat.le_refl _, hl, by simp, by rw [Nat.mul_one]; exact List.take_of_length_le (by simp)⟩⟩, (Below.refl _ _).alloc (Nat.le_refl _) _⟩
theorem row_apart {w : World} {B g n : Nat} {v : Value} {us : List Value} {cs : Array Value} (h : w.ownsRow B 25 1 v n us) (hg : w.heap[g]? = some (.cells cs 44 (0, 0))) : ∀ k, v.ownBlock = some k → k ≠ g := fun k hk e => by
  subst e
  rcases h.2 with ⟨rfl, -⟩ | ⟨g, cap, cur, rfl, -, hg2, -⟩
  · cases hk
  · cases hk; rw [hg] at hg2; cases hg2
end Go.Proofs.Ythacadbdncfocaa

/- FnOrdered: the plain law: a gather of halves and quarters: what is sorted, kept, muted. -/
namespace Go.Proofs.Ythacadbdncfocaa
open Go Go.RowKit

/-- A gather drawn: places in halves, traces in quarters. -/
structure GQ where
  T : Nat
  ps : List Int
  zss : List (List Int)
structure GQ.ok (g : GQ) : Prop where
  t0 : 2 ≤ g.T
  t1 : g.T ≤ 11
  n0 : 1 ≤ g.ps.length
  n1 : g.ps.length ≤ 4
  nz : g.zss.length = g.ps.length
  pz : ∀ z ∈ g.ps, -4 ≤ z ∧ z ≤ 12
  zz : ∀ zs ∈ g.zss, zs.length = g.T ∧ ∀ z ∈ zs, -8 ≤ z ∧ z ≤ 8
def GQ.tm (g : GQ) : TM := ⟨g.T, g.ps.map hV, g.zss.map (List.map qv)⟩
def pAt (ps : List Int) (k : Nat) : Int := ps.getD k 0
def zAt (zss : List (List Int)) (k : Nat) : List Int := zss.getD k []
theorem pAt_ok {ps : List Int} (h : ∀ z ∈ ps, -4 ≤ z ∧ z ≤ 12) (k : Nat) : -4 ≤ pAt ps k ∧ pAt ps k ≤ 12 := by
  unfold pAt
  rw [List.getD_eq_getElem?_getD]
  cases hk : ps[k]? with
  | none => decide
  | some z => exact h z (List.mem_of_getElem? hk)
theorem hV_zero : hV 0 = 0 := by decide +kernel
theorem getD_hV (ps : List Int) (k : Nat) : (ps.map hV).getD k 0 = hV (pAt ps k) := by
  unfold pAt
  rw [List.getD_eq_getElem?_getD, List.getD_eq_getElem?_getD, List.getElem?_map]
  cases ps[k]? with
  | none => exact hV_zero.symm
  | some z => rfl
theorem rowAt_qv (zss : List (List Int)) (k : Nat) : rowAt (zss.map (List.map qv)) k = (zAt zss k).map qv := by
  unfold rowAt zAt
  rw [List.getD_eq_getElem?_getD, List.getD_eq_getElem?_getD, List.getElem?_map]
  cases zss[k]? with
  | none => rfl
  | some z => rfl
theorem zAt_mem {zss : List (List Int)} {k : Nat} (h : k < zss.length) : zAt zss k ∈ zss := by
  unfold zAt
  rw [List.getD_eq_getElem?_getD, List.getElem?_eq_getElem h]
  exact List.getElem_mem h
theorem order_hV {a b : Int} (ha : -4 ≤ a ∧ a ≤ 12) (hb : -4 ≤ b ∧ b ≤ 12) : FloatKind.f32.format.order (hV a) (hV b) = some (compare a b) := (hV_fx a ha.1 ha.2).order (hV_fx b hb.1 hb.2)
theorem hV_notNan {a : Int} (ha : -4 ≤ a ∧ a ≤ 12) : isN .f32 (hV a) = false := (hV_fx a ha.1 ha.2).notNan
theorem hV_fin_all : ((List.range 17).all fun k => fin .f32 (hV ((k : Int) - 4))) = true := by decide +kernel
theorem hV_fin {a : Int} (ha : -4 ≤ a ∧ a ≤ 12) : fin .f32 (hV a) = true := by
  have := List.all_eq_true.1 hV_fin_all (a + 4).toNat (List.mem_range.2 (by omega))
  rwa [show (((a + 4).toNat : Nat) : Int) - 4 = a by omega] at this
theorem ltP_hV {ps : List Int} (h : ∀ z ∈ ps, -4 ≤ z ∧ z ≤ 12) : ltP (ps.map hV) = fun i j => decide (pAt ps i < pAt ps j) := by
  funext i j
  unfold ltP
  rw [getD_hV, getD_hV, order_hV (pAt_ok h i) (pAt_ok h j)]
  by_cases hlt : pAt ps i < pAt ps j
  · rw [show compare (pAt ps i) (pAt ps j) = .lt from Int.compare_eq_lt.2 hlt]; simp [hlt]
  · simp only [hlt, decide_false]
    rw [Bool.eq_false_iff]
    intro hc
    have : compare (pAt ps i) (pAt ps j) = .lt := by simpa using hc
    exact hlt (Int.compare_eq_lt.1 this)
/-- The indices in order. -/
def sJ (ps : List Int) : List Nat := insAll (fun i j => decide (pAt ps i < pAt ps j)) [] (List.range ps.length)
theorem sortJ_hV {ps : List Int} (h : ∀ z ∈ ps, -4 ≤ z ∧ z ≤ 12) : sortJ (ps.map hV) = sJ ps := by
  unfold sortJ sJ
  rw [ltP_hV h, List.length_map]
theorem sJ_perm (ps : List Int) : (sJ ps).Perm (List.range ps.length) := by
  have := insAll_perm (fun i j => decide (pAt ps i < pAt ps j)) [] (List.range ps.length)
  simpa [sJ] using this
theorem sJ_length (ps : List Int) : (sJ ps).length = ps.length := by rw [(sJ_perm ps).length_eq, List.length_range]
theorem sJ_sorted (ps : List Int) : List.Pairwise (fun a b => pAt ps a ≤ pAt ps b) (sJ ps) := insAll_sorted (pAt ps) _
theorem sJ_lt (ps : List Int) (i : Nat) (h : i < ps.length) : (sJ ps).getD i 0 < ps.length := by
  have hi : i < (sJ ps).length := by rw [sJ_length]; exact h
  have hm : (sJ ps).getD i 0 ∈ sJ ps := by
    rw [List.getD_eq_getElem?_getD, List.getElem?_eq_getElem hi]
    exact List.getElem_mem hi
  exact List.mem_range.1 ((sJ_perm ps).mem_iff.1 hm)
/-- A place and a trace. -/
def prA (ps : List Int) (zss : List (List Int)) (k : Nat) : Int × List Int := (pAt ps k, zAt zss k)
theorem sJ_next (ps : List Int) (i : Nat) (h : i + 1 < ps.length) : pAt ps ((sJ ps).getD i 0) ≤ pAt ps ((sJ ps).getD (i + 1) 0) := by
  have h1 : i + 1 < (sJ ps).length := by rw [sJ_length]; exact h
  rw [List.getD_eq_getElem?_getD, List.getD_eq_getElem?_getD, List.getElem?_eq_getElem h1, List.getElem?_eq_getElem (show i < (sJ ps).length by omega)]
  exact List.pairwise_iff_getElem.1 (sJ_sorted ps) i (i + 1) (by omega) h1 (by omega)
/-- What is chosen is valid, if anything is. -/
theorem GQ.ok.pick_valid {g : GQ} (h : g.ok) (js : List Nat) (hj : ∀ j ∈ js, j < g.ps.length) (hl : js.length ≤ 16) : validT (pkT g.tm js) = !js.isEmpty := by
  have hP : allB (fin .f32) (pkP g.tm.P js) = true := by
    unfold allB allTo
    refine List.all_eq_true.2 fun i hi => ?_
    have hi := List.mem_range.1 hi
    have hi' : i < js.length := by simpa [pkP] using hi
    have e : (pkP g.tm.P js).getD i 0 = hV (pAt g.ps (js.getD i 0)) := by
      rw [← getD_hV]
      simp [pkP, GQ.tm, List.getD_eq_getElem?_getD, List.getElem?_map, List.getElem?_eq_getElem hi']
    rw [e]
    exact hV_fin (pAt_ok h.pz _)
  have hR : rowsTo (pkL g.tm.Ls js) g.T (pkL g.tm.Ls js).length = true := by
    unfold rowsTo
    refine List.all_eq_true.2 fun i hi => ?_
    have hi := List.mem_range.1 hi
    have hi' : i < js.length := by simpa [pkL] using hi
    have e : rowAt (pkL g.tm.Ls js) i = (zAt g.zss (js.getD i 0)).map qv := by
      rw [← rowAt_qv]
      show (pkL g.tm.Ls js).getD i [] = _
      simp [pkL, GQ.tm, List.getD_eq_getElem?_getD, List.getElem?_map, List.getElem?_eq_getElem hi']
    have hm : js.getD i 0 < g.zss.length := by
      rw [h.nz]
      apply hj
      rw [List.getD_eq_getElem?_getD, List.getElem?_eq_getElem hi']
      exact List.getElem_mem hi'
    rw [e, List.length_map, (h.zz _ (zAt_mem hm)).1]
    simp
  have t0 := h.t0
  have t1 := h.t1
  have e1 : (pkP g.tm.P js).length = js.length := by simp [pkP]
  have e2 : (pkL g.tm.Ls js).length = js.length := by simp [pkL]
  have ht : (pkT g.tm js).t = (g.T : Int) := rfl
  unfold validT placesB
  rw [ht]
  show (decide (1 ≤ (g.T : Int)) && (decide ((g.T : Int) ≤ 64) && ((decide (1 ≤ (pkP g.tm.P js).length) && (decide ((pkP g.tm.P js).length ≤ 16) && allB (fin .f32) (pkP g.tm.P js))) && (decide ((pkL g.tm.Ls js).length = (pkP g.tm.P js).length) && rowsTo (pkL g.tm.Ls js) (g.T : Int) (pkL g.tm.Ls js).length)))) = _
  rw [hP, hR, e1, e2]
  cases js with
  | nil => simp
  | cons a r =>
    have a1 : (1 : Int) ≤ g.T := by omega
    have a2 : (g.T : Int) ≤ 64 := by omega
    have a3 : (a :: r).length ≤ 16 := hl
    simp [a1, a2]
    simpa using a3
theorem pk_self (P : List Nat) : pkP P (List.range P.length) = P := by
  unfold pkP
  apply List.ext_getElem
  · simp
  · intro i h1 h2
    simp [List.getD_eq_getElem?_getD, List.getElem?_eq_getElem h2]
theorem pkL_self (Ls : List (List Nat)) : pkL Ls (List.range Ls.length) = Ls := by
  unfold pkL
  apply List.ext_getElem
  · simp
  · intro i h1 h2
    simp [rowAt, List.getD_eq_getElem?_getD, List.getElem?_eq_getElem h2]
theorem GQ.ok.lens {g : GQ} (h : g.ok) : g.tm.P.length = g.ps.length ∧ g.tm.Ls.length = g.ps.length := ⟨by simp [GQ.tm], by simp [GQ.tm, h.nz]⟩
theorem GQ.ok.valid {g : GQ} (h : g.ok) : validT g.tm = true := by
  have n0 := h.n0
  have n1 := h.n1
  have := h.pick_valid (List.range g.ps.length) (fun j hj => List.mem_range.1 hj) (by rw [List.length_range]; omega)
  have e : pkT g.tm (List.range g.ps.length) = g.tm := by
    have e1 := pk_self g.tm.P
    have e2 := pkL_self g.tm.Ls
    rw [h.lens.1] at e1
    rw [h.lens.2] at e2
    unfold pkT
    rw [e1, e2]
  rw [e] at this
  rw [this]
  cases hn : g.ps.length with
  | zero => omega
  | succ m => rw [List.range_succ]; simp
theorem GQ.ok.validS {g : GQ} (h : g.ok) : validT (pkT g.tm (sortJ g.tm.P)) = true := by
  have n0 := h.n0
  have n1 := h.n1
  have e : sortJ g.tm.P = sJ g.ps := sortJ_hV h.pz
  rw [e, h.pick_valid (sJ g.ps) (fun j hj => List.mem_range.1 ((sJ_perm g.ps).mem_iff.1 hj)) (by rw [sJ_length]; omega)]
  cases hs : sJ g.ps with
  | nil => have := sJ_length g.ps; rw [hs] at this; simp at this; omega
  | cons a r => rfl
theorem GQ.ok.valid2 {g : GQ} (h : g.ok) : validT (twT g.tm) = true := by
  have n0 := h.n0
  have n1 := h.n1
  have hl := h.lens
  have := h.pick_valid (List.range g.ps.length ++ List.range g.ps.length) (fun j hj => by
    rcases List.mem_append.1 hj with h | h <;> exact List.mem_range.1 h) (by simp; omega)
  have e : pkT g.tm (List.range g.ps.length ++ List.range g.ps.length) = twT g.tm := by
    have e1 := pk_self g.tm.P
    have e2 := pkL_self g.tm.Ls
    rw [hl.1] at e1
    rw [hl.2] at e2
    unfold pkT twT
    have a1 : pkP g.tm.P (List.range g.ps.length ++ List.range g.ps.length) = pkP g.tm.P (List.range g.ps.length) ++ pkP g.tm.P (List.range g.ps.length) := by simp [pkP]
    have a2 : pkL g.tm.Ls (List.range g.ps.length ++ List.range g.ps.length) = pkL g.tm.Ls (List.range g.ps.length) ++ pkL g.tm.Ls (List.range g.ps.length) := by simp [pkL]
    rw [a1, a2, e1, e2]
  rw [e] at this
  rw [this]
  cases hn : g.ps.length with
  | zero => omega
  | succ m => rw [List.range_succ]; simp
/-- What is kept. -/
def k1 (ps : List Int) (z : Int) (j : Nat) : Bool := decide (pAt ps j ≤ z)
def k2 (ps : List Int) (z : Int) (j : Nat) : Bool := decide (z < pAt ps j)
theorem filter_parts (p q : Nat → Bool) (n : Nat) (h : ∀ j, q j = !p j) : ((List.range n).filter p).length + ((List.range n).filter q).length = n := by
  induction n with
  | zero => rfl
  | succ n ih =>
    rw [List.range_succ, List.filter_append, List.filter_append, List.length_append, List.length_append]
    cases hp : p n <;> simp [hp, h n] <;> omega
theorem k12 (ps : List Int) (z : Int) : ((List.range ps.length).filter (k1 ps z)).length + ((List.range ps.length).filter (k2 ps z)).length = ps.length :=
  filter_parts _ _ _ fun j => by unfold k1 k2; by_cases h : pAt ps j ≤ z <;> simp [h] <;> omega
/-- -1000, 1000, a quarter. -/
theorem lo_fx : Fx 1 3296329728 (-2000) := Fx.of (by decide +kernel)
theorem hi_fx : Fx 2 1148846080 4000 := Fx.of (by decide +kernel)
theorem qr_fx : Fx 2 1048576000 1 := Fx.of (by decide +kernel)
theorem lo_fv : FV .f32 3296329728 3296329728 := ⟨by decide, by decide +kernel⟩
theorem hi_fv : FV .f32 1148846080 1148846080 := ⟨by decide, by decide +kernel⟩
theorem qr_fv : FV .f32 1048576000 1048576000 := ⟨by decide, by decide +kernel⟩
def upV (z : Int) : Nat := fop .add .f32 (hV z) 1048576000
theorem hV_fx2 (z : Int) (h0 : -4 ≤ z) (h1 : z ≤ 12) : Fx 2 (hV z) (z * 2) := (hV_fx z h0 h1).fine (k := 1) (l := 1) (by decide)
theorem upV_fx (z : Int) (h0 : -4 ≤ z) (h1 : z ≤ 12) : Fx 2 (upV z) (z * 2 + 1) := (hV_fx2 z h0 h1).fopAdd qr_fx (by decide) (by omega)
theorem cmp_geq (a b : Int) : (some (compare a b) == some Ordering.gt || some (compare a b) == some Ordering.eq) = decide (b ≤ a) := by
  by_cases h1 : a < b
  · rw [show compare a b = .lt from Int.compare_eq_lt.2 h1]; simp; omega
  · by_cases h2 : a = b
    · subst h2; rw [show compare a a = .eq from Int.compare_eq_eq.2 rfl]; simp
    · rw [show compare a b = .gt from Int.compare_eq_gt.2 (by omega)]; simp; omega
theorem cmp_leq (a b : Int) : (some (compare a b) == some Ordering.lt || some (compare a b) == some Ordering.eq) = decide (a ≤ b) := by
  by_cases h1 : a < b
  · rw [show compare a b = .lt from Int.compare_eq_lt.2 h1]; simp; omega
  · by_cases h2 : a = b
    · subst h2; rw [show compare a a = .eq from Int.compare_eq_eq.2 rfl]; simp
    · rw [show compare a b = .gt from Int.compare_eq_gt.2 (by omega)]; simp; omega
theorem keeps1 {g : GQ} (h : g.ok) (z : Int) (h0 : -4 ≤ z) (h1 : z ≤ 12) : Keeps g.tm.P 3296329728 (hV z) (k1 g.ps z) := fun j hj => by
  have hp := pAt_ok h.pz j
  have e : g.tm.P.getD j 0 = hV (pAt g.ps j) := getD_hV g.ps j
  have o1 : FloatKind.f32.format.order (hV (pAt g.ps j)) 3296329728 = some (compare (pAt g.ps j) (-2000)) := (hV_fx _ hp.1 hp.2).order lo_fx
  refine ⟨_, _, rfl, rfl, ?_⟩
  rw [e, o1, order_hV hp ⟨h0, h1⟩, cmp_geq, cmp_leq]
  unfold k1
  have : decide ((-2000 : Int) ≤ pAt g.ps j) = true := by simp; omega
  rw [this, Bool.true_and]
theorem keeps2 {g : GQ} (h : g.ok) (z : Int) (h0 : -4 ≤ z) (h1 : z ≤ 12) : Keeps g.tm.P (upV z) 1148846080 (k2 g.ps z) := fun j hj => by
  have hp := pAt_ok h.pz j
  have e : g.tm.P.getD j 0 = hV (pAt g.ps j) := getD_hV g.ps j
  have o1 : FloatKind.f32.format.order (hV (pAt g.ps j)) (upV z) = some (compare (pAt g.ps j * 2) (z * 2 + 1)) := (hV_fx2 _ hp.1 hp.2).order (upV_fx z h0 h1)
  have o2 : FloatKind.f32.format.order (hV (pAt g.ps j)) 1148846080 = some (compare (pAt g.ps j * 2) 4000) := (hV_fx2 _ hp.1 hp.2).order hi_fx
  refine ⟨_, _, rfl, rfl, ?_⟩
  rw [e, o1, o2, cmp_geq, cmp_leq]
  unfold k2
  have : decide (pAt g.ps j * 2 ≤ (4000 : Int)) = true := by simp; omega
  rw [this, Bool.and_true]
  by_cases hh : z < pAt g.ps j <;> simp [hh] <;> omega
/-- How used traces are matched. -/
theorem filter_more (u u' : Nat → Bool) (k : Nat) (L : List Nat) (hn : L.Nodup) (hk : k ∈ L) (h0 : u k = false) (h1 : u' k = true) (h2 : ∀ j, j ≠ k → u' j = u j) : (L.filter u').Perm (k :: L.filter u) := by
  induction L with
  | nil => cases hk
  | cons a r ih =>
    obtain ⟨ha, hr⟩ := List.nodup_cons.1 hn
    by_cases hak : a = k
    · subst hak
      have e : r.filter u' = r.filter u := List.filter_congr fun x hx => h2 x fun e => ha (e ▸ hx)
      rw [List.filter_cons, h1, if_pos rfl, List.filter_cons, h0, e]
      simp
    · have hk' : k ∈ r := by
        rcases List.mem_cons.1 hk with h | h
        · exact absurd h.symm hak
        · exact h
      have := ih hr hk'
      rw [List.filter_cons, List.filter_cons, h2 a hak]
      cases hu : u a with
      | false => simpa using this
      | true => simpa using (List.Perm.cons a this).trans (List.Perm.swap k a _)
theorem filter_both (u : Nat → Bool) (L : List Nat) : (L.filter u ++ L.filter fun x => !u x).Perm L := by
  induction L with
  | nil => exact List.Perm.refl _
  | cons a r ih =>
    cases hu : u a with
    | true => simpa [hu] using List.Perm.cons a ih
    | false =>
      have : (r.filter u ++ a :: r.filter fun x => !u x).Perm (a :: (r.filter u ++ r.filter fun x => !u x)) := List.perm_middle
      simpa [hu] using this.trans (List.Perm.cons a ih)
/-- The first i of the sorted are matched by what is used. -/
def Mat (g : GQ) (u : Nat → Bool) (i : Nat) : Prop := (((List.range g.ps.length).filter u).map (prA g.ps g.zss)).Perm (((sJ g.ps).take i).map (prA g.ps g.zss))
theorem Mat.zero (g : GQ) : Mat g (fun _ => false) 0 := by unfold Mat; simp
theorem Mat.some {g : GQ} {u : Nat → Bool} {i : Nat} (h : Mat g u i) (hi : i < g.ps.length) : ∃ k, k < g.ps.length ∧ u k = false ∧ prA g.ps g.zss k = prA g.ps g.zss ((sJ g.ps).getD i 0) := by
  have hi' : i < (sJ g.ps).length := by rw [sJ_length]; exact hi
  have p1 := (filter_both u (List.range g.ps.length)).map (prA g.ps g.zss)
  have p2 := ((sJ_perm g.ps).symm).map (prA g.ps g.zss)
  have p3 := p1.trans p2
  rw [List.map_append, ← List.take_append_drop i (sJ g.ps), List.map_append] at p3
  have p4 := (List.perm_append_left_iff _).1 ((h.symm.append_right _).trans p3)
  have hm : prA g.ps g.zss ((sJ g.ps).getD i 0) ∈ ((sJ g.ps).drop i).map (prA g.ps g.zss) := by
    refine List.mem_map.2 ⟨_, ?_, rfl⟩
    rw [List.drop_eq_getElem_cons hi', List.getD_eq_getElem?_getD, List.getElem?_eq_getElem hi']
    exact List.mem_cons_self
  obtain ⟨k, hk, he⟩ := List.mem_map.1 (p4.mem_iff.2 hm)
  obtain ⟨hk1, hk2⟩ := List.mem_filter.1 hk
  exact ⟨k, List.mem_range.1 hk1, by simpa using hk2, he⟩
theorem Mat.next {g : GQ} {u u' : Nat → Bool} {i k : Nat} (h : Mat g u i) (hi : i < g.ps.length) (hk : k < g.ps.length) (h0 : u k = false) (h1 : u' k = true) (h2 : ∀ j, j ≠ k → u' j = u j) (he : prA g.ps g.zss k = prA g.ps g.zss ((sJ g.ps).getD i 0)) : Mat g u' (i + 1) := by
  have hi' : i < (sJ g.ps).length := by rw [sJ_length]; exact hi
  unfold Mat at *
  refine ((filter_more u u' k _ List.nodup_range (List.mem_range.2 hk) h0 h1 h2).map _).trans ?_
  rw [List.map_cons, he, take_succJ (sJ g.ps) i _ hi' rfl, List.map_append]
  refine (List.Perm.cons _ h).trans ?_
  exact (List.perm_append_comm (l₁ := [prA g.ps g.zss ((sJ g.ps).getD i 0)]))
/-- What is muted. -/
theorem early_all : ((List.range 17).all fun z => (List.range 12).all fun k => early (hV ((z : Int) - 4)) 1056964608 k == decide ((k : Int) < ((z : Int) - 4).natAbs)) = true := by decide +kernel
theorem early_is (z : Int) (h : -4 ≤ z ∧ z ≤ 12) (k : Nat) (hk : k < 12) : early (hV z) 1056964608 k = decide ((k : Int) < z.natAbs) := by
  have := List.all_eq_true.1 (List.all_eq_true.1 early_all (z + 4).toNat (List.mem_range.2 (by omega))) k (List.mem_range.2 hk)
  rw [show (((z + 4).toNat : Nat) : Int) - 4 = z by omega] at this
  simpa using this
theorem half_fv : FV .f32 1056964608 1056964608 := ⟨by decide, by decide +kernel⟩
theorem half_pos : posB 1056964608 = true := by decide +kernel
end Go.Proofs.Ythacadbdncfocaa

/- FnStacks: sums of ticks and semblances, plain. -/
namespace Go.Proofs.Ythacadbdncfocaa
open Go Ieee

/-- Number k of trace i. -/
def numL (Ls : List (List Nat)) (i k : Nat) : Nat := (rowAt Ls i).getD k 0
/-- The sum of tick k over the first j traces. -/
def stkF (Ls : List (List Nat)) (k : Nat) : Nat → Nat
  | 0 => 0
  | j + 1 => fop .add .f32 (stkF Ls k j) (numL Ls j k)
def livN (Ls : List (List Nat)) (k : Nat) : Nat → Nat
  | 0 => 0
  | j + 1 => livN Ls k j + (if FloatKind.f32.format.order (numL Ls j k) 0 == some .eq then 0 else 1)
theorem livN_le (Ls : List (List Nat)) (k j : Nat) : livN Ls k j ≤ j := by
  induction j with
  | zero => exact Nat.le_refl _
  | succ j ih => unfold livN; split <;> omega
/-- The squares of tick k over the first j traces, added to a. -/
def sqF (Ls : List (List Nat)) (k a : Nat) : Nat → Nat
  | 0 => a
  | j + 1 => fop .add .f32 (sqF Ls k a j) (fop .mul .f32 (numL Ls j k) (numL Ls j k))
/-- The squares of the sums of c ticks. -/
def semO (Ls : List (List Nat)) (lo : Nat) : Nat → Nat
  | 0 => 0
  | c + 1 => fop .add .f32 (semO Ls lo c) (fop .mul .f32 (stkF Ls (lo + c) Ls.length) (stkF Ls (lo + c) Ls.length))
def semA (Ls : List (List Nat)) (lo : Nat) : Nat → Nat
  | 0 => 0
  | c + 1 => sqF Ls (lo + c) (semA Ls lo c) Ls.length
def semB (Ls : List (List Nat)) (lo c : Nat) : Nat := fop .mul .f32 (floatOfInt .f32 (Ls.length : Nat)) (semA Ls lo c)
def semF (Ls : List (List Nat)) (lo c : Nat) : Nat := if FloatKind.f32.format.order (semB Ls lo c) 0 == some .gt then fop .quo .f32 (semO Ls lo c) (semB Ls lo c) else 0
/-- The window. -/
def semLo (k r : Nat) : Nat := k - r
def semC (T k r : Nat) : Nat := min (T - 1) (k + r) + 1 - semLo k r
/-- Traces in quarters. -/
def Qts (Ls : List (List Nat)) (n T : Nat) (z : Nat → Nat → Int) : Prop := Ls.length = n ∧ n ≤ 4 ∧ ∀ i, i < n → (rowAt Ls i).length = T ∧ ∀ k, k < T → Fx 2 (numL Ls i k) (z i k) ∧ -8 ≤ z i k ∧ z i k ≤ 8
def sumZ (z : Nat → Nat → Int) (k : Nat) : Nat → Int
  | 0 => 0
  | j + 1 => sumZ z k j + z j k
def sqZ (z : Nat → Nat → Int) (k : Nat) : Nat → Int
  | 0 => 0
  | j + 1 => sqZ z k j + z j k * z j k
def smO (z : Nat → Nat → Int) (n lo : Nat) : Nat → Int
  | 0 => 0
  | c + 1 => smO z n lo c + sumZ z (lo + c) n * sumZ z (lo + c) n
def smA (z : Nat → Nat → Int) (n lo : Nat) : Nat → Int
  | 0 => 0
  | c + 1 => smA z n lo c + sqZ z (lo + c) n
/-- Cauchy's inequality. -/
theorem cauchy (z : Nat → Nat → Int) (k : Nat) : ∀ n : Nat, sumZ z k n * sumZ z k n ≤ (n : Int) * sqZ z k n ∧ 0 ≤ sqZ z k n
  | 0 => ⟨by simp [sumZ], by simp [sqZ]⟩
  | n + 1 => by
    obtain ⟨h1, h2⟩ := cauchy z k n
    unfold sumZ sqZ
    generalize sumZ z k n = S at *
    generalize sqZ z k n = Q at *
    generalize z n k = x
    have hx := sq_nn x
    refine ⟨?_, by omega⟩
    rcases Nat.eq_zero_or_pos n with rfl | hn
    · have hS : S * S = 0 := by
        have := sq_nn S
        simp at h1
        omega
      have hS0 : S = 0 := by rcases Int.mul_eq_zero.1 hS with h | h <;> exact h
      subst hS0
      simp
      omega
    · have h3 := sq_nn (S - n * x)
      have hn' : (0 : Int) < n := by omega
      -- n (n+1) (Q + x^2) - n (S + x)^2 = ..
      have h4 : (n : Int) * ((S + x) * (S + x)) ≤ n * (((n + 1 : Nat) : Int) * (Q + x * x)) := by
        have e1 : (n : Int) * (((n + 1 : Nat) : Int) * (Q + x * x)) - n * ((S + x) * (S + x)) = (n * (n * Q - S * S)) + ((n * Q - S * S) + (S - n * x) * (S - n * x)) := by
          rw [show ((n + 1 : Nat) : Int) = (n : Int) + 1 by omega]
          grind
        have h5 : 0 ≤ (n : Int) * (n * Q - S * S) := Int.mul_nonneg (by omega) (by omega)
        omega
      exact Int.le_of_mul_le_mul_left h4 hn'
theorem sumZ_bound (z : Nat → Nat → Int) (k n : Nat) (h : ∀ i, i < n → -8 ≤ z i k ∧ z i k ≤ 8) : -(8 * n) ≤ sumZ z k n ∧ sumZ z k n ≤ 8 * n ∧ 0 ≤ sqZ z k n ∧ sqZ z k n ≤ 64 * n := by
  induction n with
  | zero => simp [sumZ, sqZ]
  | succ n ih =>
    obtain ⟨h1, h2, h3, h4⟩ := ih fun i hi => h i (by omega)
    obtain ⟨h5, h6⟩ := h n (by omega)
    unfold sumZ sqZ
    have h7 := sq_nn (z n k)
    have h8 : z n k * z n k ≤ 64 := by
      have : 0 ≤ (8 - z n k) * (8 + z n k) := Int.mul_nonneg (by omega) (by omega)
      have e : (8 - z n k) * (8 + z n k) = 64 - z n k * z n k := by grind
      omega
    omega
theorem stk_fx {Ls : List (List Nat)} {n T : Nat} {z : Nat → Nat → Int} (h : Qts Ls n T z) (k : Nat) (hk : k < T) (j : Nat) (hj : j ≤ n) : Fx 2 (stkF Ls k j) (sumZ z k j) := by
  induction j with
  | zero => exact Fx.zero 2
  | succ j ih =>
    have h1 := ih (by omega)
    have h2 := (h.2.2 j (by omega)).2 k hk
    have hb := sumZ_bound z k (j + 1) fun i hi => ((h.2.2 i (by omega)).2 k hk).2
    exact h1.fopAdd h2.1 (by decide) (by have := h.2.1; unfold sumZ at hb; omega)
theorem sq_fx {Ls : List (List Nat)} {n T : Nat} {z : Nat → Nat → Int} (h : Qts Ls n T z) (k : Nat) (hk : k < T) (a : Nat) (A : Int) (ha : Fx 4 a A) (hA : A.natAbs ≤ 100000) (j : Nat) (hj : j ≤ n) : Fx 4 (sqF Ls k a j) (A + sqZ z k j) := by
  induction j with
  | zero => unfold sqF sqZ; rw [Int.add_zero]; exact ha
  | succ j ih =>
    have h1 := ih (by omega)
    have h2 := (h.2.2 j (by omega)).2 k hk
    have hb := sumZ_bound z k (j + 1) fun i hi => ((h.2.2 i (by omega)).2 k hk).2
    have hb2 := sumZ_bound z k j fun i hi => ((h.2.2 i (by omega)).2 k hk).2
    have hn4 := h.2.1
    unfold sqF sqZ
    unfold sqZ at hb
    have h3 := h2.1.fopMul h2.1 (by decide) (by omega)
    rw [← Int.add_assoc]
    exact h1.fopAdd h3 (by decide) (by omega)
theorem sem_fx {Ls : List (List Nat)} {n T : Nat} {z : Nat → Nat → Int} (h : Qts Ls n T z) (lo c : Nat) (hc : lo + c ≤ T) (hT : T ≤ 20) : Fx 4 (semO Ls lo c) (smO z n lo c) ∧ Fx 4 (semA Ls lo c) (smA z n lo c) ∧ 0 ≤ smO z n lo c ∧ smO z n lo c ≤ 1024 * c ∧ 0 ≤ smA z n lo c ∧ smA z n lo c ≤ 256 * c ∧ smO z n lo c ≤ n * smA z n lo c := by
  induction c with
  | zero => exact ⟨Fx.zero 4, Fx.zero 4, by simp [smO], by simp [smO], by simp [smA], by simp [smA], by simp [smO, smA]⟩
  | succ c ih =>
    obtain ⟨h1, h2, h3, h4, h5, h6, h7⟩ := ih (by omega)
    have hn4 := h.2.1
    have hs := stk_fx h (lo + c) (by omega) n (Nat.le_refl _)
    have hb := sumZ_bound z (lo + c) n fun i hi => ((h.2.2 i hi).2 (lo + c) (by omega)).2
    obtain ⟨hcs, hcq⟩ := cauchy z (lo + c) n
    have hsq : 0 ≤ sumZ z (lo + c) n * sumZ z (lo + c) n ∧ sumZ z (lo + c) n * sumZ z (lo + c) n ≤ 1024 := by
      refine ⟨sq_nn _, ?_⟩
      have : 0 ≤ (32 - sumZ z (lo + c) n) * (32 + sumZ z (lo + c) n) := Int.mul_nonneg (by omega) (by omega)
      have e : (32 - sumZ z (lo + c) n) * (32 + sumZ z (lo + c) n) = 1024 - sumZ z (lo + c) n * sumZ z (lo + c) n := by grind
      omega
    have hsf := hs.fopMul hs (by decide) (by omega)
    have hL : Ls.length = n := h.1
    unfold semO semA smO smA
    rw [hL]
    refine ⟨h1.fopAdd hsf (by decide) (by omega), sq_fx h (lo + c) (by omega) _ _ h2 (by omega) n (Nat.le_refl _), by omega, by omega, by omega, by omega, ?_⟩
    rw [Int.mul_add]
    omega
/-- The semblance of traces in quarters: from 0 to 1, nearly. -/
theorem sem_rq {Ls : List (List Nat)} {n T : Nat} {z : Nat → Nat → Int} (h : Qts Ls n T z) (lo c : Nat) (hc : lo + c ≤ T) (hT : T ≤ 20) :
    ∃ q d : Rat, RQ .f32 (semF Ls lo c) (q + d) ∧ 0 ≤ q + d ∧ q ≤ 1 ∧ Ab d (1 / 1000000) ∧ (smO z n lo c = n * smA z n lo c → q + d = 0 ∨ q = 1) := by
  obtain ⟨h1, h2, h3, h4, h5, h6, h7⟩ := sem_fx h lo c hc hT
  have hn4 := h.2.1
  have hn : Fx 0 (floatOfInt .f32 (n : Nat)) (n : Nat) := Fx.ofInt (n : Nat) (by omega)
  have hnA : 0 ≤ (n : Int) * smA z n lo c ∧ (n : Int) * smA z n lo c ≤ 1024 * c := by
    refine ⟨Int.mul_nonneg (by omega) h5, ?_⟩
    have := Int.mul_le_mul_of_nonneg_right (show (n : Int) ≤ 4 by omega) h5
    omega
  have hB : Fx 4 (semB Ls lo c) ((n : Int) * smA z n lo c) := by
    have := hn.fopMul h2 (by decide) (by omega)
    unfold semB
    rw [h.1]
    exact this
  have ho : FloatKind.f32.format.order (semB Ls lo c) 0 = some (compare ((n : Int) * smA z n lo c) 0) := hB.order (Fx.zero 4)
  unfold semF
  rw [ho]
  have hz : RQ .f32 0 0 := ⟨false, 0, -149, by decide +kernel, by decide +kernel⟩
  generalize hP : (n : Int) * smA z n lo c = P at *
  by_cases hp : 0 < P
  · rw [Int.compare_eq_gt.2 hp]
    rw [if_pos (by rfl)]
    have r1 := h1.rq (by decide)
    have r2 := hB.rq (by decide)
    have hPr : (0 : Rat) < P := by exact_mod_cast hp
    have hO0 : (0 : Rat) ≤ smO z n lo c := by exact_mod_cast h3
    have hOP : (smO z n lo c : Rat) ≤ P := by exact_mod_cast h7
    generalize smO z n lo c = O at *
    have hs := sc_pos (-(4 : Nat) : Int)
    obtain ⟨q, hq⟩ : ∃ q : Rat, (O : Rat) / P = q := ⟨_, rfl⟩
    have hqP : q * P = O := by rw [← hq]; exact Rat.div_mul_cancel (by grind)
    have hq0 : 0 ≤ q := by
      by_cases hh : 0 ≤ q
      · exact hh
      · have : q * P < 0 * P := Rat.mul_lt_mul_of_pos_right (by grind) hPr
        grind
    have hq1 : q ≤ 1 := by
      by_cases hh : q ≤ 1
      · exact hh
      · have : 1 * P < q * P := Rat.mul_lt_mul_of_pos_right (by grind) hPr
        grind
    have hbn : (P : Rat) * sc (-(4 : Nat) : Int) ≠ 0 := by
      have := Rat.mul_pos hPr hs
      grind
    have hqb : q * ((P : Rat) * sc (-(4 : Nat) : Int)) = O * sc (-(4 : Nat) : Int) := by rw [← hqP]; grind
    by_cases hO : O = 0
    · have hq00 : q = 0 := by
        rw [hO] at hqP
        rw [show ((0 : Int) : Rat) = 0 from rfl] at hqP
        rcases Rat.mul_eq_zero.1 hqP with h | h
        · exact h
        · grind
      have r3 := RQ.quo_rep (q := q) (g := 0) r1 r2 hbn hqb ⟨0, by rw [hq00, show ((0 : Int) : Rat) = 0 from rfl]; grind, by decide, by decide, by decide⟩
      exact ⟨q, 0, by rw [show q + 0 = q by grind]; exact r3, by grind, hq1, by unfold Ab; grind, fun _ => .inl (by grind)⟩
    · obtain ⟨d, r3, r4⟩ := RQ.quo (q := q) (B := 1) r1 r2 hbn hqb (by unfold Ab; grind) (big_top (by grind))
      have h1u := uu32
      have h2t := tt32
      rw [h1u] at r4
      have hd : Ab d (1 / 1000000) := r4.mono (by grind)
      have hO1 : (1 : Rat) ≤ O := by
        have : 1 ≤ O := by omega
        exact_mod_cast this
      have hP20 : (P : Rat) ≤ 20480 := by
        have := Rat.intCast_le_intCast.2 (show P ≤ 20480 by omega)
        rwa [show ((20480 : Int) : Rat) = 20480 from rfl] at this
      have hq2 : 1 / 20480 ≤ q := by
        by_cases hh : 1 / 20480 ≤ q
        · exact hh
        · have a1 : q * P ≤ 1 / 20480 * P := Rat.mul_le_mul_of_nonneg_right (by grind) (Rat.le_of_lt hPr)
          have a2 : q * 20480 < 1 := by grind
          have a3 : q * P ≤ q * 20480 := Rat.mul_le_mul_of_nonneg_left hP20 hq0
          grind
      refine ⟨q, d, r3, by unfold Ab at hd; grind, hq1, hd, fun he => .inr ?_⟩
      have hOP2 : (O : Rat) = P := by rw [he]
      have hz2 : (q - 1) * P = 0 := by grind
      rcases Rat.mul_eq_zero.1 hz2 with h | h <;> grind
  · have hP0 : P = 0 := by omega
    subst hP0
    rw [show compare (0 : Int) 0 = .eq from Int.compare_eq_eq.2 rfl]
    refine ⟨0, 0, ?_, by grind, by grind, by unfold Ab; grind, fun _ => .inl (by grind)⟩
    rw [if_neg (by decide), show (0 : Rat) + 0 = 0 by grind]
    exact hz
end Go.Proofs.Ythacadbdncfocaa

/- Walks on a seat of gathers: sums of ticks, stacks, semblances. -/
namespace Go.Proofs.Ythacadbdncfocaa
open Go Go.RowKit

theorem box3b {w wq : World} {b : Nat} {x y z : Value} (h : w.heap[b]? = some (.cells #[x, y, z] 44 (0, 0))) (hx : Ext w wq) : wq.cell? ⟨b, 0, none⟩ = some x ∧ wq.cell? ⟨b, 1, none⟩ = some y ∧ wq.cell? ⟨b, 2, none⟩ = some z := by
  have hb := (Array.getElem?_eq_some_iff.1 h).1
  obtain ⟨k0, k1, k2, -, -, -⟩ := blk3 ((hx.block b hb).trans h)
  exact ⟨k0, k1, k2⟩
/-- Number k of trace j, in memory. -/
theorem num_at {w : World} {a : Option Addr} {n c : Nat} {Ls : List (List Nat)} (h : RdSS w (.slice a n c) Ls) (hn : Ls.length = n) (j k : Nat) (hj : j < n) (hk : k < (rowAt Ls j).length) :
    ∃ b o b2 o2 c' r, a = some ⟨b, o, none⟩ ∧ b < w.heap.size ∧ w.cell? ⟨b, o + j, none⟩ = some (.slice (some ⟨b2, o2, none⟩) (rowAt Ls j).length c') ∧ b2 < w.heap.size ∧ w.cell? ⟨b2, o2 + k, none⟩ = some (.float .f32 r) ∧ FV .f32 r (numL Ls j k) := by
  obtain ⟨a0, c0, hv, -, -, hc⟩ := h.opened
  cases hv
  obtain ⟨b, o, a', c', ha, h0, h1, h2⟩ := hc j (by omega)
  obtain ⟨a2, c2, hv2, -, -, hc2⟩ := h2.opened
  cases hv2
  obtain ⟨b2, o2, r, rfl, h3, h4⟩ := hc2 k hk
  exact ⟨b, o, b2, o2, c', r, ha, h0, h1, block_lt h3, h3, h4⟩
set_option maxRecDepth 100000 in
set_option maxHeartbeats 1600000 in
theorem stack_any (w : World) (vp vt : Value) (T : TM) (k : Nat) (hL : RdSS w vt T.Ls) (hn : T.Ls.length ≤ 16) (hk : ∀ j, j < T.Ls.length → k < (rowAt T.Ls j).length) (hk2 : ∀ j, (rowAt T.Ls j).length ≤ 64) :
    Calls Try.prog 56 #[.agg #[.int .i64 T.t, vp, vt], .int .i64 (k : Nat)] w fun e w' => ∃ r, e = .returned (.tuple #[.float .f32 r, .int .i64 (livN T.Ls k T.Ls.length : Nat)]) ∧ FV .f32 r (stkF T.Ls k T.Ls.length) ∧ Ext w w' := by
  have hadd := run_fadd (P := Try.prog)
  obtain ⟨a, c, rfl, -, -, -⟩ := hL.opened
  obtain ⟨n, hnn⟩ : ∃ n, T.Ls.length = n := ⟨_, rfl⟩
  obtain ⟨W, hW⟩ : ∃ W, w.alloc (.cells #[.int .i64 T.t, vp, .slice a T.Ls.length c] 44) = W := ⟨_, rfl⟩
  have x0 : Ext w W := by rw [← hW]; exact (Below.refl _ _).alloc (Nat.le_refl _) _
  have HB : Hid (W.heap[w.heap.size]? = some (.cells #[.int .i64 T.t, vp, .slice a T.Ls.length c] 44 (0, 0))) := Lib.hid (by rw [← hW]; exact alloc_new _ _)
  have HL := Lib.hid (show RdSS W (.slice a T.Ls.length c) T.Ls from hL.mono x0)
  have X0 := Lib.hid x0
  have HNN := Lib.hid hnn
  have HK := Lib.hid hk
  have HK2 := Lib.hid hk2
  rw [hnn] at hn HB HL hW ⊢
  clear hL x0 hnn hk hk2
  obtain ⟨k0, k1, k2⟩ := box3b HB.out (Ext.refl _)
  go_enter Try.func56, Try.ntmps56
  go_wp2_with fail
  clear hW k0 k1 k2
  go_loopw [6, 7, 13] (fun s l i wr => ∃ j r nd : Nat, j ≤ n ∧ i = .int .i64 j ∧ s = .float .f32 r ∧ FV .f32 r (stkF T.Ls k j) ∧ l = .int .i64 (livN T.Ls k j : Nat) ∧ wr = W.drewN nd) (fun _ _ i _ => n - (intOf i).toNat)
  case atStart => exact ⟨0, 0, 0, Nat.zero_le _, rfl, rfl, fv0 _, rfl, rfl⟩
  case round =>
    obtain ⟨j, r, nd, hj, rfl, rfl, hr, rfl, hwr⟩ := hrel
    have HF := Lib.hid hr
    have HL2 := Lib.hid (show RdSS wr (.slice a n c) T.Ls from by rw [hwr]; exact HL.out.mono (Below.drewN (Below.refl _ _) nd))
    have HWR := Lib.hid hwr
    clear hr hwr
    by_cases hlt : j < n
    · have hjl : j < T.Ls.length := by have := HNN.out; omega
      have hkl := HK.out j hjl
      have hrl := HK2.out j
      obtain ⟨b, o, b2, o2, c', r2, rfl, -, e1, -, e2, f2⟩ := num_at HL2.out HNN.out j k hlt hkl
      have HF2 := Lib.hid f2
      have hki : (k : Int) < ((rowAt T.Ls j).length : Int) := by omega
      have hji : (j : Int) < (n : Int) := by omega
      have hlv := livN_le T.Ls k j
      have HS : Hid (stkF T.Ls k (j + 1) = fop .add .f32 (stkF T.Ls k j) (numL T.Ls j k)) := Lib.hid rfl
      have hord : (FloatKind.f32.format.order r2 0 == some Ordering.eq) = (FloatKind.f32.format.order (numL T.Ls j k) 0 == some Ordering.eq) := by rw [FV.order f2 (fv0 _)]
      cases hz : (FloatKind.f32.format.order r2 0 != some Ordering.eq) with
      | true =>
        have hl : Hid (livN T.Ls k (j + 1) = livN T.Ls k j + 1) := Lib.hid (by
          have : (FloatKind.f32.format.order (numL T.Ls j k) 0 == some Ordering.eq) = false := by rw [← hord]; simpa [bne] using hz
          show livN T.Ls k j + (if FloatKind.f32.format.order (numL T.Ls j k) 0 == some .eq then 0 else 1) = _
          rw [this]; rfl)
        clear f2 hkl hord hrl hjl
        go_wp2_with fail
        exact ⟨⟨j + 1, _, nd + fcnt .add .f32 r r2, by omega, by go_num, rfl, by rw [HS.out]; exact HF.out.op HF2.out _, by rw [hl.out]; go_num, by rw [HWR.out, World.drewN_drewN]⟩, by simp [intOf]; omega⟩
      | false =>
        have hl : Hid (livN T.Ls k (j + 1) = livN T.Ls k j) := Lib.hid (by
          have : (FloatKind.f32.format.order (numL T.Ls j k) 0 == some Ordering.eq) = true := by rw [← hord]; simpa [bne] using hz
          show livN T.Ls k j + (if FloatKind.f32.format.order (numL T.Ls j k) 0 == some .eq then 0 else 1) = _
          rw [this]; rfl)
        clear f2 hkl hord hrl hjl
        go_wp2_with fail
        exact ⟨⟨j + 1, _, nd + fcnt .add .f32 r r2, by omega, by go_num, rfl, by rw [HS.out]; exact HF.out.op HF2.out _, by rw [hl.out], by rw [HWR.out, World.drewN_drewN]⟩, by simp [intOf]; omega⟩
    · obtain rfl : j = n := by omega
      go_wp2_with fail
      go_ret2
      exact ⟨_, rfl, HF.out, by rw [HWR.out]; exact Below.drewN X0.out nd⟩
/-- The means. -/
def stkL (Ls : List (List Nat)) (t : Nat) : List Nat := (List.range t).map fun k => fop .quo .f32 (stkF Ls k Ls.length) (floatOfInt .f32 (Ls.length : Nat))
theorem stkL_succ (Ls : List (List Nat)) (t : Nat) : stkL Ls (t + 1) = stkL Ls t ++ [fop .quo .f32 (stkF Ls t Ls.length) (floatOfInt .f32 (Ls.length : Nat))] := by simp [stkL, List.range_succ]
theorem stkL_length (Ls : List (List Nat)) (t : Nat) : (stkL Ls t).length = t := by simp [stkL]
set_option maxRecDepth 100000 in
set_option maxHeartbeats 3200000 in
theorem stackOf_any (w : World) (vp vt : Value) (P : List Nat) (Ls : List (List Nat)) (t : Nat) (hP : RdF w vp P) (hL : RdSS w vt Ls) (hl : Ls.length = P.length) (hn : P.length ≤ 16) (ht : t ≤ 64) (hk : ∀ j, j < Ls.length → (rowAt Ls j).length = t) (hv : validT ⟨t, P, Ls⟩ = true) :
    Calls Try.prog 21 #[.agg #[.int .i64 (t : Nat), vp, vt]] w fun e w' => ∃ v', e = .returned (.tuple #[v', .bool true]) ∧ OwnF w' w.heap.size v' (stkL Ls t) ∧ Ext w w' := by
  have hquo := run_fquo (P := Try.prog)
  obtain ⟨a1, c1, rfl, -, -, -⟩ := hP.opened
  obtain ⟨a2, c2, rfl, -, -, -⟩ := hL.opened
  have hrow : ∀ j, (rowAt Ls j).length ≤ 64 := fun j => by
    by_cases hj : j < Ls.length
    · rw [hk j hj]; exact ht
    · unfold rowAt; rw [List.getD_eq_getElem?_getD, List.getElem?_eq_none (by omega)]; simp
  obtain ⟨W, hW⟩ : ∃ W, w.alloc (.cells #[.int .i64 (t : Nat), .slice a1 P.length c1, .slice a2 Ls.length c2] 44) = W := ⟨_, rfl⟩
  have x0 : Ext w W := by rw [← hW]; exact (Below.refl _ _).alloc (Nat.le_refl _) _
  have HB : Hid (W.heap[w.heap.size]? = some (.cells #[.int .i64 (t : Nat), .slice a1 P.length c1, .slice a2 Ls.length c2] 44 (0, 0))) := Lib.hid (by rw [← hW]; exact alloc_new _ _)
  have HV := Lib.hid (implValidGather_any W (.agg #[.int .i64 (t : Nat), .slice a1 P.length c1, .slice a2 Ls.length c2]) ⟨t, P, Ls⟩ ⟨_, _, rfl, hP.mono x0, hL.mono x0⟩ ⟨by show P.length ≤ _; omega, by show Ls.length ≤ _; omega, fun j _ => by have := hrow j; show (rowAt Ls j).length ≤ _; omega⟩)
  rw [hv] at HV
  have HS := Lib.hid (fun (wq : World) (hq : Ext W wq) (k : Nat) (hkt : k < t) => stack_any wq (.slice a1 P.length c1) (.slice a2 Ls.length c2) ⟨t, P, Ls⟩ k (hL.mono (x0.trans hq)) (by show Ls.length ≤ 16; omega) (fun j hj => by show k < (rowAt Ls j).length; rw [hk j hj]; exact hkt) hrow)
  have X0 := Lib.hid x0
  have HZ : Hid (W.heap.size = w.heap.size + 1) := Lib.hid (by rw [← hW]; exact World.size_alloc _ _)
  clear hP hL hk hv hrow x0
  obtain ⟨n, hnn⟩ : ∃ n, Ls.length = n := ⟨_, rfl⟩
  have HNN := Lib.hid hnn
  rw [hnn] at hl
  have HLP := Lib.hid hl
  rw [hnn] at HB HV HS hW ⊢
  have hn16 : n ≤ 16 := by omega
  clear hnn hl
  obtain ⟨k0, k1, k2⟩ := box3b HB.out (Ext.refl _)
  go_enter Try.func21, Try.ntmps21
  go_wp2_with fail
  clear hW k0 k1 k2
  refine HV.out.mono ?_
  clear HV
  rintro e w1 ⟨rfl, b1⟩
  have X1 := Lib.hid (show Ext W w1 from b1)
  obtain ⟨k0, k1, k2⟩ := box3b HB.out X1.out
  clear b1
  go_wp2_with fail
  clear k0 k1 k2
  go_loopw [4, 13] (fun o i wr => ∃ j : Nat, j ≤ t ∧ i = .int .i64 j ∧ OwnF wr (w.heap.size + 1) o (stkL Ls j) ∧ Ext W wr) (fun _ i _ => t - (intOf i).toNat)
  case atStart => exact ⟨0, Nat.zero_le _, rfl, OwnF.nil _ _, X1.out⟩
  case round =>
    obtain ⟨wi, rfl⟩ : ∃ wi : World, wi = wr := ⟨_, rfl⟩
    obtain ⟨j, hj, rfl, ho, hx⟩ := hrel
    have HO := Lib.hid ho
    have HX := Lib.hid hx
    have zi := hx.size
    clear ho hx
    by_cases hlt : j < t
    · have hji : (j : Int) < (t : Int) := by omega
      obtain ⟨k0, k1, k2⟩ := box3b HB.out HX.out
      go_wp2_with fail
      clear k0 k1 k2
      refine (HS.out wi HX.out j hlt).mono ?_
      rintro e w2 ⟨r, rfl, hr, x2⟩
      have hr' : FV .f32 r (stkF Ls j n) := hr
      have X2 := Lib.hid (Ext.trans HX.out x2)
      have O2 := Lib.hid (HO.out.kept x2)
      have HF := Lib.hid hr'
      have z2 := X2.out.size
      obtain ⟨lv, hlv⟩ : ∃ lv : Nat, livN Ls j n = lv := ⟨_, rfl⟩
      rw [hlv]
      clear hr hr' x2 hlv
      obtain ⟨k0, k1, k2⟩ := box3b HB.out X2.out
      obtain ⟨q, hq⟩ : ∃ q, fres .quo .f32 r (floatOfInt .f32 (n : Nat)) w2 = q := ⟨_, rfl⟩
      have HQ : Hid (FV .f32 q (fop .quo .f32 (stkF Ls j Ls.length) (floatOfInt .f32 (Ls.length : Nat)))) := Lib.hid (by rw [← hq, HNN.out]; exact HF.out.op (floatOfInt_fv .f32 (n : Nat)) w2)
      have hqr : ∀ ty, (binOp .quo ty (.float .f32 r) (.float .f32 (floatOfInt .f32 (n : Nat)))).run Try.prog w2 = .ok (.float .f32 q) (w2.drewN (fcnt .quo .f32 r (floatOfInt .f32 (n : Nat)))) := fun ty => by rw [← hq]; exact hquo w2 ty .f32 _ _
      obtain ⟨W2, hW2⟩ : ∃ W2, w2.drewN (fcnt .quo .f32 r (floatOfInt .f32 (n : Nat))) = W2 := ⟨_, rfl⟩
      rw [hW2] at hqr
      have X3 : Hid (Ext W W2) := Lib.hid (by rw [← hW2]; exact Below.drewN X2.out _)
      have xa : Ext W2 (W2.alloc (.cells #[.float .f32 q] 27)) := (Below.refl _ _).alloc (Nat.le_refl _) _
      have HOA : Hid (OwnF (W2.alloc (.cells #[.float .f32 q] 27)) (w.heap.size + 1) u4 (stkL Ls j)) := Lib.hid (OwnF.kept (by rw [← hW2]; exact O2.out.drewN _) xa)
      have z3 := X3.out.size
      have zW := HZ.out
      have za : (W2.alloc (.cells #[.float .f32 q] 27)).heap.size = W2.heap.size + 1 := World.size_alloc _ _
      have XA := Lib.hid xa
      clear hquo xa hq
      go_wp2_with (at_builtin; go_must (refine wpList_push rfl _ _ rfl (w.heap.size + 1) _ (stkL Ls j) rfl HOA.out _ _ _ _ rfl (cell_new _ _ _) HQ.out (by rw [stkL_length]; omega) (by omega) ?_); intro v9 w9 o9 g9 b9 l9)
      exact ⟨⟨j + 1, by omega, by go_num, by rw [stkL_succ]; exact o9, Below.trans X3.out (Below.trans (Below.mono XA.out z3) (Below.mono b9 (by omega)))⟩, by simp [intOf]; omega⟩
    · obtain rfl : j = t := by omega
      go_wp2_with fail
      go_ret2
      exact ⟨_, rfl, HO.out.mono (by omega), Ext.trans X0.out HX.out⟩
/-- The means of the numbers that are not zero. -/
def livV (Ls : List (List Nat)) (k : Nat) : Nat := if livN Ls k Ls.length = 0 then 0 else fop .quo .f32 (stkF Ls k Ls.length) (floatOfInt .f32 (livN Ls k Ls.length : Nat))
def livL (Ls : List (List Nat)) (t : Nat) : List Nat := (List.range t).map (livV Ls)
theorem livL_length (Ls : List (List Nat)) (t : Nat) : (livL Ls t).length = t := by simp [livL]
theorem livL_at (Ls : List (List Nat)) (t k : Nat) (h : k < t) : (livL Ls t).getD k 0 = livV Ls k := by simp [livL, List.getD_eq_getElem?_getD, List.getElem?_map, List.getElem?_range h]
theorem upTo_skip {L : List Nat} {j : Nat} (h : L.getD j 0 = 0) : upTo L (j + 1) = upTo L j := by
  unfold upTo
  apply List.map_congr_left
  intro i _
  by_cases h1 : i < j
  · rw [if_pos h1, if_pos (by omega)]
  · rw [if_neg h1]
    by_cases h2 : i = j
    · subst h2; rw [if_pos (by omega), h]
    · rw [if_neg (by omega)]
set_option maxRecDepth 100000 in
set_option maxHeartbeats 3200000 in
theorem liveStack_any (w : World) (vp vt : Value) (P : List Nat) (Ls : List (List Nat)) (t : Nat) (hP : RdF w vp P) (hL : RdSS w vt Ls) (hl : Ls.length = P.length) (hn : P.length ≤ 16) (ht : t ≤ 64) (hk : ∀ j, j < Ls.length → (rowAt Ls j).length = t) (hv : validT ⟨t, P, Ls⟩ = true) :
    Calls Try.prog 22 #[.agg #[.int .i64 (t : Nat), vp, vt]] w fun e w' => ∃ v', e = .returned (.tuple #[v', .bool true]) ∧ OwnF w' w.heap.size v' (livL Ls t) ∧ Ext w w' := by
  have hquo := run_fquo (P := Try.prog)
  have hst := run_store_float (P := Try.prog)
  obtain ⟨a1, c1, rfl, -, -, -⟩ := hP.opened
  obtain ⟨a2, c2, rfl, -, -, -⟩ := hL.opened
  have hrow : ∀ j, (rowAt Ls j).length ≤ 64 := fun j => by
    by_cases hj : j < Ls.length
    · rw [hk j hj]; exact ht
    · unfold rowAt; rw [List.getD_eq_getElem?_getD, List.getElem?_eq_none (by omega)]; simp
  obtain ⟨W, hW⟩ : ∃ W, w.alloc (.cells #[.int .i64 (t : Nat), .slice a1 P.length c1, .slice a2 Ls.length c2] 44) = W := ⟨_, rfl⟩
  have x0 : Ext w W := by rw [← hW]; exact (Below.refl _ _).alloc (Nat.le_refl _) _
  have HB : Hid (W.heap[w.heap.size]? = some (.cells #[.int .i64 (t : Nat), .slice a1 P.length c1, .slice a2 Ls.length c2] 44 (0, 0))) := Lib.hid (by rw [← hW]; exact alloc_new _ _)
  have HV := Lib.hid (implValidGather_any W (.agg #[.int .i64 (t : Nat), .slice a1 P.length c1, .slice a2 Ls.length c2]) ⟨t, P, Ls⟩ ⟨_, _, rfl, hP.mono x0, hL.mono x0⟩ ⟨by show P.length ≤ _; omega, by show Ls.length ≤ _; omega, fun j _ => by have := hrow j; show (rowAt Ls j).length ≤ _; omega⟩)
  rw [hv] at HV
  have HS := Lib.hid (fun (wq : World) (hq : Ext W wq) (k : Nat) (hkt : k < t) => stack_any wq (.slice a1 P.length c1) (.slice a2 Ls.length c2) ⟨t, P, Ls⟩ k (hL.mono (x0.trans hq)) (by show Ls.length ≤ 16; omega) (fun j hj => by show k < (rowAt Ls j).length; rw [hk j hj]; exact hkt) hrow)
  have X0 := Lib.hid x0
  have HZ : Hid (W.heap.size = w.heap.size + 1) := Lib.hid (by rw [← hW]; exact World.size_alloc _ _)
  have HLL := Lib.hid (livL_length Ls t)
  clear hP hL hk hv hrow x0
  obtain ⟨n, hnn⟩ : ∃ n, Ls.length = n := ⟨_, rfl⟩
  have HNN := Lib.hid hnn
  rw [hnn] at hl
  rw [hnn] at HB HV HS hW ⊢
  have hn16 : n ≤ 16 := by omega
  clear hnn hl
  obtain ⟨k0, k1, k2⟩ := box3b HB.out (Ext.refl _)
  go_enter Try.func22, Try.ntmps22
  go_wp2_with fail
  clear hW k0 k1 k2
  refine HV.out.mono ?_
  clear HV
  rintro e w1 ⟨rfl, b1⟩
  have X1 := Lib.hid (show Ext W w1 from b1)
  obtain ⟨k0, k1, k2⟩ := box3b HB.out X1.out
  have z1 := b1.size
  have zW := HZ.out
  clear b1
  go_wp2_with (refine wpList_mk rfl _ _ rfl (w.heap.size + 1) _ _ _ _ t rfl rfl rfl rfl (by omega) (by omega) ?_; intro w2 o2 b2 z2; have X2 := Lib.hid (Ext.trans X1.out b2); (obtain ⟨m0, m1, m2⟩ := box3b HB.out X2.out); clear k0 k1 k2)
  clear m0 m1 m2
  have O2 : Hid (OwnF w2 (w.heap.size + 1) (.slice (some ⟨w1.heap.size, 0, none⟩) t t) (upTo (livL Ls t) 0)) := Lib.hid (by rw [upTo_zero, HLL.out]; exact o2)
  clear o2 b2
  go_loopw [16] (fun i wr => ∃ j : Nat, j ≤ t ∧ i = .int .i64 j ∧ OwnF wr (w.heap.size + 1) (.slice (some ⟨w1.heap.size, 0, none⟩) t t) (upTo (livL Ls t) j) ∧ Ext W wr) (fun i _ => t - (intOf i).toNat)
  case atStart => exact ⟨0, Nat.zero_le _, rfl, O2.out, X2.out⟩
  case round =>
    clear O2
    obtain ⟨wi, rfl⟩ : ∃ wi : World, wi = wr := ⟨_, rfl⟩
    obtain ⟨j, hj, rfl, ho, hx⟩ := hrel
    have HO := Lib.hid ho
    have HX := Lib.hid hx
    have zi := hx.size
    clear ho hx
    by_cases hlt : j < t
    · have hji : (j : Int) < (t : Int) := by omega
      obtain ⟨k0, k1, k2⟩ := box3b HB.out HX.out
      go_wp2_with fail
      clear k0 k1 k2
      refine (HS.out wi HX.out j hlt).mono ?_
      rintro e w3 ⟨r, rfl, hr, x3⟩
      have hr' : FV .f32 r (stkF Ls j n) := hr
      have X3 := Lib.hid (Ext.trans HX.out x3)
      have O3 := Lib.hid (HO.out.kept x3)
      have HF := Lib.hid hr'
      have hlv := livN_le Ls j n
      have hat := livL_at Ls t j hlt
      unfold livV at hat
      rw [HNN.out] at hat
      have hul : (upTo (livL Ls t) j).length = t := by rw [upTo_length, HLL.out]
      clear hr hr' x3
      obtain ⟨k0, k1, k2⟩ := box3b HB.out X3.out
      rcases Nat.eq_zero_or_pos (livN Ls j n) with hz | hz
      · rw [if_pos hz] at hat
        rw [hz]
        have HAT := Lib.hid hat
        clear hat hlv hz hul
        go_wp2_with fail
        exact ⟨⟨j + 1, by omega, by go_num, by rw [upTo_skip HAT.out]; exact O3.out, X3.out⟩, by simp [intOf]; omega⟩
      · rw [if_neg (by omega)] at hat
        obtain ⟨lv, hlv2⟩ : ∃ lv : Nat, livN Ls j n = lv := ⟨_, rfl⟩
        rw [hlv2] at hat hlv hz ⊢
        have hzi : (0 : Int) < (lv : Int) := by omega
        have HAT := Lib.hid hat
        have HUL := Lib.hid hul
        obtain ⟨g', cap', hv, -, -, -, hcl, hfr⟩ := O3.out.form.resolve_left fun h => by cases h.1
        have hg : w1.heap.size = g' := by injection hv with e1 e2 e3; injection e1 with e4; injection e4
        subst hg
        have hfj := hfr j
        obtain ⟨r0, hr0, -⟩ := hcl j (by omega)
        have z3 := X3.out.size
        clear hat hul hlv2 hv hfr hcl
        go_wp2_with fail
        refine ⟨⟨j + 1, by omega, by go_num, ?_, ?_⟩, by simp [intOf]; omega⟩
        · rw [← upTo_set, HAT.out]
          exact (O3.out.drewN _).storedN HUL.out (HF.out.op (floatOfInt_fv .f32 (lv : Nat)) _)
        · exact Below.chg (Below.drewN X3.out _) ((Chg.refl _ (fun k => k = w1.heap.size)).setCell rfl j _) (fun k hk => by omega) z3
    · obtain rfl : j = t := by omega
      go_wp2_with fail
      go_ret2
      refine ⟨_, rfl, ?_, Ext.trans X0.out HX.out⟩
      have := HO.out
      rw [upTo_all _ _ (by rw [HLL.out]; exact Nat.le_refl _)] at this
      exact this.mono (by omega)
set_option maxRecDepth 100000 in
set_option maxHeartbeats 1600000 in
theorem isWindow_any (w : World) (vp vt : Value) (t : Int) (k r : Nat) (hk : (k : Int) < t) (ht : t ≤ 64) (hr : r ≤ 64) :
    Calls Try.prog 54 #[.agg #[.int .i64 t, vp, vt], .int .i64 (k : Nat), .int .i64 (r : Nat)] w fun e w' => e = .returned (.bool true) ∧ Ext w w' := by
  have HW1 := Lib.hid (fun wq => within_any wq (k : Int) 0 (t - 1))
  have HW2 := Lib.hid (fun wq => within_any wq (r : Int) 0 64)
  rw [show inB (k : Int) 0 (t - 1) = true by simp [inB]; omega] at HW1
  rw [show inB (r : Int) 0 64 = true by simp [inB]; omega] at HW2
  go_enter Try.func54, Try.ntmps54
  go_wp2_with fail
  refine (HW1.out _).mono ?_
  rintro e w1 ⟨rfl, hw1⟩
  go_wp2_with fail
  refine (HW2.out _).mono ?_
  rintro e w2 ⟨rfl, hw2⟩
  go_wp2_with fail
  go_ret
  refine ⟨rfl, ?_⟩
  exact (Below.refl _ _).alloc (Nat.le_refl _) _
end Go.Proofs.Ythacadbdncfocaa

/- Walks on a seat of gathers: semblances. -/
namespace Go.Proofs.Ythacadbdncfocaa
open Go Go.RowKit

set_option maxRecDepth 100000 in
set_option maxHeartbeats 6400000 in
theorem semblance_any (w : World) (vp vt : Value) (P : List Nat) (Ls : List (List Nat)) (t k r : Nat) (hL : RdSS w vt Ls) (hn : Ls.length ≤ 16) (ht : t ≤ 64) (hk : ∀ j, j < Ls.length → (rowAt Ls j).length = t) (hkt : k < t) (hr : r ≤ 64) :
    Calls Try.prog 55 #[.agg #[.int .i64 (t : Nat), vp, vt], .int .i64 (k : Nat), .int .i64 (r : Nat)] w fun e w' => ∃ x, e = .returned (.float .f32 x) ∧ FV .f32 x (semF Ls (semLo k r) (semC t k r)) ∧ Ext w w' := by
  have hadd := run_fadd (P := Try.prog)
  have hmul := run_fmul (P := Try.prog)
  have hquo := run_fquo (P := Try.prog)
  obtain ⟨a, c, rfl, -, -, -⟩ := hL.opened
  have hrow : ∀ j, (rowAt Ls j).length ≤ 64 := fun j => by
    by_cases hj : j < Ls.length
    · rw [hk j hj]; exact ht
    · unfold rowAt; rw [List.getD_eq_getElem?_getD, List.getElem?_eq_none (by omega)]; simp
  obtain ⟨W, hW⟩ : ∃ W, w.alloc (.cells #[.int .i64 (t : Nat), vp, .slice a Ls.length c] 44) = W := ⟨_, rfl⟩
  have x0 : Ext w W := by rw [← hW]; exact (Below.refl _ _).alloc (Nat.le_refl _) _
  have HB : Hid (W.heap[w.heap.size]? = some (.cells #[.int .i64 (t : Nat), vp, .slice a Ls.length c] 44 (0, 0))) := Lib.hid (by rw [← hW]; exact alloc_new _ _)
  have HS := Lib.hid (fun (wq : World) (hq : Ext W wq) (k : Nat) (hkt : k < t) => stack_any wq vp (.slice a Ls.length c) ⟨t, P, Ls⟩ k (hL.mono (x0.trans hq)) (by show Ls.length ≤ 16; omega) (fun j hj => by show k < (rowAt Ls j).length; rw [hk j hj]; exact hkt) hrow)
  have HL := Lib.hid (fun (wq : World) (hq : Ext W wq) => hL.mono (x0.trans hq))
  have X0 := Lib.hid x0
  have HK := Lib.hid hk
  clear hL hk hrow x0
  obtain ⟨n, hnn⟩ : ∃ n, Ls.length = n := ⟨_, rfl⟩
  have HNN := Lib.hid hnn
  rw [hnn] at HB HS hW hn HL ⊢
  clear hnn
  obtain ⟨lo, hlo⟩ : ∃ lo, semLo k r = lo := ⟨_, rfl⟩
  obtain ⟨C, hC⟩ : ∃ C, semC t k r = C := ⟨_, rfl⟩
  rw [hlo, hC]
  have hlo' : lo = k - r := by rw [← hlo]; rfl
  have hC' : C = min (t - 1) (k + r) + 1 - lo := by rw [← hC]; unfold semC; rw [hlo]
  have HLO : Hid (lo = k - r ∧ C = min (t - 1) (k + r) + 1 - lo) := Lib.hid ⟨hlo', hC'⟩
  clear hlo hC hlo' hC'
  obtain ⟨k0, k1, k2⟩ := box3b HB.out (Ext.refl _)
  go_enter Try.func55, Try.ntmps55
  go_wp2_with fail
  clear hW k0 k1 k2
  rw [show max 0 ((k : Int) - (r : Int)) = ((lo : Nat) : Int) by have := HLO.out; omega]
  go_loopw [7, 8, 9] (fun o l i wr => ∃ c x y : Nat, c ≤ C ∧ i = .int .i64 ((lo + c : Nat) : Int) ∧ o = .float .f32 x ∧ FV .f32 x (semO Ls lo c) ∧ l = .float .f32 y ∧ FV .f32 y (semA Ls lo c) ∧ Ext W wr) (fun _ _ i _ => lo + C - (intOf i).toNat)
  case atStart => exact ⟨0, 0, 0, Nat.zero_le _, rfl, rfl, fv0 _, rfl, fv0 _, Ext.refl _⟩
  case round =>
    obtain ⟨wi, rfl⟩ : ∃ wi : World, wi = wr := ⟨_, rfl⟩
    obtain ⟨c2, x, y, hc2, rfl, rfl, hx, rfl, hy, hX⟩ := hrel
    have FX := Lib.hid hx
    have FY := Lib.hid hy
    have HX := Lib.hid hX
    clear hx hy hX
    obtain ⟨q, hq⟩ : ∃ q : Nat, lo + c2 = q := ⟨_, rfl⟩
    have HQ := Lib.hid hq
    rw [hq]
    by_cases hlt : c2 < C
    · have hqt : q < t := by have := HLO.out; omega
      have hd : ((q : Nat) : Int) ≤ min ((t : Int) - 1) ((k : Int) + (r : Int)) := by have := HLO.out; omega
      have hq64 : q ≤ 64 := by omega
      clear hq
      obtain ⟨k0, k1, k2⟩ := box3b HB.out HX.out
      go_wp2_with fail
      clear k0 k1 k2
      refine (HS.out wi HX.out q hqt).mono ?_
      rintro e w2 ⟨s, rfl, hs, x2⟩
      have FS := Lib.hid (show FV .f32 s (stkF Ls q n) from hs)
      have X2 := Lib.hid (Ext.trans HX.out x2)
      obtain ⟨lv, hlv⟩ : ∃ lv : Nat, livN Ls q n = lv := ⟨_, rfl⟩
      rw [hlv]
      clear hs x2 hlv
      obtain ⟨k0, k1, k2⟩ := box3b HB.out (by exact X2.out)
      go_wp2_with fail
      clear k0 k1 k2
      obtain ⟨x2, hx2⟩ : ∃ x2, fres .add .f32 x (fres .mul .f32 s s w2) (w2.drewN (fcnt .mul .f32 s s)) = x2 := ⟨_, rfl⟩
      have FX2 : Hid (FV .f32 x2 (semO Ls lo (c2 + 1))) := Lib.hid (by
        rw [← hx2]
        show FV .f32 _ (fop .add .f32 (semO Ls lo c2) (fop .mul .f32 (stkF Ls (lo + c2) Ls.length) (stkF Ls (lo + c2) Ls.length)))
        rw [HQ.out, HNN.out]
        exact FX.out.op (FS.out.op FS.out _) _)
      rw [hx2]
      clear hx2
      obtain ⟨W3, hW3⟩ : ∃ W3, w2.drewN (fcnt .mul .f32 s s + fcnt .add .f32 x (fres .mul .f32 s s w2)) = W3 := ⟨_, rfl⟩
      rw [hW3]
      have X3 : Hid (Ext W W3) := Lib.hid (by rw [← hW3]; exact Below.drewN X2.out _)
      clear hW3
      go_loopw [8, 44] (fun l i wr => ∃ j y nd : Nat, j ≤ n ∧ i = .int .i64 j ∧ l = .float .f32 y ∧ FV .f32 y (sqF Ls q (semA Ls lo c2) j) ∧ wr = W3.drewN nd) (fun _ i _ => n - (intOf i).toNat)
      case atStart => exact ⟨0, y, 0, Nat.zero_le _, rfl, rfl, FY.out, rfl⟩
      case round =>
        obtain ⟨j, y2, nd, hj, rfl, rfl, hy2, hwr⟩ := hrel
        have FY2 := Lib.hid hy2
        have HWR := Lib.hid hwr
        have XR : Hid (Ext W wr) := Lib.hid (by rw [hwr]; exact Below.drewN X3.out nd)
        clear hy2 hwr
        by_cases hlj : j < n
        · obtain ⟨b, o, b2, o2, c', r2, rfl, -, e1, -, e2, f2⟩ := num_at (HL.out _ XR.out) HNN.out j q hlj (by rw [HK.out j (by have := HNN.out; omega)]; exact hqt)
          rw [HK.out j (by have := HNN.out; omega)] at e1
          have HF2 := Lib.hid f2
          have hqi : (q : Int) < (t : Int) := by omega
          have hji : (j : Int) < (n : Int) := by omega
          clear f2
          go_wp2_with fail
          refine region_rel_tail 11 (by kernel_rfl) (by kernel_rfl) (Drawn wr) (fun _ _ _ => False) ⟨1, rfl⟩ ?_
          simp only [List.take_succ_cons, List.take_zero, List.drop_succ_cons, List.drop_zero]
          iterate 11 (refine wpRel_draw rfl rfl (fun nq K hK => ?_); go_wp2)
          refine wpRel_nil ?_
          rintro wd ⟨nd2, hwd⟩
          go_wp2_with fail
          exact ⟨⟨j + 1, _, nd + nd2, by omega, by go_num, rfl, FY2.out.op (HF2.out.op HF2.out _) _, by rw [HWR.out, World.drewN_drewN]⟩, by simp [intOf]; omega⟩
        · obtain rfl : n = j := by omega
          go_wp2_with fail
          refine ⟨⟨c2 + 1, _, _, by omega, by rw [show lo + (c2 + 1) = q + 1 by have := HQ.out; omega]; go_num, rfl, FX2.out, rfl, ?_, XR.out⟩, ?_⟩
          · show FV .f32 y2 (sqF Ls (lo + c2) (semA Ls lo c2) Ls.length)
            rw [HQ.out, HNN.out]
            exact FY2.out
          · have := HQ.out
            simp [intOf]; omega
    · obtain rfl : C = c2 := by omega
      have hd : ¬ ((q : Nat) : Int) ≤ min ((t : Int) - 1) ((k : Int) + (r : Int)) := by have := HLO.out; omega
      clear hq
      obtain ⟨k0, k1, k2⟩ := box3b HB.out HX.out
      have HN := Lib.hid (floatOfInt_fv .f32 (n : Nat))
      obtain ⟨z, hz⟩ : ∃ z, fres .mul .f32 (floatOfInt .f32 (n : Nat)) y wi = z := ⟨_, rfl⟩
      have FZ : Hid (FV .f32 z (semB Ls lo C)) := Lib.hid (by rw [← hz]; unfold semB; rw [HNN.out]; exact HN.out.op FY.out _)
      have hmz : ∀ ty, (binOp .mul ty (.float .f32 (floatOfInt .f32 (n : Nat))) (.float .f32 y)).run Try.prog wi = .ok (.float .f32 z) (wi.drewN (fcnt .mul .f32 (floatOfInt .f32 (n : Nat)) y)) := fun ty => by rw [← hz]; exact hmul wi ty .f32 _ _
      have hord : (FloatKind.f32.format.order z 0 == some Ordering.gt) = (FloatKind.f32.format.order (semB Ls lo C) 0 == some Ordering.gt) := by rw [FV.order FZ.out (fv0 _)]
      clear hz hmul
      cases hg : (FloatKind.f32.format.order z 0 == some Ordering.gt) with
      | true =>
        have HS2 : Hid (semF Ls lo C = fop .quo .f32 (semO Ls lo C) (semB Ls lo C)) := Lib.hid (by unfold semF; rw [← hord, hg]; rfl)
        clear hord
        go_wp2_with fail
        go_ret
        exact ⟨_, rfl, by rw [HS2.out]; exact FX.out.op FZ.out _, Below.drewN (Ext.trans X0.out HX.out) _⟩
      | false =>
        have HS2 : Hid (semF Ls lo C = 0) := Lib.hid (by unfold semF; rw [← hord, hg]; rfl)
        clear hord
        go_wp2_with fail
        go_ret
        exact ⟨_, rfl, by rw [HS2.out]; exact fv0 _, Below.drewN (Ext.trans X0.out HX.out) _⟩
set_option maxRecDepth 100000 in
set_option maxHeartbeats 3200000 in
theorem semblanceAt_any (w : World) (vp vt : Value) (P : List Nat) (Ls : List (List Nat)) (t k r : Nat) (hP : RdF w vp P) (hL : RdSS w vt Ls) (hl : Ls.length = P.length) (hn : P.length ≤ 16) (ht : t ≤ 64) (hk : ∀ j, j < Ls.length → (rowAt Ls j).length = t) (hv : validT ⟨t, P, Ls⟩ = true) (hkt : k < t) (hr : r ≤ 64) :
    Calls Try.prog 20 #[.agg #[.int .i64 (t : Nat), vp, vt], .int .i64 (k : Nat), .int .i64 (r : Nat)] w fun e w' => ∃ x, e = .returned (.tuple #[.float .f32 x, .bool true]) ∧ FV .f32 x (semF Ls (semLo k r) (semC t k r)) ∧ Ext w w' := by
  obtain ⟨a1, c1, rfl, -, -, -⟩ := hP.opened
  obtain ⟨a2, c2, rfl, -, -, -⟩ := hL.opened
  have hrow : ∀ j, (rowAt Ls j).length ≤ 64 := fun j => by
    by_cases hj : j < Ls.length
    · rw [hk j hj]; exact ht
    · unfold rowAt; rw [List.getD_eq_getElem?_getD, List.getElem?_eq_none (by omega)]; simp
  obtain ⟨W, hW⟩ : ∃ W, w.alloc (.cells #[.int .i64 (t : Nat), .slice a1 P.length c1, .slice a2 Ls.length c2] 44) = W := ⟨_, rfl⟩
  have x0 : Ext w W := by rw [← hW]; exact (Below.refl _ _).alloc (Nat.le_refl _) _
  have HB : Hid (W.heap[w.heap.size]? = some (.cells #[.int .i64 (t : Nat), .slice a1 P.length c1, .slice a2 Ls.length c2] 44 (0, 0))) := Lib.hid (by rw [← hW]; exact alloc_new _ _)
  have HV := Lib.hid (implValidGather_any W (.agg #[.int .i64 (t : Nat), .slice a1 P.length c1, .slice a2 Ls.length c2]) ⟨t, P, Ls⟩ ⟨_, _, rfl, hP.mono x0, hL.mono x0⟩ ⟨by show P.length ≤ _; omega, by show Ls.length ≤ _; omega, fun j _ => by have := hrow j; show (rowAt Ls j).length ≤ _; omega⟩)
  rw [hv] at HV
  have HS := Lib.hid (fun (wq : World) (hq : Ext W wq) => semblance_any wq (.slice a1 P.length c1) (.slice a2 Ls.length c2) P Ls t k r (hL.mono (x0.trans hq)) (by omega) ht hk hkt hr)
  have HWi := Lib.hid (fun (wq : World) => isWindow_any wq (.slice a1 P.length c1) (.slice a2 Ls.length c2) (t : Nat) k r (by omega) (by omega) hr)
  have X0 := Lib.hid x0
  clear hP hL hk hv hrow x0 hl hn ht hkt hr
  obtain ⟨k0, k1, k2⟩ := box3b HB.out (Ext.refl _)
  go_enter Try.func20, Try.ntmps20
  go_wp2_with fail
  clear hW k0 k1 k2
  refine HV.out.mono ?_
  clear HV
  rintro e w1 ⟨rfl, b1⟩
  have X1 := Lib.hid (show Ext W w1 from b1)
  obtain ⟨k0, k1, k2⟩ := box3b HB.out X1.out
  clear b1
  go_wp2_with fail
  clear k0 k1 k2
  refine (HWi.out w1).mono ?_
  rintro e w2 ⟨rfl, x2⟩
  have X2 := Lib.hid (Ext.trans X1.out x2)
  obtain ⟨k0, k1, k2⟩ := box3b HB.out X2.out
  clear x2
  go_wp2_with fail
  clear k0 k1 k2
  refine (HS.out w2 X2.out).mono ?_
  rintro e w3 ⟨x, rfl, hx, x3⟩
  have FX := Lib.hid hx
  have X3 := Lib.hid x3
  clear hx x3
  go_wp2_with fail
  go_ret2
  exact ⟨x, rfl, FX.out, Ext.trans X0.out (Ext.trans X2.out X3.out)⟩
end Go.Proofs.Ythacadbdncfocaa

/- Walks: roots, floors, curves at numbers. -/
namespace Go.Proofs.Ythacadbdncfocaa
open Go Go.RowKit

theorem run_sqrtX (w : World) (x : Nat) (h : (FloatKind.f64.format.sqrt x).isSome = true) : (callFunc 97 #[.float .f64 x]).run Try.prog w = .ok (.value (.float .f64 (sqr x))) w := by
  have e : (callFunc 97 #[.float .f64 x]).run Try.prog w = (do pure (.value (← Extern.MathSqrt.sqrt #[.float .f64 x])) : Sem Next).run Try.prog w := by kernel_rfl
  rw [e, Sem.run_bind, run_sqr w x h]
  rfl
theorem run_floorX (w : World) (x : Nat) (h : isN .f64 x = false) : (callFunc 111 #[.float .f64 x]).run Try.prog w = .ok (.value (.float .f64 (flo x))) w := by
  have e : (callFunc 111 #[.float .f64 x]).run Try.prog w = (do pure (.value (← Extern.MathFloor.toIntegral "math.archFloor" .down #[.float .f64 x])) : Sem Next).run Try.prog w := by kernel_rfl
  rw [e, Sem.run_bind, run_flo w x h]
  rfl
set_option maxRecDepth 100000 in
theorem mathSqrt_any (w : World) (x : Nat) (h : (FloatKind.f64.format.sqrt x).isSome = true) :
    Calls Try.prog 81 #[.float .f64 x] w fun e w' => e = .returned (.float .f64 (sqr x)) ∧ w' = w := by
  have h1 := run_sqrtX w x h
  clear h
  go_enter Try.func81, Try.ntmps81
  go_wp2
  go_ret
  exact ⟨rfl, rfl⟩
set_option maxRecDepth 100000 in
theorem mathFloor_any (w : World) (x : Nat) (h : isN .f64 x = false) :
    Calls Try.prog 109 #[.float .f64 x] w fun e w' => e = .returned (.float .f64 (flo x)) ∧ w' = w := by
  have h1 := run_floorX w x h
  clear h
  go_enter Try.func109, Try.ntmps109
  go_wp2
  go_ret
  exact ⟨rfl, rfl⟩
/-- The root of a number. -/
def rootF (x : Nat) : Nat := nrw (sqr (cwide x))
def rootOk (x : Nat) : Bool := !isN .f32 x && ((FloatKind.f64.format.sqrt (cwide x)).isSome && nrwOk (sqr (cwide x)))
set_option maxRecDepth 100000 in
theorem rootNumber_fine (w : World) (x : Nat) (h : rootOk x = true) :
    Calls Try.prog 73 #[.float .f32 x] w fun e w' => e = .returned (.float .f32 (rootF x)) ∧ w' = w := by
  unfold rootOk at h
  simp only [Bool.and_eq_true, Bool.not_eq_true'] at h
  have h1 : ∀ wq : World, (convert 27 40 (.float .f32 x)).run Try.prog wq = .ok (.float .f64 (cwide x)) wq := fun wq => run_wideF _ _ (by kernel_rfl) (by kernel_rfl) wq x h.1
  have h2 : ∀ wq : World, (convert 40 27 (.float .f64 (sqr (cwide x)))).run Try.prog wq = .ok (.float .f32 (rootF x)) wq := fun wq => run_narrowF _ _ (by kernel_rfl) (by kernel_rfl) wq _ h.2.2
  have HS := Lib.hid (fun wq => mathSqrt_any wq (cwide x) h.2.1)
  clear h
  go_enter Try.func73, Try.ntmps73
  go_wp2_with fail
  refine (HS.out _).mono ?_
  rintro e w1 ⟨rfl, rfl⟩
  go_wp2
  go_ret
  exact ⟨rfl, rfl⟩
/-- The curve of a start, a way and a speed. -/
def crv (s p v : Nat) : Nat := rootF (fop .add .f32 (fop .mul .f32 s s) (fop .mul .f32 (fop .quo .f32 p v) (fop .quo .f32 p v)))
def crvOk (s p v : Nat) : Bool := !isN .f32 (fop .quo .f32 p v) && (!isN .f32 (fop .mul .f32 s s) && (!isN .f32 (fop .mul .f32 (fop .quo .f32 p v) (fop .quo .f32 p v)) && (!isN .f32 (fop .add .f32 (fop .mul .f32 s s) (fop .mul .f32 (fop .quo .f32 p v) (fop .quo .f32 p v))) && rootOk (fop .add .f32 (fop .mul .f32 s s) (fop .mul .f32 (fop .quo .f32 p v) (fop .quo .f32 p v))))))
set_option maxRecDepth 100000 in
theorem curve_fine (w : World) (s p v : Nat) (h : crvOk s p v = true) :
    Calls Try.prog 102 #[.float .f32 s, .float .f32 p, .float .f32 v] w fun e w' => e = .returned (.float .f32 (crv s p v)) ∧ w' = w := by
  unfold crvOk at h
  simp only [Bool.and_eq_true, Bool.not_eq_true'] at h
  obtain ⟨a1, a2, a3, a4, a5⟩ := h
  have h1 := fun wq t => run_fineK (P := Try.prog) .f32 .quo (by simp) wq t _ _ a1
  have h2 := fun wq t => run_fineK (P := Try.prog) .f32 .mul (by simp) wq t _ _ a2
  have h3 := fun wq t => run_fineK (P := Try.prog) .f32 .mul (by simp) wq t _ _ a3
  have h4 := fun wq t => run_fineK (P := Try.prog) .f32 .add (by simp) wq t _ _ a4
  have HR := Lib.hid (fun wq => rootNumber_fine wq _ a5)
  have HE : Hid (crv s p v = rootF (fop .add .f32 (fop .mul .f32 s s) (fop .mul .f32 (fop .quo .f32 p v) (fop .quo .f32 p v)))) := Lib.hid rfl
  clear a1 a2 a3 a4 a5
  generalize fop .quo .f32 p v = q at *
  generalize fop .mul .f32 s s = a at *
  generalize fop .mul .f32 q q = b at *
  generalize fop .add .f32 a b = c at *
  go_enter Try.func102, Try.ntmps102
  go_wp2_with fail
  refine (HR.out _).mono ?_
  rintro e w1 ⟨rfl, rfl⟩
  go_wp2
  go_ret
  exact ⟨by rw [HE.out]; rfl, rfl⟩
end Go.Proofs.Ythacadbdncfocaa

/- Walks: a list between its numbers. -/
namespace Go.Proofs.Ythacadbdncfocaa
open Go Go.RowKit

def geqZ (t : Nat) : Bool := FloatKind.f32.format.order t 0 == some Ordering.gt || FloatKind.f32.format.order t 0 == some Ordering.eq
def leqN (t n : Nat) : Bool := FloatKind.f32.format.order t (floatOfInt .f32 ((n : Int) - 1)) == some Ordering.lt || FloatKind.f32.format.order t (floatOfInt .f32 ((n : Int) - 1)) == some Ordering.eq
/-- t lies beyond the list. -/
def SmpOut (n t : Nat) : Prop := geqZ t = false ∨ (geqZ t = true ∧ leqN t n = false)
def smpF (t J : Nat) : Nat := fop .sub .f32 t (floatOfInt .f32 (J : Nat))
/-- t lies at or behind number J. -/
structure SmpAt (n t J : Nat) : Prop where
  ge : geqZ t = true
  le : leqN t n = true
  nt : isN .f32 t = false
  nw : isN .f64 (cwide t) = false
  ok : toIOk .f64 (flo (cwide t)) = true
  at_ : toI .f64 (flo (cwide t)) = (J : Nat)
  lt : J < n
  nf : isN .f32 (smpF t J) = false
def isZ (x : Nat) : Bool := FloatKind.f32.format.order x 0 == some Ordering.eq
def smpD (L : List Nat) (J : Nat) : Nat := fop .sub .f32 (L.getD (J + 1) 0) (L.getD J 0)
def smpM (L : List Nat) (t J : Nat) : Nat := fop .mul .f32 (smpF t J) (smpD L J)
def smpA (L : List Nat) (t J : Nat) : Nat := fop .add .f32 (L.getD J 0) (smpM L t J)
/-- What a list is at t. -/
def Smp (L : List Nat) (t r : Nat) : Prop :=
  (SmpOut L.length t ∧ r = 0) ∨ (∃ J, SmpAt L.length t J ∧ isZ (smpF t J) = true ∧ r = L.getD J 0) ∨
    ∃ J, SmpAt L.length t J ∧ isZ (smpF t J) = false ∧ J + 1 < L.length ∧ isN .f32 (smpD L J) = false ∧ isN .f32 (smpM L t J) = false ∧ isN .f32 (smpA L t J) = false ∧ r = smpA L t J
set_option maxRecDepth 100000 in
set_option maxHeartbeats 1600000 in
theorem sample_fine (w : World) (v : Value) (L : List Nat) (t r : Nat) (hL : RdF w v L) (h0 : 1 ≤ L.length) (hn : L.length ≤ 64) (hnn : ∀ j, j < L.length → isN .f32 (L.getD j 0) = false) (h : Smp L t r) :
    Calls Try.prog 106 #[v, .float .f32 t] w fun e w' => e = .returned (.float .f32 r) ∧ ∃ n, w' = w.drewN n := by
  obtain ⟨a, c, rfl, -, -, hcell⟩ := hL.opened
  have cells : ∀ j, j < L.length → ∃ b o, a = some ⟨b, o, none⟩ ∧ w.cell? ⟨b, o + j, none⟩ = some (.float .f32 (L.getD j 0)) := fun j hj => by
    obtain ⟨b, o, r, ha, h1, h2⟩ := hcell j hj
    obtain rfl := h2.eq_of_not (hnn j hj)
    exact ⟨b, o, ha, h1⟩
  have hn1 : (1 : Int) ≤ L.length := by omega
  clear hL hcell hnn
  rcases h with ⟨h, rfl⟩ | ⟨J, hJ, hz, rfl⟩ | ⟨J, hJ, hz, hJ1, n1, n2, n3, rfl⟩
  · clear cells
    rcases h with h | ⟨h, h2⟩
    · unfold geqZ at h
      go_enter Try.func106, Try.ntmps106
      go_wp2
      go_ret
      exact ⟨rfl, 0, rfl⟩
    · unfold geqZ at h
      unfold leqN at h2
      go_enter Try.func106, Try.ntmps106
      go_wp2
      go_ret
      exact ⟨rfl, 0, rfl⟩
  all_goals
    obtain ⟨ge, le, nt, nw, ok, at_, lt, nf⟩ := hJ
    unfold geqZ at ge
    unfold leqN at le
    have hJi : (J : Int) < (L.length : Int) := by omega
    have h1 : ∀ wq : World, (convert 27 40 (.float .f32 t)).run Try.prog wq = .ok (.float .f64 (cwide t)) wq := fun wq => run_wideF _ _ (by kernel_rfl) (by kernel_rfl) wq t nt
    have h2 : ∀ wq : World, (convert 40 3 (.float .f64 (flo (cwide t)))).run Try.prog wq = .ok (.int .i64 (J : Nat)) wq := fun wq => by rw [run_toI _ _ (by kernel_rfl) (by kernel_rfl) wq _ _ ok, at_]
    have h3 : ∀ (wq : World) (ty : TypeId), (binOp .sub ty (.float .f32 t) (.float .f32 (floatOfInt .f32 (J : Nat)))).run Try.prog wq = .ok (.float .f32 (smpF t J)) wq := fun wq ty => run_fineK .f32 .sub (by simp) wq ty _ _ nf
    have HF := Lib.hid (fun wq => mathFloor_any wq (cwide t) nw)
    clear nt nw ok at_ nf
  · obtain ⟨b, o, rfl, d0⟩ := cells J lt
    unfold isZ at hz
    clear cells
    generalize L.getD J 0 = x at *
    generalize smpF t J = f at *
    go_enter Try.func106, Try.ntmps106
    go_wp2_with fail
    refine (HF.out _).mono ?_
    rintro e w1 ⟨rfl, rfl⟩
    go_wp2
    go_ret
    exact ⟨rfl, 0, rfl⟩
  · obtain ⟨b, o, rfl, d0⟩ := cells J lt
    obtain ⟨b', o', he, d1⟩ := cells (J + 1) hJ1
    obtain ⟨rfl, rfl⟩ : b = b' ∧ o = o' := by cases he; exact ⟨rfl, rfl⟩
    have hJ2 : (J : Int) + 1 < (L.length : Int) := by omega
    have h4 : ∀ (wq : World) (ty : TypeId), (binOp .sub ty (.float .f32 (L.getD (J + 1) 0)) (.float .f32 (L.getD J 0))).run Try.prog wq = .ok (.float .f32 (smpD L J)) wq := fun wq ty => run_fineK .f32 .sub (by simp) wq ty _ _ n1
    have h5 : ∀ (wq : World) (ty : TypeId), (binOp .mul ty (.float .f32 (smpF t J)) (.float .f32 (smpD L J))).run Try.prog wq = .ok (.float .f32 (smpM L t J)) wq := fun wq ty => run_fineK .f32 .mul (by simp) wq ty _ _ n2
    have h6 : ∀ (wq : World) (ty : TypeId), (binOp .add ty (.float .f32 (L.getD J 0)) (.float .f32 (smpM L t J))).run Try.prog wq = .ok (.float .f32 (smpA L t J)) wq := fun wq ty => run_fineK .f32 .add (by simp) wq ty _ _ n3
    unfold isZ at hz
    clear cells he n1 n2 n3
    generalize smpA L t J = y4 at *
    generalize smpM L t J = y3 at *
    generalize smpD L J = y2 at *
    generalize L.getD (J + 1) 0 = y1 at *
    generalize L.getD J 0 = x at *
    generalize smpF t J = f at *
    go_enter Try.func106, Try.ntmps106
    go_wp2_with fail
    refine (HF.out _).mono ?_
    rintro e w1 ⟨rfl, rfl⟩
    go_wp2_with fail
    refine region_rel_all (by kernel_rfl) (by kernel_rfl) (Drawn w1) (fun _ _ _ => False) ⟨1, rfl⟩ ?_
    iterate 18 (refine wpRel_draw rfl rfl (fun nq K hK => ?_); go_wp2)
    refine wpRel_nil ?_
    rintro wd ⟨nd, rfl⟩
    go_wp2
    go_ret
    exact ⟨rfl, nd, rfl⟩
set_option maxRecDepth 100000 in
set_option maxHeartbeats 1600000 in
theorem sampled_corr (w : World) (v : Value) (L : List Nat) (b1 b2 : Nat) (T R : Nat → Nat) (hL : RdF w v L) (h0 : 1 ≤ L.length) (hn : L.length ≤ 64) (hnn : ∀ j, j < L.length → isN .f32 (L.getD j 0) = false)
    (hd : ∀ wq, Ext w wq → ∀ k : Nat, k < L.length → Calls Try.prog 101 #[.float .f32 (floatOfInt .f32 (k : Nat)), .pointer (some ⟨b1, 0, none⟩), .pointer (some ⟨b2, 0, none⟩)] wq fun e w' => e = .returned (.float .f32 (T k)) ∧ ∃ n, w' = wq.drewN n)
    (hs : ∀ k, k < L.length → Smp L (T k) (R k)) (hr : ∀ k, k < L.length → Cls .f32 (R k)) :
    Calls Try.prog 100 #[v, .func (.func 101) #[] #[.pointer (some ⟨b1, 0, none⟩), .pointer (some ⟨b2, 0, none⟩)]] w fun e w' => ∃ v', e = .returned v' ∧ OwnF w' w.heap.size v' ((List.range L.length).map R) ∧ Ext w w' := by
  have HL := Lib.hid hL
  have HD := Lib.hid hd
  have HS := Lib.hid hs
  have HR := Lib.hid hr
  have HNN := Lib.hid hnn
  obtain ⟨a, c, rfl, -, -, -⟩ := hL.opened
  clear hL hd hs hr hnn
  go_enter Try.func100, Try.ntmps100
  go_wp2_with fail
  go_loopw [5, 9] (fun o i wr => ∃ k : Nat, k ≤ L.length ∧ i = .int .i64 k ∧ OwnF wr w.heap.size o ((List.range k).map R) ∧ Ext w wr) (fun _ i _ => L.length - (intOf i).toNat)
  case atStart => exact ⟨0, Nat.zero_le _, rfl, OwnF.nil _ _, Ext.refl _⟩
  case round =>
    obtain ⟨wi, rfl⟩ : ∃ wi : World, wi = wr := ⟨_, rfl⟩
    obtain ⟨k, hk, rfl, ho, hx⟩ := hrel
    have HO := Lib.hid ho
    have HX := Lib.hid hx
    have zx := hx.size
    clear ho hx
    by_cases hlt : k < L.length
    · go_wp2_with fail
      refine (HD.out wi HX.out k hlt).mono ?_
      rintro e w1 ⟨rfl, n1, hw1⟩
      have X1 : Hid (Ext w w1) := Lib.hid (by rw [hw1]; exact Below.drewN HX.out n1)
      have O1 : Hid (OwnF w1 w.heap.size u5 ((List.range k).map R)) := Lib.hid (by rw [hw1]; exact HO.out.drewN n1)
      clear hw1
      go_wp2_with fail
      refine (sample_fine w1 _ L (T k) (R k) (HL.out.mono X1.out) h0 hn HNN.out (HS.out k hlt)).mono ?_
      rintro e w2 ⟨rfl, n2, hw2⟩
      have X2 : Hid (Ext w w2) := Lib.hid (by rw [hw2]; exact Below.drewN X1.out n2)
      have O2 : Hid (OwnF w2 w.heap.size u5 ((List.range k).map R)) := Lib.hid (by rw [hw2]; exact O1.out.drewN n2)
      have z2 := X2.out.size
      clear hw2
      have xa : Ext w2 (w2.alloc (.cells #[.float .f32 (R k)] 27)) := (Below.refl _ _).alloc (Nat.le_refl _) _
      have hoa := O2.out.kept xa
      have hza : (w2.alloc (.cells #[.float .f32 (R k)] 27)).heap.size = w2.heap.size + 1 := World.size_alloc _ _
      have HXA := Lib.hid xa
      have HOA := Lib.hid hoa
      have HZA := Lib.hid hza
      have hrk := HR.out k hlt
      have HRk := Lib.hid hrk
      clear xa hoa hza hrk
      go_wp2_with (at_builtin; go_must (refine wpList_push rfl _ _ rfl w.heap.size _ ((List.range k).map R) rfl HOA.out _ _ _ (R k) rfl (cell_new _ _ _) HRk.out (by rw [List.length_map, List.length_range]; omega) (by have := HZA.out; omega) ?_); intro v9 w9 o9 g9 b9 l9)
      exact ⟨⟨k + 1, by omega, by go_num, by rw [List.range_succ, List.map_append]; exact o9, Below.trans (show Below w.heap.size w w2 from X2.out) (Below.trans (Below.mono HXA.out z2) b9)⟩, by simp [intOf]; omega⟩
    · obtain rfl : L.length = k := by omega
      go_wp2_with fail
      go_ret
      exact ⟨_, rfl, HO.out, HX.out⟩
end Go.Proofs.Ythacadbdncfocaa

/- Walks: SampleBetween, MoveTrace, CorrectTrace, BendTrace. -/
namespace Go.Proofs.Ythacadbdncfocaa
open Go Go.RowKit

set_option maxRecDepth 100000 in
theorem corrFn_fine (w : World) (b1 b2 k p v : Nat) (hb1 : w.cell? ⟨b1, 0, none⟩ = some (.float .f32 p)) (hb2 : w.cell? ⟨b2, 0, none⟩ = some (.float .f32 v)) (hn : crvOk k p v = true) :
    Calls Try.prog 101 #[.float .f32 k, .pointer (some ⟨b1, 0, none⟩), .pointer (some ⟨b2, 0, none⟩)] w fun e w' => e = .returned (.float .f32 (crv k p v)) ∧ ∃ n, w' = w.drewN n := by
  have HC := Lib.hid (fun wq => curve_fine wq k p v hn)
  clear hn
  go_enter Try.func101, Try.ntmps101
  go_wp2_with fail
  refine (HC.out _).mono ?_
  rintro e w1 ⟨rfl, hw1⟩
  obtain rfl : w = w1 := hw1.symm
  go_wp2
  go_ret
  exact ⟨rfl, 0, rfl⟩
/-- How a bent list is asked. -/
def bndD (k p v : Nat) : Nat := fop .sub .f32 (fop .mul .f32 k k) (fop .mul .f32 (fop .quo .f32 p v) (fop .quo .f32 p v))
def bndOk (k p v : Nat) : Bool := !isN .f32 (fop .quo .f32 p v) && (!isN .f32 (fop .mul .f32 k k) && (!isN .f32 (fop .mul .f32 (fop .quo .f32 p v) (fop .quo .f32 p v)) && (!isN .f32 (bndD k p v) && (!(FloatKind.f32.format.order (bndD k p v) 0 == some Ordering.lt) && rootOk (bndD k p v)))))
set_option maxRecDepth 100000 in
set_option maxHeartbeats 800000 in
theorem corrected_fine (w : World) (v : Value) (L : List Nat) (p s : Nat) (R : Nat → Nat) (hL : RdF w v L) (h0 : 1 ≤ L.length) (hn : L.length ≤ 64) (hnn : ∀ j, j < L.length → isN .f32 (L.getD j 0) = false)
    (ht : ∀ k : Nat, k < L.length → crvOk (floatOfInt .f32 (k : Nat)) p s = true) (hs : ∀ k : Nat, k < L.length → Smp L (crv (floatOfInt .f32 (k : Nat)) p s) (R k)) (hr : ∀ k, k < L.length → Cls .f32 (R k)) :
    Calls Try.prog 91 #[v, .float .f32 p, .float .f32 s] w fun e w' => ∃ v', e = .returned v' ∧ OwnF w' w.heap.size v' ((List.range L.length).map R) ∧ Ext w w' := by
  have HL := Lib.hid hL
  obtain ⟨a, c, rfl, -, -, -⟩ := hL.opened
  obtain ⟨wA, hwA⟩ : ∃ wA, w.alloc (.cells #[.float .f32 p] 27) = wA := ⟨_, rfl⟩
  obtain ⟨W, hW⟩ : ∃ W, wA.alloc (.cells #[.float .f32 s] 27) = W := ⟨_, rfl⟩
  have xA : Ext w wA := by rw [← hwA]; exact (Below.refl _ _).alloc (Nat.le_refl _) _
  have xB : Ext wA W := by rw [← hW]; exact (Below.refl _ _).alloc (Nat.le_refl _) _
  have zA : wA.heap.size = w.heap.size + 1 := by rw [← hwA]; exact World.size_alloc _ _
  have zB : W.heap.size = w.heap.size + 2 := by rw [← hW, World.size_alloc]; omega
  have x0 : Ext w W := xA.trans xB
  have hb : ∀ wq, Ext W wq → wq.cell? ⟨w.heap.size, 0, none⟩ = some (.float .f32 p) ∧ wq.cell? ⟨w.heap.size + 1, 0, none⟩ = some (.float .f32 s) := fun wq hq => by
    have h1 : wq.heap[w.heap.size]? = some (.cells #[.float .f32 p] 27 (0, 0)) := (hq.block w.heap.size (by omega)).trans ((xB.block w.heap.size (by omega)).trans (by rw [← hwA]; exact alloc_new _ _))
    have h2 : wq.heap[w.heap.size + 1]? = some (.cells #[.float .f32 s] 27 (0, 0)) := (hq.block (w.heap.size + 1) (by omega)).trans (by rw [← hW, ← zA]; exact alloc_new _ _)
    exact ⟨cell_of_row wq _ 0 _ _ _ h1, cell_of_row wq _ 0 _ _ _ h2⟩
  have HS := Lib.hid (sampled_corr W _ L w.heap.size (w.heap.size + 1) (fun k => crv (floatOfInt .f32 (k : Nat)) p s) R (hL.mono x0) h0 hn hnn (fun wq hq k hk => corrFn_fine wq _ _ _ _ _ (hb wq hq).1 (hb wq hq).2 (ht k hk)) hs hr)
  have X0 := Lib.hid x0
  clear hL hnn ht hs hr hb x0 xA xB zA zB
  subst hwA
  go_enter Try.func91, Try.ntmps91
  go_wp2_with fail
  clear hW
  refine HS.out.mono ?_
  rintro e w2 ⟨v', rfl, o2, x2⟩
  obtain ⟨a2, n2, c2, rfl⟩ : ∃ a n c, v' = .slice a n c := (by obtain ⟨a, c, h, -⟩ := o2.rd.opened; exact ⟨a, _, c, h⟩)
  have O2 := Lib.hid o2
  have X2 := Lib.hid x2
  clear o2 x2
  go_wp2
  go_ret
  exact ⟨_, rfl, O2.out.mono X0.out.size, Ext.trans X0.out X2.out⟩
end Go.Proofs.Ythacadbdncfocaa

/- Walks on a seat of gathers: AddEvent. -/
namespace Go.Proofs.Ythacadbdncfocaa
open Go Go.RowKit

def nonnegB (x : Nat) : Bool := fin .f32 x && (FloatKind.f32.format.order x 0 == some .gt || FloatKind.f32.format.order x 0 == some .eq)
/-- Where an event stands: the floor of the curve and a half. -/
def evC (s p v : Nat) : Nat := fop .add .f32 (crv s p v) 1056964608
def evA (s p v : Nat) : Nat := flo (cwide (evC s p v))
structure EvOk (s p v : Nat) : Prop where
  c : crvOk s p v = true
  n1 : isN .f32 (evC s p v) = false
  n2 : isN .f64 (cwide (evC s p v)) = false
/-- The list with the event. -/
def Evt (L : List Nat) (s p v z : Nat) (R : List Nat) : Prop :=
  ((FloatKind.f64.format.order (evA s p v) (floatOfInt .f64 (L.length : Nat)) == some Ordering.lt) = false ∧ R = L) ∨
    ∃ j : Nat, (FloatKind.f64.format.order (evA s p v) (floatOfInt .f64 (L.length : Nat)) == some Ordering.lt) = true ∧ toIOk .f64 (evA s p v) = true ∧ toI .f64 (evA s p v) = (j : Nat) ∧ j < L.length ∧ isN .f32 (L.getD j 0) = false ∧ isN .f32 (fop .add .f32 (L.getD j 0) z) = false ∧ R = L.set j (fop .add .f32 (L.getD j 0) z)
/-- What becomes of the traces. -/
def EvtAll (T : TM) (s v z : Nat) (F : Nat → List Nat) : Prop := ∀ i, i < T.Ls.length → EvOk s (T.P.getD i 0) v ∧ isN .f32 (T.P.getD i 0) = false ∧ Evt (rowAt T.Ls i) s (T.P.getD i 0) v z (F i) ∧ (F i).length ≤ 64 ∧ ∀ j, j < (F i).length → ∃ r, FV .f32 r ((F i).getD j 0)
end Go.Proofs.Ythacadbdncfocaa

/- Values of float32s in units of the least place; sums and products of doubled numbers are doubled. -/
namespace Go.Proofs.Ythacadbdncfocaa
open Go Ieee

/-- r stands for v units of 2^-149. -/
def Val (r : Nat) (v : Int) : Prop := ∃ s m e, single.read r = .number s m e ∧ -149 ≤ e ∧ sg s m * ((2 ^ (e + 149).toNat : Nat) : Int) = v
theorem Val.uniq {r : Nat} {v v' : Int} (h : Val r v) (h' : Val r v') : v = v' := by
  obtain ⟨s, m, e, h1, -, h2⟩ := h
  obtain ⟨s', m', e', h1', -, h2'⟩ := h'
  rw [h1] at h1'
  cases h1'
  rw [← h2, h2']
theorem Val.notNan {r : Nat} {v : Int} (h : Val r v) : isN .f32 r = false := by
  obtain ⟨s, m, e, h1, -⟩ := h
  show (single.read r).isNaN = false
  rw [h1]; rfl
theorem Fx.val {k r : Nat} {n : Int} (h : Fx k r n) : Val r (n * ((2 ^ (149 - k) : Nat) : Int)) := by
  obtain ⟨s, m, e, h1, -, h2, -, h3⟩ := h
  exact ⟨s, m, e, h1, h2, h3⟩
theorem nearest_same (neg : Bool) (T T' : Nat) (p p' K : Int) (hT : T ≠ 0) (h0 : 0 ≤ p + K) (h1 : 0 ≤ p' + K) (h : T * 2 ^ (p + K).toNat = T' * 2 ^ (p' + K).toNat) : single.nearest neg T p = single.nearest neg T' p' := by
  have hT' : T' ≠ 0 := by
    intro e
    rw [e, Nat.zero_mul] at h
    rcases Nat.mul_eq_zero.1 h with h | h
    · exact hT h
    · exact absurd h (Nat.ne_of_gt (Nat.two_pow_pos _))
  by_cases hle : p ≤ p'
  · obtain ⟨j, hj⟩ : ∃ j : Nat, p' = p + j := ⟨(p' - p).toNat, by omega⟩
    have e : T = T' * 2 ^ j := by
      have : T * 2 ^ (p + K).toNat = T' * 2 ^ j * 2 ^ (p + K).toNat := by
        rw [h, Nat.mul_assoc, ← Nat.pow_add]; congr 2; omega
      exact Nat.eq_of_mul_eq_mul_right (Nat.two_pow_pos _) this
    rw [e, nearest_scale single neg T' j p hT', hj]
  · obtain ⟨j, hj⟩ : ∃ j : Nat, p = p' + j := ⟨(p - p').toNat, by omega⟩
    have e : T' = T * 2 ^ j := by
      have : T' * 2 ^ (p' + K).toNat = T * 2 ^ j * 2 ^ (p' + K).toNat := by
        rw [← h, Nat.mul_assoc, ← Nat.pow_add]; congr 2; omega
      exact Nat.eq_of_mul_eq_mul_right (Nat.two_pow_pos _) this
    rw [e, nearest_scale single neg T j p' hT, hj]
/-- The nearest of a number in the middle: its value, and that it is a multiple of its last place. -/
theorem nearest_mid (neg : Bool) (T : Nat) (p : Int) (hT : T ≠ 0) (hlo : -126 ≤ p + T.log2) (hhi : p + T.log2 ≤ 120) :
    Val (single.nearest neg T p) (sg neg (keptP single neg T p * 2 ^ (p + T.log2 + 126).toNat)) := by
  have hl : lastP single T p = p + T.log2 - 23 := by unfold lastP; rw [fx_fb, fx_lp]; omega
  obtain ⟨k1, k2⟩ := kept_bounds single neg T p hT
  rw [fx_bi] at k1
  have ho : (lastP single T p - single.leastPlace).toNat * single.binade + keptP single neg T p < single.infRung := by
    rw [hl, fx_lp, fx_bi, fx_ir]
    have : (p + (T.log2 : Int) - 23 - -149).toNat ≤ 246 := by omega
    have h2 : (p + (T.log2 : Int) - 23 - -149).toNat * 8388608 ≤ 246 * 8388608 := Nat.mul_le_mul_right _ this
    omega
  obtain ⟨m, e, h1, h2, h3⟩ := nearest_val single neg T p hT ho
  rw [fx_lp] at h2 h3
  rw [hl] at h3
  refine ⟨neg, m, e, h1, h2, ?_⟩
  rw [show (e - -149) = e + 149 by omega, show (p + (T.log2 : Int) - 23 - -149) = p + T.log2 + 126 by omega] at h3
  rw [← h3]
  unfold sg
  cases neg <;> simp [Int.neg_mul]
theorem sg_mul (s : Bool) (m q : Nat) : sg s (m * q) = sg s m * (q : Int) := by unfold sg; cases s <;> simp [Int.neg_mul]
theorem nearest_dbl (neg : Bool) (T T' : Nat) (p p' K : Int) (hT : T ≠ 0) (h0 : 0 ≤ p + K) (h1 : 0 ≤ p' + K) (h : T' * 2 ^ (p' + K).toNat = 2 * (T * 2 ^ (p + K).toNat)) (hlo : -126 ≤ p + T.log2) (hhi : p + T.log2 ≤ 119) :
    ∃ v, Val (single.nearest neg T p) v ∧ Val (single.nearest neg T' p') (2 * v) ∧ (∃ q : Int, v = q * ((2 ^ (p + T.log2 + 126).toNat : Nat) : Int)) ∧ 8388608 * 2 ^ (p + T.log2 + 126).toNat ≤ v.natAbs ∧ v.natAbs ≤ 16777216 * 2 ^ (p + T.log2 + 126).toNat := by
  obtain ⟨kb1, kb2⟩ := kept_bounds single neg T p hT
  rw [fx_bi] at kb1 kb2
  rw [fx_lp, fx_fb] at kb2
  replace kb2 := kb2 (by omega)
  refine ⟨_, nearest_mid neg T p hT hlo (by omega), ?_, ⟨sg neg (keptP single neg T p), sg_mul _ _ _⟩, by rw [sg_abs]; exact Nat.mul_le_mul_right _ kb2, by rw [sg_abs]; exact Nat.mul_le_mul_right _ kb1⟩
  have e : single.nearest neg T' p' = single.nearest neg T (p + 1) := by
    refine (nearest_same neg T T' (p + 1) p' K hT (by omega) h1 ?_).symm
    rw [h, show (p + 1 + K).toNat = (p + K).toNat + 1 by omega, Nat.pow_succ, Nat.mul_comm _ 2, ← Nat.mul_assoc, Nat.mul_comm T 2, Nat.mul_assoc]
  rw [e]
  have hm := nearest_mid neg T (p + 1) hT (by omega) (by omega)
  have hk : keptP single neg T (p + 1) = keptP single neg T p := by
    have hl : lastP single T p = p + T.log2 - 23 := by unfold lastP; rw [fx_fb, fx_lp]; omega
    have hl' : lastP single T (p + 1) = p + 1 + T.log2 - 23 := by unfold lastP; rw [fx_fb, fx_lp]; omega
    unfold keptP
    rw [hl, hl']
    congr 2 <;> omega
  rw [hk, show (p + 1 + (T.log2 : Int) + 126).toNat = (p + T.log2 + 126).toNat + 1 by omega] at hm
  have : (2 : Int) * sg neg (keptP single neg T p * 2 ^ (p + T.log2 + 126).toNat) = sg neg (keptP single neg T p * 2 ^ ((p + T.log2 + 126).toNat + 1)) := by
    rw [Nat.pow_succ, ← Nat.mul_assoc, sg_mul _ _ 2]
    omega
  rw [this]
  exact hm
theorem val_zero (neg : Bool) (p : Int) : Val (single.nearest neg 0 p) 0 := by
  refine ⟨neg, 0, -149, ?_, by decide, by unfold sg; cases neg <;> simp⟩
  unfold Format.nearest
  rw [if_pos rfl]
  cases neg <;> decide +kernel
theorem log2_of (T : Nat) (p : Int) (hT : T ≠ 0) (K : Nat) (a b : Nat) (h0 : 0 ≤ p + K) (h1 : 2 ^ a ≤ T * 2 ^ (p + K).toNat) (h2 : T * 2 ^ (p + K).toNat < 2 ^ b) : (a : Int) - K ≤ p + T.log2 ∧ p + T.log2 < (b : Int) - K := by
  have hz : T * 2 ^ (p + K).toNat ≠ 0 := Nat.mul_ne_zero hT (Nat.ne_of_gt (Nat.two_pow_pos _))
  have e := log2_scale T (p + K).toNat hT
  have g1 : a ≤ (T * 2 ^ (p + K).toNat).log2 := (Nat.le_log2 hz).2 h1
  have g2 : (T * 2 ^ (p + K).toNat).log2 < b := (Nat.log2_lt hz).2 h2
  rw [e] at g1 g2
  omega
theorem natAbs_sg (s : Bool) (m : Nat) (q : Nat) : (sg s m * (q : Int)).natAbs = m * q := by rw [Int.natAbs_mul, sg_abs]; rfl
/-- A number by two numbers of which one is twice the other. -/
theorem dbl_mul {x d d2 : Nat} {f a : Int} (hx : Val x f) (hd : Val d a) (hd2 : Val d2 (2 * a)) (hz : f * a = 0 ∨ 2 ^ 172 ≤ (f * a).natAbs) (b : Nat) (hb4 : b ≤ 410) (hb : (f * a).natAbs < 2 ^ b) :
    ∃ v, Val (fop .mul .f32 x d) v ∧ Val (fop .mul .f32 x d2) (2 * v) ∧ (∀ c, 298 ≤ c + 298 → 2 ^ (c + 172) ≤ (f * a).natAbs → ∃ q : Int, v = q * ((2 ^ c : Nat) : Int)) ∧ (f * a = 0 → v = 0) ∧ (173 ≤ b → v.natAbs ≤ 2 ^ (b - 149)) := by
  obtain ⟨s, m, i, x1, x2, x3⟩ := hx
  obtain ⟨t, n, j, d1, d2', d3⟩ := hd
  obtain ⟨t', n', j', e1, e2, e3⟩ := hd2
  have ex : fop .mul .f32 x d = single.nearest (s ^^ t) (m * n) (i + j) := by
    show (single.mul x d).getD _ = _
    unfold Format.mul
    rw [x1, d1]; rfl
  have ey : fop .mul .f32 x d2 = single.nearest (s ^^ t') (m * n') (i + j') := by
    show (single.mul x d2).getD _ = _
    unfold Format.mul
    rw [x1, e1]; rfl
  have hm : m * 2 ^ (i + 149).toNat = f.natAbs := by rw [← x3, natAbs_sg]
  have hn : n * 2 ^ (j + 149).toNat = a.natAbs := by rw [← d3, natAbs_sg]
  have hn' : n' * 2 ^ (j' + 149).toNat = 2 * a.natAbs := by
    have : (2 * a).natAbs = 2 * a.natAbs := by omega
    rw [← this, ← e3, natAbs_sg]
  have hfa : m * n * 2 ^ (i + j + 298).toNat = (f * a).natAbs := by
    rw [Int.natAbs_mul, ← hm, ← hn, show (i + j + 298).toNat = (i + 149).toNat + (j + 149).toNat by omega, Nat.pow_add]
    rw [Nat.mul_mul_mul_comm]
  by_cases h0 : m * n = 0
  · have hfa0 : f * a = 0 := by rw [h0, Nat.zero_mul] at hfa; omega
    have h0' : m * n' = 0 := by
      rcases Nat.mul_eq_zero.1 h0 with h | h
      · rw [h, Nat.zero_mul]
      · rw [h, Nat.zero_mul] at hn
        rw [← hn] at hn'
        rcases Nat.mul_eq_zero.1 hn' with h | h
        · rw [h, Nat.mul_zero]
        · exact absurd h (Nat.ne_of_gt (Nat.two_pow_pos _))
    rw [ex, ey, h0, h0']
    refine ⟨0, val_zero _ _, val_zero _ _, fun c _ hc => ?_, fun _ => rfl, fun _ => Nat.zero_le _⟩
    rw [hfa0] at hc
    have := Nat.two_pow_pos (c + 172)
    simp at hc
  · have hm0 : m ≠ 0 := fun e => h0 (by rw [e, Nat.zero_mul])
    have hn0 : n ≠ 0 := fun e => h0 (by rw [e, Nat.mul_zero])
    have ha0 : a ≠ 0 := by
      intro e
      rw [e] at hn
      have := Nat.mul_eq_zero.1 hn
      rcases this with h | h
      · exact hn0 h
      · exact absurd h (Nat.ne_of_gt (Nat.two_pow_pos _))
    have hst : t = t' := by
      have p1 : sg t n < 0 ↔ a < 0 := by
        rw [← d3]
        constructor
        · intro h; exact Int.mul_neg_of_neg_of_pos h (two_pos _)
        · intro h
          by_cases h2 : sg t n < 0
          · exact h2
          · have := Int.mul_nonneg (Int.not_lt.1 h2) (Int.le_of_lt (two_pos (j + 149).toNat)); omega
      have hn0' : n' ≠ 0 := fun e => by rw [e, Nat.zero_mul] at hn'; omega
      have p2 : sg t' n' < 0 ↔ 2 * a < 0 := by
        rw [← e3]
        constructor
        · intro h; exact Int.mul_neg_of_neg_of_pos h (two_pos _)
        · intro h
          by_cases h2 : sg t' n' < 0
          · exact h2
          · have := Int.mul_nonneg (Int.not_lt.1 h2) (Int.le_of_lt (two_pos (j' + 149).toNat)); omega
      rw [sg_neg _ _ hn0] at p1
      rw [sg_neg _ _ hn0'] at p2
      have p3 : (2 * a < 0) ↔ a < 0 := by omega
      rw [p3] at p2
      cases t <;> cases t' <;> first | rfl | (exfalso; simp at p1 p2; omega)
    subst hst
    have hfa0 : f * a ≠ 0 := fun e => by
      rw [e] at hfa
      rcases Nat.mul_eq_zero.1 hfa with h | h
      · exact h0 h
      · exact absurd h (Nat.ne_of_gt (Nat.two_pow_pos _))
    have hbig := hz.resolve_left hfa0
    rw [← hfa] at hbig hb
    have hl := log2_of (m * n) (i + j) h0 298 172 b (by omega) hbig hb
    obtain ⟨v, v1, v2, ⟨q, hq⟩, -, vb⟩ := nearest_dbl (s ^^ t) (m * n) (m * n') (i + j) (i + j') (149 - i) h0 (by omega) (by omega) (by
      rw [show (i + j' + (149 - i)).toNat = (j' + 149).toNat by omega, show (i + j + (149 - i)).toNat = (j + 149).toNat by omega, Nat.mul_assoc, hn', Nat.mul_assoc m n, hn, Nat.mul_left_comm]) (by omega) (by omega)
    rw [ex, ey]
    refine ⟨v, v1, v2, fun c _ hc => ?_, fun h => absurd h hfa0, fun h173 => ?_⟩
    rotate_left
    · refine Nat.le_trans vb ?_
      rw [show (16777216 : Nat) = 2 ^ 24 by decide, ← Nat.pow_add]
      exact Nat.pow_le_pow_right (by decide) (by omega)
    rw [← hfa] at hc
    have hl2 := log2_of (m * n) (i + j) h0 298 (c + 172) b (by omega) hc hb
    obtain ⟨r, hr⟩ : ∃ r : Nat, (i + j + ((m * n).log2 : Int) + 126).toNat = c + r := ⟨(i + j + ((m * n).log2 : Int) + 126).toNat - c, by omega⟩
    refine ⟨q * ((2 ^ r : Nat) : Int), ?_⟩
    rw [hq, hr, Nat.pow_add, Int.natCast_mul, Int.mul_assoc, Int.mul_comm ((2 ^ r : Nat) : Int)]
theorem add_repr {x m : Nat} {a b : Int} (hx : Val x a) (hm : Val m b) : ∃ neg T p, fop .add .f32 x m = single.nearest neg T p ∧ -149 ≤ p ∧ T * 2 ^ (p + 149).toNat = (a + b).natAbs ∧ (T ≠ 0 → (neg = true ↔ a + b < 0)) := by
  obtain ⟨s, n, i, x1, x2, x3⟩ := hx
  obtain ⟨t, k, j, m1, m2, m3⟩ := hm
  have e : fop .add .f32 x m = single.nearest (if signed s n (i - min i j).toNat + signed t k (j - min i j).toNat = 0 then s && t else decide (signed s n (i - min i j).toNat + signed t k (j - min i j).toNat < 0)) (signed s n (i - min i j).toNat + signed t k (j - min i j).toNat).natAbs (min i j) := by
    show (single.add x m).getD _ = _
    unfold Format.add
    rw [x1, m1]; rfl
  rw [signed_eq, signed_eq] at e
  have hT : (sg s n * ((2 ^ (i - min i j).toNat : Nat) : Int) + sg t k * ((2 ^ (j - min i j).toNat : Nat) : Int)) * ((2 ^ (min i j + 149).toNat : Nat) : Int) = a + b := by
    rw [Int.add_mul, ← x3, ← m3, Int.mul_assoc, Int.mul_assoc, ← Int.natCast_mul, ← Int.natCast_mul, ← Nat.pow_add, ← Nat.pow_add]
    have e1 : (i - min i j).toNat + (min i j + 149).toNat = (i + 149).toNat := by omega
    have e2 : (j - min i j).toNat + (min i j + 149).toNat = (j + 149).toNat := by omega
    rw [e1, e2]
  generalize sg s n * ((2 ^ (i - min i j).toNat : Nat) : Int) + sg t k * ((2 ^ (j - min i j).toNat : Nat) : Int) = S at *
  refine ⟨_, _, _, e, by omega, by rw [← abs_mul, hT], fun h => ?_⟩
  have hS : S ≠ 0 := by omega
  rw [if_neg hS, decide_eq_true_eq, ← hT]
  constructor
  · intro h; exact Int.mul_neg_of_neg_of_pos h (two_pos _)
  · intro h
    by_cases h2 : S < 0
    · exact h2
    · have := Int.mul_nonneg (Int.not_lt.1 h2) (Int.le_of_lt (two_pos (min i j + 149).toNat)); omega
theorem dbl_add {x m x2 m2 : Nat} {a b : Int} (hx : Val x a) (hm : Val m b) (hx2 : Val x2 (2 * a)) (hm2 : Val m2 (2 * b)) (hz : a + b = 0 ∨ 2 ^ 23 ≤ (a + b).natAbs) (bd : Nat) (hb4 : bd ≤ 260) (hb : (a + b).natAbs < 2 ^ bd) : ∃ v, Val (fop .add .f32 x m) v ∧ Val (fop .add .f32 x2 m2) (2 * v) ∧ (v = 0 ∨ 2 ^ 23 ≤ v.natAbs) ∧ v.natAbs ≤ 2 ^ bd := by
  obtain ⟨neg, T, p, e1, p1, t1, s1⟩ := add_repr hx hm
  obtain ⟨neg', T', p', e2, p2, t2, s2⟩ := add_repr hx2 hm2
  have e3 : (2 * a + 2 * b).natAbs = 2 * (a + b).natAbs := by omega
  rw [e3] at t2
  rw [e1, e2]
  by_cases h0 : T = 0
  · have h0' : T' = 0 := by
      rw [h0, Nat.zero_mul] at t1
      rw [← t1, Nat.mul_zero] at t2
      rcases Nat.mul_eq_zero.1 t2 with h | h
      · exact h
      · exact absurd h (Nat.ne_of_gt (Nat.two_pow_pos _))
    rw [h0, h0']
    exact ⟨0, val_zero _ _, val_zero _ _, .inl rfl, Nat.zero_le _⟩
  · have hab : (a + b).natAbs ≠ 0 := by rw [← t1]; exact Nat.mul_ne_zero h0 (Nat.ne_of_gt (Nat.two_pow_pos _))
    have h0' : T' ≠ 0 := fun h => by rw [h, Nat.zero_mul] at t2; omega
    have hs : neg = neg' := by
      have q1 := s1 h0
      have q2 := s2 h0'
      have q3 : 2 * a + 2 * b < 0 ↔ a + b < 0 := by omega
      rw [q3, ← q1] at q2
      cases neg <;> cases neg' <;> simp_all
    subst hs
    have hbig := hz.resolve_left (by omega)
    rw [← t1] at hbig hb
    have hl := log2_of T p h0 149 23 bd (by omega) hbig hb
    obtain ⟨v, v1, v2, -, vl, vh⟩ := nearest_dbl neg T T' p p' 149 h0 (by omega) (by omega) (by rw [t2, t1]) (by omega) (by omega)
    refine ⟨v, v1, v2, .inr (Nat.le_trans ?_ vl), Nat.le_trans vh ?_⟩
    · have := Nat.two_pow_pos (p + (T.log2 : Int) + 126).toNat
      rw [show (2 ^ 23 : Nat) = 8388608 by decide]
      omega
    · rw [show (16777216 : Nat) = 2 ^ 24 by decide, ← Nat.pow_add]
      exact Nat.pow_le_pow_right (by decide) (by omega)
theorem val_bits {r : Nat} {v : Int} (h : Val r v) : ∃ s m e, single.read r = .number s m e ∧ -149 ≤ e ∧ m < 16777216 ∧ m * 2 ^ (e + 149).toNat = v.natAbs ∧ sg s m * ((2 ^ (e + 149).toNat : Nat) : Int) = v := by
  obtain ⟨s, m, e, h1, h2, h3⟩ := h
  exact ⟨s, m, e, h1, h2, (read_bounds32 r h1).1, by rw [← h3, natAbs_sg], h3⟩
/-- Twice a number. -/
theorem dbl_two {r : Nat} {v : Int} (h : Val r v) (hz : v = 0 ∨ 2 ^ 23 ≤ v.natAbs) (bd : Nat) (hb4 : bd ≤ 240) (hb : v.natAbs < 2 ^ bd) : Val (fop .mul .f32 1073741824 r) (2 * v) := by
  obtain ⟨s, m, e, h1, h2, h3, h4, h5⟩ := val_bits h
  have ex : fop .mul .f32 1073741824 r = single.nearest (false ^^ s) (8388608 * m) (-22 + e) := by
    show (single.mul 1073741824 r).getD _ = _
    unfold Format.mul
    rw [h1, show single.read 1073741824 = .number false 8388608 (-22) by decide +kernel]; rfl
  rw [ex, Bool.false_xor]
  by_cases h0 : m = 0
  · subst h0
    rw [Nat.mul_zero]
    have : v = 0 := by rw [Nat.zero_mul] at h4; omega
    rw [this]
    exact val_zero _ _
  · have hv : v.natAbs ≠ 0 := by rw [← h4]; exact Nat.mul_ne_zero h0 (Nat.ne_of_gt (Nat.two_pow_pos _))
    have hbig := hz.resolve_left (by omega)
    rw [← h4] at hbig hb
    have hl := log2_of m e h0 149 23 bd (by omega) hbig hb
    obtain ⟨u, u1, u2, -, -, -⟩ := nearest_dbl s m (8388608 * m) e (-22 + e) 200 h0 (by omega) (by omega) (by
      rw [show (e + 200).toNat = (-22 + e + 200).toNat + 22 by omega, Nat.pow_add]
      generalize 2 ^ (-22 + e + 200).toNat = y
      rw [Nat.mul_assoc, show (2 ^ 22 : Nat) = 4194304 by decide, ← Nat.mul_assoc m y]
      generalize m * y = z
      omega) (by omega) (by omega)
    obtain ⟨m', p', r1, r2, -, r4⟩ := read_nearest s m e h3 h2 (by
      have : (m.log2 : Int) ≥ 0 := by omega
      omega)
    have hu : u = v := u1.uniq ⟨s, m', p', r1, r2, by rw [← h5]; have e4 := congrArg (Nat.cast (R := Int)) r4; push_cast at e4 ⊢; unfold sg; cases s <;> simp [Int.neg_mul] <;> omega⟩
    rw [← hu]
    exact u2
end Go.Proofs.Ythacadbdncfocaa

/- FnSamples: the plain law: lists of quarters between their numbers; curves of closed numbers; twice a list. -/
namespace Go.Proofs.Ythacadbdncfocaa
open Go Go.RowKit

theorem Fx.sub {k x y : Nat} {a b0 : Int} (hx : Fx k x a) (hy : Fx k y b0) (hk : k ≤ 140) (h0 : (a - b0).natAbs < 16777216) : ∃ r, Ieee.single.sub x y = some r ∧ Fx k r (a - b0) := by
  obtain ⟨b, hb0⟩ : ∃ b, -b0 = b := ⟨_, rfl⟩
  have h : (a + b).natAbs < 16777216 := by omega
  rw [show a - b0 = a + b by omega]
  obtain ⟨s, m, i, hx1, -, hi0, hi1, hx2⟩ := hx
  obtain ⟨t0, n, j, hy1, -, hj0, hj1, hy20⟩ := hy
  obtain ⟨t, ht⟩ : ∃ t, (!t0) = t := ⟨_, rfl⟩
  have hy2 : sg t n * ((2 ^ (j + 149).toNat : Nat) : Int) = b * ((2 ^ (149 - k) : Nat) : Int) := by
    rw [← hb0, Int.neg_mul, ← hy20, ← ht]
    unfold sg
    cases t0 <;> simp [Int.neg_mul]
  unfold Ieee.Format.sub
  rw [hx1, hy1]
  simp only [Ieee.Datum.opposite, Ieee.Datum.sum, Option.map_some]
  rw [ht]
  rw [signed_eq, signed_eq]
  generalize hb : min i j = base
  have hb0 : -149 ≤ base := by omega
  have hT : (sg s m * ((2 ^ (i - base).toNat : Nat) : Int) + sg t n * ((2 ^ (j - base).toNat : Nat) : Int)) * ((2 ^ (base + 149).toNat : Nat) : Int) = (a + b) * ((2 ^ (149 - k) : Nat) : Int) := by
    rw [Int.add_mul, Int.add_mul, ← hx2, ← hy2, Int.mul_assoc, Int.mul_assoc, ← Int.natCast_mul, ← Int.natCast_mul, ← Nat.pow_add, ← Nat.pow_add]
    have e1 : (i - base).toNat + (base + 149).toNat = (i + 149).toNat := by omega
    have e2 : (j - base).toNat + (base + 149).toNat = (j + 149).toNat := by omega
    rw [e1, e2]
  generalize sg s m * ((2 ^ (i - base).toNat : Nat) : Int) + sg t n * ((2 ^ (j - base).toNat : Nat) : Int) = T at *
  refine ⟨_, rfl, fx_write k _ T.natAbs base (a + b) hk h ?_ (fun _ => hb0) ?_ ?_⟩
  · intro hT0
    have hT1 : T ≠ 0 := by omega
    rw [if_neg hT1]
    have p1 := two_pos (base + 149).toNat
    have p2 := two_pos (149 - k)
    constructor
    · intro hn
      have h3 := Int.mul_neg_of_neg_of_pos hn p2
      rw [← hT] at h3
      have : T < 0 := by
        by_cases h2 : T < 0
        · exact h2
        · have := Int.mul_nonneg (Int.not_lt.1 h2) (Int.le_of_lt p1); omega
      simpa using this
    · intro hd
      have hd : T < 0 := by simpa using hd
      have h3 := Int.mul_neg_of_neg_of_pos hd p1
      rw [hT] at h3
      by_cases h2 : a + b < 0
      · exact h2
      · have := Int.mul_nonneg (Int.not_lt.1 h2) (Int.le_of_lt p2); omega
  · intro _
    rw [← abs_mul, ← abs_mul, hT]
  · intro h0
    have hT0 : T = 0 := by omega
    rw [hT0, Int.zero_mul] at hT
    rcases Int.mul_eq_zero.1 hT.symm with h | h
    · exact h
    · exact absurd h (pow_cast _)
theorem Fx.fopSub {k x y : Nat} {a b : Int} (hx : Fx k x a) (hy : Fx k y b) (hk : k ≤ 140) (h : (a - b).natAbs < 16777216) : Fx k (fop .sub .f32 x y) (a - b) := by
  obtain ⟨r, h1, h2⟩ := hx.sub hy hk h
  have : fop .sub .f32 x y = r := by
    show (Ieee.single.sub x y).getD _ = r
    rw [h1]; rfl
  rw [this]; exact h2

/-- The number at or ahead of t. -/
def tJ (t : Nat) : Nat := (toI .f64 (flo (cwide t))).toNat
/-- A number, zero or neither too small nor too great. -/
def midB (f : Nat) : Bool := match Ieee.single.read f with
  | .number _ m e => decide (-149 ≤ e) && ((m == 0) || decide (2 ^ 123 ≤ m * 2 ^ (e + 149).toNat)) && decide (m * 2 ^ (e + 149).toNat < 2 ^ 150)
  | _ => false
theorem midB_val {f : Nat} (h : midB f = true) : ∃ v, Val f v ∧ (v = 0 ∨ 2 ^ 123 ≤ v.natAbs) ∧ v.natAbs < 2 ^ 150 := by
  unfold midB at h
  cases hr : Ieee.single.read f with
  | nan s t => rw [hr] at h; cases h
  | infinity s => rw [hr] at h; cases h
  | number s m e =>
    rw [hr] at h
    simp only [Bool.and_eq_true, Bool.or_eq_true, decide_eq_true_eq, beq_iff_eq] at h
    obtain ⟨⟨h1, h2⟩, h3⟩ := h
    refine ⟨_, ⟨s, m, e, hr, h1, rfl⟩, ?_, by rw [natAbs_sg]; exact h3⟩
    rcases h2 with h2 | h2
    · left; subst h2; unfold sg; cases s <;> simp
    · right; rw [natAbs_sg]; exact h2
/-- t can be asked for in every short list. -/
def tOk (t : Nat) : Bool := !geqZ t || (!isN .f32 t && (!isN .f64 (cwide t) && (toIOk .f64 (flo (cwide t)) && ((toI .f64 (flo (cwide t)) == (tJ t : Int)) && (!isN .f32 (smpF t (tJ t)) && (midB (smpF t (tJ t)) && (List.range 12).all fun n => !leqN t n || (decide (tJ t < n) && (isZ (smpF t (tJ t)) || decide (tJ t + 1 < n)))))))))
def smpR (L : List Nat) (t : Nat) : Nat := if geqZ t && leqN t L.length then (if isZ (smpF t (tJ t)) then L.getD (tJ t) 0 else smpA L t (tJ t)) else 0
/-- The numbers of a list, in quarters. -/
def Qs (L : List Nat) (z : Nat → Int) : Prop := ∀ j, j < L.length → Fx 2 (L.getD j 0) (z j) ∧ -16 ≤ z j ∧ z j ≤ 16 ∧ Cls .f32 (L.getD j 0)
theorem tOk_at {t n : Nat} (h : tOk t = true) (hn : n < 12) (h1 : geqZ t = true) (h2 : leqN t n = true) : SmpAt n t (tJ t) ∧ midB (smpF t (tJ t)) = true ∧ (isZ (smpF t (tJ t)) = false → tJ t + 1 < n) := by
  unfold tOk at h
  rw [h1] at h
  simp only [Bool.not_true, Bool.false_or, Bool.and_eq_true, Bool.not_eq_true', beq_iff_eq] at h
  obtain ⟨a1, a2, a3, a4, a5, a6, a7⟩ := h
  have a8 := List.all_eq_true.1 a7 n (List.mem_range.2 hn)
  rw [h2] at a8
  simp only [Bool.not_true, Bool.false_or, Bool.and_eq_true, decide_eq_true_eq, Bool.or_eq_true] at a8
  refine ⟨⟨h1, h2, a1, a2, a3, a4, a8.1, a5⟩, a6, fun hz => ?_⟩
  rcases a8.2 with h | h
  · rw [hz] at h; cases h
  · exact h
theorem val_q {x : Nat} {z : Int} (h : Fx 2 x z) : Val x (z * ((2 ^ 147 : Nat) : Int)) := h.val
theorem mul_pow_lt {x y a b c : Nat} (hx : x < 2 ^ a) (hy : y ≤ 2 ^ b) (h : a + b ≤ c) : x * y < 2 ^ c := by
  have h1 : x * y ≤ x * 2 ^ b := Nat.mul_le_mul_left _ hy
  have h2 : x * 2 ^ b < 2 ^ a * 2 ^ b := Nat.mul_lt_mul_of_pos_right hx (Nat.two_pow_pos _)
  rw [← Nat.pow_add] at h2
  exact Nat.lt_of_le_of_lt h1 (Nat.lt_of_lt_of_le h2 (Nat.pow_le_pow_right (by decide) h))
theorem mul_pow_le {x y a b c : Nat} (hx : 2 ^ a ≤ x) (hy : 2 ^ b ≤ y) (h : c ≤ a + b) : 2 ^ c ≤ x * y := by
  have h1 := Nat.mul_le_mul hx hy
  rw [← Nat.pow_add] at h1
  exact Nat.le_trans (Nat.pow_le_pow_right (by decide) h) h1
theorem smp_twice {L L2 : List Nat} {z : Nat → Int} {t : Nat} (hL : Qs L z) (hL2 : Qs L2 fun j => 2 * z j) (hl : L2.length = L.length) (hz8 : ∀ j, j < L.length → -8 ≤ z j ∧ z j ≤ 8) (hn : L.length < 12) (h : tOk t = true) :
    Smp L t (smpR L t) ∧ Smp L2 t (smpR L2 t) ∧ ∃ v, Val (smpR L t) v ∧ Val (smpR L2 t) (2 * v) ∧ (v = 0 ∨ 2 ^ 23 ≤ v.natAbs) ∧ v.natAbs ≤ 2 ^ 160 := by
  unfold smpR
  rw [hl]
  by_cases h1 : geqZ t = true
  · by_cases h2 : leqN t L.length = true
    · obtain ⟨ha, hm, hj⟩ := tOk_at h hn h1 h2
      have ha2 : SmpAt L2.length t (tJ t) := by rw [hl]; exact ha
      rw [h1, h2, Bool.and_self, if_pos rfl, if_pos rfl]
      obtain ⟨q1, q2, q3, q4⟩ := hL _ ha.lt
      obtain ⟨r1, -, -, r4⟩ := hL2 _ (by rw [hl]; exact ha.lt)
      have z8 := hz8 _ ha.lt
      have v1 := val_q q1
      have v2 := val_q r1
      rw [Int.mul_assoc] at v2
      cases hz : isZ (smpF t (tJ t)) with
      | true =>
        rw [if_pos rfl, if_pos rfl]
        refine ⟨.inr (.inl ⟨_, ha, hz, rfl⟩), .inr (.inl ⟨_, ha2, hz, rfl⟩), _, v1, v2, ?_, ?_⟩
        · by_cases h0 : z (tJ t) = 0
          · left; rw [h0, Int.zero_mul]
          · right
            rw [Int.natAbs_mul]
            have : 1 ≤ (z (tJ t)).natAbs := by omega
            have e : ((2 ^ 147 : Nat) : Int).natAbs = 2 ^ 147 := rfl
            rw [e]
            exact Nat.le_trans (Nat.pow_le_pow_right (by decide) (by decide : 23 ≤ 147)) (Nat.le_mul_of_pos_left _ this)
        · rw [Int.natAbs_mul]
          have e : ((2 ^ 147 : Nat) : Int).natAbs = 2 ^ 147 := rfl
          rw [e]
          have : (z (tJ t)).natAbs ≤ 2 ^ 4 := by omega
          exact Nat.le_trans (Nat.mul_le_mul_right _ this) (by rw [← Nat.pow_add]; exact Nat.pow_le_pow_right (by decide) (by decide))
      | false =>
        have hj1 := hj hz
        have hz' : ¬ (false = true) := by decide
        rw [if_neg hz', if_neg hz']
        obtain ⟨p1, p2, p3, -⟩ := hL _ hj1
        obtain ⟨s1, -, -, -⟩ := hL2 (tJ t + 1) (by rw [hl]; exact hj1)
        have y8 := hz8 _ hj1
        have d1 : Fx 2 (smpD L (tJ t)) (z (tJ t + 1) - z (tJ t)) := p1.fopSub q1 (by decide) (by omega)
        have d2 : Fx 2 (smpD L2 (tJ t)) (2 * (z (tJ t + 1) - z (tJ t))) := by
          have s1' : Fx 2 (L2.getD (tJ t + 1) 0) (2 * z (tJ t + 1)) := s1
          have r1' : Fx 2 (L2.getD (tJ t) 0) (2 * z (tJ t)) := r1
          have := s1'.fopSub r1' (by decide) (by omega)
          rwa [show 2 * z (tJ t + 1) - 2 * z (tJ t) = 2 * (z (tJ t + 1) - z (tJ t)) by omega] at this
        generalize hD : z (tJ t + 1) - z (tJ t) = D at *
        have hDb : D.natAbs ≤ 16 := by omega
        have w1 := val_q d1
        have w2 := val_q d2
        rw [Int.mul_assoc] at w2
        obtain ⟨f, f1, f2, f3⟩ := midB_val hm
        have e147 : ((2 ^ 147 : Nat) : Int).natAbs = 2 ^ 147 := rfl
        have hfa : (f * (D * ((2 ^ 147 : Nat) : Int))).natAbs = f.natAbs * (D.natAbs * 2 ^ 147) := by rw [Int.natAbs_mul, Int.natAbs_mul, e147]
        obtain ⟨b3, hb3⟩ : ∃ b : Nat, b = 302 := ⟨_, rfl⟩
        have hup : f.natAbs * (D.natAbs * 2 ^ 147) < 2 ^ b3 := by
          have g1 : D.natAbs * 2 ^ 147 ≤ 2 ^ 4 * 2 ^ 147 := Nat.mul_le_mul_right _ (by omega)
          rw [← Nat.pow_add] at g1
          exact mul_pow_lt f3 g1 (by omega)
        obtain ⟨c3, hc3⟩ : ∃ c : Nat, c = 270 := ⟨_, rfl⟩
        have hlow : f * (D * ((2 ^ 147 : Nat) : Int)) = 0 ∨ 2 ^ c3 ≤ f.natAbs * (D.natAbs * 2 ^ 147) := by
          rcases f2 with h0 | h0
          · left; rw [h0, Int.zero_mul]
          · by_cases hD0 : D = 0
            · left; rw [hD0, Int.zero_mul, Int.mul_zero]
            · right
              have g1 : 1 * 2 ^ 147 ≤ D.natAbs * 2 ^ 147 := Nat.mul_le_mul_right _ (by omega)
              rw [Nat.one_mul] at g1
              exact mul_pow_le h0 g1 (by omega)
        obtain ⟨m, m1, m2, m3, m4, m5⟩ := dbl_mul (b := b3) f1 w1 w2 (by
          rcases hlow with h | h
          · exact .inl h
          · right; rw [hfa]; exact Nat.le_trans (Nat.pow_le_pow_right (by decide) (by omega)) h) (by omega) (by rw [hfa]; exact hup)
        have hmb := m5 (by omega)
        rw [show b3 - 149 = 153 by omega] at hmb
        have hmq : ∃ q : Int, m = q * ((2 ^ 98 : Nat) : Int) := by
          rcases hlow with h | h
          · exact ⟨0, by rw [m4 h, Int.zero_mul]⟩
          · obtain ⟨c9, h9⟩ : ∃ c : Nat, c = 98 := ⟨_, rfl⟩
            have g1 := m3 c9 (by omega) (by rw [hfa]; exact Nat.le_trans (Nat.pow_le_pow_right (by decide) (by omega)) h)
            rwa [h9] at g1
        obtain ⟨q, hq⟩ := hmq
        have e98 : ((2 ^ 147 : Nat) : Int) = ((2 ^ 49 : Nat) : Int) * ((2 ^ 98 : Nat) : Int) := by rw [← Int.natCast_mul, ← Nat.pow_add]
        have hsum : z (tJ t) * ((2 ^ 147 : Nat) : Int) + m = (z (tJ t) * ((2 ^ 49 : Nat) : Int) + q) * ((2 ^ 98 : Nat) : Int) := by
          rw [hq, e98, ← Int.mul_assoc, ← Int.add_mul]
        have hzb : (z (tJ t) * ((2 ^ 147 : Nat) : Int)).natAbs ≤ 2 ^ 151 := by
          rw [Int.natAbs_mul, e147]
          exact Nat.le_trans (Nat.mul_le_mul_right _ (show (z (tJ t)).natAbs ≤ 2 ^ 4 by omega)) (by rw [← Nat.pow_add]; exact Nat.le_refl _)
        have hsb : (z (tJ t) * ((2 ^ 147 : Nat) : Int) + m).natAbs < 2 ^ 155 := by
          have g1 := Int.natAbs_add_le (z (tJ t) * ((2 ^ 147 : Nat) : Int)) m
          have g2 : (2 : Nat) ^ 151 + 2 ^ 153 < 2 ^ 155 := by decide
          omega
        obtain ⟨v, a1, a2, a3, a4⟩ := dbl_add (bd := 155) v1 m1 v2 m2 (by
          rw [hsum]
          by_cases h0 : z (tJ t) * ((2 ^ 49 : Nat) : Int) + q = 0
          · left; rw [h0, Int.zero_mul]
          · right
            rw [Int.natAbs_mul]
            have e : ((2 ^ 98 : Nat) : Int).natAbs = 2 ^ 98 := rfl
            rw [e]
            exact Nat.le_trans (Nat.pow_le_pow_right (by decide) (by decide : 23 ≤ 98)) (Nat.le_mul_of_pos_left _ (by omega))) (by decide) hsb
        refine ⟨.inr (.inr ⟨_, ha, hz, hj1, d1.notNan, m1.notNan, a1.notNan, rfl⟩), .inr (.inr ⟨_, ha2, hz, by rw [hl]; exact hj1, d2.notNan, m2.notNan, a2.notNan, rfl⟩), v, a1, a2, a3, Nat.le_trans a4 (Nat.pow_le_pow_right (by decide) (by decide))⟩
    · have h2' : leqN t L.length = false := by simpa using h2
      rw [h2', Bool.and_false]
      refine ⟨.inl ⟨.inr ⟨h1, h2'⟩, rfl⟩, .inl ⟨.inr ⟨h1, by rw [hl]; exact h2'⟩, rfl⟩, 0, (Fx.zero 0).val, (Fx.zero 0).val, .inl rfl, Nat.zero_le _⟩
  · have h1' : geqZ t = false := by simpa using h1
    rw [h1', Bool.false_and]
    exact ⟨.inl ⟨.inl h1', rfl⟩, .inl ⟨.inl h1', rfl⟩, 0, (Fx.zero 0).val, (Fx.zero 0).val, .inl rfl, Nat.zero_le _⟩
end Go.Proofs.Ythacadbdncfocaa

/- FnSamples: tables of closed curves. -/
namespace Go.Proofs.Ythacadbdncfocaa
open Go Go.RowKit

def fI (k : Nat) : Nat := floatOfInt .f32 (k : Nat)
def cT (k p : Nat) : Nat := crv (fI k) (hV (p : Nat)) 1069547520
def hT (k : Nat) : Nat := fop .add .f32 (fI k) 1056964608
theorem tab_curve : ((List.range 12).all fun k => (List.range 12).all fun p => crvOk (fI k) (hV (p : Nat)) 1069547520 && tOk (cT k p)) = true := by decide +kernel
theorem cT_ok (k p : Nat) (hk : k < 12) (hp : p < 12) : crvOk (fI k) (hV (p : Nat)) 1069547520 = true ∧ tOk (cT k p) = true := by
  have := List.all_eq_true.1 (List.all_eq_true.1 tab_curve k (List.mem_range.2 hk)) p (List.mem_range.2 hp)
  rwa [Bool.and_eq_true] at this
/-- Whole numbers, and halves. -/
def intB (k : Nat) : Bool := tOk (fI k) && (geqZ (fI k) && (isZ (smpF (fI k) (tJ (fI k))) && ((tJ (fI k) == k) && (List.range 12).all fun n => leqN (fI k) n == decide (k < n))))
theorem tab_int : ((List.range 12).all fun k => intB k && (crvOk (fI k) 0 1065353216 && ((crv (fI k) 0 1065353216 == fI k) && (bndOk (fI k) 0 1065353216 && ((rootF (bndD (fI k) 0 1065353216) == fI k) && (fop .sub .f32 (fI k) 0 == fI k)))))) = true := by decide +kernel
theorem fI_ok (k : Nat) (hk : k < 12) : (tOk (fI k) = true ∧ geqZ (fI k) = true ∧ isZ (smpF (fI k) (tJ (fI k))) = true ∧ tJ (fI k) = k ∧ ∀ n, n < 12 → leqN (fI k) n = decide (k < n)) ∧
    crvOk (fI k) 0 1065353216 = true ∧ crv (fI k) 0 1065353216 = fI k ∧ bndOk (fI k) 0 1065353216 = true ∧ rootF (bndD (fI k) 0 1065353216) = fI k ∧ fop .sub .f32 (fI k) 0 = fI k := by
  have h := List.all_eq_true.1 tab_int k (List.mem_range.2 hk)
  unfold intB at h
  simp only [Bool.and_eq_true, beq_iff_eq] at h
  obtain ⟨⟨a1, a2, a3, a4, a5⟩, b1, b2, b3, b4, b5⟩ := h
  refine ⟨⟨a1, a2, a3, a4, fun n hn => ?_⟩, b1, b2, b3, b4, b5⟩
  have := List.all_eq_true.1 a5 n (List.mem_range.2 hn)
  simpa using this
theorem tab_half : ((List.range 10).all fun k => tOk (hT k) && (geqZ (hT k) && (!isZ (smpF (hT k) (tJ (hT k))) && ((tJ (hT k) == k) && ((smpF (hT k) k == 1056964608) && (List.range 12).all fun n => leqN (hT k) n == decide (k + 1 < n)))))) = true := by decide +kernel
theorem hT_ok (k : Nat) (hk : k < 10) : tOk (hT k) = true ∧ geqZ (hT k) = true ∧ isZ (smpF (hT k) (tJ (hT k))) = false ∧ tJ (hT k) = k ∧ smpF (hT k) k = 1056964608 ∧ ∀ n, n < 12 → leqN (hT k) n = decide (k + 1 < n) := by
  have h := List.all_eq_true.1 tab_half k (List.mem_range.2 hk)
  simp only [Bool.and_eq_true, beq_iff_eq, Bool.not_eq_true'] at h
  obtain ⟨a1, a2, a3, a4, a5, a6⟩ := h
  refine ⟨a1, a2, a3, a4, a5, fun n hn => ?_⟩
  have := List.all_eq_true.1 a6 n (List.mem_range.2 hn)
  simpa using this
/-- Where events stand. -/
def tA (k p : Nat) : Nat := (toI .f64 (evA (fI k) (hV (p : Nat)) 1065353216)).toNat
theorem tab_event : ((List.range 10).all fun k => (List.range 12).all fun p => crvOk (fI k) (hV (p : Nat)) 1065353216 && (!isN .f32 (evC (fI k) (hV (p : Nat)) 1065353216) && (!isN .f64 (cwide (evC (fI k) (hV (p : Nat)) 1065353216)) &&
    (toIOk .f64 (evA (fI k) (hV (p : Nat)) 1065353216) && ((toI .f64 (evA (fI k) (hV (p : Nat)) 1065353216) == (tA k p : Int)) && ((!(p == 0) || tA k p == k) && (List.range 12).all fun n => (FloatKind.f64.format.order (evA (fI k) (hV (p : Nat)) 1065353216) (floatOfInt .f64 (n : Nat)) == some Ordering.lt) == decide (tA k p < n))))))) = true := by decide +kernel
theorem event_ok (k p : Nat) (hk : k < 10) (hp : p < 12) : EvOk (fI k) (hV (p : Nat)) 1065353216 ∧ toIOk .f64 (evA (fI k) (hV (p : Nat)) 1065353216) = true ∧ toI .f64 (evA (fI k) (hV (p : Nat)) 1065353216) = (tA k p : Int) ∧ (p = 0 → tA k p = k) ∧
    ∀ n, n < 12 → (FloatKind.f64.format.order (evA (fI k) (hV (p : Nat)) 1065353216) (floatOfInt .f64 (n : Nat)) == some Ordering.lt) = decide (tA k p < n) := by
  have h := List.all_eq_true.1 (List.all_eq_true.1 tab_event k (List.mem_range.2 hk)) p (List.mem_range.2 hp)
  simp only [Bool.and_eq_true, beq_iff_eq, Bool.not_eq_true', Bool.or_eq_true] at h
  obtain ⟨a1, a2, a3, a4, a5, a6, a7⟩ := h
  refine ⟨⟨a1, a2, a3⟩, a4, a5, fun hp0 => ?_, fun n hn => ?_⟩
  · rcases a6 with h | h
    · simp at h; exact absurd hp0 h
    · exact h
  · have := List.all_eq_true.1 a7 n (List.mem_range.2 hn)
    simpa using this
end Go.Proofs.Ythacadbdncfocaa

/- FnSamples: the plain law: twice a list; order of values; the last small things. -/
namespace Go.Proofs.Ythacadbdncfocaa
open Go Go.RowKit

theorem atQ_fx (zs : List Int) (hz : ∀ z ∈ zs, -8 ≤ z ∧ z ≤ 8) (i : Nat) : Fx 2 ((zs.map qv).getD i 0) (zs.getD i 0) ∧ -8 ≤ zs.getD i 0 ∧ zs.getD i 0 ≤ 8 := by
  by_cases h : i < zs.length
  · have e1 : (zs.map qv).getD i 0 = qv zs[i] := by simp [List.getD_eq_getElem?_getD, List.getElem?_map, List.getElem?_eq_getElem h]
    have e2 : zs.getD i 0 = zs[i] := by simp [List.getD_eq_getElem?_getD, List.getElem?_eq_getElem h]
    obtain ⟨a, b⟩ := hz _ (List.getElem_mem h)
    rw [e1, e2]
    exact ⟨(qv_fx _ a b).1, a, b⟩
  · have e1 : (zs.map qv).getD i 0 = 0 := by rw [List.getD_eq_getElem?_getD, List.getElem?_eq_none (by simp; omega)]; rfl
    have e2 : zs.getD i 0 = 0 := by rw [List.getD_eq_getElem?_getD, List.getElem?_eq_none (by omega)]; rfl
    rw [e1, e2]
    exact ⟨Fx.zero 2, by decide, by decide⟩
theorem Val.order {x y : Nat} {a b : Int} (hx : Val x a) (hy : Val y b) : Ieee.single.order x y = some (compare a b) := by
  obtain ⟨s, m, i, hx1, hi0, hx2⟩ := hx
  obtain ⟨t, n, j, hy1, hj0, hy2⟩ := hy
  unfold Ieee.Format.order
  rw [hx1, hy1]
  simp only [Ieee.Datum.order]
  rw [signed_eq, signed_eq]
  generalize hb : min i j = base
  have hb0 : -149 ≤ base := by omega
  rw [← compare_scale (sg s m * ((2 ^ (i - base).toNat : Nat) : Int)) _ _ (two_pos (base + 149).toNat), ← hx2, ← hy2]
  congr 1
  have e1 : (i - base).toNat + (base + 149).toNat = (i + 149).toNat := by omega
  have e2 : (j - base).toNat + (base + 149).toNat = (j + 149).toNat := by omega
  rw [Int.mul_assoc, ← Int.natCast_mul, ← Nat.pow_add, e1, Int.mul_assoc, ← Int.natCast_mul, ← Nat.pow_add, e2]
theorem Val.same {x y : Nat} {a : Int} (hx : Val x a) (hy : Val y a) : FloatKind.f32.format.order x y = some .eq := by
  have := hx.order hy
  rw [Int.compare_eq_eq.2 rfl] at this
  exact this
def dq (z : Int) : Nat := fop .mul .f32 1073741824 (qv z)
theorem dq_fx (z : Int) (h0 : -8 ≤ z) (h1 : z ≤ 8) : Fx 2 (dq z) (2 * z) ∧ Cls .f32 (dq z) := by
  have h2 : Fx 0 1073741824 2 := Fx.of (by decide +kernel)
  have := h2.fopMul (qv_fx z h0 h1).1 (by decide) (by omega)
  exact ⟨this, fop_cls⟩
theorem qs_one (zs : List Int) (hz : ∀ z ∈ zs, -8 ≤ z ∧ z ≤ 8) : Qs (zs.map qv) fun j => zs.getD j 0 := by
  intro j hj
  rw [List.length_map] at hj
  obtain ⟨h1, h2, h3⟩ := atQ_fx zs hz j
  refine ⟨h1, by show -16 ≤ zs.getD j 0; omega, by show zs.getD j 0 ≤ 16; omega, ?_⟩
  rw [List.getD_eq_getElem?_getD, List.getElem?_map, List.getElem?_eq_getElem hj]
  exact fop_cls
theorem qs_two (zs : List Int) (hz : ∀ z ∈ zs, -8 ≤ z ∧ z ≤ 8) : Qs (zs.map dq) fun j => 2 * zs.getD j 0 := by
  intro j hj
  show Fx 2 _ (2 * zs.getD j 0) ∧ -16 ≤ 2 * zs.getD j 0 ∧ 2 * zs.getD j 0 ≤ 16 ∧ _
  rw [List.length_map] at hj
  have hm := hz _ (List.getElem_mem hj)
  rw [List.getD_eq_getElem?_getD, List.getElem?_map, List.getElem?_eq_getElem hj, List.getD_eq_getElem?_getD (l := zs), List.getElem?_eq_getElem hj]
  obtain ⟨h1, h2⟩ := dq_fx zs[j] hm.1 hm.2
  exact ⟨h1, by show -16 ≤ 2 * zs[j]; omega, by show 2 * zs[j] ≤ 16; omega, h2⟩
theorem zs_bound (zs : List Int) (hz : ∀ z ∈ zs, -8 ≤ z ∧ z ≤ 8) (n : Nat) : ∀ j, j < n → -8 ≤ zs.getD j 0 ∧ zs.getD j 0 ≤ 8 := fun j _ => (atQ_fx zs hz j).2
theorem smpR_cls (L : List Nat) (z : Nat → Int) (t : Nat) (hL : Qs L z) : Cls .f32 (smpR L t) := by
  unfold smpR
  split
  · split
    · by_cases h : tJ t < L.length
      · exact (hL _ h).2.2.2
      · rw [List.getD_eq_getElem?_getD, List.getElem?_eq_none (by omega)]
        exact ⟨by decide, by decide +kernel⟩
    · exact fop_cls
  · exact ⟨by decide, by decide +kernel⟩
/-- What the law compares: the doubled list's number against twice the list's. -/
theorem twice_same (zs : List Int) (hz : ∀ z ∈ zs, -8 ≤ z ∧ z ≤ 8) (hn : zs.length < 12) (t : Nat) (h : tOk t = true) :
    Smp (zs.map qv) t (smpR (zs.map qv) t) ∧ Smp (zs.map dq) t (smpR (zs.map dq) t) ∧ isN .f32 (smpR (zs.map qv) t) = false ∧ isN .f32 (smpR (zs.map dq) t) = false ∧
      FloatKind.f32.format.order (smpR (zs.map dq) t) (fop .mul .f32 1073741824 (smpR (zs.map qv) t)) = some .eq ∧ isN .f32 (fop .mul .f32 1073741824 (smpR (zs.map qv) t)) = false := by
  obtain ⟨h1, h2, v, h3, h4, h5, h6⟩ := smp_twice (qs_one zs hz) (qs_two zs hz) (by rw [List.length_map, List.length_map]) (zs_bound zs hz _) (by rw [List.length_map]; exact hn) h
  have h7 := dbl_two h3 h5 161 (by decide) (Nat.lt_of_le_of_lt h6 (Nat.pow_lt_pow_right (by decide) (by decide)))
  exact ⟨h1, h2, h3.notNan, h4.notNan, h4.same h7, h7.notNan⟩
set_option maxRecDepth 100000 in
set_option maxHeartbeats 400000 in
theorem r8AtOne_any (w : World) (v : Value) (n : Nat) (i : Int) (hy : RdY w v n) (hn : n ≤ 1048576) (hi : 0 ≤ i) (hi2 : i ≤ 1000) :
    Calls Try.prog 19 #[v, .int .i64 i, .int .i64 1] w fun e w' => e = .returned (.int .i64 0) ∧ w' = w := by
  obtain ⟨a, c, rfl, hc, hcell⟩ := hy.opened
  clear hy
  by_cases hlt : i < (n : Int)
  · have hd2 : decide (i ≥ (n : Int)) = false := by simp; omega
    clear hcell
    go_enter Try.func19, Try.ntmps19
    go_wp2
    go_ret
    exact ⟨rfl, rfl⟩
  · have hd2 : decide (i ≥ (n : Int)) = true := by simp; omega
    clear hcell
    go_enter Try.func19, Try.ntmps19
    go_wp2
    go_ret
    exact ⟨rfl, rfl⟩
/-- Both draws in one. -/
theorem r8AtPos_any (w : World) (v : Value) (n : Nat) (i m : Int) (hy : RdY w v n) (hn : n ≤ 1048576) (hi : 0 ≤ i) (hi2 : i ≤ 1000) (hm : 1 ≤ m) (hm2 : m ≤ 1000) :
    Calls Try.prog 19 #[v, .int .i64 i, .int .i64 m] w fun e w' => ∃ r : Int, e = .returned (.int .i64 r) ∧ 0 ≤ r ∧ r < m ∧ w' = w := by
  by_cases h : m = 1
  · subst h
    refine (r8AtOne_any w v n i hy hn hi hi2).mono ?_
    rintro e w1 ⟨rfl, rfl⟩
    exact ⟨0, rfl, by decide, by decide, rfl⟩
  · exact r8At_any w v n i m hy hn hi hi2 (by omega) hm2
end Go.Proofs.Ythacadbdncfocaa

/- FnStacks: the curves of the gather's places and speeds, by the kernel. -/
namespace Go.Proofs.Ythacadbdncfocaa
open Go Ieee

/-- The four speeds. -/
def spS (s : Nat) : Nat := match s with
  | 0 => 1056964608
  | 1 => 1065353216
  | 2 => 1073741824
  | _ => 1082130432
def spL : List Nat := [1056964608, 1065353216, 1073741824, 1082130432]
theorem spL_at (s : Nat) (h : s < 4) : spL.getD s 0 = spS s := by
  match s, h with
  | 0, _ => rfl
  | 1, _ => rfl
  | 2, _ => rfl
  | 3, _ => rfl
def cT4 (s k p : Nat) : Nat := crv (fI k) (hV ((p : Int) - 4)) (spS s)
theorem tab4_0 : ((List.range 12).all fun k => (List.range 17).all fun p => crvOk (fI k) (hV ((p : Int) - 4)) (spS 0) && tOk (cT4 0 k p)) = true := by decide +kernel
theorem tab4_1 : ((List.range 12).all fun k => (List.range 17).all fun p => crvOk (fI k) (hV ((p : Int) - 4)) (spS 1) && tOk (cT4 1 k p)) = true := by decide +kernel
theorem tab4_2 : ((List.range 12).all fun k => (List.range 17).all fun p => crvOk (fI k) (hV ((p : Int) - 4)) (spS 2) && tOk (cT4 2 k p)) = true := by decide +kernel
theorem tab4_3 : ((List.range 12).all fun k => (List.range 17).all fun p => crvOk (fI k) (hV ((p : Int) - 4)) (spS 3) && tOk (cT4 3 k p)) = true := by decide +kernel
theorem cT4_ok (s k : Nat) (a : Int) (hs : s < 4) (hk : k < 12) (ha : -4 ≤ a ∧ a ≤ 12) : crvOk (fI k) (hV a) (spS s) = true ∧ tOk (crv (fI k) (hV a) (spS s)) = true := by
  obtain ⟨p, rfl⟩ : ∃ p : Nat, a = (p : Int) - 4 := ⟨(a + 4).toNat, by omega⟩
  have hp : p < 17 := by omega
  have key : (crvOk (fI k) (hV ((p : Int) - 4)) (spS s) && tOk (cT4 s k p)) = true := by
    match s, hs with
    | 0, _ => exact List.all_eq_true.1 (List.all_eq_true.1 tab4_0 k (List.mem_range.2 hk)) p (List.mem_range.2 hp)
    | 1, _ => exact List.all_eq_true.1 (List.all_eq_true.1 tab4_1 k (List.mem_range.2 hk)) p (List.mem_range.2 hp)
    | 2, _ => exact List.all_eq_true.1 (List.all_eq_true.1 tab4_2 k (List.mem_range.2 hk)) p (List.mem_range.2 hp)
    | 3, _ => exact List.all_eq_true.1 (List.all_eq_true.1 tab4_3 k (List.mem_range.2 hk)) p (List.mem_range.2 hp)
  rw [Bool.and_eq_true] at key
  exact key
theorem Val.rq {r : Nat} {v : Int} (h : Val r v) : RQ .f32 r (v * sc (-149)) := by
  obtain ⟨s, m, e, h1, he, h2⟩ := h
  refine ⟨s, m, e, h1, ?_⟩
  rw [← h2, Rat.intCast_mul, sg_rq, Rat.intCast_natCast, ← sc_nat, show (((e + 149).toNat : Nat) : Int) = e + 149 by omega]
  have : sc (e + 149) * sc (-149) = sc e := by rw [← sc_add]; congr 1; omega
  grind
/-- A number of a corrected list is bounded. -/
theorem smp_fb (zs : List Int) (hz : ∀ z ∈ zs, -8 ≤ z ∧ z ≤ 8) (hn : zs.length < 12) (t : Nat) (h : tOk t = true) : FB (smpR (zs.map qv) t) 2048 := by
  obtain ⟨-, -, v, h3, -, -, h6⟩ := smp_twice (qs_one zs hz) (qs_two zs hz) (by rw [List.length_map, List.length_map]) (zs_bound zs hz _) (by rw [List.length_map]; exact hn) h
  refine ⟨_, h3.rq, ?_⟩
  have hp := sc_pos (-149)
  have e : sc 160 * sc (-149) = 2048 := by decide +kernel
  have e2 : sc 160 = ((2 ^ 160 : Nat) : Rat) := sc_nat 160
  have h7 : ((v.natAbs : Nat) : Rat) ≤ sc 160 := by rw [e2]; exact_mod_cast h6
  have h8 := Rat.mul_le_mul_of_nonneg_right h7 (Rat.le_of_lt hp)
  have hnn : 0 ≤ ((v.natAbs : Nat) : Rat) * sc (-149) := Rat.mul_nonneg (nat_nn _) (Rat.le_of_lt hp)
  unfold Ab
  rcases int_abs v with e3 | e3 <;> rw [e3] <;> grind
end Go.Proofs.Ythacadbdncfocaa

