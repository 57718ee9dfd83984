/- The rational value of a finite float, and what rounding does to it. -/
import Derived.Test.YthacadbdncfocaaRnd
import Derived.Test.YthacadbdncfocaaNn
namespace Go.Proofs.Ythacadbdncfocaa
open Go Ieee

/-- 2 to the e. -/
def sc (e : Int) : Rat := (2 : Rat) ^ e
theorem sc_pos (e : Int) : 0 < sc e := Rat.zpow_pos (by decide +kernel)
theorem sc_add (a b : Int) : sc (a + b) = sc a * sc b := Rat.zpow_add (by decide +kernel) a b
theorem sc_zero : sc 0 = 1 := Rat.zpow_zero _
theorem sc_nat (n : Nat) : sc (n : Int) = ((2 ^ n : Nat) : Rat) := by
  unfold sc
  rw [Rat.zpow_natCast, Rat.natCast_pow]
  rfl
theorem sc_cancel (a : Int) : sc a * sc (-a) = 1 := by rw [← sc_add, show a + -a = 0 by omega, sc_zero]
theorem one_le_sc (n : Nat) : 1 ≤ sc (n : Int) := by
  rw [sc_nat]
  have : 1 ≤ 2 ^ n := Nat.one_le_two_pow
  exact_mod_cast this
theorem sc_le {a b : Int} (h : a ≤ b) : sc a ≤ sc b := by
  obtain ⟨n, rfl⟩ : ∃ n : Nat, b = a + n := ⟨(b - a).toNat, by omega⟩
  rw [sc_add]
  have h1 := sc_pos a
  have h2 := one_le_sc n
  have := Rat.mul_le_mul_of_nonneg_left h2 (Rat.le_of_lt h1)
  grind
theorem sc_lt_inv {a b : Int} (h : sc a < sc b) : a < b := by
  by_cases hc : a < b
  · exact hc
  · have := sc_le (show b ≤ a by omega)
    grind
theorem nat_pos {n : Nat} (h : n ≠ 0) : (0 : Rat) < (n : Rat) := by
  have : 0 < n := by omega
  exact_mod_cast this
theorem nat_nn (n : Nat) : (0 : Rat) ≤ (n : Rat) := by exact_mod_cast Nat.zero_le n
/-- The sign. -/
def sgr (s : Bool) : Rat := if s then -1 else 1
theorem sgr_xor (s t : Bool) : sgr (s ^^ t) = sgr s * sgr t := by cases s <;> cases t <;> simp only [sgr, Bool.xor_false, Bool.xor_true, Bool.not_true, Bool.not_false, if_true] <;> decide +kernel
theorem sgr_not (s : Bool) : sgr (!s) = - sgr s := by cases s <;> decide +kernel
/-- The float is a number, and this is its value. -/
def RQ (k : FloatKind) (r : Nat) (q : Rat) : Prop := ∃ s m e, k.format.read r = .number s m e ∧ q = sgr s * (m * sc e)
theorem RQ.uniq {k : FloatKind} {r : Nat} {a b : Rat} (h : RQ k r a) (h' : RQ k r b) : a = b := by
  obtain ⟨s, m, e, h1, rfl⟩ := h
  obtain ⟨s', m', e', h2, rfl⟩ := h'
  rw [h1] at h2
  cases h2
  rfl
theorem RQ.notNan {k : FloatKind} {r : Nat} {a : Rat} (h : RQ k r a) : isN k r = false := by
  obtain ⟨s, m, e, h1, -⟩ := h
  unfold isN FloatKind.decode
  rw [h1]
  rfl
def fracB : FloatKind → Nat | .f32 => 23 | .f64 => 52
def leastB : FloatKind → Int | .f32 => -149 | .f64 => -1074
def topB : FloatKind → Int | .f32 => 127 | .f64 => 1023
theorem fracB_eq (k : FloatKind) : k.format.fractionBits = fracB k := by cases k <;> rfl
theorem leastB_eq (k : FloatKind) : k.format.leastPlace = leastB k := by cases k <;> decide
/-- Half a unit of the last digit of 1; half of the least number. -/
def uu (k : FloatKind) : Rat := sc (-(fracB k : Int) - 1)
def tt (k : FloatKind) : Rat := sc (leastB k - 1)
theorem log_bounds (T : Nat) (hT : T ≠ 0) : sc (T.log2 : Nat) ≤ (T : Rat) ∧ (T : Rat) < sc ((T.log2 : Nat) + 1) := by
  have h1 : 2 ^ T.log2 ≤ T := Nat.log2_self_le hT
  have h2 : T < 2 ^ (T.log2 + 1) := Nat.lt_log2_self
  rw [sc_nat, show ((T.log2 : Nat) : Int) + 1 = ((T.log2 + 1 : Nat) : Int) by omega, sc_nat]
  exact ⟨by exact_mod_cast h1, by exact_mod_cast h2⟩
theorem rung_fits (k : FloatKind) (L : Int) (K : Nat) (hL : L ≤ topB k - 1 - fracB k) (hK : K ≤ 2 * k.format.binade) : (L - k.format.leastPlace).toNat * k.format.binade + K < k.format.infRung := by
  cases k with
  | f32 =>
    have e1 : FloatKind.f32.format.binade = 8388608 := by decide
    have e2 : FloatKind.f32.format.infRung = 2139095040 := by decide
    have e3 : FloatKind.f32.format.leastPlace = -149 := by decide
    have e4 : topB .f32 = 127 := rfl
    have e5 : fracB .f32 = 23 := rfl
    rw [e1] at hK
    rw [e1, e2, e3]
    have : (L - -149).toNat ≤ 252 := by omega
    have := Nat.mul_le_mul_right 8388608 this
    omega
  | f64 =>
    have e1 : FloatKind.f64.format.binade = 4503599627370496 := by decide
    have e2 : FloatKind.f64.format.infRung = 9218868437227405312 := by decide
    have e3 : FloatKind.f64.format.leastPlace = -1074 := by decide
    have e4 : topB .f64 = 1023 := rfl
    have e5 : fracB .f64 = 52 := rfl
    rw [e1] at hK
    rw [e1, e2, e3]
    have : (L - -1074).toNat ≤ 2044 := by omega
    have := Nat.mul_le_mul_right 4503599627370496 this
    omega
/-- The number kept, in its place. -/
theorem kept_err (neg : Bool) (T : Nat) (p L : Int) : ∃ d : Rat, ((Toward.even.cut neg (T <<< (p - L).toNat) (L - p).toNat : Nat) : Rat) * sc L = T * sc p + d ∧ -sc (L - 1) ≤ d ∧ d ≤ sc (L - 1) ∧ (L ≤ p → d = 0) := by
  have hpos := sc_pos (L - 1)
  by_cases h : L ≤ p
  · refine ⟨0, ?_, by grind, by grind, fun _ => rfl⟩
    rw [show (L - p).toNat = 0 by omega, cut_zero, Nat.shiftLeft_eq]
    rw [Rat.natCast_mul, ← sc_nat, show (((p - L).toNat : Nat) : Int) = p - L by omega, show p = (p - L) + L by omega, sc_add (p - L) L]
    rw [show p - L + L - L = p - L by omega]
    grind
  · obtain ⟨d, hd⟩ : ∃ d : Nat, L = p + d := ⟨(L - p).toNat, by omega⟩
    subst hd
    rw [show (p - (p + d)).toNat = 0 by omega, show (p + (d : Int) - p).toNat = d by omega, Nat.shiftLeft_zero]
    obtain ⟨n1, n2⟩ := cut_near neg T d
    generalize Toward.even.cut neg T d = K at *
    have c1 : (2 * ((K : Rat) * ((2 ^ d : Nat) : Rat))) ≤ 2 * (T : Rat) + ((2 ^ d : Nat) : Rat) := by exact_mod_cast n1
    have c2 : (2 * (T : Rat)) ≤ 2 * ((K : Rat) * ((2 ^ d : Nat) : Rat)) + ((2 ^ d : Nat) : Rat) := by exact_mod_cast n2
    rw [← sc_nat] at c1 c2
    have hp := Rat.le_of_lt (sc_pos p)
    have c3 := Rat.mul_le_mul_of_nonneg_right c1 hp
    have c4 := Rat.mul_le_mul_of_nonneg_right c2 hp
    have e1 : sc (p + (d : Int)) = sc p * sc (d : Int) := sc_add _ _
    have e2 : 2 * sc (p + (d : Int) - 1) = sc (p + (d : Int)) := by
      rw [show p + (d : Int) = (p + (d : Int) - 1) + 1 by omega, sc_add (p + (d : Int) - 1) 1, show p + (d : Int) - 1 + 1 - 1 = p + (d : Int) - 1 by omega, show sc 1 = 2 from Rat.zpow_one _]
      grind
    refine ⟨(K : Rat) * sc (p + (d : Int)) - T * sc p, by grind, ?_, ?_, fun h2 => ?_⟩
    · rw [e1] at e2 ⊢
      generalize sc (p + (d : Int) - 1) = A at *
      generalize sc p = B at *
      generalize sc (d : Int) = C at *
      grind
    · rw [e1] at e2 ⊢
      generalize sc (p + (d : Int) - 1) = A at *
      generalize sc p = B at *
      generalize sc (d : Int) = C at *
      grind
    · have hd0 : d = 0 := by omega
      omega
/-- The nearest float to a number, and how far it is. -/
theorem near_rq (k : FloatKind) (neg : Bool) (T : Nat) (p : Int) (hs : (T : Rat) * sc p < sc (topB k)) :
    ∃ d : Rat, RQ k (k.format.nearest neg T p) (sgr neg * (T * sc p + d)) ∧ -(T * sc p * uu k + tt k) ≤ d ∧ d ≤ T * sc p * uu k + tt k ∧ 0 ≤ T * sc p + d ∧ (T < 2 ^ (fracB k + 1) → leastB k ≤ p → d = 0) := by
  by_cases hT : T = 0
  · subst hT
    refine ⟨0, ⟨neg, 0, k.format.leastPlace, ?_, ?_⟩, ?_, ?_, ?_, fun _ _ => rfl⟩
    · unfold Format.nearest
      rw [if_pos rfl]
      cases k <;> cases neg <;> decide +kernel
    · rw [show ((0 : Nat) : Rat) = 0 from rfl]; grind
    · have := sc_pos (leastB k - 1); unfold tt; rw [show ((0 : Nat) : Rat) = 0 from rfl]; grind
    · have := sc_pos (leastB k - 1); unfold tt; rw [show ((0 : Nat) : Rat) = 0 from rfl]; grind
    · rw [show ((0 : Nat) : Rat) = 0 from rfl]; grind
  · obtain ⟨l1, l2⟩ := log_bounds T hT
    have hpp := sc_pos p
    have hlow : sc ((T.log2 : Nat) + p) ≤ T * sc p := by
      rw [sc_add]
      exact Rat.mul_le_mul_of_nonneg_right l1 (Rat.le_of_lt hpp)
    have htop : ((T.log2 : Nat) : Int) + p < topB k := sc_lt_inv (by grind)
    have hL : lastP k.format T p = max (p + T.log2 - fracB k) (leastB k) := by unfold lastP; rw [fracB_eq, leastB_eq]
    have hLt : lastP k.format T p ≤ topB k - 1 - fracB k := by
      rw [hL]
      have : leastB k ≤ topB k - 1 - fracB k := by cases k <;> decide
      omega
    have hLp : T < 2 ^ (fracB k + 1) → leastB k ≤ p → lastP k.format T p ≤ p := fun h h2 => by
      have : T.log2 < fracB k + 1 := (Nat.log2_lt hT).2 h
      rw [hL]; omega
    obtain ⟨k1, -⟩ := kept_bounds k.format neg T p hT
    obtain ⟨m, e, hr, he, hv⟩ := nearest_val k.format neg T p hT (rung_fits k _ _ hLt k1)
    obtain ⟨d, hd, d1, d2, d3⟩ := kept_err neg T p (lastP k.format T p)
    have hkd : keptP k.format neg T p = Toward.even.cut neg (T <<< (p - lastP k.format T p).toNat) (lastP k.format T p - p).toNat := rfl
    rw [← hkd] at hd
    have hle : k.format.leastPlace ≤ lastP k.format T p := by unfold lastP; omega
    have hmv : (m : Rat) * sc e = T * sc p + d := by
      rw [← hd]
      have c : ((m : Rat) * ((2 ^ (e - k.format.leastPlace).toNat : Nat) : Rat)) = (keptP k.format neg T p : Rat) * ((2 ^ (lastP k.format T p - k.format.leastPlace).toNat : Nat) : Rat) := by exact_mod_cast hv
      rw [← sc_nat, ← sc_nat, show (((e - k.format.leastPlace).toNat : Nat) : Int) = e - k.format.leastPlace by omega, show (((lastP k.format T p - k.format.leastPlace).toNat : Nat) : Int) = lastP k.format T p - k.format.leastPlace by omega] at c
      have e1 : sc e = sc (e - k.format.leastPlace) * sc k.format.leastPlace := by rw [← sc_add]; congr 1; omega
      have e2 : sc (lastP k.format T p) = sc (lastP k.format T p - k.format.leastPlace) * sc k.format.leastPlace := by rw [← sc_add]; congr 1; omega
      rw [e1, e2]
      grind
    have hmn : 0 ≤ (m : Rat) * sc e := Rat.mul_nonneg (nat_nn m) (Rat.le_of_lt (sc_pos e))
    have hLb : sc (lastP k.format T p - 1) ≤ T * sc p * uu k + tt k := by
      have hu : 0 < uu k := sc_pos _
      have ht : 0 < tt k := sc_pos _
      have hTp : 0 ≤ (T : Rat) * sc p := Rat.mul_nonneg (nat_nn T) (Rat.le_of_lt hpp)
      have hTu : 0 ≤ (T : Rat) * sc p * uu k := Rat.mul_nonneg hTp (Rat.le_of_lt hu)
      by_cases hc : p + T.log2 - fracB k ≤ leastB k
      · rw [hL, Int.max_eq_right hc]
        unfold tt
        unfold tt at ht
        grind
      · rw [hL, Int.max_eq_left (by omega), show p + (T.log2 : Int) - (fracB k : Int) - 1 = ((T.log2 : Nat) + p) + (-(fracB k : Int) - 1) by omega, sc_add]
        have := Rat.mul_le_mul_of_nonneg_right hlow (Rat.le_of_lt hu)
        unfold uu at *
        grind
    refine ⟨d, ⟨neg, m, e, hr, by rw [hmv]⟩, by grind, by grind, by grind, fun h h2 => d3 (hLp h h2)⟩
/-- Less than a bound by its size. -/
def Ab (x B : Rat) : Prop := -B ≤ x ∧ x ≤ B
theorem Ab.mono {x B C : Rat} (h : Ab x B) (hc : B ≤ C) : Ab x C := by unfold Ab at *; grind
theorem sgr_abs (s : Bool) (x B : Rat) (h : Ab x B) : Ab (sgr s * x) B := by cases s <;> unfold Ab sgr at * <;> grind
theorem sgr_ab_inv (s : Bool) (x B : Rat) (h : Ab (sgr s * x) B) : Ab x B := by cases s <;> unfold Ab sgr at * <;> grind
theorem uu_pos (k : FloatKind) : 0 < uu k := sc_pos _
theorem tt_pos (k : FloatKind) : 0 < tt k := sc_pos _
/-- A number that is written. -/
theorem write_rq (k : FloatKind) (neg : Bool) (T : Nat) (p : Int) (q B : Rat) (hq : q = sgr neg * (T * sc p)) (hB : Ab q B) (hs : B < sc (topB k)) :
    ∃ d : Rat, RQ k (k.format.write (.number neg T p)) (q + d) ∧ Ab d (B * uu k + tt k) ∧ (T < 2 ^ (fracB k + 1) → leastB k ≤ p → d = 0) := by
  rw [hq] at hB
  have h1 := sgr_ab_inv neg _ _ hB
  obtain ⟨d, hr, d1, d2, d3, d4⟩ := near_rq k neg T p (by unfold Ab at h1; grind)
  refine ⟨sgr neg * d, ?_, ?_, fun a b => by rw [d4 a b]; grind⟩
  · rw [hq, show sgr neg * ((T : Rat) * sc p) + sgr neg * d = sgr neg * (T * sc p + d) by grind]
    exact hr
  · refine sgr_abs neg d _ ?_
    have hu := uu_pos k
    have := Rat.mul_le_mul_of_nonneg_right h1.2 (Rat.le_of_lt hu)
    unfold Ab
    grind
theorem signed_rq (s : Bool) (m u : Nat) : ((signed s m u : Int) : Rat) = sgr s * (m * sc (u : Int)) := by
  unfold signed sgr
  rw [Nat.shiftLeft_eq, sc_nat]
  cases s
  · simp only [Bool.false_eq_true, if_false]
    rw [Rat.intCast_natCast, Rat.natCast_mul]
    grind
  · simp only [if_true]
    rw [Rat.intCast_neg, Rat.intCast_natCast, Rat.natCast_mul]
    grind
theorem natAbs_rq (n : Int) (b : Bool) (h : n ≠ 0 → (b = true ↔ n < 0)) : sgr b * ((n.natAbs : Nat) : Rat) = (n : Rat) := by
  by_cases h0 : n = 0
  · subst h0; show sgr b * 0 = 0; grind
  · by_cases hn : n < 0
    · rw [(h h0).2 hn]
      have e : n = -((n.natAbs : Nat) : Int) := by omega
      conv => rhs; rw [e]
      rw [Rat.intCast_neg, Rat.intCast_natCast]
      unfold sgr
      grind
    · have hb : b = false := by
        cases b
        · rfl
        · exact absurd ((h h0).1 rfl) hn
      subst hb
      have e : n = ((n.natAbs : Nat) : Int) := by omega
      conv => rhs; rw [e]
      rw [Rat.intCast_natCast]
      unfold sgr
      grind
/-- The sum of two numbers. -/
theorem sum_rq {s t : Bool} {m n : Nat} {i j : Int} : ∃ b T p, Datum.sum (.number s m i) (.number t n j) = some (.number b T p) ∧ sgr b * (T * sc p) = sgr s * (m * sc i) + sgr t * (n * sc j) ∧ p = min i j := by
  refine ⟨_, _, _, rfl, ?_, rfl⟩
  generalize hb : min i j = p
  have hi : (((i - p).toNat : Nat) : Int) = i - p := by omega
  have hj : (((j - p).toNat : Nat) : Int) = j - p := by omega
  have e1 := signed_rq s m (i - p).toNat
  have e2 := signed_rq t n (j - p).toNat
  rw [hi] at e1
  rw [hj] at e2
  have e3 : sc i = sc (i - p) * sc p := by rw [← sc_add]; congr 1; omega
  have e4 : sc j = sc (j - p) * sc p := by rw [← sc_add]; congr 1; omega
  have e5 := natAbs_rq (signed s m (i - p).toNat + signed t n (j - p).toNat) (if signed s m (i - p).toNat + signed t n (j - p).toNat = 0 then s && t else decide (signed s m (i - p).toNat + signed t n (j - p).toNat < 0)) (fun h => by rw [if_neg h]; simp)
  rw [show ∀ a b c : Rat, a * (b * c) = a * b * c by intros; grind, e5, Rat.intCast_add, e1, e2, e3, e4]
  grind
theorem RQ.add {k : FloatKind} {x y : Nat} {a b B : Rat} (hx : RQ k x a) (hy : RQ k y b) (hB : Ab (a + b) B) (hs : B < sc (topB k)) :
    ∃ d : Rat, RQ k (fop .add k x y) (a + b + d) ∧ Ab d (B * uu k + tt k) := by
  obtain ⟨s, m, i, h1, rfl⟩ := hx
  obtain ⟨t, n, j, h2, rfl⟩ := hy
  obtain ⟨c, T, p, h3, h4, -⟩ := sum_rq (s := s) (t := t) (m := m) (n := n) (i := i) (j := j)
  obtain ⟨d, r1, r2, -⟩ := write_rq k c T p _ B h4.symm hB hs
  refine ⟨d, ?_, r2⟩
  unfold fop floatBits Format.add
  rw [h1, h2, h3]
  exact r1
theorem RQ.sub {k : FloatKind} {x y : Nat} {a b B : Rat} (hx : RQ k x a) (hy : RQ k y b) (hB : Ab (a - b) B) (hs : B < sc (topB k)) :
    ∃ d : Rat, RQ k (fop .sub k x y) (a - b + d) ∧ Ab d (B * uu k + tt k) := by
  obtain ⟨s, m, i, h1, rfl⟩ := hx
  obtain ⟨t, n, j, h2, rfl⟩ := hy
  obtain ⟨c, T, p, h3, h4, -⟩ := sum_rq (s := s) (t := !t) (m := m) (n := n) (i := i) (j := j)
  rw [sgr_not] at h4
  obtain ⟨d, r1, r2, -⟩ := write_rq k c T p (sgr s * (m * sc i) - sgr t * (n * sc j)) B (by grind) hB hs
  refine ⟨d, ?_, r2⟩
  unfold fop floatBits Format.sub
  rw [h1, h2]
  show RQ k (((Datum.sum (.number s m i) (.number (!t) n j)).map k.format.write).getD (nanC k)) _
  rw [h3]
  exact r1
theorem RQ.mul {k : FloatKind} {x y : Nat} {a b B : Rat} (hx : RQ k x a) (hy : RQ k y b) (hB : Ab (a * b) B) (hs : B < sc (topB k)) :
    ∃ d : Rat, RQ k (fop .mul k x y) (a * b + d) ∧ Ab d (B * uu k + tt k) := by
  obtain ⟨s, m, i, h1, rfl⟩ := hx
  obtain ⟨t, n, j, h2, rfl⟩ := hy
  obtain ⟨d, r1, r2, -⟩ := write_rq k (s ^^ t) (m * n) (i + j) (sgr s * (m * sc i) * (sgr t * (n * sc j))) B (by rw [sgr_xor, sc_add, Rat.natCast_mul]; grind) hB hs
  refine ⟨d, ?_, r2⟩
  unfold fop floatBits Format.mul
  rw [h1, h2]
  exact r1
end Go.Proofs.Ythacadbdncfocaa
