/- Rounding: what the nearest word stands for; digits that are zeros; twice a number. -/
import Derived.Test.YthacadbdncfocaaCv
namespace Go.Proofs.Ythacadbdncfocaa
open Go Ieee

theorem cut_zero (neg : Bool) (n : Nat) : Toward.even.cut neg n 0 = n := by
  unfold Toward.cut
  have : 1 <<< min 0 (n.log2 + 2) = 1 := by simp
  simp only [this, Nat.div_one, Nat.mod_one]
  simp
theorem log2_scale (n j : Nat) (hn : n ≠ 0) : (n * 2 ^ j).log2 = n.log2 + j := by
  have hz2 : n * 2 ^ j ≠ 0 := Nat.mul_ne_zero hn (Nat.ne_of_gt (Nat.two_pow_pos _))
  rw [Nat.log2_eq_iff hz2]
  have h1 : 2 ^ n.log2 ≤ n := Nat.log2_self_le hn
  have h2 : n < 2 ^ (n.log2 + 1) := Nat.lt_log2_self
  refine ⟨?_, ?_⟩
  · rw [Nat.pow_add]; exact Nat.mul_le_mul_right _ h1
  · rw [show n.log2 + j + 1 = n.log2 + 1 + j by omega, Nat.pow_add]
    exact Nat.mul_lt_mul_of_pos_right h2 (Nat.two_pow_pos _)
theorem cut_scale (neg : Bool) (n j d : Nat) (hn : n ≠ 0) : Toward.even.cut neg (n * 2 ^ j) (d + j) = Toward.even.cut neg n d := by
  unfold Toward.cut
  rw [log2_scale n j hn, show min (d + j) (n.log2 + j + 2) = min d (n.log2 + 2) + j by omega, Nat.shiftLeft_eq, Nat.shiftLeft_eq, Nat.one_mul, Nat.one_mul, Nat.pow_add]
  generalize 2 ^ min d (n.log2 + 2) = g
  have hp : 0 < 2 ^ j := Nat.two_pow_pos _
  generalize 2 ^ j = q at *
  have e1 : n * q / (g * q) = n / g := Nat.mul_div_mul_right _ _ hp
  have e2 : n * q % (g * q) = n % g * q := Nat.mul_mod_mul_right _ _ _
  simp only [e1, e2]
  have e3 : decide (g * q < 2 * (n % g * q)) = decide (g < 2 * (n % g)) := by
    rw [← Nat.mul_assoc]
    exact decide_eq_decide.2 ⟨fun h => Nat.lt_of_mul_lt_mul_right h, fun h => Nat.mul_lt_mul_of_pos_right h hp⟩
  have e4 : (g * q == 2 * (n % g * q)) = (g == 2 * (n % g)) := by
    rw [← Nat.mul_assoc, Bool.eq_iff_iff, beq_iff_eq, beq_iff_eq]
    exact ⟨fun h => Nat.eq_of_mul_eq_mul_right hp h, fun h => congrArg (· * q) h⟩
  rw [e3, e4]
/-- What is cut is the nearest: half a unit at most. -/
theorem cut_near (neg : Bool) (n d : Nat) : 2 * (Toward.even.cut neg n d * 2 ^ d) ≤ 2 * n + 2 ^ d ∧ 2 * n ≤ 2 * (Toward.even.cut neg n d * 2 ^ d) + 2 ^ d := by
  unfold Toward.cut
  rw [Nat.shiftLeft_eq, Nat.one_mul]
  by_cases hd : d ≤ n.log2 + 2
  · rw [Nat.min_eq_left hd]
    have hp : 0 < 2 ^ d := Nat.two_pow_pos _
    generalize 2 ^ d = g at *
    have hdm := Nat.div_add_mod n g
    have hm := Nat.mod_lt n hp
    have e : (n / g) * g = g * (n / g) := Nat.mul_comm _ _
    simp only
    generalize hb : (decide (g < 2 * (n % g)) || g == 2 * (n % g) && n / g % 2 == 1) = b
    cases b with
    | false =>
      simp only [Bool.or_eq_false_iff, decide_eq_false_iff_not] at hb
      simp only [Bool.toNat_false, Nat.add_zero]
      rw [e]
      omega
    | true =>
      have hh : g ≤ 2 * (n % g) := by
        simp only [Bool.or_eq_true, decide_eq_true_eq, Bool.and_eq_true, beq_iff_eq] at hb
        omega
      simp only [Bool.toNat_true, Nat.add_mul, Nat.one_mul]
      rw [e]
      omega
  · rw [Nat.min_eq_right (by omega)]
    have h1 : n < 2 ^ (n.log2 + 1) := Nat.lt_log2_self
    have h2 : 2 ^ (n.log2 + 2) = 2 * 2 ^ (n.log2 + 1) := by rw [show n.log2 + 2 = (n.log2 + 1) + 1 by omega, Nat.pow_succ]; omega
    have h3 : 2 ^ (n.log2 + 2) ≤ 2 ^ d := Nat.pow_le_pow_right (by decide) (by omega)
    have e1 : n / 2 ^ (n.log2 + 2) = 0 := Nat.div_eq_of_lt (by omega)
    have e2 : n % 2 ^ (n.log2 + 2) = n := Nat.mod_eq_of_lt (by omega)
    simp only [e1, e2]
    have e3 : decide (2 ^ (n.log2 + 2) < 2 * n) = false := by rw [decide_eq_false_iff_not]; omega
    have e4 : ((0 : Nat) % 2 == 1) = false := rfl
    rw [e3, e4, Bool.and_false, Bool.or_false]
    simp only [Bool.toNat_false, Nat.add_zero, Nat.zero_mul, Nat.mul_zero]
    omega
section
variable (f : Format)
/-- The place of the last digit that is kept. -/
def lastP (T : Nat) (p : Int) : Int := max (p + T.log2 - f.fractionBits) f.leastPlace
def keptP (neg : Bool) (T : Nat) (p : Int) : Nat := Toward.even.cut neg (T <<< (p - lastP f T p).toNat) (lastP f T p - p).toNat
theorem nearest_eq (neg : Bool) (T : Nat) (p : Int) (hT : T ≠ 0) : f.nearest neg T p = f.word neg (min ((lastP f T p - f.leastPlace).toNat * f.binade + keptP f neg T p) f.infRung) := by
  unfold Format.nearest
  rw [if_neg hT]
  rfl
theorem lastP_scale (n j : Nat) (p : Int) (hn : n ≠ 0) : lastP f (n * 2 ^ j) p = lastP f n (p + j) := by
  unfold lastP
  rw [log2_scale n j hn]
  congr 1
  omega
theorem keptP_scale (neg : Bool) (n j : Nat) (p : Int) (hn : n ≠ 0) : keptP f neg (n * 2 ^ j) p = keptP f neg n (p + j) := by
  unfold keptP
  rw [lastP_scale f n j p hn]
  generalize lastP f n (p + j) = L
  rw [Nat.shiftLeft_eq, Nat.shiftLeft_eq]
  by_cases h1 : L ≤ p
  · rw [show (L - p).toNat = 0 by omega, show (L - (p + j)).toNat = 0 by omega, cut_zero, cut_zero, Nat.mul_assoc, ← Nat.pow_add]
    congr 2
    omega
  · by_cases h2 : L ≤ p + j
    · obtain ⟨d, hd⟩ : ∃ d : Nat, L - p = d := ⟨(L - p).toNat, by omega⟩
      have e1 : (L - p).toNat = 0 + d := by omega
      rw [show (p - L).toNat = 0 by omega, Nat.pow_zero, Nat.mul_one, show (L - (p + j)).toNat = 0 by omega, cut_zero]
      have e2 : n * 2 ^ j = (n * 2 ^ (j - d)) * 2 ^ d := by rw [Nat.mul_assoc, ← Nat.pow_add]; congr 2; omega
      rw [e1, e2, cut_scale _ _ _ _ (Nat.mul_ne_zero hn (Nat.ne_of_gt (Nat.two_pow_pos _))), cut_zero]
      congr 2
      omega
    · obtain ⟨d, hd⟩ : ∃ d : Nat, L - (p + j) = d := ⟨(L - (p + j)).toNat, by omega⟩
      rw [show (p - L).toNat = 0 by omega, show (p + j - L).toNat = 0 by omega, Nat.pow_zero, Nat.mul_one, Nat.mul_one, show (L - p).toNat = d + j by omega, show (L - (p + j)).toNat = d by omega, cut_scale _ _ _ _ hn]
/-- Digits that are zeros at the end may be told by the place. -/
theorem nearest_scale (neg : Bool) (n j : Nat) (p : Int) (hn : n ≠ 0) : f.nearest neg (n * 2 ^ j) p = f.nearest neg n (p + j) := by
  rw [nearest_eq f neg _ p (Nat.mul_ne_zero hn (Nat.ne_of_gt (Nat.two_pow_pos _))), nearest_eq f neg n _ hn, lastP_scale f n j p hn, keptP_scale f neg n j p hn]
theorem binade_pos : 0 < f.binade := Nat.two_pow_pos _
/-- How many units are kept: a whole binade's, or fewer at the least place. -/
theorem kept_bounds (neg : Bool) (T : Nat) (p : Int) (hT : T ≠ 0) : keptP f neg T p ≤ 2 * f.binade ∧ (f.leastPlace ≤ p + T.log2 - f.fractionBits → f.binade ≤ keptP f neg T p) := by
  have hlo : 2 ^ T.log2 ≤ T := Nat.log2_self_le hT
  have hhi : T < 2 ^ (T.log2 + 1) := Nat.lt_log2_self
  have hB : f.binade = 2 ^ f.fractionBits := rfl
  have hL : p + T.log2 - f.fractionBits ≤ lastP f T p := by unfold lastP; omega
  have hLe : f.leastPlace ≤ p + T.log2 - f.fractionBits → lastP f T p = p + T.log2 - f.fractionBits := fun h => by unfold lastP; omega
  unfold keptP
  generalize lastP f T p = L at *
  rw [Nat.shiftLeft_eq]
  by_cases h1 : L ≤ p
  · rw [show (L - p).toNat = 0 by omega, cut_zero]
    refine ⟨?_, fun h => ?_⟩
    · have : T * 2 ^ (p - L).toNat < 2 ^ (T.log2 + 1) * 2 ^ (p - L).toNat := Nat.mul_lt_mul_of_pos_right hhi (Nat.two_pow_pos _)
      rw [← Nat.pow_add] at this
      have h2 : 2 ^ (T.log2 + 1 + (p - L).toNat) ≤ 2 ^ (f.fractionBits + 1) := Nat.pow_le_pow_right (by decide) (by omega)
      rw [hB]; rw [Nat.pow_succ] at h2; omega
    · have hl := hLe h
      have : 2 ^ T.log2 * 2 ^ (p - L).toNat ≤ T * 2 ^ (p - L).toNat := Nat.mul_le_mul_right _ hlo
      rw [← Nat.pow_add] at this
      have h2 : 2 ^ f.fractionBits ≤ 2 ^ (T.log2 + (p - L).toNat) := Nat.pow_le_pow_right (by decide) (by omega)
      rw [hB]; omega
  · rw [show (p - L).toNat = 0 by omega, Nat.pow_zero, Nat.mul_one]
    obtain ⟨d, hd⟩ : ∃ d : Nat, (L - p).toNat = d := ⟨_, rfl⟩
    rw [hd]
    obtain ⟨n1, n2⟩ := cut_near neg T d
    have hp : 0 < 2 ^ d := Nat.two_pow_pos _
    generalize Toward.even.cut neg T d = K at *
    refine ⟨?_, fun h => ?_⟩
    · -- 2 K 2^d ≤ 2 T + 2^d < 2 * 2^(F+1) * 2^d + 2^d
      have h3 : 2 ^ (T.log2 + 1) ≤ 2 * 2 ^ f.fractionBits * 2 ^ d := by
        rw [Nat.mul_comm 2, ← Nat.pow_succ, ← Nat.pow_add]
        exact Nat.pow_le_pow_right (by decide) (by omega)
      rw [hB]
      generalize 2 ^ f.fractionBits = B at *
      have h4 : 2 * (K * 2 ^ d) < (2 * (2 * B) + 1) * 2 ^ d := by
        rw [Nat.add_mul, Nat.one_mul, Nat.mul_assoc]
        omega
      rw [← Nat.mul_assoc] at h4
      have h5 := Nat.lt_of_mul_lt_mul_right h4
      omega
    · have hl := hLe h
      have h3 : 2 ^ (f.fractionBits + d) ≤ 2 ^ T.log2 := Nat.pow_le_pow_right (by decide) (by omega)
      rw [Nat.pow_add] at h3
      rw [hB]
      have h4 : (2 * 2 ^ f.fractionBits) * 2 ^ d ≤ (2 * K + 1) * 2 ^ d := by
        rw [Nat.add_mul, Nat.one_mul, Nat.mul_assoc, Nat.mul_assoc]
        omega
      have h5 := Nat.le_of_mul_le_mul_right h4 hp
      omega
theorem least_of_less (neg : Bool) (T : Nat) (p : Int) (h : ¬ f.leastPlace ≤ p + T.log2 - f.fractionBits) : lastP f T p = f.leastPlace := by unfold lastP; omega
/-- What the nearest word stands for. -/
theorem nearest_val (neg : Bool) (T : Nat) (p : Int) (hT : T ≠ 0) (ho : (lastP f T p - f.leastPlace).toNat * f.binade + keptP f neg T p < f.infRung) :
    ∃ m e, f.read (f.nearest neg T p) = .number neg m e ∧ f.leastPlace ≤ e ∧ m * 2 ^ (e - f.leastPlace).toNat = keptP f neg T p * 2 ^ (lastP f T p - f.leastPlace).toNat := by
  obtain ⟨k1, k2⟩ := kept_bounds f neg T p hT
  have hB := binade_pos f
  have hi := f.infRung_lt
  have hll : f.leastPlace ≤ lastP f T p := by unfold lastP; omega
  have hless : ¬ f.binade ≤ keptP f neg T p → lastP f T p = f.leastPlace := fun h => least_of_less f neg T p fun h2 => h (k2 h2)
  rw [nearest_eq f neg T p hT, Nat.min_eq_left (Nat.le_of_lt ho)]
  generalize keptP f neg T p = K at *
  generalize lastP f T p = L at *
  obtain ⟨t, rfl⟩ : ∃ t : Nat, L = f.leastPlace + t := ⟨(L - f.leastPlace).toNat, by omega⟩
  have htt : (f.leastPlace + (t : Int) - f.leastPlace).toNat = t := by omega
  rw [htt] at ho ⊢
  have hw1 : f.word neg (t * f.binade + K) / f.signWeight % 2 = (if neg then 1 else 0) ∧ f.word neg (t * f.binade + K) % f.signWeight = t * f.binade + K := by
    have hs : 0 < f.signWeight := Nat.two_pow_pos _
    unfold Format.word
    cases neg with
    | true =>
      simp only [if_true]
      refine ⟨?_, ?_⟩
      · rw [Nat.add_div_left _ hs, Nat.div_eq_of_lt (by omega)]
      · rw [Nat.add_mod_left, Nat.mod_eq_of_lt (by omega)]
    | false =>
      simp only [Bool.false_eq_true, if_false]
      exact ⟨by rw [Nat.div_eq_of_lt (by omega)], Nat.mod_eq_of_lt (by omega)⟩
  unfold Format.read
  rw [hw1.1, hw1.2]
  dsimp only
  have hneg : (((if neg then 1 else 0 : Nat) == 1) = neg) := by cases neg <;> rfl
  rw [hneg]
  by_cases hsub : t * f.binade + K < f.binade
  · rw [if_pos hsub]
    have ht0 : t = 0 := by
      cases t with
      | zero => rfl
      | succ t => rw [Nat.add_mul, Nat.one_mul] at hsub; omega
    subst ht0
    exact ⟨_, _, rfl, Int.le_refl _, by simp⟩
  · rw [if_neg hsub, if_pos ho]
    have hKB : f.binade ≤ K := by
      by_cases h : f.binade ≤ K
      · exact h
      · have := hless h
        have ht0 : t = 0 := by omega
        subst ht0
        omega
    by_cases hK2 : K < 2 * f.binade
    · have e1 : (t * f.binade + K) / f.binade = t + 1 := by
        rw [show t * f.binade + K = (K - f.binade) + (t + 1) * f.binade by rw [Nat.add_mul, Nat.one_mul]; omega, Nat.add_mul_div_right _ _ hB, Nat.div_eq_of_lt (by omega), Nat.zero_add]
      have e2 : (t * f.binade + K) % f.binade = K - f.binade := by
        rw [show t * f.binade + K = (K - f.binade) + (t + 1) * f.binade by rw [Nat.add_mul, Nat.one_mul]; omega, Nat.add_mul_mod_self_right, Nat.mod_eq_of_lt (by omega)]
      refine ⟨_, _, rfl, by omega, ?_⟩
      rw [e1, e2]
      have e3 : (f.leastPlace + ((t + 1 - 1 : Nat) : Int) - f.leastPlace).toNat = t := by omega
      rw [e3]
      congr 1
      omega
    · obtain rfl : K = 2 * f.binade := by omega
      have e1 : (t * f.binade + 2 * f.binade) / f.binade = t + 2 := by rw [← Nat.add_mul, Nat.mul_div_cancel _ hB]
      have e2 : (t * f.binade + 2 * f.binade) % f.binade = 0 := by rw [← Nat.add_mul, Nat.mul_mod_left]
      refine ⟨_, _, rfl, by omega, ?_⟩
      rw [e1, e2]
      have e3 : (f.leastPlace + ((t + 2 - 1 : Nat) : Int) - f.leastPlace).toNat = t + 1 := by omega
      rw [e3, Nat.add_zero, Nat.pow_succ, Nat.mul_comm (2 ^ t) 2, ← Nat.mul_assoc, Nat.mul_comm 2 f.binade]
end
end Go.Proofs.Ythacadbdncfocaa
