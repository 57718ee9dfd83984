/- Numbers in units of a power of two: sums, products and comparisons of float32s are exact as long as they have at most 24 digits. -/
import Derived.Test.YthacadbdncfocaaCv
namespace Go.Proofs.Ythacadbdncfocaa
open Go

theorem fx_sw : Ieee.single.signWeight = 2147483648 := by decide
theorem fx_bi : Ieee.single.binade = 8388608 := by decide
theorem fx_ir : Ieee.single.infRung = 2139095040 := by decide
theorem fx_lp : Ieee.single.leastPlace = -149 := by decide
theorem fx_fb : Ieee.single.fractionBits = 23 := rfl

/-- A word's parts. -/
theorem word_parts (neg : Bool) (rung : Nat) (h : rung < 2147483648) : Ieee.single.word neg rung / 2147483648 % 2 = (if neg then 1 else 0) ∧ Ieee.single.word neg rung % 2147483648 = rung := by
  unfold Ieee.Format.word
  rw [fx_sw]
  cases neg <;> simp <;> omega
/-- A number of at most 24 digits at a place that the format has, is written and read back. -/
theorem read_nearest (neg : Bool) (m : Nat) (p : Int) (hm : m < 16777216) (h0 : -149 ≤ p) (h1 : p ≤ 100) :
    ∃ m' p', Ieee.single.read (Ieee.single.nearest neg m p) = .number neg m' p' ∧ -149 ≤ p' ∧ p' ≤ p + 24 ∧ m' * 2 ^ (p' + 149).toNat = m * 2 ^ (p + 149).toNat := by
  by_cases hz : m = 0
  · subst hz
    refine ⟨0, -149, ?_, by omega, by omega, by simp⟩
    unfold Ieee.Format.nearest
    rw [if_pos rfl]
    obtain ⟨h1, h2⟩ := word_parts neg 0 (by omega)
    unfold Ieee.Format.read
    rw [fx_sw, fx_bi, fx_lp, h1, h2]
    cases neg <;> rfl
  · have hlog : m.log2 < 24 := (Nat.log2_lt hz).2 hm
    have hlo : 2 ^ m.log2 ≤ m := Nat.log2_self_le hz
    have hhi : m < 2 ^ (m.log2 + 1) := Nat.lt_log2_self
    unfold Ieee.Format.nearest
    rw [if_neg hz, fx_fb, fx_lp, fx_bi, fx_ir]
    dsimp only
    -- the last place is not beyond p
    have hlast : max (p + (m.log2 : Int) - 23) (-149) ≤ p := by omega
    generalize hL : max (p + (m.log2 : Int) - 23) (-149) = last at *
    have hd : (last - p).toNat = 0 := by omega
    rw [hd]
    have hcut : ∀ n, Ieee.Toward.even.cut neg n 0 = n := by
      intro n
      unfold Ieee.Toward.cut
      have : 1 <<< min 0 (n.log2 + 2) = 1 := by simp
      simp only [this, Nat.div_one, Nat.mod_one]
      simp
    rw [hcut]
    have hs : m <<< (p - last).toNat = m * 2 ^ (p - last).toNat := Nat.shiftLeft_eq _ _
    rw [hs]
    obtain ⟨d, hdd⟩ : ∃ d : Nat, p - last = d := ⟨(p - last).toNat, by omega⟩
    have hdt : (p - last).toNat = d := by omega
    rw [hdt]
    have hk : m * 2 ^ d < 16777216 := by
      have : d ≤ 23 - m.log2 := by omega
      calc m * 2 ^ d < 2 ^ (m.log2 + 1) * 2 ^ d := Nat.mul_lt_mul_of_pos_right hhi (Nat.two_pow_pos _)
        _ = 2 ^ (m.log2 + 1 + d) := (Nat.pow_add _ _ _).symm
        _ ≤ 2 ^ 24 := Nat.pow_le_pow_right (by decide) (by omega)
    generalize hK : m * 2 ^ d = k at *
    obtain ⟨t, ht⟩ : ∃ t : Nat, last + 149 = t := ⟨(last + 149).toNat, by omega⟩
    have htt : (last - -149).toNat = t := by omega
    rw [htt]
    have htu : t ≤ 249 := by omega
    have hrung : t * 8388608 + k < 2139095040 := by omega
    rw [Nat.min_eq_left (by omega)]
    obtain ⟨w1, w2⟩ := word_parts neg (t * 8388608 + k) (by omega)
    have hval : k * 2 ^ t = m * 2 ^ (p + 149).toNat := by
      rw [← hK, Nat.mul_assoc, ← Nat.pow_add]
      congr 2
      omega
    unfold Ieee.Format.read
    rw [fx_sw, fx_bi, fx_ir, fx_lp, w1, w2]
    dsimp only
    have hneg : (((if neg then 1 else 0 : Nat) == 1) = neg) := by cases neg <;> rfl
    rw [hneg]
    by_cases hsub : t * 8388608 + k < 8388608
    · rw [if_pos hsub]
      have ht0 : t = 0 := by omega
      subst ht0
      exact ⟨_, _, rfl, by omega, by omega, by rw [← hval]; simp⟩
    · rw [if_neg hsub, if_pos hrung]
      by_cases hk2 : 8388608 ≤ k
      · refine ⟨_, _, rfl, by omega, by omega, ?_⟩
        have e1 : (t * 8388608 + k) % 8388608 = k - 8388608 := by omega
        have e2 : (t * 8388608 + k) / 8388608 - 1 = t := by omega
        rw [e1, e2, ← hval]
        have e3 : 8388608 + (k - 8388608) = k := by omega
        have e4 : ((-149 : Int) + (t : Nat) + 149).toNat = t := by omega
        rw [e3, e4]
      · exfalso
        -- k ≥ 2^23 unless the last place is the least one
        have hlt : last = -149 := by
          by_cases h : last = -149
          · exact h
          · exfalso
            have h2 : last = p + (m.log2 : Int) - 23 := by omega
            have h3 : d = 23 - m.log2 := by omega
            have : 2 ^ 23 ≤ m * 2 ^ d := by
              calc 2 ^ 23 = 2 ^ m.log2 * 2 ^ d := by rw [← Nat.pow_add]; congr 1; omega
                _ ≤ m * 2 ^ d := Nat.mul_le_mul_right _ hlo
            omega
        omega

/-- Digits that are zeros at the end may be told by the place. -/
theorem nearest_shift (neg : Bool) (n j : Nat) (p : Int) (hn : n < 16777216) (hz : n ≠ 0) (h0 : -149 ≤ p) : Ieee.single.nearest neg (n * 2 ^ j) p = Ieee.single.nearest neg n (p + j) := by
  have hpos : 0 < n := Nat.pos_of_ne_zero hz
  have hz2 : n * 2 ^ j ≠ 0 := Nat.mul_ne_zero hz (Nat.ne_of_gt (Nat.two_pow_pos _))
  have hlog : n.log2 < 24 := (Nat.log2_lt hz).2 hn
  have hl2 : (n * 2 ^ j).log2 = n.log2 + j := by
    rw [Nat.log2_eq_iff hz2]
    have h1 : 2 ^ n.log2 ≤ n := Nat.log2_self_le hz
    have h2 : n < 2 ^ (n.log2 + 1) := Nat.lt_log2_self
    refine ⟨?_, ?_⟩
    · rw [Nat.pow_add]; exact Nat.mul_le_mul_right _ h1
    · rw [show n.log2 + j + 1 = n.log2 + 1 + j by omega, Nat.pow_add]
      exact Nat.mul_lt_mul_of_pos_right h2 (Nat.two_pow_pos _)
  unfold Ieee.Format.nearest
  rw [if_neg hz2, if_neg hz, fx_fb, fx_lp, fx_bi, fx_ir, hl2]
  dsimp only
  have hlast : max (p + ((n.log2 + j : Nat) : Int) - ((23 : Nat) : Int)) (-149) = max (p + (j : Int) + (n.log2 : Int) - ((23 : Nat) : Int)) (-149) := by congr 1; omega
  rw [hlast]
  have hle : max (p + (j : Int) + (n.log2 : Int) - ((23 : Nat) : Int)) (-149) ≤ p + j := by omega
  generalize max (p + (j : Int) + (n.log2 : Int) - ((23 : Nat) : Int)) (-149) = last at *
  have hd : (last - (p + (j : Int))).toNat = 0 := by omega
  rw [hd]
  have hcut : ∀ n, Ieee.Toward.even.cut neg n 0 = n := by
    intro n
    unfold Ieee.Toward.cut
    have : 1 <<< min 0 (n.log2 + 2) = 1 := by simp
    simp only [this, Nat.div_one, Nat.mod_one]
    simp
  rw [hcut]
  congr 3
  rw [Nat.shiftLeft_eq, Nat.shiftLeft_eq]
  by_cases hlp : last ≤ p
  · have e0 : (last - p).toNat = 0 := by omega
    rw [e0, hcut, Nat.mul_assoc, ← Nat.pow_add]
    congr 2
    omega
  · have e0 : (p - last).toNat = 0 := by omega
    obtain ⟨d, hd2⟩ : ∃ d : Nat, last - p = d := ⟨(last - p).toNat, by omega⟩
    have e1 : (last - p).toNat = d := by omega
    have e2 : (p + (j : Int) - last).toNat = j - d := by omega
    have hdj : d ≤ j := by omega
    rw [e0, e1, e2, Nat.pow_zero, Nat.mul_one]
    have hsplit : n * 2 ^ j = n * 2 ^ (j - d) * 2 ^ d := by
      rw [Nat.mul_assoc, ← Nat.pow_add]; congr 2; omega
    unfold Ieee.Toward.cut
    rw [hl2]
    have hmin : min d (n.log2 + j + 2) = d := by omega
    rw [hmin, Nat.shiftLeft_eq, Nat.one_mul, hsplit]
    have hp : 0 < 2 ^ d := Nat.two_pow_pos _
    simp only [Nat.mul_div_cancel _ hp, Nat.mul_mod_left, Nat.mul_zero]
    have hne : ¬ (2 ^ d < 0) := by omega
    have hne2 : (2 ^ d == 0) = false := by simp
    simp [hne2]

/-- r stands for n units, where a unit is 2 to the power of -k. -/
def sg (s : Bool) (m : Nat) : Int := if s then -(m : Int) else (m : Int)
def Fx (k : Nat) (r : Nat) (n : Int) : Prop := ∃ s m e, Ieee.single.read r = .number s m e ∧ m < 16777216 ∧ -149 ≤ e ∧ e ≤ 104 ∧ sg s m * ((2 ^ (e + 149).toNat : Nat) : Int) = n * ((2 ^ (149 - k) : Nat) : Int)
theorem signed_eq (s : Bool) (m u : Nat) : Ieee.signed s m u = sg s m * ((2 ^ u : Nat) : Int) := by
  unfold Ieee.signed sg
  rw [Nat.shiftLeft_eq]
  cases s <;> simp [Int.neg_mul]
theorem sg_abs (s : Bool) (m : Nat) : (sg s m).natAbs = m := by unfold sg; cases s <;> simp
theorem pow_cast (n : Nat) : ((2 ^ n : Nat) : Int) ≠ 0 := by
  have : 0 < 2 ^ n := Nat.two_pow_pos n
  omega
/-- A number that is written. -/
theorem fx_write (k : Nat) (neg : Bool) (T : Nat) (p : Int) (n : Int) (hk : k ≤ 140) (hn : n.natAbs < 16777216) (hs : T ≠ 0 → (n < 0 ↔ neg = true)) (hp : T ≠ 0 → -149 ≤ p)
    (h : T ≠ 0 → T * 2 ^ (p + 149).toNat = n.natAbs * 2 ^ (149 - k)) (hz : T = 0 → n = 0) : Fx k (Ieee.single.write (.number neg T p)) n := by
  by_cases h0 : T = 0
  · have hn0 := hz h0
    subst h0 hn0
    refine ⟨neg, 0, -149, ?_, by decide, by decide, by decide, by unfold sg; cases neg <;> simp⟩
    show Ieee.single.read (Ieee.single.nearest neg 0 p) = _
    unfold Ieee.Format.nearest
    rw [if_pos rfl]
    cases neg <;> decide +kernel
  · have h1 := h h0
    have hp0 := hp h0
    have hN : n.natAbs ≠ 0 := by
      intro e
      rw [e, Nat.zero_mul] at h1
      rcases Nat.mul_eq_zero.1 h1 with h | h
      · exact h0 h
      · exact absurd h (Nat.ne_of_gt (Nat.two_pow_pos _))
    have key : ∃ m' p', Ieee.single.read (Ieee.single.nearest neg T p) = .number neg m' p' ∧ -149 ≤ p' ∧ m' * 2 ^ (p' + 149).toNat = n.natAbs * 2 ^ (149 - k) := by
      by_cases hle : (p + 149).toNat ≤ 149 - k
      · have e : T = n.natAbs * 2 ^ ((149 - k) - (p + 149).toNat) := by
          have : T * 2 ^ (p + 149).toNat = n.natAbs * 2 ^ ((149 - k) - (p + 149).toNat) * 2 ^ (p + 149).toNat := by
            rw [h1, Nat.mul_assoc, ← Nat.pow_add]
            congr 2
            omega
          exact Nat.eq_of_mul_eq_mul_right (Nat.two_pow_pos _) this
        rw [e, nearest_shift neg _ _ p hn hN hp0]
        obtain ⟨m', p', r1, r2, r3, r4⟩ := read_nearest neg n.natAbs (p + (((149 - k) - (p + 149).toNat : Nat) : Int)) hn (by omega) (by omega)
        refine ⟨m', p', r1, r2, ?_⟩
        rw [r4]
        congr 2
        omega
      · have e : n.natAbs = T * 2 ^ ((p + 149).toNat - (149 - k)) := by
          have : n.natAbs * 2 ^ (149 - k) = T * 2 ^ ((p + 149).toNat - (149 - k)) * 2 ^ (149 - k) := by
            rw [← h1, Nat.mul_assoc, ← Nat.pow_add]
            congr 2
            omega
          exact Nat.eq_of_mul_eq_mul_right (Nat.two_pow_pos _) this
        have hT : T < 16777216 := by
          have : T * 1 ≤ T * 2 ^ ((p + 149).toNat - (149 - k)) := Nat.mul_le_mul_left _ (Nat.two_pow_pos _)
          omega
        have hpp : (p + 149).toNat - (149 - k) < 24 := by
          have h2 : 1 * 2 ^ ((p + 149).toNat - (149 - k)) ≤ T * 2 ^ ((p + 149).toNat - (149 - k)) := Nat.mul_le_mul_right _ (Nat.pos_of_ne_zero h0)
          have h3 : 2 ^ ((p + 149).toNat - (149 - k)) < 2 ^ 24 := by omega
          exact (Nat.pow_lt_pow_iff_right (by decide)).1 h3
        obtain ⟨m', p', r1, r2, r3, r4⟩ := read_nearest neg T p hT hp0 (by omega)
        exact ⟨m', p', r1, r2, by rw [r4, h1]⟩
    obtain ⟨m', p', r1, r2, r3⟩ := key
    have hb := read_bounds32 _ r1
    refine ⟨neg, m', p', r1, hb.1, hb.2.2, hb.2.1, ?_⟩
    have hs1 := hs h0
    have r4 : ((m' : Int)) * ((2 ^ (p' + 149).toNat : Nat) : Int) = (n.natAbs : Int) * ((2 ^ (149 - k) : Nat) : Int) := by exact_mod_cast r3
    unfold sg
    cases neg with
    | true =>
      have : n < 0 := hs1.2 rfl
      have e : n = -(n.natAbs : Int) := by omega
      rw [if_pos rfl, Int.neg_mul, r4, e]
      simp [Int.neg_mul]
    | false =>
      have : ¬ n < 0 := fun h => by have := hs1.1 h; cases this
      have e : n = (n.natAbs : Int) := by omega
      rw [if_neg (by decide), r4]
      rw [← e]
theorem sg_neg (s : Bool) (m : Nat) (hm : m ≠ 0) : sg s m < 0 ↔ s = true := by
  unfold sg; cases s <;> simp <;> omega
theorem sg_lt_iff {s : Bool} {m : Nat} {a b : Nat} {n : Int} (ha : 0 < a) (hb : 0 < b) (hm : m ≠ 0) (h : sg s m * (a : Int) = n * (b : Int)) : n < 0 ↔ s = true := by
  rw [← sg_neg s m hm]
  have ha' : (0 : Int) < a := by omega
  have hb' : (0 : Int) < b := by omega
  constructor
  · intro hn
    have : n * (b : Int) < 0 := Int.mul_neg_of_neg_of_pos hn hb'
    rw [← h] at this
    by_cases h2 : sg s m < 0
    · exact h2
    · have := Int.mul_nonneg (Int.not_lt.1 h2) (Int.le_of_lt ha'); omega
  · intro hs
    have : sg s m * (a : Int) < 0 := Int.mul_neg_of_neg_of_pos hs ha'
    rw [h] at this
    by_cases h2 : n < 0
    · exact h2
    · have := Int.mul_nonneg (Int.not_lt.1 h2) (Int.le_of_lt hb'); omega
theorem two_pos (n : Nat) : (0 : Int) < ((2 ^ n : Nat) : Int) := by have := Nat.two_pow_pos n; omega
theorem abs_mul (a : Int) (b : Nat) : (a * (b : Int)).natAbs = a.natAbs * b := by rw [Int.natAbs_mul]; rfl
theorem Fx.add {k x y : Nat} {a b : Int} (hx : Fx k x a) (hy : Fx k y b) (hk : k ≤ 140) (h : (a + b).natAbs < 16777216) : ∃ r, Ieee.single.add x y = some r ∧ Fx k r (a + b) := by
  obtain ⟨s, m, i, hx1, -, hi0, hi1, hx2⟩ := hx
  obtain ⟨t, n, j, hy1, -, hj0, hj1, hy2⟩ := hy
  unfold Ieee.Format.add
  rw [hx1, hy1]
  simp only [Ieee.Datum.sum, Option.map_some]
  rw [signed_eq, signed_eq]
  generalize hb : min i j = base
  have hb0 : -149 ≤ base := by omega
  have hT : (sg s m * ((2 ^ (i - base).toNat : Nat) : Int) + sg t n * ((2 ^ (j - base).toNat : Nat) : Int)) * ((2 ^ (base + 149).toNat : Nat) : Int) = (a + b) * ((2 ^ (149 - k) : Nat) : Int) := by
    rw [Int.add_mul, Int.add_mul, ← hx2, ← hy2, Int.mul_assoc, Int.mul_assoc, ← Int.natCast_mul, ← Int.natCast_mul, ← Nat.pow_add, ← Nat.pow_add]
    have e1 : (i - base).toNat + (base + 149).toNat = (i + 149).toNat := by omega
    have e2 : (j - base).toNat + (base + 149).toNat = (j + 149).toNat := by omega
    rw [e1, e2]
  generalize sg s m * ((2 ^ (i - base).toNat : Nat) : Int) + sg t n * ((2 ^ (j - base).toNat : Nat) : Int) = T at *
  refine ⟨_, rfl, fx_write k _ T.natAbs base (a + b) hk h ?_ (fun _ => hb0) ?_ ?_⟩
  · intro hT0
    have hT1 : T ≠ 0 := by omega
    rw [if_neg hT1]
    have p1 := two_pos (base + 149).toNat
    have p2 := two_pos (149 - k)
    constructor
    · intro hn
      have h3 := Int.mul_neg_of_neg_of_pos hn p2
      rw [← hT] at h3
      have : T < 0 := by
        by_cases h2 : T < 0
        · exact h2
        · have := Int.mul_nonneg (Int.not_lt.1 h2) (Int.le_of_lt p1); omega
      simpa using this
    · intro hd
      have hd : T < 0 := by simpa using hd
      have h3 := Int.mul_neg_of_neg_of_pos hd p1
      rw [hT] at h3
      by_cases h2 : a + b < 0
      · exact h2
      · have := Int.mul_nonneg (Int.not_lt.1 h2) (Int.le_of_lt p2); omega
  · intro _
    rw [← abs_mul, ← abs_mul, hT]
  · intro h0
    have hT0 : T = 0 := by omega
    rw [hT0, Int.zero_mul] at hT
    rcases Int.mul_eq_zero.1 hT.symm with h | h
    · exact h
    · exact absurd h (pow_cast _)
theorem Fx.mul {k l x y : Nat} {a b : Int} (hx : Fx k x a) (hy : Fx l y b) (hk : k + l ≤ 100) (h : (a * b).natAbs < 16777216) : ∃ r, Ieee.single.mul x y = some r ∧ Fx (k + l) r (a * b) := by
  obtain ⟨s, m, i, hx1, hm, hi0, hi1, hx2⟩ := hx
  obtain ⟨t, n, j, hy1, hn, hj0, hj1, hy2⟩ := hy
  unfold Ieee.Format.mul
  rw [hx1, hy1]
  simp only [Ieee.Datum.product, Option.map_some]
  have ex : m * 2 ^ (i + 149).toNat = a.natAbs * 2 ^ (149 - k) := by rw [← abs_mul, ← hx2, abs_mul, sg_abs]
  have ey : n * 2 ^ (j + 149).toNat = b.natAbs * 2 ^ (149 - l) := by rw [← abs_mul, ← hy2, abs_mul, sg_abs]
  have low : ∀ (m k : Nat) (i : Int) (a : Int), -149 ≤ i → m < 16777216 → k ≤ 140 → m ≠ 0 → m * 2 ^ (i + 149).toNat = a.natAbs * 2 ^ (149 - k) → -(k : Int) - 24 < i := by
    intro m k i a hi hm hk hm0 e
    by_cases hc : -(k : Int) - 24 < i
    · exact hc
    · exfalso
      have ha : 1 ≤ a.natAbs := by
        rcases Nat.eq_zero_or_pos a.natAbs with h | h
        · rw [h, Nat.zero_mul] at e
          rcases Nat.mul_eq_zero.1 e with h | h
          · exact absurd h hm0
          · exact absurd h (Nat.ne_of_gt (Nat.two_pow_pos _))
        · exact h
      have h1 : 2 ^ (149 - k) ≤ m * 2 ^ (i + 149).toNat := by rw [e]; exact Nat.le_mul_of_pos_left _ ha
      have h2 : m * 2 ^ (i + 149).toNat < 2 ^ 24 * 2 ^ (i + 149).toNat := Nat.mul_lt_mul_of_pos_right hm (Nat.two_pow_pos _)
      rw [← Nat.pow_add] at h2
      have h3 := (Nat.pow_lt_pow_iff_right (by decide)).1 (Nat.lt_of_le_of_lt h1 h2)
      omega
  have key : m * n ≠ 0 → -149 ≤ i + j ∧ m * n * 2 ^ (i + j + 149).toNat = (a * b).natAbs * 2 ^ (149 - (k + l)) := by
    intro hmn
    have hm0 : m ≠ 0 := fun e => hmn (by rw [e, Nat.zero_mul])
    have hn0 : n ≠ 0 := fun e => hmn (by rw [e, Nat.mul_zero])
    have l1 := low m k i a hi0 hm (by omega) hm0 ex
    have l2 := low n l j b hj0 hn (by omega) hn0 ey
    refine ⟨by omega, ?_⟩
    have e3 : m * n * 2 ^ (i + j + 149).toNat * 2 ^ 149 = (a * b).natAbs * 2 ^ (149 - (k + l)) * 2 ^ 149 := by
      have e4 : (m * 2 ^ (i + 149).toNat) * (n * 2 ^ (j + 149).toNat) = (a.natAbs * 2 ^ (149 - k)) * (b.natAbs * 2 ^ (149 - l)) := by rw [ex, ey]
      have p1 : m * n * 2 ^ (i + j + 149).toNat * 2 ^ 149 = (m * 2 ^ (i + 149).toNat) * (n * 2 ^ (j + 149).toNat) := by
        have : (i + 149).toNat + (j + 149).toNat = (i + j + 149).toNat + 149 := by omega
        rw [Nat.mul_assoc (m * n), ← Nat.pow_add, ← this, Nat.pow_add]
        ac_rfl
      have p2 : (a * b).natAbs * 2 ^ (149 - (k + l)) * 2 ^ 149 = (a.natAbs * 2 ^ (149 - k)) * (b.natAbs * 2 ^ (149 - l)) := by
        have : (149 - k) + (149 - l) = 149 - (k + l) + 149 := by omega
        rw [Int.natAbs_mul, Nat.mul_assoc (a.natAbs * b.natAbs), ← Nat.pow_add, ← this, Nat.pow_add]
        ac_rfl
      rw [p1, p2, e4]
    exact Nat.eq_of_mul_eq_mul_right (Nat.two_pow_pos _) e3
  refine ⟨_, rfl, fx_write (k + l) _ (m * n) (i + j) (a * b) (by omega) h ?_ (fun h0 => (key h0).1) (fun h0 => (key h0).2) ?_⟩
  · intro hmn
    have hm0 : m ≠ 0 := fun e => hmn (by rw [e, Nat.zero_mul])
    have hn0 : n ≠ 0 := fun e => hmn (by rw [e, Nat.mul_zero])
    have sa := sg_lt_iff (Nat.two_pow_pos _) (Nat.two_pow_pos _) hm0 hx2
    have sb := sg_lt_iff (Nat.two_pow_pos _) (Nat.two_pow_pos _) hn0 hy2
    have na : a ≠ 0 := fun e => by rw [e, Int.natAbs_zero, Nat.zero_mul] at ex; exact (Nat.mul_eq_zero.1 ex).elim hm0 (Nat.ne_of_gt (Nat.two_pow_pos _))
    have nb : b ≠ 0 := fun e => by rw [e, Int.natAbs_zero, Nat.zero_mul] at ey; exact (Nat.mul_eq_zero.1 ey).elim hn0 (Nat.ne_of_gt (Nat.two_pow_pos _))
    cases s <;> cases t <;> simp at sa sb ⊢
    · exact Int.mul_nonneg sa sb
    · exact Int.mul_neg_of_pos_of_neg (by omega) sb
    · exact Int.mul_neg_of_neg_of_pos sa (by omega)
    · exact Int.mul_nonneg_of_nonpos_of_nonpos (by omega) (by omega)
  · intro h0
    rcases Nat.mul_eq_zero.1 h0 with h | h
    · rw [h, Nat.zero_mul] at ex
      rcases Nat.mul_eq_zero.1 ex.symm with h2 | h2
      · rw [Int.natAbs_eq_zero.1 h2, Int.zero_mul]
      · exact absurd h2 (Nat.ne_of_gt (Nat.two_pow_pos _))
    · rw [h, Nat.zero_mul] at ey
      rcases Nat.mul_eq_zero.1 ey.symm with h2 | h2
      · rw [Int.natAbs_eq_zero.1 h2, Int.mul_zero]
      · exact absurd h2 (Nat.ne_of_gt (Nat.two_pow_pos _))
theorem compare_scale (a b c : Int) (hc : 0 < c) : compare (a * c) (b * c) = compare a b := by
  rcases Int.lt_trichotomy a b with h | h | h
  · rw [Int.compare_eq_lt.2 h, Int.compare_eq_lt.2 (Int.mul_lt_mul_of_pos_right h hc)]
  · rw [h]
    simp
  · rw [Int.compare_eq_gt.2 h, Int.compare_eq_gt.2 (Int.mul_lt_mul_of_pos_right h hc)]
theorem Fx.order {k x y : Nat} {a b : Int} (hx : Fx k x a) (hy : Fx k y b) : Ieee.single.order x y = some (compare a b) := by
  obtain ⟨s, m, i, hx1, -, hi0, hi1, hx2⟩ := hx
  obtain ⟨t, n, j, hy1, -, hj0, hj1, hy2⟩ := hy
  unfold Ieee.Format.order
  rw [hx1, hy1]
  simp only [Ieee.Datum.order]
  rw [signed_eq, signed_eq]
  generalize hb : min i j = base
  have hb0 : -149 ≤ base := by omega
  rw [← compare_scale (sg s m * ((2 ^ (i - base).toNat : Nat) : Int)) _ _ (two_pos (base + 149).toNat), ← compare_scale a b _ (two_pos (149 - k)), ← hx2, ← hy2]
  congr 1
  have e1 : (i - base).toNat + (base + 149).toNat = (i + 149).toNat := by omega
  have e2 : (j - base).toNat + (base + 149).toNat = (j + 149).toNat := by omega
  rw [Int.mul_assoc, ← Int.natCast_mul, ← Nat.pow_add, e1, Int.mul_assoc, ← Int.natCast_mul, ← Nat.pow_add, e2]
theorem Fx.notNan {k x : Nat} {a : Int} (h : Fx k x a) : (Ieee.single.read x).isNaN = false := by
  obtain ⟨s, m, e, h, -⟩ := h
  rw [h]; rfl
/-- A finer unit. -/
theorem Fx.fine {k l x : Nat} {a : Int} (h : Fx k x a) (hl : k + l ≤ 149) : Fx (k + l) x (a * ((2 ^ l : Nat) : Int)) := by
  obtain ⟨s, m, e, h1, h2, h3, h4, h5⟩ := h
  refine ⟨s, m, e, h1, h2, h3, h4, ?_⟩
  rw [h5, Int.mul_assoc, ← Int.natCast_mul, ← Nat.pow_add]
  congr 3
  omega
theorem Fx.ofInt (n : Int) (hn : n.natAbs < 16777216) : Fx 0 (Ieee.single.nearest (decide (n < 0)) n.natAbs 0) n := by
  refine fx_write 0 _ n.natAbs 0 n (by decide) hn (fun _ => by simp) (fun _ => by decide) (fun _ => by rfl) (fun h => by omega)
theorem Fx.lt32 {k x : Nat} {a : Int} (h : Fx k x a) (hx : x < 2 ^ 32) : Cls .f32 x := FV.self (by rw [width32]; exact hx) h.notNan
theorem Fx.fv {k r x : Nat} {a : Int} (h : FV .f32 r x) (hx : Fx k x a) : Fx k r a := by
  rw [h.eq_of_not hx.notNan]; exact hx
theorem Fx.fopAdd {k x y : Nat} {a b : Int} (hx : Fx k x a) (hy : Fx k y b) (hk : k ≤ 140) (h : (a + b).natAbs < 16777216) : Fx k (fop .add .f32 x y) (a + b) := by
  obtain ⟨r, h1, h2⟩ := Fx.add hx hy hk h
  have e : floatBits .add .f32 x y = some r := h1
  unfold fop
  rw [e]; exact h2
theorem Fx.fopMul {k l x y : Nat} {a b : Int} (hx : Fx k x a) (hy : Fx l y b) (hk : k + l ≤ 100) (h : (a * b).natAbs < 16777216) : Fx (k + l) (fop .mul .f32 x y) (a * b) := by
  obtain ⟨r, h1, h2⟩ := Fx.mul hx hy hk h
  have e : floatBits .mul .f32 x y = some r := h1
  unfold fop
  rw [e]; exact h2
/-- A closed number. -/
def fxB (k r : Nat) (n : Int) : Bool := match Ieee.single.read r with
  | .number s m e => decide (m < 16777216) && (decide (-149 ≤ e) && (decide (e ≤ 104) && decide (sg s m * ((2 ^ (e + 149).toNat : Nat) : Int) = n * ((2 ^ (149 - k) : Nat) : Int))))
  | _ => false
theorem Fx.of {k r : Nat} {n : Int} (h : fxB k r n = true) : Fx k r n := by
  unfold fxB at h
  split at h
  · rename_i s m e hr
    simp only [Bool.and_eq_true, decide_eq_true_eq] at h
    exact ⟨s, m, e, hr, h.1, h.2.1, h.2.2.1, h.2.2.2⟩
  · cases h
theorem Fx.zero (k : Nat) : Fx k 0 0 := by
  refine ⟨false, 0, -149, by decide +kernel, by decide, by decide, by decide, by simp [sg]⟩
end Go.Proofs.Ythacadbdncfocaa
