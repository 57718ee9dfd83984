/- Values of float32s in units of the least place; sums and products of doubled numbers are doubled. -/
import Derived.Test.YtjhbcnmkamkkaaaRnd
import Derived.Test.YtjhbcnmkamkkaaaFix
namespace Go.Proofs.Ytjhbcnmkamkkaaa
open Go Ieee

/-- r stands for v units of 2^-149. -/
def Val (r : Nat) (v : Int) : Prop := ∃ s m e, single.read r = .number s m e ∧ -149 ≤ e ∧ sg s m * ((2 ^ (e + 149).toNat : Nat) : Int) = v
theorem Val.uniq {r : Nat} {v v' : Int} (h : Val r v) (h' : Val r v') : v = v' := by
  obtain ⟨s, m, e, h1, -, h2⟩ := h
  obtain ⟨s', m', e', h1', -, h2'⟩ := h'
  rw [h1] at h1'
  cases h1'
  rw [← h2, h2']
theorem Val.notNan {r : Nat} {v : Int} (h : Val r v) : isN .f32 r = false := by
  obtain ⟨s, m, e, h1, -⟩ := h
  show (single.read r).isNaN = false
  rw [h1]; rfl
theorem Fx.val {k r : Nat} {n : Int} (h : Fx k r n) : Val r (n * ((2 ^ (149 - k) : Nat) : Int)) := by
  obtain ⟨s, m, e, h1, -, h2, -, h3⟩ := h
  exact ⟨s, m, e, h1, h2, h3⟩
theorem nearest_same (neg : Bool) (T T' : Nat) (p p' K : Int) (hT : T ≠ 0) (h0 : 0 ≤ p + K) (h1 : 0 ≤ p' + K) (h : T * 2 ^ (p + K).toNat = T' * 2 ^ (p' + K).toNat) : single.nearest neg T p = single.nearest neg T' p' := by
  have hT' : T' ≠ 0 := by
    intro e
    rw [e, Nat.zero_mul] at h
    rcases Nat.mul_eq_zero.1 h with h | h
    · exact hT h
    · exact absurd h (Nat.ne_of_gt (Nat.two_pow_pos _))
  by_cases hle : p ≤ p'
  · obtain ⟨j, hj⟩ : ∃ j : Nat, p' = p + j := ⟨(p' - p).toNat, by omega⟩
    have e : T = T' * 2 ^ j := by
      have : T * 2 ^ (p + K).toNat = T' * 2 ^ j * 2 ^ (p + K).toNat := by
        rw [h, Nat.mul_assoc, ← Nat.pow_add]; congr 2; omega
      exact Nat.eq_of_mul_eq_mul_right (Nat.two_pow_pos _) this
    rw [e, nearest_scale single neg T' j p hT', hj]
  · obtain ⟨j, hj⟩ : ∃ j : Nat, p = p' + j := ⟨(p - p').toNat, by omega⟩
    have e : T' = T * 2 ^ j := by
      have : T' * 2 ^ (p' + K).toNat = T * 2 ^ j * 2 ^ (p' + K).toNat := by
        rw [← h, Nat.mul_assoc, ← Nat.pow_add]; congr 2; omega
      exact Nat.eq_of_mul_eq_mul_right (Nat.two_pow_pos _) this
    rw [e, nearest_scale single neg T j p' hT, hj]
/-- The nearest of a number in the middle: its value, and that it is a multiple of its last place. -/
theorem nearest_mid (neg : Bool) (T : Nat) (p : Int) (hT : T ≠ 0) (hlo : -126 ≤ p + T.log2) (hhi : p + T.log2 ≤ 120) :
    Val (single.nearest neg T p) (sg neg (keptP single neg T p * 2 ^ (p + T.log2 + 126).toNat)) := by
  have hl : lastP single T p = p + T.log2 - 23 := by unfold lastP; rw [fx_fb, fx_lp]; omega
  obtain ⟨k1, k2⟩ := kept_bounds single neg T p hT
  rw [fx_bi] at k1
  have ho : (lastP single T p - single.leastPlace).toNat * single.binade + keptP single neg T p < single.infRung := by
    rw [hl, fx_lp, fx_bi, fx_ir]
    have : (p + (T.log2 : Int) - 23 - -149).toNat ≤ 246 := by omega
    have h2 : (p + (T.log2 : Int) - 23 - -149).toNat * 8388608 ≤ 246 * 8388608 := Nat.mul_le_mul_right _ this
    omega
  obtain ⟨m, e, h1, h2, h3⟩ := nearest_val single neg T p hT ho
  rw [fx_lp] at h2 h3
  rw [hl] at h3
  refine ⟨neg, m, e, h1, h2, ?_⟩
  rw [show (e - -149) = e + 149 by omega, show (p + (T.log2 : Int) - 23 - -149) = p + T.log2 + 126 by omega] at h3
  rw [← h3]
  unfold sg
  cases neg <;> simp [Int.neg_mul]
theorem sg_mul (s : Bool) (m q : Nat) : sg s (m * q) = sg s m * (q : Int) := by unfold sg; cases s <;> simp [Int.neg_mul]
theorem nearest_dbl (neg : Bool) (T T' : Nat) (p p' K : Int) (hT : T ≠ 0) (h0 : 0 ≤ p + K) (h1 : 0 ≤ p' + K) (h : T' * 2 ^ (p' + K).toNat = 2 * (T * 2 ^ (p + K).toNat)) (hlo : -126 ≤ p + T.log2) (hhi : p + T.log2 ≤ 119) :
    ∃ v, Val (single.nearest neg T p) v ∧ Val (single.nearest neg T' p') (2 * v) ∧ (∃ q : Int, v = q * ((2 ^ (p + T.log2 + 126).toNat : Nat) : Int)) ∧ 8388608 * 2 ^ (p + T.log2 + 126).toNat ≤ v.natAbs ∧ v.natAbs ≤ 16777216 * 2 ^ (p + T.log2 + 126).toNat := by
  obtain ⟨kb1, kb2⟩ := kept_bounds single neg T p hT
  rw [fx_bi] at kb1 kb2
  rw [fx_lp, fx_fb] at kb2
  replace kb2 := kb2 (by omega)
  refine ⟨_, nearest_mid neg T p hT hlo (by omega), ?_, ⟨sg neg (keptP single neg T p), sg_mul _ _ _⟩, by rw [sg_abs]; exact Nat.mul_le_mul_right _ kb2, by rw [sg_abs]; exact Nat.mul_le_mul_right _ kb1⟩
  have e : single.nearest neg T' p' = single.nearest neg T (p + 1) := by
    refine (nearest_same neg T T' (p + 1) p' K hT (by omega) h1 ?_).symm
    rw [h, show (p + 1 + K).toNat = (p + K).toNat + 1 by omega, Nat.pow_succ, Nat.mul_comm _ 2, ← Nat.mul_assoc, Nat.mul_comm T 2, Nat.mul_assoc]
  rw [e]
  have hm := nearest_mid neg T (p + 1) hT (by omega) (by omega)
  have hk : keptP single neg T (p + 1) = keptP single neg T p := by
    have hl : lastP single T p = p + T.log2 - 23 := by unfold lastP; rw [fx_fb, fx_lp]; omega
    have hl' : lastP single T (p + 1) = p + 1 + T.log2 - 23 := by unfold lastP; rw [fx_fb, fx_lp]; omega
    unfold keptP
    rw [hl, hl']
    congr 2 <;> omega
  rw [hk, show (p + 1 + (T.log2 : Int) + 126).toNat = (p + T.log2 + 126).toNat + 1 by omega] at hm
  have : (2 : Int) * sg neg (keptP single neg T p * 2 ^ (p + T.log2 + 126).toNat) = sg neg (keptP single neg T p * 2 ^ ((p + T.log2 + 126).toNat + 1)) := by
    rw [Nat.pow_succ, ← Nat.mul_assoc, sg_mul _ _ 2]
    omega
  rw [this]
  exact hm
theorem val_zero (neg : Bool) (p : Int) : Val (single.nearest neg 0 p) 0 := by
  refine ⟨neg, 0, -149, ?_, by decide, by unfold sg; cases neg <;> simp⟩
  unfold Format.nearest
  rw [if_pos rfl]
  cases neg <;> decide +kernel
theorem log2_of (T : Nat) (p : Int) (hT : T ≠ 0) (K : Nat) (a b : Nat) (h0 : 0 ≤ p + K) (h1 : 2 ^ a ≤ T * 2 ^ (p + K).toNat) (h2 : T * 2 ^ (p + K).toNat < 2 ^ b) : (a : Int) - K ≤ p + T.log2 ∧ p + T.log2 < (b : Int) - K := by
  have hz : T * 2 ^ (p + K).toNat ≠ 0 := Nat.mul_ne_zero hT (Nat.ne_of_gt (Nat.two_pow_pos _))
  have e := log2_scale T (p + K).toNat hT
  have g1 : a ≤ (T * 2 ^ (p + K).toNat).log2 := (Nat.le_log2 hz).2 h1
  have g2 : (T * 2 ^ (p + K).toNat).log2 < b := (Nat.log2_lt hz).2 h2
  rw [e] at g1 g2
  omega
theorem natAbs_sg (s : Bool) (m : Nat) (q : Nat) : (sg s m * (q : Int)).natAbs = m * q := by rw [Int.natAbs_mul, sg_abs]; rfl
/-- A number by two numbers of which one is twice the other. -/
theorem dbl_mul {x d d2 : Nat} {f a : Int} (hx : Val x f) (hd : Val d a) (hd2 : Val d2 (2 * a)) (hz : f * a = 0 ∨ 2 ^ 172 ≤ (f * a).natAbs) (b : Nat) (hb4 : b ≤ 410) (hb : (f * a).natAbs < 2 ^ b) :
    ∃ v, Val (fop .mul .f32 x d) v ∧ Val (fop .mul .f32 x d2) (2 * v) ∧ (∀ c, 298 ≤ c + 298 → 2 ^ (c + 172) ≤ (f * a).natAbs → ∃ q : Int, v = q * ((2 ^ c : Nat) : Int)) ∧ (f * a = 0 → v = 0) ∧ (173 ≤ b → v.natAbs ≤ 2 ^ (b - 149)) := by
  obtain ⟨s, m, i, x1, x2, x3⟩ := hx
  obtain ⟨t, n, j, d1, d2', d3⟩ := hd
  obtain ⟨t', n', j', e1, e2, e3⟩ := hd2
  have ex : fop .mul .f32 x d = single.nearest (s ^^ t) (m * n) (i + j) := by
    show (single.mul x d).getD _ = _
    unfold Format.mul
    rw [x1, d1]; rfl
  have ey : fop .mul .f32 x d2 = single.nearest (s ^^ t') (m * n') (i + j') := by
    show (single.mul x d2).getD _ = _
    unfold Format.mul
    rw [x1, e1]; rfl
  have hm : m * 2 ^ (i + 149).toNat = f.natAbs := by rw [← x3, natAbs_sg]
  have hn : n * 2 ^ (j + 149).toNat = a.natAbs := by rw [← d3, natAbs_sg]
  have hn' : n' * 2 ^ (j' + 149).toNat = 2 * a.natAbs := by
    have : (2 * a).natAbs = 2 * a.natAbs := by omega
    rw [← this, ← e3, natAbs_sg]
  have hfa : m * n * 2 ^ (i + j + 298).toNat = (f * a).natAbs := by
    rw [Int.natAbs_mul, ← hm, ← hn, show (i + j + 298).toNat = (i + 149).toNat + (j + 149).toNat by omega, Nat.pow_add]
    rw [Nat.mul_mul_mul_comm]
  by_cases h0 : m * n = 0
  · have hfa0 : f * a = 0 := by rw [h0, Nat.zero_mul] at hfa; omega
    have h0' : m * n' = 0 := by
      rcases Nat.mul_eq_zero.1 h0 with h | h
      · rw [h, Nat.zero_mul]
      · rw [h, Nat.zero_mul] at hn
        rw [← hn] at hn'
        rcases Nat.mul_eq_zero.1 hn' with h | h
        · rw [h, Nat.mul_zero]
        · exact absurd h (Nat.ne_of_gt (Nat.two_pow_pos _))
    rw [ex, ey, h0, h0']
    refine ⟨0, val_zero _ _, val_zero _ _, fun c _ hc => ?_, fun _ => rfl, fun _ => Nat.zero_le _⟩
    rw [hfa0] at hc
    have := Nat.two_pow_pos (c + 172)
    simp at hc
  · have hm0 : m ≠ 0 := fun e => h0 (by rw [e, Nat.zero_mul])
    have hn0 : n ≠ 0 := fun e => h0 (by rw [e, Nat.mul_zero])
    have ha0 : a ≠ 0 := by
      intro e
      rw [e] at hn
      have := Nat.mul_eq_zero.1 hn
      rcases this with h | h
      · exact hn0 h
      · exact absurd h (Nat.ne_of_gt (Nat.two_pow_pos _))
    have hst : t = t' := by
      have p1 : sg t n < 0 ↔ a < 0 := by
        rw [← d3]
        constructor
        · intro h; exact Int.mul_neg_of_neg_of_pos h (two_pos _)
        · intro h
          by_cases h2 : sg t n < 0
          · exact h2
          · have := Int.mul_nonneg (Int.not_lt.1 h2) (Int.le_of_lt (two_pos (j + 149).toNat)); omega
      have hn0' : n' ≠ 0 := fun e => by rw [e, Nat.zero_mul] at hn'; omega
      have p2 : sg t' n' < 0 ↔ 2 * a < 0 := by
        rw [← e3]
        constructor
        · intro h; exact Int.mul_neg_of_neg_of_pos h (two_pos _)
        · intro h
          by_cases h2 : sg t' n' < 0
          · exact h2
          · have := Int.mul_nonneg (Int.not_lt.1 h2) (Int.le_of_lt (two_pos (j' + 149).toNat)); omega
      rw [sg_neg _ _ hn0] at p1
      rw [sg_neg _ _ hn0'] at p2
      have p3 : (2 * a < 0) ↔ a < 0 := by omega
      rw [p3] at p2
      cases t <;> cases t' <;> first | rfl | (exfalso; simp at p1 p2; omega)
    subst hst
    have hfa0 : f * a ≠ 0 := fun e => by
      rw [e] at hfa
      rcases Nat.mul_eq_zero.1 hfa with h | h
      · exact h0 h
      · exact absurd h (Nat.ne_of_gt (Nat.two_pow_pos _))
    have hbig := hz.resolve_left hfa0
    rw [← hfa] at hbig hb
    have hl := log2_of (m * n) (i + j) h0 298 172 b (by omega) hbig hb
    obtain ⟨v, v1, v2, ⟨q, hq⟩, -, vb⟩ := nearest_dbl (s ^^ t) (m * n) (m * n') (i + j) (i + j') (149 - i) h0 (by omega) (by omega) (by
      rw [show (i + j' + (149 - i)).toNat = (j' + 149).toNat by omega, show (i + j + (149 - i)).toNat = (j + 149).toNat by omega, Nat.mul_assoc, hn', Nat.mul_assoc m n, hn, Nat.mul_left_comm]) (by omega) (by omega)
    rw [ex, ey]
    refine ⟨v, v1, v2, fun c _ hc => ?_, fun h => absurd h hfa0, fun h173 => ?_⟩
    rotate_left
    · refine Nat.le_trans vb ?_
      rw [show (16777216 : Nat) = 2 ^ 24 by decide, ← Nat.pow_add]
      exact Nat.pow_le_pow_right (by decide) (by omega)
    rw [← hfa] at hc
    have hl2 := log2_of (m * n) (i + j) h0 298 (c + 172) b (by omega) hc hb
    obtain ⟨r, hr⟩ : ∃ r : Nat, (i + j + ((m * n).log2 : Int) + 126).toNat = c + r := ⟨(i + j + ((m * n).log2 : Int) + 126).toNat - c, by omega⟩
    refine ⟨q * ((2 ^ r : Nat) : Int), ?_⟩
    rw [hq, hr, Nat.pow_add, Int.natCast_mul, Int.mul_assoc, Int.mul_comm ((2 ^ r : Nat) : Int)]
theorem add_repr {x m : Nat} {a b : Int} (hx : Val x a) (hm : Val m b) : ∃ neg T p, fop .add .f32 x m = single.nearest neg T p ∧ -149 ≤ p ∧ T * 2 ^ (p + 149).toNat = (a + b).natAbs ∧ (T ≠ 0 → (neg = true ↔ a + b < 0)) := by
  obtain ⟨s, n, i, x1, x2, x3⟩ := hx
  obtain ⟨t, k, j, m1, m2, m3⟩ := hm
  have e : fop .add .f32 x m = single.nearest (if signed s n (i - min i j).toNat + signed t k (j - min i j).toNat = 0 then s && t else decide (signed s n (i - min i j).toNat + signed t k (j - min i j).toNat < 0)) (signed s n (i - min i j).toNat + signed t k (j - min i j).toNat).natAbs (min i j) := by
    show (single.add x m).getD _ = _
    unfold Format.add
    rw [x1, m1]; rfl
  rw [signed_eq, signed_eq] at e
  have hT : (sg s n * ((2 ^ (i - min i j).toNat : Nat) : Int) + sg t k * ((2 ^ (j - min i j).toNat : Nat) : Int)) * ((2 ^ (min i j + 149).toNat : Nat) : Int) = a + b := by
    rw [Int.add_mul, ← x3, ← m3, Int.mul_assoc, Int.mul_assoc, ← Int.natCast_mul, ← Int.natCast_mul, ← Nat.pow_add, ← Nat.pow_add]
    have e1 : (i - min i j).toNat + (min i j + 149).toNat = (i + 149).toNat := by omega
    have e2 : (j - min i j).toNat + (min i j + 149).toNat = (j + 149).toNat := by omega
    rw [e1, e2]
  generalize sg s n * ((2 ^ (i - min i j).toNat : Nat) : Int) + sg t k * ((2 ^ (j - min i j).toNat : Nat) : Int) = S at *
  refine ⟨_, _, _, e, by omega, by rw [← abs_mul, hT], fun h => ?_⟩
  have hS : S ≠ 0 := by omega
  rw [if_neg hS, decide_eq_true_eq, ← hT]
  constructor
  · intro h; exact Int.mul_neg_of_neg_of_pos h (two_pos _)
  · intro h
    by_cases h2 : S < 0
    · exact h2
    · have := Int.mul_nonneg (Int.not_lt.1 h2) (Int.le_of_lt (two_pos (min i j + 149).toNat)); omega
theorem dbl_add {x m x2 m2 : Nat} {a b : Int} (hx : Val x a) (hm : Val m b) (hx2 : Val x2 (2 * a)) (hm2 : Val m2 (2 * b)) (hz : a + b = 0 ∨ 2 ^ 23 ≤ (a + b).natAbs) (bd : Nat) (hb4 : bd ≤ 260) (hb : (a + b).natAbs < 2 ^ bd) : ∃ v, Val (fop .add .f32 x m) v ∧ Val (fop .add .f32 x2 m2) (2 * v) ∧ (v = 0 ∨ 2 ^ 23 ≤ v.natAbs) ∧ v.natAbs ≤ 2 ^ bd := by
  obtain ⟨neg, T, p, e1, p1, t1, s1⟩ := add_repr hx hm
  obtain ⟨neg', T', p', e2, p2, t2, s2⟩ := add_repr hx2 hm2
  have e3 : (2 * a + 2 * b).natAbs = 2 * (a + b).natAbs := by omega
  rw [e3] at t2
  rw [e1, e2]
  by_cases h0 : T = 0
  · have h0' : T' = 0 := by
      rw [h0, Nat.zero_mul] at t1
      rw [← t1, Nat.mul_zero] at t2
      rcases Nat.mul_eq_zero.1 t2 with h | h
      · exact h
      · exact absurd h (Nat.ne_of_gt (Nat.two_pow_pos _))
    rw [h0, h0']
    exact ⟨0, val_zero _ _, val_zero _ _, .inl rfl, Nat.zero_le _⟩
  · have hab : (a + b).natAbs ≠ 0 := by rw [← t1]; exact Nat.mul_ne_zero h0 (Nat.ne_of_gt (Nat.two_pow_pos _))
    have h0' : T' ≠ 0 := fun h => by rw [h, Nat.zero_mul] at t2; omega
    have hs : neg = neg' := by
      have q1 := s1 h0
      have q2 := s2 h0'
      have q3 : 2 * a + 2 * b < 0 ↔ a + b < 0 := by omega
      rw [q3, ← q1] at q2
      cases neg <;> cases neg' <;> simp_all
    subst hs
    have hbig := hz.resolve_left (by omega)
    rw [← t1] at hbig hb
    have hl := log2_of T p h0 149 23 bd (by omega) hbig hb
    obtain ⟨v, v1, v2, -, vl, vh⟩ := nearest_dbl neg T T' p p' 149 h0 (by omega) (by omega) (by rw [t2, t1]) (by omega) (by omega)
    refine ⟨v, v1, v2, .inr (Nat.le_trans ?_ vl), Nat.le_trans vh ?_⟩
    · have := Nat.two_pow_pos (p + (T.log2 : Int) + 126).toNat
      rw [show (2 ^ 23 : Nat) = 8388608 by decide]
      omega
    · rw [show (16777216 : Nat) = 2 ^ 24 by decide, ← Nat.pow_add]
      exact Nat.pow_le_pow_right (by decide) (by omega)
theorem val_bits {r : Nat} {v : Int} (h : Val r v) : ∃ s m e, single.read r = .number s m e ∧ -149 ≤ e ∧ m < 16777216 ∧ m * 2 ^ (e + 149).toNat = v.natAbs ∧ sg s m * ((2 ^ (e + 149).toNat : Nat) : Int) = v := by
  obtain ⟨s, m, e, h1, h2, h3⟩ := h
  exact ⟨s, m, e, h1, h2, (read_bounds32 r h1).1, by rw [← h3, natAbs_sg], h3⟩
/-- Twice a number. -/
theorem dbl_two {r : Nat} {v : Int} (h : Val r v) (hz : v = 0 ∨ 2 ^ 23 ≤ v.natAbs) (bd : Nat) (hb4 : bd ≤ 240) (hb : v.natAbs < 2 ^ bd) : Val (fop .mul .f32 1073741824 r) (2 * v) := by
  obtain ⟨s, m, e, h1, h2, h3, h4, h5⟩ := val_bits h
  have ex : fop .mul .f32 1073741824 r = single.nearest (false ^^ s) (8388608 * m) (-22 + e) := by
    show (single.mul 1073741824 r).getD _ = _
    unfold Format.mul
    rw [h1, show single.read 1073741824 = .number false 8388608 (-22) by decide +kernel]; rfl
  rw [ex, Bool.false_xor]
  by_cases h0 : m = 0
  · subst h0
    rw [Nat.mul_zero]
    have : v = 0 := by rw [Nat.zero_mul] at h4; omega
    rw [this]
    exact val_zero _ _
  · have hv : v.natAbs ≠ 0 := by rw [← h4]; exact Nat.mul_ne_zero h0 (Nat.ne_of_gt (Nat.two_pow_pos _))
    have hbig := hz.resolve_left (by omega)
    rw [← h4] at hbig hb
    have hl := log2_of m e h0 149 23 bd (by omega) hbig hb
    obtain ⟨u, u1, u2, -, -, -⟩ := nearest_dbl s m (8388608 * m) e (-22 + e) 200 h0 (by omega) (by omega) (by
      rw [show (e + 200).toNat = (-22 + e + 200).toNat + 22 by omega, Nat.pow_add]
      generalize 2 ^ (-22 + e + 200).toNat = y
      rw [Nat.mul_assoc, show (2 ^ 22 : Nat) = 4194304 by decide, ← Nat.mul_assoc m y]
      generalize m * y = z
      omega) (by omega) (by omega)
    obtain ⟨m', p', r1, r2, -, r4⟩ := read_nearest s m e h3 h2 (by
      have : (m.log2 : Int) ≥ 0 := by omega
      omega)
    have hu : u = v := u1.uniq ⟨s, m', p', r1, r2, by rw [← h5]; have e4 := congrArg (Nat.cast (R := Int)) r4; push_cast at e4 ⊢; unfold sg; cases s <;> simp [Int.neg_mul] <;> omega⟩
    rw [← hu]
    exact u2
end Go.Proofs.Ytjhbcnmkamkkaaa
